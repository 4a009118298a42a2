/-
  Contracts of seal.Whole and warrenref02.Whole.
-/
import Derived.Test.YtlfdpkgggoafaaaDoorWholeP
namespace Go.Proofs.YtlfdpkgggoafaaaDoor
open Go.RowKit

theorem infoB8 : (Tryd.prog.info? 22).map (fun i => (i.zero, i.size, i.bytes)) = some (some (.slice none 0 0), 1, 24) := by kernel_rfl

/-- Slices of octets, each owned, no two in one block. -/
def Elems (w : World) (F : Nat → Prop) (vs : List Value) (ls : List (List UInt8)) : Prop :=
  vs.length = ls.length ∧ (∀ (i : Nat) (v : Value) (l : List UInt8), vs[i]? = some v → ls[i]? = some l → OB w F v l) ∧
    ∀ (i j : Nat) (v u : Value) (k : Nat), i ≠ j → vs[i]? = some v → vs[j]? = some u → ownS v k → ownS u k → False

theorem Elems.nil (w : World) (F : Nat → Prop) : Elems w F [] [] := ⟨rfl, fun i v l h => by simp at h, fun i j v u k _ h => by simp at h⟩
theorem Elems.keep {w w' : World} {F S : Nat → Prop} {vs : List Value} {ls : List (List UInt8)} (h : Elems w F vs ls) (hk : Kept S w w')
    (hd : ∀ (i : Nat) (v : Value) (l : List UInt8), vs[i]? = some v → ls[i]? = some l → OB w F v l → ∀ k, ownS v k → S k → False) : Elems w' F vs ls :=
  ⟨h.1, fun i v l hv hl => Own.keep0 (h.2.1 i v l hv hl) hk fun k _ ho hs => hd i v l hv hl (h.2.1 i v l hv hl) k ho hs, h.2.2⟩
theorem Elems.still {w w' : World} {F : Nat → Prop} {vs : List Value} {ls : List (List UInt8)} (h : Elems w F vs ls) (hk : Kept noneS w w') : Elems w' F vs ls :=
  h.keep hk fun _ _ _ _ _ _ _ _ q => q
theorem Elems.mono {w : World} {F G : Nat → Prop} {vs : List Value} {ls : List (List UInt8)} (h : Elems w F vs ls) (hF : ∀ k, k < w.heap.size → F k → G k) : Elems w G vs ls :=
  ⟨h.1, fun i v l hv hl => Own.mono (h.2.1 i v l hv hl) hF, h.2.2⟩
theorem Own.blk_of {w : World} {e : TypeId} {size n : Nat} {F : Nat → Prop} {v : Value} {xs : List Value} (h : Own w e size F v n xs) {k : Nat} (hk : ownS v k) : ∃ cur, Blk w k e cur := by
  rcases h.1.2 with ⟨rfl, _⟩ | ⟨g, cap, cur, rfl, _, hh, _⟩
  · simp [ownS, Value.ownBlock] at hk
  · have : g = k := by simpa [ownS, Value.ownBlock] using hk
    subst this
    exact ⟨cur, hh⟩
theorem Own.apart {w : World} {e e' : TypeId} {size n size' n' : Nat} {F F' : Nat → Prop} {v v' : Value} {xs xs' : List Value} (h : Own w e size F v n xs) (h' : Own w e' size' F' v' n' xs') (hne : e ≠ e') {k : Nat} (h1 : ownS v k) (h2 : ownS v' k) : False := by
  obtain ⟨cur, hb⟩ := h.blk_of h1
  obtain ⟨cur', hb'⟩ := h'.blk_of h2
  exact hb.ne_ hb' hne rfl
/-- One more, in a block that no elder one has. -/
theorem Elems.snoc {w : World} {F : Nat → Prop} {vs : List Value} {ls : List (List UInt8)} {v : Value} {l : List UInt8} {B : Nat} (h : Elems w F vs ls) (hv : OB w F v l)
    (hold : ∀ (i : Nat) (u : Value) (k : Nat), vs[i]? = some u → ownS u k → k < B) (hnew : ∀ k, ownS v k → B ≤ k) : Elems w F (vs ++ [v]) (ls ++ [l]) := by
  refine ⟨by simp [h.1], fun i u m hu hm => ?_, fun i j u u' k hij hu hu' h1 h2 => ?_⟩
  · rcases Nat.lt_trichotomy i vs.length with hi | hi | hi
    · rw [List.getElem?_append_left hi] at hu
      rw [List.getElem?_append_left (by rw [← h.1]; exact hi)] at hm
      exact h.2.1 i u m hu hm
    · subst hi
      simp at hu
      rw [h.1] at hm
      simp at hm
      subst hu hm
      exact hv
    · rw [List.getElem?_eq_none (by simp; omega)] at hu
      cases hu
  · have pick : ∀ (i : Nat) (u : Value), (vs ++ [v])[i]? = some u → (i < vs.length ∧ vs[i]? = some u) ∨ (i = vs.length ∧ u = v) := by
      intro i u hu
      rcases Nat.lt_trichotomy i vs.length with hi | hi | hi
      · rw [List.getElem?_append_left hi] at hu
        exact .inl ⟨hi, hu⟩
      · subst hi
        simp at hu
        exact .inr ⟨rfl, hu.symm⟩
      · rw [List.getElem?_eq_none (by simp; omega)] at hu
        cases hu
    rcases pick i u hu with ⟨_, a⟩ | ⟨a1, rfl⟩ <;> rcases pick j u' hu' with ⟨_, b⟩ | ⟨b1, rfl⟩
    · exact h.2.2 i j u u' k hij a b h1 h2
    · have := hold i u k a h1
      have := hnew k h2
      omega
    · have := hold j u' k b h2
      have := hnew k h1
      omega
    · omega

def WholePost (w : World) (r : List (List UInt8) × Nat) (e : Ending) (w' : World) : Prop :=
  ∃ A c vs, e = .returned (.tuple #[.slice A vs.length c, .int .i64 (r.2 : Int)]) ∧ Own w' 22 1 (w.heap.size ≤ ·) (.slice A vs.length c) vs.length vs ∧ Elems w' (w.heap.size ≤ ·) vs r.1 ∧ Kept noneS w w'

section
variable {w : World} {ops : Array Oper} {rest : List Oper} {o : Oper} {a : Act} {Q : Exit → Act → World → Prop} {K : Act → World → Prop} {E : Prop}
/-- append of one slice of octets to a slice of such. -/
theorem wpList_appS (hgd : o.guard = none) (s x : Operand) (ho : o.op = .call { callee := .builtin .append, args := #[s, x], argTypes := #[39, 39] })
    (F : Nat → Prop) (v : Value) (vs : List Value) (hs : a.eval s = v) (hown : Own w 22 1 F v vs.length vs) (g : Nat) (u : Value) (hu : u.oneCell' = true) (hx : a.eval x = .slice (some ⟨g, 0, none⟩) 1 1) (hc : w.cell? ⟨g, 0, none⟩ = some u)
    (hl : vs.length + 1 ≤ 1099511627776) (hF : F w.heap.size)
    (h : ∀ A' c' w', Own w' 22 1 F (.slice A' (vs.length + 1) c') (vs.length + 1) (vs ++ [u]) → Kept (ownS v) w w' → wpList Tryd.prog ops Q rest (a.put o.dst (.slice A' (vs.length + 1) c')) w') : wpList Tryd.prog ops Q (o :: rest) a w := by
  obtain ⟨i0, hi, hz0, hz1, hz2⟩ := info_parts infoB8
  refine wpList_append_Own w hgd s x 39 ho 22 i0 (.slice none 0 0) 1 24 Tryd.underlying39 hi hz0 hz1 hz2 rfl (by decide) F (fun _ => True) v vs.length vs hs hown (some ⟨g, 0, none⟩) 1 1 [u] hx rfl ?_ (by simpa using hu) (by unfold maxLen; omega) (by omega) ?_
  · refine .inr ⟨g, 0, rfl, trivial, fun j u' hj => ?_⟩
    match j, hj with
    | 0, hj =>
      simp at hj
      subst hj
      simpa using hc
  · intro v' w' h1 h2
    have h3 := h1.mono (G := F) (fun k _ q => q.elim id fun q => q ▸ hF)
    obtain ⟨A', c', rfl, _⟩ := Own.form h3
    exact h A' c' w' h3 h2
end

set_option maxHeartbeats 800000 in
theorem whole_any (A : Option Addr) (c : Nat) (b : List UInt8) (F : Nat → Prop) (w : World) (hr : RB w F A b) (hb : b.length ≤ 16777216) (hc : b.length ≤ c) (hc2 : c ≤ 9223372036854775807) (ht : Tab w) :
    Calls Tryd.prog 18 #[.slice A b.length c] w (WholePost w (wholeP b)) := by
  have HR := Lib.hid (hr.mono (G := (· < w.heap.size)) fun _ h _ => h)
  have HT := Lib.hid ht
  clear hr ht
  go_enter Tryd.func18, Tryd.ntmps18
  go_wp2
  go_loopw [2, 3] (fun v e wr => ∃ (at_ k : Nat) (vs : List Value) (acc : List (List UInt8)), e = .int .i64 at_ ∧ Own wr 22 1 (w.heap.size ≤ ·) v vs.length vs ∧ Elems wr (w.heap.size ≤ ·) vs acc ∧ WholeAt b acc at_ k ∧ Kept noneS w wr) (fun _ e _ => b.length - (intOf e).toNat)
  case atStart => exact ⟨0, b.length + 1, [], [], rfl, Own.nil _ _ _ _, Elems.nil _ _, WholeAt.start b, Kept.refl _ _⟩
  case round =>
    obtain ⟨at_, k, vs, acc, rfl, hown, hel, hwa, hkept⟩ := hrel
    obtain ⟨A1, c1, rfl, _⟩ := Own.form hown
    have hat := hwa.2.2.1
    have hacc := hwa.2.2.2
    have hvl : vs.length = acc.length := hel.1
    have HVL := Lib.hid hvl
    have HO := Lib.hid hown
    have HE := Lib.hid hel
    have HW := Lib.hid hwa
    have HK := Lib.hid hkept
    have HX := Lib.hid ((HR.out.still hkept).cut (k := at_) hc)
    have HXl : Hid ((b.drop at_).length = b.length - at_) := Lib.hid (by simp)
    have T1 := Lib.hid (HT.out.keep hkept (fun q => q))
    clear hown hel hwa hkept hvl
    have hsl := fun W => run_slice_from (P := Tryd.prog) W 22 5 Tryd.underlying22 infoU8 A b.length c at_ hat hc
    generalize (if c = at_ then A else A.map (·.add at_)) = X at HX hsl
    generalize hU : unwrapP (b.drop at_) = r
    have HU := Lib.hid hU
    clear hU
    go_wp2_with fail
    refine (unwrap' X (c - at_) (b.length - at_) (b.drop at_) _ wr HX.out HXl.out (by omega) (by omega) T1.out).mono ?_
    rintro e w2 ⟨A2, c2, rfl, h2, k2⟩
    rw [HU.out] at h2 ⊢
    obtain ⟨d, n, x⟩ := r
    have H2 := Lib.hid h2
    have K2 := Lib.hid k2
    clear h2 k2
    by_cases hx : x = 0
    · subst hx
      obtain ⟨k', rfl, hst⟩ := HW.out.step (by rw [HU.out])
      have hok := unwrapP_ok (b := b.drop at_) (by rw [HU.out])
      rw [HU.out] at hok hst
      obtain ⟨hn8, hnl, _⟩ := hok
      rw [HXl.out] at hnl
      have HS := Lib.hid hst
      clear hst
      dsimp only at hn8 hnl
      go_wp2_with (at_builtin; refine wpList_appS rfl (.tmp 19) (.tmp 21) rfl (w.heap.size ≤ ·) (.slice A1 vs.length c1) vs rfl (Own.alloc (Own.keep0 HO.out K2.out (fun _ _ _ q => q.elim)) _) w2.heap.size (.slice A2 d.length c2) rfl rfl (by simp) (by rw [HVL.out]; omega) (by have := HK.out.size; have := K2.out.size; simp; omega) ?_; intro A3 c3 w3 hown hk; have HO3 := Lib.hid hown; have HK3 := Lib.hid hk; clear hown hk)
      have E2 := Lib.hid ((HE.out.still K2.out).still ((Kept.refl noneS w2).alloc (.cells #[.slice A2 d.length c2] 22)))
      have O2 := Lib.hid (Own.alloc (Own.keep0 HO.out K2.out (fun _ _ _ q => q.elim)) (.cells #[.slice A2 d.length c2] 22))
      go_roundw
      case rel =>
        refine ⟨at_ + n, k', vs ++ [.slice A2 d.length c2], acc ++ [d], by go_num, by rw [List.length_append]; exact HO3.out, ?_, HS.out, ?_⟩
        · have e3 := E2.out.keep HK3.out (fun i v l _ _ hob k h1 h2 => Own.apart hob O2.out (by decide) h1 h2)
          have d3 : OB w3 (w.heap.size ≤ ·) (.slice A2 d.length c2) d := Own.keep0 (Own.alloc (Own.mono H2.out (fun k _ h => by have := HK.out.size; omega)) _) HK3.out (fun k _ h1 h2 => Own.apart (Own.alloc H2.out (.cells #[.slice A2 d.length c2] 22)) O2.out (by decide) h1 h2)
          exact e3.snoc (B := wr.heap.size) d3 (fun i u k hu hk => by
            have hi : i < vs.length := (List.getElem?_eq_some_iff.1 hu).1
            have hl : acc[i]? = some (acc[i]'(by rw [← HVL.out]; exact hi)) := List.getElem?_eq_getElem _
            exact Own.lt (HE.out.2.1 i u _ hu hl) k hk) (fun k hk => H2.out.2 k hk)
        · exact ((HK.out.trans K2.out).alloc _).trans2 HK3.out (fun i hi h => by have := HO.out.2 i h; exact absurd hi (by omega))
      case measure => simp [intOf]; omega
    · have hb1 : ((x : Int) != 0) = true := by rw [bne_iff_ne]; omega
      have hst := HW.out.stop (by rw [HU.out]; exact hx)
      have HS := Lib.hid hst
      clear hst hx
      go_wp2
      go_ret2
      rw [HS.out]
      refine ⟨A1, c1, vs, rfl, Own.keep0 HO.out K2.out (fun _ _ _ q => q.elim), HE.out.still K2.out, HK.out.trans K2.out⟩

end Go.Proofs.YtlfdpkgggoafaaaDoor
