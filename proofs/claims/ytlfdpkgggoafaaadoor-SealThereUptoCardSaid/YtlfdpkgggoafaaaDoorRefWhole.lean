/-
  The contract of warrenref02.Whole and SameAll.
-/
import Derived.Test.YtlfdpkgggoafaaaDoorWhole
namespace Go.Proofs.YtlfdpkgggoafaaaDoor
open Go.RowKit

theorem refUnwrap' (A : Option Addr) (c n : Nat) (b : List UInt8) (F : Nat → Prop) (w : World) (hr : RB w F A b) (hl : b.length = n) (hc : n ≤ c) (hc2 : c ≤ 9223372036854775807) :
    Calls Tryd.prog 17 #[.slice A n c] w (UnwrapPost w (unwrapP b)) := by
  subst hl
  exact refUnwrap_any A c b F w hr hc hc2

set_option maxHeartbeats 800000 in
theorem refWhole_any (A : Option Addr) (c : Nat) (b : List UInt8) (F : Nat → Prop) (w : World) (hr : RB w F A b) (hb : b.length ≤ 16777216) (hc : b.length ≤ c) (hc2 : c ≤ 9223372036854775807) :
    Calls Tryd.prog 19 #[.slice A b.length c] w (WholePost w (wholeP b)) := by
  have HR := Lib.hid (hr.mono (G := (· < w.heap.size)) fun _ h _ => h)
  clear hr
  go_enter Tryd.func19, Tryd.ntmps19
  go_wp2
  go_loopw [4, 5] (fun v e wr => ∃ (at_ k : Nat) (vs : List Value) (acc : List (List UInt8)), e = .int .i64 at_ ∧ Own wr 22 1 (w.heap.size ≤ ·) v vs.length vs ∧ Elems wr (w.heap.size ≤ ·) vs acc ∧ WholeAt b acc at_ k ∧ Kept noneS w wr) (fun _ e _ => b.length - (intOf e).toNat)
  case atStart => exact ⟨0, b.length + 1, [], [], rfl, Own.empty _ _ _ _ (Nat.le_refl _), Elems.nil _ _, WholeAt.start b, (Kept.refl _ _).alloc _⟩
  case round =>
    obtain ⟨at_, k, vs, acc, rfl, hown, hel, hwa, hkept⟩ := hrel
    obtain ⟨A1, c1, rfl, _⟩ := Own.form hown
    have hat := hwa.2.2.1
    have hacc := hwa.2.2.2
    have hvl : vs.length = acc.length := hel.1
    have HVL := Lib.hid hvl
    have HO := Lib.hid hown
    have HE := Lib.hid hel
    have HW := Lib.hid hwa
    have HK := Lib.hid hkept
    have HX := Lib.hid ((HR.out.still hkept).cut (k := at_) hc)
    have HXl : Hid ((b.drop at_).length = b.length - at_) := Lib.hid (by simp)
    clear hown hel hwa hkept hvl
    have hsl := fun W => run_slice_from (P := Tryd.prog) W 22 5 Tryd.underlying22 infoU8 A b.length c at_ hat hc
    generalize (if c = at_ then A else A.map (·.add at_)) = X at HX hsl
    generalize hU : unwrapP (b.drop at_) = r
    have HU := Lib.hid hU
    clear hU
    go_wp2_with fail
    refine (refUnwrap' X (c - at_) (b.length - at_) (b.drop at_) _ wr HX.out HXl.out (by omega) (by omega)).mono ?_
    rintro e w2 ⟨A2, c2, rfl, h2, k2⟩
    rw [HU.out] at h2 ⊢
    obtain ⟨d, n, x⟩ := r
    have H2 := Lib.hid h2
    have K2 := Lib.hid k2
    clear h2 k2
    by_cases hx : x = 0
    · subst hx
      obtain ⟨k', rfl, hst⟩ := HW.out.step (by rw [HU.out])
      have hok := unwrapP_ok (b := b.drop at_) (by rw [HU.out])
      rw [HU.out] at hok hst
      obtain ⟨hn8, hnl, _⟩ := hok
      rw [HXl.out] at hnl
      have HS := Lib.hid hst
      clear hst
      dsimp only at hn8 hnl
      go_wp2_with (at_builtin; refine wpList_appS rfl (.tmp 22) (.tmp 24) rfl (w.heap.size ≤ ·) (.slice A1 vs.length c1) vs rfl (Own.alloc (Own.keep0 HO.out K2.out (fun _ _ _ q => q.elim)) _) w2.heap.size (.slice A2 d.length c2) rfl rfl (by simp) (by rw [HVL.out]; omega) (by have := HK.out.size; have := K2.out.size; simp; omega) ?_; intro A3 c3 w3 hown hk; have HO3 := Lib.hid hown; have HK3 := Lib.hid hk; clear hown hk)
      have E2 := Lib.hid ((HE.out.still K2.out).still ((Kept.refl noneS w2).alloc (.cells #[.slice A2 d.length c2] 22)))
      have O2 := Lib.hid (Own.alloc (Own.keep0 HO.out K2.out (fun _ _ _ q => q.elim)) (.cells #[.slice A2 d.length c2] 22))
      go_roundw
      case rel =>
        refine ⟨at_ + n, k', vs ++ [.slice A2 d.length c2], acc ++ [d], by go_num, by rw [List.length_append]; exact HO3.out, ?_, HS.out, ?_⟩
        · have e3 := E2.out.keep HK3.out (fun i v l _ _ hob k h1 h2 => Own.apart hob O2.out (by decide) h1 h2)
          have d3 : OB w3 (w.heap.size ≤ ·) (.slice A2 d.length c2) d := Own.keep0 (Own.alloc (Own.mono H2.out (fun k _ h => by have := HK.out.size; omega)) _) HK3.out (fun k _ h1 h2 => Own.apart (Own.alloc H2.out (.cells #[.slice A2 d.length c2] 22)) O2.out (by decide) h1 h2)
          exact e3.snoc (B := wr.heap.size) d3 (fun i u k hu hk => by
            have hi : i < vs.length := (List.getElem?_eq_some_iff.1 hu).1
            have hl : acc[i]? = some (acc[i]'(by rw [← HVL.out]; exact hi)) := List.getElem?_eq_getElem _
            exact Own.lt (HE.out.2.1 i u _ hu hl) k hk) (fun k hk => H2.out.2 k hk)
        · exact ((HK.out.trans K2.out).alloc _).trans2 HK3.out (fun i hi h => by have := HO.out.2 i h; exact absurd hi (by omega))
      case measure => simp [intOf]; omega
    · have hb1 : ((x : Int) != 0) = true := by rw [bne_iff_ne]; omega
      have hst := HW.out.stop (by rw [HU.out]; exact hx)
      have HS := Lib.hid hst
      clear hst hx
      go_wp2
      go_ret2
      rw [HS.out]
      refine ⟨A1, c1, vs, rfl, Own.keep0 HO.out K2.out (fun _ _ _ q => q.elim), HE.out.still K2.out, HK.out.trans K2.out⟩

/-- Slices of octets that read, wherever they lie. -/
def Reads (w : World) (F : Nat → Prop) (vs : List Value) (ls : List (List UInt8)) : Prop :=
  vs.length = ls.length ∧ ∀ (i : Nat) (v : Value) (l : List UInt8), vs[i]? = some v → ls[i]? = some l → ∃ A c, v = .slice A l.length c ∧ RB w F A l

theorem Elems.reads {w : World} {F : Nat → Prop} {vs : List Value} {ls : List (List UInt8)} (h : Elems w F vs ls) : Reads w F vs ls :=
  ⟨h.1, fun i v l hv hl => by
    have ho := h.2.1 i v l hv hl
    obtain ⟨A, c, rfl, _⟩ := Own.form ho
    exact ⟨A, c, rfl, Own.rd ho⟩⟩

set_option maxHeartbeats 800000 in
theorem sameAll_any (A B : Option Addr) (c d : Nat) (vs us : List Value) (ls ms : List (List UInt8)) (F G F' G' : Nat → Prop) (w : World) (hv : Rd w F A vs) (hu : Rd w G B us) (hvs : Reads w F' vs ls) (hus : Reads w G' us ms) (hn : vs.length ≤ 9223372036854775807) :
    Calls Tryd.prog 20 #[.slice A vs.length c, .slice B us.length d] w fun e w' => e = .returned (.bool (ls == ms)) ∧ ∃ n, w' = w.drewN n := by
  have HV := Lib.hid hv
  have HU := Lib.hid hu
  have HVS := Lib.hid hvs
  have HUS := Lib.hid hus
  clear hv hu hvs hus
  by_cases hl : vs.length = us.length
  · have hb : ((vs.length : Int) != (us.length : Int)) = false := by simp [hl]
    have HL := Lib.hid hl
    clear hl
    go_enter Tryd.func20, Tryd.ntmps20
    go_wp2
    go_loopw [5] (fun i wr => ∃ j n : Nat, j ≤ vs.length ∧ i = .int .i64 j ∧ Hid (ls.take j = ms.take j) ∧ wr = w.drewN n) (fun i _ => vs.length - (intOf i).toNat)
    case atStart => exact ⟨0, 0, Nat.zero_le _, rfl, Lib.hid rfl, rfl⟩
    case round =>
      obtain ⟨j, n, hj, rfl, HEq, rfl⟩ := hrel
      by_cases hlt : j < vs.length
      · have hju : j < us.length := by have := HL.out; omega
        have hlj : j < ls.length := by have := HVS.out.1; omega
        have hmj : j < ms.length := by have := HUS.out.1; omega
        obtain ⟨g, o, rfl, _, hc1⟩ : ∃ g o, A = some ⟨g, o, none⟩ ∧ True ∧ w.cell? ⟨g, o + j, none⟩ = some vs[j] := by
          rcases HV.out with h | ⟨g, o, h, _, hc⟩
          · subst h; simp at hlt
          · exact ⟨g, o, h, trivial, hc j _ (List.getElem?_eq_getElem hlt)⟩
        obtain ⟨g', o', rfl, _, hc2⟩ : ∃ g o, B = some ⟨g, o, none⟩ ∧ True ∧ w.cell? ⟨g, o + j, none⟩ = some us[j] := by
          rcases HU.out with h | ⟨g, o, h, _, hc⟩
          · subst h; simp at hju
          · exact ⟨g, o, h, trivial, hc j _ (List.getElem?_eq_getElem hju)⟩
        obtain ⟨A1, c1, e1, r1⟩ := HVS.out.2 j _ _ (List.getElem?_eq_getElem hlt) (List.getElem?_eq_getElem hlj)
        obtain ⟨A2, c2, e2, r2⟩ := HUS.out.2 j _ _ (List.getElem?_eq_getElem hju) (List.getElem?_eq_getElem hmj)
        rw [e1] at hc1
        rw [e2] at hc2
        clear e1 e2
        have HT1 := Lib.hid (List.take_succ_eq_append_getElem hlj)
        have HT2 := Lib.hid (List.take_succ_eq_append_getElem hmj)
        have HNe : Hid (ls[j] ≠ ms[j] → (ls == ms) = false) := Lib.hid (fun h => by
          rw [beq_eq_false_iff_ne]
          intro h2
          subst h2
          exact h rfl)
        generalize ls[j] = x at hc1 r1 HT1 HNe
        generalize ms[j] = y at hc2 r2 HT2 HNe
        have s1 := fun k => run_str (w.drewN k) _ A1 c1 x (r1.drewN k)
        have s2 := fun k => run_str (w.drewN k) _ A2 c2 y (r2.drewN k)
        have s3 := fun k => run_str (w.drewN k).drew _ A1 c1 x (r1.drewN k).drew
        have s4 := fun k => run_str (w.drewN k).drew _ A2 c2 y (r2.drewN k).drew
        clear r1 r2
        have hju' : (j : Int) < (us.length : Int) := by omega
        by_cases hxy : x = y
        · subst hxy
          have hb1 : (x == x) = true := beq_self_eq_true x
          go_wp2
          go_region
          go_wp2
          go_roundw
          case rel => exact ⟨j + 1, n + 1, by omega, by go_num, Lib.hid (by rw [HT1.out, HT2.out, HEq.out]), rfl⟩
          case measure => simp [intOf]; omega
        · have hb1 : (x == y) = false := by simpa using hxy
          have HF := Lib.hid (HNe.out hxy)
          clear hxy HNe
          go_wp2
          go_region
          go_wp2
          go_ret
          rw [HF.out]
          exact ⟨rfl, n + 1, rfl⟩
      · have HT : Hid ((ls == ms) = true) := Lib.hid (by
          have h1 := HVS.out.1
          have h2 := HUS.out.1
          have h3 := HL.out
          have h4 := HEq.out
          rw [List.take_of_length_le (by omega), List.take_of_length_le (by omega)] at h4
          rw [h4]
          exact beq_self_eq_true ms)
        go_wp2
        go_ret
        rw [HT.out]
        exact ⟨rfl, n, rfl⟩
  · have hb : ((vs.length : Int) != (us.length : Int)) = true := by rw [bne_iff_ne]; omega
    have HT : Hid ((ls == ms) = false) := Lib.hid (by
      rw [beq_eq_false_iff_ne]
      intro h
      subst h
      exact hl (HVS.out.1.trans HUS.out.1.symm))
    clear hl
    go_enter Tryd.func20, Tryd.ntmps20
    go_wp2
    go_ret
    rw [HT.out]
    exact ⟨rfl, 0, rfl⟩

end Go.Proofs.YtlfdpkgggoafaaaDoor
