/-
  warrenref20's Commit and Drop.
-/
import Derived.Test.YtchpkonlfjbkeaaBookRef3
namespace Go.Proofs.Ytchpkonlfjbkeaa
open Go.RowKit

theorem infoBool : (Try.prog.info? 4).map (fun i => (i.zero, i.size, i.bytes)) = some (some (.bool false), 1, 1) := by kernel_rfl
theorem bools_length (l : List Bool) : (bools l).length = l.length := by simp [bools]

section
variable {w : World} {ops : Array Oper} {rest : List Oper} {o : Oper} {a : Act} {Q : Exit → Act → World → Prop} {K : Act → World → Prop} {E : Prop}
/-- append of one bool. -/
theorem wpList_appB (hgd : o.guard = none) (s x : Operand) (ho : o.op = .call { callee := .builtin .append, args := #[s, x], argTypes := #[55, 55] })
    (F : Nat → Prop) (v : Value) (l : List Bool) (hs : a.eval s = v) (hown : Own w 4 1 F v l.length (bools l)) (g : Nat) (t : Bool) (hx : a.eval x = .slice (some ⟨g, 0, none⟩) 1 1) (hc : w.cell? ⟨g, 0, none⟩ = some (.bool t))
    (hl : (l.length + 1) * 1 ≤ 140737488355328) (hF : F w.heap.size)
    (h : ∀ A' c' w', Own w' 4 1 F (.slice A' (l.length + 1) c') (l.length + 1) (bools (l ++ [t])) → Kept (ownS v) w w' → wpList Try.prog ops Q rest (a.put o.dst (.slice A' (l.length + 1) c')) w') : wpList Try.prog ops Q (o :: rest) a w := by
  obtain ⟨i0, hi, hz0, hz1, hz2⟩ := info_parts infoBool
  refine wpList_append_Own w hgd s x 55 ho 4 i0 _ 1 1 Try.underlying55 hi hz0 hz1 hz2 rfl (by decide) F (fun _ => True) v l.length (bools l) hs hown (some ⟨g, 0, none⟩) 1 1 [.bool t] hx rfl ?_ (by simp [Value.oneCell']) (by unfold maxLen; omega) hl ?_
  · refine .inr ⟨g, 0, rfl, trivial, fun j u hj => ?_⟩
    match j, hj with
    | 0, hj =>
      simp at hj
      subst hj
      exact hc
  · intro v' w' h1 h2
    have h3 := h1.mono (G := F) (fun k _ q => q.elim id fun q => q ▸ hF)
    obtain ⟨A', c', rfl, _⟩ := Own.form h3
    refine h A' c' w' ?_ h2
    simpa [bools] using h3
end

/-- What a call leaves that takes slips out of the document's book. -/
def RTakePost (w : World) (F : Nat → Prop) (p : Nat) (out rest : List Slip) (last : Int) (e : Ending) (w' : World) : Prop :=
  ∃ A c, e = .returned (.slice A out.length c) ∧ Rd w' (w.heap.size ≤ ·) A (slipRow out) ∧ RefAt w' F p rest last ∧ Kept F w w'


set_option maxHeartbeats 800000 in
theorem refCommit (w : World) (F : Nat → Prop) (p : Nat) (l : List Slip) (last : Int) (h : RefAt w F p l last) (hF : ∀ j, w.heap.size ≤ j → F j) (hl : l.length * 48 ≤ 140737488355328) :
    Calls Try.prog 30 #[.pointer (some ⟨p, 0, none⟩)] w (RTakePost w F p (l.filter Slip.held) (l.filter fun s => !(Slip.held) s) last) := by
  obtain ⟨sv, hblk, hown, hp⟩ := h
  obtain ⟨A, c, rfl, hcap, hcm, hAn⟩ := Own.form hown
  have HB := Lib.hid hblk
  have HO := Lib.hid hown
  have HF := Lib.hid hF
  have hpl := hblk.lt
  clear hblk hown hcap hcm hAn hF
  obtain ⟨q, HQ⟩ : ∃ q : Slip → Bool, Hid ((Slip.held) = q) := ⟨_, Lib.hid rfl⟩
  rw [HQ.out]
  go_enter Try.func30, Try.ntmps30
  go_wp2
  go_loopw [3, 4] (fun vy i wr => ∃ j : Nat, j ≤ l.length ∧ i = .int .i64 j ∧ Own wr 4 1 (w.heap.size ≤ ·) vy ((l.take j).map q).length (bools ((l.take j).map q)) ∧ Kept noneS w wr) (fun _ i _ => l.length - (intOf i).toNat)
  case atStart => exact ⟨0, Nat.zero_le _, rfl, Own.empty _ _ _ _ (Nat.le_refl _), (Kept.refl _ _).alloc _⟩
  case round =>
    obtain ⟨j, hj, rfl, hy, hk⟩ := hrel
    obtain ⟨A1, c1, rfl, _⟩ := Own.form hy
    have HY := Lib.hid hy
    have K := Lib.hid hk
    have hks := hk.size
    have B1 := Lib.hid (HB.out.keep hk (fun q => q))
    have O1 := Lib.hid (HO.out.keep0 hk (fun _ _ _ q => q.elim))
    clear hy hk
    have c0 : wr.cell? ⟨p, 0, none⟩ = some (.slice A l.length c) := B1.out.cell 0
    by_cases hlt : j < l.length
    · obtain ⟨g, o, rfl, _, d0, d1, d2, d3, d4⟩ := (Own.rd O1.out).slip hlt
      have HTk : Hid ((l.take (j + 1)).map q = (l.take j).map q ++ [q l[j]]) := Lib.hid (by rw [List.take_succ_eq_append_getElem hlt, List.map_append]; rfl)
      have hlen : ((l.take j).map q).length ≤ j := by simp; omega
      rw [← HQ.out] at HTk
      generalize l[j] = s at d0 d1 d2 d3 d4 HTk
      rw [HQ.out] at HTk
      generalize (l.take j).map q = ys at HY HTk hlen ⊢
      go_wp2_with (at_builtin; refine wpList_appB rfl (.tmp 17) (.tmp 26) rfl (w.heap.size ≤ ·) (.slice A1 ys.length c1) ys rfl (Own.alloc HY.out _) wr.heap.size s.held rfl (by simp) (by omega) (by simp; omega) ?_; intro A3 c3 w3 hown3 hk3; have HO3 := Lib.hid hown3; have HK3 := Lib.hid hk3; clear hown3 hk3)
      go_roundw
      case rel => exact ⟨j + 1, by omega, by go_num, by rw [HTk.out, List.length_append, ← HQ.out]; exact HO3.out, (K.out.alloc _).trans2 HK3.out (fun i hi h => by have := HY.out.2 i h; exact absurd hi (by omega))⟩
      case measure => simp [intOf]; omega
    · obtain rfl : j = l.length := by omega
      rw [List.take_length] at HY
      have HYl : Hid (Own wr 4 1 (w.heap.size ≤ ·) (.slice A1 l.length c1) l.length (bools (l.map q))) := Lib.hid (by have := HY.out; rwa [List.length_map] at this)
      rw [List.take_length, List.length_map]
      clear HY
      go_wp2_with fail
      refine (refSplit A c l A1 c1 q F (w.heap.size ≤ ·) wr (Own.rd O1.out) (Own.rd HYl.out) hl).mono ?_
      rintro e w3 ⟨A3, c3, A4, c4, FA, FB, rfl, ha, hb, hd, hfa, hfb, hk3⟩
      have B3 := Lib.hid (B1.out.keep hk3 (fun q => q))
      have HA := Lib.hid ha
      have HBb := Lib.hid hb
      have HFA := Lib.hid hfa
      have HFB := Lib.hid hfb
      have K3 := Lib.hid (K.out.trans hk3)
      have e0 : w3.cell? ⟨p, 0, none⟩ = some (.slice A l.length c) := B3.out.cell 0
      have f0 := B3.out.frozen 0
      clear ha hb hd hfa hfb hk3
      generalize hxa : l.filter q = xa at HA ⊢
      generalize hxb : l.filter (fun s => !q s) = xb at HBb ⊢
      have XA := Lib.hid hxa
      have XB := Lib.hid hxb
      clear hxa hxb
      go_wp2
      go_ret
      rw [XA.out, XB.out]
      refine ⟨A3, c3, rfl, ?_, ⟨_, B3.out.set_ 0 _, ?_, hp⟩, (K3.out.mono (S' := F) (fun _ _ q => q.elim)).setCell (p := ⟨p, 0, none⟩) (fun _ => hp) _⟩
      · exact (Own.rd (HA.out.far (p := ⟨p, 0, none⟩) (HA.out.ne_blk B3.out (by decide)) _)).mono fun k _ h => Nat.le_trans hks (HFA.out k h)
      · exact (HBb.out.far (p := ⟨p, 0, none⟩) (HBb.out.ne_blk B3.out (by decide)) _).mono fun k _ h => HF.out k (Nat.le_trans hks (HFB.out k h))

set_option maxHeartbeats 800000 in
theorem refDrop (qn : ByteArray) (w : World) (F : Nat → Prop) (p : Nat) (l : List Slip) (last : Int) (h : RefAt w F p l last) (hF : ∀ j, w.heap.size ≤ j → F j) (hl : l.length * 48 ≤ 140737488355328) :
    Calls Try.prog 32 #[.pointer (some ⟨p, 0, none⟩), .string qn] w (RTakePost w F p (l.filter fun s : Slip => s.queue.toList == qn.toList) (l.filter fun s => !(fun s : Slip => s.queue.toList == qn.toList) s) last) := by
  obtain ⟨sv, hblk, hown, hp⟩ := h
  obtain ⟨A, c, rfl, hcap, hcm, hAn⟩ := Own.form hown
  have HB := Lib.hid hblk
  have HO := Lib.hid hown
  have HF := Lib.hid hF
  have hpl := hblk.lt
  clear hblk hown hcap hcm hAn hF
  obtain ⟨q, HQ⟩ : ∃ q : Slip → Bool, Hid ((fun s : Slip => s.queue.toList == qn.toList) = q) := ⟨_, Lib.hid rfl⟩
  rw [HQ.out]
  go_enter Try.func32, Try.ntmps32
  go_wp2
  go_loopw [5, 6] (fun vy i wr => ∃ j : Nat, j ≤ l.length ∧ i = .int .i64 j ∧ Own wr 4 1 (w.heap.size ≤ ·) vy ((l.take j).map q).length (bools ((l.take j).map q)) ∧ Kept noneS w wr) (fun _ i _ => l.length - (intOf i).toNat)
  case atStart => exact ⟨0, Nat.zero_le _, rfl, Own.empty _ _ _ _ (Nat.le_refl _), (Kept.refl _ _).alloc _⟩
  case round =>
    obtain ⟨j, hj, rfl, hy, hk⟩ := hrel
    obtain ⟨A1, c1, rfl, _⟩ := Own.form hy
    have HY := Lib.hid hy
    have K := Lib.hid hk
    have hks := hk.size
    have B1 := Lib.hid (HB.out.keep hk (fun q => q))
    have O1 := Lib.hid (HO.out.keep0 hk (fun _ _ _ q => q.elim))
    clear hy hk
    have c0 : wr.cell? ⟨p, 0, none⟩ = some (.slice A l.length c) := B1.out.cell 0
    by_cases hlt : j < l.length
    · obtain ⟨g, o, rfl, _, d0, d1, d2, d3, d4⟩ := (Own.rd O1.out).slip hlt
      have HTk : Hid ((l.take (j + 1)).map q = (l.take j).map q ++ [q l[j]]) := Lib.hid (by rw [List.take_succ_eq_append_getElem hlt, List.map_append]; rfl)
      have hlen : ((l.take j).map q).length ≤ j := by simp; omega
      rw [← HQ.out] at HTk
      generalize l[j] = s at d0 d1 d2 d3 d4 HTk
      rw [HQ.out] at HTk
      generalize (l.take j).map q = ys at HY HTk hlen ⊢
      go_wp2_with (at_builtin; refine wpList_appB rfl (.tmp 19) (.tmp 30) rfl (w.heap.size ≤ ·) (.slice A1 ys.length c1) ys rfl (Own.alloc HY.out _) wr.heap.size (s.queue.toList == qn.toList) rfl (by simp) (by omega) (by simp; omega) ?_; intro A3 c3 w3 hown3 hk3; have HO3 := Lib.hid hown3; have HK3 := Lib.hid hk3; clear hown3 hk3)
      go_roundw
      case rel => exact ⟨j + 1, by omega, by go_num, by rw [HTk.out, List.length_append, ← HQ.out]; exact HO3.out, (K.out.alloc _).trans2 HK3.out (fun i hi h => by have := HY.out.2 i h; exact absurd hi (by omega))⟩
      case measure => simp [intOf]; omega
    · obtain rfl : j = l.length := by omega
      rw [List.take_length] at HY
      have HYl : Hid (Own wr 4 1 (w.heap.size ≤ ·) (.slice A1 l.length c1) l.length (bools (l.map q))) := Lib.hid (by have := HY.out; rwa [List.length_map] at this)
      rw [List.take_length, List.length_map]
      clear HY
      go_wp2_with fail
      refine (refSplit A c l A1 c1 q F (w.heap.size ≤ ·) wr (Own.rd O1.out) (Own.rd HYl.out) hl).mono ?_
      rintro e w3 ⟨A3, c3, A4, c4, FA, FB, rfl, ha, hb, hd, hfa, hfb, hk3⟩
      have B3 := Lib.hid (B1.out.keep hk3 (fun q => q))
      have HA := Lib.hid ha
      have HBb := Lib.hid hb
      have HFA := Lib.hid hfa
      have HFB := Lib.hid hfb
      have K3 := Lib.hid (K.out.trans hk3)
      have e0 : w3.cell? ⟨p, 0, none⟩ = some (.slice A l.length c) := B3.out.cell 0
      have f0 := B3.out.frozen 0
      clear ha hb hd hfa hfb hk3
      generalize hxa : l.filter q = xa at HA ⊢
      generalize hxb : l.filter (fun s => !q s) = xb at HBb ⊢
      have XA := Lib.hid hxa
      have XB := Lib.hid hxb
      clear hxa hxb
      go_wp2
      go_ret
      rw [XA.out, XB.out]
      refine ⟨A3, c3, rfl, ?_, ⟨_, B3.out.set_ 0 _, ?_, hp⟩, (K3.out.mono (S' := F) (fun _ _ q => q.elim)).setCell (p := ⟨p, 0, none⟩) (fun _ => hp) _⟩
      · exact (Own.rd (HA.out.far (p := ⟨p, 0, none⟩) (HA.out.ne_blk B3.out (by decide)) _)).mono fun k _ h => Nat.le_trans hks (HFA.out k h)
      · exact (HBb.out.far (p := ⟨p, 0, none⟩) (HBb.out.ne_blk B3.out (by decide)) _).mono fun k _ h => HF.out k (Nat.le_trans hks (HFB.out k h))

end Go.Proofs.Ytchpkonlfjbkeaa
