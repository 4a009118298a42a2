/-
  warrenref20's Book: Give, split, Same, Count, Rollback.
-/
import Derived.Test.YtchpkonlfjbkeaaBookCounts
namespace Go.Proofs.Ytchpkonlfjbkeaa
open Go.RowKit

/-- The document's book at block p. -/
def RefAt (w : World) (F : Nat → Prop) (p : Nat) (l : List Slip) (last : Int) : Prop :=
  ∃ sv, Blk w p 42 #[sv, .int .i64 last] ∧ Own w 29 5 F sv l.length (slipRow l) ∧ F p
theorem RefAt.keep {w w' : World} {F S : Nat → Prop} {p : Nat} {l : List Slip} {last : Int} (h : RefAt w F p l last) (hk : Kept S w w') (hd : ∀ k, k < w.heap.size → F k → S k → False) : RefAt w' F p l last := by
  obtain ⟨sv, h1, h2, h3⟩ := h
  exact ⟨sv, h1.keep hk (hd p h1.lt h3), h2.keep hk hd, h3⟩
theorem RefAt.still {w w' : World} {F : Nat → Prop} {p : Nat} {l : List Slip} {last : Int} (h : RefAt w F p l last) (hk : Kept noneS w w') : RefAt w' F p l last := h.keep hk fun _ _ _ q => q.elim
theorem RefAt.mono {w : World} {F G : Nat → Prop} {p : Nat} {l : List Slip} {last : Int} (h : RefAt w F p l last) (hG : ∀ k, k < w.heap.size → F k → G k) : RefAt w G p l last := by
  obtain ⟨sv, h1, h2, h3⟩ := h
  exact ⟨sv, h1, h2.mono hG, hG p h1.lt h3⟩

section
variable {w : World} {ops : Array Oper} {rest : List Oper} {o : Oper} {a : Act} {Q : Exit → Act → World → Prop} {K : Act → World → Prop} {E : Prop}
/-- append of one slip, in a region that draws. -/
theorem step_appSl (hgd : o.guard = none) (s x : Operand) (ho : o.op = .call { callee := .builtin .append, args := #[s, x], argTypes := #[27, 27] })
    (F : Nat → Prop) (v : Value) (l : List Slip) (hs : a.eval s = v) (hown : Own w 29 5 F v l.length (slipRow l)) (g : Nat) (t : Slip) (hx : a.eval x = .slice (some ⟨g, 0, none⟩) 1 1) (hc : ∀ k u, t.cells[k]? = some u → w.cell? ⟨g, k, none⟩ = some u)
    (hl : (l.length + 1) * 48 ≤ 140737488355328) (hF : F w.heap.size)
    (h : ∀ A' c' w', Own w' 29 5 F (.slice A' (l.length + 1) c') (l.length + 1) (slipRow (l ++ [t])) → Kept (ownS v) w w' → K (a.put o.dst (.slice A' (l.length + 1) c')) w') :
    if Region.wanted o (yielded ops a.tmps) = true then Oper.wp Try.prog o a w K Q else E := by
  obtain ⟨i0, hi, hz0, hz1, hz2⟩ := info_parts infoSlip
  refine step_append_Own w hgd s x 27 ho 29 i0 _ 5 48 Try.underlying27 hi hz0 hz1 hz2 rfl (by decide) F (fun _ => True) v l.length (slipRow l) hs hown (some ⟨g, 0, none⟩) 1 1 t.cells hx rfl ?_ (cells_one t) (by unfold maxLen; omega) hl ?_
  · refine .inr ⟨g, 0, rfl, trivial, fun j u hj => ?_⟩
    rw [Nat.zero_add]
    exact hc j u hj
  · intro v' w' h1 h2
    have h3 := h1.mono (G := F) (fun k _ q => q.elim id fun q => q ▸ hF)
    obtain ⟨A', c', rfl, _⟩ := Own.form h3
    refine h A' c' w' ?_ h2
    rw [slipRow_append]
    simpa [slipRow] using h3
end

set_option maxHeartbeats 400000 in
theorem refGive (q : ByteArray) (seq cons : Int) (w : World) (F : Nat → Prop) (p : Nat) (l : List Slip) (last : Int) (h : RefAt w F p l last) (hF : ∀ j, w.heap.size ≤ j → F j) (h0 : 0 ≤ last) (h1 : last < 9223372036854775807) (hl : (l.length + 1) * 48 ≤ 140737488355328) :
    Calls Try.prog 28 #[.pointer (some ⟨p, 0, none⟩), .string q, .int .i64 seq, .int .i64 cons] w fun e w' => e = .returned (.int .i64 (last + 1)) ∧ RefAt w' F p (l ++ [⟨last + 1, q, seq, cons, false⟩]) (last + 1) ∧ Kept F w w' := by
  obtain ⟨sv, hblk, hown, hp⟩ := h
  obtain ⟨A0, cap, rfl, hcap, _⟩ := Own.form hown
  have c1 : w.cell? ⟨p, 1, none⟩ = some (.int .i64 last) := hblk.cell 1
  have f1 := hblk.frozen 1
  have B1 := Lib.hid (hblk.set_ 1 (.int .i64 (last + 1)))
  have O1 := Lib.hid (hown.far (p := ⟨p, 1, none⟩) (hown.ne_blk hblk (by decide)) (.int .i64 (last + 1)))
  have K1 := Lib.hid ((Kept.refl F w).setCell (p := ⟨p, 1, none⟩) (fun _ => hp) (.int .i64 (last + 1)))
  have HF := Lib.hid hF
  clear hF hblk hown hcap
  go_enter Try.func28, Try.ntmps28
  go_upto_region 2 with (fail)
  generalize w.setCell ⟨p, 1, none⟩ (.int .i64 (last + 1)) = w1 at B1 O1 K1 ⊢
  have HN := Lib.hid (O1.out.ne_blk B1.out (by decide))
  have c0 : w1.cell? ⟨p, 0, none⟩ = some (.slice A0 l.length cap) := B1.out.cell 0
  have c2 : w1.cell? ⟨p, 1, none⟩ = some (.int .i64 (last + 1)) := B1.out.cell 1
  have hplt := B1.out.lt
  go_region_law (refine step_appSl rfl (.tmp 20) (.tmp 29) rfl F (.slice A0 l.length cap) l rfl (Own.drew (Own.alloc O1.out _)) w1.heap.size ⟨last + 1, q, seq, cons, false⟩ rfl (cells_new w1 ⟨last + 1, q, seq, cons, false⟩ _) hl (HF.out _ (by have := K1.out.size; simp; omega)) ?_; intro A1 cap1 w2 hown hk; have hb1 := Blk.keep (Blk.drew (Blk.alloc B1.out _)) hk HN.out; have c3 : w2.cell? ⟨p, 0, none⟩ = some (.slice A0 l.length cap) := hb1.cell 0; have c4 : w2.cell? ⟨p, 1, none⟩ = some (.int .i64 (last + 1)) := hb1.cell 1; have f3 := hb1.frozen 0; have HB1 := Lib.hid hb1; have HO1 := Lib.hid hown; have HK1 := Lib.hid hk; clear hb1 hown hk)
  all_goals
    go_wp2
    go_ret
    refine ⟨rfl, ⟨_, HB1.out.set_ 0 _, ?_, hp⟩, ?_⟩
    · rw [List.length_append]
      exact HO1.out.far (p := ⟨p, 0, none⟩) (HO1.out.ne_blk HB1.out (by decide)) (.slice A1 (l.length + 1) cap1)
    · exact (((K1.out.alloc _).drew).trans2 HK1.out (fun i _ h => O1.out.2 i h)).setCell (p := ⟨p, 0, none⟩) (fun _ => hp) _

end Go.Proofs.Ytchpkonlfjbkeaa
