/-
  One step of a script.
-/
import Derived.Test.YtchpkonlfjbkeaaBookPl1
namespace Go.Proofs.Ytchpkonlfjbkeaa
open Go.RowKit

def StepPost (w0 : World) (Z : Nat → Prop) (w : World) (p m : Nat) (j : Nat) (e : Ending) (w' : World) : Prop :=
  ∃ (l' : List Slip) (n' : Int), e = .returned (.bool true) ∧ l'.length ≤ j + 1 ∧ 0 ≤ n' ∧ n' ≤ j + 1 ∧ PlayAt w0 Z w' p m l' n' ∧ Kept (fun k => ¬ Z k) w w'

set_option maxHeartbeats 1600000 in
set_option maxRecDepth 100000 in
theorem step_give (op : BOp) (w0 w : World) (p m : Nat) (l : List Slip) (n : Int) (j : Nat) (Z : Nat → Prop) (hZ : ∀ k, Z k → k < w.heap.size) (h : PlayAt w0 Z w p m l n) (hll : l.length ≤ j) (hn0 : 0 ≤ n) (hnj : n ≤ j) (hl : (j + 1) * 56 ≤ 140737488351232) (kd : Nat) (hkd : kd ≤ 2) (hkk : bits .and .i64 op.kind 7 = kd) :
    Calls Try.prog 16 #[.pointer (some ⟨p, 0, none⟩), .pointer (some ⟨m, 0, none⟩), .agg #[.int .i64 op.kind, .int .i64 op.tag, .bool op.multiple, .bool op.hold, .string op.queue, .int .i64 op.seq, .int .i64 op.cons]] w (StepPost w0 Z w p m j) := by
  obtain ⟨FB, FM, h1, h2, h3, h4, h5, h6⟩ := h
  have P1 := Lib.hid h1
  have P2 := Lib.hid h2
  have P3 := Lib.hid h3
  have ka := (Kept.refl noneS w).alloc (.cells #[.int .i64 op.kind, .int .i64 op.tag, .bool op.multiple, .bool op.hold, .string op.queue, .int .i64 op.seq, .int .i64 op.cons] 32)
  have Q4 := Lib.hid (h4.still ka)
  have Q5 := Lib.hid (h5.still ka)
  have Q6 := Lib.hid (h6.trans ka)
  have HBk := Lib.hid (Blk.new w 32 #[.int .i64 op.kind, .int .i64 op.tag, .bool op.multiple, .bool op.hold, .string op.queue, .int .i64 op.seq, .int .i64 op.cons])
  have KA := Lib.hid ka
  have HZ := Lib.hid hZ
  clear h1 h2 h3 h4 h5 h6 ka hZ
  have key : ∀ kk : Int, kk = 0 ∨ kk = 1 ∨ kk = 2 → bits .and .i64 op.kind 7 = kk → Calls Try.prog 16 #[.pointer (some ⟨p, 0, none⟩), .pointer (some ⟨m, 0, none⟩), .agg #[.int .i64 op.kind, .int .i64 op.tag, .bool op.multiple, .bool op.hold, .string op.queue, .int .i64 op.seq, .int .i64 op.cons]] w (StepPost w0 Z w p m j) := by
    intro kk hk hkk
    rcases hk with rfl | rfl | rfl
    all_goals
      go_enter Try.func16, Try.ntmps16
      go_upto_region 8 with (fail)
      have hz : w.heap.size < (w.alloc (.cells #[.int .i64 op.kind, .int .i64 op.tag, .bool op.multiple, .bool op.hold, .string op.queue, .int .i64 op.seq, .int .i64 op.cons] 32)).heap.size := by simp
      generalize w.alloc (.cells #[.int .i64 op.kind, .int .i64 op.tag, .bool op.multiple, .bool op.hold, .string op.queue, .int .i64 op.seq, .int .i64 op.cons] 32) = wa at Q4 Q5 Q6 HBk hz KA ⊢
      generalize w.heap.size = b0 at P2 P3 HBk hz HZ ⊢
      have a4 : wa.cell? ⟨b0, 4, none⟩ = some (.string op.queue) := HBk.out.cell 4
      have a5 : wa.cell? ⟨b0, 5, none⟩ = some (.int .i64 op.seq) := HBk.out.cell 5
      have a6 : wa.cell? ⟨b0, 6, none⟩ = some (.int .i64 op.cons) := HBk.out.cell 6
      have hee : (n + 1 == n + 1) = true := by simp
      clear hkk
      go_region_held3 (fun W => W.cell? ⟨b0, 4, none⟩ = some (.string op.queue) ∧ W.cell? ⟨b0, 5, none⟩ = some (.int .i64 op.seq) ∧ W.cell? ⟨b0, 6, none⟩ = some (.int .i64 op.cons))
        (first | exact ⟨a4, a5, a6⟩ | exact ⟨b4, b5, b6⟩ | exact ⟨c4, c5, c6⟩)
        (first
          | (go_at_call 9; refine (bookGive op.queue op.seq op.cons wa.drew (fun k => FB k ∨ wa.heap.size ≤ k) p l n (Q4.out.mono fun _ _ h => .inl h) (fun i hi => .inr hi) hn0 (by omega) (by omega)).mono ?_; rintro e w1 ⟨rfl, hb1, kb0⟩; have kb1 : Kept (fun k => FB k ∨ wa.heap.size ≤ k) wa w1 := ⟨kb0.os, kb0.tape, kb0.output, kb0.size, kb0.block⟩; clear kb0; have bk := HBk.out.keep kb1 (by rintro (q | q); (have := P2.out _ q; omega); omega); have b4 : w1.cell? ⟨b0, 4, none⟩ = some (.string op.queue) := bk.cell 4; have b5 : w1.cell? ⟨b0, 5, none⟩ = some (.int .i64 op.seq) := bk.cell 5; have b6 : w1.cell? ⟨b0, 6, none⟩ = some (.int .i64 op.cons) := bk.cell 6; have BK := Lib.hid bk; have HB1 := Lib.hid hb1; have KB1 := Lib.hid kb1; clear bk hb1 kb1)
          | (go_at_call 28; refine (refGive op.queue op.seq op.cons w1 (fun k => FM k ∨ w1.heap.size ≤ k) m l n ((Q5.out.keep KB1.out (by rintro k _ x (q | q); (exact P1.out k q x); (have := P3.out k x; omega))).mono fun _ _ h => .inl h) (fun i hi => .inr hi) hn0 (by omega) (by omega)).mono ?_; rintro e w2 ⟨rfl, hm2, km2⟩; have bk := BK.out.keep km2 (by rintro (q | q); (have := P3.out _ q; omega); (have := BK.out.lt; omega)); have c4 : w2.cell? ⟨b0, 4, none⟩ = some (.string op.queue) := bk.cell 4; have c5 : w2.cell? ⟨b0, 5, none⟩ = some (.int .i64 op.seq) := bk.cell 5; have c6 : w2.cell? ⟨b0, 6, none⟩ = some (.int .i64 op.cons) := bk.cell 6; have HM2 := Lib.hid hm2; have KM2 := Lib.hid km2; clear bk hm2 km2))
      go_wp2
      go_ret
      obtain ⟨r1, r2⟩ := PlayAt.both (Z := Z) P1.out (fun k q => ⟨(P2.out k q).1, by have := P2.out k q; omega, (P2.out k q).2.2⟩) (fun k q => ⟨(P3.out k q).1, by have := P3.out k q; omega, (P3.out k q).2.2⟩) Q6.out (fun k z => by have := HZ.out k z; omega) HB1.out KB1.out HM2.out KM2.out
      exact ⟨l ++ [⟨n + 1, op.queue, op.seq, op.cons, false⟩], n + 1, rfl, by simp; omega, by omega, by omega, r1, (KA.out.mono (fun _ _ q => q.elim)).trans r2⟩
  exact key kd (by omega) hkk

end Go.Proofs.Ytchpkonlfjbkeaa
