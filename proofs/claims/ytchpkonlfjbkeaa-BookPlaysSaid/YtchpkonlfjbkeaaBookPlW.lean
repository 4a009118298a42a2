/-
  The walk of BookPlays.
-/
import Derived.Test.YtchpkonlfjbkeaaBookPl3
namespace Go.Proofs.Ytchpkonlfjbkeaa
open Go.RowKit

theorem step_ok (op : BOp) (w0 w : World) (p m : Nat) (l : List Slip) (n : Int) (j : Nat) (Z : Nat → Prop) (hZ : ∀ k, Z k → k < w.heap.size) (h : PlayAt w0 Z w p m l n) (hll : l.length ≤ j) (hn0 : 0 ≤ n) (hnj : n ≤ j) (hl : (j + 1) * 56 ≤ 140737488351232) :
    Calls Try.prog 16 #[.pointer (some ⟨p, 0, none⟩), .pointer (some ⟨m, 0, none⟩), .agg #[.int .i64 op.kind, .int .i64 op.tag, .bool op.multiple, .bool op.hold, .string op.queue, .int .i64 op.seq, .int .i64 op.cons]] w (StepPost w0 Z w p m j) := by
  have a7 := and7 op.kind
  have hk8 : (op.kind % 8).toNat < 8 := by omega
  generalize (op.kind % 8).toNat = kd at a7 hk8
  by_cases h2 : kd ≤ 2
  · exact step_give op w0 w p m l n j Z hZ h hll hn0 hnj hl kd h2 a7
  · rcases (by omega : kd = 3 ∨ kd = 4 ∨ kd = 5 ∨ kd = 6 ∨ kd = 7) with rfl | rfl | rfl | rfl | rfl
    · exact step_ack3 op w0 w p m l n j Z hZ h hll hn0 hnj hl a7
    · exact step_ack4 op w0 w p m l n j Z hZ h hll hn0 hnj hl a7
    · exact step_commit op w0 w p m l n j Z hZ h hll hn0 hnj hl a7
    · cases hh : op.hold
      · exact step_next op w0 w p m l n j Z hZ h hll hn0 hnj hl a7
      · exact step_roll op w0 w p m l n j Z hZ h hll hn0 hnj hl a7
    · exact step_drop op w0 w p m l n j Z hZ h hll hn0 hnj hl a7

set_option maxHeartbeats 3200000 in
set_option maxRecDepth 100000 in
theorem bookPlays_walk (A : Option Addr) (c : Nat) (ops : List BOp) (w : World) (hr : Rd w (· < w.heap.size) A (ops.flatMap BOp.cells)) (hl : ops.length * 56 ≤ 140737488351232) :
    Calls Try.prog 5 #[.slice A ops.length c] w fun e w' => e = .returned (.bool true) ∧ Kept noneS w w' := by
  have HR := Lib.hid hr
  clear hr
  go_enter Try.func5, Try.ntmps5
  go_wp2_with fail
  refine (speaks_ok w).mono ?_
  rintro e w1 ⟨rfl, k1⟩
  have K1 := Lib.hid k1
  clear k1
  go_wp2_with fail
  refine (bookNew w1).mono ?_
  rintro e w2 ⟨rfl, h2, k2⟩
  have hp : w.heap.size ≤ w1.heap.size := K1.out.size
  have hz2 := k2.size
  have HPl : Hid (PlayAt w noneS (w2.alloc (.cells #[.slice none 0 0, .int .i64 0] 42)) w1.heap.size w2.heap.size [] 0) := Lib.hid (by
    have b1 := (h2.tight).still ((Kept.refl noneS w2).alloc (.cells #[.slice none 0 0, .int .i64 0] 42))
    refine ⟨_, (· = w2.heap.size), ?_, ?_, ?_, b1, ⟨_, Blk.new _ _ _, Own.nil _ _ _ _, rfl⟩, (K1.out.trans k2).alloc _⟩
    · rintro k ⟨a, b⟩ q
      omega
    · rintro k ⟨a, b⟩
      exact ⟨by omega, by simp; omega, fun q => q⟩
    · intro k q
      exact ⟨by omega, by simp; omega, fun q => q⟩)
  clear h2 k2 K1
  generalize w1.heap.size = p at hp hz2 HPl ⊢
  go_wp2
  go_loopw [17] (fun i wr => ∃ (j : Nat) (l : List Slip) (n : Int), j ≤ ops.length ∧ i = .int .i64 j ∧ l.length ≤ j ∧ 0 ≤ n ∧ n ≤ j ∧ PlayAt w noneS wr p w2.heap.size l n) (fun i _ => ops.length - (intOf i).toNat)
  case atStart => exact ⟨0, [], 0, Nat.zero_le _, rfl, Nat.le_refl _, Int.le_refl _, Int.le_refl _, HPl.out⟩
  case round =>
    clear HPl
    generalize w2.heap.size = m at hz2 hrel ⊢
    obtain ⟨j, l, n, hj, rfl, hll, hn0, hnj, hplay⟩ := hrel
    have HPl := Lib.hid hplay
    clear hplay
    have HK : Hid (Kept noneS w wr) := Lib.hid (by obtain ⟨_, _, _, _, _, _, _, h6⟩ := HPl.out; exact h6)
    by_cases hlt : j < ops.length
    · obtain ⟨g, o, rfl, hg, d0, d1, d2, d3, d4, d5, d6⟩ := (HR.out.keep HK.out (fun _ _ _ q => q.elim)).bop hlt
      generalize ops[j] = op at d0 d1 d2 d3 d4 d5 d6
      have HPa : Hid (PlayAt w (· = wr.heap.size) (wr.alloc (.cells #[.int .i64 op.kind, .int .i64 op.tag, .bool op.multiple, .bool op.hold, .string op.queue, .int .i64 op.seq, .int .i64 op.cons] 32)) p m l n) := Lib.hid (HPl.out.away ((Kept.refl noneS wr).alloc _) (fun _ q => q.elim) (fun k q => .inr (Nat.le_of_eq q.symm)))
      have HBk := Lib.hid (Blk.new wr 32 #[.int .i64 op.kind, .int .i64 op.tag, .bool op.multiple, .bool op.hold, .string op.queue, .int .i64 op.seq, .int .i64 op.cons])
      go_upto_region 9 with (fail)
      have hz : wr.heap.size < (wr.alloc (.cells #[.int .i64 op.kind, .int .i64 op.tag, .bool op.multiple, .bool op.hold, .string op.queue, .int .i64 op.seq, .int .i64 op.cons] 32)).heap.size := by simp
      clear HPl HK d0 d1 d2 d3 d4 d5 d6
      generalize wr.alloc (.cells #[.int .i64 op.kind, .int .i64 op.tag, .bool op.multiple, .bool op.hold, .string op.queue, .int .i64 op.seq, .int .i64 op.cons] 32) = wa at HPa HBk hz ⊢
      generalize wr.heap.size = bo at HPa HBk hz ⊢
      have a0 : wa.cell? ⟨bo, 0, none⟩ = some (.int .i64 op.kind) := HBk.out.cell 0; have a1 : wa.cell? ⟨bo, 1, none⟩ = some (.int .i64 op.tag) := HBk.out.cell 1; have a2 : wa.cell? ⟨bo, 2, none⟩ = some (.bool op.multiple) := HBk.out.cell 2; have a3 : wa.cell? ⟨bo, 3, none⟩ = some (.bool op.hold) := HBk.out.cell 3; have a4 : wa.cell? ⟨bo, 4, none⟩ = some (.string op.queue) := HBk.out.cell 4; have a5 : wa.cell? ⟨bo, 5, none⟩ = some (.int .i64 op.seq) := HBk.out.cell 5; have a6 : wa.cell? ⟨bo, 6, none⟩ = some (.int .i64 op.cons) := HBk.out.cell 6
      go_region_held3 (fun W => W.cell? ⟨bo, 0, none⟩ = some (.int .i64 op.kind) ∧ W.cell? ⟨bo, 1, none⟩ = some (.int .i64 op.tag) ∧ W.cell? ⟨bo, 2, none⟩ = some (.bool op.multiple) ∧ W.cell? ⟨bo, 3, none⟩ = some (.bool op.hold) ∧ W.cell? ⟨bo, 4, none⟩ = some (.string op.queue) ∧ W.cell? ⟨bo, 5, none⟩ = some (.int .i64 op.seq) ∧ W.cell? ⟨bo, 6, none⟩ = some (.int .i64 op.cons))
        (first | exact ⟨a0, a1, a2, a3, a4, a5, a6⟩ | exact ⟨b0, b1, b2, b3, b4, b5, b6⟩ | exact ⟨c0, c1, c2, c3, c4, c5, c6⟩ | exact ⟨e0, e1, e2, e3, e4, e5, e6⟩)
        (first
          | (go_at_call 16; refine (step_ok op w wa.drew p m l n j (· = bo) (fun k q => by subst q; exact hz) (HPa.out.still ((Kept.refl noneS wa).drew)) hll hn0 hnj (by omega)).mono ?_; rintro e w4 ⟨l', n', rfl, hl', hn0', hn', hp4, k0⟩; have k4 : Kept (fun k => ¬ k = bo) wa w4 := ⟨k0.os, k0.tape, k0.output, k0.size, k0.block⟩; clear k0; have bk := HBk.out.keep k4 (fun q => q rfl); have b0 : w4.cell? ⟨bo, 0, none⟩ = some (.int .i64 op.kind) := bk.cell 0; have b1 : w4.cell? ⟨bo, 1, none⟩ = some (.int .i64 op.tag) := bk.cell 1; have b2 : w4.cell? ⟨bo, 2, none⟩ = some (.bool op.multiple) := bk.cell 2; have b3 : w4.cell? ⟨bo, 3, none⟩ = some (.bool op.hold) := bk.cell 3; have b4 : w4.cell? ⟨bo, 4, none⟩ = some (.string op.queue) := bk.cell 4; have b5 : w4.cell? ⟨bo, 5, none⟩ = some (.int .i64 op.seq) := bk.cell 5; have b6 : w4.cell? ⟨bo, 6, none⟩ = some (.int .i64 op.cons) := bk.cell 6; have BK := Lib.hid bk; have HP4 := Lib.hid hp4; clear bk hp4 k4)
          | (go_at_call 13; obtain ⟨FB, FM, p1, p2, p3, p4, p5, p6⟩ := HP4.out; refine (bookCount op.cons w4 FB p l' n' p4 (by omega)).mono ?_; rintro e w5 ⟨rfl, k5⟩; have bk := BK.out.keep k5 (fun q => q); have c0 : w5.cell? ⟨bo, 0, none⟩ = some (.int .i64 op.kind) := bk.cell 0; have c1 : w5.cell? ⟨bo, 1, none⟩ = some (.int .i64 op.tag) := bk.cell 1; have c2 : w5.cell? ⟨bo, 2, none⟩ = some (.bool op.multiple) := bk.cell 2; have c3 : w5.cell? ⟨bo, 3, none⟩ = some (.bool op.hold) := bk.cell 3; have c4 : w5.cell? ⟨bo, 4, none⟩ = some (.string op.queue) := bk.cell 4; have c5 : w5.cell? ⟨bo, 5, none⟩ = some (.int .i64 op.seq) := bk.cell 5; have c6 : w5.cell? ⟨bo, 6, none⟩ = some (.int .i64 op.cons) := bk.cell 6; have BK5 := Lib.hid bk; have HP5 := Lib.hid (HP4.out.still k5); clear bk k5 p1 p2 p3 p4 p5 p6)
          | (go_at_call 17; obtain ⟨FB, FM, p1, p2, p3, p4, p5, p6⟩ := HP5.out; refine (refCount op.cons w5 FM m l' n' p5 (by omega)).mono ?_; rintro e w6 ⟨rfl, k6⟩; have bk := BK5.out.keep k6 (fun q => q); have e0 : w6.cell? ⟨bo, 0, none⟩ = some (.int .i64 op.kind) := bk.cell 0; have e1 : w6.cell? ⟨bo, 1, none⟩ = some (.int .i64 op.tag) := bk.cell 1; have e2 : w6.cell? ⟨bo, 2, none⟩ = some (.bool op.multiple) := bk.cell 2; have e3 : w6.cell? ⟨bo, 3, none⟩ = some (.bool op.hold) := bk.cell 3; have e4 : w6.cell? ⟨bo, 4, none⟩ = some (.string op.queue) := bk.cell 4; have e5 : w6.cell? ⟨bo, 5, none⟩ = some (.int .i64 op.seq) := bk.cell 5; have e6 : w6.cell? ⟨bo, 6, none⟩ = some (.int .i64 op.cons) := bk.cell 6; have HP6 := Lib.hid (HP5.out.away (Z' := noneS) k6 (fun _ q => q.elim) (fun _ q => q.elim)); have hnn : (((l'.countP fun s => op.cons == 0 || s.cons == op.cons : Nat) : Int) != ((l'.countP fun s => op.cons == 0 || s.cons == op.cons : Nat) : Int)) = false := (by simp); clear bk k6 p1 p2 p3 p4 p5 p6))
      clear HP5 HP4 HPa BK BK5 HBk
      clear a0 a1 a2 a3 a4 a5 a6 b0 b1 b2 b3 b4 b5 b6 c0 c1 c2 c3 c4 c5 c6 e0 e1 e2 e3 e4 e5 e6
      generalize (l'.countP fun s => op.cons == 0 || s.cons == op.cons) = cnt at hnn ⊢
      obtain ⟨FB, FM, p1, p2, p3, p4, p5, p6⟩ := HP6.out
      have Q4 := Lib.hid p4
      have Q5 := Lib.hid p5
      clear p1 p2 p3 p4 p5 p6
      go_wp2_with fail
      refine (bookSlips w6 FB p l' n' Q4.out (by omega)).mono ?_
      rintro e w7 ⟨A7, c7, rfl, o7, k7⟩
      have HP7 := Lib.hid (HP6.out.still k7)
      have R7 := Lib.hid (Q5.out.still k7)
      have B7 := Lib.hid (Q4.out.still k7)
      have hz7 := k7.size
      have X7 := Lib.hid (o7.mono (G := fun k => w6.heap.size ≤ k ∧ k < w7.heap.size) (fun k a b => ⟨b, a⟩))
      have K67 := Lib.hid k7
      clear o7 k7 Q4 Q5
      obtain ⟨svm, bm, om, fm⟩ := R7.out
      obtain ⟨AM, cM, rfl, _⟩ := Own.form om
      have f7 : w7.cell? ⟨m, 0, none⟩ = some (.slice AM l'.length cM) := bm.cell 0
      have BM := Lib.hid bm
      have OM := Lib.hid om
      clear bm om fm
      go_upto_region 12 with (fail)
      go_region_held3 (fun W => W.cell? ⟨m, 0, none⟩ = some (.slice AM l'.length cM))
        (first | exact f7 | exact f8 | exact f9)
        (first
          | (go_at_call 18; refine (refSame A7 c7 AM cM l' _ _ w7.drew (Own.rd X7.out) (Own.rd OM.out) (by omega)).mono ?_; rintro e w8 ⟨rfl, k0⟩; have k8 : Kept noneS w7 w8 := ⟨k0.os, k0.tape, k0.output, k0.size, k0.block⟩; clear k0; have f8 : w8.cell? ⟨m, 0, none⟩ = some (.slice AM l'.length cM) := (BM.out.keep k8 (fun q => q)).cell 0; have K8 := Lib.hid k8; clear k8)
          | (go_at_call 13; refine (bookCount 0 w8 FB p l' n' (B7.out.still K8.out) (by omega)).mono ?_; rw [count_zero]; rintro e w9 ⟨rfl, k9⟩; have K9 := Lib.hid (K8.out.trans k9); have f9 : w9.cell? ⟨m, 0, none⟩ = some (.slice AM l'.length cM) := (BM.out.keep K9.out (fun q => q)).cell 0; have hnm : ((l'.length : Int) != (l'.length : Int)) = false := (by simp); clear k9))
      have hz9 := K9.out.size
      have X9 := Lib.hid ((X7.out.keep0 K9.out (fun _ _ _ q => q.elim)).mono (G := fun k => (w6.heap.size ≤ k ∧ k < w7.heap.size) ∨ w9.heap.size ≤ k) (fun k _ b => .inl b))
      clear f7 f8 f9 BM OM R7 B7 K8
      go_wp2_with fail
      refine (spoil_ok A7 c7 l' _ w9 X9.out (fun i hi => .inr hi) (by omega)).mono ?_
      rintro e w10 ⟨rfl, k10⟩
      have K10 := Lib.hid k10
      clear k10
      have HP10 : Hid (PlayAt w noneS w10 p m l' n') := Lib.hid (by
        refine HP6.out.away (S := fun k => w6.heap.size ≤ k) (((K67.out.trans K9.out).mono (fun _ _ q => q.elim)).trans2 K10.out (fun k _ b => ?_)) (fun _ q => q) (fun _ q => q.elim)
        rcases b with b | b
        · exact b.1
        · omega)
      go_wp2
      go_roundw
      case rel => exact ⟨j + 1, l', n', by omega, by go_num, by omega, hn0', by omega, HP10.out⟩
      case measure => simp [intOf]; omega
    · go_wp2
      go_ret
      obtain ⟨_, _, _, _, _, _, _, h6⟩ := HPl.out
      exact ⟨rfl, h6⟩

end Go.Proofs.Ytchpkonlfjbkeaa
