/-
  The walk of BookOnce.
-/
import Derived.Test.YtchpkonlfjbkeaaBookOnce
namespace Go.Proofs.Ytchpkonlfjbkeaa
open Go.RowKit

set_option maxHeartbeats 3200000 in
set_option maxRecDepth 100000 in
theorem bookOnce_walk (A : Option Addr) (c : Nat) (ops : List BOp) (w : World) (hr : Rd w (· < w.heap.size) A (ops.flatMap BOp.cells)) (hl : ops.length * 56 ≤ 140737488351232) :
    Calls Try.prog 3 #[.slice A ops.length c] w fun e w' => e = .returned (.bool true) ∧ Kept noneS w w' := by
  have HR := Lib.hid hr
  clear hr
  go_enter Try.func3, Try.ntmps3
  go_wp2_with fail
  refine (speaks_ok w).mono ?_
  rintro e w1 ⟨rfl, k1⟩
  have K1 := Lib.hid k1
  clear k1
  go_wp2_with fail
  refine (bookNew w1).mono ?_
  rintro e w2 ⟨rfl, h2, k2⟩
  have hp : w.heap.size ≤ w1.heap.size := K1.out.size
  have H2 := Lib.hid (BookAt.tight h2)
  have K2 := Lib.hid (K1.out.trans k2)
  have hs2 := k2.size
  clear h2 k2 K1
  generalize hpp : w1.heap.size = p at hp hs2 H2 ⊢
  clear hpp
  go_upto_block 0 with (fail)
  have HO : Hid (OnceAt w (((w2.alloc (.cells #[] 3)).alloc (.cells #[.int .i64 0] 3)).alloc (.cells #[.slice (some ⟨w2.heap.size, 0, none⟩) 0 0] 26)) p (w2.heap.size + 1) (w2.heap.size + 1 + 1) [] [] 0) := by
    have kk : Kept noneS w2 (((w2.alloc (.cells #[] 3)).alloc (.cells #[.int .i64 0] 3)).alloc (.cells #[.slice (some ⟨w2.heap.size, 0, none⟩) 0 0] 26)) := (((Kept.refl _ _).alloc _).alloc _).alloc _
    have bd := Blk.new ((w2.alloc (.cells #[] 3)).alloc (.cells #[.int .i64 0] 3)) 26 #[.slice (some ⟨w2.heap.size, 0, none⟩) 0 0]
    have bg := (Blk.new (w2.alloc (.cells #[] 3)) 3 #[.int .i64 0]).alloc (.cells #[.slice (some ⟨w2.heap.size, 0, none⟩) 0 0] 26)
    rw [World.size_alloc, World.size_alloc] at bd
    rw [World.size_alloc] at bg
    refine Lib.hid ⟨fun k => p ≤ k ∧ k < w2.heap.size, fun k => k = w2.heap.size ∨ k = w2.heap.size + 1 + 1, fun k a b => by omega, fun k q => by simp; omega, fun k q => by simp; omega, H2.out.still kk, ⟨_, bd, (((Own.empty w2 3 1 _ (.inl rfl)).alloc _).alloc _), .inr rfl⟩, bg, by omega, K2.out.trans kk⟩
  generalize (((w2.alloc (.cells #[] 3)).alloc (.cells #[.int .i64 0] 3)).alloc (.cells #[.slice (some ⟨w2.heap.size, 0, none⟩) 0 0] 26)) = w3 at HO ⊢
  generalize hbd : w2.heap.size + 1 + 1 = bd at HO ⊢
  generalize hbg : w2.heap.size + 1 = bg at HO ⊢
  clear hbg hbd K2 H2 hs2 hp
  go_wp2_with fail
  go_loopw [22] (fun i wr => ∃ (j : Nat) (l : List Slip) (ds : List Int) (n : Int), j ≤ ops.length ∧ i = .int .i64 j ∧ Inv l ds n ∧ 0 ≤ n ∧ n ≤ j ∧ OnceAt w wr p bg bd l ds n) (fun i _ => ops.length - (intOf i).toNat)
  case atStart => exact ⟨0, [], [], 0, Nat.zero_le _, rfl, Inv.nil, Int.le_refl _, Int.le_refl _, HO.out⟩
  case round =>
    obtain ⟨j, l, ds, n, hj, rfl, hinv, hn0, hnj, honce⟩ := hrel
    have HI := Lib.hid hinv
    have hln : l.length ≤ j ∧ ds.length ≤ j ∧ l.length + ds.length ≤ j := by have := hinv.2.2; omega
    have HK := Lib.hid honce.choose_spec.choose_spec.2.2.2.2.2.2.2
    have HN := Lib.hid honce
    obtain ⟨hl1, hl2, hl3⟩ := hln
    clear hinv honce
    by_cases hlt : j < ops.length
    · obtain ⟨g, o, rfl, hg, d0, d1, d2, d3, d4, d5, d6⟩ := (HR.out.keep HK.out (fun _ _ _ q => q.elim)).bop hlt
      generalize ops[j] = op at d0 d1 d2 d3 d4 d5 d6
      have a3 := and3 op.kind
      have hk4 : (op.kind % 4).toNat < 4 := by omega
      generalize (op.kind % 4).toNat = kd at a3 hk4
      have HBk0 := Blk.new wr 32 #[.int .i64 op.kind, .int .i64 op.tag, .bool op.multiple, .bool op.hold, .string op.queue, .int .i64 op.seq, .int .i64 op.cons]
      have KA0 : Kept noneS wr (wr.alloc (.cells #[.int .i64 op.kind, .int .i64 op.tag, .bool op.multiple, .bool op.hold, .string op.queue, .int .i64 op.seq, .int .i64 op.cons] 32)) := (Kept.refl _ _).alloc _
      go_upto_block 2 with (fail)
      generalize (wr.alloc (.cells #[.int .i64 op.kind, .int .i64 op.tag, .bool op.multiple, .bool op.hold, .string op.queue, .int .i64 op.seq, .int .i64 op.cons] 32)) = wa at HBk0 KA0 ⊢
      obtain ⟨FB, FD, p1, p2, p3, p4, p5, p6, p7, p8⟩ := HN.out
      have P1 := Lib.hid p1
      have PB := Lib.hid (fun k q => (p2 k q).2.1)
      have hbg0 := p7
      have has := KA0.size
      have Q2 : Hid (∀ k, FB k → w.heap.size ≤ k ∧ k < wa.heap.size ∧ k ≠ bg) := Lib.hid (fun k q => by have := p2 k q; omega)
      have Q3 : Hid (∀ k, FD k → w.heap.size ≤ k ∧ k < wa.heap.size ∧ k ≠ bg) := Lib.hid (fun k q => by have := p3 k q; omega)
      have Q4 := Lib.hid (p4.still KA0)
      have Q5 := Lib.hid (p5.keep KA0 (fun _ _ _ q => q.elim))
      have Q6 := Lib.hid (p6.keep KA0 (fun q => q))
      have Q8 := Lib.hid (p8.trans KA0)
      have HBk := Lib.hid HBk0
      have y0 : wa.cell? ⟨wr.heap.size, 1, none⟩ = some (.int .i64 op.tag) := HBk.out.cell 1
      have y1 : wa.cell? ⟨wr.heap.size, 2, none⟩ = some (.bool op.multiple) := HBk.out.cell 2
      have y2 : wa.cell? ⟨wr.heap.size, 3, none⟩ = some (.bool op.hold) := HBk.out.cell 3
      have y3 : wa.cell? ⟨wr.heap.size, 4, none⟩ = some (.string op.queue) := HBk.out.cell 4
      have y4 : wa.cell? ⟨wr.heap.size, 5, none⟩ = some (.int .i64 op.seq) := HBk.out.cell 5
      have y5 : wa.cell? ⟨wr.heap.size, 6, none⟩ = some (.int .i64 op.cons) := HBk.out.cell 6
      clear p1 p2 p3 p4 p5 p6 p7 p8 KA0 HBk0 HN HK d0 d1 d2 d3 d4 d5 d6
      rcases kd with _ | _ | _ | _ | kd
      · go_wp2_with fail
        refine (bookGive op.queue op.seq op.cons wa (fun k => FB k ∨ wa.heap.size ≤ k) p l n (Q4.out.mono fun _ _ h => .inl h) (fun i hi => .inr hi) hn0 (by omega) (by omega)).mono ?_
        rintro e w4 ⟨rfl, h4, k4⟩
        obtain ⟨y0, y1, hon⟩ := OnceAt.give P1.out Q2.out Q3.out Q5.out Q6.out hbg0 Q8.out h4 k4
        have ON := Lib.hid hon
        clear h4 k4 hon
        go_wp2
        go_roundw
        case rel => exact ⟨j + 1, _, ds, n + 1, by omega, by go_num, HI.out.give hn0 _ rfl, by omega, by omega, ON.out⟩
        case measure => simp [intOf]; omega
      · go_wp2_with fail
        refine (bookGive op.queue op.seq op.cons wa (fun k => FB k ∨ wa.heap.size ≤ k) p l n (Q4.out.mono fun _ _ h => .inl h) (fun i hi => .inr hi) hn0 (by omega) (by omega)).mono ?_
        rintro e w4 ⟨rfl, h4, k4⟩
        obtain ⟨y0, y1, hon⟩ := OnceAt.give P1.out Q2.out Q3.out Q5.out Q6.out hbg0 Q8.out h4 k4
        have ON := Lib.hid hon
        clear h4 k4 hon
        go_wp2
        go_roundw
        case rel => exact ⟨j + 1, _, ds, n + 1, by omega, by go_num, HI.out.give hn0 _ rfl, by omega, by omega, ON.out⟩
        case measure => simp [intOf]; omega
      · cases hh : op.hold
        · rw [hh] at y2 HBk
          clear hh
          go_wp2_with fail
          refine (bookAck op.tag op.multiple false wa FB p l n Q4.out (by omega)).mono ?_
          obtain ⟨q, e1, e2⟩ := ack_part l op.tag op.multiple
          rw [e1, e2]
          clear e1 e2
          generalize ackOk l op.tag op.multiple = okk
          rintro e w4 ⟨A4, c4, rfl, o4, h4, k4⟩
          have z2 : w4.cell? ⟨wr.heap.size, 3, none⟩ = some (.bool false) := (HBk.out.keep k4 (fun q => Nat.lt_irrefl _ (PB.out _ q))).cell 3
          have z1 := k4.size
          have R2 : Hid (∀ k, FB k → w.heap.size ≤ k ∧ k < w4.heap.size ∧ k ≠ bg) := Lib.hid (fun k q => by have := Q2.out k q; omega)
          have R3 : Hid (∀ k, FD k → w.heap.size ≤ k ∧ k < w4.heap.size ∧ k ≠ bg) := Lib.hid (fun k q => by have := Q3.out k q; omega)
          have R4 := Lib.hid h4
          have R5 := Lib.hid (Q5.out.keep k4 (fun k _ a b => P1.out k b a))
          have R6 := Lib.hid (Q6.out.keep k4 (fun q => (Q2.out bg q).2.2 rfl))
          have R8 := Lib.hid (Q8.out.trans2 k4 (fun i hi q => by have := Q2.out i q; exact absurd hi (by omega)))
          have O4 := Lib.hid o4
          have hfl : (l.filter q).length ≤ l.length := List.length_filter_le _ _
          have HP := Lib.hid (HI.out.part q)
          clear h4 k4 o4
          generalize hxs : l.filter q = xs at O4 hfl HP ⊢
          clear hxs
          go_wp2_with fail
          refine (finish_ok A4 c4 xs ds n w4 (fun k => FD k ∨ w4.heap.size ≤ k) (wa.heap.size ≤ ·) bg bd (Own.rd O4.out) R6.out (R5.out.mono fun _ _ h => .inl h) (fun k a b e => by
            rcases b with b | b
            · have := Q3.out k b; omega
            · omega) (fun q => by
            rcases q with q | q
            · exact (R3.out bg q).2.2 rfl
            · have := R6.out.lt; omega) (fun i hi => .inr hi) HP.out.1 (by omega)).mono ?_
          rintro e w5 ⟨rfl, h5, k5⟩
          have ON := Lib.hid (OnceAt.done P1.out R2.out R3.out R4.out R6.out hbg0 R8.out h5 k5)
          clear h5 k5
          go_wp2
          go_roundw
          case rel => exact ⟨j + 1, _, _, n, by omega, by go_num, HP.out.2, hn0, by omega, ON.out⟩
          case measure => simp [intOf]; omega
        · rw [hh] at y2 HBk
          clear hh
          go_wp2_with fail
          refine (bookAck op.tag op.multiple true wa FB p l n Q4.out (by omega)).mono ?_
          rintro e w4 ⟨A4, c4, rfl, o4, h4, k4⟩
          have z2 : w4.cell? ⟨wr.heap.size, 3, none⟩ = some (.bool true) := (HBk.out.keep k4 (fun q => Nat.lt_irrefl _ (PB.out _ q))).cell 3
          have ON := Lib.hid (OnceAt.book P1.out Q2.out Q3.out Q5.out Q6.out hbg0 Q8.out h4 k4)
          have HT := Lib.hid (HI.out.same (tags_hold l op.tag op.multiple))
          clear h4 k4 o4
          generalize ackOut l op.tag op.multiple true = xs
          generalize ackOk l op.tag op.multiple = okk
          go_wp2
          go_roundw
          case rel => exact ⟨j + 1, _, ds, n, by omega, by go_num, HT.out, hn0, by omega, ON.out⟩
          case measure => simp [intOf]; omega
      · cases hh : op.hold
        · rw [hh] at y2 HBk
          clear hh
          go_wp2_with fail
          refine (bookCommit wa FB p l n Q4.out (by omega)).mono ?_
          rintro e w4 ⟨A4, c4, rfl, o4, h4, k4⟩
          have z1 := k4.size
          have R2 : Hid (∀ k, FB k → w.heap.size ≤ k ∧ k < w4.heap.size ∧ k ≠ bg) := Lib.hid (fun k q => by have := Q2.out k q; omega)
          have R3 : Hid (∀ k, FD k → w.heap.size ≤ k ∧ k < w4.heap.size ∧ k ≠ bg) := Lib.hid (fun k q => by have := Q3.out k q; omega)
          have R4 := Lib.hid h4
          have R5 := Lib.hid (Q5.out.keep k4 (fun k _ a b => P1.out k b a))
          have R6 := Lib.hid (Q6.out.keep k4 (fun q => (Q2.out bg q).2.2 rfl))
          have R8 := Lib.hid (Q8.out.trans2 k4 (fun i hi q => by have := Q2.out i q; exact absurd hi (by omega)))
          have O4 := Lib.hid o4
          have hfl : (l.filter Slip.held).length ≤ l.length := List.length_filter_le _ _
          have HP := Lib.hid (HI.out.part Slip.held)
          clear h4 k4 o4
          generalize hxs : l.filter Slip.held = xs at O4 hfl HP ⊢
          clear hxs
          go_wp2_with fail
          refine (finish_ok A4 c4 xs ds n w4 (fun k => FD k ∨ w4.heap.size ≤ k) (wa.heap.size ≤ ·) bg bd (Own.rd O4.out) R6.out (R5.out.mono fun _ _ h => .inl h) (fun k a b e => by
            rcases b with b | b
            · have := Q3.out k b; omega
            · omega) (fun q => by
            rcases q with q | q
            · exact (R3.out bg q).2.2 rfl
            · have := R6.out.lt; omega) (fun i hi => .inr hi) HP.out.1 (by omega)).mono ?_
          rintro e w5 ⟨rfl, h5, k5⟩
          have ON := Lib.hid (OnceAt.done P1.out R2.out R3.out R4.out R6.out hbg0 R8.out h5 k5)
          clear h5 k5
          go_wp2
          go_roundw
          case rel => exact ⟨j + 1, _, _, n, by omega, by go_num, HP.out.2, hn0, by omega, ON.out⟩
          case measure => simp [intOf]; omega
        · rw [hh] at y2 HBk
          clear hh
          go_wp2_with fail
          refine (bookRollback wa FB p l n Q4.out (by omega)).mono ?_
          rintro e w4 ⟨rfl, h4, k4⟩
          have ON := Lib.hid (OnceAt.book P1.out Q2.out Q3.out Q5.out Q6.out hbg0 Q8.out h4 k4)
          clear h4 k4
          go_wp2
          go_roundw
          case rel => exact ⟨j + 1, _, ds, n, by omega, by go_num, HI.out.same (tags_held false l), hn0, by omega, ON.out⟩
          case measure => simp [intOf]; omega
      · omega
    · obtain rfl : j = ops.length := by omega
      obtain ⟨FB, FD, p1, p2, p3, p4, p5, p6, p7, p8⟩ := HN.out
      have P1 := Lib.hid p1
      have hbg0 := p7
      have Q2 := Lib.hid p2
      have Q3 := Lib.hid p3
      have Q4 := Lib.hid p4
      have Q5 := Lib.hid p5
      have Q6 := Lib.hid p6
      have Q8 := Lib.hid p8
      clear p1 p2 p3 p4 p5 p6 p7 p8 HN
      obtain ⟨wo, rfl⟩ : ∃ wo : World, wo = wr := ⟨_, rfl⟩
      go_wp2_with fail
      refine (bookRollback wo FB p l n Q4.out (by omega)).mono ?_
      rintro e w4 ⟨rfl, h4, k4⟩
      have z1 := k4.size
      have R2 : Hid (∀ k, FB k → w.heap.size ≤ k ∧ k < w4.heap.size ∧ k ≠ bg) := Lib.hid (fun k q => by have := Q2.out k q; omega)
      have R3 : Hid (∀ k, FD k → w.heap.size ≤ k ∧ k < w4.heap.size ∧ k ≠ bg) := Lib.hid (fun k q => by have := Q3.out k q; omega)
      have R4 := Lib.hid h4
      have R5 := Lib.hid (Q5.out.keep k4 (fun k _ a b => P1.out k b a))
      have R6 := Lib.hid (Q6.out.keep k4 (fun q => (Q2.out bg q).2.2 rfl))
      have R8 := Lib.hid (Q8.out.trans2 k4 (fun i hi q => by have := Q2.out i q; exact absurd hi (by omega)))
      clear h4 k4
      go_wp2_with fail
      refine (bookAck 0 true false w4 FB p (l.map (Slip.hold false)) n R4.out (by simp; omega)).mono ?_
      obtain ⟨e1, e2, e3⟩ := ack_all l
      rw [e1, e2, e3]
      clear e1 e2 e3
      rintro e w5 ⟨A5, c5, rfl, o5, h5, k5⟩
      have y1 := k5.size
      have S2 : Hid (∀ k, FB k → w.heap.size ≤ k ∧ k < w5.heap.size ∧ k ≠ bg) := Lib.hid (fun k q => by have := R2.out k q; omega)
      have S3 : Hid (∀ k, FD k → w.heap.size ≤ k ∧ k < w5.heap.size ∧ k ≠ bg) := Lib.hid (fun k q => by have := R3.out k q; omega)
      have S4 := Lib.hid h5
      have S5 := Lib.hid (R5.out.keep k5 (fun k _ a b => P1.out k b a))
      have S6 := Lib.hid (R6.out.keep k5 (fun q => (R2.out bg q).2.2 rfl))
      have S8 := Lib.hid (R8.out.trans2 k5 (fun i hi q => by have := R2.out i q; exact absurd hi (by omega)))
      have O5 := Lib.hid o5
      clear h5 k5 o5
      have HP : Hid (FinOk (l.map (Slip.hold false)) ds n) := Lib.hid (by
        have h := ((HI.out.same (tags_held false l)).part (fun _ => true)).1
        rwa [List.filter_eq_self.2 (fun _ _ => rfl)] at h)
      have hxl : (l.map (Slip.hold false)).length ≤ l.length := by simp
      have HLen : Hid (((ds ++ (l.map (Slip.hold false)).map Slip.tag).length : Int) = n) := Lib.hid (by have := HI.out.2.2; simp; omega)
      generalize l.map (Slip.hold false) = xs at O5 HP hxl HLen ⊢
      go_wp2_with fail
      refine (finish_ok A5 c5 xs ds n w5 (fun k => FD k ∨ w5.heap.size ≤ k) (w4.heap.size ≤ ·) bg bd (Own.rd O5.out) S6.out (S5.out.mono fun _ _ h => .inl h) (fun k a b e => by
        rcases b with b | b
        · have := R3.out k b; omega
        · omega) (fun q => by
        rcases q with q | q
        · exact (S3.out bg q).2.2 rfl
        · have := S6.out.lt; omega) (fun i hi => .inr hi) HP.out (by omega)).mono ?_
      rintro e w6 ⟨rfl, h6, k6⟩
      have ON := Lib.hid (OnceAt.done P1.out S2.out S3.out S4.out S6.out hbg0 S8.out h6 k6)
      clear h6 k6
      obtain ⟨GB, GD, _, _, _, g4, g5, g6, _, g8⟩ := ON.out
      obtain ⟨sv, b1, b2, _⟩ := g5
      obtain ⟨A6, c6, rfl, _⟩ := Own.form b2
      have u0 : w6.cell? ⟨bd, 0, none⟩ = some (.slice A6 (ds ++ xs.map Slip.tag).length c6) := b1.cell 0
      have u1 : w6.cell? ⟨bg, 0, none⟩ = some (.int .i64 n) := g6.cell 0
      have he : (((ds ++ xs.map Slip.tag).length : Int) == n) = true := by rw [HLen.out]; exact beq_self_eq_true n
      have G4 := Lib.hid g4
      have G8 := Lib.hid g8
      clear g4 g6 g8 b1 b2 ON
      generalize (ds ++ xs.map Slip.tag).length = dl at u0 he HLen
      go_wp2_with fail
      refine (bookCount 0 w6 GB p [] n G4.out (by decide)).mono ?_
      rw [show (List.countP (fun s : Slip => (0 : Int) == 0 || s.cons == 0) []) = 0 from rfl]
      rintro e w7 ⟨rfl, k7⟩
      have K7 := Lib.hid (G8.out.trans k7)
      clear k7
      go_wp2
      go_ret
      exact ⟨rfl, K7.out⟩

end Go.Proofs.Ytchpkonlfjbkeaa
