/-
  The walk of OctetWrites.
-/
import Derived.Test.YtepligggofbegaaOctWrite
namespace Go.Proofs.Ytepligggofbegaa
open Go.RowKit

theorem sum_take (f : OOp → Nat) (l : List OOp) (j : Nat) (h : j < l.length) : ((l.take (j + 1)).map f).sum = ((l.take j).map f).sum + f l[j] := by
  rw [List.take_succ_eq_append_getElem h, List.map_append, List.sum_append]
  simp
theorem sum_take_le (f : OOp → Nat) (l : List OOp) (j : Nat) : ((l.take j).map f).sum ≤ (l.map f).sum := by
  have h : l = l.take j ++ l.drop j := (List.take_append_drop j l).symm
  conv => rhs; rw [h, List.map_append, List.sum_append]
  omega
theorem len_le_bulk (l : List OOp) : l.length ≤ (l.map OOp.bulk).sum := by
  induction l with
  | nil => simp
  | cons x r ih =>
    rw [List.map_cons, List.sum_cons, List.length_cons]
    unfold OOp.bulk at ih ⊢
    omega

set_option maxHeartbeats 3200000 in
set_option maxRecDepth 100000 in
theorem octetWrites_walk (A : Option Addr) (c : Nat) (ops : List OOp) (w : World) (hr : Rd w (· < w.heap.size) A (ops.flatMap OOp.cells)) (hg : ∀ o ∈ ops, o.good w) (hbulk : (ops.map OOp.bulk).sum ≤ 1048576) :
    Calls Try.prog 5 #[.slice A ops.length c] w fun e w' => e = .returned (.bool true) ∧ Kept noneS w w' := by
  have HR := Lib.hid hr
  have HG := Lib.hid hg
  have hol := len_le_bulk ops
  have HBu := Lib.hid hbulk
  have hol2 : ops.length ≤ 1048576 := by omega
  clear hr hg hol hbulk
  go_enter Try.func5, Try.ntmps5
  go_wp2_with fail
  refine (speaks_any w).mono ?_
  rintro e w1 ⟨rfl, k1⟩
  have K1 := Lib.hid k1
  have z1 := k1.size
  clear k1
  go_wp2_with fail
  refine (newWS w1).mono ?_
  rintro e w2 ⟨rfl, h2, k2⟩
  have hz2 := k2.size
  have HPl : Hid (WPlay w noneS (w2.alloc (.cells #[.slice none 0 0, .int .i64 0] 47)) w1.heap.size w2.heap.size ⟨[], 0⟩) := Lib.hid (by
    have b1 := (h2.mono (G := fun k => w1.heap.size ≤ k ∧ k < w2.heap.size) (fun k a q => ⟨q, a⟩)).still ((Kept.refl noneS w2).alloc (.cells #[.slice none 0 0, .int .i64 0] 47))
    refine ⟨_, (· = w2.heap.size), ?_, ?_, ?_, b1, ⟨⟨_, Blk.new _ _ _, Own.nil _ _ _ _, rfl⟩, fun h => absurd rfl h⟩, (K1.out.trans k2).alloc _⟩
    · rintro k ⟨a, b⟩ q
      omega
    · rintro k ⟨a, b⟩
      exact ⟨by omega, by simp; omega, fun q => q⟩
    · intro k q
      exact ⟨by omega, by simp; omega, fun q => q⟩)
  clear h2 k2 K1
  generalize w1.heap.size = p at z1 hz2 HPl ⊢
  go_wp2
  go_loopw [18] (fun i wr => ∃ (j : Nat) (s : WS), j ≤ ops.length ∧ i = .int .i64 j ∧ Hid (s.bs.length ≤ 2 * ((ops.take j).map OOp.bulk).sum) ∧ s.row ≤ j ∧ WPlay w noneS wr p w2.heap.size s) (fun i _ => ops.length - (intOf i).toNat)
  case atStart => exact ⟨0, ⟨[], 0⟩, Nat.zero_le _, rfl, Lib.hid (Nat.zero_le _), Nat.le_refl _, HPl.out⟩
  case round =>
    clear HPl
    generalize w2.heap.size = m at hz2 hrel ⊢
    obtain ⟨j, s, hj, rfl, HSl, hrow, hplay⟩ := hrel
    have HPl := Lib.hid hplay
    clear hplay
    have HK : Hid (Kept noneS w wr) := Lib.hid (by obtain ⟨_, _, _, _, _, _, _, h6⟩ := HPl.out; exact h6)
    have hsl0 : s.bs.length ≤ 2097152 := by have := HSl.out; have := sum_take_le OOp.bulk ops j; have := HBu.out; omega
    by_cases hlt : j < ops.length
    · obtain ⟨g, o, rfl, hgg, d0, d1, d2, d3, d4⟩ := (HR.out.keep HK.out (fun _ _ _ q => q.elim)).oop hlt
      have hgood := HG.out ops[j] (List.getElem_mem hlt)
      have HS1 := Lib.hid (sum_take OOp.bulk ops j hlt)
      have hbj : (ops[j]).bulk ≤ 1048576 := by have := HS1.out; have := sum_take_le OOp.bulk ops (j + 1); have := HBu.out; omega
      generalize ops[j] = op at d0 d1 d2 d3 d4 hgood HS1 hbj
      have HGd := Lib.hid hgood
      have HPa : Hid (WPlay w noneS (wr.alloc (.cells #[.int .i64 op.kind, .int .i64 op.n, .int .i64 op.num, .string op.text, .slice op.addr op.data.length op.cap] 33)) p m s) := Lib.hid (HPl.out.still ((Kept.refl noneS wr).alloc _))
      have HLen := Lib.hid (WS.step_len s op)
      clear hgood
      go_wp2_with fail
      refine (write_ok op w _ p m s noneS (fun _ q => q.elim) HPa.out HGd.out (by omega) (by omega)).mono ?_
      rintro e w4 ⟨rfl, h4, _⟩
      have HP4 := Lib.hid h4
      clear h4 d0 d1 d2 d3 d4 HPa HPl HK
      have hl1 : (s.step op).bs.length ≤ 5000000 := by have := HLen.out; omega
      have hr1 : (s.step op).row ≤ j + 1 := by have := HLen.out; omega
      have HSl2 : Hid ((s.step op).bs.length ≤ 2 * ((ops.take (j + 1)).map OOp.bulk).sum) := Lib.hid (by have := HLen.out; have := HS1.out; have := HSl.out; omega)
      generalize s.step op = s' at HP4 hl1 hr1 HSl2
      clear HLen HSl HS1 hsl0
      obtain ⟨FB, FM, p1, p2, p3, p4, p5, p6⟩ := HP4.out
      have Q4 := Lib.hid p4.1
      have Q5 := Lib.hid p5.1
      clear p1 p2 p3 p4 p5 p6
      go_wp2_with fail
      refine (wBytes w4 FB p s'.bs _ Q4.out (by omega)).mono ?_
      rintro e w5 ⟨v, rfl, o5, k5⟩
      obtain ⟨A5, c5, rfl, _⟩ := Own.form o5
      have z5 := k5.size
      have O5 := Lib.hid (Own.mono o5 (G := fun k => w4.heap.size ≤ k ∧ k < w5.heap.size) (fun k a q => ⟨q, a⟩))
      have K5 := Lib.hid k5
      clear o5 k5
      obtain ⟨svm, bm, om, fm⟩ := Q5.out
      obtain ⟨AM, cM, rfl, _⟩ := Own.form om
      have f5 : w5.cell? ⟨m, 0, none⟩ = some (.slice AM s'.bs.length cM) := (bm.keep K5.out (fun q => q)).cell 0
      have OM := Lib.hid ((OB.rb om).2.still K5.out)
      clear bm om fm Q4 Q5
      go_wp2_with fail
      refine (same_any A5 AM c5 cM s'.bs.length s'.bs.length s'.bs s'.bs _ _ w5 (OB.rb O5.out).2 OM.out rfl rfl).mono ?_
      rintro e w6 ⟨rfl, rfl⟩
      have e2 : (s'.bs == s'.bs) = true := by simp
      rw [e2]
      clear e2 f5 OM
      generalize hdd : s'.bs = dd at O5 hl1 ⊢
      have HDd := Lib.hid hdd
      clear hdd
      go_wp2
      go_loopw [38] (fun i wx => ∃ (q : Nat) (bs : List UInt8), q ≤ dd.length ∧ i = .int .i64 q ∧ bs.length = dd.length ∧ OB wx (fun k => w4.heap.size ≤ k ∧ k < w5.heap.size) (.slice A5 dd.length c5) bs ∧ Kept (fun k => w4.heap.size ≤ k ∧ k < w5.heap.size) w5 wx) (fun i _ => dd.length - (intOf i).toNat)
      case atStart => exact ⟨0, dd, Nat.zero_le _, rfl, rfl, O5.out, Kept.refl _ _⟩
      case round =>
        obtain ⟨q, bs, hq, rfl, hbl, hob, hk⟩ := hrel
        have OBr := Lib.hid hob
        have KR := Lib.hid hk
        have HBl := Lib.hid hbl
        clear hob hk hbl
        by_cases hlt2 : q < dd.length
        · obtain ⟨g2, q2, hA3, hgF, d0, d1, bs', hbs', hob'⟩ := OB.fill_cells OBr.out HBl.out hlt2 0xdd
          subst hA3
          have OB' := Lib.hid hob'
          have HBs' := Lib.hid hbs'
          have HGF := Lib.hid hgF
          clear hob' hbs' hgF
          go_wp2
          go_roundw
          case rel => exact ⟨q + 1, bs', by omega, by go_num, HBs'.out, OB'.out, KR.out.setCell (p := ⟨g2, q, none⟩) (fun _ => HGF.out) _⟩
          case measure => simp [intOf]; omega
        · have HP9 : Hid (WPlay w noneS wr p m s') := Lib.hid (HP4.out.away ((K5.out.mono (S' := fun k => w4.heap.size ≤ k) (fun _ _ q => q.elim)).trans2 KR.out (fun k _ q => q.1)) (fun k q => .inl q) (fun _ q => q.elim))
          go_wp2
          go_roundw
          case rel => exact ⟨j + 1, s', by omega, by go_num, HSl2, hr1, HP9.out⟩
          case measure => simp [intOf]; omega
    · obtain ⟨w4, rfl⟩ : ∃ w4 : World, w4 = wr := ⟨_, rfl⟩
      obtain ⟨FB, FM, p1, p2, p3, p4, p5, p6⟩ := HPl.out
      have Q4 := Lib.hid p4.1
      obtain ⟨svm, bm, om, fm⟩ := p5.1
      obtain ⟨AM, cM, rfl, _⟩ := Own.form om
      have f4 : w4.cell? ⟨m, 0, none⟩ = some (.slice AM s.bs.length cM) := bm.cell 0
      have BM := Lib.hid bm
      have OM := Lib.hid (OB.rb om).2
      clear p1 p2 p3 p4 p5 p6 bm om fm
      have e2 : (s.bs == s.bs) = true := by simp
      have E2 := Lib.hid e2
      clear e2
      go_upto_region 20 with (fail)
      go_region_held3 (fun W => W.cell? ⟨m, 0, none⟩ = some (.slice AM s.bs.length cM))
        (first | exact f4 | exact f5)
        (first
          | (go_at_call 30; refine (wBytes w4.drew FB p s.bs _ Q4.out (by omega)).mono ?_; rintro e w5 ⟨v, rfl, o5, k0⟩; have k5 : Kept noneS w4 w5 := ⟨k0.os, k0.tape, k0.output, k0.size, k0.block⟩; clear k0; obtain ⟨A5, c5, rfl, _⟩ := Own.form o5; have O5 := Lib.hid (OB.rb o5).2; have K5 := Lib.hid k5; have f5 : w5.cell? ⟨m, 0, none⟩ = some (.slice AM s.bs.length cM) := (BM.out.keep k5 (fun q => q)).cell 0; clear o5 k5)
          | (go_at_call 10; refine (same_any A5 AM c5 cM s.bs.length s.bs.length s.bs s.bs _ _ w5 O5.out (OM.out.still K5.out) rfl rfl).mono ?_; rintro e w6 ⟨rfl, rfl⟩; rw [E2.out]))
      go_wp2
      go_ret
      exact ⟨rfl, HK.out.trans K5.out⟩

end Go.Proofs.Ytepligggofbegaa
