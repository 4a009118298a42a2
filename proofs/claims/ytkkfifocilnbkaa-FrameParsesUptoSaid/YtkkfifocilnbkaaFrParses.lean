/-
  The walk of FrameParses.
-/
import Derived.Test.YtkkfifocilnbkaaFrPlay
import Derived.Test.YtkkfifocilnbkaaSpeaks4
namespace Go.Proofs.Ytkkfifocilnbkaa
open Go.RowKit
attribute [local go_sem ↓] append_as

theorem nat_mask3 (n : Nat) : n &&& 7 = n % 8 := Nat.and_two_pow_sub_one_eq_mod n 3
theorem and7 (x : Int) : bits .and .i64 x 7 = ((x % 8).toNat : Int) := by
  have h1 : (BitVec.ofInt 64 x).toNat % 8 = (x % 8).toNat := by
    rw [BitVec.toNat_ofInt]
    omega
  show IntKind.i64.wrap ((BitVec.ofInt 64 x &&& BitVec.ofInt 64 7).toNat : Int) = _
  rw [BitVec.toNat_and, show (BitVec.ofInt 64 7).toNat = 7 from rfl, nat_mask3, h1, IntKind.wrap_i64]
  omega

def sumL (l : List Stp) : Nat := (l.map fun s => s.data.length).sum
theorem sumL_take (l : List Stp) (j : Nat) (h : j < l.length) : sumL (l.take (j + 1)) = sumL (l.take j) + (l[j]).data.length := by
  unfold sumL
  rw [List.take_succ_eq_append_getElem h, List.map_append, List.sum_append]
  simp
theorem nextOf_le (bs : List UInt8) (mx : Int) : (nextOf bs mx).rest.length ≤ bs.length ∧ (nextOf bs mx).pl.length ≤ bs.length := by
  unfold nextOf
  split
  · exact ⟨Nat.le_refl _, by simp [NextR.not]⟩
  · split
    · exact ⟨Nat.le_refl _, by simp [NextR.not]⟩
    · split
      · exact ⟨Nat.le_refl _, by simp [NextR.not]⟩
      · split
        · exact ⟨Nat.le_refl _, by simp [NextR.not]⟩
        · split
          · exact ⟨Nat.le_refl _, by simp [NextR.not]⟩
          · exact ⟨by simp, by simp; omega⟩

theorem sumL_le (l : List Stp) : ∀ j, sumL (l.take j) ≤ sumL l := by
  unfold sumL
  induction l with
  | nil => simp
  | cons x l ih =>
    intro j
    cases j with
    | zero => simp
    | succ j => simp only [List.take_succ_cons, List.map_cons, List.sum_cons]; have := ih j; omega

set_option maxHeartbeats 8000000 in
set_option maxRecDepth 100000 in
theorem frameParses_walk (most : Int) (A : Option Addr) (c : Nat) (ops : List Stp) (w : World) (hr : Rd w (· < w.heap.size) A (ops.flatMap Stp.cells)) (hg : ∀ o ∈ ops, o.good w) (hl : ops.length * 40 ≤ 140737488351232) (hsum : sumL ops ≤ 1048576) (hm1 : -9223372036854775808 ≤ most) (hm2 : most ≤ 9223372036854775807) :
    Calls Try.prog 6 #[.int .i64 most, .slice A ops.length c] w fun e w' => e = .returned (.bool true) ∧ Kept noneS w w' := by
  have HR := Lib.hid hr
  have HG := Lib.hid hg
  have HSum := Lib.hid hsum
  clear hr hg hsum
  go_enter Try.func6, Try.ntmps6
  go_wp2_with fail
  refine (speaks4 w).mono ?_
  rintro e w1 ⟨rfl, k1⟩
  have S1 := Lib.hid k1
  have z1 := k1.size
  clear k1
  go_wp2_with fail
  refine (newParser most w1).mono ?_
  rintro e w2 ⟨rfl, p2, z2, k2⟩
  have S2 := Lib.hid (S1.out.trans k2)
  have P2 := Lib.hid p2
  clear p2 k2
  have PL : Hid (FPlay w noneS (w2.alloc (.cells #[.slice none 0 0, .int .i64 most] 50)) w1.heap.size [] most w2.heap.size [] most) := Lib.hid (by
    have ka : Kept noneS w2 (w2.alloc (.cells #[.slice none 0 0, .int .i64 most] 50)) := (Kept.refl _ _).alloc _
    obtain ⟨hp, A', n', c', hb, hs⟩ := P2.out
    refine ⟨fun k => w1.heap.size ≤ k ∧ k < w2.heap.size, (· = w2.heap.size), fun k a b => by omega, fun k a => a.elim, fun k a => ?_, ?_, ?_, S2.out.trans ka⟩
    · simp
      rcases a with a | a | a
      · omega
      · omega
      · exact a.elim
    · exact PAt.keep (S := noneS) ⟨⟨hp, hb.lt⟩, A', n', c', hb, hs.mono (fun k a b => ⟨b, a⟩)⟩ ka (fun _ _ _ q => q.elim)
    · exact ⟨rfl, none, 0, Blk.new _ _ _, Own.nil _ _ _ _⟩)
  have hz2 : w2.heap.size < (w2.alloc (.cells #[.slice none 0 0, .int .i64 most] 50)).heap.size := by simp
  go_wp2
  generalize (w2.alloc (.cells #[.slice none 0 0, .int .i64 most] 50)) = w3 at PL hz2 ⊢
  generalize w1.heap.size = p at PL ⊢
  generalize w2.heap.size = m at PL ⊢
  clear P2 S2 S1
  go_loopw [33] (fun i wr => ∃ (j : Nat) (bs : List UInt8) (mx : Int), j ≤ ops.length ∧ i = .int .i64 j ∧ FPlay w noneS wr p bs mx m bs mx ∧ bs.length ≤ sumL (ops.take j) ∧ -9223372036854775808 ≤ mx ∧ mx ≤ 9223372036854775807) (fun i _ => ops.length - (intOf i).toNat)
  case atStart => exact ⟨0, [], most, Nat.zero_le _, rfl, PL.out, by simp, hm1, hm2⟩
  case round =>
    clear PL hm1 hm2
    obtain ⟨j, bs, mx, hj, rfl, hpl, hbl, hm1, hm2⟩ := hrel
    have PL := Lib.hid hpl
    clear hpl
    by_cases hlt : j < ops.length
    · obtain ⟨g, o, rfl, hgg, d0, d1, d2⟩ := (HR.out.keep PL.out.kept (fun _ _ _ q => q.elim)).stp hlt
      have hgood := HG.out ops[j] (List.getElem_mem hlt)
      have hs1 := sumL_take ops j hlt
      have hs2 := sumL_le ops (j + 1)
      have hs3 := HSum.out
      generalize ops[j] = op at d0 d1 d2 hgood hs1
      obtain ⟨_, ⟨hn1, hn2⟩, hrb, hdc, hdm, _⟩ := hgood
      have hbd : bs.length + op.data.length ≤ sumL (ops.take (j + 1)) := by omega
      have hbt : bs.length + op.data.length ≤ 1048576 := by omega
      clear hs1 hs2 hs3
      have RBd := Lib.hid (hrb.still PL.out.kept)
      clear hrb
      have a7 := and7 op.kind
      have hk8 : (op.kind % 8).toNat < 8 := by omega
      generalize (op.kind % 8).toNat = kd at a7 hk8
      have ka : Kept noneS wr (wr.alloc (.cells #[.int .i64 op.kind, .int .i64 op.max, .slice op.addr op.data.length op.cap] 52)) := (Kept.refl _ _).alloc _
      have BKo := Lib.hid (Blk.new wr 52 #[.int .i64 op.kind, .int .i64 op.max, .slice op.addr op.data.length op.cap])
      have PLa : Hid (FPlay w (· = wr.heap.size) (wr.alloc (.cells #[.int .i64 op.kind, .int .i64 op.max, .slice op.addr op.data.length op.cap] 52)) p bs mx m bs mx) := Lib.hid (PL.out.more ka (fun i q => .inr ⟨by omega, by simp; omega⟩))
      have RBa := Lib.hid (RBd.out.still ka)
      have hza : wr.heap.size < (wr.alloc (.cells #[.int .i64 op.kind, .int .i64 op.max, .slice op.addr op.data.length op.cap] 52)).heap.size := by simp
      have hzw : w.heap.size ≤ wr.heap.size := PL.out.kept.size
      clear ka
      go_upto_block 2 with (fail)
      clear d0 d1 d2
      generalize wr.alloc (.cells #[.int .i64 op.kind, .int .i64 op.max, .slice op.addr op.data.length op.cap] 52) = wa at PLa BKo RBa hza ⊢
      generalize hbo : wr.heap.size = bo at BKo hza hzw PLa ⊢
      clear hbo PL RBd
      go_cut [9, 10, 11, 12, 13, 14, 15, 16, 17, 18, 19, 20, 21] from 40 to 150 (fun _ _ _ _ _ _ _ _ _ _ _ _ _ wx => ∃ (bs' : List UInt8) (mx' : Int), FPlay w noneS wx p bs' mx' m bs' mx' ∧ bs'.length ≤ sumL (ops.take (j + 1)) ∧ -9223372036854775808 ≤ mx' ∧ mx' ≤ 9223372036854775807)
      case first =>
        rcases (by omega : kd ≤ 2 ∨ kd = 3 ∨ kd = 4 ∨ 5 ≤ kd) with hkd | rfl | rfl | hkd
        · rcases (by omega : kd = 0 ∨ kd = 1 ∨ kd = 2) with rfl | rfl | rfl
          all_goals
            have a2 : wa.cell? ⟨bo, 2, none⟩ = some (.slice op.addr op.data.length op.cap) := BKo.out.cell 2
            go_wp2_with fail
            refine (clone_any op.addr op.cap op.data _ wa RBa.out (by omega)).mono ?_
            rintro e wb ⟨Ai, ci, rfl, oi, ki⟩
            have OI := Lib.hid (Own.mono oi (G := fun k => wa.heap.size ≤ k ∧ k < wb.heap.size) (fun k a q => ⟨q, a⟩))
            have BKb := Lib.hid (BKo.out.keep ki (fun q => q))
            have PLb : Hid (FPlay w (fun k => k = bo ∨ (wa.heap.size ≤ k ∧ k < wb.heap.size)) wb p bs mx m bs mx) := Lib.hid (PLa.out.more ki (fun k a => a))
            have RBb := Lib.hid (RBa.out.still ki)
            have zb := ki.size
            clear oi ki a2 PLa RBa BKo
            obtain ⟨FP, hP, hPb, hPs⟩ := PLb.out.stepP
            have HP := Lib.hid (hP.mono (G := fun k => FP k ∨ k = wb.heap.size) (fun k _ a => .inl a))
            have HPb := Lib.hid hPb
            have HPs := Lib.hid hPs
            clear hP hPb hPs
            go_wp2_with fail
            refine (parserFeed mx wb (fun k => FP k ∨ k = wb.heap.size) _ p bs op.data HP.out Ai op.data.length ci rfl (OB.rb OI.out).2 (by omega) (.inr rfl)).mono ?_
            rintro e wd ⟨⟨v, rfl⟩, hp1, k1⟩
            have PLd := Lib.hid (HPs.out _ _ wd _ _ hp1 k1 (fun k a => by rcases a with a | a; exact .inl a; exact .inr (by omega)) (fun k a => .inl a))
            have BKd := Lib.hid (BKb.out.keep k1 (fun q => by rcases q with q | q; exact (HPb.out bo q).2.2 (.inl rfl); omega))
            have OId := Lib.hid (Own.keep OI.out k1 (fun k _ a q => by rcases q with q | q; exact (HPb.out k q).2.2 (.inr a); omega))
            have RBd := Lib.hid (RBb.out.keep k1 (fun k _ a q => by rcases q with q | q; (have := (HPb.out k q).1; omega); omega))
            have zd := k1.size
            clear hp1 k1 HP HPs HPb PLb OI RBb BKb
            obtain ⟨FM, hM, hMb, hMs⟩ := PLd.out.stepM
            obtain ⟨hmF, AM, cM, hb, hob⟩ := hM
            obtain ⟨i0, hi, hz0, hz1, hz2⟩ := info_parts infoU8
            obtain ⟨v', we, hrun, o', k'⟩ := run_append_Own (P := Try.prog) wd.drew 23 23 5 i0 (.int .u8 0) 1 1 Try.underlying23 hi hz0 hz1 hz2 rfl (by decide) FM _ (.slice AM bs.length cM) bs.length (bvs bs) (Own.drew hob) op.addr op.data.length op.cap (bvs op.data) (by simp [bvs_length]) RBd.out.drew (bvs_one _) (by unfold maxLen; omega) (by omega)
            obtain ⟨AN, cN, rfl, _⟩ := Own.form o'
            have hne : ¬ ownS (.slice AM bs.length cM) m := Own.ne_blk hob hb (by decide)
            have hbm := hb.keep (S := ownS (.slice AM bs.length cM)) (w' := we) ⟨k'.os, k'.tape, k'.output, k'.size, k'.block⟩ hne
            have m0 : wd.cell? ⟨m, 0, none⟩ = some (.slice AM bs.length cM) := hb.cell 0
            have m0' : we.cell? ⟨m, 0, none⟩ = some (.slice AM bs.length cM) := hbm.cell 0
            have fm0 := hbm.frozen 0
            have a2 : wd.cell? ⟨bo, 2, none⟩ = some (.slice op.addr op.data.length op.cap) := BKd.out.cell 2
            have hrun2 : (appSem #[23, 23] 23 #[.slice AM bs.length cM, .slice op.addr op.data.length op.cap]).run Try.prog wd.drew = .ok (.slice AN (bs.length + op.data.length) cN) we := hrun
            have hll : (bs ++ op.data).length = bs.length + op.data.length := List.length_append
            have ke : Kept (fun k => FM k ∨ wd.heap.size ≤ k) wd we := ⟨k'.os, k'.tape, k'.output, k'.size, fun k a b => k'.block k a (fun q => b (.inl (hob.2 k q)))⟩
            have oe : OB we (fun k => FM k ∨ wd.heap.size ≤ k) (.slice AN (bs ++ op.data).length cN) (bs ++ op.data) := by
              unfold OB
              rw [bvs_append, hll]
              exact o'.mono (fun k _ a => by rcases a with a | a; exact .inl a; exact .inr (by simp at a; omega))
            have PLe : Hid (FPlay w (fun k => k = bo ∨ (wa.heap.size ≤ k ∧ k < wb.heap.size)) (we.setCell ⟨m, 0, none⟩ (.slice AN (bs ++ op.data).length cN)) p (bs ++ op.data) mx m (bs ++ op.data) mx) := Lib.hid (hMs _ _ _ _ (RPAt.stored (.inl hmF) hbm oe) (ke.setCell (p := ⟨m, 0, none⟩) (fun _ => .inl hmF) _) (fun k a => a))
            rw [hll] at PLe
            have BKe := Lib.hid ((BKd.out.keep ke (fun q => by rcases q with q | q; exact (hMb bo q).2.2 (.inl rfl); omega)).far (p := ⟨m, 0, none⟩) (fun e => (hMb m hmF).2.2 (.inl (by simpa using e.symm))) (.slice AN (bs.length + op.data.length) cN))
            have OIe := Lib.hid (Own.far (Own.keep OId.out ke (fun k _ a q => by rcases q with q | q; exact (hMb k q).2.2 (.inr a); omega)) (p := ⟨m, 0, none⟩) (fun q => (hMb m hmF).2.2 (.inr (OId.out.2 m q))) (.slice AN (bs.length + op.data.length) cN))
            have RBe := Lib.hid (RB.keep (RBd.out.keep ke (fun k _ a q => by rcases q with q | q; (have := (hMb k q).1; omega); omega)) ((Kept.refl (· = m) we).setCell (p := ⟨m, 0, none⟩) (fun _ => rfl) (.slice AN (bs.length + op.data.length) cN)) (fun k _ a q => by have := (hMb m hmF).1; omega))
            have ze := ke.size
            have HLL := Lib.hid hll
            clear hb hob hbm hMb hMs hrun o' k' hne ke oe hll PLd BKd OId RBd
            go_wp2_with fail
            go_region
            generalize we.setCell ⟨m, 0, none⟩ (.slice AN (bs.length + op.data.length) cN) = wf at PLe BKe OIe RBe ⊢
            clear hrun2 m0 m0' fm0 a2
            have a2 : wf.cell? ⟨bo, 2, none⟩ = some (.slice op.addr op.data.length op.cap) := BKe.out.cell 2
            go_wp2_with fail
            refine (same_any Ai op.addr ci op.cap op.data.length op.data.length op.data op.data _ _ wf (OB.rb OIe.out).2 RBe.out rfl rfl).mono ?_
            rintro e w' ⟨rfl, rfl⟩
            rw [show (op.data == op.data) = true by simp]
            clear a2
            go_wp2
            go_loopw [113] (fun i wr => ∃ (i' : Nat) (xs : List UInt8), i' ≤ op.data.length ∧ i = .int .i64 i' ∧ xs.length = op.data.length ∧ OB wr (fun k => wa.heap.size ≤ k ∧ k < wb.heap.size) (.slice Ai op.data.length ci) xs ∧ Kept (fun k => wa.heap.size ≤ k ∧ k < wb.heap.size) wf wr) (fun i _ => op.data.length - (intOf i).toNat)
            case atStart => exact ⟨0, op.data, Nat.zero_le _, rfl, rfl, OIe.out, Kept.refl _ _⟩
            case round =>
              obtain ⟨i', xs, hj', rfl, hbl', hob, hk⟩ := hrel
              have OBr := Lib.hid hob
              have KR := Lib.hid hk
              have HBl := Lib.hid hbl'
              clear hob hk hbl'
              by_cases hlt' : i' < op.data.length
              · obtain ⟨g', q, hA3, hgF, d0, d1, xs', hxs', hob'⟩ := OB.fill_cells OBr.out HBl.out hlt' 0xee
                subst hA3
                have OB' := Lib.hid hob'
                have HXs' := Lib.hid hxs'
                have HGF := Lib.hid hgF
                clear hob' hxs' hgF
                go_wp2
                go_roundw
                case rel => exact ⟨i' + 1, xs', by omega, by go_num, HXs'.out, OB'.out, KR.out.setCell (p := ⟨g', i', none⟩) (fun _ => HGF.out) _⟩
                case measure => simp [intOf]; omega
              · have PLf := Lib.hid (PLe.out.other KR.out (fun k _ a => .inr a))
                clear OBr PLe
                go_wp2
                go_meet
                case rel => exact ⟨bs ++ op.data, mx, PLf.out.more (Kept.refl _ _) (fun _ q => q.elim), by have := HLL.out; omega, hm1, hm2⟩
        · obtain ⟨FP, hP, hPb, hPs⟩ := PLa.out.stepP
          have HP := Lib.hid hP
          have HPb := Lib.hid hPb
          have HPs := Lib.hid hPs
          clear hP hPb hPs
          go_wp2_with fail
          refine (parserHello mx wa FP p bs HP.out (by omega)).mono ?_
          rintro e wd ⟨rfl, hp1, k1⟩
          have PLd := Lib.hid (HPs.out FP (· = bo) wd _ _ hp1 k1 (fun k a => .inl a) (fun k a => .inl a))
          clear hp1 k1 HP HPb HPs PLa
          obtain ⟨FM, hM, hMb, hMs⟩ := PLd.out.stepM
          have HM : Hid (RPAt wd (fun k => FM k ∨ wd.heap.size ≤ k) m bs mx) := Lib.hid (by
            obtain ⟨a, A', c', b1, b2⟩ := hM
            exact ⟨.inl a, A', c', b1, Own.mono b2 (fun k _ y => .inl y)⟩)
          have HMs := Lib.hid hMs
          clear hM hMb hMs
          go_wp2_with fail
          refine (refHelloP mx wd _ m bs HM.out (by omega) (fun k a => .inr a)).mono ?_
          rintro e we ⟨rfl, hm3, k3⟩
          have PLe := Lib.hid (HMs.out _ we _ _ hm3 k3 (fun k a => a))
          have hlr : Hid ((helloOf bs).rest.length ≤ bs.length) := Lib.hid (by unfold helloOf; split; exact Nat.le_refl _; split; exact Nat.le_refl _; simp)
          clear hm3 k3 HM HMs PLd
          generalize helloOf bs = r at PLe hlr ⊢
          go_wp2
          go_meet
          case rel => exact ⟨r.rest, mx, PLe.out.more (Kept.refl _ _) (fun _ q => q.elim), by have := hlr.out; omega, hm1, hm2⟩
        · obtain ⟨FP, hP, hPb, hPs⟩ := PLa.out.stepP
          have HP := Lib.hid hP
          have HPb := Lib.hid hPb
          have HPs := Lib.hid hPs
          clear hP hPb hPs
          have a1 : wa.cell? ⟨bo, 1, none⟩ = some (.int .i64 op.max) := BKo.out.cell 1
          go_wp2_with fail
          refine (parserLimit op.max mx wa FP p bs HP.out).mono ?_
          rintro e wd ⟨⟨v, rfl⟩, hp1, k1⟩
          have PLd := Lib.hid (HPs.out FP (· = bo) wd _ _ hp1 k1 (fun k a => .inl a) (fun k a => .inl a))
          have BKd := Lib.hid (BKo.out.keep k1 (fun q => (HPb.out bo q).2.2 rfl))
          have a1 : wd.cell? ⟨bo, 1, none⟩ = some (.int .i64 op.max) := BKd.out.cell 1
          clear hp1 k1 HP HPs PLa
          obtain ⟨FM, hM, hMb, hMs⟩ := PLd.out.stepM
          have HM := Lib.hid hM
          have HMs := Lib.hid hMs
          obtain ⟨hmF, A', c', hb, hob⟩ := hM
          have m1 : wd.cell? ⟨m, 1, none⟩ = some (.int .i64 mx) := hb.cell 1
          have f1 := hb.frozen 1
          have PLe : Hid (FPlay w (· = bo) (wd.setCell ⟨m, 1, none⟩ (.int .i64 op.max)) p bs op.max m bs op.max) := Lib.hid (HMs.out FM _ bs op.max ⟨hmF, A', c', hb.set_ 1 _, Own.far hob (p := ⟨m, 1, none⟩) (Own.ne_blk hob hb (by decide)) _⟩ ((Kept.refl FM wd).setCell (p := ⟨m, 1, none⟩) (fun _ => hmF) _) (fun k a => .inl a))
          clear hb hob hMb hMs
          go_wp2
          go_meet
          case rel => exact ⟨bs, op.max, PLe.out.more (Kept.refl _ _) (fun _ q => q.elim), by omega, hn1, hn2⟩
        · rcases (by omega : kd = 5 ∨ kd = 6 ∨ kd = 7) with rfl | rfl | rfl
          all_goals
            obtain ⟨FP, hP, hPb, hPs⟩ := PLa.out.stepP
            have HP := Lib.hid hP
            have HPb := Lib.hid hPb
            have HPs := Lib.hid hPs
            clear hP hPb hPs
            obtain ⟨hlr, hlp⟩ := nextOf_le bs mx
            go_wp2_with fail
            refine (nextAny mx hm1 hm2 wa FP p bs HP.out (by omega)).mono ?_
            rintro e wd ⟨Af, cf, rfl, of_, hp1, k1⟩
            have zd := k1.size
            have PLd := Lib.hid (HPs.out FP (fun k => wa.heap.size ≤ k ∧ k < wd.heap.size) wd _ _ hp1 k1 (fun k a => .inl a) (fun k a => .inr ⟨a.1, a.2, fun q => by have := (HPb.out k q).2.1; omega⟩))
            have OF := Lib.hid (Own.mono of_ (G := fun k => wa.heap.size ≤ k ∧ k < wd.heap.size) (fun k a q => ⟨q, a⟩))
            clear hp1 k1 HP HPs HPb PLa of_
            obtain ⟨r, HRr⟩ : ∃ r, Hid (nextOf bs mx = r) := ⟨_, Lib.hid rfl⟩
            rw [HRr.out] at PLd OF hlr hlp ⊢
            have kf : Kept noneS wd (wd.alloc (.cells #[.int .i64 r.t, .int .i64 r.ch, .slice Af r.pl.length cf] 25)) := (Kept.refl _ _).alloc _
            have BF := Lib.hid (Blk.new wd 25 #[.int .i64 r.t, .int .i64 r.ch, .slice Af r.pl.length cf])
            have PLf : Hid (FPlay w (fun k => wa.heap.size ≤ k ∧ k ≤ wd.heap.size) (wd.alloc (.cells #[.int .i64 r.t, .int .i64 r.ch, .slice Af r.pl.length cf] 25)) p r.rest mx m bs mx) := Lib.hid (PLd.out.more kf (fun k a => by by_cases h : k < wd.heap.size; exact .inl ⟨a.1, h⟩; exact .inr ⟨by omega, by simp; omega⟩))
            have OF1 := Lib.hid (Own.keep0 OF.out kf (fun _ _ _ q => q.elim))
            have zf : wd.heap.size < (wd.alloc (.cells #[.int .i64 r.t, .int .i64 r.ch, .slice Af r.pl.length cf] 25)).heap.size := by simp
            clear kf PLd OF
            go_wp2_with fail
            generalize (wd.alloc (.cells #[.int .i64 r.t, .int .i64 r.ch, .slice Af r.pl.length cf] 25)) = we at BF PLf OF1 zf ⊢
            generalize wd.heap.size = qf at BF PLf OF1 zf zd ⊢
            obtain ⟨FM, hM, hMb, hMs⟩ := PLf.out.stepM
            have HM := Lib.hid (hM.mono (G := fun k => FM k ∨ we.heap.size ≤ k) (fun k _ a => .inl a))
            have HMs := Lib.hid hMs
            have HMb := Lib.hid hMb
            clear hM hMs hMb
            refine (refNext mx hm1 hm2 we _ m bs HM.out (by omega) (fun k a => .inr a)).mono ?_
            rw [HRr.out]
            rintro e wg ⟨Ag, cg, rfl, og, hm3, k3⟩
            have PLg := Lib.hid (HMs.out _ wg _ _ hm3 k3 (fun k a => a))
            have BG := Lib.hid (BF.out.keep k3 (fun q => by rcases q with q | q; exact (HMb.out qf q).2.2 ⟨zd, Nat.le_refl _⟩; omega))
            have OF2 := Lib.hid (Own.keep OF1.out k3 (fun k _ a q => by rcases q with q | q; exact (HMb.out k q).2.2 ⟨a.1, by omega⟩; omega))
            have RG := Lib.hid (OB.rb og).2
            have zg := k3.size
            clear og hm3 k3 HM HMs HMb PLf BF OF1
            have kh : Kept noneS wg (wg.alloc (.cells #[.int .i64 r.t, .int .i64 r.ch, .slice Ag r.pl.length cg] 25)) := (Kept.refl _ _).alloc _
            have BH := Lib.hid (Blk.new wg 25 #[.int .i64 r.t, .int .i64 r.ch, .slice Ag r.pl.length cg])
            have PLh := Lib.hid (PLg.out.still kh)
            have BG2 := Lib.hid (BG.out.keep kh (fun q => q))
            have OF3 := Lib.hid (Own.keep0 OF2.out kh (fun _ _ _ q => q.elim))
            have RG2 := Lib.hid (RG.out.still kh)
            have zh := kh.size
            clear kh PLg BG OF2 RG
            go_upto_region 12 with (fail)
            generalize (wg.alloc (.cells #[.int .i64 r.t, .int .i64 r.ch, .slice Ag r.pl.length cg] 25)) = wh at BH PLh BG2 OF3 RG2 zh ⊢
            generalize wg.heap.size = qg at BH zg zh ⊢
            have s0 : wh.cell? ⟨qf, 0, none⟩ = some (.int .i64 r.t) := BG2.out.cell 0
            have s1 : wh.cell? ⟨qf, 1, none⟩ = some (.int .i64 r.ch) := BG2.out.cell 1
            have s2 : wh.cell? ⟨qf, 2, none⟩ = some (.slice Af r.pl.length cf) := BG2.out.cell 2
            have h0 : wh.cell? ⟨qg, 0, none⟩ = some (.int .i64 r.t) := BH.out.cell 0
            have h1 : wh.cell? ⟨qg, 1, none⟩ = some (.int .i64 r.ch) := BH.out.cell 1
            have h2 : wh.cell? ⟨qg, 2, none⟩ = some (.slice Ag r.pl.length cg) := BH.out.cell 2
            go_wp2_with fail
            refine (refSame r.t r.ch r.t r.ch Af Ag cf cg r.pl.length r.pl.length r.pl r.pl rfl rfl _ _ wh (OB.rb OF3.out).2 RG2.out).mono ?_
            rintro e wi ⟨rfl, ki⟩
            rw [show sameB r.t r.ch r.pl r.t r.ch r.pl = true by simp [sameB]]
            have PLi := Lib.hid (PLh.out.still ki)
            have BI := Lib.hid (BG2.out.keep ki (fun q => q))
            have OFi := Lib.hid (Own.keep0 OF3.out ki (fun _ _ _ q => q.elim))
            have zi := ki.size
            clear ki s0 s1 s2 h0 h1 h2 PLh BG2 OF3 RG2 BH
            have s2 : wi.cell? ⟨qf, 2, none⟩ = some (.slice Af r.pl.length cf) := BI.out.cell 2
            go_wp2
            clear s2
            go_loopw [69] (fun i wr => ∃ (i' : Nat) (xs : List UInt8), i' ≤ r.pl.length ∧ i = .int .i64 i' ∧ xs.length = r.pl.length ∧ OB wr (fun k => wa.heap.size ≤ k ∧ k < qf) (.slice Af r.pl.length cf) xs ∧ Kept (fun k => wa.heap.size ≤ k ∧ k < qf) wi wr) (fun i _ => r.pl.length - (intOf i).toNat)
            case atStart => exact ⟨0, r.pl, Nat.zero_le _, rfl, rfl, OFi.out, Kept.refl _ _⟩
            case round =>
              obtain ⟨i', xs, hj', rfl, hbl', hob, hk⟩ := hrel
              have OBr := Lib.hid hob
              have KR := Lib.hid hk
              have HBl := Lib.hid hbl'
              have BR := Lib.hid (BI.out.keep hk (fun q => by omega))
              have s2 : wr.cell? ⟨qf, 2, none⟩ = some (.slice Af r.pl.length cf) := BR.out.cell 2
              clear hob hk hbl'
              by_cases hlt' : i' < r.pl.length
              · obtain ⟨g', q, hA3, hgF, d0, d1, xs', hxs', hob'⟩ := OB.fill_cells OBr.out HBl.out hlt' 0xdd
                subst hA3
                have OB' := Lib.hid hob'
                have HXs' := Lib.hid hxs'
                have HGF := Lib.hid hgF
                clear hob' hxs' hgF
                go_wp2
                go_roundw
                case rel => exact ⟨i' + 1, xs', by omega, by go_num, HXs'.out, OB'.out, KR.out.setCell (p := ⟨g', i', none⟩) (fun _ => HGF.out) _⟩
                case measure => simp [intOf]; omega
              · obtain ⟨wo, rfl⟩ : ∃ wo : World, wo = wr := ⟨_, rfl⟩
                have hxl : xs.length = r.pl.length := HBl.out
                have OBo : Hid (OB wo (fun k => (wa.heap.size ≤ k ∧ k < qf) ∨ wo.heap.size ≤ k) (.slice Af xs.length cf) xs) := Lib.hid (by rw [hxl]; exact Own.mono OBr.out (fun k _ a => .inl a))
                have PLo := Lib.hid (PLi.out.other KR.out (fun k _ a => ⟨a.1, by omega⟩))
                have zo := KR.out.size
                have f2 := BR.out.frozen 2
                have hxb : xs.length + 2 ≤ 1048578 := by omega
                rw [← hxl] at s2
                have HXL := Lib.hid hxl
                have hqw := BR.out.lt
                have HQN : Hid (¬ ownS (.slice Af xs.length cf) qf) := Lib.hid (fun q => by have := OBo.out.2 qf q; omega)
                clear hxl OBr HBl PLi BI KR
                go_wp2_with (at_builtin; refine wpList_appN rfl (.tmp 78) (.tmp 79) rfl (fun k => (wa.heap.size ≤ k ∧ k < qf) ∨ wo.heap.size ≤ k) (fun _ => True) (.slice Af xs.length cf) xs rfl (Own.alloc OBo.out _) (some ⟨wo.heap.size, 0, none⟩) 2 [221, 221] rfl (RB.lit wo _ _ _ _ [221, 221] rfl trivial) (by simp; omega) (by simp) ?_; intro A9 c9 w9 hown9 hcap9 hk9; have HK9 := Lib.hid hk9; have B9 := Lib.hid (Blk.keep (BR.out.alloc _) hk9 (fun q => HQN.out q)); have t2 : w9.cell? ⟨qf, 2, none⟩ = some (.slice Af xs.length cf) := (by rw [HXL.out]; exact B9.out.cell 2); have t3 := B9.out.frozen 2; clear hown9 hk9)
                go_meet
                case rel =>
                  refine ⟨r.rest, mx, (PLo.out.other (S := fun k => wa.heap.size ≤ k ∧ k ≤ qf) (((Kept.refl _ wo).alloc _).trans2 HK9.out (fun k a q => ?_) |>.setCell (p := ⟨qf, 2, none⟩) (fun _ => ⟨by omega, Nat.le_refl _⟩) _) (fun k _ a => a)).more (Kept.refl _ _) (fun _ q => q.elim), by omega, hm1, hm2⟩
                  have := OBo.out.2 k q
                  omega
      case rest =>
        obtain ⟨bs', mx', hpl, hbl', hm1', hm2'⟩ := hcut
        have PL := Lib.hid hpl
        obtain ⟨FP, hP, _, _⟩ := hpl.stepP
        obtain ⟨FM, hM, _, _⟩ := hpl.stepM
        have HP := Lib.hid hP
        obtain ⟨_, A', c', hb, _⟩ := hM
        have m0 : wc.cell? ⟨m, 0, none⟩ = some (.slice A' bs'.length c') := hb.cell 0
        clear hpl hP hb
        have hlb : bs'.length ≤ 1048576 := by have := sumL_le ops (j + 1); have := HSum.out; omega
        have hq : ((bs'.length : Int) != (bs'.length : Int)) = false := by simp
        go_wp2_with fail
        go_quiet ((go_at_call 18; exact Calls.quiet_of_same ((parserLeft mx' _ FP p bs' (HP.out.keep ((Kept.refl noneS _).drewN _) (fun _ _ _ q => q.elim))).mono (fun _ _ q => ⟨q.1, q.2.symm⟩))))
        go_wp2
        go_roundw
        case rel => exact ⟨j + 1, bs', mx', by omega, by go_num, PL.out.still ((Kept.refl _ _).drewN _), hbl', hm1', hm2'⟩
        case measure => simp [intOf]; omega
    · obtain rfl : j = ops.length := by omega
      go_wp2
      go_ret
      exact ⟨rfl, PL.out.kept⟩

end Go.Proofs.Ytkkfifocilnbkaa
