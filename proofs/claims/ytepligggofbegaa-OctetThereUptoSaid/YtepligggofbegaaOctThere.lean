/-
  The walk of OctetThere.
-/
import Derived.Test.YtepligggofbegaaOctTherQ
namespace Go.Proofs.Ytepligggofbegaa
open Go.RowKit

theorem all_len (ops : List OOp) : ∀ s : WS, (s.all ops).bs.length ≤ s.bs.length + 2 * (ops.map OOp.bulk).sum ∧ (s.all ops).row ≤ s.row + ops.length := by
  induction ops with
  | nil => intro s; exact ⟨Nat.le_refl _, Nat.le_refl _⟩
  | cons o r ih =>
    intro s
    have h1 := ih (s.step o)
    have h2 := WS.step_len s o
    show ((s.step o).all r).bs.length ≤ _ ∧ ((s.step o).all r).row ≤ _
    rw [List.map_cons, List.sum_cons, List.length_cons]
    omega

set_option maxHeartbeats 6400000 in
set_option maxRecDepth 100000 in
theorem octetThere_walk (A : Option Addr) (c : Nat) (ops : List OOp) (w : World) (hr : Rd w (· < w.heap.size) A (ops.flatMap OOp.cells)) (hg : ∀ o ∈ ops, o.good w) (hbulk : (ops.map OOp.bulk).sum ≤ 1048576) :
    Calls Try.prog 6 #[.slice A ops.length c] w fun e w' => e = .returned (.bool true) ∧ Kept noneS w w' := by
  have HR := Lib.hid hr
  have HG := Lib.hid hg
  have hol := len_le_bulk ops
  have HBu := Lib.hid hbulk
  have hol2 : ops.length ≤ 1048576 := by omega
  clear hr hg hol hbulk
  go_enter Try.func6, Try.ntmps6
  go_wp2_with fail
  refine (speaks_any w).mono ?_
  rintro e w1 ⟨rfl, k1⟩
  have K1 := Lib.hid k1
  have z1 := k1.size
  clear k1
  go_wp2_with fail
  refine (newWS w1).mono ?_
  rintro e w2 ⟨rfl, h2, k2⟩
  have hz2 := k2.size
  have HPl : Hid (ThereAt w (w2.alloc (.cells #[] 33)) noneS w1.heap.size (.slice (some ⟨w2.heap.size, 0, none⟩) 0 0) ⟨[], 0⟩ []) := Lib.hid (by
    have b1 := (h2.mono (G := fun k => w1.heap.size ≤ k ∧ k < w2.heap.size) (fun k a q => ⟨q, a⟩)).still ((Kept.refl noneS w2).alloc (.cells #[] 33))
    refine ⟨_, (· = w2.heap.size), ?_, ?_, ?_, b1, Own.empty _ _ _ _ rfl, (K1.out.trans k2).alloc _⟩
    · rintro k ⟨a, b⟩ q
      omega
    · rintro k ⟨a, b⟩
      exact ⟨by omega, by simp; omega, fun q => q⟩
    · intro k q
      exact ⟨by omega, by simp; omega, fun q => q⟩)
  clear h2 k2 K1
  generalize w1.heap.size = p at z1 hz2 HPl ⊢
  go_wp2
  go_loopw [4, 19] (fun v i wr => ∃ j : Nat, j ≤ ops.length ∧ i = .int .i64 j ∧ ThereAt w wr noneS p v ((WS.mk [] 0).all (ops.take j)) (ops.take j)) (fun _ i _ => ops.length - (intOf i).toNat)
  case atStart => exact ⟨0, Nat.zero_le _, rfl, HPl.out⟩
  case round =>
    clear HPl
    obtain ⟨j, hj, rfl, hth⟩ := hrel
    have HTh := Lib.hid hth
    have HK : Hid (Kept noneS w wr) := Lib.hid (by obtain ⟨_, _, _, _, _, _, _, h6⟩ := hth; exact h6)
    clear hth
    have hsl0 := (all_len (ops.take j) (WS.mk [] 0)).1
    have hsl1 : ((WS.mk [] 0).all (ops.take j)).bs.length ≤ 2097152 := by have := sum_take_le OOp.bulk ops j; have := HBu.out; simp only [List.length_nil, Nat.zero_add] at hsl0; omega
    clear hsl0
    by_cases hlt : j < ops.length
    · obtain ⟨g, o, rfl, hgg, d0, d1, d2, d3, d4⟩ := (HR.out.keep HK.out (fun _ _ _ q => q.elim)).oop hlt
      have hgood := HG.out ops[j] (List.getElem_mem hlt)
      have HS1 := Lib.hid (sum_take OOp.bulk ops j hlt)
      have hbj : (ops[j]).bulk ≤ 1048576 := by have := HS1.out; have := sum_take_le OOp.bulk ops (j + 1); have := HBu.out; omega
      have HTk := Lib.hid (List.take_succ_eq_append_getElem hlt)
      have htl : (ops.take j).length ≤ 1048576 := by simp; omega
      generalize ops[j] = op at d0 d1 d2 d3 d4 hgood HS1 hbj HTk
      obtain ⟨_, _, ⟨hu1, hu2⟩, htx, hrb, hdl, hdc, hdn⟩ := hgood
      have RD := Lib.hid (hrb.still (HK.out.alloc (.cells #[.int .i64 op.kind, .int .i64 op.n, .int .i64 op.num, .string op.text, .slice op.addr op.data.length op.cap] 33)))
      clear hrb hdn HS1
      have hAll : (WS.mk [] 0).all (ops.take (j + 1)) = ((WS.mk [] 0).all (ops.take j)).step op := by rw [HTk.out, WS.all_snoc]
      have HAll := Lib.hid hAll
      clear hAll
      generalize hss : (WS.mk [] 0).all (ops.take j) = s at HTh hsl1 HAll
      clear hss
      generalize hll : ops.take j = l at HTh HTk htl
      clear hll
      have a7 := and7w op.kind
      have hk8 : (op.kind % 8).toNat < 8 := by omega
      have HStep : Hid (s.step op = match (op.kind % 8).toNat with | 0 => s.num 1 op.num | 1 => s.num 2 op.num | 2 => s.num 4 op.num | 3 => s.num 8 op.num | 4 => s.bit (bits .and .i64 op.num 1 == 1) | 5 => s.short op.text.data.toList | 6 => s.long op.text.data.toList | _ => s.raw op.data) := Lib.hid rfl
      generalize (op.kind % 8).toNat = kd at a7 hk8 HStep
      have HTa := Lib.hid (HTh.out.alloc (.cells #[.int .i64 op.kind, .int .i64 op.n, .int .i64 op.num, .string op.text, .slice op.addr op.data.length op.cap] 33))
      have HBk := Lib.hid (Blk.new wr 33 #[.int .i64 op.kind, .int .i64 op.n, .int .i64 op.num, .string op.text, .slice op.addr op.data.length op.cap])
      have hz : wr.heap.size < (wr.alloc (.cells #[.int .i64 op.kind, .int .i64 op.n, .int .i64 op.num, .string op.text, .slice op.addr op.data.length op.cap] 33)).heap.size := by simp
      go_upto_block 2 with (fail)
      clear d0 d1 d2 d3 d4 HK HTh
      generalize wr.alloc (.cells #[.int .i64 op.kind, .int .i64 op.n, .int .i64 op.num, .string op.text, .slice op.addr op.data.length op.cap] 33) = wa at HTa HBk hz RD ⊢
      generalize wr.heap.size = bo at HTa HBk hz ⊢
      obtain ⟨FW, FK, h1, h2, h3, h4, h5, h6⟩ := HTa.out
      have P1 := Lib.hid h1
      have P2 := Lib.hid h2
      have P3 := Lib.hid h3
      have Q4 := Lib.hid h4
      have Q5 := Lib.hid h5
      have Q6 := Lib.hid h6
      have hw0 : w.heap.size ≤ wa.heap.size := h6.size
      clear h1 h2 h3 h4 h5 h6 HTa
      have a2 : wa.cell? ⟨bo, 2, none⟩ = some (.int .i64 op.num) := HBk.out.cell 2
      have a3 : wa.cell? ⟨bo, 3, none⟩ = some (.string op.text) := HBk.out.cell 3
      have a4 : wa.cell? ⟨bo, 4, none⟩ = some (.slice op.addr op.data.length op.cap) := HBk.out.cell 4
      obtain ⟨v4, rfl⟩ : ∃ v4 : Value, v4 = u4 := ⟨_, rfl⟩
      go_cut [4, 19] from 19 to 85 (fun v i wx => v = v4 ∧ i = .int .i64 j ∧ ThereAt w wx (· = bo) p v4 (s.step op) l ∧ Blk wx bo 33 #[.int .i64 op.kind, .int .i64 op.n, .int .i64 op.num, .string op.text, .slice op.addr op.data.length op.cap])
      case first =>
        rcases (by omega : kd = 0 ∨ kd = 1 ∨ kd = 2 ∨ kd = 3 ∨ kd = 4 ∨ kd = 5 ∨ kd = 6 ∨ kd = 7) with rfl | rfl | rfl | rfl | rfl | rfl | rfl | rfl
        · go_wp2_with fail
          refine (wsOctet op.num wa (fun k => FW k ∨ wa.heap.size ≤ k) p s (Q4.out.mono fun _ _ h => .inl h) (fun i hi => .inr hi) (by omega) hu1 hu2).mono ?_
          rintro e w3 ⟨rfl, hb1, kb1⟩
          have HB1 := Lib.hid hb1
          have KB1 := Lib.hid kb1
          have hz1 := kb1.size
          clear hb1 kb1 a2 a3 a4
          have T1 : Hid (ThereAt w w3 (· = bo) p v4 (s.step op) l) := Lib.hid (ThereAt.wrote P1.out P2.out P3.out Q5.out Q6.out (fun k z => by omega) (by rw [HStep.out]; exact HB1.out) KB1.out)
          have BK3 := Lib.hid (HBk.out.keep KB1.out (by rintro (q | q); (exact (P2.out _ q).2.2 rfl); omega))
          go_wp2
          go_meet
          case rel => exact ⟨rfl, rfl, T1.out, BK3.out⟩
        · go_wp2_with fail
          refine (wsShort op.num wa (fun k => FW k ∨ wa.heap.size ≤ k) p s (Q4.out.mono fun _ _ h => .inl h) (fun i hi => .inr hi) (by omega) hu1 hu2).mono ?_
          rintro e w3 ⟨rfl, hb1, kb1⟩
          have HB1 := Lib.hid hb1
          have KB1 := Lib.hid kb1
          have hz1 := kb1.size
          clear hb1 kb1 a2 a3 a4
          have T1 : Hid (ThereAt w w3 (· = bo) p v4 (s.step op) l) := Lib.hid (ThereAt.wrote P1.out P2.out P3.out Q5.out Q6.out (fun k z => by omega) (by rw [HStep.out]; exact HB1.out) KB1.out)
          have BK3 := Lib.hid (HBk.out.keep KB1.out (by rintro (q | q); (exact (P2.out _ q).2.2 rfl); omega))
          go_wp2
          go_meet
          case rel => exact ⟨rfl, rfl, T1.out, BK3.out⟩
        · go_wp2_with fail
          refine (wsLong op.num wa (fun k => FW k ∨ wa.heap.size ≤ k) p s (Q4.out.mono fun _ _ h => .inl h) (fun i hi => .inr hi) (by omega) hu1 hu2).mono ?_
          rintro e w3 ⟨rfl, hb1, kb1⟩
          have HB1 := Lib.hid hb1
          have KB1 := Lib.hid kb1
          have hz1 := kb1.size
          clear hb1 kb1 a2 a3 a4
          have T1 : Hid (ThereAt w w3 (· = bo) p v4 (s.step op) l) := Lib.hid (ThereAt.wrote P1.out P2.out P3.out Q5.out Q6.out (fun k z => by omega) (by rw [HStep.out]; exact HB1.out) KB1.out)
          have BK3 := Lib.hid (HBk.out.keep KB1.out (by rintro (q | q); (exact (P2.out _ q).2.2 rfl); omega))
          go_wp2
          go_meet
          case rel => exact ⟨rfl, rfl, T1.out, BK3.out⟩
        · go_wp2_with fail
          refine (wsLongLong op.num wa (fun k => FW k ∨ wa.heap.size ≤ k) p s (Q4.out.mono fun _ _ h => .inl h) (fun i hi => .inr hi) (by omega) hu1 hu2).mono ?_
          rintro e w3 ⟨rfl, hb1, kb1⟩
          have HB1 := Lib.hid hb1
          have KB1 := Lib.hid kb1
          have hz1 := kb1.size
          clear hb1 kb1 a2 a3 a4
          have T1 : Hid (ThereAt w w3 (· = bo) p v4 (s.step op) l) := Lib.hid (ThereAt.wrote P1.out P2.out P3.out Q5.out Q6.out (fun k z => by omega) (by rw [HStep.out]; exact HB1.out) KB1.out)
          have BK3 := Lib.hid (HBk.out.keep KB1.out (by rintro (q | q); (exact (P2.out _ q).2.2 rfl); omega))
          go_wp2
          go_meet
          case rel => exact ⟨rfl, rfl, T1.out, BK3.out⟩
        · obtain ⟨y, hy⟩ : ∃ y, bits .and .i64 op.num 1 = y := ⟨_, rfl⟩
          rw [hy] at HStep
          go_wp2_with fail
          refine (wsBit (y == 1) wa (fun k => FW k ∨ wa.heap.size ≤ k) p s (Q4.out.mono fun _ _ h => .inl h) (fun i hi => .inr hi) (by omega)).mono ?_
          rintro e w3 ⟨rfl, hb1, kb1⟩
          have HB1 := Lib.hid hb1
          have KB1 := Lib.hid kb1
          have hz1 := kb1.size
          clear hb1 kb1 a2 a3 a4
          have T1 : Hid (ThereAt w w3 (· = bo) p v4 (s.step op) l) := Lib.hid (ThereAt.wrote P1.out P2.out P3.out Q5.out Q6.out (fun k z => by omega) (by rw [HStep.out]; exact HB1.out) KB1.out)
          have BK3 := Lib.hid (HBk.out.keep KB1.out (by rintro (q | q); (exact (P2.out _ q).2.2 rfl); omega))
          go_wp2
          go_meet
          case rel => exact ⟨rfl, rfl, T1.out, BK3.out⟩
        · by_cases h255 : op.text.size ≤ 255
          · unfold maxLen at htx
            have hd : decide ((op.text.size : Int) < 256) = true := by simp; omega
            go_upto_region 23 with (fail)
            go_region_held3 (fun W => W.cell? ⟨bo, 3, none⟩ = some (.string op.text))
              (first | exact a3 | exact b3)
              (first
                | (go_at_call 36; refine (wsShortStr_ok op.text h255 wa.drew (fun k => FW k ∨ wa.heap.size ≤ k) p s ((Q4.out.mono fun _ _ h => .inl h).still ((Kept.refl noneS wa).drew)) (fun i hi => .inr hi) (by omega)).mono ?_; rintro e w3 ⟨rfl, hb1, kb0⟩; have kb1 : Kept (fun k => FW k ∨ wa.heap.size ≤ k) wa w3 := ⟨kb0.os, kb0.tape, kb0.output, kb0.size, kb0.block⟩; clear kb0; have bk := HBk.out.keep kb1 (by rintro (q | q); (exact (P2.out _ q).2.2 rfl); omega); have b3 : w3.cell? ⟨bo, 3, none⟩ = some (.string op.text) := bk.cell 3; have HB1 := Lib.hid hb1; have KB1 := Lib.hid kb1; have hz1 := kb1.size; clear bk hb1 kb1))
            clear a2 a3 a4 b3
            have T1 : Hid (ThereAt w w3 (· = bo) p v4 (s.step op) l) := Lib.hid (ThereAt.wrote P1.out P2.out P3.out Q5.out Q6.out (fun k z => by omega) (by rw [HStep.out]; exact HB1.out) KB1.out)
            have BK3 := Lib.hid (HBk.out.keep KB1.out (by rintro (q | q); (exact (P2.out _ q).2.2 rfl); omega))
            go_wp2
            go_meet
            case rel => exact ⟨rfl, rfl, T1.out, BK3.out⟩
          · have h256 : 255 < op.text.size := by omega
            unfold maxLen at htx
            have hd : decide ((op.text.size : Int) < 256) = false := by simp; omega
            go_upto_region 23 with (fail)
            go_region_held3 (fun W => W.cell? ⟨bo, 3, none⟩ = some (.string op.text))
              (first | exact a3 | exact b3)
              (first
                | (go_at_call 36; refine (wsShortStr_long op.text h256 (by omega) wa.drew (fun k => FW k ∨ wa.heap.size ≤ k) p s ((Q4.out.mono fun _ _ h => .inl h).still ((Kept.refl noneS wa).drew))).mono ?_; rintro e w3 ⟨rfl, hb1, kb0⟩; have kb1 : Kept (fun k => FW k ∨ wa.heap.size ≤ k) wa w3 := ⟨kb0.os, kb0.tape, kb0.output, kb0.size, kb0.block⟩; clear kb0; have bk := HBk.out.keep kb1 (by rintro (q | q); (exact (P2.out _ q).2.2 rfl); omega); have b3 : w3.cell? ⟨bo, 3, none⟩ = some (.string op.text) := bk.cell 3; have HB1 := Lib.hid hb1; have KB1 := Lib.hid kb1; have hz1 := kb1.size; clear bk hb1 kb1))
            clear a2 a3 a4 b3
            have T1 : Hid (ThereAt w w3 (· = bo) p v4 (s.step op) l) := Lib.hid (ThereAt.wrote P1.out P2.out P3.out Q5.out Q6.out (fun k z => by omega) (by rw [HStep.out]; exact HB1.out) KB1.out)
            have BK3 := Lib.hid (HBk.out.keep KB1.out (by rintro (q | q); (exact (P2.out _ q).2.2 rfl); omega))
            go_wp2
            go_meet
            case rel => exact ⟨rfl, rfl, T1.out, BK3.out⟩
        · go_wp2_with fail
          refine (wsLongStr op.text wa (fun k => FW k ∨ wa.heap.size ≤ k) p s (Q4.out.mono fun _ _ h => .inl h) (fun i hi => .inr hi) (by unfold OOp.bulk at hbj; omega)).mono ?_
          rintro e w3 ⟨rfl, hb1, kb1⟩
          have HB1 := Lib.hid hb1
          have KB1 := Lib.hid kb1
          have hz1 := kb1.size
          clear hb1 kb1 a2 a3 a4
          have T1 : Hid (ThereAt w w3 (· = bo) p v4 (s.step op) l) := Lib.hid (ThereAt.wrote P1.out P2.out P3.out Q5.out Q6.out (fun k z => by omega) (by rw [HStep.out]; exact HB1.out) KB1.out)
          have BK3 := Lib.hid (HBk.out.keep KB1.out (by rintro (q | q); (exact (P2.out _ q).2.2 rfl); omega))
          go_wp2
          go_meet
          case rel => exact ⟨rfl, rfl, T1.out, BK3.out⟩
        · have hdl2 : op.data.length ≤ 1048576 := by unfold OOp.bulk at hbj; omega
          go_wp2_with fail
          refine (clone_any op.addr op.cap op.data _ wa RD.out (by omega)).mono ?_
          rintro e w2' ⟨A1, c1, rfl, o1, k1⟩
          have z1' := k1.size
          have O1 := Lib.hid (Own.mono o1 (G := fun k => wa.heap.size ≤ k ∧ k < w2'.heap.size) (fun k a q => ⟨q, a⟩))
          have K1 := Lib.hid k1
          clear o1 k1 a2 a3 a4
          go_wp2_with fail
          refine (wsRaw A1 c1 op.data.length op.data rfl (fun k => wa.heap.size ≤ k ∧ k < w2'.heap.size) w2' (fun k => FW k ∨ w2'.heap.size ≤ k) p s ((Q4.out.still K1.out).mono fun _ _ h => .inl h) (fun i hi => .inr hi) (OB.rb O1.out).2 (fun k a q => by rcases a with a | a; (have := P2.out k a; omega); omega) (by omega)).mono ?_
          rintro e w3 ⟨rfl, hb1, kb1⟩
          have HB1 := Lib.hid hb1
          have KB1 := Lib.hid kb1
          have hz1 := kb1.size
          clear hb1 kb1
          have T1 : Hid (ThereAt w w3 (· = bo) p v4 (s.step op) l) := Lib.hid (ThereAt.wrote P1.out (fun k q => by have := P2.out k q; exact ⟨by omega, by omega, this.2.2⟩) (fun k q => by have := P3.out k q; exact ⟨by omega, by omega, this.2.2⟩) (Q5.out.keep0 K1.out (fun _ _ _ q => q.elim)) (Q6.out.trans K1.out) (fun k z => by omega) (by rw [HStep.out]; exact HB1.out) KB1.out)
          have BK3 := Lib.hid ((HBk.out.keep K1.out (fun q => q)).keep KB1.out (by rintro (q | q); (exact (P2.out _ q).2.2 rfl); omega))
          go_wp2
          go_meet
          case rel => exact ⟨rfl, rfl, T1.out, BK3.out⟩
      case rest =>
      obtain ⟨rfl, rfl, hth, hbk⟩ := hcut
      obtain ⟨w5, rfl⟩ : ∃ w5 : World, w5 = wc := ⟨_, rfl⟩
      have BK := Lib.hid hbk
      clear hbk HBk a2 a3 a4 P1 P2 P3 Q4 Q5 Q6 hz RD
      obtain ⟨FW, FK, h1, h2, h3, h4, h5, h6⟩ := hth
      obtain ⟨A4, c4, rfl, _⟩ := Own.form h5
      have P1 := Lib.hid h1
      have P2 := Lib.hid h2
      have P3 := Lib.hid h3
      have Q4 := Lib.hid h4
      have Q5 := Lib.hid h5
      have Q6 := Lib.hid h6
      have hw5 := h6.size
      clear h1 h2 h3 h4 h5 h6
      have e0 : w5.cell? ⟨bo, 0, none⟩ = some (.int .i64 op.kind) := BK.out.cell 0
      have e1 : w5.cell? ⟨bo, 1, none⟩ = some (.int .i64 op.n) := BK.out.cell 1
      have e2 : w5.cell? ⟨bo, 2, none⟩ = some (.int .i64 op.num) := BK.out.cell 2
      have e3 : w5.cell? ⟨bo, 3, none⟩ = some (.string op.text) := BK.out.cell 3
      have e4 : w5.cell? ⟨bo, 4, none⟩ = some (.slice op.addr op.data.length op.cap) := BK.out.cell 4
      go_wp2_with (at_builtin; refine wpList_appOp rfl (.tmp 81) (.tmp 83) rfl (fun k => FK k ∨ w5.heap.size < k) (.slice A4 l.length c4) l rfl ((Q5.out.mono fun _ _ h => .inl h).alloc _) w5.heap.size op rfl (oop_new w5 op _) (by omega) (.inr (by simp)) ?_; intro A6 c6 w6 hown6 hk6; have HO6 := Lib.hid hown6; have HK6 := Lib.hid hk6; clear hown6 hk6)
      have T6 : Hid (ThereAt w w6 noneS p (.slice A6 (l.length + 1) c6) (s.step op) (l ++ [op])) := Lib.hid (ThereAt.kept (W := w5.alloc (.cells #[.int .i64 op.kind, .int .i64 op.n, .int .i64 op.num, .string op.text, .slice op.addr op.data.length op.cap] 33)) P1.out (fun k q => by have := P2.out k q; simp; omega) (fun k q => by have := P3.out k q; simp; omega) (Q4.out.still ((Kept.refl noneS w5).alloc _)) (Q6.out.alloc _) (fun k q => Q5.out.2 k q) HK6.out (HO6.out.mono fun k _ q => q.elim .inl (fun q => .inr (by simp; omega))))
      go_roundw
      case rel => exact ⟨j + 1, by omega, by go_num, by rw [HAll.out, HTk.out]; exact T6.out⟩
      case measure => simp [intOf]; omega
    · obtain rfl : j = ops.length := by omega
      obtain ⟨w5, rfl⟩ : ∃ w5 : World, w5 = wr := ⟨_, rfl⟩
      have hExt : Hid (∀ i, Ext ((WS.mk [] 0).all (ops.take i)) ((WS.mk [] 0).all ops).bs) := Lib.hid (fun i => ext_at ops i)
      rw [List.take_length] at HTh hsl1
      obtain ⟨FW, FK, h1, h2, h3, h4, h5, h6⟩ := HTh.out
      obtain ⟨A4, c4, rfl, _⟩ := Own.form h5
      have P3 := Lib.hid h3
      have Q4 := Lib.hid h4.1
      have Q5 := Lib.hid (Own.rd h5)
      have Q6 := Lib.hid h6
      clear h1 h2 h3 h4 h5 h6 HTh HK
      generalize hbb : ((WS.mk [] 0).all ops).bs = b at hExt hsl1 Q4
      have HBb := Lib.hid hbb
      clear hbb
      go_wp2_with fail
      refine (wBytes w5 FW p b _ Q4.out (by omega)).mono ?_
      rintro e w6 ⟨v, rfl, o6, k6⟩
      obtain ⟨A6, c6, rfl, _, _, hn6⟩ := Own.form o6
      have O6 := Lib.hid (OB.rb o6).2
      have HN6 := Lib.hid hn6
      have K6 := Lib.hid k6
      have z6 := k6.size
      clear o6 k6 hn6
      go_wp2_with fail
      refine (newRS A6 c6 b.length b rfl _ w6 O6.out (fun q => ⟨List.length_eq_zero_iff.1 (HN6.out q).1, (HN6.out q).2⟩) (by omega)).mono ?_
      rintro e w7 ⟨r, rfl, hr1, hr2, h7, k7⟩
      have R7 := Lib.hid h7
      have K7 := Lib.hid (Q6.out.trans (K6.out.trans k7))
      have KD := Lib.hid ((Q5.out.keep K6.out (fun _ _ _ q => q.elim)).keep k7 (fun _ _ _ q => q.elim))
      have hFKr : Hid (∀ k, FK k → k ≠ r) := Lib.hid (fun k q => by have := P3.out k q; omega)
      have hwr : w.heap.size ≤ r := by have := Q6.out.size; omega
      clear h7 k7 Q5 Q4 O6
      generalize hFR : (fun k => w6.heap.size ≤ k ∧ k < r) = FR at R7
      clear hFR
      go_wp2
      go_loopw [93] (fun i wx => ∃ (q : Nat) (rs : RS), q ≤ ops.length ∧ i = .int .i64 q ∧ RSAt wx FR r rs ∧ Hid (Match ((WS.mk [] 0).all (ops.take q)) rs b) ∧ Rd wx FK A4 (ops.flatMap OOp.cells) ∧ Kept noneS w wx) (fun i _ => ops.length - (intOf i).toNat)
      case atStart => exact ⟨0, ⟨b, 0, 0, 0⟩, Nat.zero_le _, rfl, R7.out, Lib.hid ⟨rfl, rfl, rfl, rfl⟩, KD.out, K7.out⟩
      case round =>
        clear R7 K7 KD K6 Q6 P3
        obtain ⟨j, rs, hj, rfl, hrs, HMt, hkd, hkk⟩ := hrel
        have RA := Lib.hid hrs
        have KD := Lib.hid hkd
        have KK := Lib.hid hkk
        clear hrs hkd hkk
        by_cases hlt : j < ops.length
        · obtain ⟨g, o, rfl, hgg, d0, d1, d2, d3, d4⟩ := KD.out.oop hlt
          have hgood := HG.out ops[j] (List.getElem_mem hlt)
          have HTk := Lib.hid (List.take_succ_eq_append_getElem hlt)
          have hbj : (ops[j]).bulk ≤ 1048576 := by have := sum_take OOp.bulk ops j hlt; have := sum_take_le OOp.bulk ops (j + 1); have := HBu.out; omega
          generalize ops[j] = op at d0 d1 d2 d3 d4 hgood HTk hbj
          have hAll : (WS.mk [] 0).all (ops.take (j + 1)) = ((WS.mk [] 0).all (ops.take j)).step op := by rw [HTk.out, WS.all_snoc]
          have HE := Lib.hid (hExt.out (j + 1))
          have HSok : Hid (((WS.mk [] 0).all (ops.take j)).ok) := Lib.hid (WS.all_ok _ _ (fun h => absurd rfl h))
          rw [hAll] at HE
          have HAll := Lib.hid hAll
          clear hAll
          obtain ⟨_, _, ⟨hu1, hu2⟩, htx, hrb, hdl, hdc, hdn⟩ := hgood
          have RD := Lib.hid (hrb.still (KK.out.alloc (.cells #[.int .i64 op.kind, .int .i64 op.n, .int .i64 op.num, .string op.text, .slice op.addr op.data.length op.cap] 33)))
          clear hrb hdn
          generalize hss : (WS.mk [] 0).all (ops.take j) = s at HMt HAll HE HSok
          clear hss
          have a7 := and7w op.kind
          have hk8 : (op.kind % 8).toNat < 8 := by omega
          have HStep : Hid (s.step op = match (op.kind % 8).toNat with | 0 => s.num 1 op.num | 1 => s.num 2 op.num | 2 => s.num 4 op.num | 3 => s.num 8 op.num | 4 => s.bit (bits .and .i64 op.num 1 == 1) | 5 => s.short op.text.data.toList | 6 => s.long op.text.data.toList | _ => s.raw op.data) := Lib.hid rfl
          generalize (op.kind % 8).toNat = kd at a7 hk8 HStep
          have RAa := Lib.hid (RA.out.still ((Kept.refl noneS wr).alloc (.cells #[.int .i64 op.kind, .int .i64 op.n, .int .i64 op.num, .string op.text, .slice op.addr op.data.length op.cap] 33)))
          have KDa := Lib.hid (KD.out.keep ((Kept.refl noneS wr).alloc (.cells #[.int .i64 op.kind, .int .i64 op.n, .int .i64 op.num, .string op.text, .slice op.addr op.data.length op.cap] 33)) (fun _ _ _ q => q.elim))
          have KKa := Lib.hid (KK.out.alloc (.cells #[.int .i64 op.kind, .int .i64 op.n, .int .i64 op.num, .string op.text, .slice op.addr op.data.length op.cap] 33))
          have HBk := Lib.hid (Blk.new wr 33 #[.int .i64 op.kind, .int .i64 op.n, .int .i64 op.num, .string op.text, .slice op.addr op.data.length op.cap])
          have hz : wr.heap.size < (wr.alloc (.cells #[.int .i64 op.kind, .int .i64 op.n, .int .i64 op.num, .string op.text, .slice op.addr op.data.length op.cap] 33)).heap.size := by simp
          have hrw : r < wr.heap.size := by obtain ⟨⟨_, _, ⟨_, _, hb, _⟩, _⟩, _⟩ := RA.out; exact hb.lt
          go_upto_block 5 with (fail)
          clear d0 d1 d2 d3 d4 KK RA KD
          generalize wr.alloc (.cells #[.int .i64 op.kind, .int .i64 op.n, .int .i64 op.num, .string op.text, .slice op.addr op.data.length op.cap] 33) = wa at RAa KDa KKa HBk hz RD ⊢
          generalize wr.heap.size = bo at HBk hz hrw ⊢
          have a2 : wa.cell? ⟨bo, 2, none⟩ = some (.int .i64 op.num) := HBk.out.cell 2
          have a3 : wa.cell? ⟨bo, 3, none⟩ = some (.string op.text) := HBk.out.cell 3
          have a4 : wa.cell? ⟨bo, 4, none⟩ = some (.slice op.addr op.data.length op.cap) := HBk.out.cell 4
          rcases (by omega : kd = 0 ∨ kd = 1 ∨ kd = 2 ∨ kd = 3 ∨ kd = 4 ∨ kd = 5 ∨ kd = 6 ∨ kd = 7) with rfl | rfl | rfl | rfl | rfl | rfl | rfl | rfl
          · have HE1 : Hid (Ext (s.num 1 op.num) b) := Lib.hid (by have := HE.out; rwa [HStep.out] at this)
            have hmt := HMt.out.num HE1.out
            have HM1 : Hid (Match (s.step op) (rs.num 1).1 b) := Lib.hid (by rw [HStep.out]; exact hmt.2)
            obtain ⟨y, hy⟩ : ∃ y, bits .and .i64 op.num 255 = y := ⟨_, rfl⟩
            have HV : Hid ((rs.num 1).2 = y) := Lib.hid (by rw [hmt.1, ← hy, m8])
            have hyy : (y == y) = true := by simp
            go_upto_region 39 with (fail)
            go_region_held3 (fun W => W.cell? ⟨bo, 2, none⟩ = some (.int .i64 op.num))
              (first | exact a2 | exact b2)
              (first
                | (go_at_call 11; refine (rsOctet wa.drew FR r rs (RAa.out.still ((Kept.refl noneS wa).drew))).mono ?_; rintro e w8 ⟨rfl, h8, k0⟩; have k8 : Kept (· = r) wa w8 := ⟨k0.os, k0.tape, k0.output, k0.size, k0.block⟩; clear k0; rw [HV.out]; have b2 : w8.cell? ⟨bo, 2, none⟩ = some (.int .i64 op.num) := (HBk.out.keep k8 (fun q => by omega)).cell 2; have R8 := Lib.hid h8; have K8 := Lib.hid k8; clear h8 k8))
            clear a2 a3 a4 b2
            go_wp2
            go_roundw
            case rel => exact ⟨j + 1, _, by omega, by go_num, R8.out, by rw [HAll.out]; exact HM1, KDa.out.keep K8.out (fun k _ x q => hFKr.out k x q), KKa.out.trans2 K8.out (fun k x q => absurd x (by omega))⟩
            case measure => simp [intOf]; omega
          · have HE1 : Hid (Ext (s.num 2 op.num) b) := Lib.hid (by have := HE.out; rwa [HStep.out] at this)
            have hmt := HMt.out.num HE1.out
            have HM1 : Hid (Match (s.step op) (rs.num 2).1 b) := Lib.hid (by rw [HStep.out]; exact hmt.2)
            obtain ⟨y, hy⟩ : ∃ y, bits .and .i64 op.num 65535 = y := ⟨_, rfl⟩
            have HV : Hid ((rs.num 2).2 = y) := Lib.hid (by rw [hmt.1, ← hy, m16])
            have hyy : (y == y) = true := by simp
            go_upto_region 41 with (fail)
            go_region_held3 (fun W => W.cell? ⟨bo, 2, none⟩ = some (.int .i64 op.num))
              (first | exact a2 | exact b2)
              (first
                | (go_at_call 13; refine (rsShort wa.drew FR r rs (RAa.out.still ((Kept.refl noneS wa).drew))).mono ?_; rintro e w8 ⟨rfl, h8, k0⟩; have k8 : Kept (· = r) wa w8 := ⟨k0.os, k0.tape, k0.output, k0.size, k0.block⟩; clear k0; rw [HV.out]; have b2 : w8.cell? ⟨bo, 2, none⟩ = some (.int .i64 op.num) := (HBk.out.keep k8 (fun q => by omega)).cell 2; have R8 := Lib.hid h8; have K8 := Lib.hid k8; clear h8 k8))
            clear a2 a3 a4 b2
            go_wp2
            go_roundw
            case rel => exact ⟨j + 1, _, by omega, by go_num, R8.out, by rw [HAll.out]; exact HM1, KDa.out.keep K8.out (fun k _ x q => hFKr.out k x q), KKa.out.trans2 K8.out (fun k x q => absurd x (by omega))⟩
            case measure => simp [intOf]; omega
          · have HE1 : Hid (Ext (s.num 4 op.num) b) := Lib.hid (by have := HE.out; rwa [HStep.out] at this)
            have hmt := HMt.out.num HE1.out
            have HM1 : Hid (Match (s.step op) (rs.num 4).1 b) := Lib.hid (by rw [HStep.out]; exact hmt.2)
            obtain ⟨y, hy⟩ : ∃ y, bits .and .i64 op.num 4294967295 = y := ⟨_, rfl⟩
            have HV : Hid ((rs.num 4).2 = y) := Lib.hid (by rw [hmt.1, ← hy, m32])
            have hyy : (y == y) = true := by simp
            go_upto_region 43 with (fail)
            go_region_held3 (fun W => W.cell? ⟨bo, 2, none⟩ = some (.int .i64 op.num))
              (first | exact a2 | exact b2)
              (first
                | (go_at_call 14; refine (rsLong wa.drew FR r rs (RAa.out.still ((Kept.refl noneS wa).drew))).mono ?_; rintro e w8 ⟨rfl, h8, k0⟩; have k8 : Kept (· = r) wa w8 := ⟨k0.os, k0.tape, k0.output, k0.size, k0.block⟩; clear k0; rw [HV.out]; have b2 : w8.cell? ⟨bo, 2, none⟩ = some (.int .i64 op.num) := (HBk.out.keep k8 (fun q => by omega)).cell 2; have R8 := Lib.hid h8; have K8 := Lib.hid k8; clear h8 k8))
            clear a2 a3 a4 b2
            go_wp2
            go_roundw
            case rel => exact ⟨j + 1, _, by omega, by go_num, R8.out, by rw [HAll.out]; exact HM1, KDa.out.keep K8.out (fun k _ x q => hFKr.out k x q), KKa.out.trans2 K8.out (fun k x q => absurd x (by omega))⟩
            case measure => simp [intOf]; omega
          · have HE1 : Hid (Ext (s.num 8 op.num) b) := Lib.hid (by have := HE.out; rwa [HStep.out] at this)
            have hmt := HMt.out.num HE1.out
            have HM1 : Hid (Match (s.step op) (rs.num 8).1 b) := Lib.hid (by rw [HStep.out]; exact hmt.2)
            have HV : Hid ((rs.num 8).2 = op.num) := Lib.hid (hmt.1.trans (be_val8 op.num hu1 hu2))
            have hyy : (op.num == op.num) = true := by simp
            go_upto_region 45 with (fail)
            go_region_held3 (fun W => W.cell? ⟨bo, 2, none⟩ = some (.int .i64 op.num))
              (first | exact a2 | exact b2)
              (first
                | (go_at_call 15; refine (rsLongLong wa.drew FR r rs (RAa.out.still ((Kept.refl noneS wa).drew))).mono ?_; rintro e w8 ⟨rfl, h8, k0⟩; have k8 : Kept (· = r) wa w8 := ⟨k0.os, k0.tape, k0.output, k0.size, k0.block⟩; clear k0; rw [HV.out]; have b2 : w8.cell? ⟨bo, 2, none⟩ = some (.int .i64 op.num) := (HBk.out.keep k8 (fun q => by omega)).cell 2; have R8 := Lib.hid h8; have K8 := Lib.hid k8; clear h8 k8))
            clear a2 a3 a4 b2
            go_wp2
            go_roundw
            case rel => exact ⟨j + 1, _, by omega, by go_num, R8.out, by rw [HAll.out]; exact HM1, KDa.out.keep K8.out (fun k _ x q => hFKr.out k x q), KKa.out.trans2 K8.out (fun k x q => absurd x (by omega))⟩
            case measure => simp [intOf]; omega
          · obtain ⟨y, hy⟩ : ∃ y, bits .and .i64 op.num 1 = y := ⟨_, rfl⟩
            rw [hy] at HStep
            have HE1 : Hid (Ext (s.bit (y == 1)) b) := Lib.hid (by have := HE.out; rwa [HStep.out] at this)
            have hmt := HMt.out.bit HSok.out HE1.out
            have HM1 : Hid (Match (s.step op) rs.bit.1 b) := Lib.hid (by rw [HStep.out]; exact hmt.2)
            have HV : Hid (rs.bit.2 = (y == 1)) := Lib.hid hmt.1
            clear hmt
            have hyy : ((y == 1) == (y == 1)) = true := by simp
            go_upto_region 47 with (fail)
            go_region_held3 (fun W => W.cell? ⟨bo, 2, none⟩ = some (.int .i64 op.num))
              (first | exact a2 | exact b2)
              (first
                | (go_at_call 16; refine (rsBit wa.drew FR r rs (RAa.out.still ((Kept.refl noneS wa).drew))).mono ?_; rintro e w8 ⟨rfl, h8, k0⟩; have k8 : Kept (· = r) wa w8 := ⟨k0.os, k0.tape, k0.output, k0.size, k0.block⟩; clear k0; rw [HV.out]; have b2 : w8.cell? ⟨bo, 2, none⟩ = some (.int .i64 op.num) := (HBk.out.keep k8 (fun q => by omega)).cell 2; have R8 := Lib.hid h8; have K8 := Lib.hid k8; clear h8 k8))
            clear a2 a3 a4 b2
            go_wp2
            go_roundw
            case rel => exact ⟨j + 1, _, by omega, by go_num, R8.out, by rw [HAll.out]; exact HM1, KDa.out.keep K8.out (fun k _ x q => hFKr.out k x q), KKa.out.trans2 K8.out (fun k x q => absurd x (by omega))⟩
            case measure => simp [intOf]; omega
          · by_cases h255 : op.text.size ≤ 255
            · have HSx : Hid (s.short op.text.data.toList = (s.num 1 op.text.data.toList.length).raw op.text.data.toList) := Lib.hid (by unfold WS.short; rw [if_neg (by rw [bytes_size]; omega)])
              have HE1 : Hid (Ext ((s.num 1 op.text.data.toList.length).raw op.text.data.toList) b) := Lib.hid (by have := HE.out; rw [HStep.out] at this; rw [← HSx.out]; exact this)
              unfold maxLen at htx
              have hmt := HMt.out.text (k := 1) (by decide) (by rw [bytes_size]; omega) HE1.out
              have HM1 : Hid (Match (s.step op) (rs.text 1).1 b) := Lib.hid (by rw [HStep.out, HSx.out]; exact hmt.2)
              have HV : Hid ((⟨(rs.text 1).2.toArray⟩ : ByteArray) = op.text) := Lib.hid (by rw [hmt.1, str_back])
              clear hmt
              have hyy : (op.text.toList == op.text.toList) = true := by simp
              go_upto_region 51 with (fail)
              go_region_held3 (fun W => W.cell? ⟨bo, 3, none⟩ = some (.string op.text))
                (first | exact a3 | exact b3)
                (first
                  | (go_at_call 18; refine (rsShortStr wa.drew FR r rs (RAa.out.still ((Kept.refl noneS wa).drew))).mono ?_; rintro e w8 ⟨rfl, h8, k0⟩; have k8 : Kept (· = r) wa w8 := ⟨k0.os, k0.tape, k0.output, k0.size, k0.block⟩; clear k0; rw [HV.out]; have b3 : w8.cell? ⟨bo, 3, none⟩ = some (.string op.text) := (HBk.out.keep k8 (fun q => by omega)).cell 3; have R8 := Lib.hid h8; have K8 := Lib.hid k8; clear h8 k8))
              clear a2 a3 a4 b3
              go_wp2
              go_roundw
              case rel => exact ⟨j + 1, _, by omega, by go_num, R8.out, by rw [HAll.out]; exact HM1, KDa.out.keep K8.out (fun k _ x q => hFKr.out k x q), KKa.out.trans2 K8.out (fun k x q => absurd x (by omega))⟩
              case measure => simp [intOf]; omega
            · have h256 : 255 < op.text.size := by omega
              unfold maxLen at htx
              have HM1 : Hid (Match (s.step op) (rs.raw 0).1 b) := Lib.hid (by rw [HStep.out]; have e : s.short op.text.data.toList = ⟨s.bs, 0⟩ := (by unfold WS.short; rw [if_pos (by rw [bytes_size]; omega)]); show Match (s.short op.text.data.toList) _ b; rw [e]; exact HMt.out.skip)
              go_wp2_with fail
              refine (rsRaw 0 wa FR r rs RAa.out (Nat.le_trans (show (rs.raw 0).2.length ≤ 0 from RS.raw_len rs 0) (by decide))).mono ?_
              rintro e w8 ⟨A8, c8, rfl, _, h8, k8⟩
              have R8 := Lib.hid h8
              have K8 := Lib.hid k8
              clear h8 k8 a2 a3 a4
              go_wp2
              go_roundw
              case rel => exact ⟨j + 1, _, by omega, by go_num, R8.out, by rw [HAll.out]; exact HM1, KDa.out.keep K8.out (fun k _ x q => hFKr.out k x q), KKa.out.trans2 K8.out (fun k x q => absurd x (by omega))⟩
              case measure => simp [intOf]; omega
          · have HSx : Hid (s.long op.text.data.toList = (s.num 4 op.text.data.toList.length).raw op.text.data.toList) := Lib.hid rfl
            have HE1 : Hid (Ext ((s.num 4 op.text.data.toList.length).raw op.text.data.toList) b) := Lib.hid (by have := HE.out; rw [HStep.out] at this; exact this)
            unfold maxLen at htx
            have hmt := HMt.out.text (k := 4) (by decide) (by rw [bytes_size]; unfold OOp.bulk at hbj; omega) HE1.out
            have HM1 : Hid (Match (s.step op) (rs.text 4).1 b) := Lib.hid (by rw [HStep.out, HSx.out]; exact hmt.2)
            have HV : Hid ((⟨(rs.text 4).2.toArray⟩ : ByteArray) = op.text) := Lib.hid (by rw [hmt.1, str_back])
            clear hmt
            have hyy : (op.text.toList == op.text.toList) = true := by simp
            go_upto_region 53 with (fail)
            go_region_held3 (fun W => W.cell? ⟨bo, 3, none⟩ = some (.string op.text))
              (first | exact a3 | exact b3)
              (first
                | (go_at_call 20; refine (rsLongStr wa.drew FR r rs (RAa.out.still ((Kept.refl noneS wa).drew))).mono ?_; rintro e w8 ⟨rfl, h8, k0⟩; have k8 : Kept (· = r) wa w8 := ⟨k0.os, k0.tape, k0.output, k0.size, k0.block⟩; clear k0; rw [HV.out]; have b3 : w8.cell? ⟨bo, 3, none⟩ = some (.string op.text) := (HBk.out.keep k8 (fun q => by omega)).cell 3; have R8 := Lib.hid h8; have K8 := Lib.hid k8; clear h8 k8))
            clear a2 a3 a4 b3
            go_wp2
            go_roundw
            case rel => exact ⟨j + 1, _, by omega, by go_num, R8.out, by rw [HAll.out]; exact HM1, KDa.out.keep K8.out (fun k _ x q => hFKr.out k x q), KKa.out.trans2 K8.out (fun k x q => absurd x (by omega))⟩
            case measure => simp [intOf]; omega
          · have HE1 : Hid (Ext (s.raw op.data) b) := Lib.hid (by have := HE.out; rw [HStep.out] at this; exact this)
            have hmt := HMt.out.raw HE1.out
            have HM1 : Hid (Match (s.step op) (rs.raw (op.data.length : Int)).1 b) := Lib.hid (by rw [HStep.out]; exact hmt.2)
            have HV : Hid ((rs.raw (op.data.length : Int)).2 = op.data) := Lib.hid hmt.1
            clear hmt
            have hdl2 : op.data.length ≤ 1048576 := by unfold OOp.bulk at hbj; omega
            have E2 : Hid ((op.data == op.data) = true) := Lib.hid (by simp)
            go_upto_region 37 with (fail)
            go_region_held3 (fun W => W.cell? ⟨bo, 4, none⟩ = some (.slice op.addr op.data.length op.cap))
              (first | exact a4 | exact b4)
              (first
                | (go_at_call 21; refine (rsRaw (op.data.length : Int) wa.drew FR r rs (RAa.out.still ((Kept.refl noneS wa).drew)) (by rw [HV.out]; omega)).mono ?_; rintro e w8 ⟨A8, c8, rfl, o8, h8, k0⟩; have k8 : Kept (· = r) wa w8 := ⟨k0.os, k0.tape, k0.output, k0.size, k0.block⟩; clear k0; rw [HV.out] at o8; rw [HV.out]; have b4 : w8.cell? ⟨bo, 4, none⟩ = some (.slice op.addr op.data.length op.cap) := (HBk.out.keep k8 (fun q => by omega)).cell 4; have O8 := Lib.hid (OB.rb o8).2; have RD8 := Lib.hid (RD.out.keep k8 (fun k _ x q => by omega)); have R8 := Lib.hid h8; have K8 := Lib.hid k8; clear h8 k8 o8)
                | (go_at_call 10; refine (same_any A8 op.addr c8 op.cap op.data.length op.data.length op.data op.data _ _ w8 O8.out RD8.out rfl rfl).mono ?_; rintro e w9 ⟨rfl, rfl⟩; rw [E2.out]))
            clear a2 a3 a4 b4
            go_wp2
            go_roundw
            case rel => exact ⟨j + 1, _, by omega, by go_num, R8.out, by rw [HAll.out]; exact HM1, KDa.out.keep K8.out (fun k _ x q => hFKr.out k x q), KKa.out.trans2 K8.out (fun k x q => absurd x (by omega))⟩
            case measure => simp [intOf]; omega
        · obtain rfl : j = ops.length := by omega
          have hM := HMt.out
          rw [List.take_length] at hM
          have hleft : rs.left.length = 0 := by
            unfold RS.left
            rw [hM.1, hM.2.1, HBb.out, List.length_drop]
            omega
          have HL := Lib.hid hleft
          have HF : Hid (rs.fin = 0) := Lib.hid (by unfold RS.fin; rw [if_neg (by rw [hleft]; omega)]; exact hM.2.2.1)
          clear hM hleft
          go_wp2_with fail
          refine (rsEnd wr FR r rs RA.out).mono ?_
          rintro e w8 ⟨rfl, rfl⟩
          rw [HF.out]
          go_wp2_with fail
          refine (rsLeft wr FR r rs RA.out).mono ?_
          rintro e w8 ⟨rfl, rfl⟩
          rw [HL.out]
          go_wp2
          go_ret
          exact ⟨rfl, KK.out⟩

end Go.Proofs.Ytepligggofbegaa
