/-
  warrenref01.Reader's Bit.
-/
import Derived.Test.YtepligggofbegaaRefR
namespace Go.Proofs.Ytepligggofbegaa
open Go.RowKit

def RBitPost (w : World) (F : Nat → Prop) (p : Nat) (s : RS) (e : Ending) (w' : World) : Prop := e = .returned (.bool s.bit.2) ∧ RRAt w' F p s.bit.1 ∧ Kept (· = p) w w'

set_option maxHeartbeats 800000 in
theorem rrBit_in (w : World) (F : Nat → Prop) (p : Nat) (s : RS) (h : RRAt w F p s) (hn : s.bs.length ≤ 140737488351232) (hc : s.code = 0) (hr : s.row % 8 ≠ 0) :
    Calls Try.prog 17 #[.pointer (some ⟨p, 0, none⟩)] w (RBitPost w F p s) := by
  obtain ⟨⟨A, c, hblk, hrb, h2, hcm, hF⟩, hok⟩ := h
  have HBit : Hid (s.bit = ({ s with row := s.row + 1 }, (s.bs.getD (s.pos - 1) 0).toNat / 2 ^ s.row % 2 == 1)) := Lib.hid (by unfold RS.bit; rw [if_neg (by simp [hc]), if_neg hr])
  have HOk := Lib.hid (RS.ok_bit s hok)
  rw [hc] at hblk
  have e3 : w.cell? ⟨p, 3, none⟩ = some (.int .i64 0) := hblk.cell 3
  have e2 : w.cell? ⟨p, 2, none⟩ = some (.int .i64 (s.row : Int)) := hblk.cell 2
  have hr8 := hok.2.1
  have hpos1 := hok.2.2 (fun q => hr (by rw [q]))
  have hpos2 := hok.1
  have hm : ((s.row : Int) % 8 == 0) = false := by simp; omega
  have hm0 : (0 : Int) ≤ (s.row : Int) := by omega
  have B2 := Lib.hid hblk
  have R2 := Lib.hid hrb
  have K2 := Lib.hid (Kept.refl (· = p) w)
  have HF := Lib.hid hF
  have HC := Lib.hid hc
  clear hblk hrb hF hok hc hr
  obtain ⟨w2, rfl⟩ : ∃ w2 : World, w2 = w := ⟨_, rfl⟩
  go_enter Try.func17, Try.ntmps17
  go_upto_region 10 with (fail)
  clear hm
  generalize hpp : s.pos = pos2 at *
  generalize hrr : s.row = row2 at *
  have HPp := Lib.hid hpp
  have HRr := Lib.hid hrr
  clear hpp hrr e2 e3
  have c0 : w2.cell? ⟨p, 0, none⟩ = some (.slice A s.bs.length c) := B2.out.cell 0
  have c1 : w2.cell? ⟨p, 1, none⟩ = some (.int .i64 (pos2 : Int)) := B2.out.cell 1
  have c2 : w2.cell? ⟨p, 2, none⟩ = some (.int .i64 (row2 : Int)) := B2.out.cell 2
  have f2 := B2.out.frozen 2
  obtain ⟨g, o, rfl, _, d0⟩ := R2.out.at_ (k := pos2 - 1) (by omega)
  have hw1 : IntKind.i64.wrap ((pos2 : Int) - 1) = (pos2 : Int) - 1 := IntWalk.i64_in _ (by omega)
  have hw2 : 0 ≤ (pos2 : Int) - 1 := by omega
  have hw3 : ((pos2 : Int) - 1).toNat = pos2 - 1 := by omega
  have hw4 : (pos2 : Int) - 1 < (s.bs.length : Int) := by omega
  have HX : Hid ((s.bs.getD (pos2 - 1) 0).toNat = (s.bs[pos2 - 1]'(by omega)).toNat) := Lib.hid (by simp [List.getD, List.getElem?_eq_getElem (show pos2 - 1 < s.bs.length by omega)])
  have hx := (s.bs[pos2 - 1]'(by omega)).toNat_lt
  generalize (s.bs[pos2 - 1]'(by omega)).toNat = x at d0 hx HX
  go_quiet (fail)
  clear d0 hw1 hw2 hw3 hw4
  go_wp2
  go_loop [3, 4] (fun v i => ∃ q : Nat, q ≤ row2 ∧ i = .int .i64 q ∧ v = .int .u8 ((x / 2 ^ q : Nat) : Int)) (fun _ i => row2 - (intOf i).toNat)
  case atStart => exact ⟨0, Nat.zero_le _, rfl, by simp⟩
  case round =>
    obtain ⟨q, hq, rfl, rfl⟩ := hrel
    by_cases hlt : q < row2
    · have hX : x / 2 ^ q < 256 := Nat.lt_of_le_of_lt (Nat.div_le_self _ _) hx
      have HQ : Hid (x / 2 ^ (q + 1) = x / 2 ^ q / 2) := Lib.hid (by rw [Nat.pow_succ, Nat.div_div_eq_div_mul])
      generalize x / 2 ^ q = X at hX HQ ⊢
      go_wp2
      go_round
      case rel => exact ⟨q + 1, by omega, by go_num, by rw [HQ.out]; go_num⟩
      case measure => simp [intOf]; omega
    · obtain rfl : q = row2 := by omega
      have hX : x / 2 ^ q < 256 := Nat.lt_of_le_of_lt (Nat.div_le_self _ _) hx
      have HE : Hid (((s.bs.getD (pos2 - 1) 0).toNat / 2 ^ q % 2 == 1) = (((x / 2 ^ q : Nat) : Int) % 2 == 1)) := Lib.hid (by rw [HX.out]; generalize x / 2 ^ q = Y; rw [Bool.eq_iff_iff]; simp; omega)
      generalize x / 2 ^ q = X at hX HE ⊢
      go_wp2
      go_ret
      unfold RBitPost
      rw [HBit.out] at HOk ⊢
      have hkq := (((Kept.refl (· = p) w2).drewN nq).setCell (p := ⟨p, 2, none⟩) (fun _ => rfl) (.int .i64 ((q : Int) + 1)))
      refine ⟨by rw [HE.out]; rfl, ⟨⟨_, c, ?_, R2.out.keep hkq (fun k _ a b => HF.out (b ▸ a)), h2, hcm, HF.out⟩, HOk.out⟩, K2.out.trans hkq⟩
      show Blk _ p 30 #[.slice (some ⟨g, o, none⟩) s.bs.length c, .int .i64 (pos2 : Int), .int .i64 ((q + 1 : Nat) : Int), .int .i64 s.code]
      rw [HC.out, Int.natCast_add]
      exact (B2.out.drewN nq).set_ 2 _

set_option maxHeartbeats 800000 in
theorem rrBit_new (w : World) (F : Nat → Prop) (p : Nat) (s : RS) (h : RRAt w F p s) (hn : s.bs.length ≤ 140737488351232) (hc : s.code = 0) (hr : s.row % 8 = 0) (hl : 0 < s.left.length) :
    Calls Try.prog 17 #[.pointer (some ⟨p, 0, none⟩)] w (RBitPost w F p s) := by
  obtain ⟨⟨A, c, hblk, hrb, h2, hcm, hF⟩, hok⟩ := h
  have HBit : Hid (s.bit = ({ s with pos := s.pos + 1, row := 0 + 1 }, (s.bs.getD (s.pos + 1 - 1) 0).toNat / 2 ^ 0 % 2 == 1)) := Lib.hid (by unfold RS.bit; rw [if_neg (by simp [hc]), if_pos hr, if_neg (by omega)]; simp)
  have HOk := Lib.hid (RS.ok_bit s hok)
  have hll : s.pos < s.bs.length := by unfold RS.left at hl; rw [List.length_drop] at hl; omega
  rw [hc] at hblk
  have e0 : w.cell? ⟨p, 0, none⟩ = some (.slice A s.bs.length c) := hblk.cell 0
  have e1 : w.cell? ⟨p, 1, none⟩ = some (.int .i64 (s.pos : Int)) := hblk.cell 1
  have e2 : w.cell? ⟨p, 2, none⟩ = some (.int .i64 (s.row : Int)) := hblk.cell 2
  have e3 : w.cell? ⟨p, 3, none⟩ = some (.int .i64 0) := hblk.cell 3
  have g1 := hblk.frozen 1
  have g2 := hblk.frozen 2
  have hm : (s.row : Int) % 8 = 0 := by omega
  have hne : ((s.pos : Int) == (s.bs.length : Int)) = false := by simp; omega
  have hr8 := hok.2.1
  have B0 := Lib.hid hblk
  have R0 := Lib.hid hrb
  have HF := Lib.hid hF
  have HC := Lib.hid hc
  clear hblk hrb hF hok hc hr hl
  go_enter Try.func17, Try.ntmps17
  go_upto_region 5 with (fail)
  go_quiet (fail)
  go_upto_region 10 with (fail)
  have hk0 := (((Kept.refl (· = p) w).drewN nq).setCell (p := ⟨p, 1, none⟩) (fun _ => rfl) (.int .i64 ((s.pos : Int) + 1))).setCell (p := ⟨p, 2, none⟩) (fun _ => rfl) (.int .i64 0)
  have B2 := Lib.hid (((B0.out.drewN nq).set_ 1 (.int .i64 ((s.pos : Int) + 1))).set_ 2 (.int .i64 0))
  have R2 := Lib.hid (R0.out.keep hk0 (fun k _ a b => HF.out (b ▸ a)))
  have K2 := Lib.hid hk0
  clear hk0
  generalize ((w.drewN nq).setCell ⟨p, 1, none⟩ (.int .i64 ((s.pos : Int) + 1))).setCell ⟨p, 2, none⟩ (.int .i64 0) = w2 at B2 R2 K2 ⊢
  obtain ⟨pos2, HP⟩ : ∃ pos2 : Nat, Hid (s.pos + 1 = pos2) := ⟨_, Lib.hid rfl⟩
  obtain ⟨row2, HR0⟩ : ∃ row2 : Nat, Hid (row2 = 0) := ⟨0, Lib.hid rfl⟩
  have hpos1 : 1 ≤ pos2 := by have := HP.out; omega
  have hpos2 : pos2 ≤ s.bs.length := by have := HP.out; omega
  have hrow8 : row2 ≤ 8 := by have := HR0.out; omega
  have B3 : Hid (Blk w2 p 30 #[.slice A s.bs.length c, .int .i64 (pos2 : Int), .int .i64 (row2 : Int), .int .i64 0]) := Lib.hid (by
    rw [← HP.out, HR0.out, Int.natCast_add]
    exact B2.out)
  have HBit2 : Hid (s.bit = ({ s with pos := pos2, row := row2 + 1 }, (s.bs.getD (pos2 - 1) 0).toNat / 2 ^ row2 % 2 == 1)) := Lib.hid (by rw [← HP.out, HR0.out]; exact HBit.out)
  clear B2 HBit e0 e1 e2 e3 g1 g2 hm hne hll hr8 HP HR0
  have B2 := B3
  have HBit := HBit2
  clear B3 HBit2
  have c0 : w2.cell? ⟨p, 0, none⟩ = some (.slice A s.bs.length c) := B2.out.cell 0
  have c1 : w2.cell? ⟨p, 1, none⟩ = some (.int .i64 (pos2 : Int)) := B2.out.cell 1
  have c2 : w2.cell? ⟨p, 2, none⟩ = some (.int .i64 (row2 : Int)) := B2.out.cell 2
  have f2 := B2.out.frozen 2
  obtain ⟨g, o, rfl, _, d0⟩ := R2.out.at_ (k := pos2 - 1) (by omega)
  have hw1 : IntKind.i64.wrap ((pos2 : Int) - 1) = (pos2 : Int) - 1 := IntWalk.i64_in _ (by omega)
  have hw2 : 0 ≤ (pos2 : Int) - 1 := by omega
  have hw3 : ((pos2 : Int) - 1).toNat = pos2 - 1 := by omega
  have hw4 : (pos2 : Int) - 1 < (s.bs.length : Int) := by omega
  have HX : Hid ((s.bs.getD (pos2 - 1) 0).toNat = (s.bs[pos2 - 1]'(by omega)).toNat) := Lib.hid (by simp [List.getD, List.getElem?_eq_getElem (show pos2 - 1 < s.bs.length by omega)])
  have hx := (s.bs[pos2 - 1]'(by omega)).toNat_lt
  generalize (s.bs[pos2 - 1]'(by omega)).toNat = x at d0 hx HX
  go_quiet (fail)
  clear d0 hw1 hw2 hw3 hw4
  go_wp2
  go_loop [3, 4] (fun v i => ∃ q : Nat, q ≤ row2 ∧ i = .int .i64 q ∧ v = .int .u8 ((x / 2 ^ q : Nat) : Int)) (fun _ i => row2 - (intOf i).toNat)
  case atStart => exact ⟨0, Nat.zero_le _, rfl, by simp⟩
  case round =>
    obtain ⟨q, hq, rfl, rfl⟩ := hrel
    by_cases hlt : q < row2
    · have hX : x / 2 ^ q < 256 := Nat.lt_of_le_of_lt (Nat.div_le_self _ _) hx
      have HQ : Hid (x / 2 ^ (q + 1) = x / 2 ^ q / 2) := Lib.hid (by rw [Nat.pow_succ, Nat.div_div_eq_div_mul])
      generalize x / 2 ^ q = X at hX HQ ⊢
      go_wp2
      go_round
      case rel => exact ⟨q + 1, by omega, by go_num, by rw [HQ.out]; go_num⟩
      case measure => simp [intOf]; omega
    · obtain rfl : q = row2 := by omega
      have hX : x / 2 ^ q < 256 := Nat.lt_of_le_of_lt (Nat.div_le_self _ _) hx
      have HE : Hid (((s.bs.getD (pos2 - 1) 0).toNat / 2 ^ q % 2 == 1) = (((x / 2 ^ q : Nat) : Int) % 2 == 1)) := Lib.hid (by rw [HX.out]; generalize x / 2 ^ q = Y; rw [Bool.eq_iff_iff]; simp; omega)
      generalize x / 2 ^ q = X at hX HE ⊢
      go_wp2
      go_ret
      unfold RBitPost
      rw [HBit.out] at HOk ⊢
      have hkq := (((Kept.refl (· = p) w2).drewN nq).setCell (p := ⟨p, 2, none⟩) (fun _ => rfl) (.int .i64 ((q : Int) + 1)))
      refine ⟨by rw [HE.out]; rfl, ⟨⟨_, c, ?_, R2.out.keep hkq (fun k _ a b => HF.out (b ▸ a)), h2, hcm, HF.out⟩, HOk.out⟩, K2.out.trans hkq⟩
      show Blk _ p 30 #[.slice (some ⟨g, o, none⟩) s.bs.length c, .int .i64 (pos2 : Int), .int .i64 ((q + 1 : Nat) : Int), .int .i64 s.code]
      rw [HC.out, Int.natCast_add]
      exact (B2.out.drewN nq).set_ 2 _

theorem rrBit (w : World) (F : Nat → Prop) (p : Nat) (s : RS) (h : RRAt w F p s) (hn : s.bs.length ≤ 140737488351232) :
    Calls Try.prog 17 #[.pointer (some ⟨p, 0, none⟩)] w (RBitPost w F p s) := by
  by_cases hc : s.code = 0
  · by_cases hr : s.row % 8 = 0
    · by_cases hl : 0 < s.left.length
      · exact rrBit_new w F p s h hn hc hr hl
      · obtain ⟨⟨A, c, hblk, hrb, h2, hcm, hF⟩, hok⟩ := h
        have HBit : Hid (s.bit = ({ s with code := 3 }, false)) := Lib.hid (by unfold RS.bit; rw [if_neg (by simp [hc]), if_pos hr, if_pos (by omega)])
        have HOk := Lib.hid (RS.ok_bit s hok)
        have hpp : s.pos = s.bs.length := by have := hok.1; unfold RS.left at hl; rw [List.length_drop] at hl; omega
        have hee : ((s.pos : Int) == (s.bs.length : Int)) = true := by simp [hpp]
        rw [hc] at hblk
        have e0 : w.cell? ⟨p, 0, none⟩ = some (.slice A s.bs.length c) := hblk.cell 0
        have e1 : w.cell? ⟨p, 1, none⟩ = some (.int .i64 (s.pos : Int)) := hblk.cell 1
        have e2 : w.cell? ⟨p, 2, none⟩ = some (.int .i64 (s.row : Int)) := hblk.cell 2
        have e3 : w.cell? ⟨p, 3, none⟩ = some (.int .i64 0) := hblk.cell 3
        have g3 := hblk.frozen 3
        have hm : (s.row : Int) % 8 = 0 := by omega
        have B0 := Lib.hid hblk
        have R0 := Lib.hid hrb
        have HF := Lib.hid hF
        have hcm2 := hcm
        unfold maxLen at hcm2
        clear hblk hrb hF hok hc hr hl hpp
        go_enter Try.func17, Try.ntmps17
        go_upto_region 5 with (fail)
        go_quiet (fail)
        go_wp2
        go_ret
        unfold RBitPost
        rw [HBit.out] at HOk ⊢
        have hk0 := (((Kept.refl (· = p) w).drewN nq).setCell (p := ⟨p, 3, none⟩) (fun _ => rfl) (.int .i64 3))
        exact ⟨rfl, ⟨⟨A, c, (B0.out.drewN nq).set_ 3 _, R0.out.keep hk0 (fun k _ a b => HF.out (b ▸ a)), h2, hcm, HF.out⟩, HOk.out⟩, hk0⟩
    · exact rrBit_in w F p s h hn hc hr
  · obtain ⟨⟨A, c, hblk, hrb, h2, hcm, hF⟩, hok⟩ := h
    have HBit : Hid (s.bit = ({ s with row := 0 }, false)) := Lib.hid (by unfold RS.bit; rw [if_pos hc])
    have HOk := Lib.hid (RS.ok_bit s hok)
    have e2 : w.cell? ⟨p, 2, none⟩ = some (.int .i64 (s.row : Int)) := hblk.cell 2
    have e3 : w.cell? ⟨p, 3, none⟩ = some (.int .i64 s.code) := hblk.cell 3
    have g2 := hblk.frozen 2
    have hb : (s.code != 0) = true := by simpa using hc
    have B0 := Lib.hid hblk
    have R0 := Lib.hid hrb
    have HF := Lib.hid hF
    clear hblk hrb hF hok hc
    go_enter Try.func17, Try.ntmps17
    go_wp2
    go_ret
    unfold RBitPost
    rw [HBit.out] at HOk ⊢
    have hk0 := ((Kept.refl (· = p) w).setCell (p := ⟨p, 2, none⟩) (fun _ => rfl) (.int .i64 0))
    exact ⟨rfl, ⟨⟨A, c, B0.out.set_ 2 _, R0.out.keep hk0 (fun k _ a b => HF.out (b ▸ a)), h2, hcm, HF.out⟩, HOk.out⟩, hk0⟩

end Go.Proofs.Ytepligggofbegaa
