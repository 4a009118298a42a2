/-
  octet.Reader's Bit and texts.
-/
import Derived.Test.YtepligggofbegaaOctR2
namespace Go.Proofs.Ytepligggofbegaa
open Go.RowKit

theorem and_one (x : Nat) (hx : x < 256) : bits .and .u8 (x : Int) 1 = ((x % 2 : Nat) : Int) := by
  have h1 : (BitVec.ofInt 8 (x : Int)).toNat = x := by
    rw [BitVec.toNat_ofInt]
    omega
  show IntKind.u8.wrap ((BitVec.ofInt 8 (x : Int) &&& BitVec.ofInt 8 1).toNat : Int) = _
  rw [BitVec.toNat_and, h1, show (BitVec.ofInt 8 1).toNat = 1 from rfl, Nat.and_one_is_mod, IntKind.wrap_u8]
  omega

def BitPost (w : World) (F : Nat → Prop) (p : Nat) (s : RS) (e : Ending) (w' : World) : Prop := e = .returned (.bool s.bit.2) ∧ RSAt w' F p s.bit.1 ∧ Kept (· = p) w w'

/-- A bit of the row that is there: x is the row's octet, shifted; k bits are left. -/
theorem bit_row (x k : Nat) (hx : x < 256) (hk : 1 ≤ k) (hk8 : k ≤ 8) (w : World) (F : Nat → Prop) (p : Nat) (bs : List UInt8) (h : RdrAt w F p bs x k 0) :
    Calls Try.prog 16 #[.pointer (some ⟨p, 0, none⟩)] w fun e w' => e = .returned (.bool (x % 2 == 1)) ∧ RdrAt w' F p bs (x / 2 : Nat) ((k : Int) - 1) 0 ∧ Kept (· = p) w w' := by
  obtain ⟨A, c, hblk, hrb, hc, hm, hF⟩ := h
  have c1 : w.cell? ⟨p, 1, none⟩ = some (.int .u8 (x : Int)) := hblk.cell 1
  have c2 : w.cell? ⟨p, 2, none⟩ = some (.int .i64 (k : Int)) := hblk.cell 2
  have c3 : w.cell? ⟨p, 3, none⟩ = some (.int .i64 0) := hblk.cell 3
  have f1 := hblk.frozen 1
  have f2 := hblk.frozen 2
  have HB := Lib.hid hblk
  have HR := Lib.hid hrb
  have HF := Lib.hid hF
  have e0 : ((k : Int) == 0) = false := by simp; omega
  have ha := and_one x hx
  have hx2 : x % 2 < 2 := by omega
  have HE : Hid ((x % 2 == 1) = (((x % 2 : Nat) : Int) == 1)) := Lib.hid (by rw [Bool.eq_iff_iff]; simp; omega)
  generalize x % 2 = y at ha hx2 HE ⊢
  clear hblk hrb hF
  go_enter Try.func16, Try.ntmps16
  go_wp2
  go_ret
  rw [HE.out]
  rw [Int.natCast_ediv]
  have hkp := ((Kept.refl (· = p) w).setCell (p := ⟨p, 1, none⟩) (fun _ => rfl) (.int .u8 ((x : Int) / 2))).setCell (p := ⟨p, 2, none⟩) (fun _ => rfl) (.int .i64 ((k : Int) - 1))
  exact ⟨rfl, ⟨A, c, (HB.out.set_ 1 _).set_ 2 _, HR.out.keep hkp (fun k _ a b => HF.out (b ▸ a)), hc, hm, HF.out⟩, hkp⟩

set_option maxHeartbeats 400000 in
/-- The first bit of a new octet. -/
theorem bit_new (w : World) (F : Nat → Prop) (p : Nat) (s : RS) (h : RSAt w F p s) (hc0 : s.code = 0) (hr : s.row % 8 = 0) (hl : 0 < s.left.length) :
    Calls Try.prog 16 #[.pointer (some ⟨p, 0, none⟩)] w (BitPost w F p s) := by
  obtain ⟨⟨row, bits, hrd, hbits⟩, hok⟩ := h
  have hb0 : bits = 0 := by
    rcases hbits hc0 with h | h
    · exact h.2
    · have := hok.2.1; omega
  subst hb0
  rw [hc0] at hrd
  have hrd' := hrd
  obtain ⟨A, c, hblk, hrb, hc, hm, hF⟩ := hrd
  have c2 : w.cell? ⟨p, 2, none⟩ = some (.int .i64 0) := hblk.cell 2
  have c3 : w.cell? ⟨p, 3, none⟩ = some (.int .i64 0) := hblk.cell 3
  have HH := Lib.hid hrd'
  clear hblk hrb hc hm hrd'
  have HBit : Hid (s.bit = ({ s with pos := s.pos + 1, row := 1 }, (s.bs.getD s.pos 0).toNat % 2 == 1)) := Lib.hid (by unfold RS.bit; rw [if_neg (by simp [hc0]), if_pos hr, if_neg (by omega)])
  have HOk := Lib.hid (RS.ok_bit s hok)
  have HL : Hid (s.left.take 1 = [s.bs.getD s.pos 0] ∧ s.left.drop 1 = s.bs.drop (s.pos + 1)) := Lib.hid (by
    unfold RS.left at hl ⊢
    rw [List.length_drop] at hl
    refine ⟨?_, by rw [List.drop_drop]⟩
    have h5 : s.pos < s.bs.length := by omega
    have e : s.bs.getD s.pos 0 = s.bs[s.pos] := by simp [List.getD, List.getElem?_eq_getElem h5]
    rw [e, List.drop_eq_getElem_cons h5, List.take_succ_cons, List.take_zero])
  have hx := (s.bs.getD s.pos 0).toNat_lt
  have HC := Lib.hid hc0
  have HFp := Lib.hid hF
  clear hbits hok hc0 hF
  go_enter Try.func16, Try.ntmps16
  go_wp2_with fail
  refine (rTake_ok 1 w F p s.left row 0 HH.out (by omega)).mono ?_
  rintro e w1 ⟨A1, rfl, h1, h2, h3⟩
  rw [HL.out.1] at h1
  rw [HL.out.2] at h2
  obtain ⟨g, o, rfl, hg, d0⟩ := h1.at_ (k := 0) (by simp)
  simp only [List.getElem_cons_zero, Nat.add_zero] at d0
  obtain ⟨A2, c4, hblk, hrb, hc, hm, hF2⟩ := h2
  have e1 : w1.cell? ⟨p, 1, none⟩ = some (.int .u8 row) := hblk.cell 1
  have e2 : w1.cell? ⟨p, 2, none⟩ = some (.int .i64 0) := hblk.cell 2
  have f1 := hblk.frozen 1
  have f2 := hblk.frozen 2
  have B1 := Lib.hid hblk
  have R1 := Lib.hid hrb
  have K1 := Lib.hid h3
  have hgp : g ≠ p := fun h => HFp.out (h ▸ hg)
  have hnil := fun W => run_isnil (P := Try.prog) W 23 5 Try.underlying23
  clear h1 hblk hrb h3 c2 c3
  generalize hbb : (s.bs.getD s.pos 0) = b at d0 hx HBit HL
  have HBb := Lib.hid hbb
  clear hbb
  generalize hbx : b.toNat = x at d0 hx HBit
  have HBx := Lib.hid hbx
  clear hbx
  have ha := and_one x hx
  have hx2 : x % 2 < 2 := by omega
  have HE : Hid ((x % 2 == 1) = (((x % 2 : Nat) : Int) == 1)) := Lib.hid (by rw [Bool.eq_iff_iff]; simp; omega)
  generalize x % 2 = y at ha hx2 HE HBit
  go_wp2
  go_ret
  unfold BitPost
  have hkp := ((((K1.out.setCell (p := ⟨p, 1, none⟩) (fun _ => rfl) (.int .u8 (x : Int))).setCell (p := ⟨p, 2, none⟩) (fun _ => rfl) (.int .i64 8)).setCell (p := ⟨p, 1, none⟩) (fun _ => rfl) (.int .u8 ((x : Int) / 2))).setCell (p := ⟨p, 2, none⟩) (fun _ => rfl) (.int .i64 7))
  rw [HBit.out] at HOk
  rw [HBit.out]
  refine ⟨by rw [HE.out]; rfl, ⟨⟨(x : Int) / 2, 7, ⟨A2, c4, ?_, ?_, hc, hm, hF2⟩, fun _ => .inr ⟨Nat.le_refl _, rfl, ?_⟩⟩, HOk.out⟩, hkp⟩
  · rw [HC.out]
    exact (((B1.out.set_ 1 _).set_ 2 _).set_ 1 _).set_ 2 _
  · exact R1.out.keep ((((((Kept.refl (· = p) w1).setCell (p := ⟨p, 1, none⟩) (fun _ => rfl) (.int .u8 (x : Int))).setCell (p := ⟨p, 2, none⟩) (fun _ => rfl) (.int .i64 8)).setCell (p := ⟨p, 1, none⟩) (fun _ => rfl) (.int .u8 ((x : Int) / 2))).setCell (p := ⟨p, 2, none⟩) (fun _ => rfl) (.int .i64 7))) (fun k _ a b => hF2 (b ▸ a))
  · show (x : Int) / 2 = (((s.bs.getD (s.pos + 1 - 1) 0).toNat / 2 ^ 1 : Nat) : Int)
    rw [Nat.add_sub_cancel, HBb.out, HBx.out]
    omega

theorem rsBit (w : World) (F : Nat → Prop) (p : Nat) (s : RS) (h : RSAt w F p s) :
    Calls Try.prog 16 #[.pointer (some ⟨p, 0, none⟩)] w (BitPost w F p s) := by
  by_cases hc : s.code = 0
  · by_cases hr : s.row % 8 = 0
    · by_cases hl : 0 < s.left.length
      · exact bit_new w F p s h hc hr hl
      · obtain ⟨⟨row, bits, hrd, hbits⟩, hok⟩ := h
        have hb0 : bits = 0 := by
          rcases hbits hc with h | h
          · exact h.2
          · have := hok.2.1; omega
        subst hb0
        have HBit : Hid (s.bit = ({ s with code := 3 }, false)) := Lib.hid (by unfold RS.bit; rw [if_neg (by simp [hc]), if_pos hr, if_pos (by omega)])
        have HOk := Lib.hid (RS.ok_bit s hok)
        have HL0 := Lib.hid hl
        rw [hc] at hrd
        have HH := Lib.hid hrd
        obtain ⟨A, c, hblk, _⟩ := hrd
        have c2 : w.cell? ⟨p, 2, none⟩ = some (.int .i64 0) := hblk.cell 2
        have c3 : w.cell? ⟨p, 3, none⟩ = some (.int .i64 0) := hblk.cell 3
        clear hblk hbits hok hc hr hl
        go_enter Try.func16, Try.ntmps16
        go_wp2_with fail
        refine (rTake_short 1 w F p s.left row 0 HH.out (.inr (by have := HL0.out; omega))).mono ?_
        rintro e w1 ⟨rfl, h1, h2⟩
        have H1 := Lib.hid h1
        have H2 := Lib.hid h2
        clear h1 h2 c2 c3
        have hnil := fun W => run_isnil (P := Try.prog) W 23 5 Try.underlying23
        go_wp2
        go_ret
        unfold BitPost
        rw [HBit.out] at HOk ⊢
        exact ⟨rfl, ⟨⟨row, 0, H1.out, fun q => absurd (show (3 : Int) = 0 from q) (by decide)⟩, HOk.out⟩, H2.out⟩
    · obtain ⟨⟨row, bits, hrd, hbits⟩, hok⟩ := h
      have hok2 := RS.ok_bit s hok
      have hr8 := hok.2.1
      rcases hbits hc with h | ⟨h1, h2, h3⟩
      · exact absurd (by rw [h.1]) hr
      · subst h2 h3
        have hx := (s.bs.getD (s.pos - 1) 0).toNat_lt
        have hbit : s.bit = ({ s with row := s.row + 1 }, (s.bs.getD (s.pos - 1) 0).toNat / 2 ^ s.row % 2 == 1) := by unfold RS.bit; rw [if_neg (by simp [hc]), if_neg hr]
        rw [hc] at hrd
        have e8 : (8 : Int) - (s.row : Int) = ((8 - s.row : Nat) : Int) := by omega
        rw [e8] at hrd
        refine (bit_row ((s.bs.getD (s.pos - 1) 0).toNat / 2 ^ s.row) (8 - s.row) (Nat.lt_of_le_of_lt (Nat.div_le_self _ _) hx) (by omega) (by omega) w F p s.left hrd).mono ?_
        rintro e w' ⟨rfl, h4, h5⟩
        unfold BitPost
        rw [hbit] at hok2 ⊢
        refine ⟨rfl, ⟨⟨_, ((8 - s.row : Nat) : Int) - 1, ?_, fun _ => .inr ⟨by show 1 ≤ s.row + 1; omega, ?_, rfl⟩⟩, hok2⟩, h5⟩
        · rw [Nat.pow_succ, ← Nat.div_div_eq_div_mul]
          rw [← hc] at h4
          exact h4
        · show ((8 - s.row : Nat) : Int) - 1 = 8 - ((s.row + 1 : Nat) : Int)
          omega
  · obtain ⟨⟨row, bits, hrd, hbits⟩, hok⟩ := h
    have hbit : s.bit = ({ s with row := 0 }, false) := by unfold RS.bit; rw [if_pos hc]
    have hok2 := RS.ok_bit s hok
    have HH := Lib.hid hrd
    obtain ⟨A, c, hblk, _⟩ := hrd
    have c3 : w.cell? ⟨p, 3, none⟩ = some (.int .i64 s.code) := hblk.cell 3
    have hn : (s.code != 0) = true := by simpa using hc
    have HOk := Lib.hid hok2
    have HC := Lib.hid hc
    have HBit := Lib.hid hbit
    clear hblk hbits hok hok2 hc hbit
    go_enter Try.func16, Try.ntmps16
    go_wp2
    go_ret
    unfold BitPost
    rw [HBit.out] at HOk ⊢
    exact ⟨rfl, ⟨⟨row, bits, HH.out, fun q => absurd q HC.out⟩, HOk.out⟩, Kept.refl _ _⟩

def TextPost (w : World) (F : Nat → Prop) (p : Nat) (s : RS) (k : Nat) (e : Ending) (w' : World) : Prop := e = .returned (.string ⟨(s.text k).2.toArray⟩) ∧ RSAt w' F p (s.text k).1 ∧ Kept (· = p) w w'

theorem RS.num_bs (s : RS) (k : Nat) : (s.num k).1.bs = s.bs := by unfold RS.num RS.raw; dsimp only; split <;> (try split) <;> rfl
theorem RS.num_row (s : RS) (k : Nat) : (s.num k).1.row = 0 := RS.raw_row s k
theorem RS.num_val (s : RS) (k : Nat) (hk : k ≤ 4) : ∃ n : Nat, (s.num k).2 = (n : Int) ∧ n < 4294967296 := by
  have h : beNat (s.raw k).2 < 4294967296 := beNat_lt_of (k := 4) (Nat.le_trans (RS.raw_len s k) hk)
  exact ⟨beNat (s.raw k).2, IntWalk.i64_in _ (by omega), h⟩

set_option maxHeartbeats 800000 in
theorem rsText (k : Nat) (hk : k ≤ 4) (w : World) (F : Nat → Prop) (p : Nat) (s : RS) (h : RSAt w F p s) :
    Calls Try.prog 43 #[.pointer (some ⟨p, 0, none⟩), .int .i64 (k : Int)] w (TextPost w F p s k) := by
  have HH := Lib.hid h
  have HOk := Lib.hid (RS.ok_text s k h.2)
  obtain ⟨⟨row, bits, ⟨A0, cc0, hblk, hrb0, hc0, hm0, hF0⟩, _⟩, _⟩ := h
  have c0 : w.cell? ⟨p, 0, none⟩ = some (.slice A0 s.left.length cc0) := hblk.cell 0
  have R0 := Lib.hid hrb0
  have HF0 := Lib.hid hF0
  clear hblk hrb0 hF0
  obtain ⟨n, hn, hn32⟩ := RS.num_val s k hk
  have HNv := Lib.hid hn
  go_enter Try.func43, Try.ntmps43
  go_wp2_with fail
  refine (rsNumber k (by omega) w F p s HH.out).mono ?_
  rintro e w1 ⟨rfl, h1, k1⟩
  rw [hn]
  clear hn
  have H1 := Lib.hid h1
  have K1 := Lib.hid k1
  have hrow := RS.num_row s k
  have HT : Hid (s.text k = if (s.num k).1.code ≠ 0 then ((s.num k).1, []) else if ((s.num k).1.left.length : Int) < (n : Int) then ({ (s.num k).1 with pos := s.pos, code := 3 }, []) else (s.num k).1.raw (n : Int)) := Lib.hid (by unfold RS.text; rw [HNv.out])
  have HBs := Lib.hid (RS.num_bs s k)
  obtain ⟨⟨row1, bits1, ⟨A1, cc1, hblk1, hrb1, hc1, hm1, hF1⟩, hbits1⟩, hok1⟩ := h1
  have d0 : w1.cell? ⟨p, 0, none⟩ = some (.slice A1 (s.num k).1.left.length cc1) := hblk1.cell 0
  have d3 : w1.cell? ⟨p, 3, none⟩ = some (.int .i64 (s.num k).1.code) := hblk1.cell 3
  have f0 := hblk1.frozen 0
  have f3 := hblk1.frozen 3
  have B1 := Lib.hid hblk1
  have HRow := Lib.hid hrow
  unfold maxLen at hm1
  clear hblk1 hrb1 hF1 hbits1 hok1 k1 hrow HNv c0
  generalize (s.num k).1 = t at *
  by_cases hc : t.code = 0
  · rw [hc] at d3
    have HC := Lib.hid hc
    by_cases hlt : (t.left.length : Int) < (n : Int)
    · have HTx : Hid (s.text k = ({ t with pos := s.pos, code := 3 }, [])) := Lib.hid (by rw [HT.out, if_neg (by simp [hc]), if_pos hlt])
      have hlt' : t.left.length < n := by omega
      clear hc hlt HT
      generalize t.left.length = tl at *
      go_wp2
      go_ret
      unfold TextPost
      rw [HTx.out] at HOk ⊢
      have hkp := (K1.out.setCell (p := ⟨p, 0, none⟩) (fun _ => rfl) (.slice A0 s.left.length cc0)).setCell (p := ⟨p, 3, none⟩) (fun _ => rfl) (.int .i64 3)
      have hl : ({ t with pos := s.pos, code := 3 } : RS).left = s.left := by unfold RS.left; rw [← HBs.out]
      refine ⟨rfl, ⟨⟨row1, bits1, ?_, fun q => absurd (show (3 : Int) = 0 from q) (by decide)⟩, HOk.out⟩, hkp⟩
      show RdrAt _ F p ({ t with pos := s.pos, code := 3 } : RS).left row1 bits1 3
      rw [hl]
      exact ⟨A0, cc0, (B1.out.set_ 0 _).set_ 3 _, R0.out.keep hkp (fun k _ a b => HF0.out (b ▸ a)), hc0, hm0, HF0.out⟩
    · have HTx : Hid (s.text k = t.raw (n : Int)) := Lib.hid (by rw [HT.out, if_neg (by simp [hc]), if_neg hlt])
      have hge : n ≤ t.left.length := by omega
      clear hc hlt HT
      generalize htl : t.left.length = tl at *
      clear htl
      go_wp2_with fail
      refine (rsTake (n : Int) w1 F p t H1.out).mono ?_
      rintro e w2 ⟨A2, c2, rfl, h2, _, h3, k3⟩
      have H2 := Lib.hid h2
      have H3 := Lib.hid h3
      have K3 := Lib.hid (K1.out.trans k3)
      clear h2 h3 k3
      have hst := run_str w2 F A2 c2 (t.raw (n : Int)).2 H2.out
      generalize hL : (t.raw (n : Int)).2 = L at hst ⊢
      have HL := Lib.hid hL
      clear hL
      go_wp2
      go_ret
      unfold TextPost
      rw [HTx.out, HL.out]
      exact ⟨rfl, H3.out, K3.out⟩
  · have hb : (t.code != 0) = true := by simpa using hc
    have HTx : Hid (s.text k = (t, [])) := Lib.hid (by rw [HT.out, if_pos hc])
    clear hc HT
    go_wp2
    go_ret
    unfold TextPost
    rw [HTx.out]
    exact ⟨rfl, H1.out, K1.out⟩

theorem rsShortStr (w : World) (F : Nat → Prop) (p : Nat) (s : RS) (h : RSAt w F p s) :
    Calls Try.prog 18 #[.pointer (some ⟨p, 0, none⟩)] w (TextPost w F p s 1) := by
  have HH := Lib.hid h
  clear h
  go_enter Try.func18, Try.ntmps18
  go_wp2_with fail
  refine (rsText 1 (by decide) w F p s HH.out).mono ?_
  rintro e w1 ⟨rfl, h1, h2⟩
  have H1 := Lib.hid h1
  have H2 := Lib.hid h2
  clear h1 h2
  generalize hv : (s.text 1).2 = v
  have HV := Lib.hid hv
  clear hv
  go_wp2
  go_ret
  exact ⟨by rw [HV.out]; rfl, H1.out, H2.out⟩

theorem rsLongStr (w : World) (F : Nat → Prop) (p : Nat) (s : RS) (h : RSAt w F p s) :
    Calls Try.prog 20 #[.pointer (some ⟨p, 0, none⟩)] w (TextPost w F p s 4) := by
  have HH := Lib.hid h
  clear h
  go_enter Try.func20, Try.ntmps20
  go_wp2_with fail
  refine (rsText 4 (by decide) w F p s HH.out).mono ?_
  rintro e w1 ⟨rfl, h1, h2⟩
  have H1 := Lib.hid h1
  have H2 := Lib.hid h2
  clear h1 h2
  generalize hv : (s.text 4).2 = v
  have HV := Lib.hid hv
  clear hv
  go_wp2
  go_ret
  exact ⟨by rw [HV.out]; rfl, H1.out, H2.out⟩

end Go.Proofs.Ytepligggofbegaa
