/-
  Contracts of warrenref01.Reader's methods.
-/
import Derived.Test.YtepligggofbegaaOctR3
import Derived.Test.YtepligggofbegaaRef01
import Derived.Deep.RegionHeld3
namespace Go.Proofs.Ytepligggofbegaa
open Go.RowKit

/-- The document's Reader at block p. -/
def RRAt (w : World) (F : Nat → Prop) (p : Nat) (s : RS) : Prop :=
  (∃ A c, Blk w p 30 #[.slice A s.bs.length c, .int .i64 (s.pos : Int), .int .i64 (s.row : Int), .int .i64 s.code] ∧ RB w F A s.bs ∧ s.bs.length ≤ c ∧ c ≤ maxLen ∧ ¬ F p) ∧ s.ok
theorem RRAt.keep {w w' : World} {F S : Nat → Prop} {p : Nat} {s : RS} (h : RRAt w F p s) (hk : Kept S w w') (hd : ∀ k, k < w.heap.size → F k ∨ k = p → S k → False) : RRAt w' F p s := by
  obtain ⟨⟨A, c, h1, h2, h3⟩, h4⟩ := h
  exact ⟨⟨A, c, h1.keep hk (fun q => hd p h1.lt (.inr rfl) q), h2.keep hk (fun k a b c => hd k a (.inl b) c), h3⟩, h4⟩
theorem RRAt.still {w w' : World} {F : Nat → Prop} {p : Nat} {s : RS} (h : RRAt w F p s) (hk : Kept noneS w w') : RRAt w' F p s := h.keep hk fun _ _ _ q => q.elim

theorem run_slice_lh {P : Program} (w : World) (t e : TypeId) (ht : P.underlying t = some (.slice e)) {z : Value} {by_ : Nat} (hi : (P.info? e).map (fun i => (i.zero, i.size, i.bytes)) = some (some z, 1, by_)) (A : Option Addr) (n c lo hi' : Nat) (h1 : lo ≤ hi') (h2 : hi' ≤ c) :
    (Instr.slice t (.slice A n c) (some (.int .i64 (lo : Int))) (some (.int .i64 (hi' : Int))) none).run P w = .ok (.slice (if c = lo then A else A.map (·.add lo)) (hi' - lo) (c - lo)) w := by
  obtain ⟨i, hi0, _, hs, _⟩ := info_parts hi
  have h3 : (lo : Int) ≤ (hi' : Int) := by omega
  have h4 : (hi' : Int) ≤ (c : Int) := by omega
  simp [Instr.slice, run_underlying ht, Instr.sliceBounds, run_sliceBound, sizeOf, typeInfo, hi0, hs, h1, h2, h3, h4]

theorem rrLeft (w : World) (F : Nat → Prop) (p : Nat) (s : RS) (h : RRAt w F p s) :
    Calls Try.prog 24 #[.pointer (some ⟨p, 0, none⟩)] w fun e w' => e = .returned (.int .i64 (s.left.length : Int)) ∧ Kept noneS w w' := by
  obtain ⟨⟨A, c, hblk, _, h2, h2b, _⟩, hok⟩ := h
  have c0 : w.cell? ⟨p, 0, none⟩ = some (.slice A s.bs.length c) := hblk.cell 0
  have c1 : w.cell? ⟨p, 1, none⟩ = some (.int .i64 (s.pos : Int)) := hblk.cell 1
  unfold maxLen at h2b
  have hp := hok.1
  have HL : Hid ((s.left.length : Int) = (s.bs.length : Int) - (s.pos : Int)) := Lib.hid (by unfold RS.left; rw [List.length_drop]; omega)
  have hw1 : IntKind.i64.wrap ((s.bs.length : Int) - (s.pos : Int)) = (s.bs.length : Int) - (s.pos : Int) := IntWalk.i64_in _ (by omega)
  clear hblk hok
  go_enter Try.func24, Try.ntmps24
  go_wp2
  go_quiet (fail)
  go_wp2
  go_ret
  rw [HL.out]
  exact ⟨rfl, (Kept.refl _ _).drewN _⟩

theorem rrEnd (w : World) (F : Nat → Prop) (p : Nat) (s : RS) (h : RRAt w F p s) :
    Calls Try.prog 27 #[.pointer (some ⟨p, 0, none⟩)] w fun e w' => e = .returned (.int .i64 s.fin) ∧ Kept noneS w w' := by
  have HH := Lib.hid h
  obtain ⟨⟨A, c, hblk, _, h2, h2b, _⟩, hok⟩ := h
  have c3 : w.cell? ⟨p, 3, none⟩ = some (.int .i64 s.code) := hblk.cell 3
  have HB := Lib.hid hblk
  unfold maxLen at h2b
  have hlb : s.left.length ≤ 9223372036854775807 := by unfold RS.left; rw [List.length_drop]; omega
  clear hblk hok
  obtain ⟨v, HV⟩ : ∃ v, Hid (s.fin = v) := ⟨_, Lib.hid rfl⟩
  rw [HV.out]
  unfold RS.fin at HV
  by_cases hc : s.code = 0
  · rw [hc] at c3 HB
    go_enter Try.func27, Try.ntmps27
    go_wp2_with fail
    refine (rrLeft w F p s HH.out).mono ?_
    rintro e w1 ⟨rfl, k1⟩
    have K1 := Lib.hid k1
    have d3 : w1.cell? ⟨p, 3, none⟩ = some (.int .i64 0) := (HB.out.keep k1 (fun q => q)).cell 3
    clear k1
    have HC := Lib.hid hc
    clear hc c3
    generalize hn : s.left.length = n at *
    have HN := Lib.hid hn
    clear hn
    by_cases hl : 0 < n
    · go_wp2
      go_ret
      rw [← HV.out, if_pos ⟨HC.out, hl⟩]
      exact ⟨rfl, K1.out⟩
    · obtain rfl : n = 0 := by omega
      go_wp2
      go_ret
      rw [← HV.out, if_neg (fun q => by have := q.2; omega), HC.out]
      exact ⟨rfl, K1.out⟩
  · rw [if_neg (fun q => hc q.1)] at HV
    have hb : (s.code == 0) = false := by simpa using hc
    clear hc
    go_enter Try.func27, Try.ntmps27
    go_wp2
    go_ret
    rw [← HV.out]
    exact ⟨rfl, Kept.refl _ _⟩

def RRawPost (w : World) (F : Nat → Prop) (p : Nat) (s : RS) (n : Int) (e : Ending) (w' : World) : Prop :=
  ∃ A c, e = .returned (.slice A (s.raw n).2.length c) ∧ OB w' (w.heap.size ≤ ·) (.slice A (s.raw n).2.length c) (s.raw n).2 ∧ RRAt w' F p (s.raw n).1 ∧ Kept (· = p) w w'

set_option maxHeartbeats 1600000 in
theorem rrRaw (n : Int) (hlo : -9223372036854775808 ≤ n) (hhi : n ≤ 9223372036854775807) (w : World) (F : Nat → Prop) (p : Nat) (s : RS) (h : RRAt w F p s) (hn : s.bs.length ≤ 140737488351232) :
    Calls Try.prog 22 #[.pointer (some ⟨p, 0, none⟩), .int .i64 n] w (RRawPost w F p s n) := by
  obtain ⟨⟨A, c, hblk, hrb, h2, h2b, hF⟩, hok⟩ := h
  have c2 : w.cell? ⟨p, 2, none⟩ = some (.int .i64 (s.row : Int)) := hblk.cell 2
  have f2 := hblk.frozen 2
  have hp := hok.1
  have HOk := Lib.hid (RS.ok_raw s n hok)
  have hkp := (Kept.refl (· = p) w).setCell (p := ⟨p, 2, none⟩) (fun _ => rfl) (.int .i64 0)
  have B0 := Lib.hid (hblk.set_ 2 (.int .i64 0))
  have R0 := Lib.hid (hrb.keep hkp (fun k _ a b => hF (b ▸ a)))
  have K0 := Lib.hid hkp
  have HF := Lib.hid hF
  have hcm := h2b
  unfold maxLen at h2b
  have hll : s.left.length = s.bs.length - s.pos := by unfold RS.left; rw [List.length_drop]
  have HLL := Lib.hid hll
  clear hblk hrb hok hkp hF hll
  have hw1 : IntKind.i64.wrap ((s.bs.length : Int) - (s.pos : Int)) = (s.bs.length : Int) - (s.pos : Int) := IntWalk.i64_in _ (by omega)
  go_enter Try.func22, Try.ntmps22
  go_upto_region 2 with (fail)
  have hz0 := K0.out.size
  generalize w.setCell ⟨p, 2, none⟩ (.int .i64 0) = w0 at B0 R0 K0 hz0 ⊢
  clear c2 f2
  have c0 : w0.cell? ⟨p, 0, none⟩ = some (.slice A s.bs.length c) := B0.out.cell 0
  have c1 : w0.cell? ⟨p, 1, none⟩ = some (.int .i64 (s.pos : Int)) := B0.out.cell 1
  have c3 : w0.cell? ⟨p, 3, none⟩ = some (.int .i64 s.code) := B0.out.cell 3
  have f1 := B0.out.frozen 1
  have f3 := B0.out.frozen 3
  by_cases hc : s.code = 0
  · have HC := Lib.hid hc
    rw [hc] at c3 B0
    by_cases hneg : n < 0
    · have hd : decide (n < 0) = true := by simpa using hneg
      have HR : Hid (s.raw n = ({ s with row := 0, code := 3 }, [])) := Lib.hid (by unfold RS.raw; rw [if_neg (by simp [hc]), if_pos (.inl hneg)])
      clear hneg hc
      go_quiet (fail)
      go_wp2
      go_ret
      unfold RRawPost
      rw [HR.out] at HOk ⊢
      have hk1 := ((((Kept.refl (· = p) w0).drewN nq).setCell (p := ⟨p, 3, none⟩) (fun _ => rfl) (.int .i64 3)).alloc (.cells #[] 5))
      refine ⟨_, _, rfl, ?_, ⟨⟨A, c, ((B0.out.drewN nq).set_ 3 _).alloc _, R0.out.keep hk1 (fun k _ a b => HF.out (b ▸ a)), h2, hcm, HF.out⟩, HOk.out⟩, K0.out.trans hk1⟩
      have h5 := Own.empty ((w0.drewN nq).setCell ⟨p, 3, none⟩ (.int .i64 3)) 5 1 (w.heap.size ≤ ·) (by simpa [World.setCell] using hz0)
      have hsz : ((w0.drewN nq).setCell ⟨p, 3, none⟩ (.int .i64 3)).heap.size = w0.heap.size := by simp [World.setCell]
      rw [hsz] at h5
      exact h5
    · have hd : decide (n < 0) = false := by simpa using hneg
      by_cases hbig : (s.bs.length : Int) - (s.pos : Int) < n
      · have HR : Hid (s.raw n = ({ s with row := 0, code := 3 }, [])) := Lib.hid (by unfold RS.raw; rw [if_neg (by simp [hc]), if_pos (.inr (by rw [HLL.out]; omega))])
        have hd2 : decide ((s.bs.length : Int) - (s.pos : Int) < n) = true := by simpa using hbig
        clear hneg hc hbig
        go_quiet (fail)
        go_wp2
        go_ret
        unfold RRawPost
        rw [HR.out] at HOk ⊢
        have hk1 := ((((Kept.refl (· = p) w0).drewN nq).setCell (p := ⟨p, 3, none⟩) (fun _ => rfl) (.int .i64 3)).alloc (.cells #[] 5))
        refine ⟨_, _, rfl, ?_, ⟨⟨A, c, ((B0.out.drewN nq).set_ 3 _).alloc _, R0.out.keep hk1 (fun k _ a b => HF.out (b ▸ a)), h2, hcm, HF.out⟩, HOk.out⟩, K0.out.trans hk1⟩
        have h5 := Own.empty ((w0.drewN nq).setCell ⟨p, 3, none⟩ (.int .i64 3)) 5 1 (w.heap.size ≤ ·) (by simpa [World.setCell] using hz0)
        have hsz : ((w0.drewN nq).setCell ⟨p, 3, none⟩ (.int .i64 3)).heap.size = w0.heap.size := by simp [World.setCell]
        rw [hsz] at h5
        exact h5
      · obtain ⟨m, rfl⟩ := Int.eq_ofNat_of_zero_le (show 0 ≤ n by omega)
        have HR : Hid (s.raw (m : Int) = ({ s with row := 0, pos := s.pos + m }, s.left.take m)) := Lib.hid (by unfold RS.raw; rw [if_neg (by simp [hc]), if_neg (by rw [HLL.out]; omega)]; rfl)
        have hd2 : decide ((s.bs.length : Int) - (s.pos : Int) < (m : Int)) = false := by simpa using hbig
        have hpm : s.pos + m ≤ s.bs.length := by omega
        have hw2 : IntKind.i64.wrap ((s.pos : Int) + (m : Int)) = (s.pos : Int) + (m : Int) := IntWalk.i64_in _ (by omega)
        have HW2 := Lib.hid hw2
        clear hneg hc hbig hw2
        go_quiet (fail)
        go_upto_region 6 with (fail)
        have HLt : Hid ((s.left.take m).length = m) := Lib.hid (by rw [List.length_take, HLL.out]; omega)
        have hsl := fun W => run_slice_lh (P := Try.prog) W 23 5 Try.underlying23 infoU8 A s.bs.length c s.pos (s.pos + m) (by omega) (by omega)
        rw [Nat.add_sub_cancel_left] at hsl
        simp only [Int.natCast_add] at hsl
        have R1 := Lib.hid ((R0.out.cut (k := s.pos) h2).take m)
        generalize (if c = s.pos then A else A.map (·.add s.pos)) = A2 at hsl R1
        have hw2 := HW2.out
        go_region_held3 (fun W => W.cell? ⟨p, 0, none⟩ = some (.slice A s.bs.length c) ∧ W.cell? ⟨p, 1, none⟩ = some (.int .i64 (s.pos : Int)))
          (first | exact ⟨c0, c1⟩ | exact ⟨d0, d1⟩)
          (first
            | (go_at_call 44; have hcp := refCopy A2 (c - s.pos) (s.left.take m) F ((w0.drewN nq).drew) R1.out (by rw [HLt.out]; omega); rw [HLt.out] at hcp; refine hcp.mono ?_; rintro e w1 ⟨A3, c3', rfl, h3, k0⟩; have k3 : Kept noneS w0 w1 := ⟨k0.os, k0.tape, k0.output, k0.size, k0.block⟩; clear k0; have d0 : w1.cell? ⟨p, 0, none⟩ = some (.slice A s.bs.length c) := (B0.out.keep k3 (fun q => q)).cell 0; have d1 : w1.cell? ⟨p, 1, none⟩ = some (.int .i64 (s.pos : Int)) := (B0.out.keep k3 (fun q => q)).cell 1; have H3 := Lib.hid h3; have K3 := Lib.hid k3; have B3 := Lib.hid (B0.out.keep k3 (fun q => q)); have f4 := B3.out.frozen 1; clear h3 k3))
        clear c0 c1 c3 f1 f3 hsl
        go_wp2
        go_ret
        unfold RRawPost
        rw [HR.out] at HOk ⊢
        have hk1 := (K3.out.mono (S' := (· = p)) (fun _ _ q => q.elim)).setCell (p := ⟨p, 1, none⟩) (fun _ => rfl) (.int .i64 ((s.pos : Int) + (m : Int)))
        have hne : p < w0.heap.size := B0.out.lt
        refine ⟨A3, c3', by rw [HLt.out]; rfl, ?_, ⟨⟨A, c, ?_, R0.out.keep hk1 (fun k _ a b => HF.out (b ▸ a)), h2, hcm, HF.out⟩, HOk.out⟩, K0.out.trans hk1⟩
        · rw [HLt.out]
          exact (Own.mono H3.out (fun k _ q => Nat.le_trans hz0 q)).far (p := ⟨p, 1, none⟩) (fun h => by have h7 : w0.heap.size ≤ p := H3.out.2 p h; omega) _
        · show Blk _ p 30 #[.slice A s.bs.length c, .int .i64 ((s.pos + m : Nat) : Int), .int .i64 ((0 : Nat) : Int), .int .i64 s.code]
          rw [HC.out, Int.natCast_add]
          exact B3.out.set_ 1 _
  · have hb : (s.code == 0) = false := by simpa using hc
    have hb2 : (s.code != 0) = true := by simpa using hc
    have HR : Hid (s.raw n = ({ s with row := 0 }, [])) := Lib.hid (by unfold RS.raw; rw [if_pos hc])
    clear hc
    go_quiet (fail)
    go_wp2
    go_ret
    unfold RRawPost
    rw [HR.out] at HOk ⊢
    have hk1 := (((Kept.refl (· = p) w0).drewN nq).alloc (.cells #[] 5))
    refine ⟨_, _, rfl, ?_, ⟨⟨A, c, (B0.out.drewN nq).alloc _, R0.out.keep hk1 (fun k _ a b => HF.out (b ▸ a)), h2, hcm, HF.out⟩, HOk.out⟩, K0.out.trans hk1⟩
    exact Own.empty (w0.drewN nq) 5 1 (w.heap.size ≤ ·) hz0

def RNumPost (w : World) (F : Nat → Prop) (p : Nat) (s : RS) (k : Nat) (e : Ending) (w' : World) : Prop :=
  e = .returned (.int .i64 (s.num k).2) ∧ RRAt w' F p (s.num k).1 ∧ Kept (· = p) w w'

theorem rrNum (k : Nat) (hk8 : k ≤ 8) (w : World) (F : Nat → Prop) (p : Nat) (s : RS) (h : RRAt w F p s) (hn : s.bs.length ≤ 140737488351232) :
    Calls Try.prog 12 #[.pointer (some ⟨p, 0, none⟩), .int .i64 (k : Int)] w (RNumPost w F p s k) := by
  have HH := Lib.hid h
  clear h
  have hl : (s.raw k).2.length ≤ 8 := Nat.le_trans (RS.raw_len s k) hk8
  have HV : Hid (IntKind.i64.wrap (beNat (s.raw k).2 : Int) = (s.num k).2) := Lib.hid rfl
  go_enter Try.func12, Try.ntmps12
  go_wp2_with fail
  refine (rrRaw k (by omega) (by omega) w F p s HH.out hn).mono ?_
  rintro e w1 ⟨A, c, rfl, h1, h2, h3⟩
  have H1 := Lib.hid (OB.rb h1).2
  have H2 : Hid (RRAt w1 F p (s.num k).1) := Lib.hid h2
  have H3 := Lib.hid h3
  clear h1 h2 h3
  generalize (s.raw k).2 = l at H1 hl HV ⊢
  go_wp2_with fail
  refine (refVal A c l.length l _ w1 H1.out hl rfl).mono ?_
  rintro e w2 ⟨rfl, rfl⟩
  rw [HV.out]
  generalize hv : (s.num k).2 = v
  have HV2 := Lib.hid hv
  clear hv
  go_wp2
  go_ret
  exact ⟨by rw [HV2.out]; rfl, H2.out, H3.out⟩

def RTextPost (w : World) (F : Nat → Prop) (p : Nat) (s : RS) (k : Nat) (e : Ending) (w' : World) : Prop := e = .returned (.string ⟨(s.text k).2.toArray⟩) ∧ RRAt w' F p (s.text k).1 ∧ Kept (· = p) w w'

set_option maxHeartbeats 800000 in
theorem rrText (k : Nat) (hk : k ≤ 4) (w : World) (F : Nat → Prop) (p : Nat) (s : RS) (h : RRAt w F p s) (hn : s.bs.length ≤ 140737488351232) :
    Calls Try.prog 19 #[.pointer (some ⟨p, 0, none⟩), .int .i64 (k : Int)] w (RTextPost w F p s k) := by
  have HH := Lib.hid h
  have HOk := Lib.hid (RS.ok_text s k h.2)
  obtain ⟨⟨A0, cc0, hblk, hrb0, hc0, hm0, hF0⟩, _⟩ := h
  have c1 : w.cell? ⟨p, 1, none⟩ = some (.int .i64 (s.pos : Int)) := hblk.cell 1
  clear hblk hrb0 hF0
  obtain ⟨n, hnv, hn32⟩ := RS.num_val s k hk
  have HNv := Lib.hid hnv
  go_enter Try.func19, Try.ntmps19
  go_wp2_with fail
  refine (rrNum k (by omega) w F p s HH.out hn).mono ?_
  rintro e w1 ⟨rfl, h1, k1⟩
  rw [hnv]
  clear hnv c1
  have H1 := Lib.hid h1
  have K1 := Lib.hid k1
  have HT : Hid (s.text k = if (s.num k).1.code ≠ 0 then ((s.num k).1, []) else if ((s.num k).1.left.length : Int) < (n : Int) then ({ (s.num k).1 with pos := s.pos, code := 3 }, []) else (s.num k).1.raw (n : Int)) := Lib.hid (by unfold RS.text; rw [HNv.out])
  have HBs := Lib.hid (RS.num_bs s k)
  have HRow := Lib.hid (RS.num_row s k)
  have hnb : (s.num k).1.bs.length ≤ 140737488351232 := by rw [HBs.out]; exact hn
  obtain ⟨⟨A1, cc1, hblk1, hrb1, hc1, hm1, hF1⟩, hok1⟩ := h1
  have d0 : w1.cell? ⟨p, 0, none⟩ = some (.slice A1 (s.num k).1.bs.length cc1) := hblk1.cell 0
  have d1 : w1.cell? ⟨p, 1, none⟩ = some (.int .i64 ((s.num k).1.pos : Int)) := hblk1.cell 1
  have d3 : w1.cell? ⟨p, 3, none⟩ = some (.int .i64 (s.num k).1.code) := hblk1.cell 3
  have f1 := hblk1.frozen 1
  have f3 := hblk1.frozen 3
  have B1 := Lib.hid hblk1
  have R1 := Lib.hid hrb1
  have HF1 := Lib.hid hF1
  have hpos := hok1.1
  have HLen : Hid ((s.num k).1.left.length = (s.num k).1.bs.length - (s.num k).1.pos) := Lib.hid (by unfold RS.left; rw [List.length_drop])
  clear hblk1 hrb1 hF1 hok1 k1 HNv
  generalize (s.num k).1 = t at *
  have hw1 : IntKind.i64.wrap ((t.bs.length : Int) - (t.pos : Int)) = (t.bs.length : Int) - (t.pos : Int) := IntWalk.i64_in _ (by omega)
  by_cases hc : t.code = 0
  · rw [hc] at d3
    have HC := Lib.hid hc
    by_cases hlt : (t.bs.length : Int) - (t.pos : Int) < (n : Int)
    · have HTx : Hid (s.text k = ({ t with pos := s.pos, code := 3 }, [])) := Lib.hid (by rw [HT.out, if_neg (by simp [hc]), if_pos (by rw [HLen.out]; omega)])
      have hd : decide ((t.bs.length : Int) - (t.pos : Int) < (n : Int)) = true := by simpa using hlt
      clear hc HT
      go_upto_region 5 with (fail)
      go_quiet (fail)
      go_wp2
      go_ret
      unfold RTextPost
      rw [HTx.out] at HOk ⊢
      have hkp := ((K1.out.drewN nq).setCell (p := ⟨p, 1, none⟩) (fun _ => rfl) (.int .i64 (s.pos : Int))).setCell (p := ⟨p, 3, none⟩) (fun _ => rfl) (.int .i64 3)
      have hkq := (((Kept.refl (· = p) w1).drewN nq).setCell (p := ⟨p, 1, none⟩) (fun _ => rfl) (.int .i64 (s.pos : Int))).setCell (p := ⟨p, 3, none⟩) (fun _ => rfl) (.int .i64 3)
      exact ⟨rfl, ⟨⟨A1, cc1, ((B1.out.drewN nq).set_ 1 _).set_ 3 _, R1.out.keep hkq (fun k _ a b => HF1.out (b ▸ a)), hc1, hm1, HF1.out⟩, HOk.out⟩, hkp⟩
    · have HTx : Hid (s.text k = t.raw (n : Int)) := Lib.hid (by rw [HT.out, if_neg (by simp [hc]), if_neg (by rw [HLen.out]; omega)])
      have hd : decide ((t.bs.length : Int) - (t.pos : Int) < (n : Int)) = false := by simpa using hlt
      clear hc HT
      go_upto_region 5 with (fail)
      go_quiet (fail)
      go_wp2_with fail
      refine (rrRaw (n : Int) (by omega) (by omega) (w1.drewN nq) F p t (H1.out.still ((Kept.refl _ _).drewN nq)) hnb).mono ?_
      rintro e w2 ⟨A2, c2, rfl, h2, h3, k3⟩
      have H2 := Lib.hid (OB.rb h2).2
      have H3 := Lib.hid h3
      have K3 := Lib.hid ((K1.out.drewN nq).trans k3)
      clear h2 h3 k3
      have hst := run_str w2 _ A2 c2 (t.raw (n : Int)).2 H2.out
      generalize hL : (t.raw (n : Int)).2 = L at hst ⊢
      have HL := Lib.hid hL
      clear hL
      go_wp2
      go_ret
      unfold RTextPost
      rw [HTx.out, HL.out]
      exact ⟨rfl, H3.out, K3.out⟩
  · have hb : (t.code != 0) = true := by simpa using hc
    have HTx : Hid (s.text k = (t, [])) := Lib.hid (by rw [HT.out, if_pos hc])
    clear hc HT
    go_wp2
    go_ret
    unfold RTextPost
    rw [HTx.out]
    exact ⟨rfl, H1.out, K1.out⟩

end Go.Proofs.Ytepligggofbegaa
