/-
  The walk of SealThere.
-/
import Derived.Test.YtlfdpkgggoafaaaDoorThereP
import Derived.Test.YtlfdpkgggoafaaaDoorElems
namespace Go.Proofs.YtlfdpkgggoafaaaDoor
open Go.RowKit

theorem and31 (x : Int) : bits .and .i64 x 31 = ((x % 32).toNat : Int) := by
  have h1 : (BitVec.ofInt 64 x).toNat = (x % 18446744073709551616).toNat := by rw [BitVec.toNat_ofInt]; rfl
  show IntKind.i64.wrap ((BitVec.ofInt 64 x &&& BitVec.ofInt 64 31).toNat : Int) = _
  rw [BitVec.toNat_and, h1, show (BitVec.ofInt 64 31).toNat = 31 from rfl, nat_mask5, IntKind.wrap_i64]
  omega
theorem and7 (x : Int) : bits .and .i64 x 7 = ((x % 8).toNat : Int) := by
  have h1 : (BitVec.ofInt 64 x).toNat = (x % 18446744073709551616).toNat := by rw [BitVec.toNat_ofInt]; rfl
  show IntKind.i64.wrap ((BitVec.ofInt 64 x &&& BitVec.ofInt 64 7).toNat : Int) = _
  rw [BitVec.toNat_and, h1, show (BitVec.ofInt 64 7).toNat = 7 from rfl, nat_mask3, IntKind.wrap_i64]
  omega

theorem Reads.keep {w w' : World} {F S : Nat → Prop} {vs : List Value} {ls : List (List UInt8)} (h : Reads w F vs ls) (hk : Kept S w w') (hd : ∀ k, k < w.heap.size → F k → S k → False) : Reads w' F vs ls :=
  ⟨h.1, fun i v l hv hl => by
    obtain ⟨A, c, e, hr⟩ := h.2 i v l hv hl
    exact ⟨A, c, e, hr.keep hk hd⟩⟩
theorem Reads.still {w w' : World} {F : Nat → Prop} {vs : List Value} {ls : List (List UInt8)} (h : Reads w F vs ls) (hk : Kept noneS w w') : Reads w' F vs ls := h.keep hk fun _ _ _ q => q.elim
theorem Reads.take {w : World} {F : Nat → Prop} {vs : List Value} {ls : List (List UInt8)} (h : Reads w F vs ls) (n : Nat) : Reads w F (vs.take n) (ls.take n) :=
  ⟨by simp [h.1], fun i v l hv hl => by
    rw [List.getElem?_take] at hv hl
    split at hv
    · rename_i hi
      rw [if_pos hi] at hl
      exact h.2 i v l hv hl
    · cases hv⟩

theorem wrap' (A : Option Addr) (c n : Nat) (d : List UInt8) (G : Nat → Prop) (w : World) (hd : RB w G A d) (hl : d.length = n) (hn : d.length ≤ 1048576) (ht : Tab w) :
    Calls Tryd.prog 14 #[.slice A n c] w fun e w' => ∃ v, e = .returned (.tuple #[v, .int .i64 0]) ∧ OB w' (w.heap.size ≤ ·) v (sealRec d) ∧ Kept noneS w w' := by
  subst hl
  exact wrap_ok A c d G w hd hn ht

theorem run_make_bytes (w : World) (n : Nat) (hn : n ≤ 1048576) :
    (Instr.makeSlice 22 (.int .i64 (n : Int)) (.int .i64 (n : Int))).run Tryd.prog w = .ok (.slice (some ⟨w.heap.size, 0, none⟩) n n) (w.alloc (.cells (madeCells #[.int .u8 0] n) 5)) := by
  obtain ⟨i0, hi, hz0, hz1, hz2⟩ := info_parts infoU8
  have h := run_make (P := Tryd.prog) w 22 5 i0 (.int .u8 0) Tryd.underlying22 hi hz0 .i64 .i64 (n : Int) (n : Int) (by omega) (by omega) (by rw [hz2]; omega) (by omega)
  rw [hz1] at h
  simpa [Value.cells] using h
theorem made_own (w : World) (n : Nat) (hn : n ≤ 1048576) (F : Nat → Prop) (hF : F w.heap.size) : OB (w.alloc (.cells (madeCells #[.int .u8 0] n) 5)) F (.slice (some ⟨w.heap.size, 0, none⟩) n n) (List.replicate n 0) := by
  have e := toList_madeCells_one (.int .u8 0) n
  have h := Own.lit w 5 1 F (madeCells #[.int .u8 0] n) n (by have := congrArg List.length e; simpa using this) (by unfold maxLen; omega) hF
  rw [e] at h
  unfold OB
  rw [List.length_replicate]
  have e2 : bvs (List.replicate n 0) = List.replicate n (.int .u8 0) := by simp [bvs]
  rw [e2]
  exact h

theorem whole' (A : Option Addr) (c n : Nat) (b : List UInt8) (F : Nat → Prop) (w : World) (hr : RB w F A b) (hl : b.length = n) (hb : b.length ≤ 16777216) (hc : b.length ≤ c) (hc2 : c ≤ 9223372036854775807) (ht : Tab w) :
    Calls Tryd.prog 18 #[.slice A n c] w (WholePost w (wholeP b)) := by
  subst hl
  exact whole_any A c b F w hr hb hc hc2 ht
theorem sameAll' (A B : Option Addr) (c d n m : Nat) (vs us : List Value) (ls ms : List (List UInt8)) (F G F' G' : Nat → Prop) (w : World) (hv : Rd w F A vs) (hu : Rd w G B us) (hvs : Reads w F' vs ls) (hus : Reads w G' us ms) (hn : n ≤ 9223372036854775807) (h1 : vs.length = n) (h2 : us.length = m) :
    Calls Tryd.prog 20 #[.slice A n c, .slice B m d] w fun e w' => e = .returned (.bool (ls == ms)) ∧ ∃ n, w' = w.drewN n := by
  subst h1 h2
  exact sameAll_any A B c d vs us ls ms F G F' G' w hv hu hvs hus hn

set_option maxRecDepth 100000 in
set_option maxHeartbeats 1600000 in
theorem sealThere_walk (A : Option Addr) (c : Nat) (vs : List Value) (ls : List (List UInt8)) (x1 x2 : Int) (w : World) (hr : Rd w (· < w.heap.size) A vs) (hrs : Reads w (· < w.heap.size) vs ls) (hb : (recs ls).length ≤ 8388608) (hv : vs.length ≤ 1048576) (hlb : ∀ l ∈ ls, l.length ≤ 1048577) (ht : Tab w) :
    Calls Tryd.prog 8 #[.slice A vs.length c, .int .i64 x1, .int .i64 x2] w fun e w' => e = .returned (.bool true) ∧ Below w.heap.size w w' := by
  have HR := Lib.hid hr
  have HRs := Lib.hid hrs
  have HT := Lib.hid ht
  have HLB := Lib.hid hlb
  have HBd := Lib.hid hb
  clear hr ht hrs hlb hb
  have kc := fun (w : World) (C : Array Value) (n c : Nat) => Lib.run_convert_bytes_const (P := Tryd.prog) w 22 5 C n c Tryd.underlying22 Tryd.underlying5
  go_enter Tryd.func8, Tryd.ntmps8
  go_wp2_with fail
  refine (speaks_any _ HT.out).mono ?_
  rintro e w1 ⟨rfl, k1⟩
  have K1 := Lib.hid k1
  clear k1
  go_wp2
  go_loopw [7, 22] (fun v i wr => ∃ j : Nat, j ≤ vs.length ∧ i = .int .i64 j ∧ OB wr (w.heap.size ≤ ·) v (recs (ls.take j)) ∧ Hid (∀ l ∈ ls.take j, l.length ≤ 1048576) ∧ Kept noneS w wr) (fun _ i _ => vs.length - (intOf i).toNat)
  case atStart => exact ⟨0, Nat.zero_le _, rfl, Own.empty _ _ _ _ K1.out.size, Lib.hid (fun l hl => by simp at hl), K1.out.alloc _⟩
  case round =>
    obtain ⟨j, hj, rfl, hob, HA, hkept⟩ := hrel
    have HO := Lib.hid hob
    have HK := Lib.hid hkept
    clear hob hkept
    obtain ⟨A7, c7, rfl, _⟩ := Own.form HO.out
    have HTl : Hid ((recs (ls.take j)).length ≤ 8388608) := Lib.hid (by
      have h1 : recs ls = recs (ls.take j) ++ recs (ls.drop j) := by rw [← recs_append, List.take_append_drop]
      have h2 := HBd.out
      rw [h1, List.length_append] at h2
      omega)
    by_cases hlt : j < vs.length
    · have hlj : j < ls.length := by have := HRs.out.1; omega
      obtain ⟨Aj, cj, e1, r1⟩ := HRs.out.2 j _ _ (List.getElem?_eq_getElem hlt) (List.getElem?_eq_getElem hlj)
      obtain ⟨g, o, rfl, hc1⟩ : ∃ g o, A = some ⟨g, o, none⟩ ∧ w.cell? ⟨g, o + j, none⟩ = some vs[j] := by
        rcases HR.out with h | ⟨g, o, h, _, hc⟩
        · subst h; simp at hlt
        · exact ⟨g, o, h, hc j _ (List.getElem?_eq_getElem hlt)⟩
      have hc2 : wr.cell? ⟨g, o + j, none⟩ = some (.slice Aj (ls[j]).length cj) := by
        rw [HK.out.cell (p := ⟨g, o + j, none⟩) (lt_of_cell hc1) (fun q => q), hc1, e1]
      have HT1 : Hid (recs (ls.take (j + 1)) = recs (ls.take j) ++ sealRec ls[j]) := Lib.hid (by rw [List.take_succ_eq_append_getElem hlj, recs_append]; simp [recs])
      have HA1 : Hid (ls[j].length ≤ 1048576 → ∀ l ∈ ls.take (j + 1), l.length ≤ 1048576) := Lib.hid (fun h l hl => by
        rw [List.take_succ_eq_append_getElem hlj] at hl
        rcases List.mem_append.1 hl with q | q
        · exact HA.out l q
        · simp at q; subst q; exact h)
      have hdl := HLB.out ls[j] (List.getElem_mem hlj)
      have R1 := Lib.hid (r1.still HK.out)
      clear hc1 e1 r1
      generalize ls[j] = d at hc2 R1 HT1 HA1 hdl
      generalize recs (ls.take j) = cur at HO HTl HT1 ⊢
      have hcur := HTl.out
      have T1 := Lib.hid (HT.out.keep HK.out (fun q => q))
      go_wp2_with fail
      refine (clone_any Aj cj d _ wr R1.out (by omega)).mono ?_
      rintro e w2 ⟨A2, c2, rfl, h2, k2⟩
      have K2 := Lib.hid k2
      have H2 := Lib.hid (Own.rd h2)
      clear k2 h2
      by_cases hd : d.length ≤ 1048576
      · go_wp2_with fail
        refine (wrap_ok A2 c2 d _ w2 H2.out hd (T1.out.keep K2.out (fun q => q))).mono ?_
        rintro e w3 ⟨v, rfl, h3, k3⟩
        have hL : (sealRec d).length ≤ 1048584 := by rw [sealRec_length]; omega
        generalize sealRec d = R at h3 HT1 hL
        obtain ⟨A3, c3, rfl, _⟩ := Own.form h3
        have H3 := Lib.hid h3
        have K3 := Lib.hid (K2.out.trans k3)
        clear k3 h3
        go_wp2_with (at_builtin; refine wpList_appN rfl (.tmp 37) (.tmp 38) rfl (w.heap.size ≤ ·) _ (.slice A7 cur.length c7) cur rfl (Own.keep0 HO.out K3.out (fun _ _ _ q => q.elim)) A3 c3 R rfl (Own.rd H3.out) (by omega) (by have := HK.out.size; have := K3.out.size; omega) ?_; intro A5 c5 w5 hown5 hcap5 hk5; have HO5 := Lib.hid hown5; have HK5 := Lib.hid hk5; clear hown5 hk5)
        go_roundw
        case rel => exact ⟨j + 1, by omega, by go_num, by rw [HT1.out]; unfold OB; rw [List.length_append]; exact (by have := HO5.out; unfold OB at this; rw [List.length_append] at this; exact this), Lib.hid (HA1.out hd), (HK.out.trans K3.out).trans2 HK5.out (fun i hi h => by have := HO.out.2 i h; exact absurd hi (by omega))⟩
        case measure => simp [intOf]; omega
      · have hd2 : decide (1048576 < (d.length : Int)) = true := by simp; omega
        go_wp2_with fail
        refine (wrap_long A2 c2 d w2 (by omega)).mono ?_
        rintro e w3 ⟨rfl, rfl⟩
        go_wp2
        go_ret
        exact ⟨rfl, (HK.out.trans K2.out).still⟩
    · obtain rfl : j = vs.length := by omega
      have HLs : Hid (ls.take vs.length = ls) := Lib.hid (List.take_of_length_le (by have := HRs.out.1; omega))
      rw [HLs.out] at HO HA HTl ⊢
      have HWh := Lib.hid (fun t => whole_recs ls HA.out t)
      generalize recs ls = cur at HO HTl HWh ⊢
      have hcur := HTl.out
      have T1 := Lib.hid (HT.out.keep HK.out (fun q => q))
      go_wp2_with fail
      refine (wrap' (some ⟨wr.heap.size, 0, none⟩) 6 6 [98, 101, 104, 105, 110, 100] (fun _ => True) _ (RB.lit _ _ _ _ _ _ rfl trivial) rfl (by decide) (T1.out.keep ((Kept.refl noneS wr).alloc _) (fun q => q))).mono ?_
      rintro e w2 ⟨v, rfl, h2, k2⟩
      have hL : (sealRec [98, 101, 104, 105, 110, 100]).length = 14 := by rw [sealRec_length]; rfl
      generalize sealRec [98, 101, 104, 105, 110, 100] = R at h2 hL
      obtain ⟨A2, c2, rfl, hc2, hc2b, _⟩ := Own.form h2
      rw [hL] at h2 hc2 ⊢
      unfold maxLen at hc2b
      have HRL := Lib.hid hL
      have H2 := Lib.hid h2
      have K2 := Lib.hid (((Kept.refl noneS wr).alloc _).trans k2)
      clear h2 k2 hL kc
      have a1 := and31 x1
      have a2 := and7 x2
      have hn32 : (x1 % 32).toNat < 32 := by omega
      have hm8 : (x2 % 8).toNat < 8 := by omega
      generalize (x1 % 32).toNat = n at a1 hn32
      generalize (x2 % 8).toNat = m at a2 hm8
      have hmk := fun (W : World) => run_make_bytes W n (by omega)
      have HM := Lib.hid (made_own w2 n (by omega) (wr.heap.size ≤ ·) K2.out.size)
      have HZl : Hid ((List.replicate n (0 : UInt8)).length = n) := Lib.hid List.length_replicate
      have HZ8 := Lib.hid (fun h : 8 ≤ n => unwrap_noughts n h R)
      generalize List.replicate n (0 : UInt8) = Z at HM HZl HZ8
      have hw2s : wr.heap.size ≤ w2.heap.size := K2.out.size
      have hzl : Z.length ≤ 31 := by rw [HZl.out]; omega
      have hrl : R.length ≤ 14 := by rw [HRL.out]; decide
      have HTm : Hid ((R.take m).length = m) := Lib.hid (by rw [List.length_take, HRL.out]; omega)
      have htm : (R.take m).length ≤ 8 := by rw [HTm.out]; omega
      have HTT : Hid ((Z ++ R).length = Z.length + R.length) := Lib.hid List.length_append
      have htt : (Z ++ R).length ≤ 45 := by rw [HTT.out]; omega
      by_cases hn0 : n = 0
      · have b0 : ((n : Int) == 0) = true := by simpa using hn0
        have b1 : decide (0 < n) = false := by simp [hn0]
        have b1' : decide (0 < (n : Int)) = false := by simp [hn0]
        clear hn0
        go_wp2_with (at_builtin; refine wpList_appN rfl (.tmp 56) (.tmp 57) rfl (wr.heap.size ≤ ·) _ (.slice (some ⟨w2.heap.size, 0, none⟩) n n) Z rfl HM.out A2 c2 R (by rw [HRL.out]; rfl) (RB.alloc (OB.rb H2.out).2 _) (by omega) (by simp; omega) ?_; intro A3 c3 w3 hown3 hcap3 hk3; have HO3 := Lib.hid hown3; have HK3 := Lib.hid hk3; clear hown3 hk3 hcap3)
        have K3 := Lib.hid ((K2.out.alloc (.cells (madeCells #[.int .u8 0] n) 5)).trans2 (S := noneS) HK3.out (fun i hi h => by have h5 : w2.heap.size = i := (by simpa [ownS, Value.ownBlock] using h); exact absurd hi (by omega)))
        have RW3 : Hid (RB w3 (· < w2.heap.size) A2 R) := Lib.hid (RB.keep (RB.alloc (RB.mono (G := (· < w2.heap.size)) (OB.rb H2.out).2 (fun _ h _ => h)) _) HK3.out (fun k _ h1 h2 => by have h5 : w2.heap.size = k := (by simpa [ownS, Value.ownBlock] using h2); omega))
        clear hmk
        have RT0 := Lib.hid (RB.take RW3.out m)
        generalize R.take m = T at RT0 HTm htm
        have R4 := Lib.hid (RT0.out)
        have O7 := Lib.hid (Own.keep0 HO.out K3.out (fun _ _ _ q => q.elim))
        go_wp2_with fail
        refine (clone_any A7 c7 cur _ w3 (Own.rd O7.out) (by omega)).mono ?_
        rintro e w4 ⟨A4, c4, rfl, h4, k4⟩
        have H4 := Lib.hid h4
        have K4 := Lib.hid (K3.out.trans k4)
        have R5 := Lib.hid (RB.still R4.out k4)
        have K4s := Lib.hid k4.size
        clear h4 k4
        go_wp2_with (at_builtin; refine wpList_appN rfl (.tmp 68) (.tmp 69) rfl (w3.heap.size ≤ ·) _ (.slice A4 cur.length c4) cur rfl H4.out A2 c2 T (by rw [HTm.out]; rfl) R5.out (by omega) (by have := K4s.out; omega) ?_; intro A5 c5 w5 hown5 hcap5 hk5; have HO5 := Lib.hid hown5; have HK5 := Lib.hid hk5; clear hown5 hk5 hcap5)
        have K5 := Lib.hid (K4.out.trans2 (S := noneS) HK5.out (fun i hi h => by have := H4.out.2 i h; have := K3.out.size; exact absurd hi (by omega)))
        obtain ⟨k, hk, hwp⟩ := HWh.out T
        have HXl : Hid ((cur ++ T).length = cur.length + (T).length) := Lib.hid List.length_append
        have HWp := Lib.hid hwp
        have HKk := Lib.hid hk
        clear hk hwp
        generalize cur ++ T = X at HWp HO5 HXl
        obtain ⟨A5', c5', e5, hc5a, hc5b, _⟩ := Own.form HO5.out
        injection e5 with e5a e5b e5c
        subst e5a e5c
        unfold maxLen at hc5b
        have hXb : X.length ≤ 16777216 := by rw [HXl.out]; omega
        have R6 := Lib.hid (OB.rb HO5.out).2
        clear e5b
        refine (whole' A5 c5 _ X _ w5 R6.out HXl.out hXb hc5a (by omega) ((HT.out.keep HK.out (fun q => q)).keep K5.out (fun q => q))).mono ?_
        rintro e w6 ⟨A6, c6, us, rfl, h6, g6, k6⟩
        rw [HWp.out] at g6 ⊢
        have H6 := Lib.hid h6
        have G6 := Lib.hid g6
        have K6 := Lib.hid (K5.out.trans k6)
        have L6 := Lib.hid (HR.out.keep (HK.out.trans K6.out) (fun _ _ _ q => q.elim))
        have M6 := Lib.hid (HRs.out.still (HK.out.trans K6.out))
        clear h6 g6 k6
        have HE0 : Hid (wholeF k T = ([], 0)) := Lib.hid (whole_none (unwrap_short (by rw [HTm.out]; omega)) HKk.out)
        rw [HE0.out, List.append_nil] at G6
        rw [HE0.out]
        have hq : ((cur.length : Int) == (cur.length : Int)) = true := by simp
        go_wp2_with fail
        refine (sameAll_any A6 A c6 c us vs ls ls _ _ _ _ w6 (Own.rd H6.out) L6.out G6.out.reads M6.out (by have := G6.out.1; have := HRs.out.1; omega)).mono ?_
        rintro e w7 ⟨rfl, nd, rfl⟩
        rw [beq_self_eq_true ls]
        go_wp2
        go_ret
        exact ⟨rfl, ((HK.out.trans K6.out).drewN nd).still⟩
      · have b0 : ((n : Int) == 0) = false := by rw [beq_eq_false_iff_ne]; omega
        have b1 : decide (0 < n) = true := by simp; omega
        have b1' : decide (0 < (n : Int)) = true := by simp; omega
        by_cases hn8 : n < 8
        · have b2 : decide ((n : Int) < 8) = true := by simp; omega
          clear hn0
          go_wp2_with (at_builtin; refine wpList_appN rfl (.tmp 56) (.tmp 57) rfl (wr.heap.size ≤ ·) _ (.slice (some ⟨w2.heap.size, 0, none⟩) n n) Z rfl HM.out A2 c2 R (by rw [HRL.out]; rfl) (RB.alloc (OB.rb H2.out).2 _) (by omega) (by simp; omega) ?_; intro A3 c3 w3 hown3 hcap3 hk3; have HO3 := Lib.hid hown3; have HK3 := Lib.hid hk3; clear hown3 hk3 hcap3)
          have K3 := Lib.hid ((K2.out.alloc (.cells (madeCells #[.int .u8 0] n) 5)).trans2 (S := noneS) HK3.out (fun i hi h => by have h5 : w2.heap.size = i := (by simpa [ownS, Value.ownBlock] using h); exact absurd hi (by omega)))
          have RW3 : Hid (RB w3 (· < w2.heap.size) A2 R) := Lib.hid (RB.keep (RB.alloc (RB.mono (G := (· < w2.heap.size)) (OB.rb H2.out).2 (fun _ h _ => h)) _) HK3.out (fun k _ h1 h2 => by have h5 : w2.heap.size = k := (by simpa [ownS, Value.ownBlock] using h2); omega))
          clear hmk
          generalize Z ++ R = T at HO3 HTT HZ8 htt
          have R4 := Lib.hid ((OB.rb HO3.out).2)
          have O7 := Lib.hid (Own.keep0 HO.out K3.out (fun _ _ _ q => q.elim))
          go_wp2_with fail
          refine (clone_any A7 c7 cur _ w3 (Own.rd O7.out) (by omega)).mono ?_
          rintro e w4 ⟨A4, c4, rfl, h4, k4⟩
          have H4 := Lib.hid h4
          have K4 := Lib.hid (K3.out.trans k4)
          have R5 := Lib.hid (RB.still R4.out k4)
          have K4s := Lib.hid k4.size
          clear h4 k4
          go_wp2_with (at_builtin; refine wpList_appN rfl (.tmp 68) (.tmp 69) rfl (w3.heap.size ≤ ·) _ (.slice A4 cur.length c4) cur rfl H4.out A3 c3 T (by rw [HTT.out]; rfl) R5.out (by omega) (by have := K4s.out; omega) ?_; intro A5 c5 w5 hown5 hcap5 hk5; have HO5 := Lib.hid hown5; have HK5 := Lib.hid hk5; clear hown5 hk5 hcap5)
          have K5 := Lib.hid (K4.out.trans2 (S := noneS) HK5.out (fun i hi h => by have := H4.out.2 i h; have := K3.out.size; exact absurd hi (by omega)))
          obtain ⟨k, hk, hwp⟩ := HWh.out T
          have HXl : Hid ((cur ++ T).length = cur.length + (T).length) := Lib.hid List.length_append
          have HWp := Lib.hid hwp
          have HKk := Lib.hid hk
          clear hk hwp
          generalize cur ++ T = X at HWp HO5 HXl
          obtain ⟨A5', c5', e5, hc5a, hc5b, _⟩ := Own.form HO5.out
          injection e5 with e5a e5b e5c
          subst e5a e5c
          unfold maxLen at hc5b
          have hXb : X.length ≤ 16777216 := by rw [HXl.out]; omega
          have R6 := Lib.hid (OB.rb HO5.out).2
          clear e5b
          refine (whole' A5 c5 _ X _ w5 R6.out HXl.out hXb hc5a (by omega) ((HT.out.keep HK.out (fun q => q)).keep K5.out (fun q => q))).mono ?_
          rintro e w6 ⟨A6, c6, us, rfl, h6, g6, k6⟩
          rw [HWp.out] at g6 ⊢
          have H6 := Lib.hid h6
          have G6 := Lib.hid g6
          have K6 := Lib.hid (K5.out.trans k6)
          have L6 := Lib.hid (HR.out.keep (HK.out.trans K6.out) (fun _ _ _ q => q.elim))
          have M6 := Lib.hid (HRs.out.still (HK.out.trans K6.out))
          clear h6 g6 k6
          generalize hQ : wholeF k T = Q at G6
          obtain ⟨qs, qn⟩ := Q
          have hus : us.length = ls.length + qs.length := by have := G6.out.1; simpa using this
          have hvl := HRs.out.1
          have hq1 : vs.length ≤ us.length := by omega
          have HLt : Hid ((ls ++ qs).take vs.length = ls) := Lib.hid (by rw [hvl]; simp)
          have HUt : Hid ((us.take vs.length).length = vs.length) := Lib.hid (by simp; omega)
          clear hus hvl hQ
          have hq : decide (cur.length ≤ cur.length + qn) = true := by simp
          have hcc : us.length ≤ c6 ∧ c6 ≤ 9223372036854775807 := by
            obtain ⟨_, _, e9, h9, h9b, _⟩ := Own.form H6.out
            injection e9 with e9a e9b e9c
            unfold maxLen at h9b
            omega
          obtain ⟨hcc1, hcc2⟩ := hcc
          have hqd : decide (vs.length ≤ us.length) = true := by simpa using hq1
          go_wp2_with fail
          have RT := Lib.hid (G6.out.reads.take vs.length)
          rw [HLt.out] at RT
          refine (sameAll' A6 A c6 c vs.length vs.length (us.take vs.length) vs ls ls _ _ _ _ w6 ((Own.rd H6.out).take _) L6.out RT.out M6.out (by omega) HUt.out rfl).mono ?_
          rintro e w7 ⟨rfl, nd, rfl⟩
          rw [beq_self_eq_true ls]
          go_wp2
          go_ret
          exact ⟨rfl, ((HK.out.trans K6.out).drewN nd).still⟩
        · have b2 : decide ((n : Int) < 8) = false := by simp; omega
          have h8 : 8 ≤ n := by omega
          clear hn0
          go_wp2_with (at_builtin; refine wpList_appN rfl (.tmp 56) (.tmp 57) rfl (wr.heap.size ≤ ·) _ (.slice (some ⟨w2.heap.size, 0, none⟩) n n) Z rfl HM.out A2 c2 R (by rw [HRL.out]; rfl) (RB.alloc (OB.rb H2.out).2 _) (by omega) (by simp; omega) ?_; intro A3 c3 w3 hown3 hcap3 hk3; have HO3 := Lib.hid hown3; have HK3 := Lib.hid hk3; clear hown3 hk3 hcap3)
          have K3 := Lib.hid ((K2.out.alloc (.cells (madeCells #[.int .u8 0] n) 5)).trans2 (S := noneS) HK3.out (fun i hi h => by have h5 : w2.heap.size = i := (by simpa [ownS, Value.ownBlock] using h); exact absurd hi (by omega)))
          have RW3 : Hid (RB w3 (· < w2.heap.size) A2 R) := Lib.hid (RB.keep (RB.alloc (RB.mono (G := (· < w2.heap.size)) (OB.rb H2.out).2 (fun _ h _ => h)) _) HK3.out (fun k _ h1 h2 => by have h5 : w2.heap.size = k := (by simpa [ownS, Value.ownBlock] using h2); omega))
          clear hmk
          generalize Z ++ R = T at HO3 HTT HZ8 htt
          have R4 := Lib.hid ((OB.rb HO3.out).2)
          have O7 := Lib.hid (Own.keep0 HO.out K3.out (fun _ _ _ q => q.elim))
          go_wp2_with fail
          refine (clone_any A7 c7 cur _ w3 (Own.rd O7.out) (by omega)).mono ?_
          rintro e w4 ⟨A4, c4, rfl, h4, k4⟩
          have H4 := Lib.hid h4
          have K4 := Lib.hid (K3.out.trans k4)
          have R5 := Lib.hid (RB.still R4.out k4)
          have K4s := Lib.hid k4.size
          clear h4 k4
          go_wp2_with (at_builtin; refine wpList_appN rfl (.tmp 68) (.tmp 69) rfl (w3.heap.size ≤ ·) _ (.slice A4 cur.length c4) cur rfl H4.out A3 c3 T (by rw [HTT.out]; rfl) R5.out (by omega) (by have := K4s.out; omega) ?_; intro A5 c5 w5 hown5 hcap5 hk5; have HO5 := Lib.hid hown5; have HK5 := Lib.hid hk5; clear hown5 hk5 hcap5)
          have K5 := Lib.hid (K4.out.trans2 (S := noneS) HK5.out (fun i hi h => by have := H4.out.2 i h; have := K3.out.size; exact absurd hi (by omega)))
          obtain ⟨k, hk, hwp⟩ := HWh.out T
          have HXl : Hid ((cur ++ T).length = cur.length + (T).length) := Lib.hid List.length_append
          have HWp := Lib.hid hwp
          have HKk := Lib.hid hk
          clear hk hwp
          generalize cur ++ T = X at HWp HO5 HXl
          obtain ⟨A5', c5', e5, hc5a, hc5b, _⟩ := Own.form HO5.out
          injection e5 with e5a e5b e5c
          subst e5a e5c
          unfold maxLen at hc5b
          have hXb : X.length ≤ 16777216 := by rw [HXl.out]; omega
          have R6 := Lib.hid (OB.rb HO5.out).2
          clear e5b
          refine (whole' A5 c5 _ X _ w5 R6.out HXl.out hXb hc5a (by omega) ((HT.out.keep HK.out (fun q => q)).keep K5.out (fun q => q))).mono ?_
          rintro e w6 ⟨A6, c6, us, rfl, h6, g6, k6⟩
          rw [HWp.out] at g6 ⊢
          have H6 := Lib.hid h6
          have G6 := Lib.hid g6
          have K6 := Lib.hid (K5.out.trans k6)
          have L6 := Lib.hid (HR.out.keep (HK.out.trans K6.out) (fun _ _ _ q => q.elim))
          have M6 := Lib.hid (HRs.out.still (HK.out.trans K6.out))
          clear h6 g6 k6
          have HE0 : Hid (wholeF k T = ([], 0)) := Lib.hid (whole_none (HZ8.out h8) HKk.out)
          rw [HE0.out, List.append_nil] at G6
          rw [HE0.out]
          have hq : ((cur.length : Int) == (cur.length : Int)) = true := by simp
          go_wp2_with fail
          refine (sameAll_any A6 A c6 c us vs ls ls _ _ _ _ w6 (Own.rd H6.out) L6.out G6.out.reads M6.out (by have := G6.out.1; have := HRs.out.1; omega)).mono ?_
          rintro e w7 ⟨rfl, nd, rfl⟩
          rw [beq_self_eq_true ls]
          go_wp2
          go_ret
          exact ⟨rfl, ((HK.out.trans K6.out).drewN nd).still⟩

end Go.Proofs.YtlfdpkgggoafaaaDoor
