/-
  Contracts of warrenref02.Wrap.
-/
import Derived.Test.YtlfdpkgggoafaaaDoorRef01
import Derived.Test.YtlfdpkgggoafaaaDoorSealR
namespace Go.Proofs.YtlfdpkgggoafaaaDoor
open Go.RowKit

set_option maxHeartbeats 400000 in
theorem refWrap_long (A : Option Addr) (c : Nat) (d : List UInt8) (w : World) (hn : 1048576 < d.length) :
    Calls Tryd.prog 15 #[.slice A d.length c] w fun e w' => ∃ A' c', e = .returned (.tuple #[.slice A' 0 c', .int .i64 1]) ∧ OB w' (w.heap.size ≤ ·) (.slice A' 0 c') [] ∧ Kept noneS w w' := by
  go_enter Tryd.func15, Tryd.ntmps15
  go_wp2
  go_ret2
  exact ⟨_, _, rfl, Own.empty _ _ _ _ (Nat.le_refl _), (Kept.refl _ _).alloc _⟩

set_option maxHeartbeats 400000 in
theorem refWrap_ok (A : Option Addr) (c : Nat) (d : List UInt8) (G : Nat → Prop) (w : World) (hd : RB w G A d) (hn : d.length ≤ 1048576) :
    Calls Tryd.prog 15 #[.slice A d.length c] w fun e w' => ∃ A' c', e = .returned (.tuple #[.slice A' (sealRec d).length c', .int .i64 0]) ∧ OB w' (w.heap.size ≤ ·) (.slice A' (sealRec d).length c') (sealRec d) ∧ Kept noneS w w' := by
  have HD := Lib.hid (hd.mono (G := (· < w.heap.size)) fun _ h _ => h)
  clear hd
  go_enter Tryd.func15, Tryd.ntmps15
  go_wp2_with fail
  refine (refNum 4 (by decide) (d.length : Int) w (by omega) (by omega)).mono ?_
  rintro e w1 ⟨A1, c1, rfl, h1, k1⟩
  have H1 := Lib.hid h1
  have K1 := Lib.hid k1
  have hl4 : (be 4 (d.length : Int)).length ≤ 4 := Nat.le_of_eq (be_length _ _)
  have HRec : Hid (sealRec d = be 4 (d.length : Int) ++ be 4 (Crc.sum (be 4 (d.length : Int) ++ d)) ++ d) := Lib.hid rfl
  generalize be 4 (d.length : Int) = n4 at H1 hl4 HRec
  clear h1 k1
  go_wp2_with fail
  have R1 : Hid (RB w1 (w.heap.size ≤ ·) A1 n4) := Lib.hid (OB.rb H1.out).2
  refine (refCopy A1 c1 n4 _ w1 R1.out (by omega)).mono ?_
  rintro e w2 ⟨A2, c2, rfl, h2, k2⟩
  have H2 := Lib.hid h2
  have K2 := Lib.hid k2
  clear h2 k2
  go_wp2
  go_loopw [5, 6] (fun v i wr => ∃ (j : Nat), j ≤ d.length ∧ i = .int .i64 j ∧ OB wr (w1.heap.size ≤ ·) v (n4 ++ d.take j) ∧ Kept noneS w1 wr) (fun _ i _ => d.length - (intOf i).toNat)
  case atStart => exact ⟨0, Nat.zero_le _, rfl, by simpa using H2.out, K2.out⟩
  case round =>
    obtain ⟨j, hj, rfl, hob, hkept⟩ := hrel
    have HO := Lib.hid hob
    have HK := Lib.hid hkept
    clear hob hkept
    by_cases hlt : j < d.length
    · obtain ⟨A0, cap, rfl, _⟩ := Own.form HO.out
      have hl : (n4 ++ d.take j).length ≤ 4 + j := by simp; omega
      have HT : Hid (n4 ++ d.take (j + 1) = (n4 ++ d.take j) ++ [d[j]]) := Lib.hid (by rw [List.take_succ_eq_append_getElem hlt, List.append_assoc])
      obtain ⟨g, o, rfl, _, hc⟩ := (HD.out.still (K1.out.trans HK.out)).at_ hlt
      generalize d[j] = b at hc HT
      generalize n4 ++ d.take j = cur at HO hl HT ⊢
      go_wp2_with (at_builtin; refine wpList_app1 rfl (.tmp 24) (.tmp 29) rfl (w1.heap.size ≤ ·) (.slice A0 cur.length cap) cur rfl (Own.alloc HO.out _) wr.heap.size b rfl (by simp) (by omega) (by have := HK.out.size; simp; omega) ?_; intro A3 cap1 w3 hown hcap1 hk; have HO1 := Lib.hid hown; have HK1 := Lib.hid hk; clear hown hk)
      go_roundw
      case rel => exact ⟨j + 1, by omega, by go_num, by rw [HT.out]; exact HO1.out, (HK.out.alloc _).trans2 HK1.out (fun i hi h => by have := HO.out.2 i h; omega)⟩
      case measure => simp [intOf]; omega
    · obtain rfl : j = d.length := by omega
      rw [List.take_length] at HO
      obtain ⟨A0, cap, rfl, _⟩ := Own.form HO.out
      have hlx : (n4 ++ d).length ≤ 1048580 := by simp; omega
      have N3 := Lib.hid (Own.keep H1.out HK.out (fun _ _ _ q => q.elim))
      generalize n4 ++ d = X at HO hlx HRec ⊢
      have R3 := Lib.hid (OB.rb HO.out).2
      have hs : Crc.sum X < 4294967296 := Crc.xor_lt (Crc.over_lt _ (by decide)) (by decide)
      go_wp2_with fail
      refine (refSum A0 cap X _ wr R3.out (by omega)).mono ?_
      rintro e w4 ⟨rfl, rfl⟩
      generalize Crc.sum X = S at hs HRec
      go_wp2_with fail
      refine (refNum 4 (by decide) (S : Int) wr (by omega) (by omega)).mono ?_
      rintro e w4 ⟨A4, c4, rfl, h4, k4⟩
      have R4 := Lib.hid (OB.rb h4).2
      have K4 := Lib.hid k4
      have N4 := Lib.hid (Own.keep N3.out K4.out (fun _ _ _ q => q.elim))
      have hl8 : (be 4 (S : Int)).length ≤ 4 := Nat.le_of_eq (be_length _ _)
      generalize be 4 (S : Int) = s4 at R4 hl8 HRec
      clear h4 k4
      go_wp2_with (at_builtin; refine wpList_appN rfl (.tmp 31) (.tmp 35) rfl (w.heap.size ≤ ·) _ (.slice A1 n4.length c1) n4 rfl N4.out A4 c4 s4 rfl R4.out (by omega) (by have := K1.out.size; have := HK.out.size; have := K4.out.size; simp; omega) ?_; intro A5 cap5 w5 hown hcap1 hk; have HO5 := Lib.hid hown; have HK5 := Lib.hid hk; clear hown hk)
      have HK5' : Hid (Kept noneS w w5) := Lib.hid ((K1.out.trans (HK.out.trans K4.out)).trans2 HK5.out (fun i hi h => by have := H1.out.2 i h; omega))
      obtain ⟨wo, rfl⟩ : ∃ wo : World, wo = wr := ⟨_, rfl⟩
      clear N3 N4 HO R3 R4 HK5 H2 R1 H1 HK K4 K2
      go_loopw [7, 8] (fun v i wr => ∃ (j : Nat), j ≤ d.length ∧ i = .int .i64 j ∧ OB wr (w.heap.size ≤ ·) v (n4 ++ s4 ++ d.take j) ∧ Kept noneS w wr) (fun _ i _ => d.length - (intOf i).toNat)
      case atStart => exact ⟨0, Nat.zero_le _, rfl, by simpa using HO5.out, HK5'.out⟩
      case round =>
        obtain ⟨j, hj, rfl, hob, hkept⟩ := hrel
        have HO := Lib.hid hob
        have HK := Lib.hid hkept
        clear hob hkept
        by_cases hlt : j < d.length
        · obtain ⟨A0, cap, rfl, _⟩ := Own.form HO.out
          have hl : (n4 ++ s4 ++ d.take j).length ≤ 8 + j := by simp; omega
          have HT : Hid (n4 ++ s4 ++ d.take (j + 1) = (n4 ++ s4 ++ d.take j) ++ [d[j]]) := Lib.hid (by rw [List.take_succ_eq_append_getElem hlt]; simp)
          obtain ⟨g, o, rfl, _, hc⟩ := (HD.out.still HK.out).at_ hlt
          generalize d[j] = b at hc HT
          generalize n4 ++ s4 ++ d.take j = cur at HO hl HT ⊢
          go_wp2_with (at_builtin; refine wpList_app1 rfl (.tmp 43) (.tmp 48) rfl (w.heap.size ≤ ·) (.slice A0 cur.length cap) cur rfl (Own.alloc HO.out _) wr.heap.size b rfl (by simp) (by omega) (by have := HK.out.size; simp; omega) ?_; intro A3 cap1 w3 hown hcap1 hk; have HO1 := Lib.hid hown; have HK1 := Lib.hid hk; clear hown hk)
          go_roundw
          case rel => exact ⟨j + 1, by omega, by go_num, by rw [HT.out]; exact HO1.out, (HK.out.alloc _).trans2 HK1.out (fun i hi h => by have := HO.out.2 i h; omega)⟩
          case measure => simp [intOf]; omega
        · obtain rfl : j = d.length := by omega
          rw [List.take_length, ← HRec.out] at HO
          obtain ⟨A0, cap, rfl, _⟩ := Own.form HO.out
          go_wp2
          go_ret2
          exact ⟨A0, cap, rfl, HO.out, HK.out⟩

end Go.Proofs.YtlfdpkgggoafaaaDoor
