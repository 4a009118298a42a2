/-
  The walk of SealUnwraps.
-/
import Derived.Test.YtlfdpkgggoafaaaDoorRef02u
namespace Go.Proofs.YtlfdpkgggoafaaaDoor
open Go.RowKit

set_option maxHeartbeats 800000 in
theorem sealUnwraps_walk (A : Option Addr) (c : Nat) (b : List UInt8) (w : World) (hb : RB w (· < w.heap.size) A b) (hc : b.length ≤ c) (hc2 : c ≤ 140737488351232) (ht : Tab w) :
    Calls Tryd.prog 5 #[.slice A b.length c] w fun e w' => e = .returned (.bool true) ∧ Below w.heap.size w w' := by
  have HB := Lib.hid hb
  have HT := Lib.hid ht
  clear hb ht
  go_enter Tryd.func5, Tryd.ntmps5
  go_wp2_with fail
  refine (speaks_any _ HT.out).mono ?_
  rintro e w1 ⟨rfl, k1⟩
  have K1 := Lib.hid k1
  clear k1
  go_wp2_with fail
  refine (clone_any A c b _ w1 (HB.out.still K1.out) (by omega)).mono ?_
  rintro e w2 ⟨A2, c2, rfl, h2, k2⟩
  have K2 := Lib.hid (K1.out.trans k2)
  have O2 := Lib.hid h2
  obtain ⟨A2', c2', e2, hc2a, hc2b, _⟩ := Own.form h2
  injection e2 with e2a e2b e2c
  subst e2a e2c
  unfold maxLen at hc2b
  have H2 : Hid (RB w2 (· < w2.heap.size) A2 b) := Lib.hid (RB.mono (Own.rd h2) fun _ h _ => h)
  have LA : Hid (∀ k, ownS (.slice A2 b.length c2) k → w1.heap.size ≤ k ∧ k < w2.heap.size) := Lib.hid fun k hk => ⟨h2.2 k hk, Own.lt h2 k hk⟩
  clear k2 h2 e2b
  generalize hU : unwrapP b = r
  have HU := Lib.hid hU
  clear hU
  go_wp2_with fail
  refine (unwrap_any A2 c2 b _ w2 H2.out hc2a (by omega) (HT.out.keep K2.out (fun q => q))).mono ?_
  rintro e w3 ⟨A3, c3, rfl, h3, k3⟩
  rw [HU.out] at h3 ⊢
  have O3 := Lib.hid h3
  have K3 := Lib.hid (K2.out.trans k3)
  have K23 := Lib.hid k3
  clear h3 k3
  go_wp2_with fail
  refine (refUnwrap_any A c b _ w3 (HB.out.still K3.out) hc (by omega)).mono ?_
  rintro e w4 ⟨A4, c4, rfl, h4, k4⟩
  rw [HU.out] at h4 ⊢
  have O4 := Lib.hid h4
  have K4 := Lib.hid (K3.out.trans k4)
  have O34 := Lib.hid (Own.keep O3.out k4 (fun _ _ _ q => q.elim))
  have O24 := Lib.hid (Own.keep (Own.keep O2.out K23.out (fun _ _ _ q => q.elim)) k4 (fun _ _ _ q => q.elim))
  have S34 : Hid (w3.heap.size ≤ w4.heap.size) := Lib.hid k4.size
  have S23 : Hid (w2.heap.size ≤ w3.heap.size) := Lib.hid K23.out.size
  clear h4 k4 O3 O2 H2
  obtain ⟨d, n, x⟩ := r
  have q1 : ((x : Int) != (x : Int)) = false := by simp
  have q2 : ((n : Int) != (n : Int)) = false := by simp
  go_wp2_with fail
  refine (same_any A3 A4 c3 c4 d d _ _ w4 (Own.rd O34.out) (Own.rd O4.out)).mono ?_
  rintro e w5 ⟨rfl, rfl⟩
  rw [beq_self_eq_true d]
  go_wp2_with fail
  refine (same_any A2 A c2 c b b _ _ w4 (Own.rd O24.out) (HB.out.still K4.out)).mono ?_
  rintro e w5 ⟨rfl, rfl⟩
  rw [beq_self_eq_true b]
  go_wp2
  go_loopw [10, 49] (fun _ i wr => ∃ (j : Nat) (bs : List UInt8), j ≤ b.length ∧ i = .int .i64 j ∧ OB wr (w1.heap.size ≤ ·) (.slice A2 b.length c2) bs ∧ Kept (ownS (.slice A2 b.length c2)) w4 wr) (fun _ i _ => b.length - (intOf i).toNat)
  case atStart => exact ⟨0, b, Nat.zero_le _, rfl, O24.out, Kept.refl _ _⟩
  case round =>
    obtain ⟨j, bs, hj, rfl, hob, hkept⟩ := hrel
    obtain ⟨hbl, _⟩ := OB.rb hob
    have HBL := Lib.hid hbl
    have HO := Lib.hid hob
    have HK := Lib.hid hkept
    clear hob hkept hbl
    by_cases hlt : j < b.length
    · obtain ⟨g, rfl, hg, hc, hf, hst⟩ := OB.store HO.out (show j < bs.length by rw [← HBL.out]; exact hlt) 238
      have HS := Lib.hid hst
      clear hst
      go_wp2
      go_roundw
      case rel => exact ⟨j + 1, bs.set j 238, by omega, by go_num, HS.out, HK.out.setCell (p := ⟨g, j, none⟩) (fun _ => rfl) _⟩
      case measure => simp [intOf]; omega
    · have D1 : Hid (RB wr (w2.heap.size ≤ ·) A3 d) := Lib.hid (Rd.keep (Own.rd O34.out) HK.out (fun k _ h1 h2 => by have := LA.out k h2; omega))
      have D2 : Hid (RB wr (w3.heap.size ≤ ·) A4 d) := Lib.hid (Rd.keep (Own.rd O4.out) HK.out (fun k _ h1 h2 => by have := LA.out k h2; have := S23.out; omega))
      go_wp2_with fail
      refine (same_any A3 A4 c3 c4 d d _ _ wr D1.out D2.out).mono ?_
      rintro e w6 ⟨rfl, rfl⟩
      rw [beq_self_eq_true d]
      go_wp2
      go_ret
      exact ⟨rfl, (K4.out.trans2 HK.out (S := noneS) (fun i hi h => by have := LA.out i h; have := K1.out.size; exact absurd hi (by omega))).still⟩

end Go.Proofs.YtlfdpkgggoafaaaDoor
