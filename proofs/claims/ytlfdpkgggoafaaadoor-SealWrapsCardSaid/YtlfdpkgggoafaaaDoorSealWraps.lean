/-
  The walk of SealWraps.
-/
import Derived.Test.YtlfdpkgggoafaaaDoorRef02
namespace Go.Proofs.YtlfdpkgggoafaaaDoor
open Go.RowKit

set_option maxHeartbeats 400000 in
theorem sealWraps_long (A : Option Addr) (c : Nat) (d : List UInt8) (w : World) (hb : RB w (· < w.heap.size) A d) (hn : d.length ≤ 140737488351232) (hl : 1048576 < d.length) (ht : Tab w) :
    Calls Tryd.prog 4 #[.slice A d.length c] w fun e w' => e = .returned (.bool true) ∧ Below w.heap.size w w' := by
  have HB := Lib.hid hb
  have HT := Lib.hid ht
  clear hb ht
  go_enter Tryd.func4, Tryd.ntmps4
  go_wp2_with fail
  refine (speaks_any _ HT.out).mono ?_
  rintro e w1 ⟨rfl, k1⟩
  have K1 := Lib.hid k1
  clear k1
  go_wp2_with fail
  refine (clone_any A c d _ w1 (HB.out.still K1.out) (by omega)).mono ?_
  rintro e w2 ⟨A2, c2, rfl, h2, k2⟩
  have K2 := Lib.hid (K1.out.trans k2)
  have H2 := Lib.hid (Own.rd h2)
  clear k2 h2
  go_wp2_with fail
  refine (wrap_long A2 c2 d w2 hl).mono ?_
  rintro e w3 ⟨rfl, rfl⟩
  go_wp2_with fail
  refine (wrap_long A2 c2 d w2 hl).mono ?_
  rintro e w3 ⟨rfl, rfl⟩
  go_wp2_with fail
  refine (refWrap_long A c d w2 hl).mono ?_
  rintro e w3 ⟨A3, c3, rfl, h3, k3⟩
  have K3 := Lib.hid (K2.out.trans k3)
  have H3 := Lib.hid (Own.rd h3)
  have H4 := Lib.hid (RB.still H2.out k3)
  clear k3 h3
  go_wp2
  refine wp_loop_rounds 1 ?_
  rw [rounds_succ]
  go_wp2_with fail
  refine (same_any none A3 0 c3 [] [] noneS _ w3 (RB.nil _ _ _) H3.out).mono ?_
  rintro e w4 ⟨rfl, rfl⟩
  rw [beq_self_eq_true ([] : List UInt8)]
  go_wp2_with fail
  refine (same_any A2 A c2 c d d _ _ w3 H4.out (HB.out.still K3.out)).mono ?_
  rintro e w4 ⟨rfl, rfl⟩
  rw [beq_self_eq_true d]
  go_wp2
  go_ret
  exact ⟨rfl, K3.out.still⟩

set_option maxHeartbeats 400000 in
theorem sealWraps_ok (A : Option Addr) (c : Nat) (d : List UInt8) (w : World) (hb : RB w (· < w.heap.size) A d) (hl : d.length ≤ 1048576) (ht : Tab w) :
    Calls Tryd.prog 4 #[.slice A d.length c] w fun e w' => e = .returned (.bool true) ∧ Below w.heap.size w w' := by
  have HB := Lib.hid hb
  have HT := Lib.hid ht
  clear hb ht
  go_enter Tryd.func4, Tryd.ntmps4
  go_wp2_with fail
  refine (speaks_any _ HT.out).mono ?_
  rintro e w1 ⟨rfl, k1⟩
  have K1 := Lib.hid k1
  clear k1
  go_wp2_with fail
  refine (clone_any A c d _ w1 (HB.out.still K1.out) (by omega)).mono ?_
  rintro e w2 ⟨A2, c2, rfl, h2, k2⟩
  have K2 := Lib.hid (K1.out.trans k2)
  have H2 : Hid (RB w2 (· < w2.heap.size) A2 d) := Lib.hid (RB.mono (Own.rd h2) fun _ h _ => h)
  clear k2 h2
  have HL := Lib.hid (sealRec_length d)
  have hL : (sealRec d).length ≤ 1048584 := by rw [HL.out]; omega
  generalize hR : sealRec d = R at hL HL
  have HR := Lib.hid hR
  clear hR
  go_wp2_with fail
  refine (wrap_ok A2 c2 d _ w2 H2.out hl (HT.out.keep K2.out (fun q => q))).mono ?_
  rintro e w3 ⟨v, rfl, h3, k3⟩
  rw [HR.out] at h3
  obtain ⟨A3, c3, rfl, _⟩ := Own.form h3
  have H3 := Lib.hid h3
  have LA : Hid (∀ k, ownS (.slice A3 R.length c3) k → w2.heap.size ≤ k ∧ k < w3.heap.size) := Lib.hid fun k hk => ⟨h3.2 k hk, Own.lt h3 k hk⟩
  have K3 := Lib.hid (K2.out.trans k3)
  have H23 := Lib.hid (RB.still H2.out k3)
  clear k3 h3
  go_wp2_with fail
  refine (wrap_ok A2 c2 d _ w3 H23.out hl (HT.out.keep K3.out (fun q => q))).mono ?_
  rintro e w4 ⟨v, rfl, h4, k4⟩
  rw [HR.out] at h4
  obtain ⟨A4, c4, rfl, _⟩ := Own.form h4
  have H4 := Lib.hid h4
  have S4 : Hid (w3.heap.size ≤ w4.heap.size) := Lib.hid k4.size
  have K4 := Lib.hid (K3.out.trans k4)
  have H24 := Lib.hid (RB.still H23.out k4)
  have H34 := Lib.hid (Own.keep H3.out k4 (fun _ _ _ q => q.elim))
  clear k4 h4 H3
  go_wp2_with fail
  refine (refWrap_ok A c d _ w4 (HB.out.still K4.out) hl).mono ?_
  rintro e w5 ⟨A5, c5, rfl, h5, k5⟩
  rw [HR.out] at h5 ⊢
  have H5 := Lib.hid h5
  have K5 := Lib.hid (K4.out.trans k5)
  have H25 := Lib.hid (RB.still H24.out k5)
  have H35 := Lib.hid (Own.keep H34.out k5 (fun _ _ _ q => q.elim))
  have H45 := Lib.hid (Own.keep H4.out k5 (fun _ _ _ q => q.elim))
  clear k5 h5 H34 H4 H24 H23 H2
  go_wp2
  go_loopw [10, 32] (fun _ i wr => ∃ (j : Nat) (bs : List UInt8), j ≤ R.length ∧ i = .int .i64 j ∧ OB wr (w2.heap.size ≤ ·) (.slice A3 R.length c3) bs ∧ Kept (ownS (.slice A3 R.length c3)) w5 wr) (fun _ i _ => R.length - (intOf i).toNat)
  case atStart => exact ⟨0, R, Nat.zero_le _, rfl, H35.out, Kept.refl _ _⟩
  case round =>
    obtain ⟨j, bs, hj, rfl, hob, hkept⟩ := hrel
    obtain ⟨hbl, _⟩ := OB.rb hob
    have HBL := Lib.hid hbl
    have HO := Lib.hid hob
    have HK := Lib.hid hkept
    clear hob hkept hbl
    by_cases hlt : j < R.length
    · obtain ⟨g, rfl, hg, hc, hf, hst⟩ := OB.store HO.out (show j < bs.length by rw [← HBL.out]; exact hlt) 238
      have HS := Lib.hid hst
      clear hst
      go_wp2
      go_roundw
      case rel => exact ⟨j + 1, bs.set j 238, by omega, by go_num, HS.out, HK.out.setCell (p := ⟨g, j, none⟩) (fun _ => rfl) _⟩
      case measure => simp [intOf]; omega
    · have D1 : Hid (RB wr (w3.heap.size ≤ ·) A4 R) := Lib.hid (Rd.keep (Own.rd H45.out) HK.out (fun k _ h1 h2 => by have := LA.out k h2; omega))
      have D2 : Hid (RB wr (w4.heap.size ≤ ·) A5 R) := Lib.hid (Rd.keep (Own.rd H5.out) HK.out (fun k _ h1 h2 => by have := LA.out k h2; have := S4.out; omega))
      have D3 : Hid (RB wr (· < w2.heap.size) A2 d) := Lib.hid (Rd.keep H25.out HK.out (fun k _ h1 h2 => by have := LA.out k h2; omega))
      have D4 : Hid (RB wr (· < w.heap.size) A d) := Lib.hid (Rd.keep (HB.out.still K5.out) HK.out (fun k _ h1 h2 => by have := LA.out k h2; have := K2.out.size; omega))
      go_wp2_with fail
      refine (same_any A4 A5 c4 c5 R R _ _ wr D1.out D2.out).mono ?_
      rintro e w6 ⟨rfl, rfl⟩
      rw [beq_self_eq_true R]
      go_wp2_with fail
      refine (same_any A2 A c2 c d d _ _ wr D3.out D4.out).mono ?_
      rintro e w6 ⟨rfl, rfl⟩
      rw [beq_self_eq_true d]
      go_wp2
      go_ret
      exact ⟨rfl, (K5.out.trans2 HK.out (S := noneS) (fun i hi h => by have := LA.out i h; have := K2.out.size; exact absurd hi (by omega))).still⟩

end Go.Proofs.YtlfdpkgggoafaaaDoor
