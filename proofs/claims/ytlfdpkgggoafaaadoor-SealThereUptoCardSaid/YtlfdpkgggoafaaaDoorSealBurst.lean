/-
  The walk of SealBurst.
-/
import Derived.Test.YtlfdpkgggoafaaaDoorBurst
namespace Go.Proofs.YtlfdpkgggoafaaaDoor
open Go.RowKit

theorem u8_xor_ne (a t : UInt8) (ht : (t.toNat : Int) ≠ 0) : UInt8.ofNat (a.toNat ^^^ t.toNat) ≠ a := by
  intro h
  have h1 := congrArg UInt8.toNat h
  have h2 : a.toNat ^^^ t.toNat < 256 := Nat.xor_lt_two_pow (n := 8) a.toNat_lt t.toNat_lt
  rw [UInt8.toNat_ofNat', Nat.mod_eq_of_lt (by simpa using h2)] at h1
  have h3 : t.toNat = 0 := by
    have := congrArg (fun x => a.toNat ^^^ x) h1
    simpa [← Nat.xor_assoc] using this
  omega

theorem unwrap' (A : Option Addr) (c n : Nat) (b : List UInt8) (F : Nat → Prop) (w : World) (hr : RB w F A b) (hl : b.length = n) (hc : n ≤ c) (hc2 : c ≤ 9223372036854775807) (ht : Tab w) :
    Calls Tryd.prog 16 #[.slice A n c] w (UnwrapPost w (unwrapP b)) := by
  subst hl
  exact unwrap_any A c b F w hr hc hc2 ht

set_option maxHeartbeats 800000 in
theorem sealBurst_long (A : Option Addr) (c : Nat) (d : List UInt8) (at_ : Int) (t : UInt8) (w : World) (hb : RB w (· < w.heap.size) A d) (hn : d.length ≤ 140737488351232) (hl : 1048576 < d.length) (ht : Tab w) :
    Calls Tryd.prog 6 #[.slice A d.length c, .int .i64 at_, .int .u8 (t.toNat : Int)] w fun e w' => e = .returned (.bool true) ∧ Below w.heap.size w w' := by
  have HB := Lib.hid hb
  have HT := Lib.hid ht
  clear hb ht
  go_enter Tryd.func6, Tryd.ntmps6
  go_wp2_with fail
  refine (speaks_any _ HT.out).mono ?_
  rintro e w1 ⟨rfl, k1⟩
  have K1 := Lib.hid k1
  clear k1
  go_wp2_with fail
  refine (clone_any A c d _ w1 (HB.out.still K1.out) (by omega)).mono ?_
  rintro e w2 ⟨A2, c2, rfl, h2, k2⟩
  have K2 := Lib.hid (K1.out.trans k2)
  clear k2 h2
  go_wp2_with fail
  refine (wrap_long A2 c2 d w2 hl).mono ?_
  rintro e w3 ⟨rfl, rfl⟩
  go_wp2
  go_ret
  exact ⟨rfl, K2.out.still⟩

set_option maxHeartbeats 800000 in
theorem sealBurst_ok (A : Option Addr) (c : Nat) (d : List UInt8) (at_ : Int) (t : UInt8) (w : World) (hb : RB w (· < w.heap.size) A d) (hl : d.length ≤ 1048576) (ht : Tab w) :
    Calls Tryd.prog 6 #[.slice A d.length c, .int .i64 at_, .int .u8 (t.toNat : Int)] w fun e w' => e = .returned (.bool true) ∧ Below w.heap.size w w' := by
  have HB := Lib.hid hb
  have HT := Lib.hid ht
  clear hb ht
  go_enter Tryd.func6, Tryd.ntmps6
  go_wp2_with fail
  refine (speaks_any _ HT.out).mono ?_
  rintro e w1 ⟨rfl, k1⟩
  have K1 := Lib.hid k1
  clear k1
  go_wp2_with fail
  refine (clone_any A c d _ w1 (HB.out.still K1.out) (by omega)).mono ?_
  rintro e w2 ⟨A2, c2, rfl, h2, k2⟩
  have K2 := Lib.hid (K1.out.trans k2)
  have H2 := Lib.hid (Own.rd h2)
  clear k2 h2
  go_wp2_with fail
  refine (wrap_ok A2 c2 d _ w2 H2.out hl (HT.out.keep K2.out (fun q => q))).mono ?_
  rintro e w3 ⟨v, rfl, h3, k3⟩
  have HBu := Lib.hid (burst d hl)
  have hL : (sealRec d).length ≤ 1048584 := by rw [sealRec_length]; omega
  generalize sealRec d = R at h3 HBu hL
  obtain ⟨A3, c3, rfl, hc3, hc3b, _⟩ := Own.form h3
  have O3 := Lib.hid h3
  have K3 := Lib.hid (K2.out.trans k3)
  have K23 := Lib.hid k3.size
  clear h3 k3
  unfold maxLen at hc3b
  by_cases g1 : at_ < 0
  · have d1 : decide (at_ < 0) = true := by simpa using g1
    go_wp2
    go_ret
    exact ⟨rfl, K3.out.still⟩
  have d1 : decide (at_ < 0) = false := by simpa using g1
  obtain ⟨j, rfl⟩ := Int.eq_ofNat_of_zero_le (show 0 ≤ at_ by omega)
  by_cases g2 : R.length ≤ j
  · have d2 : decide (R.length ≤ j) = true := by simpa using g2
    go_wp2
    go_ret
    exact ⟨rfl, K3.out.still⟩
  have d2 : decide (R.length ≤ j) = false := by simpa using g2
  by_cases g3 : (t.toNat : Int) = 0
  · have d3 : ((t.toNat : Int) == 0) = true := by simpa using g3
    clear g3
    go_wp2
    go_ret
    exact ⟨rfl, K3.out.still⟩
  have d3 : ((t.toNat : Int) == 0) = false := by simpa using g3
  by_cases g4 : (j : Int) < 4
  · have d4 : decide ((j : Int) < 4) = true := by simpa using g4
    go_wp2
    go_ret
    exact ⟨rfl, K3.out.still⟩
  have d4 : decide ((j : Int) < 4) = false := by simpa using g4
  have hj : j < R.length := by omega
  have HX := Lib.hid (u8_xor_ne R[j] t g3)
  have HBj := Lib.hid (HBu.out j (by omega) hj (UInt8.ofNat (R[j].toNat ^^^ t.toNat)) HX.out)
  obtain ⟨g, rfl, hg, hc, hf, hst⟩ := OB.store O3.out hj (UInt8.ofNat (R[j].toNat ^^^ t.toNat))
  have hx2 : R[j].toNat ^^^ t.toNat < 256 := Nat.xor_lt_two_pow (n := 8) R[j].toNat_lt t.toNat_lt
  have HV : Hid ((UInt8.ofNat (R[j].toNat ^^^ t.toNat)).toNat = R[j].toNat ^^^ t.toNat) := Lib.hid (by rw [UInt8.toNat_ofNat', Nat.mod_eq_of_lt (by simpa using hx2)])
  have hxor : bits .xor .u8 (R[j].toNat : Int) (t.toNat : Int) = ((R[j].toNat ^^^ t.toNat : Nat) : Int) := u8_xor_nat _ _ R[j].toNat_lt t.toNat_lt
  rw [HV.out] at hst
  have HS := Lib.hid hst
  clear hst HX HBu HV g3
  generalize hY : R.set j (UInt8.ofNat (R[j].toNat ^^^ t.toNat)) = Y at HBj HS
  have HYl : Hid (Y.length = R.length) := Lib.hid (by rw [← hY, List.length_set])
  clear hY
  generalize R[j].toNat ^^^ t.toNat = X at hxor hx2 HS
  generalize R[j].toNat = rj at hc hxor
  generalize t.toNat = tn at d3 hxor ⊢
  have HR := Lib.hid (OB.rb HS.out)
  have KS := Lib.hid (show Kept (· = g) w3 (w3.setCell ⟨g, j, none⟩ (.int .u8 (X : Int))) from (Kept.refl (· = g) w3).setCell (p := ⟨g, j, none⟩) (fun _ => rfl) _)
  go_wp2_with fail
  refine (unwrap' (some ⟨g, 0, none⟩) c3 R.length Y _ _ HR.out.2 HYl.out hc3 (by omega) ((HT.out.keep K3.out (fun q => q)).keep KS.out (fun q => by have := HT.out.pos; have := K2.out.size; omega))).mono ?_
  rintro e w5 ⟨A5, c5, rfl, h5, k5⟩
  rw [HBj.out]
  have K5 := Lib.hid (K3.out.trans2 (S := noneS) (KS.out.trans2 (S := (· = g)) k5 (fun _ _ q => q.elim)) (fun i hi h => by have := K2.out.size; exact absurd hi (by omega)))
  clear h5 k5
  go_wp2
  go_ret
  exact ⟨rfl, K5.out.still⟩

end Go.Proofs.YtlfdpkgggoafaaaDoor
