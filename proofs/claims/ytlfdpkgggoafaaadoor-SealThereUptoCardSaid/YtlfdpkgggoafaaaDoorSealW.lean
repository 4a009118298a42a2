/-
  The contract of seal.Wrap.
-/
import Derived.Test.YtlfdpkgggoafaaaDoorOver
import Derived.Test.YtlfdpkgggoafaaaDoorOctW
namespace Go.Proofs.YtlfdpkgggoafaaaDoor
open Go.RowKit

/-- The record of octets. -/
def sealRec (d : List UInt8) : List UInt8 := be 4 d.length ++ be 4 (Crc.sum (be 4 d.length ++ d)) ++ d
theorem sealRec_length (d : List UInt8) : (sealRec d).length = d.length + 8 := by simp [sealRec, be_length]; omega

set_option maxHeartbeats 400000 in
theorem wrap_long (A : Option Addr) (c : Nat) (d : List UInt8) (w : World) (hn : 1048576 < d.length) :
    Calls Tryd.prog 14 #[.slice A d.length c] w fun e w' => e = .returned (.tuple #[.slice none 0 0, .int .i64 1]) ∧ w = w' := by
  go_enter Tryd.func14, Tryd.ntmps14
  go_wp2
  go_ret2
  exact ⟨rfl, rfl⟩

set_option maxHeartbeats 400000 in
theorem wrap_ok (A : Option Addr) (c : Nat) (d : List UInt8) (G : Nat → Prop) (w : World) (hd : RB w G A d) (hn : d.length ≤ 1048576) (ht : Tab w) :
    Calls Tryd.prog 14 #[.slice A d.length c] w fun e w' => ∃ v, e = .returned (.tuple #[v, .int .i64 0]) ∧ OB w' (w.heap.size ≤ ·) v (sealRec d) ∧ Kept noneS w w' := by
  have HD := Lib.hid (hd.mono (G := (· < w.heap.size)) fun _ h _ => h)
  have HT := Lib.hid ht
  clear hd ht
  go_enter Tryd.func14, Tryd.ntmps14
  go_wp2_with fail
  refine (newWriter _).mono ?_
  rintro e w1 ⟨rfl, h1, k1⟩
  have H1 := Lib.hid h1
  have K1 := Lib.hid k1
  clear h1 k1
  go_wp2_with fail
  refine (wLong (d.length : Int) w1 _ w.heap.size [] 0 H1.out (fun j hj => Nat.le_trans K1.out.size hj) (by simp) (by omega) (by omega)).mono ?_
  rintro e w2 ⟨rfl, h2, k2⟩
  simp only [List.nil_append] at h2
  have H2 := Lib.hid h2
  have K2 := Lib.hid (K1.out.trans2 k2 (fun i hi h => absurd hi (Nat.not_lt.2 h)))
  clear h2 k2
  go_wp2_with fail
  refine (wBytes w2 _ w.heap.size _ 0 H2.out (by simp [be_length])).mono ?_
  rintro e w3 ⟨v, rfl, h3, k3⟩
  obtain ⟨A3, c3, rfl, _⟩ := Own.form h3
  have hl4 : (be 4 (d.length : Int)).length = 4 := be_length _ _
  have R3 := Lib.hid (Own.rd h3)
  have K3 := Lib.hid (K2.out.trans k3)
  clear h3 
  go_wp2_with fail
  refine (over_any 4294967295 (by decide) A3 c3 (be 4 (d.length : Int)) _ w3 R3.out (by rw [hl4]; decide) (HT.out.keep K3.out (fun q => q))).mono ?_
  rintro e w3 ⟨rfl, rfl⟩
  have ho := Crc.over_lt (be 4 (d.length : Int)) (s := 4294967295) (by decide)
  have D3 := Lib.hid (HD.out.still K3.out)
  go_wp2_with fail
  refine (over_any (Crc.over 4294967295 (be 4 (d.length : Int))) ho A c d _ w3 D3.out (by omega) (HT.out.keep K3.out (fun q => q))).mono ?_
  rintro e w3 ⟨rfl, rfl⟩
  rw [← Crc.over_append]
  have hx : bits .xor .u32 (Crc.over 4294967295 (be 4 (d.length : Int) ++ d) : Int) 4294967295 = (Crc.sum (be 4 (d.length : Int) ++ d) : Int) := u32_xor_nat _ 4294967295 (Crc.over_lt _ (by decide)) (by decide)
  have hs : Crc.sum (be 4 (d.length : Int) ++ d) < 4294967296 := Crc.xor_lt (Crc.over_lt _ (by decide)) (by decide)
  generalize hS : Crc.sum (be 4 (d.length : Int) ++ d) = S at hx hs
  have HS := Lib.hid hS
  clear hS
  have H3 := Lib.hid (WrAt.still H2.out k3)
  clear k3
  go_wp2_with fail
  refine (wLong (S : Int) w3 _ w.heap.size _ 0 H3.out (fun j hj => Nat.le_trans K3.out.size hj) (by rw [hl4]; decide) (by omega) (by omega)).mono ?_
  rintro e w4 ⟨rfl, h4, k4⟩
  have H4 := Lib.hid h4
  have K4 := Lib.hid (K3.out.trans2 k4 (fun i hi h => absurd hi (Nat.not_lt.2 h)))
  have D4 := Lib.hid (HD.out.still K4.out)
  clear h4 k4
  go_wp2_with fail
  refine (wRaw A c d _ w4 _ w.heap.size _ 0 H4.out (fun j hj => Nat.le_trans K4.out.size hj) D4.out (fun k h1 h2 => Nat.not_lt.2 h1 h2) (by simp [be_length]; omega)).mono ?_
  rintro e w5 ⟨rfl, h5, k5⟩
  have H5 := Lib.hid h5
  have K5 := Lib.hid (K4.out.trans2 k5 (fun i hi h => absurd hi (Nat.not_lt.2 h)))
  clear h5 k5
  go_wp2_with fail
  refine (wBytes w5 _ w.heap.size _ 0 H5.out (by simp [be_length]; omega)).mono ?_
  rintro e w6 ⟨v, rfl, h6, k6⟩
  have H6 := Lib.hid h6
  have K6 := Lib.hid (K5.out.trans k6)
  clear h6 k6
  go_wp2
  go_ret2
  refine ⟨v, rfl, ?_, K6.out⟩
  rw [← HS.out] at H6
  exact H6.out.mono fun k _ h => Nat.le_trans K5.out.size h

end Go.Proofs.YtlfdpkgggoafaaaDoor
