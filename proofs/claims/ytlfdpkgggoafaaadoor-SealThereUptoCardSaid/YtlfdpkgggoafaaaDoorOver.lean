/-
  The walk of seal.over and seal.Sum.
-/
import Derived.Test.YtlfdpkgggoafaaaDoorRows
import Derived.Test.YtlfdpkgggoafaaaDoorByt
import Derived.Test.YtlfdpkgggoafaaaDoorCrc
namespace Go.Proofs.YtlfdpkgggoafaaaDoor
open Go.RowKit

/-- The table of nibbles as it lies. -/
def Tab (w : World) : Prop := ∀ i, i < 16 → w.cell? ⟨0, i, none⟩ = some (.int .u32 (Crc.nib i : Int))

theorem Tab.keep {w w' : World} {S : Nat → Prop} (h : Tab w) (hk : Kept S w w') (hS : ¬ S 0) : Tab w' := fun i hi =>
  (hk.cell (p := ⟨0, i, none⟩) (lt_of_cell (h i hi)) hS).trans (h i hi)
theorem Tab.pos {w : World} (h : Tab w) : 0 < w.heap.size := lt_of_cell (h 0 (by decide))

theorem xor_u32 (a b : Nat) (ha : a < 4294967296) (hb : b < 256) : bits .xor .u32 (a : Int) (b : Int) = ((a ^^^ b : Nat) : Int) := u32_xor_nat a b ha (by omega)
theorem and15_u32 (a : Nat) (ha : a < 4294967296) : bits .and .u32 (a : Int) 15 = ((a % 16 : Nat) : Int) := by
  rw [show (15 : Int) = ((15 : Nat) : Int) from rfl, u32_and_nat a 15 ha (by omega), nat_mask4]
theorem half_u32 (a : Nat) (ha : a < 4294967296) : bits .xor .u32 ((a : Int) / 16) ((Crc.nib (a % 16) : Nat) : Int) = ((Crc.half a : Nat) : Int) := by
  rw [show (a : Int) / 16 = ((a / 16 : Nat) : Int) by omega]
  exact u32_xor_nat (a / 16) _ (by omega) (Crc.nib_lt _)

set_option maxHeartbeats 400000 in
theorem over_any (s : Nat) (hs : s < 4294967296) (A : Option Addr) (c : Nat) (bs : List UInt8) (F : Nat → Prop) (w : World) (hb : RB w F A bs) (hn : bs.length ≤ 9223372036854775807) (ht : Tab w) :
    Calls Tryd.prog 21 #[.int .u32 (s : Int), .slice A bs.length c] w fun e w' => e = .returned (.int .u32 (Crc.over s bs : Int)) ∧ w = w' := by
  have HT := Lib.hid ht
  clear ht
  have HB := Lib.hid hb
  clear hb
  go_enter Tryd.func21, Tryd.ntmps21
  go_wp2
  go_loop [0, 9] (fun t i => ∃ k : Nat, k ≤ bs.length ∧ i = .int .i64 k ∧ t = .int .u32 (Crc.over s (bs.take k) : Nat)) (fun _ i => bs.length - (intOf i).toNat)
  case atStart => exact ⟨0, Nat.zero_le _, rfl, rfl⟩
  case round =>
    obtain ⟨k, hk, rfl, rfl⟩ := hrel
    by_cases hlt : k < bs.length
    · obtain ⟨g, o, rfl, _, hc⟩ := HB.out.at_ hlt
      have hs1 := Crc.over_lt (bs.take k) hs
      have HS := Lib.hid (Crc.over_take bs k hlt s)
      generalize Crc.over s (bs.take k) = S at hs1 HS ⊢
      have hc8 := bs[k].toNat_lt
      generalize bs[k].toNat = c8 at hc8 hc HS ⊢
      have b1 := xor_u32 S c8 hs1 hc8
      have l1 : S ^^^ c8 < 4294967296 := Crc.xor_lt hs1 (by omega)
      have e1 : Hid (Crc.one S c8 = Crc.half (Crc.half (S ^^^ c8))) := Lib.hid rfl
      generalize S ^^^ c8 = X at b1 l1 e1
      have b2 := and15_u32 X l1
      have t1 := HT.out (X % 16) (by omega)
      have b3 := half_u32 X l1
      have l2 := Crc.half_lt l1
      generalize Crc.half X = Y at b3 l2 e1
      have b4 := and15_u32 Y l2
      have t2 := HT.out (Y % 16) (by omega)
      have b5 := half_u32 Y l2
      go_wp2
      go_round
      case rel => exact ⟨k + 1, by omega, by go_num, by rw [HS.out, e1.out]⟩
      case measure => simp [intOf]; omega
    · go_wp2
      go_ret
      rw [List.take_of_length_le (by omega)]
      exact ⟨rfl, rfl⟩

theorem sum_any (A : Option Addr) (c : Nat) (bs : List UInt8) (F : Nat → Prop) (w : World) (hb : RB w F A bs) (hn : bs.length ≤ 9223372036854775807) (ht : Tab w) :
    Calls Tryd.prog 11 #[.slice A bs.length c] w fun e w' => e = .returned (.int .u32 (Crc.sum bs : Int)) ∧ w = w' := by
  have hl := Crc.over_lt bs (s := 4294967295) (by decide)
  have hx : bits .xor .u32 (Crc.over 4294967295 bs : Int) 4294967295 = (Crc.sum bs : Int) := u32_xor_nat (Crc.over 4294967295 bs) 4294967295 hl (by decide)
  have HT := Lib.hid ht
  clear ht
  have HB := Lib.hid hb
  clear hb
  go_enter Tryd.func11, Tryd.ntmps11
  go_wp2_with (go_at_call 21; refine (over_any 4294967295 (by decide) _ _ _ _ _ HB.out hn HT.out).mono ?_; rintro e w' ⟨rfl, rfl⟩)
  go_ret
  exact ⟨rfl, rfl⟩

end Go.Proofs.YtlfdpkgggoafaaaDoor
