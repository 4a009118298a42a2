/-
  The walk of DiskNames.
-/
import Derived.Test.YtnlmkfncdklcdaaDkSpeaks
namespace Go.Proofs.Ytnlmkfncdklcdaa
open Go.RowKit

theorem diskNames_walk (s : ByteArray) (w : World) (hs : s.size ≤ 140737488351232) : Calls Try.prog 3 #[.string s] w fun e w' => e = .returned (.bool true) ∧ Kept noneS w w' := by
  go_enter Try.func3, Try.ntmps3
  go_wp2_with fail
  refine (speaks11 w).mono ?_
  rintro e w1 ⟨rfl, k1⟩
  have K1 := Lib.hid k1
  clear k1
  go_wp2_with fail
  refine (goodName s w1 hs).mono ?_
  rintro e w2 ⟨rfl, k2⟩
  have K2 := Lib.hid (K1.out.trans k2)
  clear k2 K1
  go_wp2_with fail
  refine (refGood s w2 hs).mono ?_
  rintro e w3 ⟨rfl, rfl⟩
  go_wp2
  go_ret
  exact ⟨rfl, K2.out⟩

end Go.Proofs.Ytnlmkfncdklcdaa
