/-
  The walk of OctetNames.
-/
import Derived.Test.YtepligggofbegaaOctL
namespace Go.Proofs.Ytepligggofbegaa
open Go.RowKit

theorem octetNames_walk (w : World) : Calls Try.prog 3 #[] w fun e w' => e = .returned (.bool true) ∧ Kept noneS w w' := by
  go_enter Try.func3, Try.ntmps3
  go_wp2_with fail
  refine (speaks_any w).mono ?_
  rintro e w1 ⟨rfl, k1⟩
  have K1 := Lib.hid k1
  clear k1
  go_wp2
  go_ret
  exact ⟨rfl, K1.out⟩

end Go.Proofs.Ytepligggofbegaa
