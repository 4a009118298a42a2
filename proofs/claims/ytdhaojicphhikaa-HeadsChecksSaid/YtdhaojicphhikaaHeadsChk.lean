/-
  HeadsChecks: the walk.
-/
import Derived.Test.YtdhaojicphhikaaHeadsS
import Derived.Test.YtdhaojicphhikaaHeadsR
namespace Go.Proofs.Ytdhaojicphhikaa
open Go.RowKit

/-- HeadsChecks. -/
theorem headsChecks (t : List FF) (A : Option Addr) (c : Nat) (w : World) (h : TAt w (· < w.heap.size) A t) (hl : t.length * 96 ≤ 140737488351232) :
    Calls Try.prog 3 #[.slice A t.length c] w fun e w' => e = .returned (.bool true) ∧ Kept noneS w w' := by
  have HT := Lib.hid h
  clear h
  go_enter Try.func3, Try.ntmps3
  go_wp2_with fail
  refine (speaks8 _).mono ?_
  rintro e w1 ⟨rfl, k1⟩
  have K1 := Lib.hid k1
  have HT1 := Lib.hid (HT.out.still k1)
  clear k1
  go_wp2_with fail
  refine (refCopy t A c _ w1 HT1.out hl).mono ?_
  rintro e w2 ⟨A2, c2, rfl, to2, k2⟩
  have K2 := Lib.hid (K1.out.trans k2)
  have HT2 := Lib.hid (HT1.out.still k2)
  have HC2 := Lib.hid to2.at'.1
  clear k2 to2 HT1 K1
  go_wp2_with fail
  refine (headsCheck t A2 c2 _ w2 HC2.out hl).mono ?_
  rintro e w3 ⟨rfl, k3⟩
  have K3 := Lib.hid (K2.out.trans k3)
  have HT3 := Lib.hid (HT2.out.still k3)
  have HC3 := Lib.hid (HC2.out.still k3)
  clear k3 HT2 HC2 K2
  go_wp2_with fail
  refine (refCheck8 t A c _ w3 HT3.out hl).mono ?_
  rintro e w4 ⟨rfl, k4⟩
  have K4 := Lib.hid (K3.out.trans k4)
  have HT4 := Lib.hid (HT3.out.still k4)
  have HC4 := Lib.hid (HC3.out.still k4)
  clear k4 HT3 HC3 K3
  generalize chkH t = r
  go_wp2_with fail
  refine (refSameT t (fun f _ => rsv f.val) t A2 A c2 c _ _ w4 HC4.out HT4.out hl hl).mono ?_
  rw [sameFs_refl]
  rintro e w5 ⟨rfl, k5⟩
  have K5 := Lib.hid (K4.out.trans k5)
  clear k5
  go_wp2_with fail
  go_ret
  exact ⟨rfl, K5.out⟩

end Go.Proofs.Ytdhaojicphhikaa
