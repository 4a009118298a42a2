/-
  ftable.Check, ftable.Get.
-/
import Derived.Test.YtdhaojicphhikaaTCheckV
import Derived.Test.YtdhaojicphhikaaTFind
import Derived.Test.YtdhaojicphhikaaTCopyV
namespace Go.Proofs.Ytdhaojicphhikaa
open Go.RowKit

/-- ftable.Check. -/
theorem ftCheck (t : List FF) (A : Option Addr) (c : Nat) (F : Nat → Prop) (w : World) (h : TAt w F A t) (hl : t.length * 96 ≤ 140737488351232) :
    Calls Try.prog 14 #[.slice A t.length c] w fun e w' => e = .returned (.int .i64 (errT t 1)) ∧ Kept noneS w w' := by
  have HT := Lib.hid h
  clear h
  obtain ⟨r, HR⟩ : ∃ r, Hid (errT t 1 = r) := ⟨_, Lib.hid rfl⟩
  rw [HR.out]
  go_enter Try.func14, Try.ntmps14
  go_wp2_with fail
  refine (ckT t (fun f _ => ckv f.val) A c 1 F w HT.out hl (by decide) (by decide)).mono ?_
  rw [HR.out]
  rintro e w1 ⟨rfl, k1⟩
  have K1 := Lib.hid k1
  clear k1
  go_wp2
  go_ret
  exact ⟨rfl, K1.out⟩

end Go.Proofs.Ytdhaojicphhikaa
