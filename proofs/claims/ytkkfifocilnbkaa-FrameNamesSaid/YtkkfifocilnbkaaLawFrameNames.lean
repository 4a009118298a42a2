/-
  FrameNames, for every input
-/
import Derived.Test.YtkkfifocilnbkaaSpeaks4
import Derived.Test.YtkkfifocilnbkaaLift
namespace Go.Proofs.Ytkkfifocilnbkaa
open Go.ChangeShapes Go.WideShapes Go.ChangeAt Go.RowKit

namespace frameNames
theorem laid_met (os : Os) : laidMet Try.prog Rows.frameNamesRow.laid ((plainWorld os).forCall (fun _ _ => 0) ⟨#[], #[], []⟩).memory :=
  laidMet_of_run' 8 (by kernel_rfl) (by kernel_rfl)
theorem reads (os : Os) {H : Type} (enc : TypeId × Value → H) : ∃ places, DataW.whole enc Try.prog ((plainWorld os).forCall (fun _ _ => 0) ⟨#[], #[], []⟩).memory Try.f3.params.toList Rows.frameNamesSpec.vars false #[].toList 8 = some ([], [], places) :=
  ⟨[], by kernel_rfl⟩

set_option maxRecDepth 100000 in
theorem lifted (os : Os) (started : os.Started) (H : Type) (enc : TypeId × Value → H) (F : Stop.Interp) :
    ReturnsInHanded {} Try.checked os 3 .any ((OpenSpec.ofChange Rows.frameNamesSpec).preRow enc Try.prog Try.f3 Rows.frameNamesRow.domain false Rows.frameNamesRow.laid) (((OpenSpec.ofChange Rows.frameNamesSpec).at F).post enc Try.prog Try.f3 false true false false) := by
  obtain ⟨places, hx⟩ := reads os enc
  refine lift started F 3 Try.f3 (OpenSpec.ofChange Rows.frameNamesSpec) Rows.frameNamesRow.laid Try.func3 (by kernel_rfl) (by kernel_rfl) (by kernel_rfl) ⟨rfl, rfl⟩ ?_
    (witness_row_at (enc := enc) (C := Try.checked) false (plainWorld os) #[] rfl (by kernel_rfl) (by kernel_rfl) (by kernel_rfl)
      (OpenSpec.preRow_of_cond 8 hx (by kernel_rfl) (fun k hk => by cases hk) (by kernel_rfl) (laid_met os))) ?_
  · intro ds hl
    rw [Try.params3] at hl
    match ds, hl with
    | [], _ => exact ⟨rfl, rfl, rfl⟩
  · intro W base args ds ps hval hA hcond hsz hL
    rw [Try.params3] at hA hval hsz
    obtain ⟨ha, rfl, rfl⟩ := trodAll_nil hA
    obtain rfl : args = #[] := by cases args; simp_all
    exact (frameNames_walk W).mono fun e w' ⟨h1, h2⟩ => ⟨h1, h2.still⟩

theorem said : Rows.FrameNamesSaid :=
  OpenClaim.holds_of_cond 3 Try.f3 rfl rfl rfl rfl rfl rfl rfl ⟨rfl, rfl, rfl, rfl, rfl⟩ rfl rfl rfl rfl rfl (by kernel_rfl) Try.func3 (by kernel_rfl)
    (of_decide_eq_true (by kernel_rfl)) (by unfold Func.isWrapper; first | (rw [if_pos (by decide +kernel)]; kernel_rfl) | (rw [if_neg (by decide +kernel)]; exact ⟨rfl, rfl⟩))
    (fun os started H enc _ F => by rw [OpenClaim.pre_eq_preRow]; exact lifted os started H enc F)

end frameNames

theorem frameNames_holds : Rows.FrameNamesSaid := frameNames.said

end Go.Proofs.Ytkkfifocilnbkaa
