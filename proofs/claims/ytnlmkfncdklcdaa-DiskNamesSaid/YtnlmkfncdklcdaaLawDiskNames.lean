/-
  warrenlaw11.DiskNames: whether any text may name a file is told exactly, for every text.
-/
import Derived.Test.YtnlmkfncdklcdaaDkNmW
import Derived.Test.YtnlmkfncdklcdaaDkArgs
import Derived.Test.YtnlmkfncdklcdaaLift
namespace Go.Proofs.Ytnlmkfncdklcdaa
open Go.ChangeShapes Go.WideShapes Go.ChangeAt Go.RowKit

namespace diskNames
theorem laid_met (os : Os) : laidMet Try.prog Rows.diskNamesRow.laid ((plainWorld os).forCall (fun _ _ => 0) ⟨#[], #[.string .empty], []⟩).memory :=
  laidMet_of_run' 8 (by kernel_rfl) (by kernel_rfl)
theorem reads (os : Os) {H : Type} (enc : TypeId × Value → H) : ∃ places, DataW.whole enc Try.prog ((plainWorld os).forCall (fun _ _ => 0) ⟨#[], #[.string .empty], []⟩).memory Try.f3.params.toList Rows.diskNamesSpec.vars false #[Value.string .empty].toList 8 = some ([.lit (.string [])], [], places) :=
  ⟨[], by kernel_rfl⟩

set_option maxRecDepth 100000 in
theorem lifted (os : Os) (started : os.Started) (H : Type) (enc : TypeId × Value → H) (F : Stop.Interp) :
    ReturnsInHanded {} Try.checked os 3 .any ((OpenSpec.ofChange Rows.diskNamesSpec).preRow enc Try.prog Try.f3 Rows.diskNamesRow.domain false Rows.diskNamesRow.laid) (((OpenSpec.ofChange Rows.diskNamesSpec).at F).post enc Try.prog Try.f3 false true false false) := by
  obtain ⟨places, hx⟩ := reads os enc
  refine lift started F 3 Try.f3 (OpenSpec.ofChange Rows.diskNamesSpec) Rows.diskNamesRow.laid Try.func3 (by kernel_rfl) (by kernel_rfl) (by kernel_rfl) ⟨rfl, rfl⟩ ?_
    (witness_row_at (enc := enc) (C := Try.checked) false (plainWorld os) #[.string .empty] rfl (by kernel_rfl) (by kernel_rfl) (by kernel_rfl)
      (OpenSpec.preRow_of_cond 8 hx (by kernel_rfl) (fun k hk => by cases hk) (by kernel_rfl) (laid_met os))) ?_
  · intro ds hl
    rw [Try.params3] at hl
    match ds, hl with
    | [d0], _ => exact ⟨rfl, rfl, rfl⟩
  · intro W base args ds ps hval hA hcond hsz hL
    rw [Try.params3] at hA hval hsz
    obtain ⟨v0, vs0, d0, ds0, p0, q0, hargs, rfl, rfl, h0, r0⟩ := trodAll_cons hA
    obtain ⟨rfl, rfl, rfl⟩ := trodAll_nil r0
    obtain rfl : args = #[v0] := by cases args; simp_all
    obtain ⟨s0, hsz⟩ := weights_head hsz
    obtain ⟨x0, rfl, hx0⟩ := open_str (hval 0 _ _ rfl rfl) h0 s0
    exact (diskNames_walk x0 W hx0).mono fun e W' ⟨he, hk⟩ => ⟨he, hk.still⟩

theorem said : Rows.DiskNamesSaid :=
  OpenClaim.holds_of_cond 3 Try.f3 rfl rfl rfl rfl rfl rfl rfl ⟨rfl, rfl, rfl, rfl, rfl⟩ rfl rfl rfl rfl rfl (by kernel_rfl) Try.func3 (by kernel_rfl)
    (of_decide_eq_true (by kernel_rfl)) (by unfold Func.isWrapper; first | (rw [if_pos (by decide +kernel)]; kernel_rfl) | (rw [if_neg (by decide +kernel)]; exact ⟨rfl, rfl⟩))
    (fun os started H enc _ F => by rw [OpenClaim.pre_eq_preRow]; exact lifted os started H enc F)

end diskNames

theorem diskNames_holds : Rows.DiskNamesSaid := diskNames.said

end Go.Proofs.Ytnlmkfncdklcdaa
