/-
  OctetThere, where what it reads is of bulk at most 1048576
-/
import Derived.Test.YtepligggofbegaaOctThere
import Derived.Test.YtepligggofbegaaLift
namespace Go.Proofs.Ytepligggofbegaa
open Go.ChangeShapes Go.WideShapes Go.ChangeAt Go.RowKit

namespace octetThereUpto
theorem laid_met (os : Os) : laidMet Try.prog Rows.octetThereUptoRow.laid ((plainWorld os).forCall (fun _ _ => 0) ⟨#[], #[.slice none 0 0], []⟩).memory :=
  laidMet_of_run' 8 (by kernel_rfl) (by kernel_rfl)
theorem reads (os : Os) {H : Type} (enc : TypeId × Value → H) : ∃ places, DataW.whole enc Try.prog ((plainWorld os).forCall (fun _ _ => 0) ⟨#[], #[.slice none 0 0], []⟩).memory Try.f6.params.toList Rows.octetThereSpec.vars false #[Value.slice none 0 0].toList 8 = some ([.nil], [], places) :=
  ⟨[], by kernel_rfl⟩

set_option maxRecDepth 100000 in
theorem lifted (os : Os) (started : os.Started) (H : Type) (enc : TypeId × Value → H) (F : Stop.Interp) :
    ReturnsInHanded {} Try.checked os 6 .any ((Rows.OpenSpec.upto Rows.octetThereSpec).preRow enc Try.prog Try.f6 Rows.octetThereUptoRow.domain false Rows.octetThereUptoRow.laid) (((Rows.OpenSpec.upto Rows.octetThereSpec).at F).post enc Try.prog Try.f6 false true false false) := by
  obtain ⟨places, hx⟩ := reads os enc
  refine lift started F 6 Try.f6 (Rows.OpenSpec.upto Rows.octetThereSpec) Rows.octetThereUptoRow.laid Try.func6 (by kernel_rfl) (by kernel_rfl) (by kernel_rfl) ⟨rfl, rfl⟩ ?_
    (witness_row_at (enc := enc) (C := Try.checked) false (plainWorld os) #[.slice none 0 0] rfl (by kernel_rfl) (by kernel_rfl) (by kernel_rfl)
      (OpenSpec.preRow_of_cond 8 hx (by kernel_rfl) (fun k hk => by cases hk; kernel_rfl) (by kernel_rfl) (laid_met os))) ?_
  · intro ds hl
    rw [Try.params6] at hl
    match ds, hl with
    | [d0], _ => exact ⟨rfl, rfl, rfl⟩
  · intro W base args ds ps hval hA hcond hsz hL
    rw [Try.params6] at hA hval hsz
    obtain ⟨v0, vs0, d0, ds0, p0, q0, hargs, rfl, rfl, h0, r0⟩ := trodAll_cons hA
    obtain ⟨rfl, rfl, rfl⟩ := trodAll_nil r0
    obtain rfl : args = #[v0] := by cases args; simp_all
    obtain ⟨s0, hsz⟩ := weights_head hsz
    have hbk := bulk_bound hcond
    simp only [Rows.uptoBulkAll] at hbk
    obtain ⟨A1, c1, ops, rfl, hr1, hg1, hl1, hb1⟩ := open_oops (hval 0 _ _ rfl rfl) h0 s0
    exact (octetThere_walk A1 c1 ops W hr1 hg1 (by omega)).mono fun e w' ⟨h1, h2⟩ => ⟨h1, h2.still⟩

theorem said : Rows.OctetThereUptoSaid :=
  OpenClaim.holds_of_cond 6 Try.f6 rfl rfl rfl rfl rfl rfl rfl ⟨rfl, rfl, rfl, rfl, rfl⟩ rfl rfl rfl rfl rfl (by kernel_rfl) Try.func6 (by kernel_rfl)
    (of_decide_eq_true (by kernel_rfl)) (by unfold Func.isWrapper; first | (rw [if_pos (by decide +kernel)]; kernel_rfl) | (rw [if_neg (by decide +kernel)]; exact ⟨rfl, rfl⟩))
    (fun os started H enc _ F => by rw [OpenClaim.pre_eq_preRow]; exact lifted os started H enc F)

end octetThereUpto

theorem octetThereUpto_holds : Rows.OctetThereUptoSaid := octetThereUpto.said

end Go.Proofs.Ytepligggofbegaa
