/-
  warrenlaw08.HeadsChecks: whether any arguments may bind is told exactly, for every input.
-/
import Derived.Test.YtdhaojicphhikaaHeadsChk
import Derived.Test.YtdhaojicphhikaaTOpen
import Derived.Test.YtdhaojicphhikaaLift
namespace Go.Proofs.Ytdhaojicphhikaa
open Go.ChangeShapes Go.WideShapes Go.ChangeAt Go.RowKit

namespace headsChecks
theorem laid_met (os : Os) : laidMet Try.prog Rows.headsChecksRow.laid ((plainWorld os).forCall (fun _ _ => 0) ⟨#[], #[.slice none 0 0], []⟩).memory :=
  laidMet_of_run' 8 (by kernel_rfl) (by kernel_rfl)
theorem reads (os : Os) {H : Type} (enc : TypeId × Value → H) : ∃ places, DataW.whole enc Try.prog ((plainWorld os).forCall (fun _ _ => 0) ⟨#[], #[.slice none 0 0], []⟩).memory Try.f3.params.toList Rows.headsChecksSpec.vars false #[Value.slice none 0 0].toList 8 = some ([.nil], [], places) :=
  ⟨[], by kernel_rfl⟩

set_option maxRecDepth 100000 in
theorem lifted (os : Os) (started : os.Started) (H : Type) (enc : TypeId × Value → H) (F : Stop.Interp) :
    ReturnsInHanded {} Try.checked os 3 .any ((OpenSpec.ofChange Rows.headsChecksSpec).preRow enc Try.prog Try.f3 Rows.headsChecksRow.domain false Rows.headsChecksRow.laid) (((OpenSpec.ofChange Rows.headsChecksSpec).at F).post enc Try.prog Try.f3 false true false false) := by
  obtain ⟨places, hx⟩ := reads os enc
  refine lift started F 3 Try.f3 (OpenSpec.ofChange Rows.headsChecksSpec) Rows.headsChecksRow.laid Try.func3 (by kernel_rfl) (by kernel_rfl) (by kernel_rfl) ⟨rfl, rfl⟩ ?_
    (witness_row_at (enc := enc) (C := Try.checked) false (plainWorld os) #[.slice none 0 0] rfl (by kernel_rfl) (by kernel_rfl) (by kernel_rfl)
      (OpenSpec.preRow_of_cond 8 hx (by kernel_rfl) (fun k hk => by cases hk) (by kernel_rfl) (laid_met os))) ?_
  · intro ds hl
    rw [Try.params3] at hl
    match ds, hl with
    | [d0], _ => exact ⟨rfl, rfl, rfl⟩
  · intro W base args ds ps hval hA hcond hsz hL
    rw [Try.params3] at hA hval hsz
    obtain ⟨v0, vs0, d0, ds0, p0, q0, hargs, rfl, rfl, h0, r0⟩ := trodAll_cons hA
    obtain ⟨rfl, rfl, rfl⟩ := trodAll_nil r0
    obtain rfl : args = #[v0] := by cases args; simp_all
    obtain ⟨s0, hsz⟩ := weights_head hsz
    obtain ⟨A0, c0, t0, rfl, ht0, _, hl0⟩ := open_table (hval 0 _ _ rfl rfl) h0 s0
    exact (headsChecks t0 A0 c0 W ht0 hl0).mono fun e W' ⟨he, hk⟩ => ⟨he, hk.still⟩

theorem said : Rows.HeadsChecksSaid :=
  OpenClaim.holds_of_cond 3 Try.f3 rfl rfl rfl rfl rfl rfl rfl ⟨rfl, rfl, rfl, rfl, rfl⟩ rfl rfl rfl rfl rfl (by kernel_rfl) Try.func3 (by kernel_rfl)
    (of_decide_eq_true (by kernel_rfl)) (by unfold Func.isWrapper; first | (rw [if_pos (by decide +kernel)]; kernel_rfl) | (rw [if_neg (by decide +kernel)]; exact ⟨rfl, rfl⟩))
    (fun os started H enc _ F => by rw [OpenClaim.pre_eq_preRow]; exact lifted os started H enc F)

end headsChecks

theorem headsChecks_holds : Rows.HeadsChecksSaid := headsChecks.said

end Go.Proofs.Ytdhaojicphhikaa
