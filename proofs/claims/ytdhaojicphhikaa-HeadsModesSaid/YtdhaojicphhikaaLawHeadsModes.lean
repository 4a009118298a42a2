/-
  warrenlaw08.HeadsModes: what all wants of some arguments match, one of them matches, too, for every input.
-/
import Derived.Test.YtdhaojicphhikaaHeadsModes
import Derived.Test.YtdhaojicphhikaaTOpen
import Derived.Test.YtdhaojicphhikaaLift
namespace Go.Proofs.Ytdhaojicphhikaa
open Go.ChangeShapes Go.WideShapes Go.ChangeAt Go.RowKit

namespace headsModes
theorem laid_met (os : Os) : laidMet Try.prog Rows.headsModesRow.laid ((plainWorld os).forCall (fun _ _ => 0) ⟨#[], #[.slice none 0 0, .slice none 0 0], []⟩).memory :=
  laidMet_of_run' 8 (by kernel_rfl) (by kernel_rfl)
theorem reads (os : Os) {H : Type} (enc : TypeId × Value → H) : ∃ places, DataW.whole enc Try.prog ((plainWorld os).forCall (fun _ _ => 0) ⟨#[], #[.slice none 0 0, .slice none 0 0], []⟩).memory Try.f5.params.toList Rows.headsModesSpec.vars false #[Value.slice none 0 0, Value.slice none 0 0].toList 8 = some ([.nil, .nil], [], places) :=
  ⟨[], by kernel_rfl⟩

set_option maxRecDepth 100000 in
theorem lifted (os : Os) (started : os.Started) (H : Type) (enc : TypeId × Value → H) (F : Stop.Interp) :
    ReturnsInHanded {} Try.checked os 5 .any ((OpenSpec.ofChange Rows.headsModesSpec).preRow enc Try.prog Try.f5 Rows.headsModesRow.domain false Rows.headsModesRow.laid) (((OpenSpec.ofChange Rows.headsModesSpec).at F).post enc Try.prog Try.f5 false true false false) := by
  obtain ⟨places, hx⟩ := reads os enc
  refine lift started F 5 Try.f5 (OpenSpec.ofChange Rows.headsModesSpec) Rows.headsModesRow.laid Try.func5 (by kernel_rfl) (by kernel_rfl) (by kernel_rfl) ⟨rfl, rfl⟩ ?_
    (witness_row_at (enc := enc) (C := Try.checked) false (plainWorld os) #[.slice none 0 0, .slice none 0 0] rfl (by kernel_rfl) (by kernel_rfl) (by kernel_rfl)
      (OpenSpec.preRow_of_cond 8 hx (by kernel_rfl) (fun k hk => by cases hk) (by kernel_rfl) (laid_met os))) ?_
  · intro ds hl
    rw [Try.params5] at hl
    match ds, hl with
    | [d0, d1], _ => exact ⟨rfl, rfl, rfl⟩
  · intro W base args ds ps hval hA hcond hsz hL
    rw [Try.params5] at hA hval hsz
    obtain ⟨v0, vs0, d0, ds0, p0, q0, hargs, rfl, rfl, h0, r0⟩ := trodAll_cons hA
    obtain ⟨v1, vs1, d1, ds1, p1, q1, rfl, rfl, rfl, h1, r1⟩ := trodAll_cons r0
    obtain ⟨rfl, rfl, rfl⟩ := trodAll_nil r1
    obtain rfl : args = #[v0, v1] := by cases args; simp_all
    obtain ⟨s0, hsz⟩ := weights_head hsz
    obtain ⟨s1, hsz⟩ := weights_head hsz
    obtain ⟨A0, c0, t0, rfl, ht0, _, hl0⟩ := open_table (hval 0 _ _ rfl rfl) h0 s0
    obtain ⟨A1, c1, t1, rfl, ht1, _, hl1⟩ := open_table (hval 1 _ _ rfl rfl) h1 s1
    exact (headsModes t0 t1 A0 A1 c0 c1 W ht0 ht1 hl0 hl1).mono fun e W' ⟨he, hk⟩ => ⟨he, hk.still⟩

theorem said : Rows.HeadsModesSaid :=
  OpenClaim.holds_of_cond 5 Try.f5 rfl rfl rfl rfl rfl rfl rfl ⟨rfl, rfl, rfl, rfl, rfl⟩ rfl rfl rfl rfl rfl (by kernel_rfl) Try.func5 (by kernel_rfl)
    (of_decide_eq_true (by kernel_rfl)) (by unfold Func.isWrapper; first | (rw [if_pos (by decide +kernel)]; kernel_rfl) | (rw [if_neg (by decide +kernel)]; exact ⟨rfl, rfl⟩))
    (fun os started H enc _ F => by rw [OpenClaim.pre_eq_preRow]; exact lifted os started H enc F)

end headsModes

theorem headsModes_holds : Rows.HeadsModesSaid := headsModes.said

end Go.Proofs.Ytdhaojicphhikaa
