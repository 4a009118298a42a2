/-
  FramePacks, for every input
-/
import Derived.Test.YtkkfifocilnbkaaFrPacks
import Derived.Test.YtkkfifocilnbkaaLift
namespace Go.Proofs.Ytkkfifocilnbkaa
open Go.ChangeShapes Go.WideShapes Go.ChangeAt Go.RowKit

namespace framePacks
theorem laid_met (os : Os) : laidMet Try.prog Rows.framePacksRow.laid ((plainWorld os).forCall (fun _ _ => 0) ⟨#[], #[.agg #[.int .i64 0, .int .i64 0, .slice none 0 0]], []⟩).memory :=
  laidMet_of_run' 8 (by kernel_rfl) (by kernel_rfl)
theorem reads (os : Os) {H : Type} (enc : TypeId × Value → H) : ∃ places, DataW.whole enc Try.prog ((plainWorld os).forCall (fun _ _ => 0) ⟨#[], #[.agg #[.int .i64 0, .int .i64 0, .slice none 0 0]], []⟩).memory Try.f4.params.toList Rows.framePacksSpec.vars false #[Value.agg #[.int .i64 0, .int .i64 0, .slice none 0 0]].toList 8 = some ([.agg [.lit (.int .i64 0), .lit (.int .i64 0), .nil]], [], places) :=
  ⟨[], by kernel_rfl⟩

set_option maxRecDepth 100000 in
theorem lifted (os : Os) (started : os.Started) (H : Type) (enc : TypeId × Value → H) (F : Stop.Interp) :
    ReturnsInHanded {} Try.checked os 4 .any ((OpenSpec.ofChange Rows.framePacksSpec).preRow enc Try.prog Try.f4 Rows.framePacksRow.domain false Rows.framePacksRow.laid) (((OpenSpec.ofChange Rows.framePacksSpec).at F).post enc Try.prog Try.f4 false true false false) := by
  obtain ⟨places, hx⟩ := reads os enc
  refine lift started F 4 Try.f4 (OpenSpec.ofChange Rows.framePacksSpec) Rows.framePacksRow.laid Try.func4 (by kernel_rfl) (by kernel_rfl) (by kernel_rfl) ⟨rfl, rfl⟩ ?_
    (witness_row_at (enc := enc) (C := Try.checked) false (plainWorld os) #[.agg #[.int .i64 0, .int .i64 0, .slice none 0 0]] rfl (by kernel_rfl) (by kernel_rfl) (by kernel_rfl)
      (OpenSpec.preRow_of_cond 8 hx (by kernel_rfl) (fun k hk => by cases hk) (by kernel_rfl) (laid_met os))) ?_
  · intro ds hl
    rw [Try.params4] at hl
    match ds, hl with
    | [d0], _ => exact ⟨rfl, rfl, rfl⟩
  · intro W base args ds ps hval hA hcond hsz hL
    rw [Try.params4] at hA hval hsz
    obtain ⟨v0, vs0, d0, ds0, p0, q0, hargs, rfl, rfl, h0, r0⟩ := trodAll_cons hA
    obtain ⟨rfl, rfl, rfl⟩ := trodAll_nil r0
    obtain rfl : args = #[v0] := by cases args; simp_all
    obtain ⟨s0, hsz⟩ := weights_head hsz
    obtain ⟨f, rfl, hg, hc⟩ := open_frame (hval 0 _ _ rfl rfl) h0 s0
    exact (framePacks_walk f.t f.ch f.addr f.cap f.pl W hg.2.2.1 (Nat.le_trans hg.2.2.2.1 hc) hg.1.1 hg.1.2).mono fun e w' ⟨h1, h2⟩ => ⟨h1, h2.still⟩

theorem said : Rows.FramePacksSaid :=
  OpenClaim.holds_of_cond 4 Try.f4 rfl rfl rfl rfl rfl rfl rfl ⟨rfl, rfl, rfl, rfl, rfl⟩ rfl rfl rfl rfl rfl (by kernel_rfl) Try.func4 (by kernel_rfl)
    (of_decide_eq_true (by kernel_rfl)) (by unfold Func.isWrapper; first | (rw [if_pos (by decide +kernel)]; kernel_rfl) | (rw [if_neg (by decide +kernel)]; exact ⟨rfl, rfl⟩))
    (fun os started H enc _ F => by rw [OpenClaim.pre_eq_preRow]; exact lifted os started H enc F)

end framePacks

theorem framePacks_holds : Rows.FramePacksSaid := framePacks.said

end Go.Proofs.Ytkkfifocilnbkaa
