/-
  FrameThere, for every input of at most 1048576 cells in all
-/
import Derived.Test.YtkkfifocilnbkaaFrThere
import Derived.Test.YtkkfifocilnbkaaLiftInts
import Derived.Test.YtkkfifocilnbkaaLift
namespace Go.Proofs.Ytkkfifocilnbkaa
open Go.ChangeShapes Go.WideShapes Go.ChangeAt Go.RowKit

namespace frameThereUpto
theorem laid_met (os : Os) : laidMet Try.prog Rows.frameThereUptoRow.laid ((plainWorld os).forCall (fun _ _ => 0) ⟨#[], #[.slice none 0 0, .slice none 0 0], []⟩).memory :=
  laidMet_of_run' 8 (by kernel_rfl) (by kernel_rfl)
theorem reads (os : Os) {H : Type} (enc : TypeId × Value → H) : ∃ places, DataW.whole enc Try.prog ((plainWorld os).forCall (fun _ _ => 0) ⟨#[], #[.slice none 0 0, .slice none 0 0], []⟩).memory Try.f5.params.toList Rows.frameThereSpec.vars false #[Value.slice none 0 0, Value.slice none 0 0].toList 8 = some ([.nil, .nil], [], places) :=
  ⟨[], by kernel_rfl⟩

set_option maxRecDepth 100000 in
theorem lifted (os : Os) (started : os.Started) (H : Type) (enc : TypeId × Value → H) (F : Stop.Interp) :
    ReturnsInHanded {} Try.checked os 5 .any ((Rows.OpenSpec.upto Rows.frameThereSpec).preRow enc Try.prog Try.f5 Rows.frameThereUptoRow.domain false Rows.frameThereUptoRow.laid) (((Rows.OpenSpec.upto Rows.frameThereSpec).at F).post enc Try.prog Try.f5 false true false false) := by
  obtain ⟨places, hx⟩ := reads os enc
  refine lift started F 5 Try.f5 (Rows.OpenSpec.upto Rows.frameThereSpec) Rows.frameThereUptoRow.laid Try.func5 (by kernel_rfl) (by kernel_rfl) (by kernel_rfl) ⟨rfl, rfl⟩ ?_
    (witness_row_at (enc := enc) (C := Try.checked) false (plainWorld os) #[.slice none 0 0, .slice none 0 0] rfl (by kernel_rfl) (by kernel_rfl) (by kernel_rfl)
      (OpenSpec.preRow_of_cond 8 hx (by kernel_rfl) (fun k hk => by cases hk; kernel_rfl) (by kernel_rfl) (laid_met os))) ?_
  · intro ds hl
    rw [Try.params5] at hl
    match ds, hl with
    | [d0, d1], _ => exact ⟨rfl, rfl, rfl⟩
  · intro W base args ds ps hval hA hcond hsz hL
    rw [Try.params5] at hA hval hsz
    obtain ⟨v0, vs0, d0, ds0, p0, q0, hargs, rfl, rfl, h0, r0⟩ := trodAll_cons hA
    obtain ⟨v1, vs1, d1, ds1, p1, q1, rfl, rfl, rfl, h1, r1⟩ := trodAll_cons r0
    obtain ⟨rfl, rfl, rfl⟩ := trodAll_nil r1
    obtain rfl : args = #[v0, v1] := by cases args; simp_all
    obtain ⟨s0, hsz⟩ := weights_head hsz
    obtain ⟨s1, hsz⟩ := weights_head hsz
    obtain ⟨A0, c0, fs, rfl, hr0, hg0, hl0, hb0⟩ := open_frames (hval 0 _ _ rfl rfl) h0 s0
    obtain ⟨A1, c1, cuts, rfl, hr1, hl1⟩ := open_ints64 (hval 1 _ _ rfl rfl) h1 s1
    have hbb := bulk_bound hcond
    have h2 := bulk_mem (l := [d0, d1]) (d := d0) (by simp)
    exact (frameThere_walk A0 c0 fs A1 c1 cuts W hr0 hg0 hl0 (by omega) hr1 hl1).mono fun e w' ⟨h1, h2⟩ => ⟨h1, h2.still⟩

theorem said : Rows.FrameThereUptoSaid :=
  OpenClaim.holds_of_cond 5 Try.f5 rfl rfl rfl rfl rfl rfl rfl ⟨rfl, rfl, rfl, rfl, rfl⟩ rfl rfl rfl rfl rfl (by kernel_rfl) Try.func5 (by kernel_rfl)
    (of_decide_eq_true (by kernel_rfl)) (by unfold Func.isWrapper; first | (rw [if_pos (by decide +kernel)]; kernel_rfl) | (rw [if_neg (by decide +kernel)]; exact ⟨rfl, rfl⟩))
    (fun os started H enc _ F => by rw [OpenClaim.pre_eq_preRow]; exact lifted os started H enc F)

end frameThereUpto

theorem frameThereUpto_holds : Rows.FrameThereUptoSaid := frameThereUpto.said

end Go.Proofs.Ytkkfifocilnbkaa
