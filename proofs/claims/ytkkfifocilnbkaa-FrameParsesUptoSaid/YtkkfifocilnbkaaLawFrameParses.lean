/-
  FrameParses, for every input of at most 1048576 cells in all
-/
import Derived.Test.YtkkfifocilnbkaaFrParses
import Derived.Test.YtkkfifocilnbkaaLift
namespace Go.Proofs.Ytkkfifocilnbkaa
open Go.ChangeShapes Go.WideShapes Go.ChangeAt Go.RowKit

namespace frameParsesUpto
theorem laid_met (os : Os) : laidMet Try.prog Rows.frameParsesUptoRow.laid ((plainWorld os).forCall (fun _ _ => 0) ⟨#[], #[.int .i64 0, .slice none 0 0], []⟩).memory :=
  laidMet_of_run' 8 (by kernel_rfl) (by kernel_rfl)
theorem reads (os : Os) {H : Type} (enc : TypeId × Value → H) : ∃ places, DataW.whole enc Try.prog ((plainWorld os).forCall (fun _ _ => 0) ⟨#[], #[.int .i64 0, .slice none 0 0], []⟩).memory Try.f6.params.toList Rows.frameParsesSpec.vars false #[Value.int .i64 0, Value.slice none 0 0].toList 8 = some ([.lit (.int .i64 0), .nil], [], places) :=
  ⟨[], by kernel_rfl⟩

set_option maxRecDepth 100000 in
theorem lifted (os : Os) (started : os.Started) (H : Type) (enc : TypeId × Value → H) (F : Stop.Interp) :
    ReturnsInHanded {} Try.checked os 6 .any ((Rows.OpenSpec.upto Rows.frameParsesSpec).preRow enc Try.prog Try.f6 Rows.frameParsesUptoRow.domain false Rows.frameParsesUptoRow.laid) (((Rows.OpenSpec.upto Rows.frameParsesSpec).at F).post enc Try.prog Try.f6 false true false false) := by
  obtain ⟨places, hx⟩ := reads os enc
  refine lift started F 6 Try.f6 (Rows.OpenSpec.upto Rows.frameParsesSpec) Rows.frameParsesUptoRow.laid Try.func6 (by kernel_rfl) (by kernel_rfl) (by kernel_rfl) ⟨rfl, rfl⟩ ?_
    (witness_row_at (enc := enc) (C := Try.checked) false (plainWorld os) #[.int .i64 0, .slice none 0 0] rfl (by kernel_rfl) (by kernel_rfl) (by kernel_rfl)
      (OpenSpec.preRow_of_cond 8 hx (by kernel_rfl) (fun k hk => by cases hk; kernel_rfl) (by kernel_rfl) (laid_met os))) ?_
  · intro ds hl
    rw [Try.params6] at hl
    match ds, hl with
    | [d0, d1], _ => exact ⟨rfl, rfl, rfl⟩
  · intro W base args ds ps hval hA hcond hsz hL
    rw [Try.params6] at hA hval hsz
    obtain ⟨v0, vs0, d0, ds0, p0, q0, hargs, rfl, rfl, h0, r0⟩ := trodAll_cons hA
    obtain ⟨v1, vs1, d1, ds1, p1, q1, rfl, rfl, rfl, h1, r1⟩ := trodAll_cons r0
    obtain ⟨rfl, rfl, rfl⟩ := trodAll_nil r1
    obtain rfl : args = #[v0, v1] := by cases args; simp_all
    obtain ⟨s0, hsz⟩ := weights_head hsz
    obtain ⟨s1, hsz⟩ := weights_head hsz
    obtain ⟨x0, rfl, rfl, rfl, wx0⟩ := open_int Try.underlying3 (hval 0 _ _ rfl rfl) h0
    obtain ⟨A1, c1, ops, rfl, hr1, hg1, hl1, hb1⟩ := open_steps (hval 1 _ _ rfl rfl) h1 s1
    have hbb := bulk_bound hcond
    have hsum : sumL ops ≤ 1048576 := by
      have h2 := bulk_mem (l := [DataW.lit (.int .i64 x0), d1]) (d := d1) (by simp)
      have h3 : ∀ l : List Stp, sumL l ≤ (l.map Stp.bulk).sum := by
        intro l
        unfold sumL
        induction l with
        | nil => simp
        | cons x l ih => simp only [List.map_cons, List.sum_cons, Stp.bulk]; omega
      have := h3 ops
      omega
    exact (frameParses_walk x0 A1 c1 ops W hr1 hg1 hl1 hsum (wf_i64 wx0).1 (wf_i64 wx0).2).mono fun e w' ⟨h1, h2⟩ => ⟨h1, h2.still⟩

theorem said : Rows.FrameParsesUptoSaid :=
  OpenClaim.holds_of_cond 6 Try.f6 rfl rfl rfl rfl rfl rfl rfl ⟨rfl, rfl, rfl, rfl, rfl⟩ rfl rfl rfl rfl rfl (by kernel_rfl) Try.func6 (by kernel_rfl)
    (of_decide_eq_true (by kernel_rfl)) (by unfold Func.isWrapper; first | (rw [if_pos (by decide +kernel)]; kernel_rfl) | (rw [if_neg (by decide +kernel)]; exact ⟨rfl, rfl⟩))
    (fun os started H enc _ F => by rw [OpenClaim.pre_eq_preRow]; exact lifted os started H enc F)

end frameParsesUpto

theorem frameParsesUpto_holds : Rows.FrameParsesUptoSaid := frameParsesUpto.said

end Go.Proofs.Ytkkfifocilnbkaa
