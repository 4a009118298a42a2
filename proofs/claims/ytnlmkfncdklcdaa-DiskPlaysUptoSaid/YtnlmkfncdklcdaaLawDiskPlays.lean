/-
  DiskPlays, where what it reads is of bulk at most 1048576
-/
import Derived.Test.YtnlmkfncdklcdaaDkPlW
import Derived.Test.YtnlmkfncdklcdaaDkArg2
import Derived.Test.YtnlmkfncdklcdaaLift
namespace Go.Proofs.Ytnlmkfncdklcdaa
open Go.ChangeShapes Go.WideShapes Go.ChangeAt Go.RowKit

namespace diskPlaysUpto
theorem laid_met (os : Os) : laidMet Try.prog Rows.diskPlaysUptoRow.laid ((plainWorld os).forCall (fun _ _ => 0) ⟨#[], #[.slice none 0 0, .int .i64 0, .slice none 0 0], []⟩).memory :=
  laidMet_of_run' 8 (by kernel_rfl) (by kernel_rfl)
theorem reads (os : Os) {H : Type} (enc : TypeId × Value → H) : ∃ places, DataW.whole enc Try.prog ((plainWorld os).forCall (fun _ _ => 0) ⟨#[], #[.slice none 0 0, .int .i64 0, .slice none 0 0], []⟩).memory Try.f6.params.toList Rows.diskPlaysSpec.vars false #[Value.slice none 0 0, Value.int .i64 0, Value.slice none 0 0].toList 8 = some ([.nil, .lit (.int .i64 0), .nil], [], places) :=
  ⟨[], by kernel_rfl⟩

set_option maxRecDepth 100000 in
theorem lifted (os : Os) (started : os.Started) (H : Type) (enc : TypeId × Value → H) (F : Stop.Interp) :
    ReturnsInHanded {} Try.checked os 6 .any ((Rows.OpenSpec.upto Rows.diskPlaysSpec).preRow enc Try.prog Try.f6 Rows.diskPlaysUptoRow.domain false Rows.diskPlaysUptoRow.laid) (((Rows.OpenSpec.upto Rows.diskPlaysSpec).at F).post enc Try.prog Try.f6 false true false false) := by
  obtain ⟨places, hx⟩ := reads os enc
  refine lift started F 6 Try.f6 (Rows.OpenSpec.upto Rows.diskPlaysSpec) Rows.diskPlaysUptoRow.laid Try.func6 (by kernel_rfl) (by kernel_rfl) (by kernel_rfl) ⟨rfl, rfl⟩ ?_
    (witness_row_at (enc := enc) (C := Try.checked) false (plainWorld os) #[.slice none 0 0, .int .i64 0, .slice none 0 0] rfl (by kernel_rfl) (by kernel_rfl) (by kernel_rfl)
      (OpenSpec.preRow_of_cond 8 hx (by kernel_rfl) (fun k hk => by cases hk; kernel_rfl) (by kernel_rfl) (laid_met os))) ?_
  · intro ds hl
    rw [Try.params6] at hl
    match ds, hl with
    | [d0, d1, d2], _ => exact ⟨rfl, rfl, rfl⟩
  · intro W base args ds ps hval hA hcond hsz hL
    rw [Try.params6] at hA hval hsz
    obtain ⟨v0, vs0, d0, ds0, p0, q0, hargs, rfl, rfl, h0, r0⟩ := trodAll_cons hA
    obtain ⟨v1, vs1, d1, ds1, p1, q1, rfl, rfl, rfl, h1, r1⟩ := trodAll_cons r0
    obtain ⟨v2, vs2, d2, ds2, p2, q2, rfl, rfl, rfl, h2, r2⟩ := trodAll_cons r1
    obtain ⟨rfl, rfl, rfl⟩ := trodAll_nil r2
    obtain rfl : args = #[v0, v1, v2] := by cases args; simp_all
    obtain ⟨s0, hsz⟩ := weights_head hsz
    obtain ⟨s1, hsz⟩ := weights_head hsz
    obtain ⟨s2, hsz⟩ := weights_head hsz
    have hbk := bulk_bound hcond
    simp only [Rows.uptoBulkAll] at hbk
    obtain ⟨A0, c0, fs0, rfl, hfs0, hb0⟩ := open_afls (hval 0 _ _ rfl rfl) h0 s0 (by omega)
    obtain ⟨x1, rfl, rfl, rfl, wx1⟩ := open_int Try.underlying3 (hval 1 _ _ rfl rfl) h1
    obtain ⟨A2, c2, ops2, rfl, ho2, hg2, hb2⟩ := open_dops (hval 2 _ _ rfl rfl) h2 s2
    exact (diskPlays_walk A0 c0 fs0 x1 A2 c2 ops2 W hfs0 hb0 (wf_i64 wx1) ho2 hg2 (by omega)).mono fun e w' ⟨h1, h2⟩ => ⟨h1, h2.still⟩

theorem said : Rows.DiskPlaysUptoSaid :=
  OpenClaim.holds_of_cond 6 Try.f6 rfl rfl rfl rfl rfl rfl rfl ⟨rfl, rfl, rfl, rfl, rfl⟩ rfl rfl rfl rfl rfl (by kernel_rfl) Try.func6 (by kernel_rfl)
    (of_decide_eq_true (by kernel_rfl)) (by unfold Func.isWrapper; first | (rw [if_pos (by decide +kernel)]; kernel_rfl) | (rw [if_neg (by decide +kernel)]; exact ⟨rfl, rfl⟩))
    (fun os started H enc _ F => by rw [OpenClaim.pre_eq_preRow]; exact lifted os started H enc F)

end diskPlaysUpto

theorem diskPlaysUpto_holds : Rows.DiskPlaysUptoSaid := diskPlaysUpto.said

end Go.Proofs.Ytnlmkfncdklcdaa
