/-
  DiskWhole, where what it reads is of bulk at most 1048576
-/
import Derived.Test.YtnlmkfncdklcdaaDkWhW
import Derived.Test.YtnlmkfncdklcdaaDkArg2
import Derived.Test.YtnlmkfncdklcdaaLift
namespace Go.Proofs.Ytnlmkfncdklcdaa
open Go.ChangeShapes Go.WideShapes Go.ChangeAt Go.RowKit

namespace diskWholeUpto
theorem laid_met (os : Os) : laidMet Try.prog Rows.diskWholeUptoRow.laid ((plainWorld os).forCall (fun _ _ => 0) ⟨#[], #[.slice none 0 0, .slice none 0 0, .agg #[.slice none 0 0, .int .i64 0]], []⟩).memory :=
  laidMet_of_run' 8 (by kernel_rfl) (by kernel_rfl)
theorem reads (os : Os) {H : Type} (enc : TypeId × Value → H) : ∃ places, DataW.whole enc Try.prog ((plainWorld os).forCall (fun _ _ => 0) ⟨#[], #[.slice none 0 0, .slice none 0 0, .agg #[.slice none 0 0, .int .i64 0]], []⟩).memory Try.f7.params.toList Rows.diskWholeSpec.vars false #[Value.slice none 0 0, Value.slice none 0 0, Value.agg #[.slice none 0 0, .int .i64 0]].toList 8 = some ([.nil, .nil, .agg [.nil, .lit (.int .i64 0)]], [], places) :=
  ⟨[], by kernel_rfl⟩

set_option maxRecDepth 100000 in
theorem lifted (os : Os) (started : os.Started) (H : Type) (enc : TypeId × Value → H) (F : Stop.Interp) :
    ReturnsInHanded {} Try.checked os 7 .any ((Rows.OpenSpec.upto Rows.diskWholeSpec).preRow enc Try.prog Try.f7 Rows.diskWholeUptoRow.domain false Rows.diskWholeUptoRow.laid) (((Rows.OpenSpec.upto Rows.diskWholeSpec).at F).post enc Try.prog Try.f7 false true false false) := by
  obtain ⟨places, hx⟩ := reads os enc
  refine lift started F 7 Try.f7 (Rows.OpenSpec.upto Rows.diskWholeSpec) Rows.diskWholeUptoRow.laid Try.func7 (by kernel_rfl) (by kernel_rfl) (by kernel_rfl) ⟨rfl, rfl⟩ ?_
    (witness_row_at (enc := enc) (C := Try.checked) false (plainWorld os) #[.slice none 0 0, .slice none 0 0, .agg #[.slice none 0 0, .int .i64 0]] rfl (by kernel_rfl) (by kernel_rfl) (by kernel_rfl)
      (OpenSpec.preRow_of_cond 8 hx (by kernel_rfl) (fun k hk => by cases hk; kernel_rfl) (by kernel_rfl) (laid_met os))) ?_
  · intro ds hl
    rw [Try.params7] at hl
    match ds, hl with
    | [d0, d1, d2], _ => exact ⟨rfl, rfl, rfl⟩
  · intro W base args ds ps hval hA hcond hsz hL
    rw [Try.params7] at hA hval hsz
    obtain ⟨v0, vs0, d0, ds0, p0, q0, hargs, rfl, rfl, h0, r0⟩ := trodAll_cons hA
    obtain ⟨v1, vs1, d1, ds1, p1, q1, rfl, rfl, rfl, h1, r1⟩ := trodAll_cons r0
    obtain ⟨v2, vs2, d2, ds2, p2, q2, rfl, rfl, rfl, h2, r2⟩ := trodAll_cons r1
    obtain ⟨rfl, rfl, rfl⟩ := trodAll_nil r2
    obtain rfl : args = #[v0, v1, v2] := by cases args; simp_all
    obtain ⟨s0, hsz⟩ := weights_head hsz
    obtain ⟨s1, hsz⟩ := weights_head hsz
    obtain ⟨s2, hsz⟩ := weights_head hsz
    have hbk := bulk_bound hcond
    simp only [Rows.uptoBulkAll] at hbk
    obtain ⟨A0, c0, fs0, rfl, hfs0, hb0⟩ := open_afls (hval 0 _ _ rfl rfl) h0 s0 (by omega)
    obtain ⟨A1, c1, ops1, rfl, ho1, hg1, hb1⟩ := open_dops (hval 1 _ _ rfl rfl) h1 s1
    obtain ⟨f2, rfl, hg2⟩ := open_fate (hval 2 _ _ rfl rfl) h2
    exact (diskWhole_walk A0 c0 fs0 A1 c1 ops1 f2.addr f2.cap f2.keep f2.tear W hfs0 hb0 ho1 hg1 (by omega) hg2.1 hg2.2.2.2).mono fun e w' ⟨h1, h2⟩ => ⟨h1, h2.still⟩

theorem said : Rows.DiskWholeUptoSaid :=
  OpenClaim.holds_of_cond 7 Try.f7 rfl rfl rfl rfl rfl rfl rfl ⟨rfl, rfl, rfl, rfl, rfl⟩ rfl rfl rfl rfl rfl (by kernel_rfl) Try.func7 (by kernel_rfl)
    (of_decide_eq_true (by kernel_rfl)) (by unfold Func.isWrapper; first | (rw [if_pos (by decide +kernel)]; kernel_rfl) | (rw [if_neg (by decide +kernel)]; exact ⟨rfl, rfl⟩))
    (fun os started H enc _ F => by rw [OpenClaim.pre_eq_preRow]; exact lifted os started H enc F)

end diskWholeUpto

theorem diskWholeUpto_holds : Rows.DiskWholeUptoSaid := diskWholeUpto.said

end Go.Proofs.Ytnlmkfncdklcdaa
