/-
  warrenlaw26.ActorsPass: items that actors hand on to others while they run are done by these, in their order: true for every input.
-/
import Derived.Test.YtfpkachoneaaeaaBbRows
import Derived.Test.YtfpkachoneaaeaaRows
import Derived.Test.YtfpkachoneaaeaaBbPs4
set_option linter.unusedSimpArgs false
set_option linter.unusedVariables false
namespace Go.Proofs.Ytfpkachoneaaeaa
open Go Go.ChangeShapes Go.WideShapes Go.ChangeAt Go.RowKit Go.Conc Go.ConcM

namespace actorsPass
theorem the_run {W : World} {a b : Int} : Ends Try.prog (fun v w' => v = .bool true ∧ Kept noneS W w') (solo (G (Frame.enter Try.prog 4 #[.int .i64 a, .int .i64 b] .normal) []) W) #[] := by
  rw [enter_at _ Try.func4 (show Try.f4.body = some _ from rfl)]
  refine Run.start (Z := opening W) (fun _ => rfl) (opening_ok W) ?_
  refine pass_run (fun _ => rfl) (by decide) (by decide) (fun k _ => ⟨fun h => h, fun h => h⟩) fun Z' n' w' x todo hI hk hd h4 => ?_
  rw [Array.getD_eq_getD_getElem?] at h4
  refine Run.done (v := .bool true) rfl hI (fun w₁ => ?_) fun d => ⟨rfl, hk.os, hk.tape, hk.output, hk.size, hk.block⟩
  simp [G, stepG, unwind, doReturn, results, Frame.at, base, Try.func4, Try.f4, seen, GStep.after, hd, h4]

set_option maxRecDepth 100000 in
theorem lifted (os : Os) (started : os.Started) (H : Type) (enc : TypeId × Value → H) (F : Stop.Interp) :
    ReturnsInLeavingWide Rows.actorsPassRow.assume Try.checked os 4 .any (Rows.actorsPassSpec.pre6 enc Try.prog Try.f4 Rows.actorsPassRow.domain false) ((OpenSpec.ofChange Rows.actorsPassSpec).postWith enc Try.prog Try.f4 F (outsideKept [.timePasses]) false true false) := by
  refine returnsInLeavingWide_of_change_time (C := Try.checked) (by kernel_rfl) started Try.func4
    (ChangeSpec.witness6c (enc := enc) (C := Try.checked) ⟨#[], #[.int .i64 0, .int .i64 0], []⟩ 8 (by kernel_rfl) (by kernel_rfl) (by kernel_rfl) (by kernel_rfl)) ?_
  intro W base args ds gs before hval0 hW _ _ _
  have hval : ∀ (j : Nat) t v, Try.f4.params[j]? = some t → args[j]? = some v → Value.okWide Try.prog W .any base t v := hval0
  have hW' := hW
  obtain ⟨p, q, hA0, hV, rfl, _, _⟩ := hW
  have hA : DataW.TrodAll enc Try.prog W 0 (fun _ => true) true Try.f4.params.toList args.toList ds p := hA0
  rw [Try.params4] at hA hval
  obtain ⟨v0, v1, d0, d1, p0, p1, rfl, rfl, rfl, h0, h1⟩ := trodAll_two hA
  obtain ⟨rfl, rfl⟩ := trodVars_none hV
  obtain ⟨a, rfl, rfl, rfl, wa⟩ := open_int Try.underlying3 (hval 0 _ v0 rfl rfl) h0
  obtain ⟨b, rfl, rfl, rfl, wb⟩ := open_int Try.underlying3 (hval 1 _ v1 rfl rfl) h1
  clear hA0 hval0
  simp only [List.append_nil] at hW'
  obtain ⟨M, last, o, w', t', r1, r2, r3, v, e, hp, g1, g2, g3, g4⟩ := the_run (W := W) (a := a) (b := b)
  refine ⟨M, last, o, w', t', r1, r2, r3, v, e, ⟨?_, by rw [hp.2.os]; exact OsLater.refl _⟩, g1, g2, g3, g4⟩
  obtain ⟨rfl, hk⟩ := hp
  have hbel : Below W.heap.size W { w' with os := W.os } := ⟨rfl, hk.tape, hk.output, hk.size, fun k hk' => hk.block k hk' fun q => q.elim⟩
  exact ⟨_, _, _, [], [], [], hW', trodAll_mk1 (shut_boolW Try.underlying4), trodAll_mk2 (shut_int Try.underlying3 wa) (shut_int Try.underlying3 wb), rfl, hbel.frame _, fun h => by cases h⟩
theorem said : Rows.ActorsPassSaid :=
  OpenClaim.holds_of_wide_leaving_time 4 Try.f4 rfl rfl rfl rfl rfl rfl rfl ⟨rfl, rfl, rfl, rfl, rfl⟩ rfl rfl rfl rfl rfl (by kernel_rfl) Try.func4 (by kernel_rfl)
    (of_decide_eq_true (by kernel_rfl)) (by unfold Func.isWrapper; first | (rw [if_pos (by decide +kernel)]; kernel_rfl) | (rw [if_neg (by decide +kernel)]; exact ⟨rfl, rfl⟩))
    (fun os started H enc _ F => lifted os started H enc F)
end actorsPass
theorem actorsPass_holds : Rows.ActorsPassSaid := actorsPass.said
end Go.Proofs.Ytfpkachoneaaeaa
