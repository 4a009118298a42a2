/-
  warrenlaw26.ActorsPlays: every call of any script on a System answers exactly as the document says, and each Run does just the actor's first item: true, where what the script holds is of bulk at most 1048576.
-/
import Derived.Test.YtfpkachoneaaeaaBbRows
import Derived.Test.YtfpkachoneaaeaaRows
import Derived.Test.YtfpkachoneaaeaaPl13
import Derived.Test.YtfpkachoneaaeaaPlArg
import Derived.Stop.Joined
set_option linter.unusedSimpArgs false
set_option linter.unusedVariables false
namespace Go.Proofs.Ytfpkachoneaaeaa
open Go Go.ChangeShapes Go.WideShapes Go.ChangeAt Go.RowKit Go.Conc Go.ConcM

namespace actorsPlaysUpto
theorem the_run {W : World} {SA : Option Addr} {sc : Nat} {ops : List Ap} (hN2 : ops.length ≤ 1048576) (hsc : Rd W (· < W.heap.size) SA (ops.flatMap Ap.cells)) (hops : ∀ o ∈ ops, Rd W (· < W.heap.size) o.addr (bvs o.data) ∧ o.data.length ≤ 1048576 ∧ (Lit.int .i64 o.actor).wf = true) :
    Ends Try.prog (fun v w' => v = .bool true ∧ Kept noneS W w') (solo (G (Frame.enter Try.prog 3 #[.slice SA ops.length sc] .normal) []) W) #[] := by
  rw [enter_at _ Try.func3 (show Try.f3.body = some _ from rfl)]
  refine Run.start (Z := opening W) (fun _ => rfl) (opening_ok W) ?_
  refine plays_whole rfl hN2 (Rd.old0 hsc) (fun o ho => ⟨Rd.old0 (hops o ho).1, (hops o ho).2⟩) (fun _ => rfl) (by decide) (by decide) (fun k _ => ⟨fun h => h, fun h => h⟩) fun Z' n' w' x todo hI hk hd h4 => ?_
  rw [Array.getD_eq_getD_getElem?] at h4
  refine Run.done (v := .bool true) rfl hI (fun w₁ => ?_) fun d => ⟨rfl, hk.os, hk.tape, hk.output, hk.size, hk.block⟩
  simp [G, stepG, unwind, doReturn, results, Frame.at, base, Try.func3, Try.f3, seen, GStep.after, hd, h4]

theorem reads (os : Os) {H : Type} (enc : TypeId × Value → H) : ∃ places, DataW.whole enc Try.prog ((plainWorld os).forCall (fun _ _ => 0) ⟨#[], #[.slice none 0 0], []⟩).memory Try.f3.params.toList Rows.actorsPlaysSpec.vars false #[Value.slice none 0 0].toList 8 = some ([.nil], [], places) :=
  ⟨[], by kernel_rfl⟩

set_option maxRecDepth 100000 in
theorem lifted (os : Os) (started : os.Started) (H : Type) (enc : TypeId × Value → H) (F : Stop.Interp) :
    ReturnsInLeavingWide Rows.actorsPlaysUptoRow.assume Try.checked os 3 .any ((Rows.OpenSpec.upto Rows.actorsPlaysSpec).preRow enc Try.prog Try.f3 Rows.actorsPlaysUptoRow.domain false Rows.actorsPlaysUptoRow.laid) ((Rows.OpenSpec.upto Rows.actorsPlaysSpec).postWith enc Try.prog Try.f3 F (outsideKept [.timePasses]) false true false) := by
  obtain ⟨places, hx⟩ := reads os enc
  refine returnsInLeavingWide_of_good (C := Try.checked) (by kernel_rfl) started ?_ ?_
  · have hok : Input.okWideB Try.prog ((plainWorld os).forCall (fun _ _ => 0) ⟨#[], #[.slice none 0 0], []⟩) 3 ⟨#[], #[.slice none 0 0], []⟩ = true := by kernel_rfl
    refine ⟨plainWorld os, fun _ _ => 0, ⟨#[], #[.slice none 0 0], []⟩, rfl, World.shaped_of_B (by kernel_rfl) (by kernel_rfl), (Input.okWide_of_okWideB (base := 0) hok).1, (Input.okWide_of_okWideB hok).2, OpenSpec.preRow_of_cond 8 hx (by kernel_rfl) (fun k hk => by cases hk; kernel_rfl) (by kernel_rfl) (laidMetH_nil _ _), ?_⟩
    simp only [Rows.actorsPlaysUptoRow, OpenClaim.assume, Assume.holds]
    exact ⟨by simp, fun _ _ _ _ => rfl, by simp, by simp, by simp⟩
  · intro w tape i _ _ _ hok hpre _
    obtain ⟨_, _, _, fn', hfn', _, _, _, _, hval0⟩ := hok
    obtain rfl : fn' = Try.f3 := Option.some.inj (hfn'.symm.trans Try.func3)
    obtain ⟨⟨hp, _⟩, hz⟩ := hpre
    obtain ⟨ds, gs, before, hw, hc, hk⟩ := OpenSpec.pre_parts hp
    have hW : DataW.Whole enc Try.prog Try.f3.params.toList Rows.actorsPlaysSpec.vars false (w.forCall tape i) i.args.toList ds gs before := DataW.Whole.of_heap (w' := w.forCall tape i) (by rfl) hw
    have hsz0 := hz.weights hw
    clear hw hz hp
    have hval : ∀ (j : Nat) t v, Try.f3.params[j]? = some t → i.args[j]? = some v → Value.okWide Try.prog (w.forCall tape i) .any w.heap.size t v := hval0
    have hW' := hW
    obtain ⟨p, q, hA0, hV, rfl, _, _⟩ := hW
    have hA : DataW.TrodAll enc Try.prog (w.forCall tape i) 0 (fun _ => true) true Try.f3.params.toList i.args.toList ds p := hA0
    obtain ⟨rfl, rfl⟩ := trodVars_none hV
    have hbk := bulk_bound hk
    have hAk := hA
    rw [Try.params3] at hA hval
    obtain ⟨v0, vs0, d0, ds0, p0, q0, hargs, rfl, rfl, h0, r0⟩ := trodAll_cons hA
    obtain ⟨rfl, rfl, rfl⟩ := trodAll_nil r0
    have hvt : (Rows.OpenSpec.upto Rows.actorsPlaysSpec).bare.plain.varTypes Try.prog = [] := rfl
    have hsz : ∀ n ∈ DataW.weightsEach Try.prog [22] [d0], n ≤ reachBytes := fun n hn => by
      have h1 := List.all_eq_true.1 hsz0 n (by
        show n ∈ DataW.weightsEach Try.prog (Try.f3.params.toList ++ (Rows.OpenSpec.upto Rows.actorsPlaysSpec).bare.plain.varTypes Try.prog) ([d0] ++ [])
        rw [hvt, Try.params3]
        exact hn)
      simpa using h1
    obtain ⟨s0, _⟩ := weights_head hsz
    obtain ⟨av, hae⟩ : ∃ av, i.args = av := ⟨_, rfl⟩
    rw [hae] at hval hargs hAk hW' ⊢
    obtain rfl : av = #[v0] := by cases av; simp_all
    simp only [List.append_nil, Rows.uptoBulkAll] at hbk
    obtain ⟨A, c, ops, rfl, hRd, hgood, hbulk⟩ := open_aps (hval 0 _ v0 rfl rfl) h0 s0
    have hsum := ap_sum ops
    generalize w.forCall tape i = W at *
    obtain ⟨M, last, o, w', t', r1, r2, r3, v, e, hp, g1, g2, g3, g4⟩ := the_run (W := W) (SA := A) (sc := c) (ops := ops) (by omega) hRd fun o ho => ⟨(hgood o ho).1, by have := sum_in (f := Ap.bulk) ho; unfold Ap.bulk at this hbulk; omega, (hgood o ho).2⟩
    obtain ⟨rfl, hkp⟩ := hp
    have hbel : Below W.heap.size W { w' with os := W.os } := ⟨rfl, hkp.tape, hkp.output, hkp.size, fun k hk' => hkp.block k hk' fun q => q.elim⟩
    have hpost : Rows.actorsPlaysSpec.post enc Try.prog Try.f3 false true false false W #[.slice A ops.length c] (.bool true) { w' with os := W.os } :=
      ⟨[d0], [], _, _, p0 ++ [], [], hW', trodAll_mk1 (shut_boolW Try.underlying4), trodAll_below hbel _ (by kernel_rfl) hAk, rfl, hbel.frame _, fun h => by cases h⟩
    exact ⟨M, last, o, w', t', r1, r2, r3, _, e, postWith_blind (postWith_of_post (F := F) hpost (by rw [hkp.os]; exact OsLater.refl _)), g1, g2, g3, g4⟩
theorem readableAll : (Try.f3.params.all fun t => Try.prog.readableRec t) = true ∧ (Try.f3.resultTypes.all fun t => Try.prog.readableRec t && decide (t < Try.prog.types.size)) = true := ⟨by kernel_rfl, by kernel_rfl⟩
theorem noKnobs : Try.prog.stopKnobs = [] := by kernel_rfl
theorem quietAll (os : Os) : Stop.quiet Try.prog os := fun k hk => by rw [noKnobs] at hk; cases hk
set_option maxRecDepth 100000 in
theorem said : Rows.ActorsPlaysUptoSaid := by
  refine ⟨by kernel_rfl, rfl, rfl, rfl, by kernel_rfl, by kernel_rfl, ?_, ⟨rfl, rfl, rfl, rfl, rfl, rfl, rfl⟩, 3, Try.f3, by kernel_rfl, Try.func3, ⟨fun t ht => Array.all_eq_true_iff_forall_mem.1 readableAll.1 t ht, fun t ht => ?_⟩, (fun hb => by cases hb), by kernel_rfl, of_decide_eq_true (by kernel_rfl), ?_,
    by kernel_rfl, ⟨by kernel_rfl, by kernel_rfl, by kernel_rfl⟩, by kernel_rfl, by kernel_rfl, by kernel_rfl, by kernel_rfl, by kernel_rfl, ⟨by kernel_rfl, by kernel_rfl, by kernel_rfl⟩, ⟨by kernel_rfl, by kernel_rfl⟩, ⟨by kernel_rfl, by kernel_rfl, by kernel_rfl, by kernel_rfl⟩, ⟨by kernel_rfl, by kernel_rfl, by kernel_rfl, by kernel_rfl⟩, by kernel_rfl, fun n hn => (by cases hn), ⟨_, ⟨WideRow.started_initial, fun o ho => ?_⟩, quietAll _⟩, [], rfl, fun os st _ H enc _ => ?_⟩
  · show Try.prog.mayEnter = true
    kernel_rfl
  · have := Array.all_eq_true_iff_forall_mem.1 readableAll.2 t ht
    rw [Bool.and_eq_true, decide_eq_true_eq] at this
    exact this
  · unfold Func.isWrapper
    first | (rw [if_pos (by decide +kernel)]; kernel_rfl) | (rw [if_neg (by decide +kernel)]; exact ⟨rfl, rfl⟩)
  · obtain rfl := List.mem_singleton.1 ho
    trivial
  · rw [OpenClaim.post_not_still (show Rows.actorsPlaysUptoRow.still = false from rfl), OpenClaim.pre_eq_preRow]
    have hl := fun F => lifted os st.1 H enc F (by kernel_rfl)
    exact hl
end actorsPlaysUpto
theorem actorsPlaysUpto_holds : Rows.ActorsPlaysUptoSaid := actorsPlaysUpto.said
end Go.Proofs.Ytfpkachoneaaeaa
