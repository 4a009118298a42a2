/-
  The worker: its seat, its way there from its birth and from its answer, what it does when the quit channel is closed.
-/
import Derived.Test.YtfpkachoneaaeaaBbSt
import Derived.Test.YtfpkachoneaaeaaBbDone
import Derived.Conc.TokenWalk
set_option linter.unusedSimpArgs false
set_option linter.unusedVariables false
namespace Go.Proofs.Ytfpkachoneaaeaa
open Go Go.Conc
/-- What of an actor stands. -/
structure Core1 where
  id : Int
  gi : Nat
  b : Nat
  wk : Nat
  dn : Nat
noncomputable def botW : Frame := { (default : Frame) with fn := Try.prog.funcs.size, defers := [], mode := .panicking [goexitEntry] }
noncomputable def wLoop : Code := match Try.f30.body.getD .skip with
  | .seq _ (.block _ (.loop c)) => c
  | _ => .skip
noncomputable def wOps : Array Oper := match wLoop with
  | .block _ (.seq _ (.seq (.region _ ops _) _)) => ops
  | _ => #[]
noncomputable def wBlk : Code := match wLoop with
  | .block _ (.seq _ (.seq _ x)) => x
  | _ => .skip
noncomputable def todoW : List Item := [.inRegion wOps [0, 1, 2, 3], .code wBlk, .inBlock 1, .inLoop wLoop, .inBlock 0]
noncomputable def wRec (S : Nat) (T : Array Value) : Goroutine := G ((baseD 30).at ⟨T, [dcall 57 #[.pointer (some ⟨S, 5, none⟩)]]⟩ todoW) [botW]
structure WT (S qc : Nat) (c : Core1) (T : Array Value) : Prop where
  size : T.size = 35
  s : T[0]? = some (.pointer (some ⟨S, 0, none⟩))
  i : T[1]? = some (.int .i64 c.id)
  a : T[2]? = some (.pointer (some ⟨c.b, 0, none⟩))
  w : T[13]? = some (.chan (some c.wk))
  q : T[17]? = some (.chan (some qc))
noncomputable def wSeat (S qc : Nat) (c : Core1) : Seat where
  cases := #[rcase c.wk (.slice none 0 0), rcase qc (.int .i64 0)]
  shape := .select
  home := fun g => ∃ T, WT S qc c T ∧ g = wRec S T
def wVal (S qc : Nat) (c : Core1) (a : Addr) : Option Value :=
  if a = ⟨S, 4, none⟩ then some (.chan (some qc)) else if a = ⟨c.b, 1, none⟩ then some (.chan (some c.wk)) else none
noncomputable def wChair (S qc : Nat) (c : Core1) : Chair := ⟨wSeat S qc c, wVal S qc c, max S c.b + 1⟩
theorem wSeat_wf {S qc : Nat} {c : Core1} (h : c.wk ≠ qc) : (wSeat S qc c).Wf := by
  refine ⟨fun cc h => ?_, fun k m x z z' h1 h2 => ?_⟩
  · simp only [wSeat, List.mem_toArray, List.mem_cons, List.not_mem_nil, or_false] at h
    rcases h with rfl | rfl
    · exact ⟨_, _, rfl⟩
    · exact ⟨_, _, rfl⟩
  · rcases k with _ | _ | k <;> rcases m with _ | _ | m <;> simp [wSeat, rcase] at h1 h2 ⊢ <;> omega
theorem wSeat_has {S qc : Nat} {c : Core1} {x : Nat} (h : (wSeat S qc c).has x) : x = c.wk ∨ x = qc := by
  obtain ⟨k, z, hk⟩ := h
  rcases k with _ | _ | k <;> simp [wSeat, rcase] at hk <;> omega
theorem wVal_q (S qc : Nat) (c : Core1) : wVal S qc c ⟨S, 4, none⟩ = some (.chan (some qc)) := by simp [wVal]
theorem wVal_w (S qc : Nat) (c : Core1) : wVal S qc c ⟨c.b, 1, none⟩ = some (.chan (some c.wk)) := by simp [wVal]
theorem wVal_of {S qc : Nat} {c : Core1} {a : Addr} {v : Value} (h : wVal S qc c a = some v) : (a = ⟨S, 4, none⟩ ∧ v = .chan (some qc)) ∨ (a = ⟨c.b, 1, none⟩ ∧ v = .chan (some c.wk)) := by
  unfold wVal at h
  split at h
  · exact .inl ⟨by assumption, (Option.some.inj h).symm⟩
  · split at h
    · exact .inr ⟨by assumption, (Option.some.inj h).symm⟩
    · cases h
theorem res0 (S qc : Nat) (c : Core1) (v : Value) (ok : Bool) : commResult (wSeat S qc c).cases (wSeat S qc c).shape ((0 : Nat) : Int) v ok = .tuple #[goInt 0, .bool ok, v, .int .i64 0] := by
  simp [wSeat, commResult, rcase, List.zipIdx_cons]
theorem res1 (S qc : Nat) (c : Core1) (v : Value) (ok : Bool) : commResult (wSeat S qc c).cases (wSeat S qc c).shape ((1 : Nat) : Int) v ok = .tuple #[goInt 1, .bool ok, .slice none 0 0, v] := by
  simp [wSeat, commResult, rcase, List.zipIdx_cons]
theorem array35 (T : Array Value) (h : T.size = 35) : ∃ v0 v1 v2 v3 v4 v5 v6 v7 v8 v9 v10 v11 v12 v13 v14 v15 v16 v17 v18 v19 v20 v21 v22 v23 v24 v25 v26 v27 v28 v29 v30 v31 v32 v33 v34, T = #[v0, v1, v2, v3, v4, v5, v6, v7, v8, v9, v10, v11, v12, v13, v14, v15, v16, v17, v18, v19, v20, v21, v22, v23, v24, v25, v26, v27, v28, v29, v30, v31, v32, v33, v34] := by
  obtain ⟨l⟩ := T
  simp only [List.size_toArray] at h
  obtain _ | ⟨v0, l⟩ := l
  · simp at h
  obtain _ | ⟨v1, l⟩ := l
  · simp at h
  obtain _ | ⟨v2, l⟩ := l
  · simp at h
  obtain _ | ⟨v3, l⟩ := l
  · simp at h
  obtain _ | ⟨v4, l⟩ := l
  · simp at h
  obtain _ | ⟨v5, l⟩ := l
  · simp at h
  obtain _ | ⟨v6, l⟩ := l
  · simp at h
  obtain _ | ⟨v7, l⟩ := l
  · simp at h
  obtain _ | ⟨v8, l⟩ := l
  · simp at h
  obtain _ | ⟨v9, l⟩ := l
  · simp at h
  obtain _ | ⟨v10, l⟩ := l
  · simp at h
  obtain _ | ⟨v11, l⟩ := l
  · simp at h
  obtain _ | ⟨v12, l⟩ := l
  · simp at h
  obtain _ | ⟨v13, l⟩ := l
  · simp at h
  obtain _ | ⟨v14, l⟩ := l
  · simp at h
  obtain _ | ⟨v15, l⟩ := l
  · simp at h
  obtain _ | ⟨v16, l⟩ := l
  · simp at h
  obtain _ | ⟨v17, l⟩ := l
  · simp at h
  obtain _ | ⟨v18, l⟩ := l
  · simp at h
  obtain _ | ⟨v19, l⟩ := l
  · simp at h
  obtain _ | ⟨v20, l⟩ := l
  · simp at h
  obtain _ | ⟨v21, l⟩ := l
  · simp at h
  obtain _ | ⟨v22, l⟩ := l
  · simp at h
  obtain _ | ⟨v23, l⟩ := l
  · simp at h
  obtain _ | ⟨v24, l⟩ := l
  · simp at h
  obtain _ | ⟨v25, l⟩ := l
  · simp at h
  obtain _ | ⟨v26, l⟩ := l
  · simp at h
  obtain _ | ⟨v27, l⟩ := l
  · simp at h
  obtain _ | ⟨v28, l⟩ := l
  · simp at h
  obtain _ | ⟨v29, l⟩ := l
  · simp at h
  obtain _ | ⟨v30, l⟩ := l
  · simp at h
  obtain _ | ⟨v31, l⟩ := l
  · simp at h
  obtain _ | ⟨v32, l⟩ := l
  · simp at h
  obtain _ | ⟨v33, l⟩ := l
  · simp at h
  obtain _ | ⟨v34, l⟩ := l
  · simp at h
  obtain _ | ⟨x, l⟩ := l
  · exact ⟨v0, v1, v2, v3, v4, v5, v6, v7, v8, v9, v10, v11, v12, v13, v14, v15, v16, v17, v18, v19, v20, v21, v22, v23, v24, v25, v26, v27, v28, v29, v30, v31, v32, v33, v34, rfl⟩
  · simp at h
section
variable {S qc : Nat} {c : Core1} {T : Array Value}
theorem WT.lit (h : WT S qc c T) : ∃ v3 v4 v5 v6 v7 v8 v9 v10 v11 v12 v14 v15 v16 v18 v19 v20 v21 v22 v23 v24 v25 v26 v27 v28 v29 v30 v31 v32 v33 v34,
    T = #[.pointer (some ⟨S, 0, none⟩), .int .i64 c.id, .pointer (some ⟨c.b, 0, none⟩), v3, v4, v5, v6, v7, v8, v9, v10, v11, v12, .chan (some c.wk), v14, v15, v16, .chan (some qc), v18, v19, v20, v21, v22, v23, v24, v25, v26, v27, v28, v29, v30, v31, v32, v33, v34] := by
  obtain ⟨v0, v1, v2, v3, v4, v5, v6, v7, v8, v9, v10, v11, v12, v13, v14, v15, v16, v17, v18, v19, v20, v21, v22, v23, v24, v25, v26, v27, v28, v29, v30, v31, v32, v33, v34, rfl⟩ := array35 T h.size
  have h0 := h.s
  have h1 := h.i
  have h2 := h.a
  have h3 := h.w
  have h4 := h.q
  simp only [List.getElem?_toArray, List.getElem?_cons_zero, List.getElem?_cons_succ, Option.some.injEq] at h0 h1 h2 h3 h4
  subst h0 h1 h2 h3 h4
  exact ⟨v3, v4, v5, v6, v7, v8, v9, v10, v11, v12, v14, v15, v16, v18, v19, v20, v21, v22, v23, v24, v25, v26, v27, v28, v29, v30, v31, v32, v33, v34, rfl⟩
set_option maxRecDepth 50000 in
set_option maxHeartbeats 4000000 in
theorem w_at (h : WT S qc c T) : AtIn Try.prog false (wChair S qc c).K (wChair S qc c).St (wChair S qc c).B (wChair S qc c).seat (wRec S T) (wRec S T) := by
  have hw : (wChair S qc c).seat.home (wRec S T) := ⟨T, h, rfl⟩
  obtain ⟨v3, v4, v5, v6, v7, v8, v9, v10, v11, v12, v14, v15, v16, v18, v19, v20, v21, v22, v23, v24, v25, v26, v27, v28, v29, v30, v31, v32, v33, v34, rfl⟩ := h.lit
  revert hw
  unfold wRec todoW wOps wLoop
  simp only [Try.f30, Option.getD_some]
  intro hw
  exact atIn_of (s := wSeat S qc c) rfl rfl (by decide) (fun w => by simp [go_sem, execOp, rcase, Act.eval, wSeat]) (fun w => by simp [go_sem, execOp, Act.eval]) hw
theorem way_seat (h : WT S qc c T) : Way Try.prog false (wChair S qc c) (wRec S T) := Way.here (w_at h)
theorem born_step (w : World) (args : Array Value) : stepG Try.prog false (born Try.prog (dcall 30 args)) w =
    .go (G ((baseD 30).at { tmps := args ++ Array.replicate (Try.f30.ntmps - args.size) undef, defers := [] } [.code (Try.f30.body.getD .skip)]) [botW]) w #[] := by
  simp [born, dcall, stepG, unwind, callDeferred, invoke, callFunc, Try.func30, Try.f30, seen, GStep.after, G, Frame.enter, Frame.at, baseD, botW]
set_option maxRecDepth 50000 in
set_option maxHeartbeats 4000000 in
/-- FROM ITS BIRTH. -/
theorem w_birth (S qc : Nat) (c : Core1) : Way Try.prog false (wChair S qc c) (born Try.prog (dcall 30 #[.pointer (some ⟨S, 0, none⟩), .int .i64 c.id, .pointer (some ⟨c.b, 0, none⟩)])) := by
  refine Way.ctl (fun w => born_step w _) rfl ?_
  simp only [Try.ntmps30]
  try simp only [Act.put, Act.eval, nrmL, Nat.reduceAdd, Nat.reduceSub]
  simp only [Try.f30, Option.getD_some]
  repeat (first | refine Way.auto rfl ?_ | ((first | (apply Way.qo rfl rfl rfl (by decide) (fun _ => by simp [go_sem, *]); (focus (intro w K hK; go_simp; exact hK))) | refine Way.not rfl rfl ?_); try simp only [Act.put, Act.eval, nrmL, Nat.reduceAdd]) | (refine Way.rg ?_; simp only [nrmL, rngL, Nat.reduceAdd]) | refine Way.cT rfl ?_ | refine Way.cF rfl ?_ | refine Way.rt ?_ | refine Way.nd ?_)
  refine Way.defer rfl rfl (by decide) rfl ?_
  try simp only [Act.put, Act.eval, nrmL, Nat.reduceAdd]
  repeat (first | refine Way.auto rfl ?_ | ((first | (apply Way.qo rfl rfl rfl (by decide) (fun _ => by simp [go_sem, *]); (focus (intro w K hK; go_simp; exact hK))) | refine Way.not rfl rfl ?_); try simp only [Act.put, Act.eval, nrmL, Nat.reduceAdd]) | (refine Way.rg ?_; simp only [nrmL, rngL, Nat.reduceAdd]) | refine Way.cT rfl ?_ | refine Way.cF rfl ?_ | refine Way.rt ?_ | refine Way.nd ?_)
  refine Way.ctl (fun _ => stepG_loop) rfl ?_
  repeat (first | refine Way.auto rfl ?_ | ((first | (apply Way.qo rfl rfl rfl (by decide) (fun _ => by simp [go_sem, *]); (focus (intro w K hK; go_simp; exact hK))) | refine Way.not rfl rfl ?_); try simp only [Act.put, Act.eval, nrmL, Nat.reduceAdd]) | (refine Way.rg ?_; simp only [nrmL, rngL, Nat.reduceAdd]) | refine Way.cT rfl ?_ | refine Way.cF rfl ?_ | refine Way.rt ?_ | refine Way.nd ?_)
  refine Way.ld (a := ⟨c.b, 1, none⟩) (v := .chan (some c.wk)) rfl rfl (by decide) (wVal_w S qc c) ((show c.b < max S c.b + 1 by omega)) (fun w₁ hld => ⟨by go_simp, by simp [go_sem, hld]⟩) ?_
  try simp only [Act.put, Act.eval, nrmL, Nat.reduceAdd]
  repeat (first | refine Way.auto rfl ?_ | ((first | (apply Way.qo rfl rfl rfl (by decide) (fun _ => by simp [go_sem, *]); (focus (intro w K hK; go_simp; exact hK))) | refine Way.not rfl rfl ?_); try simp only [Act.put, Act.eval, nrmL, Nat.reduceAdd]) | (refine Way.rg ?_; simp only [nrmL, rngL, Nat.reduceAdd]) | refine Way.cT rfl ?_ | refine Way.cF rfl ?_ | refine Way.rt ?_ | refine Way.nd ?_)
  refine Way.ld (a := ⟨S, 4, none⟩) (v := .chan (some qc)) rfl rfl (by decide) (wVal_q S qc c) ((show S < max S c.b + 1 by omega)) (fun w₁ hld => ⟨by go_simp, by simp [go_sem, hld]⟩) ?_
  try simp only [Act.put, Act.eval, nrmL, Nat.reduceAdd]
  repeat (first | refine Way.auto rfl ?_ | ((first | (apply Way.qo rfl rfl rfl (by decide) (fun _ => by simp [go_sem, *]); (focus (intro w K hK; go_simp; exact hK))) | refine Way.not rfl rfl ?_); try simp only [Act.put, Act.eval, nrmL, Nat.reduceAdd]) | (refine Way.rg ?_; simp only [nrmL, rngL, Nat.reduceAdd]) | refine Way.cT rfl ?_ | refine Way.cF rfl ?_ | refine Way.rt ?_ | refine Way.nd ?_)
  exact way_seat (T := _) ⟨rfl, rfl, rfl, rfl, rfl, rfl⟩
theorem w_leaves (T : Array Value) (k : List Item) : Qt Try.prog false KT Ended 0 (G { (baseD 30).at ⟨T, []⟩ k with mode := .returning } [botW]) := by
  refine Qt.ctl (g' := G botW []) (fun w => ?_) rfl ?_
  · simp [G, stepG, unwind, doReturn, results, Frame.at, baseD, botW, Try.func30, Try.f30, seen, GStep.after, goexitEntry]
  refine Qt.ctl (g' := { G botW [] with status := .finished }) (fun w => ?_) rfl (Qt.stop ⟨rfl, rfl⟩)
  simp [G, stepG, unwind, botW, goexitEntry, Frame.catches]
  rfl
set_option maxRecDepth 50000 in
set_option maxHeartbeats 4000000 in
/-- THE QUIT CHANNEL IS CLOSED. -/
theorem w_quit (h : WT S qc c T) (z : Value) : Qt Try.prog false (KS (wst S) (wsm S)) (AtRelm Try.prog (wst S) (wsm S)) 0 (Go.Conc.served (wRec S T) (commResult (wChair S qc c).seat.cases (wChair S qc c).seat.shape ((1 : Nat) : Int) z false)) := by
  rw [show commResult (wChair S qc c).seat.cases (wChair S qc c).seat.shape ((1 : Nat) : Int) z false = _ from res1 S qc c z false]
  obtain ⟨v3, v4, v5, v6, v7, v8, v9, v10, v11, v12, v14, v15, v16, v18, v19, v20, v21, v22, v23, v24, v25, v26, v27, v28, v29, v30, v31, v32, v33, v34, rfl⟩ := h.lit
  clear h
  unfold wRec todoW wOps wBlk wLoop
  simp only [Try.f30, Option.getD_some]
  rw [show ∀ (fr : Frame) (cs : List Frame) (v : Value), Go.Conc.served (G fr cs) v = G (fr.finish v) cs from fun _ _ _ => rfl, Frame.finish_at]
  try simp only [Act.put, Act.eval, nrmL, Nat.reduceAdd]
  repeat (first | refine Qt.auto rfl ?_ | ((first | (apply Qt.qo rfl rfl rfl (by decide) (fun _ => by simp [go_sem, *]); (focus (intro w K hK; go_simp; exact hK))) | refine Qt.not rfl rfl ?_); try simp only [Act.put, Act.eval, nrmL, Nat.reduceAdd]) | (refine Qt.rg ?_; simp only [nrmL, rngL, Nat.reduceAdd]) | refine Qt.cT rfl ?_ | refine Qt.cF rfl ?_ | refine Qt.rt ?_ | refine Qt.nd ?_)
  refine Qt.undefer rfl Try.func57 (by kernel_rfl) rfl ?_
  simp only [Try.ntmps57]
  try simp only [Act.put, Act.eval, nrmL, Nat.reduceAdd, Nat.reduceSub]
  refine add_neg rfl ?_
  exact w_leaves _ _
end
end Go.Proofs.Ytfpkachoneaaeaa
namespace Go.Proofs.Ytfpkachoneaaeaa
open Go Go.Conc
section
variable {P : Program} {Post : Value → World → Prop} {Z : Scene} {n h k : Nat} {w : World} {b : Frame} {x : Act} {kk : List Item} {cs : List Frame} {ops : Array Oper} {i : Nat} {rest : List Nat} {o : Oper}
theorem run_call_func {f : FuncId} {fn : Func} {X : Operand} {args : Array Operand} {ats : Array TypeId} {caps : Array Value} (hop : o.op = .call { callee := .value X, args, argTypes := ats }) (hx : x.eval X = .func (.func f) #[] caps)
    (hf : P.funcs[f]? = some fn) (hname : (fn.name == "runtime.NumGoroutine") = false) (hb : fn.body.isNone = false) : (execOp x.eval o).run P w = .ok (.enter f (args.map x.eval ++ caps)) w ∧ (execOp x.eval o).events P w #[] = #[] := by
  have h1 : ¬ fn.name = "runtime.NumGoroutine" := by simpa using hname
  have h2 : ¬ fn.body = none := by cases hx : fn.body <;> simp_all
  unfold execOp
  simp [hop, resolve, hx, Deferred.ofValue, invoke, callFunc, hf, h1, h2]
/-- A function value is called. -/
theorem Run.enterV {f : FuncId} {fn : Func} {c : Code} {X : Operand} {args : Array Operand} {ats : Array TypeId} {caps : Array Value} (ho : ops[i]? = some o) (hw : Region.wanted o (yielded ops x.tmps) = true) (hk : b.kind ≠ .early)
    (hop : o.op = .call { callee := .value X, args, argTypes := ats }) (hx : x.eval X = .func (.func f) #[] caps) (hf : P.funcs[f]? = some fn) (hname : (fn.name == "runtime.NumGoroutine") = false) (hb : fn.body = some c)
    (H : Run P Post Z n h k (G ((base f).at { tmps := (args.map x.eval ++ caps) ++ Array.replicate (fn.ntmps - (args.map x.eval ++ caps).size) undef, defers := [] } [.code c]) (b.at x (.inRegion ops (i :: rest) :: kk) :: cs)) w) :
    Run P Post Z n h k (G (b.at x (.inRegion ops (i :: rest) :: kk)) cs) w := by
  have hb' : fn.body.isNone = false := by rw [hb]; rfl
  refine Run.ctl (fun w => ?_) rfl H
  obtain ⟨e1, e2⟩ := run_call_func (w := w) hop hx hf hname hb'
  rw [stepG_enter ho hw hk e1, enter_at _ hf hb, listed_none e2]
end
theorem send_step {P : Program} {b : Frame} {x : Act} {kk : List Item} {cs : List Frame} {ops : Array Oper} {i : Nat} {rest : List Nat} {o : Oper} {c : Nat} {v z' : Value} (ho : ops[i]? = some o) (hw : Region.wanted o (yielded ops x.tmps) = true) (hk : b.kind ≠ .early)
    (hr : ∀ w, (execOp x.eval o).run P w = .ok (.comm #[scase c v z'] true .send) w) (he : ∀ w, (execOp x.eval o).events P w #[] = #[]) (m : Bool) (w : World) :
    stepG P m (G (b.at x (.inRegion ops (i :: rest) :: kk)) cs) w = .comm (G (b.at x (.inRegion ops (i :: rest) :: kk)) cs) #[scase c v z'] true .send w #[] := by
  rw [stepG_comm ho hw hk (hr w), listed_none (he w)]
/-- Behind the work: the answer, and the way back. -/
def WBack (S qc : Nat) (c : Core1) (c0 : Frame) : Prop :=
  ∀ (Post : Value → World → Prop) (Z : Scene) (n j : Nat) (w : World), w.cell? ⟨c.b, 2, none⟩ = some (.chan (some c.dn)) → ¬ Z.Sh (.cell ⟨c.b, 2, none⟩) →
    (∀ (a a₂ : Goroutine) (z' : Value), a.status = .running → (∀ (m : Bool) (w : World), stepG Try.prog m a w = .comm a₂ #[scase c.dn (.int .i64 c.id) z'] true .send w #[]) → Way Try.prog false (wChair S qc c) (Go.Conc.served a₂ undef) → Run Try.prog Post Z n j 0 a w) →
    Run Try.prog Post Z n j 0 (G (c0.finish (.tuple #[])) [botW]) w
section
variable {Post : Value → World → Prop} {Z : Scene} {n j : Nat} {w : World} {S qc : Nat} {c : Core1} {T : Array Value}
set_option maxRecDepth 50000 in
set_option maxHeartbeats 4000000 in
theorem w_serve (h : WT S qc c T) {item : Value} {cf : FuncId} {fn : Func} {body : Code} {caps : Array Value} (hf : Try.prog.funcs[cf]? = some fn) (hname : (fn.name == "runtime.NumGoroutine") = false) (hb : fn.body = some body)
    (hdo : w.cell? ⟨S, 0, none⟩ = some (.func (.func cf) #[] caps)) (hns : ¬ Z.Sh (.cell ⟨S, 0, none⟩))
    (H : ∀ c0, WBack S qc c c0 → Run Try.prog Post Z n j 0 (G ((base cf).at { tmps := (#[.int .i64 c.id, item] ++ caps) ++ Array.replicate (fn.ntmps - (#[.int .i64 c.id, item] ++ caps).size) undef, defers := [] } [.code body]) [c0, botW]) w) :
    Run Try.prog Post Z n j 0 (Go.Conc.served (wRec S T) (commResult (wChair S qc c).seat.cases (wChair S qc c).seat.shape ((0 : Nat) : Int) item true)) w := by
  rw [show commResult (wChair S qc c).seat.cases (wChair S qc c).seat.shape ((0 : Nat) : Int) item true = _ from res0 S qc c item true]
  obtain ⟨v3, v4, v5, v6, v7, v8, v9, v10, v11, v12, v14, v15, v16, v18, v19, v20, v21, v22, v23, v24, v25, v26, v27, v28, v29, v30, v31, v32, v33, v34, rfl⟩ := h.lit
  clear h
  unfold wRec todoW wOps wBlk wLoop
  simp only [Try.f30, Option.getD_some]
  rw [show ∀ (fr : Frame) (cs : List Frame) (v : Value), Go.Conc.served (G fr cs) v = G (fr.finish v) cs from fun _ _ _ => rfl, Frame.finish_at]
  try simp only [Act.put, Act.eval, nrmL, Nat.reduceAdd]
  repeat (first | refine Run.auto rfl ?_ | ((first | (refine Run.quietop rfl rfl rfl (by decide) ?_ ?_; (focus (intro w₁; simp [go_sem]; done)); intro w₁ K hK; go_simp; refine hK _ ?_; clear hK K w₁) | (refine Run.not rfl rfl ?_)); try simp only [Act.put, Act.eval, nrmL, Nat.reduceAdd]) | (refine Run.rg ?_; simp only [nrmL, rngL, Nat.reduceAdd]) | refine Run.cT rfl ?_ | refine Run.cF rfl ?_ | refine Run.rt ?_ | refine Run.nd ?_)
  refine Run.ld (a := ⟨S, 0, none⟩) (v := .func (.func cf) #[] caps) rfl rfl (by decide) (hdo) (hns) (fun w₁ hld => ⟨by go_simp, by simp [go_sem, hld]⟩) ?_
  try simp only [Act.put, Act.eval, nrmL, Nat.reduceAdd]
  repeat (first | refine Run.auto rfl ?_ | ((first | (refine Run.quietop rfl rfl rfl (by decide) ?_ ?_; (focus (intro w₁; simp [go_sem]; done)); intro w₁ K hK; go_simp; refine hK _ ?_; clear hK K w₁) | (refine Run.not rfl rfl ?_)); try simp only [Act.put, Act.eval, nrmL, Nat.reduceAdd]) | (refine Run.rg ?_; simp only [nrmL, rngL, Nat.reduceAdd]) | refine Run.cT rfl ?_ | refine Run.cF rfl ?_ | refine Run.rt ?_ | refine Run.nd ?_)
  refine Run.enterV rfl rfl (by decide) rfl rfl hf hname hb ?_
  simp only [Act.eval, List.map_toArray, List.map_cons, List.map_nil, Array.getD_eq_getD_getElem?, List.getElem?_toArray, List.getElem?_cons_succ, List.getElem?_cons_zero, Option.getD_some]
  refine H _ ?_
  intro Post' Z' n' j' w' hd hs hcont
  rw [Frame.finish_at]
  try simp only [Act.put, Act.eval, nrmL, Nat.reduceAdd]
  repeat (first | refine Run.auto rfl ?_ | ((first | (refine Run.quietop rfl rfl rfl (by decide) ?_ ?_; (focus (intro w₁; simp [go_sem]; done)); intro w₁ K hK; go_simp; refine hK _ ?_; clear hK K w₁) | (refine Run.not rfl rfl ?_)); try simp only [Act.put, Act.eval, nrmL, Nat.reduceAdd]) | (refine Run.rg ?_; simp only [nrmL, rngL, Nat.reduceAdd]) | refine Run.cT rfl ?_ | refine Run.cF rfl ?_ | refine Run.rt ?_ | refine Run.nd ?_)
  refine Run.ld (a := ⟨c.b, 2, none⟩) (v := .chan (some c.dn)) rfl rfl (by decide) (hd) (hs) (fun w₁ hld => ⟨by go_simp, by simp [go_sem, hld]⟩) ?_
  try simp only [Act.put, Act.eval, nrmL, Nat.reduceAdd]
  repeat (first | refine Run.auto rfl ?_ | ((first | (refine Run.quietop rfl rfl rfl (by decide) ?_ ?_; (focus (intro w₁; simp [go_sem]; done)); intro w₁ K hK; go_simp; refine hK _ ?_; clear hK K w₁) | (refine Run.not rfl rfl ?_)); try simp only [Act.put, Act.eval, nrmL, Nat.reduceAdd]) | (refine Run.rg ?_; simp only [nrmL, rngL, Nat.reduceAdd]) | refine Run.cT rfl ?_ | refine Run.cF rfl ?_ | refine Run.rt ?_ | refine Run.nd ?_)
  refine hcont _ _ (.tuple #[]) rfl (send_step rfl rfl (by decide) (fun w => by simp [execOp, scase, Act.eval]) (fun w => by simp [go_sem, execOp, Act.eval])) ?_
  rw [show ∀ (fr : Frame) (cs : List Frame) (v : Value), Go.Conc.served (G fr cs) v = G (fr.finish v) cs from fun _ _ _ => rfl, Frame.finish_at]
  try simp only [Act.put, Act.eval, nrmL, Nat.reduceAdd]
  repeat (first | refine Way.auto rfl ?_ | ((first | (apply Way.qo rfl rfl rfl (by decide) (fun _ => by simp [go_sem, *]); (focus (intro w K hK; go_simp; exact hK))) | refine Way.not rfl rfl ?_); try simp only [Act.put, Act.eval, nrmL, Nat.reduceAdd]) | (refine Way.rg ?_; simp only [nrmL, rngL, Nat.reduceAdd]) | refine Way.cT rfl ?_ | refine Way.cF rfl ?_ | refine Way.rt ?_ | refine Way.nd ?_)
  refine Way.ctl (fun _ => stepG_inLoop) rfl ?_
  repeat (first | refine Way.auto rfl ?_ | ((first | (apply Way.qo rfl rfl rfl (by decide) (fun _ => by simp [go_sem, *]); (focus (intro w K hK; go_simp; exact hK))) | refine Way.not rfl rfl ?_); try simp only [Act.put, Act.eval, nrmL, Nat.reduceAdd]) | (refine Way.rg ?_; simp only [nrmL, rngL, Nat.reduceAdd]) | refine Way.cT rfl ?_ | refine Way.cF rfl ?_ | refine Way.rt ?_ | refine Way.nd ?_)
  refine Way.ld (a := ⟨c.b, 1, none⟩) (v := .chan (some c.wk)) rfl rfl (by decide) (wVal_w S qc c) ((show c.b < max S c.b + 1 by omega)) (fun w₁ hld => ⟨by go_simp, by simp [go_sem, hld]⟩) ?_
  try simp only [Act.put, Act.eval, nrmL, Nat.reduceAdd]
  repeat (first | refine Way.auto rfl ?_ | ((first | (apply Way.qo rfl rfl rfl (by decide) (fun _ => by simp [go_sem, *]); (focus (intro w K hK; go_simp; exact hK))) | refine Way.not rfl rfl ?_); try simp only [Act.put, Act.eval, nrmL, Nat.reduceAdd]) | (refine Way.rg ?_; simp only [nrmL, rngL, Nat.reduceAdd]) | refine Way.cT rfl ?_ | refine Way.cF rfl ?_ | refine Way.rt ?_ | refine Way.nd ?_)
  refine Way.ld (a := ⟨S, 4, none⟩) (v := .chan (some qc)) rfl rfl (by decide) (wVal_q S qc c) ((show S < max S c.b + 1 by omega)) (fun w₁ hld => ⟨by go_simp, by simp [go_sem, hld]⟩) ?_
  try simp only [Act.put, Act.eval, nrmL, Nat.reduceAdd]
  repeat (first | refine Way.auto rfl ?_ | ((first | (apply Way.qo rfl rfl rfl (by decide) (fun _ => by simp [go_sem, *]); (focus (intro w K hK; go_simp; exact hK))) | refine Way.not rfl rfl ?_); try simp only [Act.put, Act.eval, nrmL, Nat.reduceAdd]) | (refine Way.rg ?_; simp only [nrmL, rngL, Nat.reduceAdd]) | refine Way.cT rfl ?_ | refine Way.cF rfl ?_ | refine Way.rt ?_ | refine Way.nd ?_)
  exact way_seat (T := _) ⟨rfl, rfl, rfl, rfl, rfl, rfl⟩
end
end Go.Proofs.Ytfpkachoneaaeaa
