/-
  A step of a goroutine in a world in which more cells are frozen tells of the step in the world itself.
-/
import Derived.Test.YtfgpnfboolbbbaaBbOps5
import Derived.RunT
namespace Go.Proofs.Ytfgpnfboolbbbaa
open Go
/-- What is to do holds nothing but good code. -/
def ItemOk (ok : Oper → Prop) : Item → Prop
  | .code c | .inLoop c | .inScope c => CodeOk ok c
  | .inRegion ops _ => ∀ o ∈ ops, ok o
  | .call .. | .extern .. => False
  | _ => True
/-- The function's code is good. -/
def GoodFn (P : Program) (ok : Oper → Prop) (f : FuncId) : Prop := ∀ fn c, P.funcs[f]? = some fn → fn.body = some c → CodeOk ok c
structure FrameOk (P : Program) (ok : Oper → Prop) (fr : Frame) : Prop where
  todo : GoodFn P ok fr.fn → ∀ i ∈ fr.todo, ItemOk ok i
  defers : ∀ d ∈ fr.defers, DefOk d
  early : (fr.kind == .early) = false
  report : ∀ s : Unit, fr.kind ≠ .report
  calm : ∀ chain, fr.mode = .panicking chain → ∀ e ∈ chain, e.goexit = false
section
variable {P : Program} {ok : Oper → Prop}
theorem Tm.getLoop (l : Nat) : Tm P ok (fun r => ObjOk ok (.loop r)) (Instr.getLoop l) := by
  unfold Instr.getLoop
  refine Tm.gtB (fun o ho => ?_) (fun b o hj => .inl ?_)
  · split
    · exact Tm.ret ho
    · exact Tm.stk _ _
  · cases o <;> first | exact hj.elim | exact .inl ⟨_, rfl⟩
theorem Tm.enterLoop (fn : FuncId) (tmps : Array Value) (params : Array Tmp) (a b : Code) (ha : CodeOk ok a) (hb : CodeOk ok b) (r : Option Nat) : Tm P ok (fun x => ∀ d ∈ x.2, DefOk d) (Instr.enterLoop fn tmps params a b r) := by
  unfold Instr.enterLoop
  have h : ∀ (df : Nat) (mk : List Deferred), (∀ d ∈ mk, DefOk d) → Tm P ok (fun x => ∀ d ∈ x.2, DefOk d) (do let l ← newObj (.loop { state := .ready, pending := none, fn, tmps, params, assign := a, body := b, defers := df }); pure (l, mk) : Sem (Nat × List Deferred)) :=
    fun df mk hk => Tm.bnd (Tm.nw _ ⟨ha, hb, fun c hc => by cases hc⟩) (fun _ => Tm.ret hk)
  split
  · refine Tm.bndQ (Tm.getLoop _) (fun r _ => ?_)
    exact h _ _ (by simp)
  · refine Tm.bnd (Tm.nw _ (by intro d hd; cases hd)) (fun r => ?_)
    exact h _ _ (by simp [DefOk])
theorem Tm.beginRound (l : Nat) : Tm P ok T (Instr.beginRound l) := by
  unfold Instr.beginRound
  refine Tm.bndQ (Tm.getLoop l) (fun r hr => ?_)
  refine Tm.bnd (Tm.so _ _ hr) (fun _ => ?_)
  split
  · exact Tm.retT
  · exact Tm.runtimePanic _
  · exact Tm.runtimePanic _
  · exact Tm.runtimePanic _
theorem Tm.endRound (l : Nat) (j : Option Code) (hj : ∀ c, j = some c → CodeOk ok c) : Tm P ok T (Instr.endRound l j) := by
  unfold Instr.endRound
  refine Tm.bndQ (Tm.getLoop l) (fun r hr => ?_)
  exact Tm.bnd (Tm.so _ _ ⟨hr.1, hr.2.1, hj⟩) (fun _ => Tm.retT)
theorem Tm.endLoop (l : Nat) : Tm P ok (fun j => ∀ c, j = some c → CodeOk ok c) (Instr.endLoop l) := by
  unfold Instr.endLoop
  refine Tm.bndQ (Tm.getLoop l) (fun r hr => ?_)
  have h : Tm P ok (fun j => ∀ c, j = some c → CodeOk ok c) (do setObj l (.loop { r with state := .exhausted }); pure r.pending : Sem (Option Code)) := Tm.bnd (Tm.so _ _ hr) (fun _ => Tm.ret hr.2.2)
  dsimp only
  split
  · exact Tm.bnd (Tm.runtimePanic _) (fun _ => h)
  · exact h
theorem Tm.takeDeferred (b : Nat) : Tm P ok (fun ds => ∀ d ∈ ds, DefOk d) (Instr.takeDeferred b) := by
  unfold Instr.takeDeferred
  refine Tm.gtB (fun o ho => ?_) (fun b o hj => .inl ?_)
  · split
    · rename_i ds
      exact Tm.bnd (Tm.so _ _ trivial) (fun _ => Tm.ret ho)
    · exact Tm.stk _ _
  · cases o <;> first | exact hj.elim | exact .inl ⟨_, rfl⟩
theorem Tm.deferInRound (l : Nat) (d : Deferred) (hd : DefOk d) : Tm P ok T (Instr.deferInRound l d) := by
  unfold Instr.deferInRound
  refine Tm.bndQ (Tm.getLoop l) (fun r hr => ?_)
  refine Tm.gtB (fun o ho => ?_) (fun b o hj => .inl ?_)
  · split
    · rename_i ds
      refine Tm.so _ _ ?_
      intro d' h'
      rcases List.mem_cons.1 h' with rfl | h'
      · exact hd
      · exact ho _ h'
    · exact Tm.thr _ _
    · exact Tm.stk _ _
  · cases o <;> first | exact hj.elim | exact .inl ⟨_, rfl⟩
theorem Tm.results (fn : Func) (tmps : Array Value) : Tm P ok T (Go.results fn tmps) := by
  unfold Go.results
  refine Tm.bnd (Tm.mapM _ _ (fun r => ?_)) (fun vs => Tm.retT)
  split
  · exact Tm.retT
  · exact Tm.bnd (Tm.asAddr _) (fun a => Tm.loadVar _ _)
end
end Go.Proofs.Ytfgpnfboolbbbaa
namespace Go.Proofs.Ytfgpnfboolbbbaa
open Go
structure Went (ok : Oper → Prop) (Hd : Nat → Prop) (v v' : World) (es : Array Event) : Prop where
  evs : ∀ e ∈ es, EvOk Hd e
  size : v.heap.size ≤ v'.heap.size
  heap : HeapOk ok Hd v'
  chan : ∀ (c : Nat) (o : Obj), o.isChan = true → c < v.heap.size → v'.heap[c]? = some o → v.heap[c]? = some o
  draws : v'.tape = v.tape ∧ v.drawn ≤ v'.drawn
theorem After.went {ok : Oper → Prop} {Hd : Nat → Prop} {v v' : World} {es : Array Event} (h : After ok Hd v v' #[] es) : Went ok Hd v v' es := by
  obtain ⟨d, hd, he⟩ := h.evs
  refine ⟨fun e q => he e ?_, h.size, h.heap, h.chan, h.draws⟩
  rw [hd] at q
  simpa using q
theorem Went.sub {ok : Oper → Prop} {Hd : Nat → Prop} {v v' : World} {es es' : Array Event} (h : Went ok Hd v v' es) (hs : ∀ e ∈ es', e ∈ es) : Went ok Hd v v' es' :=
  ⟨fun e q => h.evs e (hs e q), h.size, h.heap, h.chan, h.draws⟩
theorem Went.refl {ok : Oper → Prop} {Hd : Nat → Prop} {v : World} (h : HeapOk ok Hd v) : Went ok Hd v v #[] := ⟨by simp, Nat.le_refl _, h, fun _ _ _ _ q => q, rfl, Nat.le_refl _⟩
theorem Went.trans {ok : Oper → Prop} {Hd : Nat → Prop} {v v1 v2 : World} {es es' : Array Event} (h : Went ok Hd v v1 es) (k : Went ok Hd v1 v2 es') : Went ok Hd v v2 (es ++ es') := by
  refine ⟨fun e q => ?_, Nat.le_trans h.size k.size, k.heap, fun c o ho hc q => h.chan c o ho hc (k.chan c o ho (Nat.lt_of_lt_of_le hc h.size) q), k.draws.1.trans h.draws.1, Nat.le_trans h.draws.2 k.draws.2⟩
  rcases Array.mem_append.1 q with q | q
  · exact h.evs e q
  · exact k.evs e q
structure GorOk (P : Program) (ok : Oper → Prop) (g : Goroutine) : Prop where
  running : g.status = .running
  living : g.dying = none
  quiet : g.offers = none
  frame : FrameOk P ok g.frame
  callers : ∀ c ∈ g.callers, FrameOk P ok c
def StepTold (P : Program) (ok : Oper → Prop) (Hd : Nat → Prop) (M : Lim) (cs : List Frame) (v : World) (s s' : GStep) : Prop :=
  match s with
  | .go g v' es => g.dying = none → GorOk P ok g ∧ Went ok Hd v v' es ∧ (v'.drawn ≤ M.lim → ∃ w', s' = .go { g with callers := g.callers ++ cs } w' es ∧ Like Hd M v' w')
  | .ended _ _ _ => True
  | _ => False
theorem StepTold.after {P : Program} {ok : Oper → Prop} {Hd : Nat → Prop} {M : Lim} {cs : List Frame} {v v1 : World} {s s' : GStep} {es : Array Event} (h : Went ok Hd v v1 es) (k : StepTold P ok Hd M cs v1 s s') : StepTold P ok Hd M cs v (GStep.after es s) (GStep.after es s') := by
  cases s <;> first | exact k.elim | exact trivial | skip
  intro hd
  obtain ⟨h1, h2, h3⟩ := k hd
  refine ⟨h1, h.trans h2, fun q => ?_⟩
  obtain ⟨w', rfl, h4⟩ := h3 q
  exact ⟨w', rfl, h4⟩
theorem StepTold.far {P : Program} {ok : Oper → Prop} {Hd : Nat → Prop} {M M' : Lim} {cs : List Frame} {v v1 : World} {s s' s'' : GStep} {es : Array Event} (h : Went ok Hd v v1 es) (hM : M.lim < v1.drawn) (k : StepTold P ok Hd M' cs v1 s s') : StepTold P ok Hd M cs v (GStep.after es s) s'' := by
  cases s <;> first | exact k.elim | exact trivial | skip
  intro hd
  obtain ⟨h1, h2, _⟩ := k hd
  exact ⟨h1, h.trans h2, fun q => by have := h2.draws.2; omega⟩
/-- Behind a run that is told of. -/
theorem StepTold.ran {P : Program} {ok : Oper → Prop} {Hd : Nat → Prop} {M : Lim} {cs : List Frame} {v v1 : World} {S s'' : GStep} {es : Array Event} {α : Type} {y : Result α × Array Event} {z : World → Result α × Array Event} (h : Went ok Hd v v1 es) (hx : v1.drawn ≤ M.lim → ∃ w', y = z w' ∧ Like Hd M v1 w')
    (F : World → GStep) (hF : ∀ w', y = z w' → s'' = GStep.after es (F w')) (key : ∀ (M : Lim) w', Like Hd M v1 w' → StepTold P ok Hd M cs v1 S (F w')) : StepTold P ok Hd M cs v (GStep.after es S) s'' := by
  rcases Nat.lt_or_ge M.lim v1.drawn with hM | hM
  · exact StepTold.far h hM (key _ v1 (Like.refl h.heap))
  · obtain ⟨w', e, hl⟩ := hx hM
    rw [hF w' e]
    exact StepTold.after h (key M w' hl)
theorem seen_sub (P : Program) (fn : FuncId) (es : Array Event) : ∀ e ∈ seen P fn es, e ∈ es := by
  intro e he
  unfold seen at he
  have key : ∀ (l : List Event) (q : Bool) (kept : Array Event), ∀ e ∈ (l.foldl (fun (x : Bool × Array Event) e => match e.loc with | .mark (.extern f) => ((P.funcs[f]?).any (·.norace), x.2) | _ => (x.1, if x.1 && !e.sync then x.2 else x.2.push e)) (q, kept)).2, e ∈ l ∨ e ∈ kept := by
    intro l
    induction l with
    | nil => intro q kept e he; exact .inr he
    | cons a l ih =>
      intro q kept e he
      rw [List.foldl_cons] at he
      dsimp only at he
      split at he
      · rcases ih _ _ e he with h | h
        · exact .inl (List.mem_cons_of_mem _ h)
        · exact .inr h
      · rcases ih _ _ e he with h | h
        · exact .inl (List.mem_cons_of_mem _ h)
        · split at h
          · exact .inr h
          · rcases Array.mem_push.1 h with h | h
            · exact .inr h
            · exact .inl (h ▸ List.mem_cons_self ..)
  dsimp only at he
  rw [← Array.foldl_toList] at he
  rcases key _ _ _ e he with h | h
  · simpa using h
  · simp at h
section
variable {P : Program} {ok : Oper → Prop} {fr : Frame}
theorem FrameOk.tmps (h : FrameOk P ok fr) (t : Array Value) : FrameOk P ok { fr with tmps := t } := ⟨h.todo, h.defers, h.early, h.report, h.calm⟩
theorem FrameOk.with (h : FrameOk P ok fr) (k : List Item) (hk : ∀ i ∈ k, ItemOk ok i) : FrameOk P ok { fr with todo := k } := ⟨fun _ => hk, h.defers, h.early, h.report, h.calm⟩
theorem FrameOk.mode (h : FrameOk P ok fr) (m : FrameMode) (hm : ∀ chain, m = .panicking chain → ∀ e ∈ chain, e.goexit = false) : FrameOk P ok { fr with mode := m } := ⟨h.todo, h.defers, h.early, h.report, hm⟩
theorem FrameOk.raise (h : FrameOk P ok fr) (c : List PanicEntry) (hc : ∀ e ∈ c, e.goexit = false) : FrameOk P ok (fr.raise c) := by
  unfold Frame.raise
  split
  · rename_i chain e
    refine h.mode _ (fun ch q x hx => ?_)
    cases q
    rcases List.mem_append.1 hx with hx | hx
    · exact hc x hx
    · exact h.calm chain e x hx
  · refine h.mode _ (fun ch q x hx => ?_)
    cases q
    exact hc x hx
theorem FrameOk.finish (h : FrameOk P ok fr) (v : Value) : FrameOk P ok (fr.finish v) := by
  have e1 : (fr.finish v).fn = fr.fn := by unfold Frame.finish; split <;> rfl
  have e2 : (fr.finish v).defers = fr.defers := by unfold Frame.finish; split <;> rfl
  have e3 : (fr.finish v).kind = fr.kind := by unfold Frame.finish; split <;> rfl
  have e4 : (fr.finish v).mode = fr.mode := by unfold Frame.finish; split <;> rfl
  refine ⟨fun hg => ?_, by rw [e2]; exact h.defers, by rw [e3]; exact h.early, by rw [e3]; exact h.report, by rw [e4]; exact h.calm⟩
  rw [e1] at hg
  have ht := h.todo hg
  unfold Frame.finish
  split <;> rename_i e
  · rw [e] at ht
    have h0 := ht _ (List.mem_cons_self ..)
    intro i hi
    rcases List.mem_cons.1 hi with rfl | hi
    · exact h0
    · exact ht i (List.mem_cons_of_mem _ hi)
  · rw [e] at ht
    intro i hi
    rcases List.mem_cons.1 hi with rfl | hi
    · trivial
    · exact ht i (List.mem_cons_of_mem _ hi)
  · rw [e] at ht
    exact fun i hi => ht i (List.mem_cons_of_mem _ hi)
  · rw [e] at ht
    exact (ht _ (List.mem_cons_self ..)).elim
  · rw [e] at ht
    exact (ht _ (List.mem_cons_self ..)).elim
  · exact ht
theorem FrameOk.enter (f : FuncId) (args : Array Value) (k : CallKind) (hk : (k == .early) = false) (hr : k ≠ .report) : FrameOk P ok (Frame.enter P f args k) := by
  unfold Frame.enter
  refine ⟨fun hf i hi => ?_, by simp, hk, fun _ => hr, fun c q => by cases q⟩
  obtain rfl : i = _ := by simpa using hi
  cases e : P.funcs[f]? with
  | none => trivial
  | some fn =>
    cases e2 : fn.body with
    | none => simp only [Option.bind_some, e2, Option.getD_none]; trivial
    | some c => simp only [Option.bind_some, e2, Option.getD_some]; exact hf fn c e e2
theorem FrameOk.round (l : Nat) (f : FuncId) (t : Array Value) (a b : Code) (k : CallKind) (hk : (k == .early) = false) (hr : k ≠ .report) (ha : CodeOk ok a) (hb : CodeOk ok b) : FrameOk P ok (Frame.round l f t a b k) := by
  unfold Frame.round
  refine ⟨fun _ i hi => ?_, by simp, hk, fun _ => hr, fun c q => by cases q⟩
  simp only [List.mem_cons, List.not_mem_nil, or_false] at hi
  rcases hi with rfl | rfl | rfl
  · exact ha
  · trivial
  · exact hb
theorem FrameOk.defer (h : FrameOk P ok fr) {d : Deferred} (hd : DefOk d) : FrameOk P ok { fr with defers := d :: fr.defers } := by
  refine ⟨h.todo, fun d' hd' => ?_, h.early, h.report, h.calm⟩
  rcases List.mem_cons.1 hd' with rfl | q
  · exact hd
  · exact h.defers _ q
end
section
variable {P : Program} {ok : Oper → Prop} {Hd : Nat → Prop} {M : Lim} {fr : Frame} {callers cs : List Frame} {v w : World}
theorem FrameOk.noCall (h : FrameOk P ok fr) (hgd : GoodFn P ok fr.fn) : (match fr.todo with | .call _ true _ _ :: _ => CallKind.wrapped | _ => .normal) = .normal := by
  have ht := h.todo hgd
  split
  · rename_i e
    rw [e] at ht
    exact (ht _ (List.mem_cons_self ..)).elim
  · rfl
theorem fatal_told {s' : GStep} (m : String) : StepTold P ok Hd M cs v (endFatal P fr callers none m v) s' := by
  unfold endFatal
  simp only
  split
  · exact fun hd => by cases hd
  · exact trivial
  · exact trivial
theorem apply_told (hgd : GoodFn P ok fr.fn) (hfr : FrameOk P ok fr) (hcs : ∀ c ∈ callers, FrameOk P ok c) (s : Sem Next) (hs : Tm P ok (NextOk P ok) s) (hl : Like Hd M v w) (hv : HeapOk ok Hd v) :
    StepTold P ok Hd M cs v (stepG.apply P true fr callers none s v) (stepG.apply P true fr (callers ++ cs) none s w) := by
  have ht := tm_sim s hs v w hl hv #[]
  unfold stepG.apply
  simp only [if_true, hfr.noCall hgd, hfr.early, Bool.false_eq_true, if_false]
  generalize s.runT P v #[] = x at ht ⊢
  generalize s.runT P w #[] = y at ht ⊢
  obtain ⟨r, es⟩ := x
  cases r with
  | ok n v' =>
    obtain ⟨hq, ha, hx⟩ := ht
    refine StepTold.ran (v1 := v') (ha.went.sub (seen_sub _ _ _)) hx _ (fun w' e => by rw [e]) (fun M w' hl' => ?_)
    have hr := Went.refl ha.heap
    cases n <;> try (exact hq.elim)
    case value x => exact fun _ => ⟨⟨rfl, rfl, rfl, hfr.finish _, hcs⟩, hr, fun _ => ⟨_, rfl, hl'⟩⟩
    case skip => exact fun _ => ⟨⟨rfl, rfl, rfl, hfr.finish _, hcs⟩, hr, fun _ => ⟨_, rfl, hl'⟩⟩
    case enter f args => exact fun _ => ⟨⟨rfl, rfl, rfl, FrameOk.enter f args _ (by split <;> rfl) (by split <;> (intro q; cases q)), fun c hc => (List.mem_cons.1 hc).elim (fun q => q ▸ hfr) (hcs c)⟩, hr, fun _ => ⟨_, rfl, hl'⟩⟩
    case round l f t a b => exact fun _ => ⟨⟨rfl, rfl, rfl, FrameOk.round l f t a b _ rfl (by intro q; cases q) hq.1 hq.2, fun c hc => (List.mem_cons.1 hc).elim (fun q => q ▸ hfr) (hcs c)⟩, hr, fun _ => ⟨_, rfl, hl'⟩⟩
    case defer d => exact fun _ => ⟨⟨rfl, rfl, rfl, (hfr.defer hq).finish _, hcs⟩, hr, fun _ => ⟨_, rfl, hl'⟩⟩
  | halt h v' =>
    rcases ht with l | ⟨hh, ha, hx⟩
    · have l' := l.ok
      rcases l with ⟨s, rfl⟩ | ⟨u, rfl, hu⟩
      · exact trivial
      · cases u <;> first | exact trivial | exact l'.elim
    · cases h <;> try (first | exact trivial | exact hh.elim)
      case panic x =>
        exact StepTold.ran (v1 := v') (ha.went.sub (seen_sub _ _ _)) hx _ (fun w' e => by rw [e]) (fun M w' hl' => fun _ => ⟨⟨rfl, rfl, rfl, hfr.raise _ (by simp), hcs⟩, Went.refl ha.heap, fun _ => ⟨_, rfl, hl'⟩⟩)
      case unsupported u => cases u <;> first | exact trivial | exact hh.elim
      case throw m => exact fun hd => by cases hd
      case fatal m => exact StepTold.ran (v1 := v') (ha.went.sub (seen_sub _ _ _)) hx _ (fun w' e => by rw [e]) (fun M w' hl' => fatal_told m)
end
end Go.Proofs.Ytfgpnfboolbbbaa
namespace Go.Proofs.Ytfgpnfboolbbbaa
open Go
section
variable {P : Program} {ok : Oper → Prop} {Hd : Nat → Prop} {M : Lim} {fr : Frame} {callers cs : List Frame} {v w : World}
theorem doReturn_told {m : Bool} (hfr : FrameOk P ok fr) (hcs : ∀ c ∈ callers, FrameOk P ok c) (hin : P.inits.idxOf? fr.fn = none) (x : Value) (hl : Like Hd M v w) (hv : HeapOk ok Hd v) :
    StepTold P ok Hd M cs v (doReturn P true fr callers none x v) (doReturn P m fr (callers ++ cs) none x w) := by
  unfold doReturn
  cases callers with
  | nil =>
    simp only [hin]
    cases hk : fr.kind
    case early => have := hfr.early; rw [hk] at this; cases this
    case report => exact (hfr.report () hk).elim
    all_goals exact trivial
  | cons c rest =>
    have hc := hcs c (List.mem_cons_self ..)
    have hr : ∀ c ∈ rest, FrameOk P ok c := fun c q => hcs c (List.mem_cons_of_mem _ q)
    simp only [List.cons_append]
    cases hk : fr.kind
    case early => have := hfr.early; rw [hk] at this; cases this
    case report => exact (hfr.report () hk).elim
    case normal => exact fun _ => ⟨⟨rfl, rfl, rfl, hc.finish _, hr⟩, Went.refl hv, fun _ => ⟨_, rfl, hl⟩⟩
    case wrapped => exact fun _ => ⟨⟨rfl, rfl, rfl, hc.finish _, hr⟩, Went.refl hv, fun _ => ⟨_, rfl, hl⟩⟩
    case deferred =>
      refine fun _ => ⟨⟨rfl, rfl, rfl, ?_, hr⟩, Went.refl hv, fun _ => ⟨_, rfl, hl⟩⟩
      dsimp only
      split
      · rename_i x1 older e1
        have h1 := hc.calm _ e1
        have h2 : ∀ e ∈ older.dropWhile (!·.goexit), e.goexit = false := fun e he => h1 e (List.mem_cons_of_mem _ ((List.dropWhile_sublist _).subset he))
        split
        · exact hc.mode _ (fun ch q => by cases q)
        · exact hc.mode _ (fun ch q x hx => by cases q; exact h2 x hx)
      · exact hc
theorem StepTold.ite {c : Prop} [Decidable c] {s s' t t' : GStep} (h1 : c → StepTold P ok Hd M cs v s s') (h2 : ¬c → StepTold P ok Hd M cs v t t') : StepTold P ok Hd M cs v (if c then s else t) (if c then s' else t') := by
  split
  · exact h1 ‹_›
  · exact h2 ‹_›
theorem callDeferred_told (okf : FuncId → Prop) (hm : OkMethods P okf) (hf : ∀ f, okf f → OkFn P ok f) (hfr : FrameOk P ok fr) (hcs : ∀ c ∈ callers, FrameOk P ok c) (d : Deferred) (hd : DefOk d) (ht : OkTarget okf d.target) (hl : Like Hd M v w) (hv : HeapOk ok Hd v) :
    StepTold P ok Hd M cs v (callDeferred P fr callers none d v) (callDeferred P fr (callers ++ cs) none d w) := by
  have hs := tm_sim _ (Tm.invoke (ok := ok) okf hm hf d.target d.args ht) v w hl hv #[]
  unfold callDeferred
  refine StepTold.ite (fun _ => trivial) (fun _ => ?_)
  generalize (invoke d.target d.args).runT P v #[] = x at hs ⊢
  generalize (invoke d.target d.args).runT P w #[] = y at hs ⊢
  obtain ⟨r, es⟩ := x
  cases r with
  | ok n v' =>
    obtain ⟨hq, ha, hx⟩ := hs
    refine StepTold.ran (v1 := v') (ha.went.sub (seen_sub _ _ _)) hx _ (fun w' e => by rw [e]) (fun M w' hl' => ?_)
    have hr := Went.refl ha.heap
    cases n <;> try (exact hq.elim)
    case value x => exact fun _ => ⟨⟨rfl, rfl, rfl, hfr, hcs⟩, hr, fun _ => ⟨_, rfl, hl'⟩⟩
    case skip => exact fun _ => ⟨⟨rfl, rfl, rfl, hfr, hcs⟩, hr, fun _ => ⟨_, rfl, hl'⟩⟩
    case enter f args => exact fun _ => ⟨⟨rfl, rfl, rfl, FrameOk.enter f args _ rfl (by intro q; cases q), fun c hc => (List.mem_cons.1 hc).elim (fun q => q ▸ hfr) (hcs c)⟩, hr, fun _ => ⟨_, rfl, hl'⟩⟩
    case round l f t a b => exact fun _ => ⟨⟨rfl, rfl, rfl, FrameOk.round l f t a b _ rfl (by intro q; cases q) hq.1 hq.2, fun c hc => (List.mem_cons.1 hc).elim (fun q => q ▸ hfr) (hcs c)⟩, hr, fun _ => ⟨_, rfl, hl'⟩⟩
    case defer d => exact fun _ => ⟨⟨rfl, rfl, rfl, hfr, hcs⟩, hr, fun _ => ⟨_, rfl, hl'⟩⟩
  | halt h v' =>
    rcases hs with l | ⟨hh, ha, hx⟩
    · have l' := l.ok
      rcases l with ⟨s, rfl⟩ | ⟨u, rfl, hu⟩
      · exact trivial
      · cases u <;> first | exact trivial | exact l'.elim
    · cases h <;> try (first | exact trivial | exact hh.elim)
      case panic x =>
        refine StepTold.ran (v1 := v') (ha.went.sub (seen_sub P fr.fn es)) hx _ (fun w' e => by rw [e]) (fun M w' hl' => ?_)
        exact fun _ => ⟨⟨rfl, rfl, rfl, hfr.raise _ (by simp), hcs⟩, Went.refl ha.heap, fun _ => ⟨_, rfl, hl'⟩⟩
      case throw m => exact fun hd => by cases hd
      case fatal m =>
        refine StepTold.ran (v1 := v') (ha.went.sub (seen_sub P fr.fn es)) hx _ (fun w' e => by rw [e]) (fun M w' hl' => ?_)
        exact fatal_told m
end
end Go.Proofs.Ytfgpnfboolbbbaa
namespace Go.Proofs.Ytfgpnfboolbbbaa
open Go
section
variable {P : Program} {ok : Oper → Prop} {Hd : Nat → Prop} {M : Lim} {fr : Frame} {callers cs : List Frame} {v w : World}
theorem unwind_told {m : Bool} (okf : FuncId → Prop) (hm : OkMethods P okf) (hf : ∀ f, okf f → OkFn P ok f) (hfr : FrameOk P ok fr) (hcs : ∀ c ∈ callers, FrameOk P ok c) (hin : P.inits.idxOf? fr.fn = none)
    (hrun : fr.mode ≠ .run) (hab : ∀ f, fr.about P v = some f → okf f) (hl : Like Hd M v w) (hv : HeapOk ok Hd v) :
    StepTold P ok Hd M cs v (unwind P true fr callers none v) (unwind P m fr (callers ++ cs) none w) := by
  unfold unwind
  cases hd : fr.defers with
  | cons d ds =>
    have hds : ∀ d' ∈ d :: ds, DefOk d' := by rw [← hd]; exact hfr.defers
    have hfr' : FrameOk P ok { fr with defers := ds } := ⟨hfr.todo, fun d' h => hds d' (List.mem_cons_of_mem _ h), hfr.early, hfr.report, hfr.calm⟩
    obtain ⟨t, args⟩ := d
    by_cases ht : ∃ b, t = .collected b
    · obtain ⟨b, rfl⟩ := ht
      dsimp only
      have hs := tm_sim _ (Tm.takeDeferred (P := P) (ok := ok) b) v w hl hv #[]
      generalize (Instr.takeDeferred b).runT P v #[] = x at hs ⊢
      generalize (Instr.takeDeferred b).runT P w #[] = y at hs ⊢
      obtain ⟨r, es⟩ := x
      cases r with
      | ok n v' =>
        obtain ⟨hq, ha, hx⟩ := hs
        refine StepTold.ran (v1 := v') (ha.went.sub (seen_sub P fr.fn es)) hx _ (fun w' e => by rw [e]) (fun M w' hl' => ?_)
        refine fun _ => ⟨⟨rfl, rfl, rfl, ⟨hfr.todo, fun d' h => ?_, hfr.early, hfr.report, hfr.calm⟩, hcs⟩, Went.refl ha.heap, fun _ => ⟨_, rfl, hl'⟩⟩
        rcases List.mem_append.1 h with h | h
        · exact hq _ h
        · exact hds d' (List.mem_cons_of_mem _ h)
      | halt h v' => exact trivial
    · have hab' : ∀ f, t.leads P v args = some f → okf f := by
        intro f hfl
        apply hab f
        unfold Frame.about
        rw [hd]
        cases hmo : fr.mode with
        | run => exact (hrun hmo).elim
        | returning => exact hfl
        | panicking c => exact hfl
      have hto : OkTarget okf t := by
        have h1 := hds _ (List.mem_cons_self ..)
        cases t with
        | fn g c => cases g <;> first | exact trivial | exact hab' _ rfl
        | builtin => exact h1.elim
        | coroexit => exact h1.elim
        | nil => trivial
        | collected b => exact (ht ⟨b, rfl⟩).elim
      have key := callDeferred_told (cs := cs) okf hm hf hfr' hcs ⟨t, args⟩ (hds _ (List.mem_cons_self ..)) hto hl hv
      cases t <;> first | exact key | exact (ht ⟨_, rfl⟩).elim
  | nil =>
    dsimp only
    cases hmo : fr.mode with
    | run => exact (hrun hmo).elim
    | panicking chain =>
      dsimp only
      refine StepTold.ite (fun _ => trivial) (fun _ => ?_)
      cases callers with
      | cons c rest =>
        have hc := hcs c (List.mem_cons_self ..)
        exact fun _ => ⟨⟨rfl, rfl, rfl, hc.raise _ (hfr.calm chain hmo), fun c q => hcs c (List.mem_cons_of_mem _ q)⟩, Went.refl hv, fun _ => ⟨_, rfl, hl⟩⟩
      | nil =>
        dsimp only
        have hg : chain.head?.any (·.goexit) = false := by
          cases chain with
          | nil => rfl
          | cons e r => exact hfr.calm _ hmo e (List.mem_cons_self ..)
        rw [hg]
        rw [if_neg (by simp)]
        split <;> first | (exact fun hd => by cases hd) | exact trivial
    | returning =>
      dsimp only
      cases hfn' : P.funcs[fr.fn]? with
      | none => exact doReturn_told hfr hcs hin _ hl hv
      | some fn =>
        dsimp only
        have hs := tm_sim _ (Tm.results (P := P) (ok := ok) fn fr.tmps) v w hl hv #[]
        generalize (results fn fr.tmps).runT P v #[] = x at hs ⊢
        generalize (results fn fr.tmps).runT P w #[] = y at hs ⊢
        obtain ⟨r, es⟩ := x
        cases r with
        | ok n v' =>
          obtain ⟨hq, ha, hx⟩ := hs
          refine StepTold.ran (v1 := v') (ha.went.sub (seen_sub P fr.fn es)) hx _ (fun w' e => by rw [e]) (fun M w' hl' => ?_)
          exact doReturn_told hfr hcs hin n hl' ha.heap
        | halt h v' => cases h <;> exact trivial
end
end Go.Proofs.Ytfgpnfboolbbbaa
namespace Go.Proofs.Ytfgpnfboolbbbaa
open Go
section
variable {P : Program} {ok : Oper → Prop} {Hd : Nat → Prop} {M : Lim} {fr : Frame} {callers cs : List Frame} {v w : World}
theorem to_told (hfr : FrameOk P ok fr) (hcs : ∀ c ∈ callers, FrameOk P ok c) (hl : Like Hd M v w) (hv : HeapOk ok Hd v) {k : List Item} (hk : ∀ i ∈ k, ItemOk ok i) :
    StepTold P ok Hd M cs v (.go { frame := { fr with todo := k }, callers, status := .running, dying := none } v) (.go { frame := { fr with todo := k }, callers := callers ++ cs, status := .running, dying := none } w) :=
  fun _ => ⟨⟨rfl, rfl, rfl, hfr.with k hk, hcs⟩, Went.refl hv, fun _ => ⟨_, rfl, hl⟩⟩
theorem exit_sub (ok : Oper → Prop) (id : Nat) : ∀ (k k' : List Item), exitTo id k = some k' → (∀ i ∈ k, ItemOk ok i) → ∀ i ∈ k', ItemOk ok i
  | [], k', h, _ => by cases h
  | a :: k, k', h, hk => by
    have hk1 : ∀ i ∈ k, ItemOk ok i := fun i hi => hk i (List.mem_cons_of_mem _ hi)
    cases a <;> first
      | (unfold exitTo at h; split at h; cases h; exact hk1; exact exit_sub ok id k k' h hk1)
      | exact exit_sub ok id k k' (by unfold exitTo at h; exact h) hk1
theorem find_ok (ok : Oper → Prop) (l : Nat) : ∀ (c r : Code), findLabel c l = some r → CodeOk ok c → CodeOk ok r
  | c, r, h, hc => by
    induction c generalizing r with
    | seq a b iha ihb =>
      unfold findLabel at h
      split at h
      · rename_i rest e
        cases h
        exact ⟨iha _ e hc.1, hc.2⟩
      · exact ihb _ h hc.2
    | label l' =>
      unfold findLabel at h
      split at h
      · cases h; trivial
      · cases h
    | _ => simp [findLabel] at h
theorem goto_sub (ok : Oper → Prop) (l : Nat) : ∀ (k k' : List Item), gotoIn l k = some k' → (∀ i ∈ k, ItemOk ok i) → ∀ i ∈ k', ItemOk ok i
  | [], k', h, _ => by cases h
  | a :: k, k', h, hk => by
    have hk1 : ∀ i ∈ k, ItemOk ok i := fun i hi => hk i (List.mem_cons_of_mem _ hi)
    cases a
    case inScope b =>
      unfold gotoIn at h
      split at h
      · rename_i rest e
        cases h
        have hb := hk _ (List.mem_cons_self ..)
        intro i hi
        rcases List.mem_cons.1 hi with rfl | hi
        · exact find_ok ok l b rest e hb
        · exact hk i hi
      · exact goto_sub ok l k k' h hk1
    all_goals exact goto_sub ok l k k' (by unfold gotoIn at h; exact h) hk1
end
end Go.Proofs.Ytfgpnfboolbbbaa
namespace Go.Proofs.Ytfgpnfboolbbbaa
open Go
section
variable {P : Program} {ok : Oper → Prop} {Hd : Nat → Prop} {M : Lim} {fr : Frame} {callers cs : List Frame} {v w : World}
theorem oper_told (hok : ∀ o, ok o → okOp P o = true) (okf : FuncId → Prop) (hm : OkMethods P okf) (hf : ∀ f, okf f → OkFn P ok f) (hgd : GoodFn P ok fr.fn) (hfr : FrameOk P ok fr) (hcs : ∀ c ∈ callers, FrameOk P ok c)
    (hrun : fr.mode = .run) (hab : ∀ f, fr.about P v = some f → okf f) (hl : Like Hd M v w) (hv : HeapOk ok Hd v) :
    StepTold P ok Hd M cs v (stepG.oper P true fr callers none v) (stepG.oper P true fr (callers ++ cs) none w) := by
  unfold stepG.oper
  cases ho : fr.oper? with
  | none => exact trivial
  | some o =>
    have hoo : ok o ∧ ∀ f, o.about P v fr.eval = some f → okf f := by
      unfold Frame.oper? at ho
      split at ho
      · rename_i ops i rest k e
        have h1 := hfr.todo hgd _ (by rw [e]; exact List.mem_cons_self ..)
        refine ⟨h1 o (Array.mem_of_getElem? ho), fun f hfo => hab f ?_⟩
        unfold Frame.about
        rw [hrun, e]
        dsimp only
        rw [ho]
        unfold Oper.about at hfo
        exact hfo
      · cases ho
    dsimp only
    split
    · rename_i l c hl1 hc
      refine apply_told hgd hfr hcs _ ?_ hl hv
      have h2 := hok o hoo.1
      unfold okOp at h2
      rw [hc] at h2
      exact Tm.bndQ (resolve_defer h2) (fun d hd => Tm.bnd (Tm.deferInRound _ d hd) (fun _ => Tm.ret trivial))
    · exact apply_told hgd hfr hcs _ (Tm.execOp okf hm hf fr.eval (fun _ => rfl) o (hok o hoo.1) v hoo.2) hl hv
end
end Go.Proofs.Ytfgpnfboolbbbaa
namespace Go.Proofs.Ytfgpnfboolbbbaa
open Go
section
variable {P : Program} {ok : Oper → Prop} {Hd : Nat → Prop} {M : Lim} {fr : Frame} {callers cs : List Frame} {v w : World}
theorem choose_told (q : Question) (hl : Like Hd M v w) (hv : HeapOk ok Hd v) : ∃ t v', (choose q).run P v = .ok t v' ∧ Went ok Hd v v' #[] ∧ (v'.drawn ≤ M.lim → ∃ w', (choose q).run P w = .ok t w' ∧ Like Hd M v' w') := by
  by_cases hq : q.forced = true
  · exact ⟨0, v, by simp [choose, Sem.run, hq], Went.refl hv, fun _ => ⟨w, by simp [choose, Sem.run, hq], hl⟩⟩
  · refine ⟨q.cut (v.tape v.drawn q), { v with drawn := v.drawn + 1 }, by simp [choose, Sem.run, hq], ⟨by simp, Nat.le_refl _, ⟨hv.obj, hv.hid⟩, fun _ _ _ _ q => q, rfl, Nat.le_succ _⟩, fun hM => ⟨{ w with drawn := w.drawn + 1 }, ?_, ⟨fun j q hj => ?_, ⟨hl.other.1, by have := hl.other.2; simp only; omega⟩, hl.os, hl.output, hl.size, hl.obj, hl.hid⟩⟩⟩
    · have h0 := hl.tape 0 q (by simp only at hM; omega)
      simp only [Nat.add_zero] at h0
      simp [choose, Sem.run, hq, h0]
    · have := hl.tape (j + 1) q (by simp only at hj; omega)
      simp only at hj ⊢
      rw [Nat.add_right_comm, Nat.add_right_comm w.drawn]
      exact this
theorem exec_told {m : Bool} (hok : ∀ o, ok o → okOp P o = true) (okf : FuncId → Prop) (hm : OkMethods P okf) (hf : ∀ f, okf f → OkFn P ok f) (hgd : GoodFn P ok fr.fn) (hfr : FrameOk P ok fr) (hcs : ∀ c ∈ callers, FrameOk P ok c) (hin : P.inits.idxOf? fr.fn = none)
    (hrun : fr.mode = .run) (hab : ∀ f, fr.about P v = some f → okf f) (hl : Like Hd M v w) (hv : HeapOk ok Hd v) :
    StepTold P ok Hd M cs v (stepG.exec P true true fr callers none v) (stepG.exec P m true fr (callers ++ cs) none w) := by
  have ht := hfr.todo hgd
  have hret : ∀ (t : List Item) (r : Option Nat), (∀ i ∈ t, ItemOk ok i) → StepTold P ok Hd M cs v (.go { frame := { fr with todo := t, mode := .returning, roundOf := r }, callers, status := .running, dying := none } v) (.go { frame := { fr with todo := t, mode := .returning, roundOf := r }, callers := callers ++ cs, status := .running, dying := none } w) :=
    fun t r ht => fun _ => ⟨⟨rfl, rfl, rfl, ⟨fun _ => ht, hfr.defers, hfr.early, hfr.report, fun c q => by cases q⟩, hcs⟩, Went.refl hv, fun _ => ⟨_, rfl, hl⟩⟩
  have hround : ∀ (l : Nat) (j : Option Code), (∀ c, j = some c → CodeOk ok c) → StepTold P ok Hd M cs v
      (GStep.after (seen P fr.fn ((Instr.endRound l j).runT P v #[]).2) (match ((Instr.endRound l j).runT P v #[]).1 with
        | .ok x w => doReturn P true fr callers none x w
        | .halt _ w => .ended (.stuck "range over a function: no such loop" (fr.pos P)) w))
      (GStep.after (seen P fr.fn ((Instr.endRound l j).runT P w #[]).2) (match ((Instr.endRound l j).runT P w #[]).1 with
        | .ok x w => doReturn P m fr (callers ++ cs) none x w
        | .halt _ w => .ended (.stuck "range over a function: no such loop" (fr.pos P)) w)) := by
    intro l j hj
    have hs := tm_sim _ (Tm.endRound (P := P) (ok := ok) l j hj) v w hl hv #[]
    generalize (Instr.endRound l j).runT P v #[] = x at hs ⊢
    generalize (Instr.endRound l j).runT P w #[] = y at hs ⊢
    obtain ⟨r, es⟩ := x
    cases r with
    | ok n v' =>
      obtain ⟨hq, ha, hx⟩ := hs
      refine StepTold.ran (v1 := v') (ha.went.sub (seen_sub P fr.fn es)) hx _ (fun w' e => by rw [e]) (fun M w' hl' => ?_)
      exact doReturn_told hfr hcs hin n hl' ha.heap
    | halt h v' => exact trivial
  unfold stepG.exec
  cases e : fr.todo with
  | nil =>
    dsimp only
    cases fr.roundOf with
    | none => exact hret [] none (by simp)
    | some l => exact hround l none (by simp)
  | cons i k =>
    rw [e] at ht
    have hi := ht i (List.mem_cons_self ..)
    have hk : ∀ i ∈ k, ItemOk ok i := fun i hi => ht i (List.mem_cons_of_mem _ hi)
    cases i
    case inBlock => exact to_told hfr hcs hl hv hk
    case inScope => exact to_told hfr hcs hl hv hk
    case call => exact hi.elim
    case extern => exact hi.elim
    case inRangeFunc => exact trivial
    case inLoop b => exact to_told hfr hcs hl hv (k := .code b :: .inLoop b :: k) (fun i q => by
        rcases List.mem_cons.1 q with rfl | q
        · exact hi
        · exact ht i q)
    case inRegion ops t =>
      cases t with
      | nil => exact to_told hfr hcs hl hv hk
      | cons j rest =>
        refine StepTold.ite (fun _ => ?_) (fun _ => ?_)
        · exact oper_told hok okf hm hf hgd hfr hcs hrun hab hl hv
        · exact fun _ => ⟨⟨rfl, rfl, rfl, hfr.finish _, hcs⟩, Went.refl hv, fun _ => ⟨_, rfl, hl⟩⟩
    case beginRound =>
      refine apply_told hgd hfr hcs _ ?_ hl hv
      refine Tm.bnd ?_ (fun _ => Tm.ret trivial)
      cases fr.roundOf with
      | none => exact Tm.stk _ _
      | some l => exact Tm.beginRound l
    case endRangeFunc l =>
      dsimp only
      have hs := tm_sim _ (Tm.endLoop (P := P) (ok := ok) l) v w hl hv #[]
      generalize (Instr.endLoop l).runT P v #[] = x at hs ⊢
      generalize (Instr.endLoop l).runT P w #[] = y at hs ⊢
      obtain ⟨r, es⟩ := x
      cases r with
      | ok n v' =>
        obtain ⟨hq, ha, hx⟩ := hs
        refine StepTold.ran (v1 := v') (ha.went.sub (seen_sub P fr.fn es)) hx _ (fun w' e => by rw [e]) (fun M w' hl' => ?_)
        refine to_told hfr hcs hl' ha.heap (fun i q => ?_)
        rcases List.mem_append.1 q with q | q
        · cases n with
          | none => simp at q
          | some c =>
            obtain rfl : i = _ := by simpa using q
            exact hq c rfl
        · exact hk i q
      | halt h v' =>
        rcases hs with q | ⟨hh, ha, hx⟩
        · rcases q with ⟨s, rfl⟩ | ⟨u, rfl, hu⟩ <;> exact trivial
        · cases h <;> try (first | exact trivial | exact hh.elim)
          case panic x =>
            refine StepTold.ran (v1 := v') (ha.went.sub (seen_sub P fr.fn es)) hx _ (fun w' e => by rw [e]) (fun M w' hl' => ?_)
            exact fun _ => ⟨⟨rfl, rfl, rfl, hfr.raise _ (by simp), hcs⟩, Went.refl ha.heap, fun _ => ⟨_, rfl, hl'⟩⟩
    case code c =>
      have two : ∀ a b : Item, ItemOk ok a → ItemOk ok b → ∀ i ∈ a :: b :: k, ItemOk ok i := fun a b ha hb i q => by
        rcases List.mem_cons.1 q with rfl | q
        · exact ha
        rcases List.mem_cons.1 q with rfl | q
        · exact hb
        · exact hk i q
      cases c
      case skip => exact to_told hfr hcs hl hv hk
      case label => exact to_told hfr hcs hl hv hk
      case seq a b => exact to_told hfr hcs hl hv (two (.code a) (.code b) hi.1 hi.2)
      case block id b => exact to_told hfr hcs hl hv (two (.code b) (.inBlock id) hi trivial)
      case loop b => exact to_told hfr hcs hl hv (two (.code b) (.inLoop b) hi hi)
      case scope b => exact to_told hfr hcs hl hv (two (.code b) (.inScope b) hi hi)
      case refuse => exact trivial
      case cond c a b =>
        dsimp only
        split
        · rename_i x _
          refine to_told hfr hcs hl hv (fun i q => ?_)
          rcases List.mem_cons.1 q with rfl | q
          · cases x
            · exact hi.2
            · exact hi.1
          · exact hk i q
        · exact trivial
      case ret =>
        dsimp only
        cases fr.roundOf with
        | none => exact hret _ none ht
        | some l => exact hround l (some .ret) (fun c q => by cases q; trivial)
      case exit id =>
        dsimp only
        cases ex : exitTo id k with
        | some k' => exact to_told hfr hcs hl hv (exit_sub ok id k k' ex hk)
        | none =>
          cases fr.roundOf with
          | none => exact trivial
          | some l => exact hround l (some (.exit id)) (fun c q => by cases q; trivial)
      case goto id =>
        dsimp only
        cases ex : gotoIn id k with
        | some k' => exact to_told hfr hcs hl hv (goto_sub ok id k k' ex hk)
        | none =>
          cases fr.roundOf with
          | none => exact trivial
          | some l => exact hround l (some (.goto id)) (fun c q => by cases q; trivial)
      case region id ops draw =>
        refine StepTold.ite (fun _ => ?_) (fun _ => ?_)
        · refine to_told hfr hcs hl hv (fun i q => ?_)
          rcases List.mem_cons.1 q with rfl | q
          · exact hi
          · exact hk i q
        · obtain ⟨t, v', e1, hw, hx⟩ := choose_told (P := P) (ok := ok) (.order fr.fn id) hl hv
          rw [e1]
          dsimp only
          refine fun _ => ⟨⟨rfl, rfl, rfl, hfr.with _ (fun i q => ?_), hcs⟩, hw, fun hM => by obtain ⟨w', e2, hl'⟩ := hx hM; rw [e2]; exact ⟨_, rfl, hl'⟩⟩
          rcases List.mem_cons.1 q with rfl | q
          · exact hi
          · exact hk i q
      case rangeFunc f params a b =>
        dsimp only
        have hs := tm_sim _ (Tm.enterLoop (P := P) (ok := ok) fr.fn fr.tmps params a b hi.1 hi.2 fr.roundOf) v w hl hv #[]
        have hrt := Sem.runT_fst P (Instr.enterLoop fr.fn fr.tmps params a b fr.roundOf) v #[]
        have hab' : ∀ (l : Nat) (mk : List Deferred) (v' : World), ((Instr.enterLoop fr.fn fr.tmps params a b fr.roundOf).run P v) = .ok (l, mk) v' → ∀ g, (match (resolve fr.eval { callee := .value f, args := #[.const (.func (.yield l) #[] #[])], argTypes := #[] } 0).run P v' with | .ok d w' => d.target.leads P w' d.args | .halt _ _ => none) = some g → okf g := by
          intro l mk v' h1 g h2
          apply hab g
          unfold Frame.about
          rw [hrun, e]
          dsimp only
          rw [h1]
          exact h2
        generalize (Instr.enterLoop fr.fn fr.tmps params a b fr.roundOf).runT P v #[] = x at hs hrt ⊢
        generalize (Instr.enterLoop fr.fn fr.tmps params a b fr.roundOf).runT P w #[] = y at hs ⊢
        obtain ⟨r, es⟩ := x
        cases r with
        | ok n v' =>
          obtain ⟨l, mk⟩ := n
          obtain ⟨hq, ha, hx⟩ := hs
          refine StepTold.ran (v1 := v') (ha.went.sub (seen_sub P fr.fn es)) hx _ (fun w' e => by rw [e]) (fun M w' hl' => ?_)
          have hfr2 : FrameOk P ok { fr with todo := .inRangeFunc l :: k, defers := mk ++ fr.defers } := by
            refine ⟨fun _ i q => ?_, fun d q => ?_, hfr.early, hfr.report, hfr.calm⟩
            · rcases List.mem_cons.1 q with rfl | q
              · trivial
              · exact hk i q
            · rcases List.mem_append.1 q with q | q
              · exact hq _ q
              · exact hfr.defers _ q
          exact apply_told (fr := { fr with todo := .inRangeFunc l :: k, defers := mk ++ fr.defers }) hgd hfr2 hcs _ (Tm.bndQ (resolve_target okf v' rfl (hab' l mk v' hrt.symm)) (fun d hd => Tm.invoke okf hm hf _ _ hd)) hl' ha.heap
        | halt h v' => exact trivial
end
end Go.Proofs.Ytfgpnfboolbbbaa
namespace Go.Proofs.Ytfgpnfboolbbbaa
open Go
/-- ████ A STEP IN THE WORLD WITH MORE FROZEN CELLS, WITH FEWER CALLERS, IS THE STEP IN THE WORLD. ████ -/
theorem step_told {P : Program} {ok : Oper → Prop} {Hd : Nat → Prop} {M : Lim} {g : Goroutine} {cs : List Frame} {v w : World} {m : Bool} (hok : ∀ o, ok o → okOp P o = true) (okf : FuncId → Prop) (hm : OkMethods P okf) (hf : ∀ f, okf f → OkFn P ok f) (hgd : GoodFn P ok g.frame.fn) (hg : GorOk P ok g)
    (hin : P.inits.idxOf? g.frame.fn = none) (hab : ∀ f, g.frame.about P v = some f → okf f) (hl : Like Hd M v w) (hv : HeapOk ok Hd v) :
    StepTold P ok Hd M cs v (stepG P true g v) (stepG P m { g with callers := g.callers ++ cs } w) := by
  obtain ⟨fr, callers, st, dy, off⟩ := g
  have hd := hg.living
  dsimp only at hd
  subst hd
  unfold stepG
  dsimp only
  cases hmo : fr.mode with
  | run => exact exec_told hok okf hm hf hgd hg.frame hg.callers hin hmo hab hl hv
  | returning => exact unwind_told okf hm hf hg.frame hg.callers hin (by rw [hmo]; intro q; cases q) hab hl hv
  | panicking c => exact unwind_told okf hm hf hg.frame hg.callers hin (by rw [hmo]; intro q; cases q) hab hl hv
end Go.Proofs.Ytfgpnfboolbbbaa
