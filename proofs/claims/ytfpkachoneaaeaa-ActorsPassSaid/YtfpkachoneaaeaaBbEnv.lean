/-
  The functions that the lone walk may be lifted of.
-/
import Derived.Test.YtfpkachoneaaeaaBbLift
import Derived.Test.YtfpkachoneaaeaaProg
import Derived.Test.YtfpkachoneaaeaaBbSt
set_option linter.unusedSimpArgs false
set_option linter.unusedVariables false
namespace Go.Proofs.Ytfpkachoneaaeaa
open Go Go.Conc
def codeOkB (P : Program) : Code → Bool
  | .region _ ops _ => ops.all fun o => okOp P o
  | .seq a b | .cond _ a b | .rangeFunc _ _ a b => codeOkB P a && codeOkB P b
  | .block _ c | .loop c | .scope c => codeOkB P c
  | _ => true
theorem codeOkB_ok {P : Program} : ∀ c : Code, codeOkB P c = true → CodeOk (okP P) c := by
  intro c
  induction c <;> intro h <;> simp only [codeOkB, Bool.and_eq_true, Array.all_eq_true_iff_forall_mem] at h <;> simp_all [CodeOk, okP]
def bodiedB (P : Program) (f : FuncId) : Bool := match P.funcs[f]? with
  | some fn => fn.body.isSome && !(fn.name == "runtime.NumGoroutine")
  | none => false
/-- The functions without a body of their own: what the machine answers for them. -/
def extL : List FuncId := [95, 96, 97, 98, 99, 100,
  101, 102, 103, 104, 105, 106,
  107, 108, 109, 110]
def methodsB (P : Program) : Bool := (List.range P.types.size).all fun t => match P.types[t]? with
  | some i => i.methods.all fun m => match m.func with
    | some (f, _) => bodiedB P f || extL.contains f
    | none => true
  | none => true
/-- The good ones. -/
def goodL : List FuncId := [7, 8,
  15,
  16, 17, 19, 20,
  21, 22, 23, 33, 27, 28,
  48, 31, 46, 47, 64, 65, 66, 77,
  78, 79, 80, 81, 82, 83, 84, 85,
  86, 87, 88, 89, 90, 91, 92, 93, 94]
def goodF (f : FuncId) : Prop := f ∈ goodL
theorem methods_ok : methodsB Try.prog = true := by kernel_rfl
theorem bodied_ok : (goodL.all fun f => bodiedB Try.prog f) = true := by kernel_rfl
theorem code_ok : (goodL.all fun f => match Try.prog.funcs[f]? with | some fn => (match fn.body with | some c => codeOkB Try.prog c | none => true) | none => true) = true := by kernel_rfl
theorem inits_ok : (goodL.all fun f => (Try.prog.inits.idxOf? f).isNone) = true ∧ Try.prog.inits.idxOf? Try.prog.funcs.size = none := ⟨by kernel_rfl, by kernel_rfl⟩
theorem bodied_fn {P : Program} {ok : Oper → Prop} {f : FuncId} (h : bodiedB P f = true) : OkFn P ok f := by
  unfold bodiedB at h
  cases e : P.funcs[f]? with
  | none => rw [e] at h; cases h
  | some fn =>
    rw [e] at h
    simp only [Bool.and_eq_true] at h
    obtain ⟨c, hc⟩ := Option.isSome_iff_exists.1 h.1
    exact OkFn.of_body e hc (by simpa using h.2)
section
variable {P : Program} {ok : Oper → Prop}
theorem OkFn.of_ext {f : FuncId} {fn : Func} {e : Array Value → Sem Value} (h : P.funcs[f]? = some fn) (hb : fn.body.isNone = true) (hn : (fn.name == "runtime.NumGoroutine") = false) (h1 : Extern.findNext fn = none) (h2 : Extern.find fn = some e)
    (he : ∀ args, Tm P ok T (e args)) : OkFn P ok f := by
  intro args
  unfold Go.callFunc
  refine Tm.bndQ (R := fun p => p = P) (Tm.prg rfl) (fun p hp => ?_)
  subst hp
  rw [h]
  dsimp only
  rw [if_neg (by simp [hn]), if_pos hb, h1, h2]
  refine ⟨trivial, ?_⟩
  show Tm p ok (NextOk p ok) (do pure (.value (← e args)) : Sem Next)
  exact Tm.val (he args)
theorem OkFn.of_none {f : FuncId} {fn : Func} (h : P.funcs[f]? = some fn) (hb : fn.body.isNone = true) (hn : (fn.name == "runtime.NumGoroutine") = false) (h1 : Extern.findNext fn = none) (h2 : Extern.find fn = none)
    (hi : (fn.name.endsWith ".init" && !fn.name.startsWith "(" && !fn.name.startsWith "gosem.") = false) : OkFn P ok f := by
  intro args
  unfold Go.callFunc
  refine Tm.bndQ (R := fun p => p = P) (Tm.prg rfl) (fun p hp => ?_)
  subst hp
  rw [h]
  dsimp only
  rw [if_neg (by simp [hn]), if_pos hb, h1, h2]
  refine ⟨trivial, ?_⟩
  dsimp only
  rw [if_neg (by simp [hi])]
  exact Tm.uns _ _ trivial
theorem tm_text (s : String) : Tm P ok T (Extern.RuntimeError.text s) := trivial
theorem tm_bounds (args : Array Value) : Tm P ok T (Extern.RuntimeError.boundsError args) := by
  rcases args with ⟨l⟩
  rcases l with _ | ⟨a, _ | ⟨b, l⟩⟩
  · exact trivial
  · cases a <;> try exact trivial
    rename_i cs
    rcases cs with ⟨l⟩
    rcases l with _ | ⟨a, _ | ⟨b, _ | ⟨c, _ | ⟨d, _ | ⟨e, l⟩⟩⟩⟩⟩ <;> try exact trivial
    cases a <;> try exact trivial
    cases b <;> try exact trivial
    cases c <;> try exact trivial
    cases d <;> try exact trivial
    rename_i k x k1 y s k2 code
    show Tm P ok T (match (if s && x < 0 then Extern.RuntimeError.boundsNegErrorFmts else Extern.RuntimeError.boundsErrorFmts)[code.toNat]? with
      | some fmt => Extern.RuntimeError.text ("runtime error: " ++ (fmt.replace "%x" (toString (if s then x else IntKind.u64.wrap x))).replace "%y" (toString y))
      | none => stuck "boundsError: no such code")
    split <;> first | exact tm_text _ | exact Tm.stk _ _
  · exact trivial
theorem tm_described (v : Value) : Tm P ok T (Extern.RuntimeError.described v) := by
  rw [Extern.RuntimeError.described.eq_def]
  (repeat' (first | ((with_reducible refine Tm.noRoom (Calm.mayShare _ _ _ _ _) ?_); exact trivial) | with_reducible exact Tm.ld _ _ | with_reducible exact Tm.st _ _ _ | with_reducible exact Tm.gtT _ | with_reducible exact Tm.ch _ | with_reducible exact Tm.stk _ _ | with_reducible exact Tm.pnc _ _ | with_reducible exact Tm.thr _ _ | with_reducible exact Tm.fat _ _ | with_reducible exact Tm.prg trivial | with_reducible exact Tm.ret trivial | with_reducible exact Tm.underlying _ | with_reducible exact Tm.typeInfo _ | with_reducible exact Tm.sizeOf _ | with_reducible exact Tm.zeroValue _ | with_reducible exact Tm.isAgg _ | with_reducible exact Tm.elemOf _ | with_reducible exact Tm.typeStr _ | with_reducible exact Tm.loadCells _ _ | with_reducible exact Tm.storeCells _ _ _ | with_reducible exact Tm.loadVar _ _ | with_reducible exact Tm.storeVar _ _ _ | with_reducible exact Tm.newRow _ _ | with_reducible exact Tm.newVar _ _ | with_reducible exact Tm.part _ _ _ | with_reducible exact Tm.runtimePanic _ | with_reducible exact Tm.asIntOf _ | with_reducible exact Tm.asInt _ | with_reducible exact Tm.asBool _ | with_reducible exact Tm.asString _ | with_reducible exact Tm.asAgg _ | with_reducible exact Tm.asAddr _ | with_reducible exact Tm.askRoom _ | with_reducible exact Tm.boundsPanic _ _ _ _ | with_reducible exact Tm.viewAt _ | with_reducible exact Tm.noView _ | with_reducible exact Tm.numberAt _ | with_reducible exact Tm.behindNumber _ | with_reducible exact Tm.byteOf _ | with_reducible exact Tm.partAt _ _ _ | with_reducible exact Tm.fieldPlace _ _ | with_reducible exact Tm.sureAddr _ | with_reducible exact Tm.loadAt _ _ | with_reducible exact Tm.storeAt _ _ _ | with_reducible exact Tm.fieldAt _ _ _ | with_reducible exact Tm.indexAt _ _ _ | with_reducible exact Tm.extract _ _ | with_reducible exact Tm.alloc _ _ | with_reducible exact Tm.box _ _ | with_reducible exact Tm.index _ _ _ | with_reducible exact Tm.buildSlice _ _ _ | with_reducible exact Tm.sliceBound _ _ _ | with_reducible exact Tm.sliceBounds _ _ _ _ _ _ | with_reducible exact Tm.slice _ _ _ _ _ | with_reducible exact Tm.sliceAt _ _ _ _ _ | with_reducible exact Tm.makeSlice _ _ _ | with_reducible exact Tm.makeMap _ _ | with_reducible exact Tm.makeChan _ _ | with_reducible exact Tm.makeFunc _ _ _ | with_reducible exact Tm.range _ _ | with_reducible exact Tm.next _ _ _ | with_reducible exact Tm.build _ _ | with_reducible exact Tm.bytesToString _ | with_reducible exact Tm.len_ _ _ _ | with_reducible exact Tm.lenOf _ | with_reducible exact Tm.firstCells _ _ _ | ((with_reducible refine Tm.uns _ _ ?_); exact trivial) | ((with_reducible refine Tm.nw _ ?_); exact trivial) | ((with_reducible refine Tm.so _ _ ?_); exact trivial) | (with_reducible refine Tm.shB (fun _ => ?_) (fun e n => rfl)) | (with_reducible refine Tm.bnd ?_ (fun _ => ?_)) | (with_reducible refine Tm.map_ ?_ _) | (with_reducible refine Tm.ite_ ?_ ?_) | split | (dsimp only; skip)))
theorem tm_pkgpathOf (i : TypeInfo) : Tm P ok T (Extern.RuntimeError.pkgpathOf i) := by
  rw [Extern.RuntimeError.pkgpathOf.eq_def]
  (repeat' (first | ((with_reducible refine Tm.noRoom (Calm.mayShare _ _ _ _ _) ?_); exact trivial) | with_reducible exact Tm.ld _ _ | with_reducible exact Tm.st _ _ _ | with_reducible exact Tm.gtT _ | with_reducible exact Tm.ch _ | with_reducible exact Tm.stk _ _ | with_reducible exact Tm.pnc _ _ | with_reducible exact Tm.thr _ _ | with_reducible exact Tm.fat _ _ | with_reducible exact Tm.prg trivial | with_reducible exact Tm.ret trivial | with_reducible exact Tm.underlying _ | with_reducible exact Tm.typeInfo _ | with_reducible exact Tm.sizeOf _ | with_reducible exact Tm.zeroValue _ | with_reducible exact Tm.isAgg _ | with_reducible exact Tm.elemOf _ | with_reducible exact Tm.typeStr _ | with_reducible exact Tm.loadCells _ _ | with_reducible exact Tm.storeCells _ _ _ | with_reducible exact Tm.loadVar _ _ | with_reducible exact Tm.storeVar _ _ _ | with_reducible exact Tm.newRow _ _ | with_reducible exact Tm.newVar _ _ | with_reducible exact Tm.part _ _ _ | with_reducible exact Tm.runtimePanic _ | with_reducible exact Tm.asIntOf _ | with_reducible exact Tm.asInt _ | with_reducible exact Tm.asBool _ | with_reducible exact Tm.asString _ | with_reducible exact Tm.asAgg _ | with_reducible exact Tm.asAddr _ | with_reducible exact Tm.askRoom _ | with_reducible exact Tm.boundsPanic _ _ _ _ | with_reducible exact Tm.viewAt _ | with_reducible exact Tm.noView _ | with_reducible exact Tm.numberAt _ | with_reducible exact Tm.behindNumber _ | with_reducible exact Tm.byteOf _ | with_reducible exact Tm.partAt _ _ _ | with_reducible exact Tm.fieldPlace _ _ | with_reducible exact Tm.sureAddr _ | with_reducible exact Tm.loadAt _ _ | with_reducible exact Tm.storeAt _ _ _ | with_reducible exact Tm.fieldAt _ _ _ | with_reducible exact Tm.indexAt _ _ _ | with_reducible exact Tm.extract _ _ | with_reducible exact Tm.alloc _ _ | with_reducible exact Tm.box _ _ | with_reducible exact Tm.index _ _ _ | with_reducible exact Tm.buildSlice _ _ _ | with_reducible exact Tm.sliceBound _ _ _ | with_reducible exact Tm.sliceBounds _ _ _ _ _ _ | with_reducible exact Tm.slice _ _ _ _ _ | with_reducible exact Tm.sliceAt _ _ _ _ _ | with_reducible exact Tm.makeSlice _ _ _ | with_reducible exact Tm.makeMap _ _ | with_reducible exact Tm.makeChan _ _ | with_reducible exact Tm.makeFunc _ _ _ | with_reducible exact Tm.range _ _ | with_reducible exact Tm.next _ _ _ | with_reducible exact Tm.build _ _ | with_reducible exact Tm.bytesToString _ | with_reducible exact Tm.len_ _ _ _ | with_reducible exact Tm.lenOf _ | with_reducible exact Tm.firstCells _ _ _ | ((with_reducible refine Tm.uns _ _ ?_); exact trivial) | ((with_reducible refine Tm.nw _ ?_); exact trivial) | ((with_reducible refine Tm.so _ _ ?_); exact trivial) | (with_reducible refine Tm.shB (fun _ => ?_) (fun e n => rfl)) | (with_reducible refine Tm.bnd ?_ (fun _ => ?_)) | (with_reducible refine Tm.map_ ?_ _) | (with_reducible refine Tm.ite_ ?_ ?_) | split | (dsimp only; skip)))
theorem tm_unhashable (args : Array Value) : Tm P ok T (Extern.RuntimeError.unhashableTypeError args) := by
  rcases args with ⟨l⟩
  rcases l with _ | ⟨a, _ | ⟨b, l⟩⟩
  · exact trivial
  · cases a <;> try exact trivial
    rename_i cs
    rcases cs with ⟨l⟩
    rcases l with _ | ⟨a, _ | ⟨b, l⟩⟩ <;> try exact trivial
    refine Tm.bnd (tm_described a) (fun x => ?_)
    cases x with
    | none => exact Tm.runtimePanic _
    | some t => exact tm_text _
  · exact trivial
theorem tm_assertion (args : Array Value) : Tm P ok T (Extern.RuntimeError.typeAssertionError args) := by
  unfold Extern.RuntimeError.typeAssertionError
  refine Tm.bnd (Tm.asAddr _) (fun a => ?_)
  refine Tm.bnd (Tm.ld _ _) (fun x => ?_)
  refine Tm.bnd (tm_described _) (fun i => ?_)
  refine Tm.bnd (Tm.ld _ _) (fun y => ?_)
  refine Tm.bnd (tm_described _) (fun c => ?_)
  refine Tm.bnd (Tm.ld _ _) (fun z => ?_)
  refine Tm.bnd (tm_described _) (fun t => ?_)
  cases t with
  | none => exact Tm.runtimePanic _
  | some t =>
    refine Tm.bnd (Tm.ld _ _) (fun m => ?_)
    refine Tm.bnd (Tm.asString _) (fun ms => ?_)
    cases c with
    | none => exact tm_text _
    | some c =>
      dsimp only
      split
      · exact Tm.ret trivial
      · split
        · exact tm_text _
        · refine Tm.bnd (tm_pkgpathOf _) (fun p => ?_)
          refine Tm.bnd (tm_pkgpathOf _) (fun q => ?_)
          split
          · exact tm_text _
          · exact Tm.uns _ _ trivial
end
theorem ext_fns : ∀ f ∈ extL, OkFn Try.prog (okP Try.prog) f := by
  intro f hf
  simp only [extL, List.mem_cons, List.not_mem_nil, or_false] at hf
  rcases hf with rfl | rfl | rfl | rfl | rfl | rfl | rfl | rfl | rfl | rfl | rfl | rfl | rfl | rfl | rfl | rfl
  · exact OkFn.of_ext (e := Extern.RuntimeError.boundsError) Try.func95 (by kernel_rfl) (by kernel_rfl) (by kernel_rfl) (by kernel_rfl) tm_bounds
  · exact OkFn.of_ext (e := Extern.RuntimeError.nothing) Try.func96 (by kernel_rfl) (by kernel_rfl) (by kernel_rfl) (by kernel_rfl) (fun _ => trivial)
  · refine OkFn.of_ext (e := fun args => do pure (.string ("runtime error: ".toUTF8 ++ (← asString (args.getD 0 (.tuple #[])))))) Try.func97 (by kernel_rfl) (by kernel_rfl) (by kernel_rfl) (by kernel_rfl) (fun _ => Tm.bnd (Tm.asString _) (fun _ => Tm.ret trivial))
  · exact OkFn.of_ext (e := Extern.RuntimeError.nothing) Try.func98 (by kernel_rfl) (by kernel_rfl) (by kernel_rfl) (by kernel_rfl) (fun _ => trivial)
  · refine OkFn.of_ext (e := fun args => do pure (.string (← asString (args.getD 0 (.tuple #[]))))) Try.func99 (by kernel_rfl) (by kernel_rfl) (by kernel_rfl) (by kernel_rfl) (fun _ => Tm.bnd (Tm.asString _) (fun _ => Tm.ret trivial))
  · exact OkFn.of_ext (e := Extern.RuntimeError.nothing) Try.func100 (by kernel_rfl) (by kernel_rfl) (by kernel_rfl) (by kernel_rfl) (fun _ => trivial)
  · refine OkFn.of_ext (e := fun args => do pure (.string ("runtime error: ".toUTF8 ++ (← asString ((← asAgg (args.getD 0 (.tuple #[]))).getD 0 (.tuple #[])))))) Try.func101 (by kernel_rfl) (by kernel_rfl) (by kernel_rfl) (by kernel_rfl) (fun _ => Tm.bnd (Tm.asAgg _) (fun _ => Tm.bnd (Tm.asString _) (fun _ => Tm.ret trivial)))
  · exact OkFn.of_ext (e := Extern.RuntimeError.nothing) Try.func102 (by kernel_rfl) (by kernel_rfl) (by kernel_rfl) (by kernel_rfl) (fun _ => trivial)
  · exact OkFn.of_ext (e := Extern.RuntimeError.typeAssertionError) Try.func103 (by kernel_rfl) (by kernel_rfl) (by kernel_rfl) (by kernel_rfl) tm_assertion
  · exact OkFn.of_ext (e := Extern.RuntimeError.nothing) Try.func104 (by kernel_rfl) (by kernel_rfl) (by kernel_rfl) (by kernel_rfl) (fun _ => trivial)
  · exact OkFn.of_ext (e := fun _ => Extern.RuntimeError.text "runtime error: panic called with nil argument") Try.func105 (by kernel_rfl) (by kernel_rfl) (by kernel_rfl) (by kernel_rfl) (fun _ => trivial)
  · exact OkFn.of_ext (e := Extern.RuntimeError.nothing) Try.func106 (by kernel_rfl) (by kernel_rfl) (by kernel_rfl) (by kernel_rfl) (fun _ => trivial)
  · exact OkFn.of_none Try.func107 (by kernel_rfl) (by kernel_rfl) (by kernel_rfl) (by kernel_rfl) (by kernel_rfl)
  · exact OkFn.of_ext (e := Extern.RuntimeError.unhashableTypeError) Try.func108 (by kernel_rfl) (by kernel_rfl) (by kernel_rfl) (by kernel_rfl) tm_unhashable
  · exact OkFn.of_ext (e := Extern.RuntimeError.nothing) Try.func109 (by kernel_rfl) (by kernel_rfl) (by kernel_rfl) (by kernel_rfl) (fun _ => trivial)
  · refine OkFn.of_ext (e := fun args => do pure (strVal (Extern.Rtype.kindName (← asInt (args.getD 0 (.tuple #[]))).toNat))) Try.func110 (by kernel_rfl) (by kernel_rfl) (by kernel_rfl) (by kernel_rfl) (fun _ => Tm.bnd (Tm.asInt _) (fun _ => Tm.ret trivial))
theorem reckon_methods {info : TypeId → Option TypeInfo} {d : TypeDesc} {i : TypeInfo} (h : Made.reckon info d = some i) : i.methods = #[] := by
  cases d <;> simp only [Made.reckon, Option.bind_eq_bind, Option.bind_eq_some_iff, Option.pure_def, Option.some.injEq, reduceCtorEq] at h
  all_goals first
    | (obtain ⟨_, _, h⟩ := h; subst h; rfl)
    | (obtain ⟨_, _, _, _, h⟩ := h; subst h; rfl)
    | (obtain ⟨_, _, _, _, _, _, _, _, h⟩ := h; subst h; rfl)
    | skip
  · obtain ⟨i0, _, h⟩ := h
    split at h
    · cases h
    · split at h
      · cases h
      · simp only [Option.bind_eq_some_iff, Option.some.injEq] at h
        obtain ⟨_, _, h⟩ := h; subst h; rfl
    · simp only [Option.bind_eq_some_iff, Option.some.injEq] at h
      obtain ⟨_, _, h⟩ := h; subst h; rfl
  · unfold Made.reckonStruct at h
    simp only [Option.bind_eq_bind, Option.bind_eq_some_iff, Option.pure_def, Option.some.injEq] at h
    obtain ⟨r, _, h⟩ := h
    split at h <;> (cases h; rfl)
theorem infoAt_methods {T : Tables} : ∀ (n : Nat) (t : TypeId) (i : TypeInfo), Made.infoAt T n t = some i → T.types[t]? = some i ∨ i.methods = #[]
  | 0, _, _, h => by cases h
  | n + 1, t, i, h => by
    unfold Made.infoAt at h
    split at h
    · exact .inl h
    · obtain ⟨d, _, h2⟩ := Option.bind_eq_some_iff.1 h
      exact .inr (reckon_methods h2)
set_option maxRecDepth 50000 in
theorem theEnv : Env Try.prog (okP Try.prog) goodF := by
  refine ⟨fun _ h => h, ⟨fun f => bodiedB Try.prog f = true ∨ f ∈ extL, fun t i hi m hm f b hmf => ?_, fun f h => h.elim bodied_fn (ext_fns f), fun f h => .inl (List.all_eq_true.1 bodied_ok f h)⟩, fun f h => ?_, fun f h => ?_⟩
  · have h1 := methods_ok
    unfold methodsB at h1
    rw [List.all_eq_true] at h1
    have h0 : Try.prog.types[t]? = some i := by
      have h5 : Tables.info? _ t = some i := hi
      unfold Tables.info? at h5
      split at h5
      · exact h5
      · rcases infoAt_methods _ _ _ h5 with h6 | h6
        · exact h6
        · rw [h6] at hm; simp at hm
    have h2 := h1 t (List.mem_range.2 (Array.getElem?_eq_some_iff.1 h0).1)
    rw [h0] at h2
    have h3 := Array.all_eq_true_iff_forall_mem.1 h2 m hm
    rw [hmf] at h3
    simpa using h3
  · intro fn c h1 h2
    have h3 := List.all_eq_true.1 code_ok f h
    simp only [h1, h2] at h3
    exact codeOkB_ok c h3
  · rcases h with h | rfl
    · have := List.all_eq_true.1 inits_ok.1 f h
      simpa using this
    · exact inits_ok.2
end Go.Proofs.Ytfpkachoneaaeaa
namespace Go.Proofs.Ytfpkachoneaaeaa
open Go Go.Conc
theorem World.same {w w' : World} (h : w'.heap = w.heap) (ht : w'.tape = w.tape) (ho : w'.os = w.os) (hp : w'.output = w.output) : w' = w.at w'.drawn := by
  obtain ⟨a, b, c, d, e⟩ := w
  obtain ⟨a', b', c', d', e'⟩ := w'
  simp only at h ht ho hp
  subst h ht ho hp
  rfl
theorem heap_ext {w w' : World} (h : ∀ b : Nat, w'.heap[b]? = w.heap[b]?) : w'.heap = w.heap := Array.ext_getElem? (by simpa using h)
section
variable {P : Program} {Post : Value → World → Prop} {Z : Scene} {n h k : Nat} {w : World} {b : Frame} {x : Act} {kk : List Item} {cs : List Frame} {ops : Array Oper} {i : Nat} {rest : List Nat} {o : Oper} {okf : FuncId → Prop} {S : Nat → Prop}
/-- ████ AN OPERATION. ████ u: the world without the hidden blocks. -/
theorem Run.lay (E : Env P (okP P) okf) (ho : ops[i]? = some o) (hw : Region.wanted o (yielded ops x.tmps) = true) (hk : b.kind ≠ .early) (hok : okOp P o = true) (hab : ∀ v f, o.about P v x.eval = some f → okf f) (hS : ∀ c, Z.C c → ¬ S c)
    (H : ∀ u, Kept Z.Hd w u → u.heap.size = w.heap.size → ∃ y v', (execOp x.eval o).run P u = .ok (.value y) v' ∧ Kept S u v' ∧ (∀ w', Kept S w w' → Kept Z.Hd v' w' → w'.heap.size = v'.heap.size → Run P Post Z n h k (G (b.at (x.put o.dst y) (.inRegion ops rest :: kk)) cs) w')) :
    Run P Post Z n h k (G (b.at x (.inRegion ops (i :: rest) :: kk)) cs) w := by
  refine Run.lift E ho hw hk hok hab hS fun hwk d => ?_
  have hku : Kept Z.Hd w (Z.hide (w.at d)) := ⟨rfl, rfl, rfl, by rw [hide_size]; exact Nat.le_refl _, fun k _ hk => hide_see hk⟩
  obtain ⟨y, v', h1, h2, h3⟩ := H (Z.hide (w.at d)) hku (by rw [hide_size]; rfl)
  refine ⟨y, v', h1, h2, fun w' a1 a2 a3 _ => h3 w' a1 ⟨?_, ?_, ?_, by rw [a3]; exact Nat.le_refl _, fun k _ hk => a2 k hk⟩ a3⟩
  · rw [a1.os, h2.os]; rfl
  · rw [a1.tape, h2.tape]; rfl
  · rw [a1.output, h2.output]; rfl
/-- It reads. -/
theorem Run.look (E : Env P (okP P) okf) (ho : ops[i]? = some o) (hw : Region.wanted o (yielded ops x.tmps) = true) (hk : b.kind ≠ .early) (hok : okOp P o = true) (hab : ∀ v f, o.about P v x.eval = some f → okf f) (y : Value)
    (hrun : ∀ u, Kept Z.Hd w u → u.heap.size = w.heap.size → (execOp x.eval o).run P u = .ok (.value y) u)
    (H : Run P Post Z n h k (G (b.at (x.put o.dst y) (.inRegion ops rest :: kk)) cs) w) : Run P Post Z n h k (G (b.at x (.inRegion ops (i :: rest) :: kk)) cs) w := by
  refine Run.lay (S := noneS) E ho hw hk hok hab (fun _ _ q => q) fun u hu hus => ⟨y, u, hrun u hu hus, Kept.refl _ _, fun w' h1 h2 h3 => ?_⟩
  have hh : w'.heap = w.heap := heap_ext fun c => by
    by_cases hc : c < w.heap.size
    · exact h1.block c hc (fun q => q)
    · rw [Array.getElem?_eq_none (by omega), Array.getElem?_eq_none (by omega)]
  rw [World.same hh h1.tape h1.os h1.output]
  exact H.at _
theorem Run.lookq (E : Env P (okP P) okf) (ho : ops[i]? = some o) (_ : quietOp o = true) (hw : Region.wanted o (yielded ops x.tmps) = true) (hk : b.kind ≠ .early) (hok : okOp P o = true) (hab : ∀ v f, o.about P v x.eval = some f → okf f)
    (H : ∃ y, (∀ u, (execOp x.eval o).run P u = .ok (.value y) u) ∧ Run P Post Z n h k (G (b.at (x.put o.dst y) (.inRegion ops rest :: kk)) cs) w) : Run P Post Z n h k (G (b.at x (.inRegion ops (i :: rest) :: kk)) cs) w := by
  obtain ⟨y, h1, h2⟩ := H
  exact Run.look E ho hw hk hok hab y (fun u _ _ => h1 u) h2
theorem about_builtin {bi : Builtin} {aa : Array Operand} {ats : Array TypeId} (hop : o.op = .call { callee := .builtin bi, args := aa, argTypes := ats }) (v : World) (ρ : Operand → Value) : o.about P v ρ = none := by
  unfold Oper.about
  rw [hop]
  simp [resolve, Target.leads, Result.andThen]
def isSl : Option TypeDesc → Bool
  | some (.slice _) => true
  | _ => false
theorem run_len {t ty : TypeId} {A : Option Addr} {m c : Nat} (h : isSl (P.underlying t) = true) : (Builtin.len_ #[t] ty #[.slice A m c]).run P w = .ok (.int .i64 (m : Int)) w := by
  cases e : P.underlying t with
  | none => rw [e] at h; cases h
  | some d =>
    rw [e] at h
    cases d <;> first | (cases h; done) | simp [Builtin.len_, run_underlying e, goInt]
/-- The builtin len. -/
theorem Run.len {t : TypeId} {X : Operand} {A : Option Addr} {m c : Nat} (E : Env P (okP P) okf) (ho : ops[i]? = some o) (hw : Region.wanted o (yielded ops x.tmps) = true) (hk : b.kind ≠ .early) (hop : o.op = .call { callee := .builtin .len, args := #[X], argTypes := #[t] })
    (hx : x.eval X = .slice A m c) (ht : isSl (P.underlying t) = true) (H : Run P Post Z n h k (G (b.at (x.put o.dst (.int .i64 (m : Int))) (.inRegion ops rest :: kk)) cs) w) : Run P Post Z n h k (G (b.at x (.inRegion ops (i :: rest) :: kk)) cs) w := by
  refine Run.look E ho hw hk (by unfold okOp; rw [hop]; rfl) (fun v f q => by rw [about_builtin hop] at q; cases q) _ (fun u _ _ => ?_) H
  have e := run_len (P := P) (w := u) (ty := o.type) (A := A) (m := m) (c := c) ht
  unfold execOp
  simp [hop, resolve, hx, invoke, builtin, e]
/-- It makes a block. -/
theorem Run.made (E : Env P (okP P) okf) (ho : ops[i]? = some o) (hw : Region.wanted o (yielded ops x.tmps) = true) (hk : b.kind ≠ .early) (hok : okOp P o = true) (hab : ∀ v f, o.about P v x.eval = some f → okf f) (y : Value) (ob : Obj)
    (hrun : ∀ u, Kept Z.Hd w u → u.heap.size = w.heap.size → (execOp x.eval o).run P u = .ok (.value y) (u.alloc ob)) (hH : ¬ Z.Hd w.heap.size)
    (H : Run P Post Z n h k (G (b.at (x.put o.dst y) (.inRegion ops rest :: kk)) cs) (w.alloc ob)) : Run P Post Z n h k (G (b.at x (.inRegion ops (i :: rest) :: kk)) cs) w := by
  refine Run.lay (S := noneS) E ho hw hk hok hab (fun _ _ q => q) fun u hu hus => ⟨y, u.alloc ob, hrun u hu hus, (Kept.refl _ _).alloc ob, fun w' h1 h2 h3 => ?_⟩
  have hsz : w'.heap.size = w.heap.size + 1 := by rw [h3]; simp [hus]
  have hh : w'.heap = (w.alloc ob).heap := heap_ext fun c => by
    by_cases hc : c < w.heap.size
    · rw [h1.block c hc (fun q => q)]
      exact (RowKit.Below.heap_alloc w ob c hc).symm
    · by_cases he : c = w.heap.size
      · subst he
        rw [h2.block _ (by simp [hus]) hH, ← hus, heap_alloc_new, hus, heap_alloc_new]
      · rw [Array.getElem?_eq_none (by omega), Array.getElem?_eq_none (by simp; omega)]
  have := World.same (w := w.alloc ob) hh h1.tape h1.os h1.output
  rw [this]
  exact H.at _
theorem Scene.free {a : Addr} (h : ¬ Z.Hd a.block) : ¬ Z.Place a ∧ ¬ Z.Sh (.cell a) := by
  refine ⟨fun ⟨i, ch, v, e, hv⟩ => h (Z.place i ch a v e hv), fun q => ?_⟩
  obtain ⟨a', e, hh⟩ := Z.shun _ q
  cases e
  exact h hh
theorem WOk.cells (hw : WOk P Z w) {g : Nat} {cs : Array Value} {t : TypeId} {fr : Nat × Nat} (h : w.heap[g]? = some (.cells cs t fr)) : ¬ Z.C g := fun q => by
  obtain ⟨o, ho, e⟩ := hw.chan g q
  rw [h] at e
  obtain rfl := Option.some.inj e
  cases ho
/-- The world may be thought well. -/
theorem Run.ok (H : WOk P Z w → Run P Post Z n h k (G (b.at x kk) cs) w) : Run P Post Z n h k (G (b.at x kk) cs) w :=
  fun d gs T q sl hn ha hok C hk => H ⟨hok.obj, hok.hid, hok.chan⟩ d gs T q sl hn ha hok C hk
theorem Run.okG {a : Goroutine} (H : WOk P Z w → Run P Post Z n h k a w) : Run P Post Z n h k a w :=
  fun d gs T q sl hn ha hok C hk => H ⟨hok.obj, hok.hid, hok.chan⟩ d gs T q sl hn ha hok C hk
end
theorem about_quiet {P : Program} {o : Oper} (hq : quietOp o = true) (v : World) (ρ : Operand → Value) : o.about P v ρ = none := by
  unfold quietOp at hq
  unfold Oper.about
  split
  · rename_i h
    rw [h] at hq
    cases hq
  · rfl
section
variable {Post : Value → World → Prop} {Z : Scene} {n h k : Nat} {w : World} {x : Act} {kk : List Item} {cs : List Frame} {ops : Array Oper} {i : Nat} {rest : List Nat} {o : Oper} {f : FuncId}
/-- The walk's own: a quiet operation. -/
theorem Run.lq {v : Value} (ho : ops[i]? = some o) (hq : quietOp o = true) (hw : Region.wanted o (yielded ops x.tmps) = true) (hok : okOp Try.prog o = true) (hv : ∀ (w : World) (C : Result Next → Prop), C (.ok (.value v) w) → C ((execOp x.eval o).run Try.prog w))
    (H : Run Try.prog Post Z n h k (G ((base f).at (x.put o.dst v) (.inRegion ops rest :: kk)) cs) w) : Run Try.prog Post Z n h k (G ((base f).at x (.inRegion ops (i :: rest) :: kk)) cs) w :=
  Run.look theEnv ho hw (fun q => by cases q) hok (fun v g q => by rw [about_quiet hq] at q; cases q) v (fun u _ _ => run_eq_of' (hv u)) H
theorem Run.ln {t : TypeId} {X : Operand} {A : Option Addr} {m c : Nat} (ho : ops[i]? = some o) (hw : Region.wanted o (yielded ops x.tmps) = true) (hop : o.op = .call { callee := .builtin .len, args := #[X], argTypes := #[t] }) (hx : x.eval X = .slice A m c) (hb : (base f).kind = .normal) (ht : isSl (Try.prog.underlying t) = true)
    (H : Run Try.prog Post Z n h k (G ((base f).at (x.put o.dst (.int .i64 (m : Int))) (.inRegion ops rest :: kk)) cs) w) : Run Try.prog Post Z n h k (G ((base f).at x (.inRegion ops (i :: rest) :: kk)) cs) w :=
  Run.len theEnv ho hw (fun q => by rw [hb] at q; cases q) hop hx ht H
end
/-- A call of one of the good ones. -/
theorem Run.callG {Post : Value → World → Prop} {Z : Scene} {n h k : Nat} {w : World} {cs : List Frame} {S : Nat → Prop} {nn : Nat} {f : FuncId} {fn : Func} {c : Code} {vals : Array Value} {c0 : Frame}
    (hf : Try.prog.funcs[f]? = some fn) (hb : fn.body = some c) (hres : TmpRes Try.prog fn) (hS : ∀ c, Z.C c → ¬ S c) (Q : Value → World → Prop) (hQ : ∀ y v τ, Q y (tp v τ) → Q y v)
    (hcon : ∀ u, KeptH Z.Hd w u → u.heap.size = w.heap.size → CallsIn (Fence.list goodL none) nn Try.prog f vals u fun e v' => ∃ y, e = .returned y ∧ Kept S u v' ∧ Q y v')
    (H : ∀ y v' w', Q y v' → Kept S w w' → (∀ b, ¬ Z.Hd b → w'.heap[b]? = v'.heap[b]?) → w'.heap.size = v'.heap.size → Run Try.prog Post Z n h k (G (c0.finish y) cs) w') :
    Run Try.prog Post Z n h k (G ((base f).at { tmps := vals ++ Array.replicate (fn.ntmps - vals.size) undef, defers := [] } [.code c]) (c0 :: cs)) w := by
  refine Run.callV theEnv (F := Fence.list goodL none) (nn := nn) (fun f h => h) rfl (by simp [Fence.room, Fence.list]) hf hb hres hS Q hQ (fun hwk τ => ?_) (fun y v' w' h1 h2 h3 h4 _ => H y v' w' h1 h2 h3 h4)
  exact hcon _ ⟨rfl, rfl, by show _ ≤ (Z.hide w).heap.size; rw [hide_size]; exact Nat.le_refl _, fun k _ hk => hide_see hk⟩ (by show (Z.hide w).heap.size = _; rw [hide_size])
end Go.Proofs.Ytfpkachoneaaeaa
