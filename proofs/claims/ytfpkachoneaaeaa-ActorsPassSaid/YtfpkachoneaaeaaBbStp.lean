/-
  Calls, and what an operation of a function may do.
-/
import Derived.Test.YtfpkachoneaaeaaBbOps4
import Derived.Fence
import Derived.RunT
import Derived.CallsIn
import Derived.Conc.Beside
set_option linter.unusedSimpArgs false
set_option linter.unusedVariables false
namespace Go.Proofs.Ytfpkachoneaaeaa
open Go
/-- What comes of an operation: nothing that another goroutine could see. -/
def NextOk (P : Program) (ok : Oper → Prop) : Next → Prop
  | .value _ | .skip => True
  | .enter _ _ => True
  | .defer d => DefOk d
  | .round _ _ _ assign body => CodeOk ok assign ∧ CodeOk ok body
  | _ => False
/-- The function may be called: it has code, or what the model does for it is well. -/
def OkFn (P : Program) (ok : Oper → Prop) (f : FuncId) : Prop := ∀ args, Tm P ok (NextOk P ok) (callFunc f args)
/-- Every method of every type may be called. -/
def OkMethods (P : Program) (okf : FuncId → Prop) : Prop := ∀ t i, P.info? t = some i → ∀ m ∈ i.methods, ∀ f b, m.func = some (f, b) → okf f
def okBuiltin : Builtin → Bool
  | .append | .len => true
  | _ => false
/-- A call that leads to what may be called. -/
def OkTarget (okf : FuncId → Prop) : Target → Prop
  | .fn (.func f) _ | .fn (.via _ _ f _) _ => okf f
  | .builtin b _ _ _ => okBuiltin b = true
  | .coroexit _ => False
  | _ => True
section
variable {P : Program} {ok : Oper → Prop} {α β : Type}
theorem Tm.method (okf : FuncId → Prop) (hm : OkMethods P okf) : ∀ (n : Nat) (t : TypeId) (v : Value) (s : String), Tm P ok (fun r => okf r.1) (Go.method n t v s)
  | 0, _, _, _ => trivial
  | n + 1, t, v, s => by
    unfold Go.method
    refine Tm.bndQ (Tm.sourceInfo t) (fun i hi => ?_)
    split
    · rename_i m hf
      refine Tm.bnd (Tm.follow _ _ _) (fun r => ?_)
      split
      split
      · refine Tm.bnd (Tm.placeGet _ _) (fun x => ?_)
        split
        · exact Tm.method okf hm n _ _ _
        · exact Tm.runtimePanic _
        · exact Tm.stk _ _
      · rename_i f b hb
        refine Tm.bnd (Tm.receiverAt _ _ _ _) (fun x => ?_)
        refine Tm.ret ?_
        exact hm t i hi m (Array.mem_of_find?_eq_some hf) f b hb
    · exact Tm.stk _ _
theorem Tm.yield (l : Nat) (args : Array Value) : Tm P ok (NextOk P ok) (Instr.yield l args) := by
  unfold Instr.yield Instr.getLoop
  refine Tm.bndQ (R := fun r => ObjOk ok (.loop r)) ?_ (fun r hr => ?_)
  · refine Tm.gtB (fun o ho => ?_) (fun b o hj => .inl ?_)
    · split
      · exact Tm.ret ho
      · exact Tm.stk _ _
    · cases o <;> first | exact hj.elim | exact .inl ⟨_, rfl⟩
  · have h : Tm P ok (NextOk P ok) (pure (.round l r.fn ((r.params.zip args).foldl (fun tmps (t, a) => tmps.setIfInBounds t a) r.tmps) r.assign r.body) : Sem Next) := Tm.ret ⟨hr.1, hr.2.1⟩
    dsimp only
    split
    · exact Tm.bnd (Tm.stk _ _) (fun _ => h)
    · exact h
theorem Tm.val {s : Sem Value} (h : Tm P ok T s) : Tm P ok (NextOk P ok) (do pure (.value (← s)) : Sem Next) := Tm.bnd h (fun _ => Tm.ret trivial)
theorem Tm.callMethod (okf : FuncId → Prop) (hm : OkMethods P okf) (hf : ∀ f, okf f → OkFn P ok f) (r : Value) (s : String) (args : Array Value) : Tm P ok (NextOk P ok) (Go.callMethod r s args) := by
  unfold Go.callMethod
  split
  · refine Tm.bndQ (R := fun p => p = P) (Tm.prg rfl) (fun p hp => ?_)
    subst hp
    refine Tm.bndQ (Tm.method okf hm _ _ _ _) (fun r hr => ?_)
    exact hf _ hr _
  · exact Tm.runtimePanic _
  · exact Tm.stk _ _
theorem Tm.invoke (okf : FuncId → Prop) (hm : OkMethods P okf) (hf : ∀ f, okf f → OkFn P ok f) (t : Target) (args : Array Value) (ht : OkTarget okf t) : Tm P ok (NextOk P ok) (Go.invoke t args) := by
  unfold Go.invoke
  split
  · exact Tm.runtimePanic _
  · rename_i b _ _ _
    unfold Go.builtin
    cases b <;> first | (cases ht; done) | exact Tm.val (Tm.append_ _ _ _) | exact Tm.val (Tm.len_ _ _ _)
  · exact hf _ ht _
  · split
    · exact Tm.callMethod okf hm hf _ _ _
    · exact Tm.stk _ _
  · split
    · refine Tm.bnd (Tm.underlying _) (fun d => ?_)
      split <;> exact Tm.callMethod okf hm hf _ _ _
    · exact Tm.stk _ _
  · split
    · refine Tm.bnd (Tm.receiverVia _ _ _ _) (fun x => ?_)
      exact hf _ ht _
    · exact Tm.stk _ _
  · exact Tm.yield _ _
  · exact Tm.stk _ _
  · exact ht.elim
theorem OkFn.of_body {f : FuncId} {fn : Func} {c : Code} (h : P.funcs[f]? = some fn) (hb : fn.body = some c) (hn : (fn.name == "runtime.NumGoroutine") = false) : OkFn P ok f := by
  intro args
  unfold Go.callFunc
  refine Tm.bndQ (R := fun p => p = P) (Tm.prg rfl) (fun p hp => ?_)
  subst hp
  rw [h]
  dsimp only
  rw [if_neg (by simp [hn]), if_neg (by simp [hb])]
  exact Tm.ret trivial
end
end Go.Proofs.Ytfpkachoneaaeaa
namespace Go.Proofs.Ytfpkachoneaaeaa
open Go
/-- The operation is one that tells nothing of what is frozen. -/
def okOp (P : Program) (o : Oper) : Bool := match o.op with
  | .binOp op t x y _ => okBin P op t x y
  | .convert s t _ => okConv P s t
  | .lookup t _ _ _ | .mapUpdate t _ _ _ | .insert t _ _ _ => flatMap P t
  | .call c => match c.callee with | .builtin b => okBuiltin b | _ => true
  | .defer c => match c.callee with | .builtin _ => false | _ => true
  | .alloc _ | .box _ _ | .build _ _ | .buildSlice _ _ _ | .load _ _ | .store _ _ _ | .nilCheck _ | .unOp _ _ _ | .makeInterface _ _ | .makeFunc _ _ _ | .makeMap _ _ | .makeChan _ _ | .makeSlice _ _ _ | .slice _ _ _ _ _
  | .fieldAddr _ _ _ | .field _ _ _ | .indexAddr _ _ _ | .index _ _ _ | .range _ _ | .next _ _ | .entry _ | .extract _ _ | .move _ | .assign _ | .pick _ _ _ | .panic _ => true
  | _ => false
section
variable {P : Program} {ok : Oper → Prop} {α β : Type}
theorem Tm.sysE {Q : SysRet → Prop} (c : Sys) (hc : ∀ os : Os, ∃ r, Kernel.perform c os = .done r) (h : ∀ r, Q r) : Tm P ok Q (Go.sys c) := ⟨hc, fun r => h r⟩
theorem Tm.panicnil : Tm P ok T Instr.panicnil := by
  unfold Instr.panicnil
  refine Tm.bnd (Tm.sysE _ (fun os => ⟨_, rfl⟩) (fun _ => trivial)) (fun r => ?_)
  (repeat' (first | ((with_reducible refine Tm.noRoom (Calm.mayShare _ _ _ _ _) ?_); exact trivial) | with_reducible (first | exact Tm.ld _ _ | exact Tm.st _ _ _ | exact Tm.ch _ | exact Tm.stk _ _ | exact Tm.pnc _ _ | exact Tm.thr _ _ | exact Tm.fat _ _ | exact Tm.prg trivial | exact Tm.ret trivial | exact Tm.underlying _ | exact Tm.typeInfo _ | exact Tm.sizeOf _ | exact Tm.zeroValue _ | exact Tm.isAgg _ | exact Tm.elemOf _ | exact Tm.typeStr _ | exact Tm.loadCells _ _ | exact Tm.storeCells _ _ _ | exact Tm.loadVar _ _ | exact Tm.storeVar _ _ _ | exact Tm.newRow _ _ | exact Tm.newVar _ _ | exact Tm.part _ _ _ | exact Tm.runtimePanic _ | exact Tm.asIntOf _ | exact Tm.asInt _ | exact Tm.asBool _ | exact Tm.asString _ | exact Tm.asAgg _ | exact Tm.asAddr _ | exact Tm.askRoom _ | exact Tm.boundsPanic _ _ _ _ | exact Tm.noView _ | exact Tm.numberAt _ | exact Tm.behindNumber _ | exact Tm.byteOf _ | exact Tm.partAt _ _ _ | exact Tm.fieldPlace _ _ | exact Tm.sureAddr _ | exact Tm.loadAt _ _ | exact Tm.storeAt _ _ _ | exact Tm.fieldAt _ _ _ | exact Tm.indexAt _ _ _ | exact Tm.extract _ _ | exact Tm.alloc _ _ | exact Tm.box _ _ | exact Tm.index _ _ _ | exact Tm.buildSlice _ _ _ | exact Tm.sliceBound _ _ _ | exact Tm.sliceBounds _ _ _ _ _ _ | exact Tm.slice _ _ _ _ _ | exact Tm.sliceAt _ _ _ _ _ | exact Tm.makeSlice _ _ _ | exact Tm.makeMap _ _ | exact Tm.makeChan _ _ | exact Tm.makeFunc _ _ _ | exact Tm.range _ _ | exact Tm.next _ _ _ | exact Tm.build _ _ | exact Tm.bytesToString _ | exact Tm.len_ _ _ _ | exact Tm.lenOf _ | exact Tm.firstCells _ _ _ | exact Tm.append_ _ _ _ | exact Tm.append_ _ _ _ | exact Tm.intArith _ _ _ _ | exact Tm.intDiv _ _ _ _ | exact Tm.intBits _ _ _ _ | exact Tm.intCmp _ _ _ | exact Tm.shift _ _ _ _ _ | exact Tm.stringOp _ _ _ | exact Tm.floatArith _ _ _ _ | exact Tm.floatCmp _ _ _ _ | exact Tm.unary _ _ | exact Tm.intToInt _ _ | exact Tm.intToFloat _ _ | exact Tm.intToString _ | exact Tm.floatToInt _ _ _ | exact Tm.floatToFloat _ _ _ | exact Tm.complexToComplex _ _ _ _ | exact Tm.stringToRunes _ _ | exact Tm.unsafeAdd_ _ _ _ | exact Tm.asNumber _ _ | exact Tm.movedNumber _ _ _ | exact Tm.movedPointer _ _ _ | exact Tm.twoPlaces _ _ | exact Tm.addrSub _ _ _ | exact Tm.addrCmp _ _ _ | exact Tm.addrMod _ _ _ | exact Tm.entry _ | exact Tm.field _ _ _ | exact (by assumption) | exact Tm.runesToString _ | exact Tm.carith _ _ _ _ | exact Tm.ccmp _ _ _ _ | exact Tm.cconv _ _ _ | exact Tm.cadd _ _ | exact Tm.csub _ _ | exact Tm.cmul _ _ | exact Tm.cquo _ _ | exact Tm.cproduct _ _ _ _ | exact Tm.ccorrected _ _ _ _ _ | exact Tm.cquotient _ _ _ _ | exact Tm.complexOp _ _ _ _ _ _ | exact Tm.makeInterface _ _ | exact Tm.placeGet _ _ | exact Tm.follow _ _ _ | exact Tm.followBlind _ _ _ | exact Tm.nilAhead _ _ _ _ | exact Tm.ssaWrap _ _ _ _ _ | exact Tm.receiverAt _ _ _ _ | exact Tm.receiverVia _ _ _ _) | ((with_reducible refine Tm.uns _ _ ?_); exact trivial) | ((with_reducible refine Tm.nw _ ?_); exact trivial) | ((with_reducible refine Tm.so _ _ ?_); exact trivial) | (with_reducible refine Tm.shB (fun _ => ?_) (fun e n => rfl)) | (with_reducible refine Tm.viewB (fun _ => ?_) (fun x y => rfl)) | (with_reducible refine Tm.gtS (fun _ _ => ?_) (fun _ => rfl) (fun _ => rfl) (fun _ _ => rfl) (fun _ _ => rfl)) | (with_reducible refine Tm.bnd ?_ (fun _ => ?_)) | (with_reducible refine Tm.map_ ?_ _) | (with_reducible refine Tm.ite_ ?_ ?_) | split | (dsimp only; skip)))
theorem Tm.panic (x : Value) : Tm P ok T (Instr.panic x) := by
  unfold Instr.panic
  (repeat' (first | ((with_reducible refine Tm.noRoom (Calm.mayShare _ _ _ _ _) ?_); exact trivial) | with_reducible (first | exact Tm.ld _ _ | exact Tm.st _ _ _ | exact Tm.ch _ | exact Tm.stk _ _ | exact Tm.pnc _ _ | exact Tm.thr _ _ | exact Tm.fat _ _ | exact Tm.prg trivial | exact Tm.ret trivial | exact Tm.underlying _ | exact Tm.typeInfo _ | exact Tm.sizeOf _ | exact Tm.zeroValue _ | exact Tm.isAgg _ | exact Tm.elemOf _ | exact Tm.typeStr _ | exact Tm.loadCells _ _ | exact Tm.storeCells _ _ _ | exact Tm.loadVar _ _ | exact Tm.storeVar _ _ _ | exact Tm.newRow _ _ | exact Tm.newVar _ _ | exact Tm.part _ _ _ | exact Tm.runtimePanic _ | exact Tm.asIntOf _ | exact Tm.asInt _ | exact Tm.asBool _ | exact Tm.asString _ | exact Tm.asAgg _ | exact Tm.asAddr _ | exact Tm.askRoom _ | exact Tm.boundsPanic _ _ _ _ | exact Tm.noView _ | exact Tm.numberAt _ | exact Tm.behindNumber _ | exact Tm.byteOf _ | exact Tm.partAt _ _ _ | exact Tm.fieldPlace _ _ | exact Tm.sureAddr _ | exact Tm.loadAt _ _ | exact Tm.storeAt _ _ _ | exact Tm.fieldAt _ _ _ | exact Tm.indexAt _ _ _ | exact Tm.extract _ _ | exact Tm.alloc _ _ | exact Tm.box _ _ | exact Tm.index _ _ _ | exact Tm.buildSlice _ _ _ | exact Tm.sliceBound _ _ _ | exact Tm.sliceBounds _ _ _ _ _ _ | exact Tm.slice _ _ _ _ _ | exact Tm.sliceAt _ _ _ _ _ | exact Tm.makeSlice _ _ _ | exact Tm.makeMap _ _ | exact Tm.makeChan _ _ | exact Tm.makeFunc _ _ _ | exact Tm.range _ _ | exact Tm.next _ _ _ | exact Tm.build _ _ | exact Tm.bytesToString _ | exact Tm.len_ _ _ _ | exact Tm.lenOf _ | exact Tm.firstCells _ _ _ | exact Tm.append_ _ _ _ | exact Tm.append_ _ _ _ | exact Tm.intArith _ _ _ _ | exact Tm.intDiv _ _ _ _ | exact Tm.intBits _ _ _ _ | exact Tm.intCmp _ _ _ | exact Tm.shift _ _ _ _ _ | exact Tm.stringOp _ _ _ | exact Tm.floatArith _ _ _ _ | exact Tm.floatCmp _ _ _ _ | exact Tm.unary _ _ | exact Tm.intToInt _ _ | exact Tm.intToFloat _ _ | exact Tm.intToString _ | exact Tm.floatToInt _ _ _ | exact Tm.floatToFloat _ _ _ | exact Tm.complexToComplex _ _ _ _ | exact Tm.stringToRunes _ _ | exact Tm.unsafeAdd_ _ _ _ | exact Tm.asNumber _ _ | exact Tm.movedNumber _ _ _ | exact Tm.movedPointer _ _ _ | exact Tm.twoPlaces _ _ | exact Tm.addrSub _ _ _ | exact Tm.addrCmp _ _ _ | exact Tm.addrMod _ _ _ | exact Tm.entry _ | exact Tm.field _ _ _ | exact (by assumption) | exact Tm.runesToString _ | exact Tm.carith _ _ _ _ | exact Tm.ccmp _ _ _ _ | exact Tm.cconv _ _ _ | exact Tm.cadd _ _ | exact Tm.csub _ _ | exact Tm.cmul _ _ | exact Tm.cquo _ _ | exact Tm.cproduct _ _ _ _ | exact Tm.ccorrected _ _ _ _ _ | exact Tm.cquotient _ _ _ _ | exact Tm.complexOp _ _ _ _ _ _ | exact Tm.makeInterface _ _ | exact Tm.placeGet _ _ | exact Tm.follow _ _ _ | exact Tm.followBlind _ _ _ | exact Tm.nilAhead _ _ _ _ | exact Tm.ssaWrap _ _ _ _ _ | exact Tm.receiverAt _ _ _ _ | exact Tm.receiverVia _ _ _ _ | exact Tm.panicnil) | ((with_reducible refine Tm.uns _ _ ?_); exact trivial) | ((with_reducible refine Tm.nw _ ?_); exact trivial) | ((with_reducible refine Tm.so _ _ ?_); exact trivial) | (with_reducible refine Tm.shB (fun _ => ?_) (fun e n => rfl)) | (with_reducible refine Tm.viewB (fun _ => ?_) (fun x y => rfl)) | (with_reducible refine Tm.gtS (fun _ _ => ?_) (fun _ => rfl) (fun _ => rfl) (fun _ _ => rfl) (fun _ _ => rfl)) | (with_reducible refine Tm.bnd ?_ (fun _ => ?_)) | (with_reducible refine Tm.map_ ?_ _) | (with_reducible refine Tm.ite_ ?_ ?_) | split | (dsimp only; skip)))
theorem resolve_target {ρ : Operand → Value} {c : Call} {t : TypeId} (okf : FuncId → Prop) (w : World) (hb : (match c.callee with | .builtin b => okBuiltin b | _ => true) = true)
    (hab : ∀ f, (match (resolve ρ c t).run P w with | .ok d w' => d.target.leads P w' d.args | .halt _ _ => none) = some f → okf f) : Tm P ok (fun d => OkTarget okf d.target) (resolve ρ c t) := by
  unfold resolve at *
  cases hc : c.callee with
  | builtin b =>
    rw [hc] at hb
    exact Tm.ret hb
  | invoke r n => exact Tm.ret trivial
  | value f =>
    rw [hc] at hab
    dsimp only at hab ⊢
    unfold Deferred.ofValue at *
    split
    · rename_i fn first cap hf
      rw [hf] at hab
      refine Tm.ret ?_
      cases fn <;> first | exact trivial | exact hab _ rfl
    · exact Tm.ret trivial
    · exact Tm.stk _ _
theorem resolve_defer {ρ : Operand → Value} {c : Call} {t : TypeId} (hb : (match c.callee with | .builtin _ => false | _ => true) = true) : Tm P ok (fun d => NextOk P ok (.defer d)) (resolve ρ c t) := by
  unfold resolve
  cases hc : c.callee with
  | builtin b =>
    rw [hc] at hb
    cases hb
  | invoke r n => exact Tm.ret trivial
  | value f =>
    dsimp only
    unfold Deferred.ofValue
    split
    · exact Tm.ret trivial
    · exact Tm.ret trivial
    · exact Tm.stk _ _
theorem Tm.unit {s : Sem Unit} (h : Tm P ok T s) : Tm P ok (NextOk P ok) (do s; pure .skip : Sem Next) := Tm.bnd h (fun _ => Tm.ret trivial)
theorem Tm.execOp (okf : FuncId → Prop) (hm : OkMethods P okf) (hf : ∀ f, okf f → OkFn P ok f) (ρ : Operand → Value) (hρ : ∀ v, ρ (.const v) = v) (o : Oper) (hok : okOp P o = true) (w : World) (hab : ∀ f, o.about P w ρ = some f → okf f) :
    Tm P ok (NextOk P ok) (Go.execOp ρ o) := by
  unfold okOp at hok
  unfold Oper.about at hab
  unfold Go.execOp
  cases he : o.op <;> rw [he] at hok hab <;> dsimp only at hok hab ⊢
  case call c =>
    refine Tm.bndQ (resolve_target okf w hok hab) (fun d hd => ?_)
    exact Tm.invoke okf hm hf _ _ hd
  case defer c => exact Tm.bndQ (resolve_defer hok) (fun d hd => Tm.ret hd)
  case binOp op t x y n => exact Tm.val (Tm.bnd (Tm.eqGuardOk op t x y _ _ (fun v hv => by rw [hv, hρ]) (fun v hv => by rw [hv, hρ]) hok) (fun _ => Tm.binOp op t x y _ _ (fun v hv => by rw [hv, hρ]) (fun v hv => by rw [hv, hρ]) hok))
  case lookup t x i b => exact Tm.val (Tm.lookup _ _ _ _ hok)
  case mapUpdate t m k x => exact Tm.unit (Tm.mapUpdate _ _ _ _ hok)
  case insert t m k x => exact Tm.unit (Tm.mapUpdate _ _ _ _ hok)
  case pick c a b => exact Tm.bnd (Tm.asBool _) (fun _ => Tm.ret trivial)
  case nilCheck x =>
    split
    · exact Tm.runtimePanic _
    · exact Tm.runtimePanic _
    · exact Tm.runtimePanic _
    · split
      · exact Tm.runtimePanic _
      · refine Tm.bnd (Tm.prg trivial) (fun p => Tm.bnd (Tm.nilAhead _ _ _ _) (fun b => ?_))
        split
        · exact Tm.bnd (Tm.uns _ _ trivial) (fun _ => Tm.ret trivial)
        · exact Tm.ret trivial
      · exact Tm.ret trivial
    · exact Tm.ret trivial
  case alloc => exact Tm.val (Tm.alloc _ _)
  case box => exact Tm.val (Tm.box _ _)
  case build => exact Tm.val (Tm.build _ _)
  case buildSlice => exact Tm.val (Tm.buildSlice _ _ _)
  case load => exact Tm.val (Tm.loadAt _ _)
  case store => exact Tm.unit (Tm.storeAt _ _ _)
  case unOp => exact Tm.val (Tm.unary _ _)
  case convert => exact Tm.val (Tm.convert _ _ _ hok)
  case makeInterface => exact Tm.val (Tm.makeInterface _ _)
  case makeFunc => exact Tm.val (Tm.makeFunc _ _ _)
  case makeMap => exact Tm.val (Tm.makeMap _ _)
  case makeChan => exact Tm.val (Tm.makeChan _ _)
  case makeSlice => exact Tm.val (Tm.makeSlice _ _ _)
  case slice => exact Tm.val (Tm.sliceAt _ _ _ _ _)
  case fieldAddr => exact Tm.val (Tm.fieldAt _ _ _)
  case field => exact Tm.val (Tm.field _ _ _)
  case indexAddr => exact Tm.val (Tm.indexAt _ _ _)
  case index => exact Tm.val (Tm.index _ _ _)
  case range => exact Tm.val (Tm.range _ _)
  case next => exact Tm.val (Tm.next _ _ _)
  case entry => exact Tm.val (Tm.entry _)
  case extract => exact Tm.val (Tm.extract _ _)
  case panic => exact Tm.val (Tm.panic _)
  case move => exact Tm.ret trivial
  case assign => exact Tm.ret trivial
  all_goals (cases hok; done)
end
end Go.Proofs.Ytfpkachoneaaeaa
namespace Go.Proofs.Ytfpkachoneaaeaa
open Go
/-- What is to do holds nothing but good code. -/
def ItemOk (ok : Oper → Prop) : Item → Prop
  | .code c | .inLoop c | .inScope c => CodeOk ok c
  | .inRegion ops _ => ∀ o ∈ ops, ok o
  | .call .. | Item.extern .. => False
  | _ => True
/-- The function's code is good. -/
def GoodFn (P : Program) (ok : Oper → Prop) (f : FuncId) : Prop := ∀ fn c, P.funcs[f]? = some fn → fn.body = some c → CodeOk ok c
structure FrameOk (P : Program) (ok : Oper → Prop) (fr : Frame) : Prop where
  todo : GoodFn P ok fr.fn → ∀ i ∈ fr.todo, ItemOk ok i
  defers : ∀ d ∈ fr.defers, DefOk d
  early : (fr.kind == .early) = false
  report : ∀ s : Unit, fr.kind ≠ .report
  calm : ∀ chain, fr.mode = .panicking chain → ∀ e ∈ chain, e.goexit = false
section
variable {P : Program} {ok : Oper → Prop}
theorem Tm.getLoop (l : Nat) : Tm P ok (fun r => ObjOk ok (.loop r)) (Instr.getLoop l) := by
  unfold Instr.getLoop
  refine Tm.gtB (fun o ho => ?_) (fun b o hj => .inl ?_)
  · split
    · exact Tm.ret ho
    · exact Tm.stk _ _
  · cases o <;> first | exact hj.elim | exact .inl ⟨_, rfl⟩
theorem Tm.enterLoop (fn : FuncId) (tmps : Array Value) (params : Array Tmp) (a b : Code) (ha : CodeOk ok a) (hb : CodeOk ok b) (r : Option Nat) : Tm P ok (fun x => ∀ d ∈ x.2, DefOk d) (Instr.enterLoop fn tmps params a b r) := by
  unfold Instr.enterLoop
  have h : ∀ (df : Nat) (mk : List Deferred), (∀ d ∈ mk, DefOk d) → Tm P ok (fun x => ∀ d ∈ x.2, DefOk d) (do let l ← newObj (.loop { state := .ready, pending := none, fn, tmps, params, assign := a, body := b, defers := df }); pure (l, mk) : Sem (Nat × List Deferred)) :=
    fun df mk hk => Tm.bnd (Tm.nw _ ⟨ha, hb, fun c hc => by cases hc⟩) (fun _ => Tm.ret hk)
  split
  · refine Tm.bndQ (Tm.getLoop _) (fun r _ => ?_)
    exact h _ _ (by simp)
  · refine Tm.bnd (Tm.nw _ (by intro d hd; cases hd)) (fun r => ?_)
    exact h _ _ (by simp [DefOk])
theorem Tm.beginRound (l : Nat) : Tm P ok T (Instr.beginRound l) := by
  unfold Instr.beginRound
  refine Tm.bndQ (Tm.getLoop l) (fun r hr => ?_)
  refine Tm.bnd (Tm.so _ _ hr) (fun _ => ?_)
  split
  · exact Tm.retT
  · exact Tm.runtimePanic _
  · exact Tm.runtimePanic _
  · exact Tm.runtimePanic _
theorem Tm.endRound (l : Nat) (j : Option Code) (hj : ∀ c, j = some c → CodeOk ok c) : Tm P ok T (Instr.endRound l j) := by
  unfold Instr.endRound
  refine Tm.bndQ (Tm.getLoop l) (fun r hr => ?_)
  exact Tm.bnd (Tm.so _ _ ⟨hr.1, hr.2.1, hj⟩) (fun _ => Tm.retT)
theorem Tm.endLoop (l : Nat) : Tm P ok (fun j => ∀ c, j = some c → CodeOk ok c) (Instr.endLoop l) := by
  unfold Instr.endLoop
  refine Tm.bndQ (Tm.getLoop l) (fun r hr => ?_)
  have h : Tm P ok (fun j => ∀ c, j = some c → CodeOk ok c) (do setObj l (.loop { r with state := .exhausted }); pure r.pending : Sem (Option Code)) := Tm.bnd (Tm.so _ _ hr) (fun _ => Tm.ret hr.2.2)
  dsimp only
  split
  · exact Tm.bnd (Tm.runtimePanic _) (fun _ => h)
  · exact h
theorem Tm.takeDeferred (b : Nat) : Tm P ok (fun ds => ∀ d ∈ ds, DefOk d) (Instr.takeDeferred b) := by
  unfold Instr.takeDeferred
  refine Tm.gtB (fun o ho => ?_) (fun b o hj => .inl ?_)
  · split
    · rename_i ds
      exact Tm.bnd (Tm.so _ _ trivial) (fun _ => Tm.ret ho)
    · exact Tm.stk _ _
  · cases o <;> first | exact hj.elim | exact .inl ⟨_, rfl⟩
theorem Tm.deferInRound (l : Nat) (d : Deferred) (hd : DefOk d) : Tm P ok T (Instr.deferInRound l d) := by
  unfold Instr.deferInRound
  refine Tm.bndQ (Tm.getLoop l) (fun r hr => ?_)
  refine Tm.gtB (fun o ho => ?_) (fun b o hj => .inl ?_)
  · split
    · rename_i ds
      refine Tm.so _ _ ?_
      intro d' h'
      rcases List.mem_cons.1 h' with rfl | h'
      · exact hd
      · exact ho _ h'
    · exact Tm.thr _ _
    · exact Tm.stk _ _
  · cases o <;> first | exact hj.elim | exact .inl ⟨_, rfl⟩
theorem Tm.results (fn : Func) (tmps : Array Value) : Tm P ok T (Go.results fn tmps) := by
  unfold Go.results
  refine Tm.bnd (Tm.mapM _ _ (fun r => ?_)) (fun vs => Tm.retT)
  split
  · exact Tm.retT
  · exact Tm.bnd (Tm.asAddr _) (fun a => Tm.loadVar _ _)
end
end Go.Proofs.Ytfpkachoneaaeaa
namespace Go.Proofs.Ytfpkachoneaaeaa
open Go
structure Went (ok : Oper → Prop) (Hd : Nat → Prop) (v v' : World) (es : Array Event) : Prop where
  evs : ∀ e ∈ es, EvOk Hd e
  size : v.heap.size ≤ v'.heap.size
  heap : HeapOk ok Hd v'
  chan : ∀ (c : Nat) (o : Obj), o.isChan = true → c < v.heap.size → v'.heap[c]? = some o → v.heap[c]? = some o
  draws : v'.tape = v.tape ∧ v.drawn ≤ v'.drawn
theorem After.went {ok : Oper → Prop} {Hd : Nat → Prop} {v v' : World} {es : Array Event} (h : After ok Hd v v' #[] es) : Went ok Hd v v' es := by
  obtain ⟨d, hd, he⟩ := h.evs
  refine ⟨fun e q => he e ?_, h.size, h.heap, h.chan, h.draws⟩
  rw [hd] at q
  simpa using q
theorem Went.sub {ok : Oper → Prop} {Hd : Nat → Prop} {v v' : World} {es es' : Array Event} (h : Went ok Hd v v' es) (hs : ∀ e ∈ es', e ∈ es) : Went ok Hd v v' es' :=
  ⟨fun e q => h.evs e (hs e q), h.size, h.heap, h.chan, h.draws⟩
theorem Went.refl {ok : Oper → Prop} {Hd : Nat → Prop} {v : World} (h : HeapOk ok Hd v) : Went ok Hd v v #[] := ⟨by simp, Nat.le_refl _, h, fun _ _ _ _ q => q, rfl, Nat.le_refl _⟩
theorem Went.trans {ok : Oper → Prop} {Hd : Nat → Prop} {v v1 v2 : World} {es es' : Array Event} (h : Went ok Hd v v1 es) (k : Went ok Hd v1 v2 es') : Went ok Hd v v2 (es ++ es') := by
  refine ⟨fun e q => ?_, Nat.le_trans h.size k.size, k.heap, fun c o ho hc q => h.chan c o ho hc (k.chan c o ho (Nat.lt_of_lt_of_le hc h.size) q), k.draws.1.trans h.draws.1, Nat.le_trans h.draws.2 k.draws.2⟩
  rcases Array.mem_append.1 q with q | q
  · exact h.evs e q
  · exact k.evs e q
structure GorOk (P : Program) (ok : Oper → Prop) (g : Goroutine) : Prop where
  running : g.status = .running
  living : g.dying = none
  quiet : g.offers = none
  frame : FrameOk P ok g.frame
  callers : ∀ c ∈ g.callers, FrameOk P ok c
def StepTold (P : Program) (ok : Oper → Prop) (Hd : Nat → Prop) (M : Lim) (cs : List Frame) (v : World) (s s' : GStep) : Prop :=
  match s with
  | .go g v' es => g.dying = none → GorOk P ok g ∧ Went ok Hd v v' es ∧ (v'.drawn ≤ M.lim → ∃ w', s' = .go { g with callers := g.callers ++ cs } w' es ∧ Like Hd M v' w')
  | .ended _ _ _ => True
  | _ => False
theorem StepTold.after {P : Program} {ok : Oper → Prop} {Hd : Nat → Prop} {M : Lim} {cs : List Frame} {v v1 : World} {s s' : GStep} {es : Array Event} (h : Went ok Hd v v1 es) (k : StepTold P ok Hd M cs v1 s s') : StepTold P ok Hd M cs v (GStep.after es s) (GStep.after es s') := by
  cases s <;> first | exact k.elim | exact trivial | skip
  intro hd
  obtain ⟨h1, h2, h3⟩ := k hd
  refine ⟨h1, h.trans h2, fun q => ?_⟩
  obtain ⟨w', rfl, h4⟩ := h3 q
  exact ⟨w', rfl, h4⟩
theorem StepTold.far {P : Program} {ok : Oper → Prop} {Hd : Nat → Prop} {M M' : Lim} {cs : List Frame} {v v1 : World} {s s' s'' : GStep} {es : Array Event} (h : Went ok Hd v v1 es) (hM : M.lim < v1.drawn) (k : StepTold P ok Hd M' cs v1 s s') : StepTold P ok Hd M cs v (GStep.after es s) s'' := by
  cases s <;> first | exact k.elim | exact trivial | skip
  intro hd
  obtain ⟨h1, h2, _⟩ := k hd
  exact ⟨h1, h.trans h2, fun q => by have := h2.draws.2; omega⟩
/-- Behind a run that is told of. -/
theorem StepTold.ran {P : Program} {ok : Oper → Prop} {Hd : Nat → Prop} {M : Lim} {cs : List Frame} {v v1 : World} {S s'' : GStep} {es : Array Event} {α : Type} {y : Result α × Array Event} {z : World → Result α × Array Event} (h : Went ok Hd v v1 es) (hx : v1.drawn ≤ M.lim → ∃ w', y = z w' ∧ Like Hd M v1 w')
    (F : World → GStep) (hF : ∀ w', y = z w' → s'' = GStep.after es (F w')) (key : ∀ (M : Lim) w', Like Hd M v1 w' → StepTold P ok Hd M cs v1 S (F w')) : StepTold P ok Hd M cs v (GStep.after es S) s'' := by
  rcases Nat.lt_or_ge M.lim v1.drawn with hM | hM
  · exact StepTold.far h hM (key _ v1 (Like.refl h.heap))
  · obtain ⟨w', e, hl⟩ := hx hM
    rw [hF w' e]
    exact StepTold.after h (key M w' hl)
theorem seen_sub (P : Program) (fn : FuncId) (es : Array Event) : ∀ e ∈ seen P fn es, e ∈ es := by
  intro e he
  unfold seen at he
  have key : ∀ (l : List Event) (q : Bool) (kept : Array Event), ∀ e ∈ (l.foldl (fun (x : Bool × Array Event) e => match e.loc with | .mark (Mark.extern f) => ((P.funcs[f]?).any (·.norace), x.2) | _ => (x.1, if x.1 && !e.sync then x.2 else x.2.push e)) (q, kept)).2, e ∈ l ∨ e ∈ kept := by
    intro l
    induction l with
    | nil => intro q kept e he; exact .inr he
    | cons a l ih =>
      intro q kept e he
      rw [List.foldl_cons] at he
      dsimp only at he
      split at he
      · rcases ih _ _ e he with h | h
        · exact .inl (List.mem_cons_of_mem _ h)
        · exact .inr h
      · rcases ih _ _ e he with h | h
        · exact .inl (List.mem_cons_of_mem _ h)
        · split at h
          · exact .inr h
          · rcases Array.mem_push.1 h with h | h
            · exact .inr h
            · exact .inl (h ▸ List.mem_cons_self ..)
  dsimp only at he
  rw [← Array.foldl_toList] at he
  rcases key _ _ _ e he with h | h
  · simpa using h
  · simp at h
section
variable {P : Program} {ok : Oper → Prop} {fr : Frame}
theorem FrameOk.tmps (h : FrameOk P ok fr) (t : Array Value) : FrameOk P ok { fr with tmps := t } := ⟨h.todo, h.defers, h.early, h.report, h.calm⟩
theorem FrameOk.with (h : FrameOk P ok fr) (k : List Item) (hk : ∀ i ∈ k, ItemOk ok i) : FrameOk P ok { fr with todo := k } := ⟨fun _ => hk, h.defers, h.early, h.report, h.calm⟩
theorem FrameOk.mode (h : FrameOk P ok fr) (m : FrameMode) (hm : ∀ chain, m = .panicking chain → ∀ e ∈ chain, e.goexit = false) : FrameOk P ok { fr with mode := m } := ⟨h.todo, h.defers, h.early, h.report, hm⟩
theorem FrameOk.raise (h : FrameOk P ok fr) (c : List PanicEntry) (hc : ∀ e ∈ c, e.goexit = false) : FrameOk P ok (fr.raise c) := by
  unfold Frame.raise
  split
  · rename_i chain e
    refine h.mode _ (fun ch q x hx => ?_)
    cases q
    rcases List.mem_append.1 hx with hx | hx
    · exact hc x hx
    · exact h.calm chain e x hx
  · refine h.mode _ (fun ch q x hx => ?_)
    cases q
    exact hc x hx
theorem FrameOk.finish (h : FrameOk P ok fr) (v : Value) : FrameOk P ok (fr.finish v) := by
  have e1 : (fr.finish v).fn = fr.fn := by unfold Frame.finish; split <;> rfl
  have e2 : (fr.finish v).defers = fr.defers := by unfold Frame.finish; split <;> rfl
  have e3 : (fr.finish v).kind = fr.kind := by unfold Frame.finish; split <;> rfl
  have e4 : (fr.finish v).mode = fr.mode := by unfold Frame.finish; split <;> rfl
  refine ⟨fun hg => ?_, by rw [e2]; exact h.defers, by rw [e3]; exact h.early, by rw [e3]; exact h.report, by rw [e4]; exact h.calm⟩
  rw [e1] at hg
  have ht := h.todo hg
  unfold Frame.finish
  split <;> rename_i e
  · rw [e] at ht
    have h0 := ht _ (List.mem_cons_self ..)
    intro i hi
    rcases List.mem_cons.1 hi with rfl | hi
    · exact h0
    · exact ht i (List.mem_cons_of_mem _ hi)
  · rw [e] at ht
    intro i hi
    rcases List.mem_cons.1 hi with rfl | hi
    · trivial
    · exact ht i (List.mem_cons_of_mem _ hi)
  · rw [e] at ht
    exact fun i hi => ht i (List.mem_cons_of_mem _ hi)
  · rw [e] at ht
    exact (ht _ (List.mem_cons_self ..)).elim
  · rw [e] at ht
    exact (ht _ (List.mem_cons_self ..)).elim
  · exact ht
theorem FrameOk.enter (f : FuncId) (args : Array Value) (k : CallKind) (hk : (k == .early) = false) (hr : k ≠ .report) : FrameOk P ok (Frame.enter P f args k) := by
  unfold Frame.enter
  refine ⟨fun hf i hi => ?_, by simp, hk, fun _ => hr, fun c q => by cases q⟩
  obtain rfl : i = _ := by simpa using hi
  cases e : P.funcs[f]? with
  | none => trivial
  | some fn =>
    cases e2 : fn.body with
    | none => simp only [Option.bind_some, e2, Option.getD_none]; trivial
    | some c => simp only [Option.bind_some, e2, Option.getD_some]; exact hf fn c e e2
theorem FrameOk.round (l : Nat) (f : FuncId) (t : Array Value) (a b : Code) (k : CallKind) (hk : (k == .early) = false) (hr : k ≠ .report) (ha : CodeOk ok a) (hb : CodeOk ok b) : FrameOk P ok (Frame.round l f t a b k) := by
  unfold Frame.round
  refine ⟨fun _ i hi => ?_, by simp, hk, fun _ => hr, fun c q => by cases q⟩
  simp only [List.mem_cons, List.not_mem_nil, or_false] at hi
  rcases hi with rfl | rfl | rfl
  · exact ha
  · trivial
  · exact hb
theorem FrameOk.defer (h : FrameOk P ok fr) {d : Deferred} (hd : DefOk d) : FrameOk P ok { fr with defers := d :: fr.defers } := by
  refine ⟨h.todo, fun d' hd' => ?_, h.early, h.report, h.calm⟩
  rcases List.mem_cons.1 hd' with rfl | q
  · exact hd
  · exact h.defers _ q
end
section
variable {P : Program} {ok : Oper → Prop} {Hd : Nat → Prop} {M : Lim} {fr : Frame} {callers cs : List Frame} {v w : World}
theorem FrameOk.noCall (h : FrameOk P ok fr) (hgd : GoodFn P ok fr.fn) : (match fr.todo with | .call _ true _ _ :: _ => CallKind.wrapped | _ => .normal) = .normal := by
  have ht := h.todo hgd
  split
  · rename_i e
    rw [e] at ht
    exact (ht _ (List.mem_cons_self ..)).elim
  · rfl
theorem fatal_told {s' : GStep} (m : String) : StepTold P ok Hd M cs v (endFatal P fr callers none m v) s' := by
  unfold endFatal
  simp only
  split
  · exact fun hd => by cases hd
  · exact trivial
  · exact trivial
theorem apply_told (hgd : GoodFn P ok fr.fn) (hfr : FrameOk P ok fr) (hcs : ∀ c ∈ callers, FrameOk P ok c) (s : Sem Next) (hs : Tm P ok (NextOk P ok) s) (hl : Like Hd M v w) (hv : HeapOk ok Hd v) :
    StepTold P ok Hd M cs v (stepG.apply P true fr callers none s v) (stepG.apply P true fr (callers ++ cs) none s w) := by
  have ht := tm_sim s hs v w hl hv #[]
  unfold stepG.apply
  simp only [if_true, hfr.noCall hgd, hfr.early, Bool.false_eq_true, if_false]
  generalize s.runT P v #[] = x at ht ⊢
  generalize s.runT P w #[] = y at ht ⊢
  obtain ⟨r, es⟩ := x
  cases r with
  | ok n v' =>
    obtain ⟨hq, ha, hx⟩ := ht
    refine StepTold.ran (v1 := v') (ha.went.sub (seen_sub _ _ _)) hx _ (fun w' e => by rw [e]) (fun M w' hl' => ?_)
    have hr := Went.refl ha.heap
    cases n <;> try (exact hq.elim)
    case value x => exact fun _ => ⟨⟨rfl, rfl, rfl, hfr.finish _, hcs⟩, hr, fun _ => ⟨_, rfl, hl'⟩⟩
    case skip => exact fun _ => ⟨⟨rfl, rfl, rfl, hfr.finish _, hcs⟩, hr, fun _ => ⟨_, rfl, hl'⟩⟩
    case enter f args => exact fun _ => ⟨⟨rfl, rfl, rfl, FrameOk.enter f args _ (by split <;> rfl) (by split <;> (intro q; cases q)), fun c hc => (List.mem_cons.1 hc).elim (fun q => q ▸ hfr) (hcs c)⟩, hr, fun _ => ⟨_, rfl, hl'⟩⟩
    case round l f t a b => exact fun _ => ⟨⟨rfl, rfl, rfl, FrameOk.round l f t a b _ rfl (by intro q; cases q) hq.1 hq.2, fun c hc => (List.mem_cons.1 hc).elim (fun q => q ▸ hfr) (hcs c)⟩, hr, fun _ => ⟨_, rfl, hl'⟩⟩
    case defer d => exact fun _ => ⟨⟨rfl, rfl, rfl, (hfr.defer hq).finish _, hcs⟩, hr, fun _ => ⟨_, rfl, hl'⟩⟩
  | halt h v' =>
    rcases ht with l | ⟨hh, ha, hx⟩
    · have l' := l.ok
      rcases l with ⟨s, rfl⟩ | ⟨u, rfl, hu⟩
      · exact trivial
      · cases u <;> first | exact trivial | exact l'.elim
    · cases h <;> try (first | exact trivial | exact hh.elim)
      case panic x =>
        exact StepTold.ran (v1 := v') (ha.went.sub (seen_sub _ _ _)) hx _ (fun w' e => by rw [e]) (fun M w' hl' => fun _ => ⟨⟨rfl, rfl, rfl, hfr.raise _ (by simp), hcs⟩, Went.refl ha.heap, fun _ => ⟨_, rfl, hl'⟩⟩)
      case unsupported u => cases u <;> first | exact trivial | exact hh.elim
      case throw m => exact fun hd => by cases hd
      case fatal m => exact StepTold.ran (v1 := v') (ha.went.sub (seen_sub _ _ _)) hx _ (fun w' e => by rw [e]) (fun M w' hl' => fatal_told m)
end
end Go.Proofs.Ytfpkachoneaaeaa
namespace Go.Proofs.Ytfpkachoneaaeaa
open Go
section
variable {P : Program} {ok : Oper → Prop} {Hd : Nat → Prop} {M : Lim} {fr : Frame} {callers cs : List Frame} {v w : World}
theorem doReturn_told {m : Bool} (hfr : FrameOk P ok fr) (hcs : ∀ c ∈ callers, FrameOk P ok c) (hin : P.inits.idxOf? fr.fn = none) (x : Value) (hl : Like Hd M v w) (hv : HeapOk ok Hd v) :
    StepTold P ok Hd M cs v (doReturn P true fr callers none x v) (doReturn P m fr (callers ++ cs) none x w) := by
  unfold doReturn
  cases callers with
  | nil =>
    simp only [hin]
    cases hk : fr.kind
    case early => have := hfr.early; rw [hk] at this; cases this
    case report => exact (hfr.report () hk).elim
    all_goals exact trivial
  | cons c rest =>
    have hc := hcs c (List.mem_cons_self ..)
    have hr : ∀ c ∈ rest, FrameOk P ok c := fun c q => hcs c (List.mem_cons_of_mem _ q)
    simp only [List.cons_append]
    cases hk : fr.kind
    case early => have := hfr.early; rw [hk] at this; cases this
    case report => exact (hfr.report () hk).elim
    case normal => exact fun _ => ⟨⟨rfl, rfl, rfl, hc.finish _, hr⟩, Went.refl hv, fun _ => ⟨_, rfl, hl⟩⟩
    case wrapped => exact fun _ => ⟨⟨rfl, rfl, rfl, hc.finish _, hr⟩, Went.refl hv, fun _ => ⟨_, rfl, hl⟩⟩
    case deferred =>
      refine fun _ => ⟨⟨rfl, rfl, rfl, ?_, hr⟩, Went.refl hv, fun _ => ⟨_, rfl, hl⟩⟩
      dsimp only
      split
      · rename_i x1 older e1
        have h1 := hc.calm _ e1
        have h2 : ∀ e ∈ older.dropWhile (!·.goexit), e.goexit = false := fun e he => h1 e (List.mem_cons_of_mem _ ((List.dropWhile_sublist _).subset he))
        split
        · exact hc.mode _ (fun ch q => by cases q)
        · exact hc.mode _ (fun ch q x hx => by cases q; exact h2 x hx)
      · exact hc
theorem StepTold.ite {c : Prop} [Decidable c] {s s' t t' : GStep} (h1 : c → StepTold P ok Hd M cs v s s') (h2 : ¬c → StepTold P ok Hd M cs v t t') : StepTold P ok Hd M cs v (if c then s else t) (if c then s' else t') := by
  split
  · exact h1 ‹_›
  · exact h2 ‹_›
theorem callDeferred_told (okf : FuncId → Prop) (hm : OkMethods P okf) (hf : ∀ f, okf f → OkFn P ok f) (hfr : FrameOk P ok fr) (hcs : ∀ c ∈ callers, FrameOk P ok c) (d : Deferred) (hd : DefOk d) (ht : OkTarget okf d.target) (hl : Like Hd M v w) (hv : HeapOk ok Hd v) :
    StepTold P ok Hd M cs v (callDeferred P fr callers none d v) (callDeferred P fr (callers ++ cs) none d w) := by
  have hs := tm_sim _ (Tm.invoke (ok := ok) okf hm hf d.target d.args ht) v w hl hv #[]
  unfold callDeferred
  refine StepTold.ite (fun _ => trivial) (fun _ => ?_)
  generalize (invoke d.target d.args).runT P v #[] = x at hs ⊢
  generalize (invoke d.target d.args).runT P w #[] = y at hs ⊢
  obtain ⟨r, es⟩ := x
  cases r with
  | ok n v' =>
    obtain ⟨hq, ha, hx⟩ := hs
    refine StepTold.ran (v1 := v') (ha.went.sub (seen_sub _ _ _)) hx _ (fun w' e => by rw [e]) (fun M w' hl' => ?_)
    have hr := Went.refl ha.heap
    cases n <;> try (exact hq.elim)
    case value x => exact fun _ => ⟨⟨rfl, rfl, rfl, hfr, hcs⟩, hr, fun _ => ⟨_, rfl, hl'⟩⟩
    case skip => exact fun _ => ⟨⟨rfl, rfl, rfl, hfr, hcs⟩, hr, fun _ => ⟨_, rfl, hl'⟩⟩
    case enter f args => exact fun _ => ⟨⟨rfl, rfl, rfl, FrameOk.enter f args _ rfl (by intro q; cases q), fun c hc => (List.mem_cons.1 hc).elim (fun q => q ▸ hfr) (hcs c)⟩, hr, fun _ => ⟨_, rfl, hl'⟩⟩
    case round l f t a b => exact fun _ => ⟨⟨rfl, rfl, rfl, FrameOk.round l f t a b _ rfl (by intro q; cases q) hq.1 hq.2, fun c hc => (List.mem_cons.1 hc).elim (fun q => q ▸ hfr) (hcs c)⟩, hr, fun _ => ⟨_, rfl, hl'⟩⟩
    case defer d => exact fun _ => ⟨⟨rfl, rfl, rfl, hfr, hcs⟩, hr, fun _ => ⟨_, rfl, hl'⟩⟩
  | halt h v' =>
    rcases hs with l | ⟨hh, ha, hx⟩
    · have l' := l.ok
      rcases l with ⟨s, rfl⟩ | ⟨u, rfl, hu⟩
      · exact trivial
      · cases u <;> first | exact trivial | exact l'.elim
    · cases h <;> try (first | exact trivial | exact hh.elim)
      case panic x =>
        refine StepTold.ran (v1 := v') (ha.went.sub (seen_sub P fr.fn es)) hx _ (fun w' e => by rw [e]) (fun M w' hl' => ?_)
        exact fun _ => ⟨⟨rfl, rfl, rfl, hfr.raise _ (by simp), hcs⟩, Went.refl ha.heap, fun _ => ⟨_, rfl, hl'⟩⟩
      case throw m => exact fun hd => by cases hd
      case fatal m =>
        refine StepTold.ran (v1 := v') (ha.went.sub (seen_sub P fr.fn es)) hx _ (fun w' e => by rw [e]) (fun M w' hl' => ?_)
        exact fatal_told m
end
end Go.Proofs.Ytfpkachoneaaeaa
namespace Go.Proofs.Ytfpkachoneaaeaa
open Go
section
variable {P : Program} {ok : Oper → Prop} {Hd : Nat → Prop} {M : Lim} {fr : Frame} {callers cs : List Frame} {v w : World}
theorem unwind_told {m : Bool} (okf : FuncId → Prop) (hm : OkMethods P okf) (hf : ∀ f, okf f → OkFn P ok f) (hfr : FrameOk P ok fr) (hcs : ∀ c ∈ callers, FrameOk P ok c) (hin : P.inits.idxOf? fr.fn = none)
    (hrun : fr.mode ≠ .run) (hab : ∀ f, fr.about P v = some f → okf f) (hl : Like Hd M v w) (hv : HeapOk ok Hd v) :
    StepTold P ok Hd M cs v (unwind P true fr callers none v) (unwind P m fr (callers ++ cs) none w) := by
  unfold unwind
  cases hd : fr.defers with
  | cons d ds =>
    have hds : ∀ d' ∈ d :: ds, DefOk d' := by rw [← hd]; exact hfr.defers
    have hfr' : FrameOk P ok { fr with defers := ds } := ⟨hfr.todo, fun d' h => hds d' (List.mem_cons_of_mem _ h), hfr.early, hfr.report, hfr.calm⟩
    obtain ⟨t, args⟩ := d
    by_cases ht : ∃ b, t = .collected b
    · obtain ⟨b, rfl⟩ := ht
      dsimp only
      have hs := tm_sim _ (Tm.takeDeferred (P := P) (ok := ok) b) v w hl hv #[]
      generalize (Instr.takeDeferred b).runT P v #[] = x at hs ⊢
      generalize (Instr.takeDeferred b).runT P w #[] = y at hs ⊢
      obtain ⟨r, es⟩ := x
      cases r with
      | ok n v' =>
        obtain ⟨hq, ha, hx⟩ := hs
        refine StepTold.ran (v1 := v') (ha.went.sub (seen_sub P fr.fn es)) hx _ (fun w' e => by rw [e]) (fun M w' hl' => ?_)
        refine fun _ => ⟨⟨rfl, rfl, rfl, ⟨hfr.todo, fun d' h => ?_, hfr.early, hfr.report, hfr.calm⟩, hcs⟩, Went.refl ha.heap, fun _ => ⟨_, rfl, hl'⟩⟩
        rcases List.mem_append.1 h with h | h
        · exact hq _ h
        · exact hds d' (List.mem_cons_of_mem _ h)
      | halt h v' => exact trivial
    · have hab' : ∀ f, t.leads P v args = some f → okf f := by
        intro f hfl
        apply hab f
        unfold Frame.about
        rw [hd]
        cases hmo : fr.mode with
        | run => exact (hrun hmo).elim
        | returning => exact hfl
        | panicking c => exact hfl
      have hto : OkTarget okf t := by
        have h1 := hds _ (List.mem_cons_self ..)
        cases t with
        | fn g c => cases g <;> first | exact trivial | exact hab' _ rfl
        | builtin => exact h1.elim
        | coroexit => exact h1.elim
        | nil => trivial
        | collected b => exact (ht ⟨b, rfl⟩).elim
      have key := callDeferred_told (cs := cs) okf hm hf hfr' hcs ⟨t, args⟩ (hds _ (List.mem_cons_self ..)) hto hl hv
      cases t <;> first | exact key | exact (ht ⟨_, rfl⟩).elim
  | nil =>
    dsimp only
    cases hmo : fr.mode with
    | run => exact (hrun hmo).elim
    | panicking chain =>
      dsimp only
      refine StepTold.ite (fun _ => trivial) (fun _ => ?_)
      cases callers with
      | cons c rest =>
        have hc := hcs c (List.mem_cons_self ..)
        exact fun _ => ⟨⟨rfl, rfl, rfl, hc.raise _ (hfr.calm chain hmo), fun c q => hcs c (List.mem_cons_of_mem _ q)⟩, Went.refl hv, fun _ => ⟨_, rfl, hl⟩⟩
      | nil =>
        dsimp only
        have hg : chain.head?.any (·.goexit) = false := by
          cases chain with
          | nil => rfl
          | cons e r => exact hfr.calm _ hmo e (List.mem_cons_self ..)
        rw [hg]
        rw [if_neg (by simp)]
        split <;> first | (exact fun hd => by cases hd) | exact trivial
    | returning =>
      dsimp only
      cases hfn' : P.funcs[fr.fn]? with
      | none => exact doReturn_told hfr hcs hin _ hl hv
      | some fn =>
        dsimp only
        have hs := tm_sim _ (Tm.results (P := P) (ok := ok) fn fr.tmps) v w hl hv #[]
        generalize (results fn fr.tmps).runT P v #[] = x at hs ⊢
        generalize (results fn fr.tmps).runT P w #[] = y at hs ⊢
        obtain ⟨r, es⟩ := x
        cases r with
        | ok n v' =>
          obtain ⟨hq, ha, hx⟩ := hs
          refine StepTold.ran (v1 := v') (ha.went.sub (seen_sub P fr.fn es)) hx _ (fun w' e => by rw [e]) (fun M w' hl' => ?_)
          exact doReturn_told hfr hcs hin n hl' ha.heap
        | halt h v' => cases h <;> exact trivial
end
end Go.Proofs.Ytfpkachoneaaeaa
namespace Go.Proofs.Ytfpkachoneaaeaa
open Go
section
variable {P : Program} {ok : Oper → Prop} {Hd : Nat → Prop} {M : Lim} {fr : Frame} {callers cs : List Frame} {v w : World}
theorem to_told (hfr : FrameOk P ok fr) (hcs : ∀ c ∈ callers, FrameOk P ok c) (hl : Like Hd M v w) (hv : HeapOk ok Hd v) {k : List Item} (hk : ∀ i ∈ k, ItemOk ok i) :
    StepTold P ok Hd M cs v (.go { frame := { fr with todo := k }, callers, status := .running, dying := none } v) (.go { frame := { fr with todo := k }, callers := callers ++ cs, status := .running, dying := none } w) :=
  fun _ => ⟨⟨rfl, rfl, rfl, hfr.with k hk, hcs⟩, Went.refl hv, fun _ => ⟨_, rfl, hl⟩⟩
theorem exit_sub (ok : Oper → Prop) (id : Nat) : ∀ (k k' : List Item), exitTo id k = some k' → (∀ i ∈ k, ItemOk ok i) → ∀ i ∈ k', ItemOk ok i
  | [], k', h, _ => by cases h
  | a :: k, k', h, hk => by
    have hk1 : ∀ i ∈ k, ItemOk ok i := fun i hi => hk i (List.mem_cons_of_mem _ hi)
    cases a <;> first
      | (unfold exitTo at h; split at h; cases h; exact hk1; exact exit_sub ok id k k' h hk1)
      | exact exit_sub ok id k k' (by unfold exitTo at h; exact h) hk1
theorem find_ok (ok : Oper → Prop) (l : Nat) : ∀ (c r : Code), findLabel c l = some r → CodeOk ok c → CodeOk ok r
  | c, r, h, hc => by
    induction c generalizing r with
    | seq a b iha ihb =>
      unfold findLabel at h
      split at h
      · rename_i rest e
        cases h
        exact ⟨iha _ e hc.1, hc.2⟩
      · exact ihb _ h hc.2
    | label l' =>
      unfold findLabel at h
      split at h
      · cases h; trivial
      · cases h
    | _ => simp [findLabel] at h
theorem goto_sub (ok : Oper → Prop) (l : Nat) : ∀ (k k' : List Item), gotoIn l k = some k' → (∀ i ∈ k, ItemOk ok i) → ∀ i ∈ k', ItemOk ok i
  | [], k', h, _ => by cases h
  | a :: k, k', h, hk => by
    have hk1 : ∀ i ∈ k, ItemOk ok i := fun i hi => hk i (List.mem_cons_of_mem _ hi)
    cases a
    case inScope b =>
      unfold gotoIn at h
      split at h
      · rename_i rest e
        cases h
        have hb := hk _ (List.mem_cons_self ..)
        intro i hi
        rcases List.mem_cons.1 hi with rfl | hi
        · exact find_ok ok l b rest e hb
        · exact hk i hi
      · exact goto_sub ok l k k' h hk1
    all_goals exact goto_sub ok l k k' (by unfold gotoIn at h; exact h) hk1
end
end Go.Proofs.Ytfpkachoneaaeaa
namespace Go.Proofs.Ytfpkachoneaaeaa
open Go
section
variable {P : Program} {ok : Oper → Prop} {Hd : Nat → Prop} {M : Lim} {fr : Frame} {callers cs : List Frame} {v w : World}
theorem oper_told (hok : ∀ o, ok o → okOp P o = true) (okf : FuncId → Prop) (hm : OkMethods P okf) (hf : ∀ f, okf f → OkFn P ok f) (hgd : GoodFn P ok fr.fn) (hfr : FrameOk P ok fr) (hcs : ∀ c ∈ callers, FrameOk P ok c)
    (hrun : fr.mode = .run) (hab : ∀ f, fr.about P v = some f → okf f) (hl : Like Hd M v w) (hv : HeapOk ok Hd v) :
    StepTold P ok Hd M cs v (stepG.oper P true fr callers none v) (stepG.oper P true fr (callers ++ cs) none w) := by
  unfold stepG.oper
  cases ho : fr.oper? with
  | none => exact trivial
  | some o =>
    have hoo : ok o ∧ ∀ f, o.about P v fr.eval = some f → okf f := by
      unfold Frame.oper? at ho
      split at ho
      · rename_i ops i rest k e
        have h1 := hfr.todo hgd _ (by rw [e]; exact List.mem_cons_self ..)
        refine ⟨h1 o (Array.mem_of_getElem? ho), fun f hfo => hab f ?_⟩
        unfold Frame.about
        rw [hrun, e]
        dsimp only
        rw [ho]
        unfold Oper.about at hfo
        exact hfo
      · cases ho
    dsimp only
    split
    · rename_i l c hl1 hc
      refine apply_told hgd hfr hcs _ ?_ hl hv
      have h2 := hok o hoo.1
      unfold okOp at h2
      rw [hc] at h2
      exact Tm.bndQ (resolve_defer h2) (fun d hd => Tm.bnd (Tm.deferInRound _ d hd) (fun _ => Tm.ret trivial))
    · exact apply_told hgd hfr hcs _ (Tm.execOp okf hm hf fr.eval (fun _ => rfl) o (hok o hoo.1) v hoo.2) hl hv
end
end Go.Proofs.Ytfpkachoneaaeaa
namespace Go.Proofs.Ytfpkachoneaaeaa
open Go
section
variable {P : Program} {ok : Oper → Prop} {Hd : Nat → Prop} {M : Lim} {fr : Frame} {callers cs : List Frame} {v w : World}
theorem choose_told (q : Question) (hl : Like Hd M v w) (hv : HeapOk ok Hd v) : ∃ t v', (choose q).run P v = .ok t v' ∧ Went ok Hd v v' #[] ∧ (v'.drawn ≤ M.lim → ∃ w', (choose q).run P w = .ok t w' ∧ Like Hd M v' w') := by
  by_cases hq : q.forced = true
  · exact ⟨0, v, by simp [choose, Sem.run, hq], Went.refl hv, fun _ => ⟨w, by simp [choose, Sem.run, hq], hl⟩⟩
  · refine ⟨q.cut (v.tape v.drawn q), { v with drawn := v.drawn + 1 }, by simp [choose, Sem.run, hq], ⟨by simp, Nat.le_refl _, ⟨hv.obj, hv.hid⟩, fun _ _ _ _ q => q, rfl, Nat.le_succ _⟩, fun hM => ⟨{ w with drawn := w.drawn + 1 }, ?_, ⟨fun j q hj => ?_, ⟨hl.other.1, by have := hl.other.2; simp only; omega⟩, hl.os, hl.output, hl.size, hl.obj, hl.hid⟩⟩⟩
    · have h0 := hl.tape 0 q (by simp only at hM; omega)
      simp only [Nat.add_zero] at h0
      simp [choose, Sem.run, hq, h0]
    · have := hl.tape (j + 1) q (by simp only at hj; omega)
      simp only at hj ⊢
      rw [Nat.add_right_comm, Nat.add_right_comm w.drawn]
      exact this
theorem exec_told {m : Bool} (hok : ∀ o, ok o → okOp P o = true) (okf : FuncId → Prop) (hm : OkMethods P okf) (hf : ∀ f, okf f → OkFn P ok f) (hgd : GoodFn P ok fr.fn) (hfr : FrameOk P ok fr) (hcs : ∀ c ∈ callers, FrameOk P ok c) (hin : P.inits.idxOf? fr.fn = none)
    (hrun : fr.mode = .run) (hab : ∀ f, fr.about P v = some f → okf f) (hl : Like Hd M v w) (hv : HeapOk ok Hd v) :
    StepTold P ok Hd M cs v (stepG.exec P true true fr callers none v) (stepG.exec P m true fr (callers ++ cs) none w) := by
  have ht := hfr.todo hgd
  have hret : ∀ (t : List Item) (r : Option Nat), (∀ i ∈ t, ItemOk ok i) → StepTold P ok Hd M cs v (.go { frame := { fr with todo := t, mode := .returning, roundOf := r }, callers, status := .running, dying := none } v) (.go { frame := { fr with todo := t, mode := .returning, roundOf := r }, callers := callers ++ cs, status := .running, dying := none } w) :=
    fun t r ht => fun _ => ⟨⟨rfl, rfl, rfl, ⟨fun _ => ht, hfr.defers, hfr.early, hfr.report, fun c q => by cases q⟩, hcs⟩, Went.refl hv, fun _ => ⟨_, rfl, hl⟩⟩
  have hround : ∀ (l : Nat) (j : Option Code), (∀ c, j = some c → CodeOk ok c) → StepTold P ok Hd M cs v
      (GStep.after (seen P fr.fn ((Instr.endRound l j).runT P v #[]).2) (match ((Instr.endRound l j).runT P v #[]).1 with
        | .ok x w => doReturn P true fr callers none x w
        | .halt _ w => .ended (.stuck "range over a function: no such loop" (fr.pos P)) w))
      (GStep.after (seen P fr.fn ((Instr.endRound l j).runT P w #[]).2) (match ((Instr.endRound l j).runT P w #[]).1 with
        | .ok x w => doReturn P m fr (callers ++ cs) none x w
        | .halt _ w => .ended (.stuck "range over a function: no such loop" (fr.pos P)) w)) := by
    intro l j hj
    have hs := tm_sim _ (Tm.endRound (P := P) (ok := ok) l j hj) v w hl hv #[]
    generalize (Instr.endRound l j).runT P v #[] = x at hs ⊢
    generalize (Instr.endRound l j).runT P w #[] = y at hs ⊢
    obtain ⟨r, es⟩ := x
    cases r with
    | ok n v' =>
      obtain ⟨hq, ha, hx⟩ := hs
      refine StepTold.ran (v1 := v') (ha.went.sub (seen_sub P fr.fn es)) hx _ (fun w' e => by rw [e]) (fun M w' hl' => ?_)
      exact doReturn_told hfr hcs hin n hl' ha.heap
    | halt h v' => exact trivial
  unfold stepG.exec
  cases e : fr.todo with
  | nil =>
    dsimp only
    cases fr.roundOf with
    | none => exact hret [] none (by simp)
    | some l => exact hround l none (by simp)
  | cons i k =>
    rw [e] at ht
    have hi := ht i (List.mem_cons_self ..)
    have hk : ∀ i ∈ k, ItemOk ok i := fun i hi => ht i (List.mem_cons_of_mem _ hi)
    cases i
    case inBlock => exact to_told hfr hcs hl hv hk
    case inScope => exact to_told hfr hcs hl hv hk
    all_goals try exact False.elim hi
    case inRangeFunc => exact trivial
    case inLoop b => exact to_told hfr hcs hl hv (k := .code b :: .inLoop b :: k) (fun i q => by
        rcases List.mem_cons.1 q with rfl | q
        · exact hi
        · exact ht i q)
    case inRegion ops t =>
      cases t with
      | nil => exact to_told hfr hcs hl hv hk
      | cons j rest =>
        refine StepTold.ite (fun _ => ?_) (fun _ => ?_)
        · exact oper_told hok okf hm hf hgd hfr hcs hrun hab hl hv
        · exact fun _ => ⟨⟨rfl, rfl, rfl, hfr.finish _, hcs⟩, Went.refl hv, fun _ => ⟨_, rfl, hl⟩⟩
    case beginRound =>
      refine apply_told hgd hfr hcs _ ?_ hl hv
      refine Tm.bnd ?_ (fun _ => Tm.ret trivial)
      cases fr.roundOf with
      | none => exact Tm.stk _ _
      | some l => exact Tm.beginRound l
    case endRangeFunc l =>
      dsimp only
      have hs := tm_sim _ (Tm.endLoop (P := P) (ok := ok) l) v w hl hv #[]
      generalize (Instr.endLoop l).runT P v #[] = x at hs ⊢
      generalize (Instr.endLoop l).runT P w #[] = y at hs ⊢
      obtain ⟨r, es⟩ := x
      cases r with
      | ok n v' =>
        obtain ⟨hq, ha, hx⟩ := hs
        refine StepTold.ran (v1 := v') (ha.went.sub (seen_sub P fr.fn es)) hx _ (fun w' e => by rw [e]) (fun M w' hl' => ?_)
        refine to_told hfr hcs hl' ha.heap (fun i q => ?_)
        rcases List.mem_append.1 q with q | q
        · cases n with
          | none => simp at q
          | some c =>
            obtain rfl : i = _ := by simpa using q
            exact hq c rfl
        · exact hk i q
      | halt h v' =>
        rcases hs with q | ⟨hh, ha, hx⟩
        · rcases q with ⟨s, rfl⟩ | ⟨u, rfl, hu⟩ <;> exact trivial
        · cases h <;> try (first | exact trivial | exact hh.elim)
          case panic x =>
            refine StepTold.ran (v1 := v') (ha.went.sub (seen_sub P fr.fn es)) hx _ (fun w' e => by rw [e]) (fun M w' hl' => ?_)
            exact fun _ => ⟨⟨rfl, rfl, rfl, hfr.raise _ (by simp), hcs⟩, Went.refl ha.heap, fun _ => ⟨_, rfl, hl'⟩⟩
    case code c =>
      have two : ∀ a b : Item, ItemOk ok a → ItemOk ok b → ∀ i ∈ a :: b :: k, ItemOk ok i := fun a b ha hb i q => by
        rcases List.mem_cons.1 q with rfl | q
        · exact ha
        rcases List.mem_cons.1 q with rfl | q
        · exact hb
        · exact hk i q
      cases c
      case skip => exact to_told hfr hcs hl hv hk
      case label => exact to_told hfr hcs hl hv hk
      case seq a b => exact to_told hfr hcs hl hv (two (.code a) (.code b) hi.1 hi.2)
      case block id b => exact to_told hfr hcs hl hv (two (.code b) (.inBlock id) hi trivial)
      case loop b => exact to_told hfr hcs hl hv (two (.code b) (.inLoop b) hi hi)
      case scope b => exact to_told hfr hcs hl hv (two (.code b) (.inScope b) hi hi)
      case refuse => exact trivial
      case cond c a b =>
        dsimp only
        split
        · rename_i x _
          refine to_told hfr hcs hl hv (fun i q => ?_)
          rcases List.mem_cons.1 q with rfl | q
          · cases x
            · exact hi.2
            · exact hi.1
          · exact hk i q
        · exact trivial
      case ret =>
        dsimp only
        cases fr.roundOf with
        | none => exact hret _ none ht
        | some l => exact hround l (some .ret) (fun c q => by cases q; trivial)
      case exit id =>
        dsimp only
        cases ex : exitTo id k with
        | some k' => exact to_told hfr hcs hl hv (exit_sub ok id k k' ex hk)
        | none =>
          cases fr.roundOf with
          | none => exact trivial
          | some l => exact hround l (some (.exit id)) (fun c q => by cases q; trivial)
      case goto id =>
        dsimp only
        cases ex : gotoIn id k with
        | some k' => exact to_told hfr hcs hl hv (goto_sub ok id k k' ex hk)
        | none =>
          cases fr.roundOf with
          | none => exact trivial
          | some l => exact hround l (some (.goto id)) (fun c q => by cases q; trivial)
      case region id ops draw =>
        refine StepTold.ite (fun _ => ?_) (fun _ => ?_)
        · refine to_told hfr hcs hl hv (fun i q => ?_)
          rcases List.mem_cons.1 q with rfl | q
          · exact hi
          · exact hk i q
        · obtain ⟨t, v', e1, hw, hx⟩ := choose_told (P := P) (ok := ok) (.order fr.fn id) hl hv
          rw [e1]
          dsimp only
          refine fun _ => ⟨⟨rfl, rfl, rfl, hfr.with _ (fun i q => ?_), hcs⟩, hw, fun hM => by obtain ⟨w', e2, hl'⟩ := hx hM; rw [e2]; exact ⟨_, rfl, hl'⟩⟩
          rcases List.mem_cons.1 q with rfl | q
          · exact hi
          · exact hk i q
      case rangeFunc f params a b =>
        dsimp only
        have hs := tm_sim _ (Tm.enterLoop (P := P) (ok := ok) fr.fn fr.tmps params a b hi.1 hi.2 fr.roundOf) v w hl hv #[]
        have hrt := Sem.runT_fst P (Instr.enterLoop fr.fn fr.tmps params a b fr.roundOf) v #[]
        have hab' : ∀ (l : Nat) (mk : List Deferred) (v' : World), ((Instr.enterLoop fr.fn fr.tmps params a b fr.roundOf).run P v) = .ok (l, mk) v' → ∀ g, (match (resolve fr.eval { callee := .value f, args := #[.const (.func (.yield l) #[] #[])], argTypes := #[] } 0).run P v' with | .ok d w' => d.target.leads P w' d.args | .halt _ _ => none) = some g → okf g := by
          intro l mk v' h1 g h2
          apply hab g
          unfold Frame.about
          rw [hrun, e]
          dsimp only
          rw [h1]
          exact h2
        generalize (Instr.enterLoop fr.fn fr.tmps params a b fr.roundOf).runT P v #[] = x at hs hrt ⊢
        generalize (Instr.enterLoop fr.fn fr.tmps params a b fr.roundOf).runT P w #[] = y at hs ⊢
        obtain ⟨r, es⟩ := x
        cases r with
        | ok n v' =>
          obtain ⟨l, mk⟩ := n
          obtain ⟨hq, ha, hx⟩ := hs
          refine StepTold.ran (v1 := v') (ha.went.sub (seen_sub P fr.fn es)) hx _ (fun w' e => by rw [e]) (fun M w' hl' => ?_)
          have hfr2 : FrameOk P ok { fr with todo := .inRangeFunc l :: k, defers := mk ++ fr.defers } := by
            refine ⟨fun _ i q => ?_, fun d q => ?_, hfr.early, hfr.report, hfr.calm⟩
            · rcases List.mem_cons.1 q with rfl | q
              · trivial
              · exact hk i q
            · rcases List.mem_append.1 q with q | q
              · exact hq _ q
              · exact hfr.defers _ q
          exact apply_told (fr := { fr with todo := .inRangeFunc l :: k, defers := mk ++ fr.defers }) hgd hfr2 hcs _ (Tm.bndQ (resolve_target okf v' rfl (hab' l mk v' hrt.symm)) (fun d hd => Tm.invoke okf hm hf _ _ hd)) hl' ha.heap
        | halt h v' => exact trivial
end
end Go.Proofs.Ytfpkachoneaaeaa
namespace Go.Proofs.Ytfpkachoneaaeaa
open Go
/-- ████ A STEP IN THE WORLD WITH MORE FROZEN CELLS, WITH FEWER CALLERS, IS THE STEP IN THE WORLD. ████ -/
theorem step_told {P : Program} {ok : Oper → Prop} {Hd : Nat → Prop} {M : Lim} {g : Goroutine} {cs : List Frame} {v w : World} {m : Bool} (hok : ∀ o, ok o → okOp P o = true) (okf : FuncId → Prop) (hm : OkMethods P okf) (hf : ∀ f, okf f → OkFn P ok f) (hgd : GoodFn P ok g.frame.fn) (hg : GorOk P ok g)
    (hin : P.inits.idxOf? g.frame.fn = none) (hab : ∀ f, g.frame.about P v = some f → okf f) (hl : Like Hd M v w) (hv : HeapOk ok Hd v) :
    StepTold P ok Hd M cs v (stepG P true g v) (stepG P m { g with callers := g.callers ++ cs } w) := by
  obtain ⟨fr, callers, st, dy, off⟩ := g
  have hd := hg.living
  dsimp only at hd
  subst hd
  unfold stepG
  dsimp only
  cases hmo : fr.mode with
  | run => exact exec_told hok okf hm hf hgd hg.frame hg.callers hin hmo hab hl hv
  | returning => exact unwind_told okf hm hf hg.frame hg.callers hin (by rw [hmo]; intro q; cases q) hab hl hv
  | panicking c => exact unwind_told okf hm hf hg.frame hg.callers hin (by rw [hmo]; intro q; cases q) hab hl hv
end Go.Proofs.Ytfpkachoneaaeaa
namespace Go.Proofs.Ytfpkachoneaaeaa
open Go
def tp (v : World) (τ : Tape) : World := { v with tape := τ }
@[simp] theorem tp_drawn (v : World) (τ : Tape) : (tp v τ).drawn = v.drawn := rfl
@[simp] theorem tp_tape (v : World) (τ : Tape) : (tp v τ).tape = τ := rfl
@[simp] theorem tp_tp (v : World) (τ τ' : Tape) : tp (tp v τ) τ' = tp v τ' := rfl
theorem tp_self (v : World) : tp v v.tape = v := rfl
/-- No block is hidden. -/
abbrev NoHd : Nat → Prop := fun _ => False
/-- What is asked of the program. -/
structure Env (P : Program) (ok : Oper → Prop) (okf : FuncId → Prop) : Prop where
  hok : ∀ o, ok o → okOp P o = true
  hm : ∃ okm : FuncId → Prop, OkMethods P okm ∧ (∀ f, okm f → OkFn P ok f) ∧ ∀ f, okf f → okm f
  good : ∀ f, okf f → GoodFn P ok f
  hin : ∀ f, okf f ∨ f = P.funcs.size → P.inits.idxOf? f = none
structure Fit (P : Program) (ok : Oper → Prop) (okf : FuncId → Prop) (Hd : Nat → Prop) (g : Goroutine) (v : World) : Prop where
  gor : GorOk P ok g
  heap : HeapOk ok Hd v
  fn : okf g.frame.fn ∨ g.frame.fn = P.funcs.size
  about : ∀ f, g.frame.about P v = some f → okf f
def Same (τ : Tape) (v : World) : Prop := ∀ i, i < v.drawn → τ i = v.tape i
/-- The tree: whatever is answered from here on, a step, and on; every branch comes to a stop. -/
inductive Bar (P : Program) (ok : Oper → Prop) (okf : FuncId → Prop) (Hd : Nat → Prop) (Stop : Goroutine → World → Prop) : Goroutine → World → Prop
  | stop {g : Goroutine} {v : World} (h : Stop g v) : Bar P ok okf Hd Stop g v
  | step {g : Goroutine} {v : World} (ng : Tape → Goroutine) (nv : Tape → World) (ne : Tape → Array Event) (hf : ∀ τ, Same τ v → Fit P ok okf Hd g (tp v τ)) (hs : ∀ τ, Same τ v → stepG P true g (tp v τ) = .go (ng τ) (nv τ) (ne τ))
      (hd : ∀ τ, Same τ v → (ng τ).dying = none) (ih : ∀ τ, Same τ v → Bar P ok okf Hd Stop (ng τ) (nv τ)) : Bar P ok okf Hd Stop g v
theorem Env.gd {P : Program} {ok : Oper → Prop} {okf : FuncId → Prop} (E : Env P ok okf) {f : FuncId} (h : okf f ∨ f = P.funcs.size) : GoodFn P ok f := by
  rcases h with h | rfl
  · exact E.good f h
  · intro fn c h1 _
    rw [Array.getElem?_eq_none (Nat.le_refl _)] at h1
    cases h1
theorem like_heap {Hd : Nat → Prop} {M : Lim} {v w : World} (h : Like Hd M v w) (hM : M.hv = M.hid) : v.heap = w.heap := by
  apply Array.ext_getElem?
  intro i
  by_cases hi : Hd i
  · rcases h.hid i hi with ⟨h1, h2, _⟩ | ⟨_, o, _, h1, h2⟩
    · rw [h1, h2, hM]
    · rw [h1, h2]
  · exact h.obj i hi
section
variable {P : Program} {ok : Oper → Prop} {okf : FuncId → Prop} {Hd : Nat → Prop} {Stop : Goroutine → World → Prop} {g g' : Goroutine} {v v' : World} {es : Array Event}
/-- A step asks the tape where it draws, and nowhere else. -/
theorem retape (E : Env P ok okf) (hF : Fit P ok okf Hd g v) (hs : stepG P true g v = .go g' v' es) (hd : g'.dying = none) (τ : Tape) (hτ : ∀ i, v.drawn ≤ i → i < v'.drawn → τ i = v.tape i) :
    stepG P true g (tp v τ) = .go g' (tp v' τ) es ∧ GorOk P ok g' ∧ Went ok Hd v v' es := by
  have hl : Like Hd ⟨v'.drawn, τ, 0, 0, fun b => v.heap[b]?, fun b => v.heap[b]?⟩ v (tp v τ) := ⟨fun j q hj => by
    have := hτ (v.drawn + j) (Nat.le_add_right _ _) hj
    simp only [tp_drawn, tp_tape]
    rw [this], ⟨rfl, rfl⟩, rfl, rfl, rfl, fun _ _ => rfl, fun b hb => .inl ⟨rfl, rfl, hF.heap.veil hb⟩⟩
  obtain ⟨okm, hm1, hm2, hm3⟩ := E.hm
  have h1 := step_told (cs := []) (m := true) E.hok okm hm1 hm2 (E.gd hF.fn) hF.gor (E.hin _ hF.fn) (fun f q => hm3 f (hF.about f q)) hl hF.heap
  rw [hs] at h1
  obtain ⟨hg, hw, hx⟩ := h1 hd
  obtain ⟨w', e, hl'⟩ := hx (Nat.le_refl _)
  simp only [List.append_nil] at e
  refine ⟨?_, hg, hw⟩
  have hh := like_heap hl' rfl
  have : w' = tp v' τ := by
    obtain ⟨hp, tape, drawn, os, out⟩ := w'
    obtain ⟨hp', tape', drawn', os', out'⟩ := v'
    have e1 := hl'.os
    have e2 := hl'.output
    have e3 := hl'.other
    simp only [Nat.add_zero] at hh e1 e2 e3
    obtain ⟨e3, e4⟩ := e3
    subst hh e1 e2 e3 e4
    rfl
  rw [e, this]
theorem step_of_go {fr : Frame} {cs : List Frame} (hs : stepG P true { frame := fr, callers := cs, status := .running, dying := none } v = .go g' v' es) :
    step P (lone fr cs v) = .next { world := v', gs := #[g'], rest := { timers := #[], alone := none, slice := none } } := by
  rw [step, stepT, move_lone]
  simp [runT, lone, Array.swapAt!, hs]
theorem step_of_ended {fr : Frame} {cs : List Frame} {o : Outcome} (hs : stepG P true { frame := fr, callers := cs, status := .running, dying := none } v = .ended o v' es) :
    step P (lone fr cs v) = .ended o v' := by
  rw [step, stepT, move_lone]
  simp [runT, lone, Array.swapAt!, hs]
/-- It comes to a stop, alone, within the fence. -/
def Reach (P : Program) (F : Fence) (Stop : Goroutine → World → Prop) (g : Goroutine) (v : World) : Prop :=
  ∃ fr cs v', StepsIn (Machine.fenced P F) P (lone g.frame g.callers v) (lone fr cs v') ∧ Stop { frame := fr, callers := cs, status := .running, dying := none } v'
theorem gor_eta (h : GorOk P ok g) : g = { frame := g.frame, callers := g.callers, status := .running, dying := none } := by
  obtain ⟨fr, cs, st, dy, off⟩ := g
  have h1 := h.running
  have h2 := h.living
  have h3 := h.quiet
  simp only at h1 h2 h3
  subst h1 h2 h3
  rfl
/-- Whoever comes to a stop is there, or takes a step and comes there. -/
theorem Reach.first {F : Fence} (E : Env P ok okf) (hF : ∀ f, F.fn f → okf f) (ha : F.alive = true) (hg : GorOk P ok g) (hv : HeapOk ok Hd v) (h : Reach P F Stop g v) :
    Stop g v ∨ (Fit P ok okf Hd g v ∧ ∃ g' v' es, stepG P true g v = .go g' v' es ∧ g'.dying = none ∧ Reach P F Stop g' v') := by
  obtain ⟨fr, cs, v1, hp, hstop⟩ := h
  have eg := gor_eta hg
  generalize e0 : lone g.frame g.callers v = m at hp
  generalize e1 : lone fr cs v1 = m' at hp
  cases hp with
  | refl =>
    rw [← e0] at e1
    simp only [lone, Machine.mk.injEq, List.cons.injEq, Goroutine.mk.injEq, Array.mk.injEq, and_true, true_and] at e1
    obtain ⟨rfl, rfl, rfl⟩ := e1
    rw [← eg] at hstop
    exact .inl hstop
  | @head _ m1 _ hI hs hr =>
    subst e0 e1
    refine .inr ?_
    have hI' := hI { frame := g.frame, callers := g.callers, status := .running, dying := none } (by simp [lone])
    have hfit : Fit P ok okf Hd g v := ⟨hg, hv, hI'.2.1.imp (hF _) id, fun f hf => hF _ (hI'.2.2.1 f hf)⟩
    refine ⟨hfit, ?_⟩
    obtain ⟨okm, hm1, hm2, hm3⟩ := E.hm
    have h1 := step_told (cs := []) (m := true) E.hok okm hm1 hm2 (E.gd hfit.fn) hg (E.hin _ hfit.fn) (fun f q => hm3 f (hfit.about f q)) (Like.refl hv) hv
    rw [eg] at h1 ⊢
    generalize hq : stepG P true { frame := g.frame, callers := g.callers, status := .running, dying := none } v = q at h1
    cases q <;> first | exact h1.elim | skip
    case ended o w' es => rw [step_of_ended hq] at hs; cases hs
    case go g' v' es =>
      rw [step_of_go hq] at hs
      have e2 : m1 = _ := (Stepped.next.inj hs).symm
      have hdy : g'.dying = none := by
        generalize e3 : lone fr cs v1 = m' at hr
        cases hr with
        | refl =>
          rw [e2] at e3
          have e4 := congrArg (fun m : Machine => m.gs[0]?) e3
          have e5 : ({ frame := fr, callers := cs, status := .running, dying := none } : Goroutine) = g' := by simpa [lone] using e4
          rw [← e5]
        | head hI2 _ _ =>
          have := (hI2 g' (by rw [e2]; simp)).1 ha
          simpa using this
      refine ⟨g', v', es, rfl, hdy, fr, cs, v1, ?_, hstop⟩
      have hg' := (h1 hdy).1
      have e4 : lone g'.frame g'.callers v' = m1 := by
        rw [e2, lone, ← gor_eta hg']
      rw [e4]
      exact hr
end
end Go.Proofs.Ytfpkachoneaaeaa
namespace Go.Proofs.Ytfpkachoneaaeaa
open Go
section
variable {P : Program} {ok : Oper → Prop} {okf : FuncId → Prop} {Hd : Nat → Prop} {F : Fence} {Stop : Goroutine → World → Prop} {g g' : Goroutine} {v v' : World} {es : Array Event}
structure Phi (P : Program) (ok : Oper → Prop) (Hd : Nat → Prop) (F : Fence) (Stop : Goroutine → World → Prop) (g : Goroutine) (v : World) : Prop where
  gor : GorOk P ok g
  heap : HeapOk ok Hd v
  reach : ∀ τ, Same τ v → Reach P F Stop g (tp v τ)
theorem Phi.next (E : Env P ok okf) (hF : ∀ f, F.fn f → okf f) (ha : F.alive = true) (hS : ∀ g v τ, Stop g (tp v τ) → Stop g v) (h : Phi P ok Hd F Stop g v) (hn : ¬ Stop g v) {τ : Tape} (hτ : Same τ v) :
    ∃ g' v' es, Fit P ok okf Hd g (tp v τ) ∧ stepG P true g (tp v τ) = .go g' v' es ∧ g'.dying = none ∧ v'.tape = τ ∧ v.drawn ≤ v'.drawn ∧ Phi P ok Hd F Stop g' v' := by
  have hheap : ∀ τ, HeapOk ok Hd (tp v τ) := fun _ => ⟨h.heap.obj, h.heap.hid⟩
  rcases (h.reach τ hτ).first E hF ha h.gor (hheap τ) with hs | ⟨hf, g', v', es, hs, hd, _⟩
  · exact (hn (hS _ _ _ hs)).elim
  have hr := retape E hf hs hd τ (fun _ _ _ => rfl)
  have ht : v'.tape = τ := hr.2.2.draws.1
  have hle : v.drawn ≤ v'.drawn := hr.2.2.draws.2
  refine ⟨g', v', es, hf, hs, hd, ht, hle, hr.2.1, hr.2.2.heap, fun τ' hτ' => ?_⟩
  have hs' : Same τ' v := fun i hi => by rw [hτ' i (Nat.lt_of_lt_of_le hi hle), ht]; exact hτ i hi
  rcases (h.reach τ' hs').first E hF ha h.gor (hheap τ') with hq | ⟨_, g2, v2, es2, hq, _, hr2⟩
  · exact (hn (hS _ _ _ hq)).elim
  have he := (retape E hf hs hd τ' (fun i _ hi => by rw [hτ' i hi, ht]; rfl)).1
  rw [tp_tp, hq] at he
  injection he with e1 e2 e3
  rw [← e1, ← e2]
  exact hr2
theorem Bar.step' (h : ∀ τ, Same τ v → ∃ g' v' es, Fit P ok okf Hd g (tp v τ) ∧ stepG P true g (tp v τ) = .go g' v' es ∧ g'.dying = none ∧ Bar P ok okf Hd Stop g' v') : Bar P ok okf Hd Stop g v := by
  have h2 : ∀ τ, ∃ t : Goroutine × World × Array Event, Same τ v → Fit P ok okf Hd g (tp v τ) ∧ stepG P true g (tp v τ) = .go t.1 t.2.1 t.2.2 ∧ t.1.dying = none ∧ Bar P ok okf Hd Stop t.1 t.2.1 := fun τ => by
    by_cases hτ : Same τ v
    · obtain ⟨g', v', es, q⟩ := h τ hτ
      exact ⟨(g', v', es), fun _ => q⟩
    · exact ⟨(g, v, #[]), fun q => (hτ q).elim⟩
  obtain ⟨f, hf⟩ := Classical.skolem.1 h2
  exact .step (fun τ => (f τ).1) (fun τ => (f τ).2.1) (fun τ => (f τ).2.2) (fun τ hτ => (hf τ hτ).1) (fun τ hτ => (hf τ hτ).2.1) (fun τ hτ => (hf τ hτ).2.2.1) (fun τ hτ => (hf τ hτ).2.2.2)
/-- A state from which a branch runs on without end. -/
structure Bad (P : Program) (ok : Oper → Prop) (okf : FuncId → Prop) (Hd : Nat → Prop) (F : Fence) (Stop : Goroutine → World → Prop) where
  g : Goroutine
  v : World
  phi : Phi P ok Hd F Stop g v
  bad : ¬ Bar P ok okf Hd Stop g v
structure Bad.Goes (x y : Bad P ok okf Hd F Stop) : Prop where
  same : Same y.v.tape x.v
  fit : Fit P ok okf Hd x.g (tp x.v y.v.tape)
  step : ∃ es, stepG P true x.g (tp x.v y.v.tape) = .go y.g y.v es
  dying : y.g.dying = none
  le : x.v.drawn ≤ y.v.drawn
theorem Bad.next (E : Env P ok okf) (hF : ∀ f, F.fn f → okf f) (ha : F.alive = true) (hS : ∀ g v τ, Stop g (tp v τ) → Stop g v) (x : Bad P ok okf Hd F Stop) : ∃ y : Bad P ok okf Hd F Stop, x.Goes y := by
  refine Classical.byContradiction fun hno => x.bad ?_
  refine Bar.step' fun τ hτ => ?_
  obtain ⟨g', v', es, hf, hs, hd, ht, hle, hphi⟩ := x.phi.next E hF ha hS (fun q => x.bad (.stop q)) hτ
  refine ⟨g', v', es, hf, hs, hd, Classical.byContradiction fun hb => hno ⟨⟨g', v', hphi, hb⟩, ?_⟩⟩
  subst ht
  exact ⟨hτ, hf, ⟨es, hs⟩, hd, hle⟩
/-- ████ ████ -/
theorem bar (E : Env P ok okf) (hF : ∀ f, F.fn f → okf f) (ha : F.alive = true) (hS : ∀ g v τ, Stop g (tp v τ) → Stop g v) (h : Phi P ok Hd F Stop g v) : Bar P ok okf Hd Stop g v := by
  refine Classical.byContradiction fun hb => ?_
  obtain ⟨nx, hnx⟩ := Classical.skolem.1 (Bad.next (okf := okf) E hF ha hS)
  let f : Nat → Bad P ok okf Hd F Stop := fun n => Nat.rec ⟨g, v, h, hb⟩ (fun _ x => nx x) n
  have hf : ∀ n, (f n).Goes (f (n + 1)) := fun n => hnx (f n)
  have hK : ∀ n m, n ≤ m → (f n).v.drawn ≤ (f m).v.drawn := by
    intro n m hnm
    induction hnm with
    | refl => exact Nat.le_refl _
    | step _ ih => exact Nat.le_trans ih (hf _).le
  have hT : ∀ n m, n ≤ m → ∀ i, i < (f (n + 1)).v.drawn → (f (m + 1)).v.tape i = (f (n + 1)).v.tape i := by
    intro n m hnm
    induction hnm with
    | refl => exact fun i _ => rfl
    | @step m hm ih =>
      intro i hi
      rw [← ih i hi]
      exact (hf (m + 1)).same i (Nat.lt_of_lt_of_le hi (hK _ _ (Nat.succ_le_succ hm)))
  have hlim : ∃ τ : Tape, ∀ n i, i < (f (n + 1)).v.drawn → τ i = (f (n + 1)).v.tape i := by
    have : ∀ i, ∃ a : Question → Nat, ∀ n, i < (f (n + 1)).v.drawn → a = (f (n + 1)).v.tape i := fun i => by
      by_cases hi : ∃ n, i < (f (n + 1)).v.drawn
      · obtain ⟨c, hc⟩ := hi
        refine ⟨(f (c + 1)).v.tape i, fun n hn => ?_⟩
        rcases Nat.le_total c n with q | q
        · exact (hT c n q i hc).symm
        · exact hT n c q i hn
      · exact ⟨fun _ => 0, fun n hn => (hi ⟨n, hn⟩).elim⟩
    obtain ⟨τ, hτ⟩ := Classical.skolem.1 this
    exact ⟨τ, fun n i hi => hτ i n hi⟩
  obtain ⟨τ, hτ⟩ := hlim
  have hsame : Same τ v := fun i hi => by
    rw [hτ 0 i (Nat.lt_of_lt_of_le hi (hf 0).le)]
    exact (hf 0).same i hi
  obtain ⟨fr, cs, v1, hp, hstop⟩ := h.reach τ hsame
  have key : ∀ m m', StepsIn (Machine.fenced P F) P m m' → ∀ n, m = lone (f n).g.frame (f n).g.callers (tp (f n).v τ) → m' = lone fr cs v1 → False := by
    intro m m' hp
    induction hp with
    | refl m =>
      intro n e1 e2
      rw [e1] at e2
      simp only [lone, Machine.mk.injEq, List.cons.injEq, Goroutine.mk.injEq, Array.mk.injEq, and_true, true_and] at e2
      obtain ⟨e3, e4, e5⟩ := e2
      refine (f n).bad (.stop (hS _ _ τ ?_))
      rw [gor_eta (f n).phi.gor, e3, e4, e5]
      exact hstop
    | @head m m1 m2 _ hs _ ih =>
      intro n e1 e2
      refine ih (n + 1) ?_ e2
      obtain ⟨es, h1⟩ := (hf n).step
      have h2 := (retape E (hf n).fit h1 (hf n).dying τ (fun i _ hi => hτ n i hi)).1
      rw [tp_tp, gor_eta (f n).phi.gor] at h2
      rw [e1, step_of_go h2] at hs
      rw [← Stepped.next.inj hs, lone, ← gor_eta (f (n + 1)).phi.gor]
  exact key _ _ hp 0 rfl rfl
end
end Go.Proofs.Ytfpkachoneaaeaa
namespace Go.Proofs.Ytfpkachoneaaeaa
open Go Go.Conc
/-- In company, ahead of each step, the others may have drawn. 'k': how deaf the goroutine is. -/
inductive Gx (P : Program) (main : Bool) (D : World → World → Array Event → Prop) (Stop : Nat → Goroutine → World → Prop) : Nat → Goroutine → World → Prop
  | stop {k : Nat} {g : Goroutine} {w : World} (h : ∀ d, Stop k g (w.at d)) : Gx P main D Stop k g w
  | step {k : Nat} {g : Goroutine} {w : World} (hr : g.status = .running) (ng : Nat → Goroutine) (nw : Nat → World) (ne : Nat → Array Event) (hs : ∀ d, stepG P main g (w.at d) = .go (ng d) (nw d) (ne d))
      (hD : ∀ d, D (w.at d) (nw d) (ne d)) (ih : ∀ d, Gx P main D Stop (deafBehind k (ne d)) (ng d) (nw d)) : Gx P main D Stop k g w
theorem Gx.step' {P : Program} {main : Bool} {D : World → World → Array Event → Prop} {Stop : Nat → Goroutine → World → Prop} {k : Nat} {g : Goroutine} {w : World} (hr : g.status = .running)
    (h : ∀ d, ∃ g' w' es, stepG P main g (w.at d) = .go g' w' es ∧ D (w.at d) w' es ∧ Gx P main D Stop (deafBehind k es) g' w') : Gx P main D Stop k g w := by
  have h2 : ∀ d, ∃ t : Goroutine × World × Array Event, stepG P main g (w.at d) = .go t.1 t.2.1 t.2.2 ∧ D (w.at d) t.2.1 t.2.2 ∧ Gx P main D Stop (deafBehind k t.2.2) t.1 t.2.1 := fun d => by
    obtain ⟨g', w', es, q⟩ := h d
    exact ⟨(g', w', es), q⟩
  obtain ⟨f, hf⟩ := Classical.skolem.1 h2
  exact .step hr (fun d => (f d).1) (fun d => (f d).2.1) (fun d => (f d).2.2) (fun d => (hf d).1) (fun d => (hf d).2.1) (fun d => (hf d).2.2)
theorem Gx.mono {P : Program} {main : Bool} {D D' : World → World → Array Event → Prop} {Stop Stop' : Nat → Goroutine → World → Prop} (hD : ∀ w w' es, D w w' es → D' w w' es) {k : Nat} {g : Goroutine} {w : World} (h : Gx P main D Stop k g w)
    (hS : ∀ k g w, Stop k g w → Stop' k g w) : Gx P main D' Stop' k g w := by
  induction h with
  | stop h => exact .stop fun d => hS _ _ _ (h d)
  | step hr ng nw ne hs hd _ ih => exact .step hr ng nw ne hs (fun d => hD _ _ _ (hd d)) ih
/-- One walk behind the other. -/
theorem Gx.bind {P : Program} {main : Bool} {D : World → World → Array Event → Prop} {Stop Stop' : Nat → Goroutine → World → Prop} {k : Nat} {g : Goroutine} {w : World} (h : Gx P main D Stop k g w)
    (hS : ∀ k g w, (∀ d, Stop k g (w.at d)) → Gx P main D Stop' k g w) : Gx P main D Stop' k g w := by
  induction h with
  | stop h => exact hS _ _ _ h
  | step hr ng nw ne hs hd _ ih => exact .step hr ng nw ne hs hd ih
/-- What a step of the holder's may do: nothing at a hidden block, nor does a seat's channel turn. -/
structure GD (Hd C : Nat → Prop) (w w' : World) (es : Array Event) : Prop where
  evs : ∀ e ∈ es, EvOk Hd e
  hid : ∀ b, Hd b → Still w.heap[b]? w'.heap[b]?
  chan : ∀ c, C c → w'.heap[c]? = w.heap[c]?
  size : w.heap.size ≤ w'.heap.size
/-- v is w, but for its tape, and the hidden blocks are empty in it. -/
structure Near (Hd : Nat → Prop) (v w : World) : Prop where
  os : v.os = w.os
  output : v.output = w.output
  size : v.heap.size = w.heap.size
  obj : ∀ b : Nat, ¬ Hd b → v.heap[b]? = w.heap[b]?
  hid : ∀ b : Nat, Hd b → Veil b v.heap[b]? w.heap[b]?
theorem Near.like {Hd : Nat → Prop} {v w : World} (h : Near Hd v w) (M : Nat) (τ : Tape) (hτ : ∀ j q, τ (v.drawn + j) q = w.tape (w.drawn + j) q) : Like Hd ⟨M, w.tape, v.drawn, w.drawn, fun b => w.heap[b]?, fun b => v.heap[b]?⟩ (tp v τ) w :=
  ⟨fun j q _ => hτ j q, ⟨rfl, by simp only [tp_drawn]; omega⟩, h.os, h.output, h.size, h.obj, fun b hb => .inl ⟨rfl, rfl, h.hid b hb⟩⟩
theorem Like.near {Hd : Nat → Prop} {M : Lim} {v w : World} (h : Like Hd M v w) : Near Hd v w := ⟨h.os, h.output, h.size, h.obj, fun b hb => (h.hid b hb).veil⟩
theorem Near.at {Hd : Nat → Prop} {v w : World} (h : Near Hd v w) (d : Nat) : Near Hd v (w.at d) := ⟨h.os, h.output, h.size, h.obj, h.hid⟩
theorem deafBehind_calm {es : Array Event} (h : ∀ e ∈ es, ∀ m, e.loc = .mark m → MarkOk m) (k : Nat) : deafBehind k es = k :=
  deafBehind_still (fun e he => ⟨fun q => (h e he _ q).elim, fun q => (h e he _ q).elim⟩) k
section
variable {P : Program} {ok : Oper → Prop} {okf : FuncId → Prop} {Stop : Goroutine → World → Prop} {g g' : Goroutine} {v v' : World} {es : Array Event} {Hd C : Nat → Prop}
theorem Same.self (v : World) : Same v.tape v := fun _ _ => rfl
/-- A channel that stands at every stop stands all the way. -/
theorem Bar.chans (E : Env P ok okf) (hst : ∀ g v, Stop g v → ∀ c, C c → ∃ o : Obj, o.isChan = true ∧ v.heap[c]? = some o) (hb : Bar P ok okf Hd Stop g v) : (∀ c, C c → c < v.heap.size) → ∀ c, C c → ∃ o : Obj, o.isChan = true ∧ v.heap[c]? = some o := by
  induction hb with
  | stop h => exact fun _ => hst _ _ h
  | @step g v ng nv ne hf hs hd _ ih =>
    intro hc c hC
    have h1 := (retape E (hf _ (Same.self v)) (hs _ (Same.self v)) (hd _ (Same.self v)) v.tape (fun _ _ _ => rfl)).2.2
    obtain ⟨o, ho, hq⟩ := ih _ (Same.self v) (fun c hC => Nat.lt_of_lt_of_le (hc c hC) h1.size) c hC
    exact ⟨o, ho, h1.chan c o ho (hc c hC) hq⟩
/-- ████ ████ -/
theorem Bar.goes (E : Env P ok okf) (hst : ∀ g v, Stop g v → ∀ c, C c → ∃ o : Obj, o.isChan = true ∧ v.heap[c]? = some o) (hCH : ∀ c, C c → ¬ Hd c) (V0 H0 : Nat → Option Obj) (τ0 : Tape) (cs : List Frame) (m : Bool) (k : Nat) (hb : Bar P ok okf Hd Stop g v) :
    ∀ w : World, Near Hd v w → HeapOk ok Hd v → (∀ c, C c → c < v.heap.size) → (∀ b, Hd b → Twin b (V0 b) (H0 b) v.heap[b]? w.heap[b]?) → (∀ b, C b → w.heap[b]? = H0 b) → w.tape = τ0 →
    Gx P m (GD Hd C) (fun k' g' w' => k' = k ∧ ∃ g v, Stop g v ∧ Near Hd v w' ∧ HeapOk ok Hd v ∧ (∀ b, Hd b → Twin b (V0 b) (H0 b) v.heap[b]? w'.heap[b]?) ∧ (∀ b, C b → w'.heap[b]? = H0 b) ∧ w'.tape = τ0 ∧ g' = { g with callers := g.callers ++ cs }) k { g with callers := g.callers ++ cs } w := by
  induction hb with
  | @stop g v h => exact fun w hn hv _ hH hHC hτ0 => .stop fun d => ⟨rfl, g, v, h, hn.at d, hv, hH, hHC, hτ0, rfl⟩
  | @step g v ng nv ne hf hs hd hb ih =>
    intro w hn hv hc hH hHC hτ0
    refine Gx.step' (by exact (hf _ (Same.self v)).gor.running) fun d => ?_
    let τ : Tape := fun i q => if i < v.drawn then v.tape i q else w.tape (d + (i - v.drawn)) q
    have hτ : Same τ v := fun i hi => by funext q; simp only [τ, if_pos hi]
    have hl := (hn.at d).like (nv τ).drawn τ (fun j q => by simp only [τ]; rw [if_neg (by omega), Nat.add_sub_cancel_left]; rfl)
    obtain ⟨okm, hm1, hm2, hm3⟩ := E.hm
    have h1 := step_told (cs := cs) (m := m) E.hok okm hm1 hm2 (E.gd (hf τ hτ).fn) (hf τ hτ).gor (E.hin _ (hf τ hτ).fn) (fun f q => hm3 f ((hf τ hτ).about f q)) hl ⟨hv.obj, hv.hid⟩
    rw [hs τ hτ] at h1
    obtain ⟨hg, hw, hx⟩ := h1 (hd τ hτ)
    obtain ⟨w', e, hl'⟩ := hx (Nat.le_refl _)
    have hc' : ∀ c, C c → c < (nv τ).heap.size := fun c q => Nat.lt_of_lt_of_le (hc c q) hw.size
    have hhid : ∀ b, Hd b → Twin b v.heap[b]? w.heap[b]? (nv τ).heap[b]? w'.heap[b]? := fun b hb => hl'.hid b hb
    have hchan : ∀ c, C c → w'.heap[c]? = w.heap[c]? := fun c q => by
      obtain ⟨o, ho, hq⟩ := Bar.chans E hst (hb τ hτ) hc' c q
      rw [← hl'.obj c (hCH c q), hq]
      have h2 := hw.chan c o ho (hc c q) hq
      exact h2.symm.trans (hl.obj c (hCH c q))
    refine ⟨_, w', ne τ, e, ⟨hw.evs, fun b hb => (hhid b hb).still, hchan, ?_⟩, ?_⟩
    · have := hw.size
      rw [hl'.size, hl.size] at this
      exact this
    · rw [deafBehind_calm (fun x hx => (hw.evs x hx).mark)]
      exact ih τ hτ w' hl'.near hw.heap hc' (fun b hb => (hH b hb).trans (hhid b hb)) (fun b hb => (hchan b hb).trans (hHC b hb)) (hl'.other.1.trans hτ0)
end
end Go.Proofs.Ytfpkachoneaaeaa
