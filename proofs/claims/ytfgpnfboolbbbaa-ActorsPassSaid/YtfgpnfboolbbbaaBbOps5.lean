/-
  Calls, and what an operation of a function may do.
-/
import Derived.Test.YtfgpnfboolbbbaaBbOps4
import Derived.Fence
namespace Go.Proofs.Ytfgpnfboolbbbaa
open Go
/-- What comes of an operation: nothing that another goroutine could see. -/
def NextOk (P : Program) (ok : Oper → Prop) : Next → Prop
  | .value _ | .skip => True
  | .enter _ _ => True
  | .defer d => DefOk d
  | .round _ _ _ assign body => CodeOk ok assign ∧ CodeOk ok body
  | _ => False
/-- The function may be called: it has code, or what the model does for it is well. -/
def OkFn (P : Program) (ok : Oper → Prop) (f : FuncId) : Prop := ∀ args, Tm P ok (NextOk P ok) (callFunc f args)
/-- Every method of every type may be called. -/
def OkMethods (P : Program) (okf : FuncId → Prop) : Prop := ∀ t i, P.info? t = some i → ∀ m ∈ i.methods, ∀ f b, m.func = some (f, b) → okf f
def okBuiltin : Builtin → Bool
  | .append | .len => true
  | _ => false
/-- A call that leads to what may be called. -/
def OkTarget (okf : FuncId → Prop) : Target → Prop
  | .fn (.func f) _ | .fn (.via _ _ f _) _ => okf f
  | .builtin b _ _ _ => okBuiltin b = true
  | .coroexit _ => False
  | _ => True
section
variable {P : Program} {ok : Oper → Prop} {α β : Type}
theorem Tm.method (okf : FuncId → Prop) (hm : OkMethods P okf) : ∀ (n : Nat) (t : TypeId) (v : Value) (s : String), Tm P ok (fun r => okf r.1) (Go.method n t v s)
  | 0, _, _, _ => trivial
  | n + 1, t, v, s => by
    unfold Go.method
    refine Tm.bndQ (Tm.sourceInfo t) (fun i hi => ?_)
    split
    · rename_i m hf
      refine Tm.bnd (Tm.follow _ _ _) (fun r => ?_)
      split
      split
      · refine Tm.bnd (Tm.placeGet _ _) (fun x => ?_)
        split
        · exact Tm.method okf hm n _ _ _
        · exact Tm.runtimePanic _
        · exact Tm.stk _ _
      · rename_i f b hb
        refine Tm.bnd (Tm.receiverAt _ _ _ _) (fun x => ?_)
        refine Tm.ret ?_
        exact hm t i hi m (Array.mem_of_find?_eq_some hf) f b hb
    · exact Tm.stk _ _
theorem Tm.yield (l : Nat) (args : Array Value) : Tm P ok (NextOk P ok) (Instr.yield l args) := by
  unfold Instr.yield Instr.getLoop
  refine Tm.bndQ (R := fun r => ObjOk ok (.loop r)) ?_ (fun r hr => ?_)
  · refine Tm.gtB (fun o ho => ?_) (fun b o hj => .inl ?_)
    · split
      · exact Tm.ret ho
      · exact Tm.stk _ _
    · cases o <;> first | exact hj.elim | exact .inl ⟨_, rfl⟩
  · have h : Tm P ok (NextOk P ok) (pure (.round l r.fn ((r.params.zip args).foldl (fun tmps (t, a) => tmps.setIfInBounds t a) r.tmps) r.assign r.body) : Sem Next) := Tm.ret ⟨hr.1, hr.2.1⟩
    dsimp only
    split
    · exact Tm.bnd (Tm.stk _ _) (fun _ => h)
    · exact h
theorem Tm.val {s : Sem Value} (h : Tm P ok T s) : Tm P ok (NextOk P ok) (do pure (.value (← s)) : Sem Next) := Tm.bnd h (fun _ => Tm.ret trivial)
theorem Tm.callMethod (okf : FuncId → Prop) (hm : OkMethods P okf) (hf : ∀ f, okf f → OkFn P ok f) (r : Value) (s : String) (args : Array Value) : Tm P ok (NextOk P ok) (Go.callMethod r s args) := by
  unfold Go.callMethod
  split
  · refine Tm.bndQ (R := fun p => p = P) (Tm.prg rfl) (fun p hp => ?_)
    subst hp
    refine Tm.bndQ (Tm.method okf hm _ _ _ _) (fun r hr => ?_)
    exact hf _ hr _
  · exact Tm.runtimePanic _
  · exact Tm.stk _ _
theorem Tm.invoke (okf : FuncId → Prop) (hm : OkMethods P okf) (hf : ∀ f, okf f → OkFn P ok f) (t : Target) (args : Array Value) (ht : OkTarget okf t) : Tm P ok (NextOk P ok) (Go.invoke t args) := by
  unfold Go.invoke
  split
  · exact Tm.runtimePanic _
  · rename_i b _ _ _
    unfold Go.builtin
    cases b <;> first | (cases ht; done) | exact Tm.val (Tm.append_ _ _ _) | exact Tm.val (Tm.len_ _ _ _)
  · exact hf _ ht _
  · split
    · exact Tm.callMethod okf hm hf _ _ _
    · exact Tm.stk _ _
  · split
    · refine Tm.bnd (Tm.underlying _) (fun d => ?_)
      split <;> exact Tm.callMethod okf hm hf _ _ _
    · exact Tm.stk _ _
  · split
    · refine Tm.bnd (Tm.receiverVia _ _ _ _) (fun x => ?_)
      exact hf _ ht _
    · exact Tm.stk _ _
  · exact Tm.yield _ _
  · exact Tm.stk _ _
  · exact ht.elim
theorem OkFn.of_body {f : FuncId} {fn : Func} {c : Code} (h : P.funcs[f]? = some fn) (hb : fn.body = some c) (hn : (fn.name == "runtime.NumGoroutine") = false) : OkFn P ok f := by
  intro args
  unfold Go.callFunc
  refine Tm.bndQ (R := fun p => p = P) (Tm.prg rfl) (fun p hp => ?_)
  subst hp
  rw [h]
  dsimp only
  rw [if_neg (by simp [hn]), if_neg (by simp [hb])]
  exact Tm.ret trivial
end
end Go.Proofs.Ytfgpnfboolbbbaa
namespace Go.Proofs.Ytfgpnfboolbbbaa
open Go
/-- The operation is one that tells nothing of what is frozen. -/
def okOp (P : Program) (o : Oper) : Bool := match o.op with
  | .binOp op t x y _ => okBin P op t x y
  | .convert s t _ => okConv P s t
  | .lookup t _ _ _ | .mapUpdate t _ _ _ | .insert t _ _ _ => flatMap P t
  | .call c => match c.callee with | .builtin b => okBuiltin b | _ => true
  | .defer c => match c.callee with | .builtin _ => false | _ => true
  | .alloc _ | .box _ _ | .build _ _ | .buildSlice _ _ _ | .load _ _ | .store _ _ _ | .nilCheck _ | .unOp _ _ _ | .makeInterface _ _ | .makeFunc _ _ _ | .makeMap _ _ | .makeChan _ _ | .makeSlice _ _ _ | .slice _ _ _ _ _
  | .fieldAddr _ _ _ | .field _ _ _ | .indexAddr _ _ _ | .index _ _ _ | .range _ _ | .next _ _ | .entry _ | .extract _ _ | .move _ | .assign _ | .pick _ _ _ | .panic _ => true
  | _ => false
section
variable {P : Program} {ok : Oper → Prop} {α β : Type}
theorem Tm.sysE {Q : SysRet → Prop} (c : Sys) (hc : ∀ os : Os, ∃ r, Kernel.perform c os = .done r) (h : ∀ r, Q r) : Tm P ok Q (Go.sys c) := ⟨hc, fun r => h r⟩
theorem Tm.panicnil : Tm P ok T Instr.panicnil := by
  unfold Instr.panicnil
  refine Tm.bnd (Tm.sysE _ (fun os => ⟨_, rfl⟩) (fun _ => trivial)) (fun r => ?_)
  (repeat' (first | ((with_reducible refine Tm.noRoom (Calm.mayShare _ _ _ _ _) ?_); exact trivial) | with_reducible (first | exact Tm.ld _ _ | exact Tm.st _ _ _ | exact Tm.ch _ | exact Tm.stk _ _ | exact Tm.pnc _ _ | exact Tm.thr _ _ | exact Tm.fat _ _ | exact Tm.prg trivial | exact Tm.ret trivial | exact Tm.underlying _ | exact Tm.typeInfo _ | exact Tm.sizeOf _ | exact Tm.zeroValue _ | exact Tm.isAgg _ | exact Tm.elemOf _ | exact Tm.typeStr _ | exact Tm.loadCells _ _ | exact Tm.storeCells _ _ _ | exact Tm.loadVar _ _ | exact Tm.storeVar _ _ _ | exact Tm.newRow _ _ | exact Tm.newVar _ _ | exact Tm.part _ _ _ | exact Tm.runtimePanic _ | exact Tm.asIntOf _ | exact Tm.asInt _ | exact Tm.asBool _ | exact Tm.asString _ | exact Tm.asAgg _ | exact Tm.asAddr _ | exact Tm.askRoom _ | exact Tm.boundsPanic _ _ _ _ | exact Tm.noView _ | exact Tm.numberAt _ | exact Tm.behindNumber _ | exact Tm.byteOf _ | exact Tm.partAt _ _ _ | exact Tm.fieldPlace _ _ | exact Tm.sureAddr _ | exact Tm.loadAt _ _ | exact Tm.storeAt _ _ _ | exact Tm.fieldAt _ _ _ | exact Tm.indexAt _ _ _ | exact Tm.extract _ _ | exact Tm.alloc _ _ | exact Tm.box _ _ | exact Tm.index _ _ _ | exact Tm.buildSlice _ _ _ | exact Tm.sliceBound _ _ _ | exact Tm.sliceBounds _ _ _ _ _ _ | exact Tm.slice _ _ _ _ _ | exact Tm.sliceAt _ _ _ _ _ | exact Tm.makeSlice _ _ _ | exact Tm.makeMap _ _ | exact Tm.makeChan _ _ | exact Tm.makeFunc _ _ _ | exact Tm.range _ _ | exact Tm.next _ _ _ | exact Tm.build _ _ | exact Tm.bytesToString _ | exact Tm.len_ _ _ _ | exact Tm.lenOf _ | exact Tm.firstCells _ _ _ | exact Tm.append_ _ _ _ | exact Tm.append_ _ _ _ | exact Tm.intArith _ _ _ _ | exact Tm.intDiv _ _ _ _ | exact Tm.intBits _ _ _ _ | exact Tm.intCmp _ _ _ | exact Tm.shift _ _ _ _ _ | exact Tm.stringOp _ _ _ | exact Tm.floatArith _ _ _ _ | exact Tm.floatCmp _ _ _ _ | exact Tm.unary _ _ | exact Tm.intToInt _ _ | exact Tm.intToFloat _ _ | exact Tm.intToString _ | exact Tm.floatToInt _ _ _ | exact Tm.floatToFloat _ _ _ | exact Tm.complexToComplex _ _ _ _ | exact Tm.stringToRunes _ _ | exact Tm.unsafeAdd_ _ _ _ | exact Tm.asNumber _ _ | exact Tm.movedNumber _ _ _ | exact Tm.movedPointer _ _ _ | exact Tm.twoPlaces _ _ | exact Tm.addrSub _ _ _ | exact Tm.addrCmp _ _ _ | exact Tm.addrMod _ _ _ | exact Tm.entry _ | exact Tm.field _ _ _ | exact (by assumption) | exact Tm.runesToString _ | exact Tm.carith _ _ _ _ | exact Tm.ccmp _ _ _ _ | exact Tm.cconv _ _ _ | exact Tm.cadd _ _ | exact Tm.csub _ _ | exact Tm.cmul _ _ | exact Tm.cquo _ _ | exact Tm.cproduct _ _ _ _ | exact Tm.ccorrected _ _ _ _ _ | exact Tm.cquotient _ _ _ _ | exact Tm.complexOp _ _ _ _ _ _ | exact Tm.makeInterface _ _ | exact Tm.placeGet _ _ | exact Tm.follow _ _ _ | exact Tm.followBlind _ _ _ | exact Tm.nilAhead _ _ _ _ | exact Tm.ssaWrap _ _ _ _ _ | exact Tm.receiverAt _ _ _ _ | exact Tm.receiverVia _ _ _ _) | ((with_reducible refine Tm.uns _ _ ?_); exact trivial) | ((with_reducible refine Tm.nw _ ?_); exact trivial) | ((with_reducible refine Tm.so _ _ ?_); exact trivial) | (with_reducible refine Tm.shB (fun _ => ?_) (fun e n => rfl)) | (with_reducible refine Tm.viewB (fun _ => ?_) (fun x y => rfl)) | (with_reducible refine Tm.gtS (fun _ _ => ?_) (fun _ => rfl) (fun _ => rfl) (fun _ _ => rfl) (fun _ _ => rfl)) | (with_reducible refine Tm.bnd ?_ (fun _ => ?_)) | (with_reducible refine Tm.map_ ?_ _) | (with_reducible refine Tm.ite_ ?_ ?_) | split | (dsimp only; skip)))
theorem Tm.panic (x : Value) : Tm P ok T (Instr.panic x) := by
  unfold Instr.panic
  (repeat' (first | ((with_reducible refine Tm.noRoom (Calm.mayShare _ _ _ _ _) ?_); exact trivial) | with_reducible (first | exact Tm.ld _ _ | exact Tm.st _ _ _ | exact Tm.ch _ | exact Tm.stk _ _ | exact Tm.pnc _ _ | exact Tm.thr _ _ | exact Tm.fat _ _ | exact Tm.prg trivial | exact Tm.ret trivial | exact Tm.underlying _ | exact Tm.typeInfo _ | exact Tm.sizeOf _ | exact Tm.zeroValue _ | exact Tm.isAgg _ | exact Tm.elemOf _ | exact Tm.typeStr _ | exact Tm.loadCells _ _ | exact Tm.storeCells _ _ _ | exact Tm.loadVar _ _ | exact Tm.storeVar _ _ _ | exact Tm.newRow _ _ | exact Tm.newVar _ _ | exact Tm.part _ _ _ | exact Tm.runtimePanic _ | exact Tm.asIntOf _ | exact Tm.asInt _ | exact Tm.asBool _ | exact Tm.asString _ | exact Tm.asAgg _ | exact Tm.asAddr _ | exact Tm.askRoom _ | exact Tm.boundsPanic _ _ _ _ | exact Tm.noView _ | exact Tm.numberAt _ | exact Tm.behindNumber _ | exact Tm.byteOf _ | exact Tm.partAt _ _ _ | exact Tm.fieldPlace _ _ | exact Tm.sureAddr _ | exact Tm.loadAt _ _ | exact Tm.storeAt _ _ _ | exact Tm.fieldAt _ _ _ | exact Tm.indexAt _ _ _ | exact Tm.extract _ _ | exact Tm.alloc _ _ | exact Tm.box _ _ | exact Tm.index _ _ _ | exact Tm.buildSlice _ _ _ | exact Tm.sliceBound _ _ _ | exact Tm.sliceBounds _ _ _ _ _ _ | exact Tm.slice _ _ _ _ _ | exact Tm.sliceAt _ _ _ _ _ | exact Tm.makeSlice _ _ _ | exact Tm.makeMap _ _ | exact Tm.makeChan _ _ | exact Tm.makeFunc _ _ _ | exact Tm.range _ _ | exact Tm.next _ _ _ | exact Tm.build _ _ | exact Tm.bytesToString _ | exact Tm.len_ _ _ _ | exact Tm.lenOf _ | exact Tm.firstCells _ _ _ | exact Tm.append_ _ _ _ | exact Tm.append_ _ _ _ | exact Tm.intArith _ _ _ _ | exact Tm.intDiv _ _ _ _ | exact Tm.intBits _ _ _ _ | exact Tm.intCmp _ _ _ | exact Tm.shift _ _ _ _ _ | exact Tm.stringOp _ _ _ | exact Tm.floatArith _ _ _ _ | exact Tm.floatCmp _ _ _ _ | exact Tm.unary _ _ | exact Tm.intToInt _ _ | exact Tm.intToFloat _ _ | exact Tm.intToString _ | exact Tm.floatToInt _ _ _ | exact Tm.floatToFloat _ _ _ | exact Tm.complexToComplex _ _ _ _ | exact Tm.stringToRunes _ _ | exact Tm.unsafeAdd_ _ _ _ | exact Tm.asNumber _ _ | exact Tm.movedNumber _ _ _ | exact Tm.movedPointer _ _ _ | exact Tm.twoPlaces _ _ | exact Tm.addrSub _ _ _ | exact Tm.addrCmp _ _ _ | exact Tm.addrMod _ _ _ | exact Tm.entry _ | exact Tm.field _ _ _ | exact (by assumption) | exact Tm.runesToString _ | exact Tm.carith _ _ _ _ | exact Tm.ccmp _ _ _ _ | exact Tm.cconv _ _ _ | exact Tm.cadd _ _ | exact Tm.csub _ _ | exact Tm.cmul _ _ | exact Tm.cquo _ _ | exact Tm.cproduct _ _ _ _ | exact Tm.ccorrected _ _ _ _ _ | exact Tm.cquotient _ _ _ _ | exact Tm.complexOp _ _ _ _ _ _ | exact Tm.makeInterface _ _ | exact Tm.placeGet _ _ | exact Tm.follow _ _ _ | exact Tm.followBlind _ _ _ | exact Tm.nilAhead _ _ _ _ | exact Tm.ssaWrap _ _ _ _ _ | exact Tm.receiverAt _ _ _ _ | exact Tm.receiverVia _ _ _ _ | exact Tm.panicnil) | ((with_reducible refine Tm.uns _ _ ?_); exact trivial) | ((with_reducible refine Tm.nw _ ?_); exact trivial) | ((with_reducible refine Tm.so _ _ ?_); exact trivial) | (with_reducible refine Tm.shB (fun _ => ?_) (fun e n => rfl)) | (with_reducible refine Tm.viewB (fun _ => ?_) (fun x y => rfl)) | (with_reducible refine Tm.gtS (fun _ _ => ?_) (fun _ => rfl) (fun _ => rfl) (fun _ _ => rfl) (fun _ _ => rfl)) | (with_reducible refine Tm.bnd ?_ (fun _ => ?_)) | (with_reducible refine Tm.map_ ?_ _) | (with_reducible refine Tm.ite_ ?_ ?_) | split | (dsimp only; skip)))
theorem resolve_target {ρ : Operand → Value} {c : Call} {t : TypeId} (okf : FuncId → Prop) (w : World) (hb : (match c.callee with | .builtin b => okBuiltin b | _ => true) = true)
    (hab : ∀ f, (match (resolve ρ c t).run P w with | .ok d w' => d.target.leads P w' d.args | .halt _ _ => none) = some f → okf f) : Tm P ok (fun d => OkTarget okf d.target) (resolve ρ c t) := by
  unfold resolve at *
  cases hc : c.callee with
  | builtin b =>
    rw [hc] at hb
    exact Tm.ret hb
  | invoke r n => exact Tm.ret trivial
  | value f =>
    rw [hc] at hab
    dsimp only at hab ⊢
    unfold Deferred.ofValue at *
    split
    · rename_i fn first cap hf
      rw [hf] at hab
      refine Tm.ret ?_
      cases fn <;> first | exact trivial | exact hab _ rfl
    · exact Tm.ret trivial
    · exact Tm.stk _ _
theorem resolve_defer {ρ : Operand → Value} {c : Call} {t : TypeId} (hb : (match c.callee with | .builtin _ => false | _ => true) = true) : Tm P ok (fun d => NextOk P ok (.defer d)) (resolve ρ c t) := by
  unfold resolve
  cases hc : c.callee with
  | builtin b =>
    rw [hc] at hb
    cases hb
  | invoke r n => exact Tm.ret trivial
  | value f =>
    dsimp only
    unfold Deferred.ofValue
    split
    · exact Tm.ret trivial
    · exact Tm.ret trivial
    · exact Tm.stk _ _
theorem Tm.unit {s : Sem Unit} (h : Tm P ok T s) : Tm P ok (NextOk P ok) (do s; pure .skip : Sem Next) := Tm.bnd h (fun _ => Tm.ret trivial)
theorem Tm.execOp (okf : FuncId → Prop) (hm : OkMethods P okf) (hf : ∀ f, okf f → OkFn P ok f) (ρ : Operand → Value) (hρ : ∀ v, ρ (.const v) = v) (o : Oper) (hok : okOp P o = true) (w : World) (hab : ∀ f, o.about P w ρ = some f → okf f) :
    Tm P ok (NextOk P ok) (Go.execOp ρ o) := by
  unfold okOp at hok
  unfold Oper.about at hab
  unfold Go.execOp
  cases he : o.op <;> rw [he] at hok hab <;> dsimp only at hok hab ⊢
  case call c =>
    refine Tm.bndQ (resolve_target okf w hok hab) (fun d hd => ?_)
    exact Tm.invoke okf hm hf _ _ hd
  case defer c => exact Tm.bndQ (resolve_defer hok) (fun d hd => Tm.ret hd)
  case binOp op t x y n => exact Tm.val (Tm.bnd (Tm.eqGuardOk op t x y _ _ (fun v hv => by rw [hv, hρ]) (fun v hv => by rw [hv, hρ]) hok) (fun _ => Tm.binOp op t x y _ _ (fun v hv => by rw [hv, hρ]) (fun v hv => by rw [hv, hρ]) hok))
  case lookup t x i b => exact Tm.val (Tm.lookup _ _ _ _ hok)
  case mapUpdate t m k x => exact Tm.unit (Tm.mapUpdate _ _ _ _ hok)
  case insert t m k x => exact Tm.unit (Tm.mapUpdate _ _ _ _ hok)
  case pick c a b => exact Tm.bnd (Tm.asBool _) (fun _ => Tm.ret trivial)
  case nilCheck x =>
    split
    · exact Tm.runtimePanic _
    · exact Tm.runtimePanic _
    · exact Tm.runtimePanic _
    · split
      · exact Tm.runtimePanic _
      · refine Tm.bnd (Tm.prg trivial) (fun p => Tm.bnd (Tm.nilAhead _ _ _ _) (fun b => ?_))
        split
        · exact Tm.bnd (Tm.uns _ _ trivial) (fun _ => Tm.ret trivial)
        · exact Tm.ret trivial
      · exact Tm.ret trivial
    · exact Tm.ret trivial
  case alloc => exact Tm.val (Tm.alloc _ _)
  case box => exact Tm.val (Tm.box _ _)
  case build => exact Tm.val (Tm.build _ _)
  case buildSlice => exact Tm.val (Tm.buildSlice _ _ _)
  case load => exact Tm.val (Tm.loadAt _ _)
  case store => exact Tm.unit (Tm.storeAt _ _ _)
  case unOp => exact Tm.val (Tm.unary _ _)
  case convert => exact Tm.val (Tm.convert _ _ _ hok)
  case makeInterface => exact Tm.val (Tm.makeInterface _ _)
  case makeFunc => exact Tm.val (Tm.makeFunc _ _ _)
  case makeMap => exact Tm.val (Tm.makeMap _ _)
  case makeChan => exact Tm.val (Tm.makeChan _ _)
  case makeSlice => exact Tm.val (Tm.makeSlice _ _ _)
  case slice => exact Tm.val (Tm.sliceAt _ _ _ _ _)
  case fieldAddr => exact Tm.val (Tm.fieldAt _ _ _)
  case field => exact Tm.val (Tm.field _ _ _)
  case indexAddr => exact Tm.val (Tm.indexAt _ _ _)
  case index => exact Tm.val (Tm.index _ _ _)
  case range => exact Tm.val (Tm.range _ _)
  case next => exact Tm.val (Tm.next _ _ _)
  case entry => exact Tm.val (Tm.entry _)
  case extract => exact Tm.val (Tm.extract _ _)
  case panic => exact Tm.val (Tm.panic _)
  case move => exact Tm.ret trivial
  case assign => exact Tm.ret trivial
  all_goals (cases hok; done)
end
end Go.Proofs.Ytfgpnfboolbbbaa
