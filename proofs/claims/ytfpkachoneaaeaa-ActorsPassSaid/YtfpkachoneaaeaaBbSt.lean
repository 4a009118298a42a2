/-
  A goroutine's way by steps that are the same in every world and touch nothing, up to a stop.
-/
import Derived.Test.YtfpkachoneaaeaaBbRun
import Derived.Conc.CrowdStepC
set_option linter.unusedSimpArgs false
set_option linter.unusedVariables false
namespace Go.Proofs.Ytfpkachoneaaeaa
open Go Go.Conc
def Qs (P : Program) (main : Bool) (K : World → Prop) (Stop : Nat → Goroutine → Prop) : Nat → Nat → Goroutine → Prop
  | 0, k, g => Stop k g
  | n + 1, k, g => Stop k g ∨ (g.status = .running ∧ ∃ g' es, (∀ e ∈ es, Event.mute e = true) ∧ (∀ w, K w → stepG P main g w = .go g' w es) ∧ Qs P main K Stop n (deafBehind k es) g')
/-- In whatever number of steps. -/
def Qt (P : Program) (main : Bool) (K : World → Prop) (Stop : Nat → Goroutine → Prop) (k : Nat) (g : Goroutine) : Prop := ∃ n, Qs P main K Stop n k g
abbrev KT : World → Prop := fun _ => True
/-- It has ended, hearing. -/
def Ended (k : Nat) (g : Goroutine) : Prop := g.status = .finished ∧ k = 0
theorem Qs.quits {P : Program} : ∀ {n k : Nat} {g : Goroutine}, Qs P false KT Ended n k g → QuitsD P n k g
  | 0, _, _, h => h
  | _ + 1, _, _, h => h.imp id fun ⟨hr, g', es, hm, hs, hq⟩ => ⟨hr, g', es, hm, fun w => hs w trivial, hq.quits⟩
theorem Qs.mono {P : Program} {main : Bool} {K : World → Prop} {Stop Stop' : Nat → Goroutine → Prop} (hS : ∀ k g, Stop k g → Stop' k g) : ∀ {n k : Nat} {g : Goroutine}, Qs P main K Stop n k g → Qs P main K Stop' n k g
  | 0, _, _, h => hS _ _ h
  | _ + 1, _, _, h => h.imp (hS _ _) fun ⟨hr, g', es, hm, hs, hq⟩ => ⟨hr, g', es, hm, hs, hq.mono hS⟩
theorem Qs.running {P : Program} {main : Bool} {K : World → Prop} {Stop : Nat → Goroutine → Prop} (hS : ∀ k g, Stop k g → g.status = .running) : ∀ {n k : Nat} {g : Goroutine}, Qs P main K Stop n k g → g.status = .running
  | 0, _, _, h => hS _ _ h
  | _ + 1, _, _, h => h.elim (hS _ _) fun x => x.1
section
variable {P : Program} {main : Bool} {K : World → Prop} {Stop : Nat → Goroutine → Prop} {k : Nat} {g g' : Goroutine} {b : Frame} {x : Act} {kk : List Item} {cs : List Frame} {ops : Array Oper} {i : Nat} {rest : List Nat} {o : Oper}
theorem Qt.stop (h : Stop k g) : Qt P main K Stop k g := ⟨0, h⟩
theorem Qt.ctl (hs : ∀ w, stepG P main g w = .go g' w #[]) (hr : g.status = .running) (H : Qt P main K Stop k g') : Qt P main K Stop k g := by
  obtain ⟨n, h⟩ := H
  exact ⟨n + 1, .inr ⟨hr, g', #[], by simp, fun w _ => hs w, h⟩⟩
theorem Qt.said {e : Event} (he : e.mute = true) (hs : ∀ w, stepG P main g w = .go g' w #[e]) (hr : g.status = .running) (H : Qt P main K Stop (deafBehind k #[e]) g') : Qt P main K Stop k g := by
  obtain ⟨n, h⟩ := H
  exact ⟨n + 1, .inr ⟨hr, g', #[e], by simp [he], fun w _ => hs w, h⟩⟩
theorem Qt.auto {t t' : List Item} (hc : moved t = some t') (H : Qt P main K Stop k (G (b.at x t') cs)) : Qt P main K Stop k (G (b.at x t) cs) := by
  refine Qt.ctl (g' := G (b.at x t') cs) (fun w => ?_) rfl H
  unfold moved at hc
  split at hc
  · obtain rfl := Option.some.inj hc; exact stepG_skip
  · obtain rfl := Option.some.inj hc; exact stepG_label
  · obtain rfl := Option.some.inj hc; exact stepG_inBlock
  · obtain rfl := Option.some.inj hc; exact stepG_region_end
  · obtain rfl := Option.some.inj hc; exact stepG_seq
  · obtain rfl := Option.some.inj hc; exact stepG_block
  · exact stepG_exit hc
  · cases hc
theorem run_eq_of' {r : Result Next} {v : Value} {w : World} (h : ∀ K : Result Next → Prop, K (.ok (.value v) w) → K r) : r = .ok (.value v) w := h (· = .ok (.value v) w) rfl
theorem Qt.quietop (ho : ops[i]? = some o) (_ : quietOp o = true) (hw : Region.wanted o (yielded ops x.tmps) = true) (hk : b.kind ≠ .early) (he : ∀ w, (execOp x.eval o).events P w #[] = #[])
    (H : ∃ v, (∀ w, (execOp x.eval o).run P w = .ok (.value v) w) ∧ Qt P main K Stop k (G (b.at (x.put o.dst v) (.inRegion ops rest :: kk)) cs)) :
    Qt P main K Stop k (G (b.at x (.inRegion ops (i :: rest) :: kk)) cs) := by
  obtain ⟨v, hr, H⟩ := H
  exact Qt.ctl (fun w => by rw [stepG_value ho hw hk (hr w), listed_none (he w)]) rfl H
theorem Qt.rg {id : Nat} (H : Qt P main K Stop k (G (b.at x (.inRegion ops (List.range ops.size) :: kk)) cs)) : Qt P main K Stop k (G (b.at x (.code (.region id ops false) :: kk)) cs) := Qt.ctl (fun _ => stepG_region) rfl H
theorem Qt.cT {c : Operand} {y z : Code} (hx : x.eval c = .bool true) (H : Qt P main K Stop k (G (b.at x (.code y :: kk)) cs)) : Qt P main K Stop k (G (b.at x (.code (.cond c y z) :: kk)) cs) := Qt.ctl (fun _ => stepG_cond (t := true) hx) rfl H
theorem Qt.cF {c : Operand} {y z : Code} (hx : x.eval c = .bool false) (H : Qt P main K Stop k (G (b.at x (.code z :: kk)) cs)) : Qt P main K Stop k (G (b.at x (.code (.cond c y z) :: kk)) cs) := Qt.ctl (fun _ => stepG_cond (t := false) hx) rfl H
theorem Qt.rt (H : Qt P main K Stop k (G { b.at x (.code .ret :: kk) with mode := .returning } cs)) : Qt P main K Stop k (G (b.at x (.code .ret :: kk)) cs) := Qt.ctl (fun _ => stepG_ret') rfl H
theorem Qt.nd (H : Qt P main K Stop k (G { b.at x [] with mode := .returning } cs)) : Qt P main K Stop k (G (b.at x []) cs) := Qt.ctl (fun _ => stepG_end) rfl H
theorem Qt.qo {v : Value} (ho : ops[i]? = some o) (hq : quietOp o = true) (hw : Region.wanted o (yielded ops x.tmps) = true) (hk : b.kind ≠ .early) (he : ∀ w, (execOp x.eval o).events P w #[] = #[]) (hv : ∀ (w : World) (C : Result Next → Prop), C (.ok (.value v) w) → C ((execOp x.eval o).run P w))
    (H : Qt P main K Stop k (G (b.at (x.put o.dst v) (.inRegion ops rest :: kk)) cs)) : Qt P main K Stop k (G (b.at x (.inRegion ops (i :: rest) :: kk)) cs) := Qt.quietop ho hq hw hk he ⟨v, fun w => run_eq_of' (hv w), H⟩
/-- A pointer becomes a bare one. -/
theorem Qt.unsafe_ {src dst t : TypeId} {X : Operand} {a : Addr} (ho : ops[i]? = some o) (hw : Region.wanted o (yielded ops x.tmps) = true) (hk : b.kind ≠ .early) (hop : o.op = .convert src dst X) (hs : P.underlying src = some (.pointer t)) (hd : P.underlying dst = some .unsafePointer)
    (hsz : (P.info? t).map (fun i => decide (i.size = 0)) = some false) (hx : x.eval X = .pointer (some a)) (hc : ∀ w, K w → (w.cell? a).isSome = true) (H : Qt P main K Stop k (G (b.at (x.put o.dst (.pointer (some a))) (.inRegion ops rest :: kk)) cs)) : Qt P main K Stop k (G (b.at x (.inRegion ops (i :: rest) :: kk)) cs) := by
  obtain ⟨n, H⟩ := H
  have e1 : execOp x.eval o = (do pure (.value (← convert src dst (.pointer (some a)))) : Sem Next) := by unfold execOp; simp only [hop, hx]
  refine ⟨n + 1, .inr ⟨rfl, _, #[], by simp, fun w hw' => ?_, H⟩⟩
  obtain ⟨v, hv⟩ := Option.isSome_iff_exists.1 (hc w hw')
  have hr : (execOp x.eval o).run P w = .ok (.value (.pointer (some a))) w := by
    rw [e1, Sem.run_bind, run_convert_to_unsafe hs hd hsz (w := w) hv]; rfl
  have he : (execOp x.eval o).events P w #[] = #[] := by
    rw [e1]
    simp [run_convert_to_unsafe hs hd hsz (w := w) hv, events_convert_to_unsafe hs hd hsz (w := w) hv]
  rw [stepG_value ho hw hk hr, listed_none he]
theorem Qt.not (ho : ops[i]? = some o) (hw : Region.wanted o (yielded ops x.tmps) = false) (H : Qt P main K Stop k (G (b.at (x.put o.dst undef) (.inRegion ops rest :: kk)) cs)) : Qt P main K Stop k (G (b.at x (.inRegion ops (i :: rest) :: kk)) cs) :=
  Qt.ctl (fun _ => stepG_unwanted ho hw) rfl H
theorem Qt.enter {f : FuncId} {fn : Func} {c : Code} {args : Array Operand} {ats : Array TypeId} (ho : ops[i]? = some o) (hw : Region.wanted o (yielded ops x.tmps) = true) (hk : b.kind ≠ .early) (hop : o.op = .call { callee := .value (.func f), args, argTypes := ats })
    (hf : P.funcs[f]? = some fn) (hname : (fn.name == "runtime.NumGoroutine") = false) (hb : fn.body = some c)
    (H : Qt P main K Stop k (G ((base f).at { tmps := args.map x.eval ++ Array.replicate (fn.ntmps - (args.map x.eval).size) undef, defers := [] } [.code c]) (b.at x (.inRegion ops (i :: rest) :: kk) :: cs))) :
    Qt P main K Stop k (G (b.at x (.inRegion ops (i :: rest) :: kk)) cs) := by
  have hb' : fn.body.isNone = false := by rw [hb]; rfl
  refine Qt.ctl (fun w => ?_) rfl H
  rw [stepG_enter ho hw hk (run_call_body hop hf hname hb'), enter_at _ hf hb]
  have : listed P b.fn x o w = #[] := by unfold listed; rw [events_call_body hop hf hname hb']; exact seen_none P _
  rw [this]
theorem Qt.leave0 {fn : Func} {todo : List Item} {c : Frame} (hn : b.kind = .normal) (hd : x.defers = []) (hf : P.funcs[b.fn]? = some fn) (hr : fn.results = #[]) (H : Qt P main K Stop k (G (c.finish (.tuple #[])) cs)) :
    Qt P main K Stop k (G { b.at x todo with mode := .returning } (c :: cs)) :=
  Qt.ctl (fun w => stepG_leave hn hd hf (results_none hr _ P w) (events_results_none hr _ _)) rfl H
theorem Qt.leave1 {fn : Func} {t : Tmp} {todo : List Item} {c : Frame} (hn : b.kind = .normal) (hd : x.defers = []) (hf : P.funcs[b.fn]? = some fn) (hr : fn.results = #[.tmp t]) (H : Qt P main K Stop k (G (c.finish (x.tmps.getD t undef)) cs)) :
    Qt P main K Stop k (G { b.at x todo with mode := .returning } (c :: cs)) :=
  Qt.ctl (fun w => stepG_leave hn hd hf (results_tmp hr _ P w) (events_results_tmp hr _ _)) rfl H
theorem Qt.defer {f : FuncId} {as : Array Operand} {ats : Array TypeId} (ho : ops[i]? = some o) (hw : Region.wanted o (yielded ops x.tmps) = true) (hk : b.kind ≠ .early) (hop : o.op = .defer { callee := .value (.func f), args := as, argTypes := ats })
    (H : Qt P main K Stop k (G (b.at (Act.put ⟨x.tmps, dcall f (as.map x.eval) :: x.defers⟩ o.dst undef) (.inRegion ops rest :: kk)) cs)) : Qt P main K Stop k (G (b.at x (.inRegion ops (i :: rest) :: kk)) cs) :=
  Qt.ctl (fun _ => stepG_defer ho hw hk hop) rfl H
theorem Qt.undefer {f : FuncId} {fn : Func} {c : Code} {args : Array Value} {ds : List Deferred} {todo : List Item} (hd : x.defers = dcall f args :: ds) (hf : P.funcs[f]? = some fn) (hname : (fn.name == "runtime.NumGoroutine") = false) (hb : fn.body = some c)
    (H : Qt P main K Stop k (G ((baseD f).at { tmps := args ++ Array.replicate (fn.ntmps - args.size) undef, defers := [] } [.code c]) ({ b.at ⟨x.tmps, ds⟩ todo with mode := .returning } :: cs))) : Qt P main K Stop k (G { b.at x todo with mode := .returning } cs) :=
  Qt.ctl (fun _ => stepG_unwind_enter hd hf hname hb) rfl H
theorem Qt.leaveD {fn : Func} {todo : List Item} {c : Frame} (hn : b.kind = .deferred) (hd : x.defers = []) (hf : P.funcs[b.fn]? = some fn) (hr : fn.results = #[]) (hc : c.mode = .returning) (H : Qt P main K Stop k (G c cs)) :
    Qt P main K Stop k (G { b.at x todo with mode := .returning } (c :: cs)) :=
  Qt.ctl (fun w => stepG_leave_deferred hn hd hf (results_none hr _ P w) (events_results_none hr _ _) hc) rfl H
section
variable {f : FuncId} {fn : Func} {ats : Array TypeId} {as : Array Operand}
theorem Qt.mark0 {m : Mark} (hm : ∀ g, m ≠ Mark.extern g) (ho : ops[i]? = some o) (hw : Region.wanted o (yielded ops x.tmps) = true) (hk : b.kind ≠ .early) (hop : o.op = .call { callee := .value (.func f), args := as, argTypes := ats })
    (hf : P.funcs[f]? = some fn) (hname : (fn.name == "runtime.NumGoroutine") = false) (hb : fn.body.isNone = true) (hn : Extern.findNext fn = none) (he : Extern.find fn = some (fun _ => do mark m; pure Extern.Race.none_)) (hev : Event.mute ⟨.mark m, false, true⟩ = true)
    (H : Qt P main K Stop (deafBehind k #[⟨.mark m, false, true⟩]) (G (b.at (x.put o.dst (.tuple #[])) (.inRegion ops rest :: kk)) cs)) : Qt P main K Stop k (G (b.at x (.inRegion ops (i :: rest) :: kk)) cs) :=
  Qt.said hev (fun _ => stepG_mark0 m hm ho hw hk hop hf hname hb hn he) rfl H
theorem Qt.pureEntry (v : Value) (ho : ops[i]? = some o) (hw : Region.wanted o (yielded ops x.tmps) = true) (hk : b.kind ≠ .early) (hop : o.op = .call { callee := .value (.func f), args := as, argTypes := ats })
    (hf : P.funcs[f]? = some fn) (hname : (fn.name == "runtime.NumGoroutine") = false) (hb : fn.body.isNone = true) (hn : Extern.findNext fn = none) (he : Extern.find fn = some (fun _ => pure v))
    (H : Qt P main K Stop k (G (b.at (x.put o.dst v) (.inRegion ops rest :: kk)) cs)) : Qt P main K Stop k (G (b.at x (.inRegion ops (i :: rest) :: kk)) cs) :=
  Qt.ctl (fun _ => stepG_entry_pure v ho hw hk hop hf hname hb hn he) rfl H
/-- A mark that was put off. -/
theorem Qt.unmark {m : Mark} {ds : List Deferred} {todo : List Item} (hm : ∀ g, m ≠ Mark.extern g) (hd : x.defers = dcall f #[] :: ds) (hf : P.funcs[f]? = some fn) (hname : (fn.name == "runtime.NumGoroutine") = false) (hb : fn.body.isNone = true) (hn : Extern.findNext fn = none)
    (he : Extern.find fn = some (fun _ => do mark m; pure Extern.Race.none_)) (hev : Event.mute ⟨.mark m, false, true⟩ = true)
    (H : Qt P main K Stop (deafBehind k #[⟨.mark m, false, true⟩]) (G { b.at ⟨x.tmps, ds⟩ todo with mode := .returning } cs)) : Qt P main K Stop k (G { b.at x todo with mode := .returning } cs) :=
  Qt.said hev (fun w => stepG_unwind_entry (w' := w) hd hf hname hb hn he (by simp [Extern.Race.none_]; rfl) (by simp) (by
    intro y hy
    obtain rfl : y = _ := (by simpa using hy)
    exact ⟨rfl, fun g q => hm g (by cases q; rfl)⟩)) rfl H
theorem Run.unmark {Post : Value → World → Prop} {Z : Scene} {n h : Nat} {w : World} {m : Mark} {ds : List Deferred} {todo : List Item} (hm : ∀ g, m ≠ Mark.extern g) (hd : x.defers = dcall f #[] :: ds) (hf : P.funcs[f]? = some fn) (hname : (fn.name == "runtime.NumGoroutine") = false) (hb : fn.body.isNone = true) (hn : Extern.findNext fn = none)
    (he : Extern.find fn = some (fun _ => do mark m; pure Extern.Race.none_)) (hev : EvX Z ⟨.mark m, false, true⟩)
    (H : Run P Post Z n h (deafBehind k #[⟨.mark m, false, true⟩]) (G { b.at ⟨x.tmps, ds⟩ todo with mode := .returning } cs) w) : Run P Post Z n h k (G { b.at x todo with mode := .returning } cs) w :=
  Run.step rfl fun d => ⟨_, _, _, stepG_unwind_entry (w' := w.at d) hd hf hname hb hn he (by simp [Extern.Race.none_]; rfl) (by simp) (by
    intro y hy
    obtain rfl : y = _ := (by simpa using hy)
    exact ⟨rfl, fun g q => hm g (by cases q; rfl)⟩), HX.still (fun e he => by obtain rfl : e = _ := (by simpa using he); exact hev), H.at d⟩
end
end
end Go.Proofs.Ytfpkachoneaaeaa
namespace Go.Proofs.Ytfpkachoneaaeaa
open Go Go.Conc
open Go.ConcN (upd upd_ne upd_same)
section
variable {P : Program} {Post : Value → World → Prop} {Sh : Loc → Prop} {Inb : Nat → Option Chair} {h : Nat} {T : Trace} {gs : Array Goroutine} {w : World} {q : Nat → Nat}
theorem Core.rise (C : Hold P Sh Inb h T gs w q) : Hold P Sh (upd Inb h none) h T gs w q := by
  have hsub : ∀ x, x ≠ h → upd Inb h none x = Inb x := fun x hx => upd_ne Inb _ hx
  have hs : ∀ i ch, upd Inb h none i = some ch → i ≠ h ∧ Inb i = some ch := fun i ch e => by
    by_cases ei : i = h
    · subst ei; rw [upd_same] at e; cases e
    · rw [hsub i ei] at e; exact ⟨ei, e⟩
  refine ⟨fun i g hi hg => ?_, fun i ch c e => C.chans i ch c (hs i ch e).2, fun i ch e => C.wf i ch (hs i ch e).2, C.above, ?_, fun i ch e => C.keep i ch (hs i ch e).2, fun i l hl => ?_⟩
  · rw [hsub i hi]; exact C.idle i g hi hg
  · refine ((C.past.fewer (Mem' := fun i => (upd Inb h none i).isSome = true) fun i hi => ?_).loosen (Lo' := fun i => (upd Inb h none i).isSome = true ∧ ¬ i = h) fun i hi => ?_).same fun i hi => ?_
    · by_cases ei : i = h
      · subst ei; rw [upd_same] at hi; cases hi
      · rw [hsub i ei] at hi; exact hi
    · exact ⟨by rw [hsub i hi.2]; exact hi.1, hi.2⟩
    · have ei : i ≠ h := fun e => by
        rcases hi with hi | hi
        · rw [e, upd_same] at hi; cases hi
        · exact hi.2 e
      funext l
      unfold StOf
      rw [hsub i ei]
  · obtain ⟨ch, e, hl⟩ := hl
    exact C.apart i l ⟨ch, (hs i ch e).2, hl⟩
end
/-- The holder has no chair. -/
def Scene.rise (Z : Scene) (h : Nat) : Scene where
  Sh := Z.Sh
  Inb := upd Z.Inb h none
  Hd := Z.Hd
  C := Z.C
  place := fun i ch a v e => by
    by_cases ei : i = h
    · subst ei; rw [upd_same] at e; cases e
    · rw [upd_ne _ _ ei] at e; exact Z.place i ch a v e
  chan := fun i ch c e => by
    by_cases ei : i = h
    · subst ei; rw [upd_same] at e; cases e
    · rw [upd_ne _ _ ei] at e; exact Z.chan i ch c e
  shun := Z.shun
  apart := Z.apart
/-- Goroutine i sits down. -/
def Scene.sit (Z : Scene) (i : Nat) (ch : Chair) (hp : ∀ a v, ch.val a = some v → Z.Hd a.block) (hc : ∀ c, ch.seat.has c → Z.C c) : Scene where
  Sh := Z.Sh
  Inb := upd Z.Inb i (some ch)
  Hd := Z.Hd
  C := Z.C
  place := fun j ch' a v e => by
    by_cases ei : j = i
    · subst ei; rw [upd_same] at e; obtain rfl := Option.some.inj e; exact hp a v
    · rw [upd_ne _ _ ei] at e; exact Z.place j ch' a v e
  chan := fun j ch' c e => by
    by_cases ei : j = i
    · subst ei; rw [upd_same] at e; obtain rfl := Option.some.inj e; exact hc c
    · rw [upd_ne _ _ ei] at e; exact Z.chan j ch' c e
  shun := Z.shun
  apart := Z.apart
section
variable {P : Program} {Post : Value → World → Prop} {Z Z' : Scene} {n h k : Nat} {a a' a₂ child : Goroutine} {w : World}
theorem Run.rise (H : Run P Post (Z.rise h) n h k a w) : Run P Post Z n h k a w :=
  fun d gs T q sl hn ha hok C hk => H d gs T q sl hn ha ⟨hok.obj, hok.hid, hok.chan⟩ C.rise hk
/-- Other blocks are hidden, other channels counted. -/
theorem Run.scene (hs : Z'.Sh = Z.Sh) (hi : Z'.Inb = Z.Inb) (hok : WOk P Z w → WOk P Z' w) (H : Run P Post Z' n h k a w) : Run P Post Z n h k a w :=
  fun d gs T q sl hn ha ho C hk => H d gs T q sl hn ha ((hok ⟨ho.obj, ho.hid, ho.chan⟩).at d) (by unfold Hold; rw [hs, hi]; exact C) hk
/-- ████ THE TOKEN PASSES. ████ -/
theorem Run.give {j c kk m nh : Nat} {chj ch : Chair} {v z z' : Value} (hjh : j ≠ h) (hjn : j < n) (hj : Z.Inb j = some chj) (hk : chj.seat.cases[kk]? = some (rcase c z))
    (honly : ∀ x chx, x ≠ j → Z.Inb x = some chx → ¬ chx.seat.has c) (hrun : a.status = .running) (hsend : ∀ w : World, stepG P (h == 0) a w = .comm a₂ #[scase c v z'] true .send w #[])
    (hc : w.heap[c]? = some (.chan 0 #[] false m m false)) (hwf : ch.seat.Wf) (hch : ∀ c' : Nat, ch.seat.has c' → ∃ cap k, w.heap[c']? = some (.chan cap #[] false k k false)) (hK : ch.K w) (hap : ∀ l, ch.St l → ¬ Z.Sh l)
    (hafter : Sits P (h == 0) ch.K ch.St ch.B ch.seat nh (Go.Conc.served a₂ undef)) (hp : ∀ a v, ch.val a = some v → Z.Hd a.block) (hcc : ∀ c, ch.seat.has c → Z.C c)
    (H : ∀ g₂, chj.seat.home g₂ → Run P Post ((Z.sit h ch hp hcc).rise j) n j 0 (Go.Conc.served g₂ (commResult chj.seat.cases chj.seat.shape kk v true)) (w.setChan c 0 #[] false (m + 1) (m + 1) false)) : Run P Post Z n h 0 a w := by
  intro d gs T q sl hn ha hok C hd
  refine Go.Proofs.Ytfpkachoneaaeaa.give (w := w.at d) (ch := ch) (z' := z') (es := #[]) (kk := kk) (k := m) hjh (by rw [hn]; exact hjn) hj hk honly ha hrun hd (fun d' => hsend _) (by simp) (by simp) (by simp) (by simp) hap C hc hwf hch hK hafter ?_
  intro gs' g₂ d' T' q' sl' hsz hgj hhome C' hd'
  exact (H g₂ hhome) d' gs' T' q' sl' (hsz.trans hn) hgj (by
    have h1 : WOk P Z (w.setChan c 0 #[] false (m + 1) (m + 1) false) := WOk.setChan (w := w) ⟨hok.obj, hok.hid, hok.chan⟩ hc rfl _ _ _ _ _ _
    exact ⟨h1.obj, h1.hid, h1.chan⟩) C'.rise hd'
/-- ████ A GOROUTINE IS HIRED. ████ -/
theorem Run.hire {nc : Nat} {ch : Chair} (hrun : a.status = .running) (hgo : ∀ w : World, stepG P (h == 0) a w = .spawn a' child w #[]) (hap : ∀ l, ch.St l → ¬ Z.Sh l) (hnew : Z.Inb n = none) (hwf : ch.seat.Wf)
    (hch : ∀ c' : Nat, ch.seat.has c' → ∃ cap k, w.heap[c']? = some (.chan cap #[] false k k false)) (hK : ch.K w) (hsits : Sits P false ch.K ch.St ch.B ch.seat nc child) (hp : ∀ a v, ch.val a = some v → Z.Hd a.block) (hcc : ∀ c, ch.seat.has c → Z.C c)
    (H : Run P Post (Z.sit n ch hp hcc) (n + 1) h 0 a' w) : Run P Post Z n h 0 a w := by
  intro d gs T q sl hn ha hok C hd
  refine Go.Proofs.Ytfpkachoneaaeaa.hire (w := w.at d) (ch := ch) (es := #[]) (nc := nc) ha hrun hd (fun d' => hgo _) (by simp) (by simp) (by simp) (by simp) hap C (by rw [hn]; exact hnew) hwf hch hK hsits ?_
  intro gs' d' T' q' sl' hsz hgh C' hd'
  rw [hn] at C'
  exact H d' gs' T' q' sl' (by rw [hsz, hn]) hgh ⟨hok.obj, hok.hid, hok.chan⟩ C' hd'
end
end Go.Proofs.Ytfpkachoneaaeaa
namespace Go.Proofs.Ytfpkachoneaaeaa
open Go Go.Conc
def Way (P : Program) (main : Bool) (ch : Chair) (a : Goroutine) : Prop := ∃ k, ∀ w, Goes P main (RK ch.K) (DS ch.St ch.B) (fun g _ => ∃ g₂, AtIn P main ch.K ch.St ch.B ch.seat g g₂) k a w
section
variable {P : Program} {main : Bool} {ch : Chair} {g g' g₂ : Goroutine} {b : Frame} {x : Act} {kk : List Item} {cs : List Frame} {ops : Array Oper} {i : Nat} {rest : List Nat} {o : Oper}
theorem Way.sits (h : Way P main ch g) : ∃ n, Sits P main ch.K ch.St ch.B ch.seat n g := by
  obtain ⟨k, h⟩ := h
  exact ⟨k + 1, .inl ⟨k, default, rfl, h _⟩⟩
theorem Way.here (h : AtIn P main ch.K ch.St ch.B ch.seat g g₂) : Way P main ch g := ⟨0, fun _ _ _ => ⟨g₂, h⟩⟩
theorem Way.ctl (hs : ∀ w, stepG P main g w = .go g' w #[]) (hr : g.status = .running) (H : Way P main ch g') : Way P main ch g := by
  obtain ⟨k, h⟩ := H
  exact ⟨k + 1, fun w => Goes.step hr fun w₁ _ => by rw [hs w₁, goes_go]; exact ⟨ds_none _, h w₁⟩⟩
theorem Way.auto {t t' : List Item} (hc : moved t = some t') (H : Way P main ch (G (b.at x t') cs)) : Way P main ch (G (b.at x t) cs) := by
  refine Way.ctl (g' := G (b.at x t') cs) (fun w => ?_) rfl H
  unfold moved at hc
  split at hc
  · obtain rfl := Option.some.inj hc; exact stepG_skip
  · obtain rfl := Option.some.inj hc; exact stepG_label
  · obtain rfl := Option.some.inj hc; exact stepG_inBlock
  · obtain rfl := Option.some.inj hc; exact stepG_region_end
  · obtain rfl := Option.some.inj hc; exact stepG_seq
  · obtain rfl := Option.some.inj hc; exact stepG_block
  · exact stepG_exit hc
  · cases hc
theorem Way.quietop (ho : ops[i]? = some o) (_ : quietOp o = true) (hw : Region.wanted o (yielded ops x.tmps) = true) (hk : b.kind ≠ .early) (he : ∀ w, (execOp x.eval o).events P w #[] = #[])
    (H : ∃ v, (∀ w, (execOp x.eval o).run P w = .ok (.value v) w) ∧ Way P main ch (G (b.at (x.put o.dst v) (.inRegion ops rest :: kk)) cs)) :
    Way P main ch (G (b.at x (.inRegion ops (i :: rest) :: kk)) cs) := by
  obtain ⟨v, hr, H⟩ := H
  exact Way.ctl (fun w => by rw [stepG_value ho hw hk (hr w), listed_none (he w)]) rfl H
theorem Way.rg {id : Nat} (H : Way P main ch (G (b.at x (.inRegion ops (List.range ops.size) :: kk)) cs)) : Way P main ch (G (b.at x (.code (.region id ops false) :: kk)) cs) := Way.ctl (fun _ => stepG_region) rfl H
theorem Way.cT {c : Operand} {y z : Code} (hx : x.eval c = .bool true) (H : Way P main ch (G (b.at x (.code y :: kk)) cs)) : Way P main ch (G (b.at x (.code (.cond c y z) :: kk)) cs) := Way.ctl (fun _ => stepG_cond (t := true) hx) rfl H
theorem Way.cF {c : Operand} {y z : Code} (hx : x.eval c = .bool false) (H : Way P main ch (G (b.at x (.code z :: kk)) cs)) : Way P main ch (G (b.at x (.code (.cond c y z) :: kk)) cs) := Way.ctl (fun _ => stepG_cond (t := false) hx) rfl H
theorem Way.rt (H : Way P main ch (G { b.at x (.code .ret :: kk) with mode := .returning } cs)) : Way P main ch (G (b.at x (.code .ret :: kk)) cs) := Way.ctl (fun _ => stepG_ret') rfl H
theorem Way.nd (H : Way P main ch (G { b.at x [] with mode := .returning } cs)) : Way P main ch (G (b.at x []) cs) := Way.ctl (fun _ => stepG_end) rfl H
theorem Way.qo {v : Value} (ho : ops[i]? = some o) (hq : quietOp o = true) (hw : Region.wanted o (yielded ops x.tmps) = true) (hk : b.kind ≠ .early) (he : ∀ w, (execOp x.eval o).events P w #[] = #[]) (hv : ∀ (w : World) (C : Result Next → Prop), C (.ok (.value v) w) → C ((execOp x.eval o).run P w))
    (H : Way P main ch (G (b.at (x.put o.dst v) (.inRegion ops rest :: kk)) cs)) : Way P main ch (G (b.at x (.inRegion ops (i :: rest) :: kk)) cs) := Way.quietop ho hq hw hk he ⟨v, fun w => run_eq_of' (hv w), H⟩
theorem Way.not (ho : ops[i]? = some o) (hw : Region.wanted o (yielded ops x.tmps) = false) (H : Way P main ch (G (b.at (x.put o.dst undef) (.inRegion ops rest :: kk)) cs)) : Way P main ch (G (b.at x (.inRegion ops (i :: rest) :: kk)) cs) :=
  Way.ctl (fun _ => stepG_unwanted ho hw) rfl H
theorem Way.defer {f : FuncId} {as : Array Operand} {ats : Array TypeId} (ho : ops[i]? = some o) (hw : Region.wanted o (yielded ops x.tmps) = true) (hk : b.kind ≠ .early) (hop : o.op = .defer { callee := .value (.func f), args := as, argTypes := ats })
    (H : Way P main ch (G (b.at (Act.put ⟨x.tmps, dcall f (as.map x.eval) :: x.defers⟩ o.dst undef) (.inRegion ops rest :: kk)) cs)) : Way P main ch (G (b.at x (.inRegion ops (i :: rest) :: kk)) cs) :=
  Way.ctl (fun _ => stepG_defer ho hw hk hop) rfl H
/-- A load of a place of its chair. -/
theorem Way.ld {a : Addr} {v : Value} (ho : ops[i]? = some o) (hw : Region.wanted o (yielded ops x.tmps) = true) (hk : b.kind ≠ .early) (hv : ch.val a = some v) (hB : a.block < ch.B)
    (hr : ∀ w₁ : World, w₁.cell? a = some v → (execOp x.eval o).run P w₁ = .ok (.value v) w₁ ∧ (execOp x.eval o).events P w₁ #[] = #[⟨.cell a, false, false⟩])
    (H : Way P main ch (G (b.at (x.put o.dst v) (.inRegion ops rest :: kk)) cs)) : Way P main ch (G (b.at x (.inRegion ops (i :: rest) :: kk)) cs) := by
  obtain ⟨k, h⟩ := H
  refine ⟨k + 1, fun w => Goes.step rfl fun w₁ h₁ => ?_⟩
  obtain ⟨e1, e2⟩ := hr w₁ (h₁ a v hv)
  rw [stepG_value ho hw hk e1, goes_go]
  refine ⟨⟨rfl, fun e he => ?_⟩, h w₁⟩
  have hm := mem_listed he
  rw [e2] at hm
  obtain rfl : e = _ := by simpa using hm
  exact ⟨a, rfl, ⟨a, v, rfl, hv⟩, hB⟩
end
end Go.Proofs.Ytfpkachoneaaeaa
namespace Go.Proofs.Ytfpkachoneaaeaa
open Go Go.Conc
structure TrS (Sh : Loc → Prop) (St : Nat → Loc → Prop) (st sm : Addr) (qc mC : Nat) (ph : Nat → Nat) (t : Trace) : Prop where
  clean : ∀ said, ¬ Race said t
  norel : ∀ i a, t.act? i ≠ some (.mark (.release a))
  known : ∀ i a, touchAt t i = some a → a.loc.isMemory = true → Knows t 0 i ∨ (a.write = false ∧ ∃ g, t.g? i = some g ∧ 6 ≤ ph g) ∨ (∃ r, t.act? r = some (.mark (.releaseMerge st)) ∧ t.heard r ∧ Before t i r) ∨
    ((Sh a.loc ∨ a.loc = .cell st ∨ a.loc = .cell sm) ∧ a.kind = .atomic ∧ ¬ t.heard i)
  wrote : ∀ i a, touchAt t i = some a → a.write = true → ∀ g, ph g = 7 → St g a.loc → Knows t g i
  plain : ∀ i a, touchAt t i = some a → (a.loc = .cell st ∨ a.loc = .cell sm) → a.kind ≠ .atomic → Knows t 0 i ∧ (a.kind = .plain → Before t i mC)
  shut : t.act? mC = some (.close qc) ∧ t.heard mC
  seen : ∀ g, 2 ≤ ph g → ph g ≤ 6 → Knows t g mC
section
variable {Sh : Loc → Prop} {St : Nat → Loc → Prop} {st sm : Addr} {qc mC : Nat} {ph ph' : Nat → Nat} {t u : Trace} {g : Nat}
theorem touch_old {i : Nat} {a : Touch} (h : touchAt (t ++ u) i = some a) (hi : i < t.size) : touchAt t i = some a := by rw [touchAt_old hi] at h; exact h
theorem size_of_act {i : Nat} {a : MemAct} (h : t.act? i = some a) : i < t.size := lt_of_act? h
theorem TrS.app (H : TrS Sh St st sm qc mC ph t) (hu : ∀ op ∈ u, op.g = g) (hr : ∀ op ∈ u, ∀ a, op.act ≠ .mark (.release a))
    (hc : ∀ i a, touchAt t i = some a → ∀ op ∈ u, ∀ b, op.act.touch? = some b → (∃ said, a.conflicts said b) → Knows t g i)
    (hk : ∀ i a, t.size ≤ i → touchAt (t ++ u) i = some a → a.loc.isMemory = true → Knows (t ++ u) 0 i ∨ (a.write = false ∧ ∃ g, (t ++ u).g? i = some g ∧ 6 ≤ ph' g) ∨ ((Sh a.loc ∨ a.loc = .cell st ∨ a.loc = .cell sm) ∧ a.kind = .atomic ∧ ¬ (t ++ u).heard i))
    (hw : ∀ op ∈ u, ∀ b, op.act.touch? = some b → b.write = true → ∀ g', ph' g' = 7 → ¬ St g' b.loc)
    (hp : ∀ op ∈ u, ∀ b, op.act.touch? = some b → (b.loc = .cell st ∨ b.loc = .cell sm) → b.kind ≠ .atomic → g = 0 ∧ b.kind ≠ .plain)
    (h6 : ∀ g', 6 ≤ ph g' → 6 ≤ ph' g') (h7 : ∀ g', ph' g' = 7 → ph g' = 7) (hC : ∀ g', 2 ≤ ph' g' → ph' g' ≤ 6 → Knows (t ++ u) g' mC) : TrS Sh St st sm qc mC ph' (t ++ u) := by
  refine ⟨fun said => noRace_append (H.clean said) hu fun i a ha op hop b hb hcf => hc i a ha op hop b hb ⟨said, hcf⟩, norel_app H.norel hr, fun i a ha hm => ?_, fun i a ha hwr g' hg hS => ?_, fun i a ha hl hk' => ?_, ?_, hC⟩
  · by_cases hi : i < t.size
    · rcases H.known i a (touch_old ha hi) hm with q | ⟨q, g', q1, q2⟩ | ⟨r, q1, q2, q3⟩ | ⟨q1, q2, q3⟩
      · exact .inl (q.app u)
      · exact .inr (.inl ⟨q, g', by rw [g?_old hi]; exact q1, h6 g' q2⟩)
      · have := size_of_act q1
        exact .inr (.inr (.inl ⟨r, by rw [act?_old this]; exact q1, (heard_old this).2 q2, q3.app u⟩))
      · exact .inr (.inr (.inr ⟨q1, q2, fun z => q3 ((heard_old hi).1 z)⟩))
    · rcases hk i a (by omega) ha hm with q | q | q
      · exact .inl q
      · exact .inr (.inl q)
      · exact .inr (.inr (.inr q))
  · by_cases hi : i < t.size
    · exact (H.wrote i a (touch_old ha hi) hwr g' (h7 g' hg) hS).app u
    · obtain ⟨x, hx, hxa⟩ := touch_of ha
      rcases getElem?_append_cases hx with ⟨q, _⟩ | ⟨_, hxu⟩
      · omega
      · exact (hw x hxu a hxa hwr g' hg hS).elim
  · by_cases hi : i < t.size
    · have := H.plain i a (touch_old ha hi) hl hk'
      exact ⟨this.1.app u, fun q => (this.2 q).app u⟩
    · obtain ⟨x, hx, hxa⟩ := touch_of ha
      rcases getElem?_append_cases hx with ⟨q, _⟩ | ⟨_, hxu⟩
      · omega
      · obtain ⟨e, h2⟩ := hp x hxu a hxa hl hk'
        have := knows_own hx
        rw [hu x hxu, e] at this
        exact ⟨this, fun q => (h2 q).elim⟩
  · have := size_of_act H.shut.1
    exact ⟨by rw [act?_old this]; exact H.shut.1, (heard_old this).2 H.shut.2⟩
theorem touch_none_new (hn : ∀ op ∈ u, op.act.touch? = none) {i : Nat} {a : Touch} (hi : t.size ≤ i) (h : touchAt (t ++ u) i = some a) : False := by
  obtain ⟨x, hx, hxa⟩ := touch_of h
  rcases getElem?_append_cases hx with ⟨q, _⟩ | ⟨_, hxu⟩
  · omega
  · rw [hn x hxu] at hxa; cases hxa
/-- Nothing is touched. -/
theorem TrS.mute (H : TrS Sh St st sm qc mC ph t) (hu : ∀ op ∈ u, op.g = g) (hn : ∀ op ∈ u, op.act.touch? = none) (hr : ∀ op ∈ u, ∀ a, op.act ≠ .mark (.release a))
    (h6 : ∀ g', 6 ≤ ph g' → 6 ≤ ph' g') (h7 : ∀ g', ph' g' = 7 → ph g' = 7) (hC : ∀ g', 2 ≤ ph' g' → ph' g' ≤ 6 → Knows (t ++ u) g' mC) : TrS Sh St st sm qc mC ph' (t ++ u) :=
  H.app hu hr (fun i a _ op hop b hb _ => by rw [hn op hop] at hb; cases hb) (fun i a hi h => (touch_none_new hn hi h).elim) (fun op hop b hb => by rw [hn op hop] at hb; cases hb) (fun op hop b hb => by rw [hn op hop] at hb; cases hb) h6 h7 hC
/-- A worker on its way reads. -/
theorem TrS.read (H : TrS Sh St st sm qc mC ph t) (hg : ph g = 7) (hu : ∀ op ∈ u, op.g = g) (hr : ∀ op ∈ u, ∀ b, op.act.touch? = some b → b.write = false ∧ St g b.loc) (hrl : ∀ op ∈ u, ∀ a, op.act ≠ .mark (.release a))
    (hap : ∀ l, St g l → l ≠ .cell st ∧ l ≠ .cell sm) : TrS Sh St st sm qc mC ph (t ++ u) := by
  refine H.app hu hrl (fun i a ha op hop b hb hc => ?_) (fun i a hi ha hm => ?_) (fun op hop b hb hw => ?_) (fun op hop b hb hl => ?_) (fun _ q => q) (fun _ q => q) (fun g' q1 q2 => (H.seen g' q1 q2).app u)
  · obtain ⟨said, hc⟩ := hc
    obtain ⟨hb0, hbS⟩ := hr op hop b hb
    rcases hc.2.2.1 with x | x
    · exact H.wrote i a ha x g hg (hc.1 ▸ hbS)
    · rw [hb0] at x; cases x
  · obtain ⟨x, hx, hxa⟩ := touch_of ha
    rcases getElem?_append_cases hx with ⟨q, _⟩ | ⟨_, hxu⟩
    · omega
    · exact .inr (.inl ⟨(hr x hxu a hxa).1, g, by rw [g?_of hx, hu x hxu], by omega⟩)
  · rw [(hr op hop b hb).1] at hw; cases hw
  · have := hap _ (hr op hop b hb).2
    exact (hl.elim this.1 this.2).elim
/-- A worker finds the channel closed. -/
theorem TrS.wake (H : TrS Sh St st sm qc mC ph t) (hd : Deaf t g = 0) (fn : FuncId) (pos : String) (h6 : ∀ g', g' ≠ g → ph' g' = ph g') (hg : ph g = 7) (hg' : ph' g = 6) : TrS Sh St st sm qc mC ph' (t ++ #[{ g := g, fn := fn, pos := pos, act := .recvClosed qc }]) := by
  have e0 : (t ++ #[({ g := g, fn := fn, pos := pos, act := .recvClosed qc } : MemOp)])[t.size]? = some { g := g, fn := fn, pos := pos, act := .recvClosed qc } := by simp
  have hlt := size_of_act H.shut.1
  have edge : HappensBefore (t ++ #[({ g := g, fn := fn, pos := pos, act := .recvClosed qc } : MemOp)]) mC t.size :=
    Relation.TransGen.single (.inr ⟨.closed (by rw [act?_old hlt]; exact H.shut.1) (act?_of e0), (heard_old hlt).2 H.shut.2, ⟨g, g?_of e0, by rw [deaf_old (Nat.le_refl _)]; exact hd⟩⟩)
  refine H.mute (g := g) (by simp) (by intro op hop; obtain rfl : op = _ := (by simpa using hop); rfl) (by intro op hop a; obtain rfl : op = _ := (by simpa using hop); simp) (fun g' q => ?_) (fun g' q => ?_) (fun g' q1 q2 => ?_)
  · by_cases e : g' = g
    · subst e; omega
    · rw [h6 g' e]; exact q
  · by_cases e : g' = g
    · subst e; omega
    · rw [h6 g' e] at q; exact q
  · by_cases e : g' = g
    · subst e
      exact ⟨t.size, _, e0, rfl, .inr edge⟩
    · rw [h6 g' e] at q1 q2
      exact (H.seen g' q1 q2).app _
/-- A worker says what it did. -/
theorem TrS.relm (H : TrS Sh St st sm qc mC ph t) (hd : Deaf t g = 0) (fn : FuncId) (pos : String) (h6 : ∀ g', g' ≠ g → ph' g' = ph g') (hg : ph g = 6) (hg' : ph' g = 5) :
    TrS Sh St st sm qc mC ph' (t ++ #[{ g := g, fn := fn, pos := pos, act := .mark (.releaseMerge st) }]) := by
  generalize hu : (#[{ g := g, fn := fn, pos := pos, act := .mark (.releaseMerge st) }] : Trace) = u
  have hn : ∀ op ∈ u, op.act.touch? = none := by intro op hop; subst hu; obtain rfl : op = _ := (by simpa using hop); rfl
  have e0 : (t ++ u)[t.size]? = some { g := g, fn := fn, pos := pos, act := .mark (.releaseMerge st) } := by subst hu; simp
  have H1 : TrS Sh St st sm qc mC ph (t ++ u) := H.mute (g := g) (by subst hu; simp) hn (by subst hu; intro op hop a; obtain rfl : op = _ := (by simpa using hop); simp) (fun _ q => q) (fun _ q => q) (fun g' q1 q2 => (H.seen g' q1 q2).app u)
  refine ⟨H1.clean, H1.norel, fun i a ha hm => ?_, fun i a ha hw g' hg2 hS => ?_, H1.plain, H1.shut, fun g' q1 q2 => ?_⟩
  · rcases H1.known i a ha hm with q | ⟨q, g', q1, q2⟩ | q | q
    · exact .inl q
    · by_cases e : g' = g
      · subst e
        have hi : i < t.size := Classical.byContradiction fun hi => touch_none_new hn (by omega) ha
        refine .inr (.inr (.inl ⟨t.size, act?_of e0, ⟨g', g?_of e0, by rw [deaf_old (Nat.le_refl _)]; exact hd⟩, .inr ?_⟩))
        obtain ⟨x, hx, hxa⟩ := touch_of ha
        have hxg : x.g = g' := by have := g?_of hx; rw [q1] at this; exact (Option.some.inj this).symm
        exact hb_po hi hx e0 hxg
      · exact .inr (.inl ⟨q, g', q1, by rw [h6 g' e]; exact q2⟩)
    · exact .inr (.inr (.inl q))
    · exact .inr (.inr (.inr q))
  · refine H1.wrote i a ha hw g' ?_ hS
    by_cases e : g' = g
    · subst e; omega
    · rw [h6 g' e] at hg2; exact hg2
  · by_cases e : g' = g
    · subst e
      exact (H1.seen g' (by omega) (by omega))
    · rw [h6 g' e] at q1 q2
      exact H1.seen g' q1 q2
end
end Go.Proofs.Ytfpkachoneaaeaa
namespace Go.Proofs.Ytfpkachoneaaeaa
open Go Go.Conc
/-- The group's bookkeeping: an atomic access of its two cells, or a word that touches nothing. -/
def BkS (st sm : Addr) (e : Event) : Prop := (e = ⟨.mark .disable, false, true⟩ ∨ e = ⟨.mark .enable, false, true⟩) ∨ ∃ a wr, e = ⟨.cell a, wr, true⟩ ∧ (a = st ∨ a = sm)
section
variable {Sh : Loc → Prop} {St St' : Nat → Loc → Prop} {Mem Lo : Nat → Prop} {st sm : Addr} {qc mC : Nat} {ph ph' : Nat → Nat} {t u : Trace} {g : Nat} {fn : FuncId} {pos : String} {es : Array Event}
theorem BkS.touch {e : Event} (h : BkS st sm e) {x : Touch} (hx : (MemAct.ofEvent e).touch? = some x) : (x.loc = .cell st ∨ x.loc = .cell sm) ∧ x.kind = .atomic := by
  rcases h with (rfl | rfl) | ⟨a, wr, rfl, ha⟩
  · cases hx
  · cases hx
  · rw [ofEvent_cell0] at hx
    simp only [MemAct.touch?, Option.some.injEq] at hx
    subst hx
    exact ⟨ha.imp (fun e => by rw [e]) (fun e => by rw [e]), rfl⟩
theorem BkS.norel {e : Event} (h : BkS st sm e) (a : Addr) : MemAct.ofEvent e ≠ .mark (.release a) := by
  rcases h with (rfl | rfl) | ⟨a, wr, rfl, ha⟩
  · intro q; cases q
  · intro q; cases q
  · intro q; rw [ofEvent_cell0] at q; cases q
theorem ofEvents_g : ∀ op ∈ MemOp.ofEvents g fn pos es, op.g = g := fun op hop => by obtain ⟨e, _, rfl⟩ := Go.Conc.mem_ofEvents hop; rfl
/-- A worker's, deaf. -/
theorem TrS.book (H : TrS Sh St st sm qc mC ph t) (hes : ∀ e ∈ es, BkS st sm e) (hd : ∀ j e, es[j]? = some e → (MemAct.ofEvent e).touch? = none ∨ 0 < deafBehind (Deaf t g) (es.extract 0 j))
    (hg : 2 ≤ ph g ∧ ph g ≤ 5) (h6 : ∀ g', g' ≠ g → ph' g' = ph g') (hg' : ph' g ≤ 5) (hap : ∀ g l, St g l → l ≠ .cell st ∧ l ≠ .cell sm) : TrS Sh St st sm qc mC ph' (t ++ MemOp.ofEvents g fn pos es) := by
  refine H.app ofEvents_g (fun op hop a => ?_) (fun i a ha op hop b hb hc => ?_) (fun i a hi ha hm => ?_) (fun op hop b hb hw g' _ hS => ?_) (fun op hop b hb hl hk => ?_) (fun g' q => ?_) (fun g' q => ?_) (fun g' q1 q2 => ?_)
  · obtain ⟨e, he, rfl⟩ := Go.Conc.mem_ofEvents hop
    exact (hes e he).norel a
  · obtain ⟨e, he, rfl⟩ := Go.Conc.mem_ofEvents hop
    obtain ⟨h1, h2⟩ := (hes e he).touch hb
    obtain ⟨said, hc⟩ := hc
    have hpl : a.kind = .plain := by
      rcases hc.2.2.2 with x | x | x
      · exact x
      · rw [h2] at x; cases x
      · rw [h2] at x; cases x.2.2
    exact Knows.of_before ((H.plain i a ha (by rw [hc.1]; exact h1) (by rw [hpl]; simp)).2 hpl) (H.seen g hg.1 (by omega))
  · obtain ⟨x, hx, hxa⟩ := touch_of ha
    rcases getElem?_append_cases hx with ⟨q, _⟩ | ⟨_, hxu⟩
    · omega
    · obtain ⟨e0, he0, rfl⟩ := Go.Conc.mem_ofEvents hxu
      obtain ⟨h1, h2⟩ := (hes e0 he0).touch hxa
      refine .inr (.inr ⟨.inr h1, h2, fun hh => ?_⟩)
      have hxi : (MemOp.ofEvents g fn pos es)[i - t.size]? = some { g := g, fn := fn, pos := pos, act := .ofEvent e0 } := by
        rw [Array.getElem?_append_right hi] at hx
        exact hx
      rw [ofEvents_eq, Array.getElem?_map] at hxi
      obtain ⟨e1, he1, hq⟩ := Option.map_eq_some_iff.1 hxi
      simp only [MemOp.mk.injEq, true_and] at hq
      have hjs : i - t.size ≤ es.size := by
        rcases Nat.lt_or_ge (i - t.size) es.size with h' | h'
        · omega
        · rw [Array.getElem?_eq_none h'] at he1; cases he1
      rcases hd _ e1 he1 with h0 | h0
      · rw [hq, hxa] at h0; cases h0
      · obtain ⟨g', hg1, hg2⟩ := hh
        have : g' = g := by rw [g?_of hx] at hg1; exact (Option.some.inj hg1).symm
        subst this
        have h3 := deaf_inside t g' fn pos es (i - t.size) hjs
        rw [show t.size + (i - t.size) = i by omega, hg2] at h3
        omega
  · obtain ⟨e, he, rfl⟩ := Go.Conc.mem_ofEvents hop
    obtain ⟨h1, _⟩ := (hes e he).touch hb
    have := hap g' _ hS
    exact h1.elim this.1 this.2
  · obtain ⟨e, he, rfl⟩ := Go.Conc.mem_ofEvents hop
    exact (hk ((hes e he).touch hb).2).elim
  · by_cases e : g' = g
    · subst e; omega
    · rw [h6 g' e]; exact q
  · by_cases e : g' = g
    · subst e; omega
    · rw [h6 g' e] at q; exact q
  · by_cases e : g' = g
    · subst e; exact (H.seen g' hg.1 (by omega)).app _
    · rw [h6 g' e] at q1 q2; exact (H.seen g' q1 q2).app _
/-- Goroutine 0's. -/
theorem TrS.main (H : TrS Sh St st sm qc mC ph t) (hes : ∀ e ∈ es, BkS st sm e ∨ e = ⟨.mark (.write sm), false, true⟩) (hap : ∀ g l, St g l → l ≠ .cell st ∧ l ≠ .cell sm) : TrS Sh St st sm qc mC ph (t ++ MemOp.ofEvents 0 fn pos es) := by
  have key : ∀ e ∈ es, ∀ x, (MemAct.ofEvent e).touch? = some x → (x.loc = .cell st ∨ x.loc = .cell sm) ∧ x.kind ≠ .plain := fun e he x hx => by
    rcases hes e he with h | rfl
    · exact ⟨(h.touch hx).1, by rw [(h.touch hx).2]; simp⟩
    · simp only [MemAct.ofEvent, MemAct.touch?, Option.some.injEq] at hx
      subst hx
      exact ⟨.inr rfl, by simp⟩
  refine H.app ofEvents_g (fun op hop a => ?_) (fun i a ha op hop b hb hc => ?_) (fun i a hi ha hm => ?_) (fun op hop b hb hw g' _ hS => ?_) (fun op hop b hb hl hk => ?_) (fun g' q => q) (fun g' q => q) (fun g' q1 q2 => (H.seen g' q1 q2).app _)
  · obtain ⟨e, he, rfl⟩ := Go.Conc.mem_ofEvents hop
    rcases hes e he with h | rfl
    · exact h.norel a
    · intro q; cases q
  · obtain ⟨e, he, rfl⟩ := Go.Conc.mem_ofEvents hop
    obtain ⟨h1, h2⟩ := key e he b hb
    obtain ⟨said, hc⟩ := hc
    refine (H.plain i a ha (by rw [hc.1]; exact h1) (fun hk => ?_)).1
    rcases hc.2.2.2 with x | x | x
    · rw [hk] at x; cases x
    · exact h2 x
    · rw [hk] at x; cases x.2.1
  · obtain ⟨x, hx, hxa⟩ := touch_of ha
    rcases getElem?_append_cases hx with ⟨q, _⟩ | ⟨_, hxu⟩
    · omega
    · have := knows_own hx
      rw [ofEvents_g x hxu] at this
      exact .inl this
  · obtain ⟨e, he, rfl⟩ := Go.Conc.mem_ofEvents hop
    obtain ⟨h1, _⟩ := key e he b hb
    have := hap g' _ hS
    exact h1.elim this.1 this.2
  · obtain ⟨e, he, rfl⟩ := Go.Conc.mem_ofEvents hop
    exact ⟨rfl, (key e he b hb).2⟩
/-- Goroutine 0 closes the channel. -/
theorem TrS.start (H : Tr Sh St Mem Lo (Knows t 0) t) (hd : Deaf t 0 = 0) (hSt : ∀ g l, St g l → ∃ a, l = .cell a) (hShc : ∀ l, Sh l → ∃ a, l = .cell a) (hL : ∀ g, Lo g → ph g = 7) (hM : ∀ g, ph g = 7 → Mem g) (h26 : ∀ g, ¬ (2 ≤ ph g ∧ ph g ≤ 6))
    (hap : ∀ g l, St g l → l ≠ .cell st ∧ l ≠ .cell sm) (hns : ¬ Sh (.cell st) ∧ ¬ Sh (.cell sm)) : TrS Sh St st sm qc (t.size + 1) ph (t ++ MemOp.ofEvents 0 fn pos (closeEvents qc)) := by
  have hu : MemOp.ofEvents 0 fn pos (closeEvents qc) = #[{ g := 0, fn := fn, pos := pos, act := .access ⟨.obj qc, false, true⟩ }, { g := 0, fn := fn, pos := pos, act := .close qc }] := by
    rw [ofEvents_eq]; simp [closeEvents, MemAct.ofEvent]
  have hmem : ∀ op ∈ MemOp.ofEvents 0 fn pos (closeEvents qc), ∀ b, op.act.touch? = some b → b.loc = .obj qc ∧ b.kind = .atomic ∧ b.write = false := by
    intro op hop b hb
    rw [hu] at hop
    simp only [List.mem_toArray, List.mem_cons, List.not_mem_nil, or_false] at hop
    rcases hop with rfl | rfl
    · simp only [MemAct.touch?, Option.some.injEq] at hb
      subst hb
      exact ⟨rfl, rfl, rfl⟩
    · cases hb
  have H1 := H.appH (u := MemOp.ofEvents 0 fn pos (closeEvents qc)) ofEvents_g (fun op hop b hb hw => by rw [(hmem op hop b hb).2.2] at hw; cases hw) (fun op hop b hb _ => by rw [(hmem op hop b hb).2.1]; simp) (by
    intro op hop a
    rw [hu] at hop
    simp only [List.mem_toArray, List.mem_cons, List.not_mem_nil, or_false] at hop
    rcases hop with rfl | rfl <;> simp)
  have e1 : (t ++ MemOp.ofEvents 0 fn pos (closeEvents qc))[t.size + 1]? = some { g := 0, fn := fn, pos := pos, act := .close qc } := by
    rw [hu, Array.getElem?_append_right (by omega)]; simp
  have hdis : ∀ op ∈ MemOp.ofEvents 0 fn pos (closeEvents qc), ∀ d, deafStep 0 d op = d := by
    intro op hop d
    rw [hu] at hop
    simp only [List.mem_toArray, List.mem_cons, List.not_mem_nil, or_false] at hop
    rcases hop with rfl | rfl <;> rfl
  refine ⟨H1.clean, H1.norel, fun i a ha hm => ?_, fun i a ha hw g hg hS => H1.wrote i a ha hw g (hM g hg) hS, fun i a ha hl hk => ?_, ⟨act?_of e1, 0, g?_of e1, by rw [deaf_quiet hdis 1 (by rw [hu]; simp)]; exact hd⟩, fun g q1 q2 => (h26 g ⟨q1, q2⟩).elim⟩
  · rcases H1.known i a ha hm with q | ⟨q, g, q1, q2, q3⟩ | ⟨q1, q2, q3⟩
    · exact .inl q
    · exact .inr (.inl ⟨q, g, q1, by have := hL g q3; omega⟩)
    · exact .inr (.inr (.inr ⟨.inl q1, q2, q3⟩))
  · have hmm : a.loc.isMemory = true := by rcases hl with e | e <;> rw [e] <;> rfl
    by_cases hi : i < t.size
    · have hkn : Knows t 0 i := by
        rcases H.known i a (touch_old ha hi) hmm with q | ⟨_, g, _, q2, _⟩ | ⟨q1, _⟩
        · exact q
        · have := hap g _ q2; exact (hl.elim this.1 this.2).elim
        · rcases hl with e | e <;> rw [e] at q1
          · exact (hns.1 q1).elim
          · exact (hns.2 q1).elim
      exact ⟨hkn.app _, fun _ => .inr (hkn.hb_new (by omega) e1 rfl)⟩
    · obtain ⟨x, hx, hxa⟩ := touch_of ha
      rcases getElem?_append_cases hx with ⟨q, _⟩ | ⟨_, hxu⟩
      · omega
      · rw [(hmem x hxu a hxa).1] at hl
        rcases hl with e | e <;> cases e
/-- Goroutine 0 hears that all have said Done. -/
theorem TrS.done (H : TrS Sh St st sm qc mC ph t) (hd : Deaf t 0 = 0) (hall : ∀ g, ph g ≤ 1) : Tr (fun l => Sh l ∨ l = .cell st ∨ l = .cell sm) St' (fun _ => False) (fun _ => False) (Knows (t ++ #[{ g := 0, fn := fn, pos := pos, act := .mark (.acquire st) }]) 0) (t ++ #[{ g := 0, fn := fn, pos := pos, act := .mark (.acquire st) }]) := by
  generalize hu : (#[{ g := 0, fn := fn, pos := pos, act := .mark (.acquire st) }] : Trace) = u
  have hn : ∀ op ∈ u, op.act.touch? = none := by intro op hop; subst hu; obtain rfl : op = _ := (by simpa using hop); rfl
  have e0 : (t ++ u)[t.size]? = some { g := 0, fn := fn, pos := pos, act := .mark (.acquire st) } := by subst hu; simp
  have hnr : ∀ i a, (t ++ u).act? i ≠ some (.mark (.release a)) := norel_app H.norel (by subst hu; intro op hop a; obtain rfl : op = _ := (by simpa using hop); simp)
  refine ⟨fun said => noRace_appendMute (H.clean said) hn, fun i a ha hm => ?_, fun i a _ _ g hg => hg.elim, hnr⟩
  have hi : i < t.size := Classical.byContradiction fun hi => touch_none_new hn (by omega) ha
  rcases H.known i a (touch_old ha hi) hm with q | ⟨_, g, _, q2⟩ | ⟨r, q1, q2, q3⟩ | ⟨q1, q2, q3⟩
  · exact .inl (q.app u)
  · have := hall g; omega
  · have hr := size_of_act q1
    have edge : HappensBefore (t ++ u) r t.size := Relation.TransGen.single (.inr ⟨.marked hr (.inr (by rw [act?_old hr]; exact q1)) (act?_of e0) (fun k _ _ => hnr k st), (heard_old hr).2 q2, ⟨0, g?_of e0, by rw [deaf_old (Nat.le_refl _)]; exact hd⟩⟩)
    exact .inl ⟨t.size, _, e0, rfl, .inr ((q3.app u).hb edge)⟩
  · exact .inr (.inr ⟨q1, q2, fun z => q3 ((heard_old hi).1 z)⟩)
end
end Go.Proofs.Ytfpkachoneaaeaa
namespace Go.Proofs.Ytfpkachoneaaeaa
open Go Go.Conc
open Go.ConcN (sumTo upd sumTo_upd upd_ne upd_same le_sumTo sumTo_congr sumTo_le)
abbrev K32 : Int := 4294967296
/-- The group's two cells are there. -/
def KS (st sm : Addr) : World → Prop := fun w => (w.cell? st).isSome = true ∧ (w.cell? sm).isSome = true
section
variable (P : Program) (st sm : Addr) (Fin : Goroutine → Prop)
/-! ## A worker -/
def AtSem (k : Nat) (g : Goroutine) : Prop := g.status = .running ∧ mayWake P g = true ∧ 1 ≤ k ∧ ∃ g', Qt P false KT Ended k g' ∧
  ∀ (w : World) (s : Int), w.cell? sm = some (.int .u32 s) → w.frozen? sm = false → stepG P false g w = .go g' (w.setCell sm (.int .u32 (IntKind.u32.wrap (s + 1)))) (semEvents sm)
def AtStore (k : Nat) (g : Goroutine) : Prop := g.status = .running ∧ 1 ≤ k ∧ ∃ g', Qt P false (KS st sm) (AtSem P sm) k g' ∧
  ∀ (w : World) (u : Value), w.cell? st = some u → w.frozen? st = false → stepG P false g w = .go g' (w.setCell st (.int .u64 0)) #[⟨.cell st, true, true⟩]
def AtLoad (k : Nat) (g : Goroutine) : Prop := g.status = .running ∧ 1 ≤ k ∧ ∃ g', Qt P false (KS st sm) (AtStore P st sm) k g' ∧
  ∀ w : World, w.cell? st = some (.int .u64 1) → stepG P false g w = .go g' w #[⟨.cell st, false, true⟩]
def AtAdd (k : Nat) (g : Goroutine) : Prop := g.status = .running ∧ 1 ≤ k ∧ ∀ v wt : Nat, v < 2147483647 → wt ≤ 1 → ∃ g', (if v = 0 ∧ wt = 1 then Qt P false (KS st sm) (AtLoad P st sm) k g' else Qt P false KT Ended k g') ∧
  ∀ w : World, w.cell? st = some (.int .u64 (((v + 1 : Nat) : Int) * K32 + (wt : Int))) → w.frozen? st = false → stepG P false g w = .go g' (w.setCell st (.int .u64 ((v : Int) * K32 + (wt : Int)))) #[⟨.cell st, false, true⟩, ⟨.cell st, true, true⟩]
def AtRelm (k : Nat) (g : Goroutine) : Prop := g.status = .running ∧ k = 0 ∧ ∃ g', Qt P false (KS st sm) (AtAdd P st sm) 0 g' ∧ ∀ w : World, stepG P false g w = .go g' w #[⟨.mark (.releaseMerge st), false, true⟩]
/-! ## Goroutine 0 -/
def AtAcq (k : Nat) (g : Goroutine) : Prop := g.status = .running ∧ k = 0 ∧ ∃ g', Fin g' ∧ ∀ w : World, stepG P true g w = .go g' w #[⟨.mark (.acquire st), false, true⟩]
def AtLd2 (k : Nat) (g : Goroutine) : Prop := g.status = .running ∧ ∃ g', Qt P true (KS st sm) (AtAcq P st Fin) k g' ∧ ∀ w : World, w.cell? st = some (.int .u64 0) → stepG P true g w = .go g' w #[⟨.cell st, false, true⟩]
def AtSa (k : Nat) (g : Goroutine) : Prop := g.status = .running ∧ g.offers = none ∧ ∃ g', Qt P true (KS st sm) (AtLd2 P st sm Fin) k g' ∧
  (∀ w : World, w.cell? sm = some (.int .u32 1) → w.frozen? sm = false → stepG P true g w = .go g' (w.setCell sm (.int .u32 0)) (semEvents sm)) ∧
  (∀ w : World, w.cell? sm = some (.int .u32 0) → stepG P true g w = .go { g with status := .blocked } w #[])
def AtMk (k : Nat) (g : Goroutine) : Prop := g.status = .running ∧ ∃ g', Qt P true (KS st sm) (AtSa P st sm Fin) k g' ∧ ∀ w : World, stepG P true g w = .go g' w #[⟨.mark (.write sm), false, true⟩]
def AtCas (Ld : Nat → Goroutine → Prop) (v k : Nat) (g : Goroutine) : Prop := g.status = .running ∧
  (∃ g', Qt P true (KS st sm) (AtMk P st sm Fin) k g' ∧ ∀ w : World, w.cell? st = some (.int .u64 ((v : Int) * K32)) → w.frozen? st = false → stepG P true g w = .go g' (w.setCell st (.int .u64 ((v : Int) * K32 + 1))) #[⟨.cell st, false, true⟩, ⟨.cell st, true, true⟩]) ∧
  (∃ g', Qt P true (KS st sm) Ld k g' ∧ ∀ (w : World) (u : Nat), u < v → w.cell? st = some (.int .u64 ((u : Int) * K32)) → w.frozen? st = false → stepG P true g w = .go g' w #[⟨.cell st, false, true⟩])
def AtLd : Nat → Nat → Goroutine → Prop
  | 0 => fun k g => g.status = .running ∧ ∃ g', Qt P true (KS st sm) (AtAcq P st Fin) k g' ∧ ∀ w : World, w.cell? st = some (.int .u64 0) → stepG P true g w = .go g' w #[⟨.cell st, false, true⟩]
  | m + 1 => fun k g => (g.status = .running ∧ ∃ g', Qt P true (KS st sm) (AtAcq P st Fin) k g' ∧ ∀ w : World, w.cell? st = some (.int .u64 0) → stepG P true g w = .go g' w #[⟨.cell st, false, true⟩]) ∧
    ∀ v : Nat, 1 ≤ v → v ≤ m + 1 → ∃ g', Qt P true (KS st sm) (AtCas P st sm Fin (AtLd m) v) k g' ∧ ∀ w : World, w.cell? st = some (.int .u64 ((v : Int) * K32)) → stepG P true g w = .go g' w #[⟨.cell st, false, true⟩]
theorem AtLd.zero {m k : Nat} {g : Goroutine} (h : AtLd P st sm Fin m k g) : g.status = .running ∧ ∃ g', Qt P true (KS st sm) (AtAcq P st Fin) k g' ∧ ∀ w : World, w.cell? st = some (.int .u64 0) → stepG P true g w = .go g' w #[⟨.cell st, false, true⟩] := by
  cases m with
  | zero => exact h
  | succ m => exact h.1
inductive Tag where
  | ld (m : Nat) | cas (m v : Nat) | mk | sa | ld2 | acq
def Tag.stop : Tag → Nat → Goroutine → Prop
  | .ld m => AtLd P st sm Fin m
  | .cas m v => AtCas P st sm Fin (AtLd P st sm Fin m) v
  | .mk => AtMk P st sm Fin
  | .sa => AtSa P st sm Fin
  | .ld2 => AtLd2 P st sm Fin
  | .acq => AtAcq P st Fin
def Tag.rank (v : Nat) : Tag → Nat
  | .ld _ => 8 * v + 7
  | .cas _ vs => 8 * vs + 6
  | .mk => 7
  | .sa => 5
  | .ld2 => 3
  | .acq => 2
theorem Tag.running {t : Tag} {k : Nat} {g : Goroutine} (h : t.stop P st sm Fin k g) : g.status = .running := by
  cases t with
  | ld m => exact (AtLd.zero P st sm Fin h).1
  | cas m v => exact h.1
  | mk => exact h.1
  | sa => exact h.1
  | ld2 => exact h.1
  | acq => exact h.1
/-- Goroutine 0's situation. -/
def MSit (t : Tag) (f k : Nat) (a : Goroutine) : Prop := (∃ n, f = n + 1 ∧ Qs P true (KS st sm) (t.stop P st sm Fin) n k a) ∨ (t = .sa ∧ f = 0 ∧ ∃ a₀, a = { a₀ with status := .blocked } ∧ AtSa P st sm Fin k a₀)
/-- A worker's. -/
def WSit (Inb : Nat → Option Chair) (i ph f k : Nat) (g : Goroutine) : Prop :=
  (ph = 7 ∧ k = 0 ∧ ∃ ch, Inb i = some ch ∧ ∃ n w, f = n + 1 ∧ Goes P false (RK ch.K) (DS ch.St ch.B) (fun g _ => ∃ g₂, AtIn P false ch.K ch.St ch.B ch.seat g g₂) n g w) ∨
  (ph = 6 ∧ ∃ n, f = n + 1 ∧ Qs P false (KS st sm) (AtRelm P st sm) n k g) ∨ (ph = 5 ∧ ∃ n, f = n + 1 ∧ Qs P false (KS st sm) (AtAdd P st sm) n k g) ∨ (ph = 4 ∧ ∃ n, f = n + 1 ∧ Qs P false (KS st sm) (AtLoad P st sm) n k g) ∨
  (ph = 3 ∧ ∃ n, f = n + 1 ∧ Qs P false (KS st sm) (AtStore P st sm) n k g) ∨ (ph = 2 ∧ ∃ n, f = n + 1 ∧ Qs P false (KS st sm) (AtSem P sm) n k g) ∨ (ph = 1 ∧ QuitsD P f k g)
end
/-- How many have not said Done. -/
def cntS (ph : Nat) : Nat := if 5 ≤ ph then 1 else 0
def VcS (n : Nat) (ph : Nat → Nat) : Nat := sumTo n fun i => cntS (ph i)
def OpenS (n : Nat) (ph : Nat → Nat) : Prop := ∀ i, 0 < i → i < n → ph i = 7 ∨ ph i = 6 ∨ ph i = 5 ∨ ph i = 1
def AllS (n : Nat) (ph : Nat → Nat) : Prop := ∀ i, 0 < i → i < n → ph i = 1
def Tag.opn (v : Nat) : Tag → Prop
  | .ld m => v ≤ m
  | .cas m vs => v ≤ vs ∧ 1 ≤ vs ∧ vs ≤ m + 1
  | _ => False
def Tag.reg : Tag → Prop
  | .mk | .sa => True
  | _ => False
def Tag.fin : Tag → Prop
  | .ld2 | .acq => True
  | _ => False
/-- What the two cells hold. -/
inductive ModeS (n : Nat) (ph : Nat → Nat) (t : Tag) : Int → Int → Prop
  | opn : t.opn (VcS n ph) → OpenS n ph → ModeS n ph t ((VcS n ph : Int) * K32) 0
  | reg : t.reg → OpenS n ph → 1 ≤ VcS n ph → ModeS n ph t ((VcS n ph : Int) * K32 + 1) 0
  | last (L : Nat) : t.reg → 0 < L → L < n → (ph L = 4 ∨ ph L = 3 ∨ ph L = 2) → (∀ i, 0 < i → i < n → i ≠ L → ph i = 1) → ModeS n ph t (if ph L = 2 then 0 else 1) 0
  | sema : t.reg → AllS n ph → ModeS n ph t 0 1
  | fin : t.fin → AllS n ph → ModeS n ph t 0 0
section
variable {n i : Nat} {ph : Nat → Nat} {t : Tag} {x y : Int}
theorem VcS_le (n : Nat) (ph : Nat → Nat) : VcS n ph ≤ n := by
  have := sumTo_le (f := fun i => cntS (ph i)) (c := 1) (j := n) fun i _ => by simp only [cntS]; split <;> omega
  simpa [VcS] using this
theorem VcS_upd (ph : Nat → Nat) (p : Nat) (hi : i < n) : VcS n (upd ph i p) + cntS (ph i) = VcS n ph + cntS p := sumTo_upd ph p cntS hi
theorem VcS_all (h0 : ph 0 = 0) (h : AllS n ph) : VcS n ph = 0 := by
  have : ∀ j, j ≤ n → sumTo j (fun i => cntS (ph i)) = 0 := by
    intro j
    induction j with
    | zero => exact fun _ => rfl
    | succ j ih =>
      intro hj
      rw [sumTo, ih (by omega)]
      by_cases e : j = 0
      · subst e; simp [cntS, h0]
      · simp [cntS, h j (by omega) (by omega)]
  exact this n (Nat.le_refl _)
theorem AllS.of_open (h : OpenS n ph) (hv : VcS n ph = 0) : AllS n ph := fun i h0 hi => by
  have := le_sumTo (f := fun i => cntS (ph i)) hi
  simp only [VcS] at hv
  have c0 : cntS (ph i) = 0 := by omega
  have := h i h0 hi
  simp only [cntS] at c0
  split at c0 <;> omega
/-- A worker that is still counted goes on, and is still counted. -/
theorem ModeS.counted (hm : ModeS n ph t x y) (h0 : 0 < i) (hi : i < n) (h5 : 5 ≤ ph i) {p : Nat} (hp : p = 6 ∨ p = 5) : ModeS n (upd ph i p) t x y := by
  have hv : VcS n (upd ph i p) = VcS n ph := by
    have := VcS_upd ph p hi
    have c1 : cntS (ph i) = 1 := by simp [cntS, h5]
    have c2 : cntS p = 1 := by rcases hp with rfl | rfl <;> simp [cntS]
    omega
  have ho : OpenS n ph → OpenS n (upd ph i p) := fun h a h1 ha => by
    by_cases e : a = i
    · subst e; rw [upd_same]; rcases hp with rfl | rfl <;> simp
    · rw [upd_ne ph _ e]; exact h a h1 ha
  cases hm with
  | opn h1 h2 => rw [← hv]; exact .opn (by rw [hv]; exact h1) (ho h2)
  | reg h1 h2 h3 => rw [← hv]; exact .reg h1 (ho h2) (by rw [hv]; exact h3)
  | last L h1 h2 h3 h4 h5' =>
    by_cases e : i = L
    · subst e; omega
    · have := h5' i h0 hi e; omega
  | sema h1 h2 => have := h2 i h0 hi; omega
  | fin h1 h2 => have := h2 i h0 hi; omega
/-- What a worker that is counted meets at its Add. -/
theorem ModeS.atAdd (hm : ModeS n ph t x y) (hp0 : ph 0 = 0) (h0 : 0 < i) (hi : i < n) (h5 : ph i = 5) : ∃ v wt : Nat, VcS n ph = v + 1 ∧ wt ≤ 1 ∧ x = ((v + 1 : Nat) : Int) * K32 + (wt : Int) ∧ y = 0 ∧
    ∀ p, (p = if v = 0 ∧ wt = 1 then 4 else 1) → ModeS n (upd ph i p) t ((v : Int) * K32 + (wt : Int)) 0 := by
  have c1 : cntS (ph i) = 1 := by simp [cntS, h5]
  have hge : 1 ≤ VcS n ph := by
    have := le_sumTo (f := fun i => cntS (ph i)) hi
    simp only [VcS]; omega
  obtain ⟨v, hv⟩ : ∃ v, VcS n ph = v + 1 := ⟨VcS n ph - 1, by omega⟩
  have hv' : ∀ p, p ≤ 4 → VcS n (upd ph i p) = v := fun p hp => by
    have := VcS_upd ph p hi
    have c2 : cntS p = 0 := by simp only [cntS]; split <;> omega
    omega
  have ho : OpenS n ph → OpenS n (upd ph i 1) := fun h a h1 ha => by
    by_cases e : a = i
    · subst e; rw [upd_same]; simp
    · rw [upd_ne ph _ e]; exact h a h1 ha
  cases hm with
  | opn h1 h2 =>
    refine ⟨v, 0, hv, by omega, by rw [hv]; simp, rfl, fun p hp => ?_⟩
    rw [if_neg (by omega)] at hp
    subst hp
    have e := hv' 1 (by omega)
    have hm : ModeS n (upd ph i 1) t ((VcS n (upd ph i 1) : Int) * K32) 0 := .opn (by
      rw [e]
      rw [hv] at h1
      cases t <;> simp only [Tag.opn] at h1 ⊢ <;> omega) (ho h2)
    rw [e] at hm
    simpa using hm
  | reg h1 h2 h3 =>
    refine ⟨v, 1, hv, by omega, by rw [hv]; rfl, rfl, fun p hp => ?_⟩
    by_cases e0 : v = 0
    · subst e0
      simp at hp
      subst hp
      have hm : ModeS n (upd ph i 4) t (if (upd ph i 4) i = 2 then 0 else 1) 0 := .last i h1 h0 hi (by rw [upd_same]; simp) (fun a ha1 ha e => by
        rw [upd_ne ph _ e]
        have h1' := hv' 4 (by omega)
        have h2' := le_sumTo (f := fun j => cntS (upd ph i 4 j)) ha
        simp only [upd_ne ph _ e] at h2'
        simp only [VcS] at h1'
        have := h2 a ha1 ha
        have c0 : cntS (ph a) = 0 := by omega
        simp only [cntS] at c0
        split at c0 <;> omega)
      rw [upd_same] at hm
      simpa using hm
    · rw [if_neg (by omega)] at hp
      subst hp
      have e := hv' 1 (by omega)
      have hm : ModeS n (upd ph i 1) t ((VcS n (upd ph i 1) : Int) * K32 + 1) 0 := .reg h1 (ho h2) (by omega)
      rw [e] at hm
      exact hm
  | last L h1 h2 h3 h4 h5' =>
    by_cases e : i = L
    · subst e; omega
    · have := h5' i h0 hi e; omega
  | sema h1 h2 => have := h2 i h0 hi; omega
  | fin h1 h2 => have := h2 i h0 hi; omega
/-- Whoever is past its Add, but not gone, is the last one. -/
theorem ModeS.isLast (hm : ModeS n ph t x y) (h0 : 0 < i) (hi : i < n) (h : ph i = 4 ∨ ph i = 3 ∨ ph i = 2) : t.reg ∧ (∀ a, 0 < a → a < n → a ≠ i → ph a = 1) ∧ x = (if ph i = 2 then 0 else 1) ∧ y = 0 := by
  cases hm with
  | opn _ h2 => have := h2 i h0 hi; omega
  | reg _ h2 _ => have := h2 i h0 hi; omega
  | last L h1 h2 h3 h4 h5 =>
    by_cases e : i = L
    · subst e; exact ⟨h1, h5, rfl, rfl⟩
    · have := h5 i h0 hi e; omega
  | sema _ h2 => have := h2 i h0 hi; omega
  | fin _ h2 => have := h2 i h0 hi; omega
theorem ModeS.next (h1 : t.reg) (h : ∀ a, 0 < a → a < n → a ≠ i → ph a = 1) (h0 : 0 < i) (hi : i < n) {p : Nat} (hp : p = 4 ∨ p = 3 ∨ p = 2) : ModeS n (upd ph i p) t (if p = 2 then 0 else 1) 0 := by
  have hm : ModeS n (upd ph i p) t (if (upd ph i p) i = 2 then 0 else 1) 0 := .last i h1 h0 hi (by rw [upd_same]; exact hp) (fun a ha1 ha e => by rw [upd_ne ph _ e]; exact h a ha1 ha e)
  rw [upd_same] at hm
  exact hm
theorem ModeS.gone (h1 : t.reg) (h : ∀ a, 0 < a → a < n → a ≠ i → ph a = 1) : ModeS n (upd ph i 1) t 0 1 := .sema h1 fun a ha1 ha => by
  by_cases e : a = i
  · subst e; rw [upd_same]
  · rw [upd_ne ph _ e]; exact h a ha1 ha e
end
end Go.Proofs.Ytfpkachoneaaeaa
namespace Go.Proofs.Ytfpkachoneaaeaa
open Go Go.Conc
open Go.ConcN (sumTo upd sumTo_upd upd_ne upd_same le_sumTo sumTo_congr sumTo_le)
structure CtxS (P : Program) (Sh : Loc → Prop) (Inb : Nat → Option Chair) (st sm : Addr) (qc n : Nat) (w0 : World) : Prop where
  ne : st ≠ sm
  spot : st.spot = none ∧ sm.spot = none
  cst : (w0.cell? st).isSome = true
  csm : (w0.cell? sm).isSome = true
  zst : w0.frozen? st = false
  zsm : w0.frozen? sm = false
  place : ∀ g l, StOf Inb g l → l ≠ .cell st ∧ l ≠ .cell sm
  keep : ∀ i ch, Inb i = some ch → ch.K w0
  wf : ∀ i ch, Inb i = some ch → ch.seat.Wf
  chan : ∀ i ch c, Inb i = some ch → ch.seat.has c → c = qc ∨ ∃ cap k, w0.heap[c]? = some (.chan cap #[] false k k false)
  quit : ∃ cap k, w0.heap[qc]? = some (.chan cap #[] true k k false)
  wakes : ∀ i ch, Inb i = some ch → ∃ (kk : Nat) (z : Value), ch.seat.cases[kk]? = some (rcase qc z) ∧ ∀ g, ch.seat.home g → Qt P false (KS st sm) (AtRelm P st sm) 0 (Go.Conc.served g (commResult ch.seat.cases ch.seat.shape kk z false))
  small : n < 2147483647
/-- The world, but for the group's two cells and the draws. -/
def wat (w0 : World) (st sm : Addr) (x y : Int) (d : Nat) : World := ((w0.setCell st (.int .u64 x)).setCell sm (.int .u32 y)).at d
theorem setCell_twice (w : World) (a : Addr) (u v : Value) : (w.setCell a u).setCell a v = w.setCell a v := by
  unfold World.setCell
  simp only [World.mk.injEq, and_true, true_and]
  apply Array.ext_getElem?
  intro k
  simp only [Array.getElem?_modify]
  split
  · cases w.heap[k]? with
    | none => rfl
    | some o => cases o <;> simp only [Option.map_some] <;> (try rfl); split <;> simp
  · rfl
theorem setCell_comm (w : World) {a b : Addr} (h : a ≠ b) (ha : a.spot = none) (hb : b.spot = none) (u v : Value) : (w.setCell a u).setCell b v = (w.setCell b v).setCell a u := by
  unfold World.setCell
  simp only [World.mk.injEq, and_true, true_and]
  apply Array.ext_getElem?
  intro k
  simp only [Array.getElem?_modify]
  by_cases e1 : a.block = k <;> by_cases e2 : b.block = k
  · simp only [e1, e2, if_true]
    have : a.off ≠ b.off := fun e => h (by obtain ⟨x1, x2, x3⟩ := a; obtain ⟨y1, y2, y3⟩ := b; simp only at *; subst e ha hb; rw [e1, e2])
    cases w.heap[k]? with
    | none => rfl
    | some o =>
      cases o <;> simp only [Option.map_some] <;> (try rfl)
      rw [ha, hb]
      simp only [Option.isSome_none, Bool.false_eq_true, if_false]
      rw [Array.setIfInBounds_comm _ _ this]
  · simp only [e1, e2, if_true, if_false]
  · simp only [e1, e2, if_true, if_false]
  · simp only [e1, e2, if_false]
theorem heap_setCell_chan {w : World} {a : Addr} {v : Value} {c : Nat} {o : Obj} (h : w.heap[c]? = some o) (ho : o.isChan = true) : (w.setCell a v).heap[c]? = some o := by
  simp only [World.setCell, Array.getElem?_modify, h]
  split
  · cases o <;> first | rfl | cases ho
  · rfl
structure InvS (P : Program) (Sh : Loc → Prop) (Inb : Nat → Option Chair) (st sm : Addr) (qc mC : Nat) (Fin : Goroutine → Prop) (n : Nat) (w0 : World) (t : Tag) (f0 : Nat) (ph fu : Nat → Nat) (gs : Array Goroutine) (x y : Int) (T : Trace) : Prop where
  size : gs.size = n
  pos : 0 < n
  main : ∃ a, gs[0]? = some a ∧ MSit P st sm Fin t f0 (Deaf T 0) a
  wk : ∀ i g, 0 < i → gs[i]? = some g → WSit P st sm Inb i (ph i) (fu i) (Deaf T i) g
  ph0 : ph 0 = 0
  out : ∀ i, n ≤ i → ph i ≤ 1
  mode : ModeS n ph t x y
  wake : f0 = 0 → ∃ i, 0 < i ∧ i < n ∧ 2 ≤ ph i
  tr : TrS Sh (StOf Inb) st sm qc mC ph T
  above : ∀ j, n ≤ j → Deaf T j = 0
def mu1 (n : Nat) (t : Tag) (ph : Nat → Nat) : Nat := t.rank (VcS n ph) + sumTo n ph
def mu2 (n f0 : Nat) (fu : Nat → Nat) : Nat := f0 + 2 * sumTo n fu
def LowS (n : Nat) (t' : Tag) (f0' : Nat) (ph' fu' : Nat → Nat) (t : Tag) (f0 : Nat) (ph fu : Nat → Nat) : Prop := mu1 n t' ph' < mu1 n t ph ∨ (mu1 n t' ph' = mu1 n t ph ∧ mu2 n f0' fu' < mu2 n f0 fu)
theorem Tag.rank_mono (t : Tag) {v v' : Nat} (h : v ≤ v') : t.rank v ≤ t.rank v' := by cases t <;> simp only [Tag.rank] <;> omega
section
variable {P : Program} {Sh : Loc → Prop} {Inb : Nat → Option Chair} {st sm : Addr} {qc mC n : Nat} {w0 : World} {Fin : Goroutine → Prop} {t : Tag} {f0 : Nat} {ph fu : Nat → Nat} {gs : Array Goroutine} {x y x' y' : Int} {d d' : Nat} {T : Trace} {i : Nat} {g g' : Goroutine}
theorem WSit.status {p f k : Nat} (hK : ∀ ch, Inb i = some ch → ∃ w, ch.K w) (h : WSit P st sm Inb i p f k g) : g.status = .running ∨ g.status = .finished := by
  rcases h with ⟨_, _, ch, hc, m, w, _, h⟩ | ⟨_, m, _, h⟩ | ⟨_, m, _, h⟩ | ⟨_, m, _, h⟩ | ⟨_, m, _, h⟩ | ⟨_, m, _, h⟩ | ⟨_, h⟩
  · obtain ⟨w₁, hw⟩ := hK ch hc
    left
    cases m with
    | zero => obtain ⟨g₂, h, _⟩ := h w₁ hw; exact h
    | succ m =>
      rcases h with h | h
      · obtain ⟨g₂, h, _⟩ := h w₁ hw; exact h
      · exact h.1
  · exact .inl (Qs.running (fun _ _ q => q.1) h)
  · exact .inl (Qs.running (fun _ _ q => q.1) h)
  · exact .inl (Qs.running (fun _ _ q => q.1) h)
  · exact .inl (Qs.running (fun _ _ q => q.1) h)
  · exact .inl (Qs.running (fun _ _ q => q.1) h)
  · exact h.status
/-- Somebody's step may let goroutine 0 try again. -/
theorem MSit.woken {k : Nat} {a b b' : Goroutine} {w : World} (h : MSit P st sm Fin t f0 k a) : ∃ f0', MSit P st sm Fin t f0' k (woken P b b' w a) ∧ f0' ≤ f0 + 1 ∧ (mayWake P b = true → (b'.status = .running ∨ b'.status = .finished) → f0' ≠ 0) ∧ (f0 ≠ 0 → f0' = f0) := by
  rcases h with ⟨m, hm, h⟩ | ⟨rfl, rfl, a₀, rfl, h⟩
  · have hr : a.status = .running := Qs.running (fun _ _ q => Tag.running P st sm Fin q) h
    rw [woken_of_again (again_of_running (.inl hr) w)]
    exact ⟨f0, .inl ⟨m, hm, h⟩, by omega, fun _ _ => by omega, fun _ => rfl⟩
  · unfold Go.Conc.woken
    by_cases hw : (mayWake P b && b'.status != .blocked && b'.status != .waiting) = true
    · rw [if_pos hw]
      refine ⟨1, .inl ⟨0, rfl, ?_⟩, by omega, fun _ _ => by omega, fun q => (q rfl).elim⟩
      have e : ({ a₀ with status := .blocked } : Goroutine).again w = a₀ := by
        have h1 := h.1
        have h2 := h.2.1
        obtain ⟨fr, cs, s, dy, off⟩ := a₀
        simp only at h1 h2
        subst h1 h2
        rfl
      rw [e]
      exact h
    · rw [if_neg hw]
      refine ⟨0, .inr ⟨rfl, rfl, a₀, rfl, h⟩, by omega, fun h1 h2 => (hw ?_).elim, fun q => (q rfl).elim⟩
      rw [h1]
      rcases h2 with h2 | h2 <;> rw [h2] <;> rfl
/-- A worker's own step. -/
theorem InvS.goW (C : CtxS P Sh Inb st sm qc n w0) (I : InvS P Sh Inb st sm qc mC Fin n w0 t f0 ph fu gs x y T) (h0 : 0 < i) (hi : gs[i]? = some g) {p f' : Nat} {es : Array Event} {sl : Option (Nat × Nat)} (hgo : stepG P false g (wat w0 st sm x y d) = .go g' (wat w0 st sm x' y' d) es)
    (hW : WSit P st sm Inb i p f' (deafBehind (Deaf T i) es) g') (hM : ModeS n (upd ph i p) t x' y') (hT : TrS Sh (StOf Inb) st sm qc mC (upd ph i p) (T ++ MemOp.ofEvents i g.frame.fn g.frame.place es))
    (hlow : p < ph i ∨ (p = ph i ∧ f' < fu i)) (hwk : f0 = 0 → (∃ j, 0 < j ∧ j < n ∧ 2 ≤ upd ph i p j) ∨ mayWake P g = true) :
    ∃ gs' f0' ph' fu', runT P (crowd gs (wat w0 st sm x y d) sl) i = (.next (crowd gs' (wat w0 st sm x' y' d) sl), MemOp.ofEvents i g.frame.fn g.frame.place es) ∧
      InvS P Sh Inb st sm qc mC Fin n w0 t f0' ph' fu' gs' x' y' (T ++ MemOp.ofEvents i g.frame.fn g.frame.place es) ∧ LowS n t f0' ph' fu' t f0 ph fu := by
  have hlt : i < gs.size := (Array.getElem?_eq_some_iff.1 hi).1
  have hin : i < n := by rw [← I.size]; exact hlt
  have hne : (0 : Nat) ≠ i := Nat.ne_of_lt h0
  have hout : ∀ j, n ≤ j → j ≠ i := fun j hj e => by subst e; exact Nat.lt_irrefl _ (Nat.lt_of_lt_of_le hin hj)
  have hi0 : (i == 0) = false := beq_false_of_ne hne.symm
  have hops : ∀ op ∈ MemOp.ofEvents i g.frame.fn g.frame.place es, op.g = i := ofEvents_g
  have hst' := hW.status (fun ch hc => ⟨w0, C.keep i ch hc⟩)
  obtain ⟨a, ha, hsit⟩ := I.main
  obtain ⟨f0', hs', hf1, hf2, hf3⟩ := hsit.woken (b := g) (b' := g') (w := wat w0 st sm x' y' d)
  have hcnt : cntS p ≤ cntS (ph i) := by clear hwk; simp only [cntS]; split <;> split <;> omega
  have hV : VcS n (upd ph i p) ≤ VcS n ph := by clear hwk; have := VcS_upd ph p hin; omega
  have hS : sumTo n (upd ph i p) + ph i = sumTo n ph + p := sumTo_upd ph p id hin
  have hF : sumTo n (upd fu i f') + fu i = sumTo n fu + f' := sumTo_upd fu f' id hin
  refine ⟨_, f0', upd ph i p, upd fu i f', runT_crowd_go (sl := sl) hi (by rw [hi0]; exact hgo), ⟨by simp [I.size], I.pos, ⟨woken P g g' (wat w0 st sm x' y' d) a, ?_, ?_⟩, fun j gj hj0 hj => ?_, by rw [upd_ne ph _ hne]; exact I.ph0, fun j hj => by rw [upd_ne ph _ (hout j hj)]; exact I.out j hj, hM, fun hz => ?_, hT, fun j hj => ?_⟩, ?_⟩
  · rw [Array.getElem?_setIfInBounds_ne hne.symm, Array.getElem?_map, ha]; rfl
  · rw [Deaf_other T (g' := i) hne.symm _ hops]; exact hs'
  · by_cases e : j = i
    · subst e
      rw [Array.getElem?_setIfInBounds_self_of_lt (by simpa using hlt)] at hj
      obtain rfl := Option.some.inj hj
      rw [upd_same, upd_same, Deaf_own]
      exact hW
    · rw [Array.getElem?_setIfInBounds_ne (fun z => e z.symm), Array.getElem?_map] at hj
      obtain ⟨gj', hj', rfl⟩ := Option.map_eq_some_iff.1 hj
      have h1 := I.wk j gj' hj0 hj'
      rw [woken_of_again (again_of_running (h1.status fun ch hc => ⟨w0, C.keep j ch hc⟩) _), upd_ne ph _ e, upd_ne fu _ e, Deaf_other T (g' := i) (fun z => e z.symm) _ hops]
      exact h1
  · rcases hwk (Classical.byContradiction fun q => q (by rw [hf3 q] at hz; exact hz)) with q | q
    · exact q
    · exact ((hf2 q hst') hz).elim
  · rw [Deaf_other T (g' := i) (hout j hj).symm _ hops]; exact I.above j hj
  · clear hwk
    have hr := t.rank_mono hV
    rcases hlow with q | ⟨q, q2⟩
    · left; simp only [mu1]; omega
    · have hV2 : VcS n (upd ph i p) = VcS n ph := by
        have := VcS_upd ph p hin
        rw [q] at this ⊢
        omega
      right
      refine ⟨by simp only [mu1, hV2]; omega, ?_⟩
      simp only [mu2]
      omega
end
end Go.Proofs.Ytfpkachoneaaeaa
namespace Go.Proofs.Ytfpkachoneaaeaa
open Go Go.Conc
open Go.ConcN (sumTo upd sumTo_upd upd_ne upd_same le_sumTo sumTo_congr sumTo_le)
theorem upd_self (f : Nat → Nat) (i : Nat) : upd f i (f i) = f := by
  funext a
  by_cases e : a = i
  · rw [e, upd_same]
  · rw [upd_ne f _ e]
theorem Qs.cases {P : Program} {main : Bool} {K : World → Prop} {Stop : Nat → Goroutine → Prop} {n k : Nat} {g : Goroutine} (h : Qs P main K Stop n k g) :
    Stop k g ∨ ∃ n' g' es, n = n' + 1 ∧ (∀ e ∈ es, Event.mute e = true) ∧ (∀ w, K w → stepG P main g w = .go g' w es) ∧ Qs P main K Stop n' (deafBehind k es) g' := by
  cases n with
  | zero => exact .inl h
  | succ n => exact h.imp id fun ⟨_, g', es, h1, h2, h3⟩ => ⟨n, g', es, rfl, h1, h2, h3⟩
section
variable {P : Program} {Sh : Loc → Prop} {Inb : Nat → Option Chair} {st sm : Addr} {qc mC n : Nat} {w0 : World} {Fin : Goroutine → Prop} {t : Tag} {f0 : Nat} {ph fu : Nat → Nat} {gs : Array Goroutine} {x y x' y' : Int} {d : Nat} {T : Trace} {i : Nat} {g g' : Goroutine} {sl : Option (Nat × Nat)}
theorem CtxS.cell_st (C : CtxS P Sh Inb st sm qc n w0) : (wat w0 st sm x y d).cell? st = some (.int .u64 x) := by
  obtain ⟨u, hu⟩ := Option.isSome_iff_exists.1 C.cst
  show ((w0.setCell st (.int .u64 x)).setCell sm (.int .u32 y)).cell? st = _
  rw [World.cell?_setCell_other _ _ _ _ (Ne.symm C.ne)]
  exact World.cell?_setCell_same _ _ _ hu
theorem CtxS.cell_sm (C : CtxS P Sh Inb st sm qc n w0) : (wat w0 st sm x y d).cell? sm = some (.int .u32 y) := by
  obtain ⟨u, hu⟩ := Option.isSome_iff_exists.1 C.csm
  exact World.cell?_setCell_same (w0.setCell st (.int .u64 x)) sm (.int .u32 y) (u := u) (by rw [World.cell?_setCell_other _ _ _ _ C.ne]; exact hu)
theorem CtxS.thaw_st (C : CtxS P Sh Inb st sm qc n w0) : (wat w0 st sm x y d).frozen? st = false := by
  have := C.zst
  show ((w0.setCell st (.int .u64 x)).setCell sm (.int .u32 y)).frozen? st = false
  simp [this]
theorem CtxS.thaw_sm (C : CtxS P Sh Inb st sm qc n w0) : (wat w0 st sm x y d).frozen? sm = false := by
  have := C.zsm
  show ((w0.setCell st (.int .u64 x)).setCell sm (.int .u32 y)).frozen? sm = false
  simp [this]
theorem CtxS.ks (C : CtxS P Sh Inb st sm qc n w0) : KS st sm (wat w0 st sm x y d) := ⟨by rw [C.cell_st]; rfl, by rw [C.cell_sm]; rfl⟩
theorem CtxS.set_st (C : CtxS P Sh Inb st sm qc n w0) (v : Int) : (wat w0 st sm x y d).setCell st (.int .u64 v) = wat w0 st sm v y d := by
  show (((w0.setCell st (.int .u64 x)).setCell sm (.int .u32 y)).setCell st (.int .u64 v)).at d = _
  rw [setCell_comm _ (Ne.symm C.ne) C.spot.2 C.spot.1, setCell_twice]
  rfl
theorem CtxS.set_sm (C : CtxS P Sh Inb st sm qc n w0) (v : Int) : (wat w0 st sm x y d).setCell sm (.int .u32 v) = wat w0 st sm x v d := by
  show (((w0.setCell st (.int .u64 x)).setCell sm (.int .u32 y)).setCell sm (.int .u32 v)).at d = _
  rw [setCell_twice]
  rfl
theorem CtxS.K (C : CtxS P Sh Inb st sm qc n w0) {ch : Chair} (hc : Inb i = some ch) : ch.K (wat w0 st sm x y d) := by
  intro a v hv
  have hp := C.place i (.cell a) ⟨ch, hc, a, v, rfl, hv⟩
  show ((w0.setCell st (.int .u64 x)).setCell sm (.int .u32 y)).cell? a = _
  rw [World.cell?_setCell_other _ _ _ _ (fun e => hp.2 (by rw [e])), World.cell?_setCell_other _ _ _ _ (fun e => hp.1 (by rw [e]))]
  exact C.keep i ch hc a v hv
theorem CtxS.heap (C : CtxS P Sh Inb st sm qc n w0) {c : Nat} {o : Obj} (h : w0.heap[c]? = some o) (ho : o.isChan = true) : (wat w0 st sm x y d).heap[c]? = some o :=
  heap_setCell_chan (heap_setCell_chan h ho) ho
theorem CtxS.deaf_quiet {es : Array Event} (hm : ∀ e ∈ es, Event.mute e = true) : ∀ op ∈ MemOp.ofEvents i g.frame.fn g.frame.place es, op.act.touch? = none ∧ ∀ a, op.act ≠ .mark (.release a) := by
  intro op hop
  obtain ⟨e, he, rfl⟩ := Go.Conc.mem_ofEvents hop
  exact ⟨touch_mute (hm e he), norel_mute (hm e he)⟩
/-- A quiet step. -/
theorem InvS.quietW (C : CtxS P Sh Inb st sm qc n w0) (I : InvS P Sh Inb st sm qc mC Fin n w0 t f0 ph fu gs x y T) (h0 : 0 < i) (hi : gs[i]? = some g) {f' : Nat} {es : Array Event} (hm : ∀ e ∈ es, Event.mute e = true) (hgo : ∀ w, KS st sm w → stepG P false g w = .go g' w es)
    (hW : WSit P st sm Inb i (ph i) f' (deafBehind (Deaf T i) es) g') (hlow : f' < fu i) (d : Nat) :
    ∃ gs' x' y' f0' ph' fu' ops, runT P (crowd gs (wat w0 st sm x y d) sl) i = (.next (crowd gs' (wat w0 st sm x' y' d) sl), ops) ∧ InvS P Sh Inb st sm qc mC Fin n w0 t f0' ph' fu' gs' x' y' (T ++ ops) ∧ LowS n t f0' ph' fu' t f0 ph fu := by
  have hq := CtxS.deaf_quiet (i := i) (g := g) hm
  obtain ⟨gs', f0', ph', fu', h1, h2, h3⟩ := I.goW (x' := x) (y' := y) (d := d) (sl := sl) C h0 hi (hgo _ C.ks) (p := ph i) hW (by rw [upd_self]; exact I.mode)
    (by rw [upd_self]; exact I.tr.mute ofEvents_g (fun op hop => (hq op hop).1) (fun op hop => (hq op hop).2) (fun _ q => q) (fun _ q => q) (fun g' q1 q2 => (I.tr.seen g' q1 q2).app _)) (.inr ⟨rfl, hlow⟩) (fun q => by rw [upd_self]; exact .inl (I.wake q))
  exact ⟨gs', x, y, f0', ph', fu', _, h1, h2, h3⟩
/-- Behind a communication of a worker's own, nobody else is turned. -/
theorem InvS.put (C : CtxS P Sh Inb st sm qc n w0) (I : InvS P Sh Inb st sm qc mC Fin n w0 t f0 ph fu gs x y T) (h0 : 0 < i) (hi : gs[i]? = some g) {p f' : Nat} {ops : Array MemOp} (hops : ∀ op ∈ ops, op.g = i)
    (hW : WSit P st sm Inb i p f' (Deaf (T ++ ops) i) g') (hM : ModeS n (upd ph i p) t x y) (hT : TrS Sh (StOf Inb) st sm qc mC (upd ph i p) (T ++ ops)) (hlow : p < ph i) (hp : 2 ≤ p) :
    InvS P Sh Inb st sm qc mC Fin n w0 t f0 (upd ph i p) (upd fu i f') (gs.setIfInBounds i g') x y (T ++ ops) ∧ LowS n t f0 (upd ph i p) (upd fu i f') t f0 ph fu := by
  have hlt : i < gs.size := (Array.getElem?_eq_some_iff.1 hi).1
  have hin : i < n := by rw [← I.size]; exact hlt
  have hne : (0 : Nat) ≠ i := Nat.ne_of_lt h0
  have hout : ∀ j, n ≤ j → j ≠ i := fun j hj e => by subst e; exact Nat.lt_irrefl _ (Nat.lt_of_lt_of_le hin hj)
  obtain ⟨a, ha, hsit⟩ := I.main
  have hcnt : cntS p ≤ cntS (ph i) := by simp only [cntS]; split <;> split <;> omega
  have hV : VcS n (upd ph i p) ≤ VcS n ph := by have := VcS_upd ph p hin; omega
  have hS : sumTo n (upd ph i p) + ph i = sumTo n ph + p := sumTo_upd ph p id hin
  refine ⟨⟨by simp [I.size], I.pos, ⟨a, ?_, ?_⟩, fun j gj hj0 hj => ?_, by rw [upd_ne ph _ hne]; exact I.ph0, fun j hj => by rw [upd_ne ph _ (hout j hj)]; exact I.out j hj, hM, fun _ => ⟨i, h0, hin, by rw [upd_same]; exact hp⟩, hT, fun j hj => ?_⟩, ?_⟩
  · rw [Array.getElem?_setIfInBounds_ne hne.symm]; exact ha
  · rw [Deaf_other T (g' := i) hne.symm _ hops]; exact hsit
  · by_cases e : j = i
    · subst e
      rw [Array.getElem?_setIfInBounds_self_of_lt hlt] at hj
      obtain rfl := Option.some.inj hj
      rw [upd_same, upd_same]
      exact hW
    · rw [Array.getElem?_setIfInBounds_ne (fun z => e z.symm)] at hj
      rw [upd_ne ph _ e, upd_ne fu _ e, Deaf_other T (g' := i) (fun z => e z.symm) _ hops]
      exact I.wk j gj hj0 hj
  · rw [Deaf_other T (g' := i) (hout j hj).symm _ hops]; exact I.above j hj
  · have hr := t.rank_mono hV
    left; simp only [mu1]; omega
theorem mute_marks {m : Mark} : ∀ op ∈ MemOp.ofEvents i g.frame.fn g.frame.place #[⟨.mark m, false, true⟩], op = { g := i, fn := g.frame.fn, pos := g.frame.place, act := .mark m } := by
  intro op hop
  obtain ⟨e, he, rfl⟩ := Go.Conc.mem_ofEvents hop
  obtain rfl : e = _ := (by simpa using he)
  rfl
theorem ofEvents_mark (m : Mark) (fn : FuncId) (pos : String) : MemOp.ofEvents i fn pos #[⟨.mark m, false, true⟩] = #[{ g := i, fn := fn, pos := pos, act := .mark m }] := by rw [ofEvents_eq]; simp [MemAct.ofEvent]
theorem bkS_r {a : Addr} (ha : a = st ∨ a = sm) : ∀ e ∈ (#[⟨.cell a, false, true⟩] : Array Event), BkS st sm e := by intro e he; obtain rfl : e = _ := (by simpa using he); exact .inr ⟨a, _, rfl, ha⟩
theorem bkS_w {a : Addr} (ha : a = st ∨ a = sm) : ∀ e ∈ (#[⟨.cell a, true, true⟩] : Array Event), BkS st sm e := by intro e he; obtain rfl : e = _ := (by simpa using he); exact .inr ⟨a, _, rfl, ha⟩
theorem bkS_rw {a : Addr} (ha : a = st ∨ a = sm) : ∀ e ∈ (#[⟨.cell a, false, true⟩, ⟨.cell a, true, true⟩] : Array Event), BkS st sm e := by intro e he; simp at he; rcases he with rfl | rfl <;> exact .inr ⟨a, _, rfl, ha⟩
theorem bkS_sem {a : Addr} (ha : a = st ∨ a = sm) : ∀ e ∈ semEvents a, BkS st sm e := by
  intro e he
  simp [semEvents] at he
  rcases he with rfl | rfl | rfl | rfl
  · exact .inl (.inl rfl)
  · exact .inr ⟨a, _, rfl, ha⟩
  · exact .inr ⟨a, _, rfl, ha⟩
  · exact .inl (.inr rfl)
theorem deaf_cells {k : Nat} {es : Array Event} (h : ∀ e ∈ es, ∃ a wr, e = (⟨.cell a, wr, true⟩ : Event)) : ∀ j, deafBehind k (es.extract 0 j) = k := fun j => deafBehind_still (fun e he => by
  have he' : e ∈ es := by
    obtain ⟨m, hm, rfl⟩ := Array.getElem_of_mem he
    rw [Array.getElem_extract]
    exact Array.getElem_mem _
  obtain ⟨a, wr, rfl⟩ := h e he'
  exact ⟨by simp, by simp⟩) k
theorem deaf_all {k : Nat} {es : Array Event} (h : ∀ e ∈ es, ∃ a wr, e = (⟨.cell a, wr, true⟩ : Event)) : deafBehind k es = k := deafBehind_still (fun e he => by
  obtain ⟨a, wr, rfl⟩ := h e he
  exact ⟨by simp, by simp⟩) k
theorem cells_r (a : Addr) : ∀ e ∈ (#[⟨.cell a, false, true⟩] : Array Event), ∃ b wr, e = (⟨.cell b, wr, true⟩ : Event) := by intro e he; obtain rfl : e = _ := (by simpa using he); exact ⟨a, _, rfl⟩
theorem cells_w (a : Addr) : ∀ e ∈ (#[⟨.cell a, true, true⟩] : Array Event), ∃ b wr, e = (⟨.cell b, wr, true⟩ : Event) := by intro e he; obtain rfl : e = _ := (by simpa using he); exact ⟨a, _, rfl⟩
theorem cells_rw (a : Addr) : ∀ e ∈ (#[⟨.cell a, false, true⟩, ⟨.cell a, true, true⟩] : Array Event), ∃ b wr, e = (⟨.cell b, wr, true⟩ : Event) := by intro e he; simp at he; rcases he with rfl | rfl <;> exact ⟨a, _, rfl⟩
theorem deaf_sem (k : Nat) (a : Addr) : deafBehind k (semEvents a) = k := rfl
theorem sem_inside {k : Nat} (hk : 1 ≤ k) (a : Addr) : ∀ j e, (semEvents a)[j]? = some e → (MemAct.ofEvent e).touch? = none ∨ 0 < deafBehind k ((semEvents a).extract 0 j) := by
  intro j e he
  simp only [semEvents] at he ⊢
  match j, he with
  | 0, he => left; obtain rfl := Option.some.inj he; rfl
  | 1, he => right; show 0 < k + 1; omega
  | 2, he => right; show 0 < k + 1; omega
  | 3, he => left; obtain rfl := Option.some.inj he; rfl
  | j + 4, he => simp at he
end
end Go.Proofs.Ytfpkachoneaaeaa
namespace Go.Proofs.Ytfpkachoneaaeaa
open Go Go.Conc
open Go.ConcN (sumTo upd sumTo_upd upd_ne upd_same le_sumTo sumTo_congr sumTo_le)
section
variable {P : Program} {Sh : Loc → Prop} {Inb : Nat → Option Chair} {st sm : Addr} {qc mC n : Nat} {w0 : World} {Fin : Goroutine → Prop} {t : Tag} {f0 : Nat} {ph fu : Nat → Nat} {gs : Array Goroutine} {x y x' y' : Int} {d : Nat} {T : Trace} {i : Nat} {g g' : Goroutine} {sl : Option (Nat × Nat)}
theorem offers_none {h : Goroutine} (hn : h.offers = none) (c : Nat) (b : Bool) : offersAt h c b = [] := by
  unfold offersAt
  rw [hn]
  split
  · rename_i q; cases q
  · rfl
/-- Nobody offers a send. -/
theorem InvS.noSend (C : CtxS P Sh Inb st sm qc n w0) (I : InvS P Sh Inb st sm qc mC Fin n w0 t f0 ph fu gs x y T) {j : Nat} {gj : Goroutine} (hj : gs[j]? = some gj) (c : Nat) : offersAt gj c true = [] := by
  by_cases e : j = 0
  · subst e
    obtain ⟨a, ha, hsit⟩ := I.main
    rw [ha] at hj
    obtain rfl := Option.some.inj hj
    rcases hsit with ⟨m, _, h⟩ | ⟨_, _, a₀, rfl, h⟩
    · exact offersAt_of_not_blocked (by rw [Qs.running (fun _ _ q => Tag.running P st sm Fin q) h]; simp) _ _
    · exact offers_none (h := { a₀ with status := .blocked }) h.2.1 _ _
  · have := (I.wk j gj (by omega) hj).status (fun ch hc => ⟨w0, C.keep j ch hc⟩)
    exact offersAt_of_not_blocked (by rcases this with q | q <;> rw [q] <;> simp) _ _
theorem exists_counted (h0 : ph 0 = 0) (hv : 1 ≤ VcS n ph) : ∃ j, 0 < j ∧ j < n ∧ 2 ≤ ph j := by
  refine Classical.byContradiction fun hno => ?_
  have : ∀ j, j ≤ n → sumTo j (fun i => cntS (ph i)) = 0 := by
    intro j
    induction j with
    | zero => exact fun _ => rfl
    | succ j ih =>
      intro hj
      rw [sumTo, ih (by omega)]
      by_cases e : j = 0
      · subst e; simp [cntS, h0]
      · have h1 : ¬ 2 ≤ ph j := fun q => hno ⟨j, by omega, by omega, q⟩
        simp only [cntS]
        rw [if_neg (by omega)]
  have := this n (Nat.le_refl _)
  simp only [VcS] at hv
  omega
/-- ████ A WORKER's STEP. ████ -/
theorem InvS.worker (C : CtxS P Sh Inb st sm qc n w0) (I : InvS P Sh Inb st sm qc mC Fin n w0 t f0 ph fu gs x y T) (h0 : 0 < i) (hi : gs[i]? = some g) (hrun : g.status = .running) (d : Nat) (sl : Option (Nat × Nat)) :
    ∃ gs' x' y' f0' ph' fu' ops, runT P (crowd gs (wat w0 st sm x y d) sl) i = (.next (crowd gs' (wat w0 st sm x' y' d) sl), ops) ∧ InvS P Sh Inb st sm qc mC Fin n w0 t f0' ph' fu' gs' x' y' (T ++ ops) ∧ LowS n t f0' ph' fu' t f0 ph fu := by
  have hlt : i < gs.size := (Array.getElem?_eq_some_iff.1 hi).1
  have hin : i < n := by rw [← I.size]; exact hlt
  have hi0 : (i == 0) = false := by simp; omega
  have hsmall := C.small
  rcases I.wk i g h0 hi with ⟨hp, hk, ch, hc, m, wx, hf, hG⟩ | ⟨hp, m, hf, hQ⟩ | ⟨hp, m, hf, hQ⟩ | ⟨hp, m, hf, hQ⟩ | ⟨hp, m, hf, hQ⟩ | ⟨hp, m, hf, hQ⟩ | ⟨hp, hQ⟩
  · -- on its way to its seat, or there
    have hKw : ch.K (wat w0 st sm x y d) := C.K hc
    have hcase : (∃ g₂, AtIn P false ch.K ch.St ch.B ch.seat g g₂) ∨ ∃ m' g' es, m = m' + 1 ∧ stepG P false g (wat w0 st sm x y d) = .go g' (wat w0 st sm x y d) es ∧ (∀ e ∈ es, EvC ch.St ch.B e) ∧ Goes P false (RK ch.K) (DS ch.St ch.B) (fun g _ => ∃ g₂, AtIn P false ch.K ch.St ch.B ch.seat g g₂) m' g' (wat w0 st sm x y d) := by
      cases m with
      | zero => exact .inl (hG _ hKw)
      | succ m' =>
        rcases hG with hstop | ⟨_, hstep⟩
        · exact .inl (hstop _ hKw)
        · have hs := hstep _ hKw
          cases hgo : stepG P false g (wat w0 st sm x y d) with
          | go g' w' es =>
            rw [hgo, goes_go] at hs
            obtain ⟨⟨rfl, hes⟩, hG'⟩ := hs
            exact .inr ⟨m', g', es, rfl, rfl, hes, hG'⟩
          | _ => rw [hgo] at hs; exact hs.elim
    rcases hcase with ⟨g₂, hat⟩ | ⟨m', g', es, hm, hgo, hes, hG'⟩
    · obtain ⟨_, _, _, _, hhome, es, hes, hstp⟩ := id hat
      obtain ⟨hops, hr, hl, hd⟩ := evC_ops (i := i) (fn := g.frame.fn) (pos := g.frame.place) hes
      obtain ⟨kk, z, hkk, hnext⟩ := C.wakes i ch hc
      obtain ⟨cap, ck, hq⟩ := C.quit
      have hq' : (wat w0 st sm x y d).heap[qc]? = some (.chan cap #[] true ck ck false) := C.heap hq rfl
      have hns : ∀ (j : Nat) (gj : Goroutine), (gs.setIfInBounds i Go.Conc.ph)[j]? = some gj → ∀ c, offersAt gj c true = [] := fun j gj hj c => by
        rcases getElem?_stand gs i j gj hj with ⟨_, rfl⟩ | ⟨_, hj'⟩
        · exact offersAt_ph _ _
        · exact I.noSend C hj' c
      have ho : ∀ (m : Nat) (c' : CommCase), m ≠ kk → ch.seat.cases[m]? = some c' → NoWays (wat w0 st sm x y d) (gs.setIfInBounds i Go.Conc.ph) c' := by
        intro m c' hm hc'
        obtain ⟨c₂, z₂, rfl⟩ := (C.wf i ch hc).recvs c' (Array.mem_of_getElem? hc')
        have hne : c₂ ≠ qc := fun e => by subst e; exact hm ((C.wf i ch hc).apart m kk _ _ _ hc' hkk)
        rcases C.chan i ch c₂ hc ⟨m, z₂, hc'⟩ with e | ⟨cap₂, k₂, hc₂⟩
        · exact (hne e).elim
        · exact ways_recv_none (C.heap hc₂ rfl) (partners_nil fun j gj hj => hns j gj hj c₂)
      have hrt := crowd_sel_recv_closed (P := P) (sl := sl) hi (by rw [hi0]; exact hstp _ hKw) hkk ho hq' (partners_nil fun j gj hj => hns j gj hj qc)
      obtain ⟨m6, hQ6⟩ := hnext g₂ hhome
      have hfin : g₂.finishComm P ch.seat.cases ch.seat.shape kk z false = Go.Conc.served g₂ (commResult ch.seat.cases ch.seat.shape kk z false) := finishComm_served _ _ _ _ _ _ _
      have hdT : Deaf (T ++ MemOp.ofEvents i g.frame.fn g.frame.place es) i = 0 := (hd T).trans hk
      have t1 : TrS Sh (StOf Inb) st sm qc mC ph (T ++ MemOp.ofEvents i g.frame.fn g.frame.place es) := I.tr.read hp hops (fun op hop b hb => ⟨(hr op hop b hb).1, ⟨ch, hc, (hr op hop b hb).2⟩⟩)
        (fun op hop a q => by obtain ⟨e, he, rfl⟩ := Go.Conc.mem_ofEvents hop; exact norel_read (hes e he) a q) (fun l hl => C.place i l hl)
      have t2 := t1.wake (ph' := upd ph i 6) hdT g₂.frame.fn g₂.frame.place (fun j hj => upd_ne ph _ hj) hp (by rw [upd_same])
      have hda : Deaf (T ++ (MemOp.ofEvents i g.frame.fn g.frame.place es ++ #[{ g := i, fn := g₂.frame.fn, pos := g₂.frame.place, act := .recvClosed qc }])) i = 0 := by
        rw [← Array.append_assoc, Deaf_push]
        exact hdT
      rw [Array.append_assoc] at t2
      obtain ⟨I', hl'⟩ := I.put (g' := Go.Conc.served g₂ (commResult ch.seat.cases ch.seat.shape kk z false)) (p := 6) (f' := m6 + 1) (ops := MemOp.ofEvents i g.frame.fn g.frame.place es ++ #[{ g := i, fn := g₂.frame.fn, pos := g₂.frame.place, act := .recvClosed qc }]) C h0 hi
        (fun op hop => by
          rcases Array.mem_append.1 hop with q | q
          · exact hops op q
          · obtain rfl : op = _ := (by simpa using q); rfl)
        (.inr (.inl ⟨rfl, m6, rfl, by rw [hda]; exact hQ6⟩)) (I.mode.counted h0 hin (by omega) (.inl rfl)) t2 (by omega) (by omega)
      exact ⟨_, x, y, f0, _, _, _, by rw [hrt, hfin], I', hl'⟩
    · obtain ⟨hops, hr, hl, hd⟩ := evC_ops (i := i) (fn := g.frame.fn) (pos := g.frame.place) hes
      have hdk : deafBehind (Deaf T i) es = 0 := by rw [← Deaf_own]; exact (hd T).trans hk
      obtain ⟨gs', f0', ph', fu', h1, h2, h3⟩ := I.goW (x' := x) (y' := y) (d := d) (sl := sl) C h0 hi hgo (p := ph i) (f' := m' + 1) (.inl ⟨hp, hdk, ch, hc, m', _, rfl, hG'⟩) (by rw [upd_self]; exact I.mode)
        (by
          rw [upd_self]
          exact I.tr.read hp hops (fun op hop b hb => ⟨(hr op hop b hb).1, ⟨ch, hc, (hr op hop b hb).2⟩⟩) (fun op hop a q => by obtain ⟨e, he, rfl⟩ := Go.Conc.mem_ofEvents hop; exact norel_read (hes e he) a q) (fun l hl => C.place i l hl))
        (.inr ⟨rfl, by omega⟩) (fun q => by rw [upd_self]; exact .inl (I.wake q))
      exact ⟨gs', x, y, f0', ph', fu', _, h1, h2, h3⟩
  · -- on its way to its word
    rcases hQ.cases with ⟨hr, hk, g', ⟨m', hQ'⟩, hgo⟩ | ⟨m', g', es, hm, hmu, hgo, hQ'⟩
    · obtain ⟨gs', f0', ph', fu', h1, h2, h3⟩ := I.goW (x' := x) (y' := y) (d := d) (sl := sl) C h0 hi (hgo _) (p := 5) (f' := m' + 1)
        (.inr (.inr (.inl ⟨rfl, m', rfl, by rw [hk]; exact hQ'⟩))) (I.mode.counted h0 hin (by omega) (.inr rfl))
        (by rw [ofEvents_mark]; exact I.tr.relm hk _ _ (fun j hj => upd_ne ph _ hj) hp (by rw [upd_same])) (.inl (by omega)) (fun _ => .inl ⟨i, h0, hin, by rw [upd_same]; omega⟩)
      exact ⟨gs', x, y, f0', ph', fu', _, h1, h2, h3⟩
    · exact I.quietW C h0 hi hmu hgo (f' := m' + 1) (.inr (.inl ⟨hp, m', rfl, hQ'⟩)) (by omega) d
  · -- on its way to its Add
    rcases hQ.cases with ⟨hr, hk, hadd⟩ | ⟨m', g', es, hm, hmu, hgo, hQ'⟩
    · obtain ⟨v, wt, hv, hwt, hx, hy, hmode⟩ := I.mode.atAdd I.ph0 h0 hin hp
      have hVn := VcS_le n ph
      obtain ⟨g', hnext, hgo⟩ := hadd v wt (by omega) hwt
      have hgo' := hgo (wat w0 st sm x y d) (by rw [C.cell_st, hx]) C.thaw_st
      rw [C.set_st] at hgo'
      subst hy
      have hT : ∀ p, p ≤ 5 → TrS Sh (StOf Inb) st sm qc mC (upd ph i p) (T ++ MemOp.ofEvents i g.frame.fn g.frame.place #[⟨.cell st, false, true⟩, ⟨.cell st, true, true⟩]) := fun p hp5 =>
        I.tr.book (bkS_rw (.inl rfl)) (fun j e _ => .inr (by rw [deaf_cells (cells_rw st)]; omega)) (by omega) (fun j hj => upd_ne ph _ hj) (by rw [upd_same]; exact hp5) C.place
      by_cases e : v = 0 ∧ wt = 1
      · rw [if_pos e] at hnext
        obtain ⟨m', hQ'⟩ := hnext
        obtain ⟨gs', f0', ph', fu', h1, h2, h3⟩ := I.goW (d := d) (sl := sl) C h0 hi hgo' (p := 4) (f' := m' + 1) (.inr (.inr (.inr (.inl ⟨rfl, m', rfl, by rw [deaf_all (cells_rw st)]; exact hQ'⟩)))) (hmode 4 (by rw [if_pos e])) (hT 4 (by omega)) (.inl (by omega))
          (fun _ => .inl ⟨i, h0, hin, by rw [upd_same]; omega⟩)
        exact ⟨gs', _, _, f0', ph', fu', _, h1, h2, h3⟩
      · rw [if_neg e] at hnext
        obtain ⟨m', hQ'⟩ := hnext
        have hm1 := hmode 1 (by rw [if_neg e])
        obtain ⟨gs', f0', ph', fu', h1, h2, h3⟩ := I.goW (d := d) (sl := sl) C h0 hi hgo' (p := 1) (f' := m') (.inr (.inr (.inr (.inr (.inr (.inr ⟨rfl, by rw [deaf_all (cells_rw st)]; exact hQ'.quits⟩)))))) hm1 (hT 1 (by omega)) (.inl (by omega))
          (fun hf0 => .inl (by
            have hVu := VcS_upd ph 1 hin
            have c1 : cntS (ph i) = 1 := by simp [cntS, hp]
            have c2 : cntS 1 = 0 := rfl
            refine exists_counted (by rw [upd_ne ph _ (Nat.ne_of_lt h0)]; exact I.ph0) ?_
            obtain ⟨a, ha, hsit⟩ := I.main
            rcases hsit with ⟨q, hq, _⟩ | ⟨rfl, _⟩
            · omega
            · -- goroutine 0 waits: it is counted in
              have hwt1 : wt = 1 := by
                have hm := I.mode
                rw [hx] at hm
                generalize hX : ((v + 1 : Nat) : Int) * K32 + (wt : Int) = X at hm
                generalize hY : (0 : Int) = Y at hm
                cases hm with
                | opn h1 _ => exact h1.elim
                | reg _ _ _ => rw [hv] at hX; simp only [K32] at hX; omega
                | last L _ _ _ h4 h5 =>
                  by_cases eL : i = L
                  · subst eL; omega
                  · have := h5 i h0 hin eL; omega
                | sema _ h5 => have := h5 i h0 hin; omega
                | fin h1 _ => exact h1.elim
              omega))
        exact ⟨gs', _, _, f0', ph', fu', _, h1, h2, h3⟩
    · exact I.quietW C h0 hi hmu hgo (f' := m' + 1) (.inr (.inr (.inl ⟨hp, m', rfl, hQ'⟩))) (by omega) d
  · -- the last one: on its way to its load
    rcases hQ.cases with ⟨hr, hk, g', ⟨m', hQ'⟩, hgo⟩ | ⟨m', g', es, hm, hmu, hgo, hQ'⟩
    · obtain ⟨hreg, hoth, hx, hy⟩ := I.mode.isLast h0 hin (.inl hp)
      rw [if_neg (by omega)] at hx
      subst hx hy
      obtain ⟨gs', f0', ph', fu', h1, h2, h3⟩ := I.goW (x' := 1) (y' := 0) (d := d) (sl := sl) C h0 hi (hgo _ C.cell_st) (p := 3) (f' := m' + 1) (.inr (.inr (.inr (.inr (.inl ⟨rfl, m', rfl, by rw [deaf_all (cells_r st)]; exact hQ'⟩)))))
        (ModeS.next hreg hoth h0 hin (p := 3) (.inr (.inl rfl))) (I.tr.book (bkS_r (.inl rfl)) (fun j e _ => .inr (by rw [deaf_cells (cells_r st)]; omega)) (by omega) (fun j hj => upd_ne ph _ hj) (by rw [upd_same]; omega) C.place) (.inl (by omega))
        (fun _ => .inl ⟨i, h0, hin, by rw [upd_same]; omega⟩)
      exact ⟨gs', _, _, f0', ph', fu', _, h1, h2, h3⟩
    · exact I.quietW C h0 hi hmu hgo (f' := m' + 1) (.inr (.inr (.inr (.inl ⟨hp, m', rfl, hQ'⟩)))) (by omega) d
  · -- to its store
    rcases hQ.cases with ⟨hr, hk, g', ⟨m', hQ'⟩, hgo⟩ | ⟨m', g', es, hm, hmu, hgo, hQ'⟩
    · obtain ⟨hreg, hoth, hx, hy⟩ := I.mode.isLast h0 hin (.inr (.inl hp))
      rw [if_neg (by omega)] at hx
      subst hx hy
      have hgo' := hgo (wat w0 st sm 1 0 d) _ C.cell_st C.thaw_st
      rw [C.set_st] at hgo'
      obtain ⟨gs', f0', ph', fu', h1, h2, h3⟩ := I.goW (d := d) (sl := sl) C h0 hi hgo' (p := 2) (f' := m' + 1) (.inr (.inr (.inr (.inr (.inr (.inl ⟨rfl, m', rfl, by rw [deaf_all (cells_w st)]; exact hQ'⟩))))))
        (ModeS.next hreg hoth h0 hin (p := 2) (.inr (.inr rfl))) (I.tr.book (bkS_w (.inl rfl)) (fun j e _ => .inr (by rw [deaf_cells (cells_w st)]; omega)) (by omega) (fun j hj => upd_ne ph _ hj) (by rw [upd_same]; omega) C.place) (.inl (by omega))
        (fun _ => .inl ⟨i, h0, hin, by rw [upd_same]; omega⟩)
      exact ⟨gs', _, _, f0', ph', fu', _, h1, h2, h3⟩
    · exact I.quietW C h0 hi hmu hgo (f' := m' + 1) (.inr (.inr (.inr (.inr (.inl ⟨hp, m', rfl, hQ'⟩))))) (by omega) d
  · -- to the semaphore
    rcases hQ.cases with ⟨hr, hmw, hk, g', ⟨m', hQ'⟩, hgo⟩ | ⟨m', g', es, hm, hmu, hgo, hQ'⟩
    · obtain ⟨hreg, hoth, hx, hy⟩ := I.mode.isLast h0 hin (.inr (.inr hp))
      rw [if_pos hp] at hx
      subst hx hy
      have hgo' := hgo (wat w0 st sm 0 0 d) _ C.cell_sm C.thaw_sm
      rw [C.set_sm] at hgo'
      have e1 : IntKind.u32.wrap (0 + 1) = 1 := by decide
      rw [e1] at hgo'
      obtain ⟨gs', f0', ph', fu', h1, h2, h3⟩ := I.goW (d := d) (sl := sl) C h0 hi hgo' (p := 1) (f' := m') (.inr (.inr (.inr (.inr (.inr (.inr ⟨rfl, by rw [deaf_sem]; exact hQ'.quits⟩))))))
        (ModeS.gone hreg hoth) (I.tr.book (bkS_sem (.inr rfl)) (sem_inside hk sm) (by omega) (fun j hj => upd_ne ph _ hj) (by rw [upd_same]; omega) C.place) (.inl (by omega)) (fun _ => .inr hmw)
      exact ⟨gs', _, _, f0', ph', fu', _, h1, h2, h3⟩
    · exact I.quietW C h0 hi hmu hgo (f' := m' + 1) (.inr (.inr (.inr (.inr (.inr (.inl ⟨hp, m', rfl, hQ'⟩)))))) (by omega) d
  · -- it only leaves
    generalize hfu : fu i = m at hQ
    cases m with
    | zero => rw [hQ.1] at hrun; cases hrun
    | succ m =>
      rcases hQ with ⟨hf, _⟩ | ⟨_, g', es, hmu, hgo, hQ'⟩
      · rw [hf] at hrun; cases hrun
      · exact I.quietW C h0 hi hmu (fun w _ => hgo w) (f' := m) (.inr (.inr (.inr (.inr (.inr (.inr ⟨hp, hQ'⟩)))))) (by omega) d
end
end Go.Proofs.Ytfpkachoneaaeaa
namespace Go.Proofs.Ytfpkachoneaaeaa
open Go Go.Conc
open Go.ConcN (sumTo upd sumTo_upd upd_ne upd_same le_sumTo sumTo_congr sumTo_le)
section
variable {P : Program} {Post : Value → World → Prop} {Sh : Loc → Prop} {Inb : Nat → Option Chair} {st sm : Addr} {qc mC n : Nat} {w0 : World} {Fin : Goroutine → Prop} {t t' : Tag} {f0 f0' : Nat} {ph fu : Nat → Nat} {gs : Array Goroutine} {x y x' y' : Int} {d : Nat} {T : Trace} {i : Nat} {a a' : Goroutine} {sl : Option (Nat × Nat)}
theorem InvS.goM (C : CtxS P Sh Inb st sm qc n w0) (I : InvS P Sh Inb st sm qc mC Fin n w0 t f0 ph fu gs x y T) (ha : gs[0]? = some a) {es : Array Event} (hgo : stepG P true a (wat w0 st sm x y d) = .go a' (wat w0 st sm x' y' d) es)
    (hS : MSit P st sm Fin t' f0' (deafBehind (Deaf T 0) es) a') (hM : ModeS n ph t' x' y') (hT : TrS Sh (StOf Inb) st sm qc mC ph (T ++ MemOp.ofEvents 0 a.frame.fn a.frame.place es))
    (hlow : t'.rank (VcS n ph) < t.rank (VcS n ph) ∨ (t'.rank (VcS n ph) = t.rank (VcS n ph) ∧ f0' < f0)) (hwk : f0' = 0 → ∃ j, 0 < j ∧ j < n ∧ 2 ≤ ph j) :
    ∃ gs' x' y' t' f0' ph' fu' ops, runT P (crowd gs (wat w0 st sm x y d) sl) 0 = (.next (crowd gs' (wat w0 st sm x' y' d) sl), ops) ∧ InvS P Sh Inb st sm qc mC Fin n w0 t' f0' ph' fu' gs' x' y' (T ++ ops) ∧ LowS n t' f0' ph' fu' t f0 ph fu := by
  have hlt : 0 < gs.size := (Array.getElem?_eq_some_iff.1 ha).1
  refine ⟨_, x', y', t', f0', ph, fu, _, runT_crowd_go (P := P) (sl := sl) (i := 0) ha hgo, ⟨by simp [I.size], I.pos, ⟨a', Array.getElem?_setIfInBounds_self_of_lt (by simpa using hlt), by rw [Deaf_own]; exact hS⟩, fun j gj hj0 hj => ?_, I.ph0, I.out, hM, hwk, hT, fun j hj => ?_⟩, ?_⟩
  · rw [Array.getElem?_setIfInBounds_ne (Nat.ne_of_lt hj0), Array.getElem?_map] at hj
    obtain ⟨gj', hj', rfl⟩ := Option.map_eq_some_iff.1 hj
    have h1 := I.wk j gj' hj0 hj'
    rw [woken_of_again (again_of_running (h1.status fun ch hc => ⟨w0, C.keep j ch hc⟩) _), Deaf_other T (g' := 0) (Nat.ne_of_lt hj0) _ ofEvents_g]
    exact h1
  · have := I.pos
    rw [Deaf_other T (g' := 0) (by clear hwk; omega) _ ofEvents_g]
    exact I.above j hj
  · clear hwk
    rcases hlow with q | ⟨q, q2⟩
    · left; simp only [mu1]; omega
    · right; simp only [mu1, mu2]; omega
theorem ModeS.reg_tag {t t' : Tag} (hm : ModeS n ph t x y) (h : t.reg) (h' : t'.reg) : ModeS n ph t' x y := by
  cases hm with
  | opn h1 _ => cases t <;> first | exact h.elim | exact h1.elim
  | reg _ h2 h3 => exact .reg h' h2 h3
  | last L _ h2 h3 h4 h5 => exact .last L h' h2 h3 h4 h5
  | sema _ h2 => exact .sema h' h2
  | fin h1 _ => cases t <;> first | exact h.elim | exact h1.elim
theorem ModeS.fin_inv {t : Tag} (hm : ModeS n ph t x y) (h : t.fin) : AllS n ph ∧ x = 0 ∧ y = 0 := by
  cases hm with
  | opn h1 _ => cases t <;> first | exact h.elim | exact h1.elim
  | reg h1 _ _ => cases t <;> first | exact h.elim | exact h1.elim
  | last L h1 _ _ _ _ => cases t <;> first | exact h.elim | exact h1.elim
  | sema h1 _ => cases t <;> first | exact h.elim | exact h1.elim
  | fin _ h2 => exact ⟨h2, rfl, rfl⟩
theorem ModeS.opn_inv {t : Tag} (hm : ModeS n ph t x y) (h : ¬ t.reg) (h' : ¬ t.fin) : t.opn (VcS n ph) ∧ OpenS n ph ∧ x = (VcS n ph : Int) * K32 ∧ y = 0 := by
  cases hm with
  | opn h1 h2 => exact ⟨h1, h2, rfl, rfl⟩
  | reg h1 _ _ => exact (h h1).elim
  | last L h1 _ _ _ _ => exact (h h1).elim
  | sema h1 _ => exact (h h1).elim
  | fin h1 _ => exact (h' h1).elim
theorem ModeS.reg_inv {t : Tag} (hm : ModeS n ph t x y) (h0 : ph 0 = 0) (h : t.reg) : (y = 1 ∧ x = 0 ∧ AllS n ph) ∨ (y = 0 ∧ ∃ j, 0 < j ∧ j < n ∧ 2 ≤ ph j) := by
  cases hm with
  | opn h1 _ => cases t <;> first | exact h.elim | exact h1.elim
  | reg _ _ h3 => exact .inr ⟨rfl, exists_counted h0 h3⟩
  | last L _ h2 h3 h4 _ => exact .inr ⟨rfl, L, h2, h3, by omega⟩
  | sema _ h2 => exact .inl ⟨rfl, rfl, h2⟩
  | fin h1 _ => cases t <;> first | exact h.elim | exact h1.elim
theorem main_r {a : Addr} (ha : a = st ∨ a = sm) : ∀ e ∈ (#[⟨.cell a, false, true⟩] : Array Event), BkS st sm e ∨ e = ⟨.mark (.write sm), false, true⟩ := fun e he => .inl (bkS_r ha e he)
/-- Goroutine 0 stands at its Acquire, and all have gone. -/
structure DoneS (P : Program) (Sh : Loc → Prop) (Inb : Nat → Option Chair) (st sm : Addr) (qc mC : Nat) (Fin : Goroutine → Prop) (n : Nat) (w0 : World) (t : Tag) (f0 : Nat) (ph fu : Nat → Nat) (gs : Array Goroutine) (x y : Int) (T : Trace) (a : Goroutine) : Prop where
  inv : InvS P Sh Inb st sm qc mC Fin n w0 t f0 ph fu gs x y T
  tag : t = .acq
  here : gs[0]? = some a
  stop : AtAcq P st Fin (Deaf T 0) a
/-- ████ GOROUTINE 0's STEP. ████ -/
theorem InvS.main_step (C : CtxS P Sh Inb st sm qc n w0) (I : InvS P Sh Inb st sm qc mC Fin n w0 t f0 ph fu gs x y T) (ha : gs[0]? = some a) (hrun : a.status = .running) (d : Nat) (sl : Option (Nat × Nat)) :
    DoneS P Sh Inb st sm qc mC Fin n w0 t f0 ph fu gs x y T a ∨
    ∃ gs' x' y' t' f0' ph' fu' ops, runT P (crowd gs (wat w0 st sm x y d) sl) 0 = (.next (crowd gs' (wat w0 st sm x' y' d) sl), ops) ∧ InvS P Sh Inb st sm qc mC Fin n w0 t' f0' ph' fu' gs' x' y' (T ++ ops) ∧ LowS n t' f0' ph' fu' t f0 ph fu := by
  obtain ⟨a1, ha1, hsit⟩ := I.main
  obtain rfl : a = a1 := by rw [ha] at ha1; exact Option.some.inj ha1
  have hb1 : ∀ k : Nat, deafBehind k #[⟨.cell st, false, true⟩] = k := fun k => deaf_all (cells_r st)
  have hb2 : ∀ k : Nat, deafBehind k #[⟨.cell st, false, true⟩, ⟨.cell st, true, true⟩] = k := fun k => deaf_all (cells_rw st)
  rcases hsit with ⟨m, hf, hQ⟩ | ⟨_, _, a₀, rfl, _⟩
  · rcases hQ.cases with hstop | ⟨m', g', es, hm, hmu, hgo, hQ'⟩
    · have hT1 : TrS Sh (StOf Inb) st sm qc mC ph (T ++ MemOp.ofEvents 0 a.frame.fn a.frame.place #[⟨.cell st, false, true⟩]) := I.tr.main (main_r (.inl rfl)) C.place
      cases t with
      | ld mm =>
        right
        obtain ⟨hop, hO, hx, hy⟩ := I.mode.opn_inv (fun q => q) (fun q => q)
        subst hy
        simp only [Tag.opn] at hop
        by_cases hv : VcS n ph = 0
        · obtain ⟨_, g', ⟨m', hQ'⟩, hgo⟩ := AtLd.zero P st sm Fin hstop
          exact I.goM (x' := x) (y' := 0) (t' := .acq) (f0' := m' + 1) C ha (hgo _ (by rw [C.cell_st, hx, hv]; simp)) (.inl ⟨m', rfl, by rw [hb1]; exact hQ'⟩) (by rw [hx, hv]; simpa using ModeS.fin (t := .acq) trivial (AllS.of_open hO hv)) hT1 (.inl (by simp only [Tag.rank]; omega)) (fun q => by omega)
        · obtain ⟨m2, rfl⟩ : ∃ m2, mm = m2 + 1 := ⟨mm - 1, by omega⟩
          obtain ⟨g', ⟨m', hQ'⟩, hgo⟩ := hstop.2 (VcS n ph) (by omega) hop
          exact I.goM (x' := x) (y' := 0) (t' := .cas m2 (VcS n ph)) (f0' := m' + 1) C ha (hgo _ (by rw [C.cell_st, hx])) (.inl ⟨m', rfl, by rw [hb1]; exact hQ'⟩) (by rw [hx]; exact .opn ⟨Nat.le_refl _, by omega, hop⟩ hO) hT1 (.inl (by simp only [Tag.rank]; omega)) (fun q => by omega)
      | cas mm vs =>
        right
        obtain ⟨hop, hO, hx, hy⟩ := I.mode.opn_inv (fun q => q) (fun q => q)
        subst hy
        simp only [Tag.opn] at hop
        obtain ⟨_, ⟨g1, ⟨m1, hQ1⟩, hgo1⟩, ⟨g2, ⟨m2, hQ2⟩, hgo2⟩⟩ := hstop
        by_cases hv : VcS n ph = vs
        · have hgo' := hgo1 (wat w0 st sm x 0 d) (by rw [C.cell_st, hx, hv]) C.thaw_st
          rw [C.set_st] at hgo'
          exact I.goM (t' := .mk) (f0' := m1 + 1) C ha hgo' (.inl ⟨m1, rfl, by rw [hb2]; exact hQ1⟩) (by rw [← hv]; exact .reg trivial hO (by omega)) (I.tr.main (fun e he => .inl (bkS_rw (.inl rfl) e he)) C.place) (.inl (by simp only [Tag.rank]; omega)) (fun q => by omega)
        · exact I.goM (x' := x) (y' := 0) (t' := .ld mm) (f0' := m2 + 1) C ha (hgo2 _ (VcS n ph) (by omega) (by rw [C.cell_st, hx]) C.thaw_st) (.inl ⟨m2, rfl, by rw [hb1]; exact hQ2⟩) (by rw [hx]; exact .opn (show VcS n ph ≤ mm by omega) hO) hT1 (.inl (by simp only [Tag.rank]; omega)) (fun q => by omega)
      | mk =>
        right
        obtain ⟨_, g', ⟨m', hQ'⟩, hgo⟩ := hstop
        exact I.goM (x' := x) (y' := y) (t' := .sa) (f0' := m' + 1) C ha (hgo _) (.inl ⟨m', rfl, hQ'⟩) (I.mode.reg_tag trivial trivial) (I.tr.main (fun e he => .inr (by simpa using he)) C.place) (.inl (by simp only [Tag.rank]; omega)) (fun q => by omega)
      | sa =>
        right
        obtain ⟨_, hoff, g', ⟨m', hQ'⟩, hgo1, hgo0⟩ := id hstop
        rcases I.mode.reg_inv I.ph0 trivial with ⟨hy, hx, hall⟩ | ⟨hy, hw⟩
        · subst hy hx
          have hgo' := hgo1 (wat w0 st sm 0 1 d) C.cell_sm C.thaw_sm
          rw [C.set_sm] at hgo'
          exact I.goM (t' := .ld2) (f0' := m' + 1) C ha hgo' (.inl ⟨m', rfl, by rw [deaf_sem]; exact hQ'⟩) (.fin trivial hall) (I.tr.main (fun e he => .inl (bkS_sem (.inr rfl) e he)) C.place) (.inl (by simp only [Tag.rank]; omega)) (fun q => by omega)
        · subst hy
          exact I.goM (x' := x) (y' := 0) (t' := .sa) (f0' := 0) C ha (hgo0 _ C.cell_sm) (.inr ⟨rfl, rfl, a, rfl, hstop⟩) I.mode (I.tr.main (by simp) C.place) (.inr ⟨rfl, by clear hw; omega⟩) (fun _ => hw)
      | ld2 =>
        right
        obtain ⟨hall, hx, hy⟩ := I.mode.fin_inv trivial
        subst hx hy
        obtain ⟨_, g', ⟨m', hQ'⟩, hgo⟩ := hstop
        exact I.goM (x' := 0) (y' := 0) (t' := .acq) (f0' := m' + 1) C ha (hgo _ C.cell_st) (.inl ⟨m', rfl, by rw [hb1]; exact hQ'⟩) (.fin trivial hall) hT1 (.inl (by simp only [Tag.rank]; omega)) (fun q => by omega)
      | acq => exact .inl ⟨I, rfl, ha, hstop⟩
    · right
      have hq := CtxS.deaf_quiet (i := 0) (g := a) hmu
      exact I.goM (x' := x) (y' := y) (t' := t) (f0' := m' + 1) C ha (hgo _ C.ks) (.inl ⟨m', rfl, hQ'⟩) I.mode (I.tr.mute ofEvents_g (fun op hop => (hq op hop).1) (fun op hop => (hq op hop).2) (fun _ q => q) (fun _ q => q) (fun g' q1 q2 => (I.tr.seen g' q1 q2).app _)) (.inr ⟨rfl, by omega⟩) (fun q => by omega)
  · cases hrun
/-- ████ FROM THE CLOSE TO THE END OF Wait. ████ -/
theorem InvS.ends (C : CtxS P Sh Inb st sm qc n w0) (I : InvS P Sh Inb st sm qc mC Fin n w0 t f0 ph fu gs x y T) (d : Nat) (sl : Option (Nat × Nat))
    (cont : ∀ gs' g' d' T' q' sl', gs'.size = n → gs'[0]? = some g' → Fin g' → Hold P (fun l => Sh l ∨ l = .cell st ∨ l = .cell sm) (fun _ => none) 0 T' gs' (wat w0 st sm 0 0 d') q' → Deaf T' 0 = 0 → Ends P Post (crowd gs' (wat w0 st sm 0 0 d') sl') T') :
    Ends P Post (crowd gs (wat w0 st sm x y d) sl) T := by
  have key : ∀ (N1 N2 : Nat) (t : Tag) (f0 : Nat) (ph fu : Nat → Nat) (gs : Array Goroutine) (x y : Int) (T : Trace) (d : Nat) (sl : Option (Nat × Nat)), mu1 n t ph = N1 → mu2 n f0 fu = N2 → InvS P Sh Inb st sm qc mC Fin n w0 t f0 ph fu gs x y T → Ends P Post (crowd gs (wat w0 st sm x y d) sl) T := by
    intro N1
    induction N1 using Nat.strongRecOn with
    | _ N1 ih1 =>
      intro N2
      induction N2 using Nat.strongRecOn with
      | _ N2 ih2 =>
        intro t f0 ph fu gs x y T d sl h1 h2 I
        have hst : ∀ j gj, 0 < j → gs[j]? = some gj → gj.status = .running ∨ gj.status = .finished := fun j gj h0 hj => (I.wk j gj h0 hj).status fun ch hc => ⟨w0, C.keep j ch hc⟩
        obtain ⟨a, ha, hsit⟩ := I.main
        have haw : ∀ g ∈ gs, awake g := by
          intro g hg
          obtain ⟨j, hj, rfl⟩ := Array.mem_iff_getElem.1 hg
          by_cases e : j = 0
          · subst e
            obtain rfl : gs[0] = a := by rw [Array.getElem?_eq_getElem hj] at ha; exact Option.some.inj ha
            rcases hsit with ⟨m, _, h⟩ | ⟨_, _, a₀, e, h⟩
            · exact awake_of (.inl (Qs.running (fun _ _ q => Tag.running P st sm Fin q) h))
            · rw [e]; exact awake_of (.inr (.inl rfl))
          · rcases hst j _ (by omega) (Array.getElem?_eq_getElem hj) with q | q
            · exact awake_of (.inl q)
            · exact awake_of (.inr (.inr q))
        have hsome : ∃ (j : Nat) (g : Goroutine), gs[j]? = some g ∧ g.status = .running := by
          rcases hsit with ⟨m, _, h⟩ | ⟨_, hf, a₀, e, h⟩
          · exact ⟨0, a, ha, Qs.running (fun _ _ q => Tag.running P st sm Fin q) h⟩
          · obtain ⟨j, hj0, hjn, hp⟩ := I.wake hf
            have hjs : j < gs.size := by rw [I.size]; exact hjn
            have hW := I.wk j _ hj0 (Array.getElem?_eq_getElem hjs)
            refine ⟨j, _, Array.getElem?_eq_getElem hjs, ?_⟩
            rcases hst j _ hj0 (Array.getElem?_eq_getElem hjs) with q | q
            · exact q
            · exfalso
              have hne : gs[j].status ≠ .running := by rw [q]; simp
              rcases hW with ⟨_, _, ch, hc, m, wx, _, hG⟩ | ⟨_, m, _, hQ⟩ | ⟨_, m, _, hQ⟩ | ⟨_, m, _, hQ⟩ | ⟨_, m, _, hQ⟩ | ⟨_, m, _, hQ⟩ | ⟨hp1, _⟩
              · cases m with
                | zero => obtain ⟨g₂, h, _⟩ := hG w0 (C.keep j ch hc); exact hne h
                | succ m =>
                  rcases hG with hG | hG
                  · obtain ⟨g₂, h, _⟩ := hG w0 (C.keep j ch hc); exact hne h
                  · exact hne hG.1
              · exact hne (Qs.running (fun _ _ q => q.1) hQ)
              · exact hne (Qs.running (fun _ _ q => q.1) hQ)
              · exact hne (Qs.running (fun _ _ q => q.1) hQ)
              · exact hne (Qs.running (fun _ _ q => q.1) hQ)
              · exact hne (Qs.running (fun _ _ q => q.1) hQ)
              · omega
        obtain ⟨j, g, d', sl', hj, hg, hpick⟩ := crowd_pick (P := P) (w := wat w0 st sm x y d) (sl := sl) haw hsome
        have hpick' : stepT P (crowd gs (wat w0 st sm x y d) sl) = runT P (crowd gs (wat w0 st sm x y d') sl') j := hpick
        have next : (∃ gs' x' y' t' f0' ph' fu' ops, runT P (crowd gs (wat w0 st sm x y d') sl') j = (.next (crowd gs' (wat w0 st sm x' y' d') sl'), ops) ∧ InvS P Sh Inb st sm qc mC Fin n w0 t' f0' ph' fu' gs' x' y' (T ++ ops) ∧ LowS n t' f0' ph' fu' t f0 ph fu) →
            Ends P Post (crowd gs (wat w0 st sm x y d) sl) T := by
          rintro ⟨gs', x', y', t', f0', ph', fu', ops, hr, I', hl⟩
          refine Ends.step (hpick'.trans hr) ?_
          rcases hl with q | ⟨q1, q2⟩
          · exact ih1 _ (by omega) _ t' f0' ph' fu' gs' x' y' _ d' sl' rfl rfl I'
          · exact ih2 _ (by omega) t' f0' ph' fu' gs' x' y' _ d' sl' (by omega) rfl I'
        by_cases e : j = 0
        · subst e
          rcases I.main_step C hj hg d' sl' with D | hN
          · obtain ⟨_, htag, _, hr, hk, g', hfin, hgo⟩ := D
            subst htag
            obtain ⟨hall, hx, hy⟩ := I.mode.fin_inv trivial
            subst hx hy
            have hlt : 0 < gs.size := (Array.getElem?_eq_some_iff.1 hj).1
            have hrt := runT_crowd_go (P := P) (sl := sl') (i := 0) hj (hgo (wat w0 st sm 0 0 d'))
            refine Ends.step (hpick'.trans hrt) ?_
            have hp1 : ∀ i, ph i ≤ 1 := fun i => by
              by_cases e0 : i = 0
              · subst e0; rw [I.ph0]; omega
              · by_cases hi : i < n
                · rw [hall i (by omega) hi]; omega
                · exact I.out i (by omega)
            refine cont _ g' d' _ fu sl' (by simp [I.size]) (Array.getElem?_setIfInBounds_self_of_lt (by simpa using hlt)) hfin ⟨fun i gi hi hgi => ?_, fun _ _ _ h => (by cases h), fun _ _ h => (by cases h), fun i hi => ?_, ?_, fun _ _ h => (by cases h), fun i l hl => by obtain ⟨ch, h, _⟩ := hl; cases h⟩ ?_
            · rw [Array.getElem?_setIfInBounds_ne (fun z => hi z.symm), Array.getElem?_map] at hgi
              obtain ⟨gi', hgi', rfl⟩ := Option.map_eq_some_iff.1 hgi
              rw [woken_of_again (again_of_running (hst i gi' (by omega) hgi') _)]
              have hi' : i < n := by rw [← I.size]; exact (Array.getElem?_eq_some_iff.1 hgi').1
              have hW := I.wk i gi' (by omega) hgi'
              rw [hall i (by omega) hi'] at hW
              refine ⟨by omega, ?_⟩
              rw [Deaf_other T (g' := 0) (fun z => hi z.symm) _ ofEvents_g]
              rcases hW with ⟨h, _⟩ | ⟨h, _⟩ | ⟨h, _⟩ | ⟨h, _⟩ | ⟨h, _⟩ | ⟨h, _⟩ | ⟨_, h⟩
              · cases h
              · cases h
              · cases h
              · cases h
              · cases h
              · cases h
              · exact h
            · simp only [Array.size_setIfInBounds, Array.size_map, I.size] at hi
              have := I.pos
              rw [Deaf_other T (g' := 0) (by omega) _ ofEvents_g]
              exact I.above i hi
            · rw [ofEvents_mark]
              refine ((I.tr.done (St' := StOf fun _ => none) hk hp1).fewer fun i hi => by cases hi).loosen fun i hi => hi.elim
            · rw [Deaf_own, hk]; rfl
          · exact next hN
        · obtain ⟨gs', x', y', f0', ph', fu', ops, h1, h2, h3⟩ := I.worker C (by omega) hj hg d' sl'
          exact next ⟨gs', x', y', t, f0', ph', fu', ops, h1, h2, h3⟩
  exact key _ _ t f0 ph fu gs x y T d sl rfl rfl I
end
end Go.Proofs.Ytfpkachoneaaeaa
namespace Go.Proofs.Ytfpkachoneaaeaa
open Go Go.Conc
open Go.ConcN (sumTo upd sumTo_upd upd_ne upd_same le_sumTo sumTo_congr sumTo_le)
theorem setCell_self {w : World} {a : Addr} {v : Value} (h : w.cell? a = some v) (hs : a.spot = none) : w.setCell a v = w := by
  unfold World.setCell
  obtain ⟨heap, x1, x2, x3, x4⟩ := w
  simp only [World.mk.injEq, and_true]
  apply Array.ext_getElem?
  intro k
  simp only [Array.getElem?_modify]
  split
  · rename_i e
    subst e
    unfold World.cell? at h
    simp only at h
    cases e : heap[a.block]? with
    | none => rfl
    | some o =>
      rw [e] at h
      cases o <;> simp only [Option.map_some] <;> (try rfl)
      rw [hs]
      simp only [Option.isSome_none, Bool.false_eq_true, if_false]
      rw [hs] at h
      simp at h
      congr 2
      apply Array.ext_getElem?
      intro m
      simp only [Array.getElem?_setIfInBounds]
      split
      · rename_i e1
        subst e1
        split
        · exact h.symm
        · rename_i e2
          rw [Array.getElem?_eq_none (by omega)]
      · rfl
  · rfl
/-- Who has a chair has not heard of the close; who has none only leaves. -/
def phs (Inb : Nat → Option Chair) (i : Nat) : Nat := if i = 0 then 0 else if (Inb i).isSome = true then 7 else 1
/-- Nobody sits; the group's cells are shunned. -/
def Scene.shut (Z : Scene) (st sm : Addr) (h1 : Z.Hd st.block) (h2 : Z.Hd sm.block) : Scene where
  Sh := fun l => Z.Sh l ∨ l = .cell st ∨ l = .cell sm
  Inb := fun _ => none
  Hd := Z.Hd
  C := Z.C
  place := fun _ _ _ _ h => by cases h
  chan := fun _ _ _ h => by cases h
  shun := fun l h => h.elim (Z.shun l) fun h => h.elim (fun e => ⟨st, e, h1⟩) fun e => ⟨sm, e, h2⟩
  apart := Z.apart
section
variable {P : Program} {Post : Value → World → Prop} {Z : Scene} {st sm : Addr} {qc n m cap k : Nat} {w : World} {Fin : Goroutine → Prop} {a a' : Goroutine}
theorem Run.close (hr : a.status = .running) (hmw : mayWake P a = true) (hr' : a'.status = .running) (hq : w.heap[qc]? = some (.chan cap #[] false k k false))
    (hclose : ∀ d, stepG P true a (w.at d) = .go a' ((w.at d).setChan qc cap #[] true k k false) (closeEvents qc))
    (hne : st ≠ sm) (hspot : st.spot = none ∧ sm.spot = none) (h1 : Z.Hd st.block) (h2 : Z.Hd sm.block) (hp : ¬ Z.Place st ∧ ¬ Z.Place sm) (hns : ¬ Z.Sh (.cell st) ∧ ¬ Z.Sh (.cell sm))
    (hst : w.cell? st = some (.int .u64 ((VcS n (phs Z.Inb) : Int) * K32))) (hsm : w.cell? sm = some (.int .u32 0)) (hz : w.frozen? st = false ∧ w.frozen? sm = false) (hm : VcS n (phs Z.Inb) ≤ m) (hsmall : n < 2147483647)
    (hI0 : Z.Inb 0 = none) (hIn : ∀ i, n ≤ i → Z.Inb i = none)
    (hwakes : ∀ i ch, Z.Inb i = some ch → ∃ (kk : Nat) (z : Value), ch.seat.cases[kk]? = some (rcase qc z) ∧ ∀ g, ch.seat.home g → Qt P false (KS st sm) (AtRelm P st sm) 0 (Go.Conc.served g (commResult ch.seat.cases ch.seat.shape kk z false)))
    (hQ : Qt P true (KS st sm) (AtLd P st sm Fin m) 0 a')
    (cont : ∀ g', Fin g' → Run P Post (Z.shut st sm h1 h2) n 0 0 g' (((w.setChan qc cap #[] true k k false).setCell st (.int .u64 0)).setCell sm (.int .u32 0))) : Run P Post Z n 0 0 a w := by
  intro d gs T q sl hn ha hok H hk
  refine Hold.picked ha hr H fun gs' d' sl' T' q' hsz' ha' H' hdf => ?_
  have hgo := hclose d'
  have hrt := runT_crowd_go (P := P) (sl := sl') (i := 0) ha' hgo
  refine ⟨_, _, hrt, ?_⟩
  let w0 : World := w.setChan qc cap #[] true k k false
  have hw0c : ∀ b, w0.cell? b = w.cell? b := fun b => cell_setChan hq rfl b
  have hw0z : ∀ b, w0.frozen? b = w.frozen? b := fun b => by
    unfold World.frozen?
    simp only [w0, World.setChan, Array.getElem?_setIfInBounds]
    by_cases e : qc = b.block
    · rw [← e, if_pos rfl, hq, if_pos (Array.getElem?_eq_some_iff.1 hq).1]
    · rw [if_neg e]
  have hlt : 0 < gs'.size := (Array.getElem?_eq_some_iff.1 ha').1
  have hgn : gs'.size = n := hsz'.trans hn
  have hd0 : Deaf T' 0 = 0 := hdf.trans hk
  have hplace : ∀ g l, StOf Z.Inb g l → l ≠ .cell st ∧ l ≠ .cell sm := fun g l hl =>
    ⟨fun e => by subst e; exact Scene.not_st hp.1 g hl, fun e => by subst e; exact Scene.not_st hp.2 g hl⟩
  have hquit : w0.heap[qc]? = some (.chan cap #[] true k k false) := heap_setChan_self w hq _ _ _ _ _ _
  have C : CtxS P Z.Sh Z.Inb st sm qc n w0 := by
    refine ⟨hne, hspot, by rw [hw0c, hst]; rfl, by rw [hw0c, hsm]; rfl, by rw [hw0z]; exact hz.1, by rw [hw0z]; exact hz.2, hplace, fun i ch hc b v hv => ?_, H'.wf, fun i ch c hc hs => ?_, ⟨cap, k, hquit⟩, hwakes, hsmall⟩
    · rw [hw0c]; exact H'.keep i ch hc b v hv
    · by_cases e : c = qc
      · exact .inl e
      · obtain ⟨cap', k', h'⟩ := H'.chans i ch c hc hs
        exact .inr ⟨cap', k', by rw [heap_setChan_ne w _ _ _ _ _ _ (Ne.symm e)]; exact h'⟩
  obtain ⟨mq, hQ⟩ := hQ
  have hwk : ∀ i gi, i ≠ 0 → gs'[i]? = some gi → WSit P st sm Z.Inb i (phs Z.Inb i) (if (Z.Inb i).isSome = true then max 1 (q' i) else q' i) (Deaf T' i) (woken P a a' ((w.at d').setChan qc cap #[] true k k false) gi) := by
    intro i gi hi0 hgi
    have hid := H'.idle i gi hi0 hgi
    cases e : Z.Inb i with
    | none =>
      rw [e] at hid
      rw [woken_of_again (again_of_running hid.2.status _)]
      refine .inr (.inr (.inr (.inr (.inr (.inr ⟨by simp [phs, hi0, e], ?_⟩)))))
      simpa using hid.2
    | some ch =>
      rw [e] at hid
      have hi' : (i == 0) = false := beq_false_of_ne hi0
      unfold Idl at hid
      simp only [hi'] at hid
      refine .inl ⟨by simp [phs, hi0, e], hid.2, ch, e, ?_⟩
      rcases hid.1 with ⟨kf, wf, hqf, hG⟩ | ⟨hq0, g₀, g₂, rfl, hat⟩
      · have hst : gi.status = .running := (Sits.status (H'.keep i ch e) (.inl ⟨kf, wf, hqf, hG⟩)).elim (·.1) (fun z => by omega)
        rw [woken_of_again (again_of_running (.inl hst) _)]
        exact ⟨kf, wf, by simp; omega, hG⟩
      · obtain ⟨kk, z, hkk, _⟩ := hwakes i ch e
        have hwok : woken P a a' ((w.at d').setChan qc cap #[] true k k false) (parked g₂ ch.seat.cases ch.seat.shape) = { parked g₂ ch.seat.cases ch.seat.shape with status := .running } := by
          unfold Go.Conc.woken
          rw [if_pos (by rw [hmw, hr']; rfl)]
          exact again_some_closed hkk hquit
        rw [hwok]
        refine ⟨0, w, by simp; omega, ?_⟩
        obtain ⟨_, hf1, hf2, hf3, hhome, es, hes, hstp⟩ := hat
        intro w₁ hK₁
        exact ⟨g₂, rfl, rfl, rfl, rfl, hhome, es, hes, fun w₂ hK₂ => by rw [← hstp w₂ hK₂]; exact stepG_same hf1.symm hf2.symm hf3.symm w₂⟩
  have hwat : (w.at d').setChan qc cap #[] true k k false = wat w0 st sm ((VcS n (phs Z.Inb) : Int) * K32) 0 d' := by
    have e1 : w0.setCell st (.int .u64 ((VcS n (phs Z.Inb) : Int) * K32)) = w0 := setCell_self (by rw [hw0c]; exact hst) hspot.1
    have e2 : w0.setCell sm (.int .u32 0) = w0 := setCell_self (by rw [hw0c]; exact hsm) hspot.2
    unfold wat
    rw [e1, e2]
    rfl
  have hclo : ∀ op ∈ MemOp.ofEvents 0 a.frame.fn a.frame.place (closeEvents qc), op.g = 0 := ofEvents_g
  have hdc : Deaf (T' ++ MemOp.ofEvents 0 a.frame.fn a.frame.place (closeEvents qc)) 0 = 0 := by
    rw [Deaf_own, hd0]; rfl
  have I : InvS P Z.Sh Z.Inb st sm qc (T'.size + 1) Fin n w0 (.ld m) (mq + 1) (phs Z.Inb) (fun i => if (Z.Inb i).isSome = true then max 1 (q' i) else q' i)
      ((gs'.map (woken P a a' ((w.at d').setChan qc cap #[] true k k false))).setIfInBounds 0 a') ((VcS n (phs Z.Inb) : Int) * K32) 0 (T' ++ MemOp.ofEvents 0 a.frame.fn a.frame.place (closeEvents qc)) := by
    refine ⟨by simp [hgn], by omega, ⟨a', Array.getElem?_setIfInBounds_self_of_lt (by simpa using hlt), .inl ⟨mq, rfl, by rw [hdc]; exact hQ⟩⟩, fun i gi hi0 hgi => ?_, rfl, fun i hi => ?_, .opn hm fun i hi0 hin => ?_, fun z => by omega, ?_, fun j hj => ?_⟩
    · rw [Array.getElem?_setIfInBounds_ne (by omega), Array.getElem?_map] at hgi
      obtain ⟨gi', hgi', rfl⟩ := Option.map_eq_some_iff.1 hgi
      rw [Deaf_other T' (g' := 0) (by omega) _ hclo]
      exact hwk i gi' (by omega) hgi'
    · simp only [phs, hIn i hi]
      split <;> simp
    · simp only [phs]
      split
      · omega
      · split <;> simp
    · refine TrS.start H'.past hd0 (fun g l hl => by obtain ⟨ch, _, b, v, e, _⟩ := hl; exact ⟨b, e⟩) (fun l hl => by obtain ⟨b, e, _⟩ := Z.shun l hl; exact ⟨b, e⟩) (fun g hg => by simp [phs, hg.2, hg.1]) (fun g hg => ?_) (fun g hg => ?_) hplace hns
      · simp only [phs] at hg
        split at hg
        · cases hg
        · split at hg
          · assumption
          · cases hg
      · simp only [phs] at hg
        split at hg
        · omega
        · split at hg <;> omega
    · rw [Deaf_other T' (g' := 0) (by omega) _ hclo]
      exact H'.above j (by rw [hgn]; exact hj)
  rw [hwat] at I ⊢
  refine I.ends C d' sl' fun gs2 g' d2 T2 q2 sl2 hs2 hg2 hfin H2 hd2 => ?_
  have hok2 : WOk P Z (w0.at d2) := WOk.at (WOk.setChan ⟨hok.obj, hok.hid, hok.chan⟩ hq rfl _ _ _ _ _ _) d2
  have hok3 := (hok2.setCell st (.int .u64 0)).setCell sm (.int .u32 0)
  exact cont g' hfin d2 gs2 T2 q2 sl2 hs2 hg2 ⟨hok3.obj, hok3.hid, hok3.chan⟩ H2 hd2
end
end Go.Proofs.Ytfpkachoneaaeaa
