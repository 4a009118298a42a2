/-
  A goroutine's way by steps that are the same in every world and touch nothing, up to a stop.
-/
import Derived.Test.YtfgpnfboolbbbaaBbRun
namespace Go.Proofs.Ytfgpnfboolbbbaa
open Go Go.Conc
def Qs (P : Program) (main : Bool) (K : World → Prop) (Stop : Nat → Goroutine → Prop) : Nat → Nat → Goroutine → Prop
  | 0, k, g => Stop k g
  | n + 1, k, g => Stop k g ∨ (g.status = .running ∧ ∃ g' es, (∀ e ∈ es, Event.mute e = true) ∧ (∀ w, K w → stepG P main g w = .go g' w es) ∧ Qs P main K Stop n (deafBehind k es) g')
/-- In whatever number of steps. -/
def Qt (P : Program) (main : Bool) (K : World → Prop) (Stop : Nat → Goroutine → Prop) (k : Nat) (g : Goroutine) : Prop := ∃ n, Qs P main K Stop n k g
abbrev KT : World → Prop := fun _ => True
/-- It has ended, hearing. -/
def Ended (k : Nat) (g : Goroutine) : Prop := g.status = .finished ∧ k = 0
theorem Qs.quits {P : Program} : ∀ {n k : Nat} {g : Goroutine}, Qs P false KT Ended n k g → QuitsD P n k g
  | 0, _, _, h => h
  | _ + 1, _, _, h => h.imp id fun ⟨hr, g', es, hm, hs, hq⟩ => ⟨hr, g', es, hm, fun w => hs w trivial, hq.quits⟩
theorem Qs.mono {P : Program} {main : Bool} {K : World → Prop} {Stop Stop' : Nat → Goroutine → Prop} (hS : ∀ k g, Stop k g → Stop' k g) : ∀ {n k : Nat} {g : Goroutine}, Qs P main K Stop n k g → Qs P main K Stop' n k g
  | 0, _, _, h => hS _ _ h
  | _ + 1, _, _, h => h.imp (hS _ _) fun ⟨hr, g', es, hm, hs, hq⟩ => ⟨hr, g', es, hm, hs, hq.mono hS⟩
theorem Qs.running {P : Program} {main : Bool} {K : World → Prop} {Stop : Nat → Goroutine → Prop} (hS : ∀ k g, Stop k g → g.status = .running) : ∀ {n k : Nat} {g : Goroutine}, Qs P main K Stop n k g → g.status = .running
  | 0, _, _, h => hS _ _ h
  | _ + 1, _, _, h => h.elim (hS _ _) fun x => x.1
section
variable {P : Program} {main : Bool} {K : World → Prop} {Stop : Nat → Goroutine → Prop} {k : Nat} {g g' : Goroutine} {b : Frame} {x : Act} {kk : List Item} {cs : List Frame} {ops : Array Oper} {i : Nat} {rest : List Nat} {o : Oper}
theorem Qt.stop (h : Stop k g) : Qt P main K Stop k g := ⟨0, h⟩
theorem Qt.ctl (hs : ∀ w, stepG P main g w = .go g' w #[]) (hr : g.status = .running) (H : Qt P main K Stop k g') : Qt P main K Stop k g := by
  obtain ⟨n, h⟩ := H
  exact ⟨n + 1, .inr ⟨hr, g', #[], by simp, fun w _ => hs w, h⟩⟩
theorem Qt.said {e : Event} (he : e.mute = true) (hs : ∀ w, stepG P main g w = .go g' w #[e]) (hr : g.status = .running) (H : Qt P main K Stop (deafBehind k #[e]) g') : Qt P main K Stop k g := by
  obtain ⟨n, h⟩ := H
  exact ⟨n + 1, .inr ⟨hr, g', #[e], by simp [he], fun w _ => hs w, h⟩⟩
theorem Qt.auto {t t' : List Item} (hc : moved t = some t') (H : Qt P main K Stop k (G (b.at x t') cs)) : Qt P main K Stop k (G (b.at x t) cs) := by
  refine Qt.ctl (g' := G (b.at x t') cs) (fun w => ?_) rfl H
  unfold moved at hc
  split at hc
  · obtain rfl := Option.some.inj hc; exact stepG_skip
  · obtain rfl := Option.some.inj hc; exact stepG_label
  · obtain rfl := Option.some.inj hc; exact stepG_inBlock
  · obtain rfl := Option.some.inj hc; exact stepG_region_end
  · obtain rfl := Option.some.inj hc; exact stepG_seq
  · obtain rfl := Option.some.inj hc; exact stepG_block
  · exact stepG_exit hc
  · cases hc
theorem run_eq_of' {r : Result Next} {v : Value} {w : World} (h : ∀ K : Result Next → Prop, K (.ok (.value v) w) → K r) : r = .ok (.value v) w := h (· = .ok (.value v) w) rfl
theorem Qt.quietop (ho : ops[i]? = some o) (_ : quietOp o = true) (hw : Region.wanted o (yielded ops x.tmps) = true) (hk : b.kind ≠ .early) (he : ∀ w, (execOp x.eval o).events P w #[] = #[])
    (H : ∃ v, (∀ w, (execOp x.eval o).run P w = .ok (.value v) w) ∧ Qt P main K Stop k (G (b.at (x.put o.dst v) (.inRegion ops rest :: kk)) cs)) :
    Qt P main K Stop k (G (b.at x (.inRegion ops (i :: rest) :: kk)) cs) := by
  obtain ⟨v, hr, H⟩ := H
  exact Qt.ctl (fun w => by rw [stepG_value ho hw hk (hr w), listed_none (he w)]) rfl H
/-- A pointer becomes an unsafe one. -/
theorem Qt.unsafe_ {src dst t : TypeId} {X : Operand} {a : Addr} (ho : ops[i]? = some o) (hw : Region.wanted o (yielded ops x.tmps) = true) (hk : b.kind ≠ .early) (hop : o.op = .convert src dst X) (hs : P.underlying src = some (.pointer t)) (hd : P.underlying dst = some .unsafePointer)
    (hsz : (P.info? t).map (fun i => decide (i.size = 0)) = some false) (hx : x.eval X = .pointer (some a)) (hc : ∀ w, K w → (w.cell? a).isSome = true) (H : Qt P main K Stop k (G (b.at (x.put o.dst (.pointer (some a))) (.inRegion ops rest :: kk)) cs)) : Qt P main K Stop k (G (b.at x (.inRegion ops (i :: rest) :: kk)) cs) := by
  obtain ⟨n, H⟩ := H
  have e1 : execOp x.eval o = (do pure (.value (← convert src dst (.pointer (some a)))) : Sem Next) := by unfold execOp; simp only [hop, hx]
  refine ⟨n + 1, .inr ⟨rfl, _, #[], by simp, fun w hw' => ?_, H⟩⟩
  obtain ⟨v, hv⟩ := Option.isSome_iff_exists.1 (hc w hw')
  have hr : (execOp x.eval o).run P w = .ok (.value (.pointer (some a))) w := by
    rw [e1, Sem.run_bind, run_convert_to_unsafe hs hd hsz (w := w) hv]; rfl
  have he : (execOp x.eval o).events P w #[] = #[] := by
    rw [e1]
    simp [run_convert_to_unsafe hs hd hsz (w := w) hv, events_convert_to_unsafe hs hd hsz (w := w) hv]
  rw [stepG_value ho hw hk hr, listed_none he]
theorem Qt.not (ho : ops[i]? = some o) (hw : Region.wanted o (yielded ops x.tmps) = false) (H : Qt P main K Stop k (G (b.at (x.put o.dst undef) (.inRegion ops rest :: kk)) cs)) : Qt P main K Stop k (G (b.at x (.inRegion ops (i :: rest) :: kk)) cs) :=
  Qt.ctl (fun _ => stepG_unwanted ho hw) rfl H
theorem Qt.enter {f : FuncId} {fn : Func} {c : Code} {args : Array Operand} {ats : Array TypeId} (ho : ops[i]? = some o) (hw : Region.wanted o (yielded ops x.tmps) = true) (hk : b.kind ≠ .early) (hop : o.op = .call { callee := .value (.func f), args, argTypes := ats })
    (hf : P.funcs[f]? = some fn) (hname : (fn.name == "runtime.NumGoroutine") = false) (hb : fn.body = some c)
    (H : Qt P main K Stop k (G ((base f).at { tmps := args.map x.eval ++ Array.replicate (fn.ntmps - (args.map x.eval).size) undef, defers := [] } [.code c]) (b.at x (.inRegion ops (i :: rest) :: kk) :: cs))) :
    Qt P main K Stop k (G (b.at x (.inRegion ops (i :: rest) :: kk)) cs) := by
  have hb' : fn.body.isNone = false := by rw [hb]; rfl
  refine Qt.ctl (fun w => ?_) rfl H
  rw [stepG_enter ho hw hk (run_call_body hop hf hname hb'), enter_at _ hf hb]
  have : listed P b.fn x o w = #[] := by unfold listed; rw [events_call_body hop hf hname hb']; exact seen_none P _
  rw [this]
theorem Qt.leave0 {fn : Func} {todo : List Item} {c : Frame} (hn : b.kind = .normal) (hd : x.defers = []) (hf : P.funcs[b.fn]? = some fn) (hr : fn.results = #[]) (H : Qt P main K Stop k (G (c.finish (.tuple #[])) cs)) :
    Qt P main K Stop k (G { b.at x todo with mode := .returning } (c :: cs)) :=
  Qt.ctl (fun w => stepG_leave hn hd hf (results_none hr _ P w) (events_results_none hr _ _)) rfl H
theorem Qt.leave1 {fn : Func} {t : Tmp} {todo : List Item} {c : Frame} (hn : b.kind = .normal) (hd : x.defers = []) (hf : P.funcs[b.fn]? = some fn) (hr : fn.results = #[.tmp t]) (H : Qt P main K Stop k (G (c.finish (x.tmps.getD t undef)) cs)) :
    Qt P main K Stop k (G { b.at x todo with mode := .returning } (c :: cs)) :=
  Qt.ctl (fun w => stepG_leave hn hd hf (results_tmp hr _ P w) (events_results_tmp hr _ _)) rfl H
theorem Qt.defer {f : FuncId} {as : Array Operand} {ats : Array TypeId} (ho : ops[i]? = some o) (hw : Region.wanted o (yielded ops x.tmps) = true) (hk : b.kind ≠ .early) (hop : o.op = .defer { callee := .value (.func f), args := as, argTypes := ats })
    (H : Qt P main K Stop k (G (b.at (Act.put ⟨x.tmps, dcall f (as.map x.eval) :: x.defers⟩ o.dst undef) (.inRegion ops rest :: kk)) cs)) : Qt P main K Stop k (G (b.at x (.inRegion ops (i :: rest) :: kk)) cs) :=
  Qt.ctl (fun _ => stepG_defer ho hw hk hop) rfl H
theorem Qt.undefer {f : FuncId} {fn : Func} {c : Code} {args : Array Value} {ds : List Deferred} {todo : List Item} (hd : x.defers = dcall f args :: ds) (hf : P.funcs[f]? = some fn) (hname : (fn.name == "runtime.NumGoroutine") = false) (hb : fn.body = some c)
    (H : Qt P main K Stop k (G ((baseD f).at { tmps := args ++ Array.replicate (fn.ntmps - args.size) undef, defers := [] } [.code c]) ({ b.at ⟨x.tmps, ds⟩ todo with mode := .returning } :: cs))) : Qt P main K Stop k (G { b.at x todo with mode := .returning } cs) :=
  Qt.ctl (fun _ => stepG_unwind_enter hd hf hname hb) rfl H
theorem Qt.leaveD {fn : Func} {todo : List Item} {c : Frame} (hn : b.kind = .deferred) (hd : x.defers = []) (hf : P.funcs[b.fn]? = some fn) (hr : fn.results = #[]) (hc : c.mode = .returning) (H : Qt P main K Stop k (G c cs)) :
    Qt P main K Stop k (G { b.at x todo with mode := .returning } (c :: cs)) :=
  Qt.ctl (fun w => stepG_leave_deferred hn hd hf (results_none hr _ P w) (events_results_none hr _ _) hc) rfl H
section
variable {f : FuncId} {fn : Func} {ats : Array TypeId} {as : Array Operand}
theorem Qt.mark0 {m : Mark} (hm : ∀ g, m ≠ .extern g) (ho : ops[i]? = some o) (hw : Region.wanted o (yielded ops x.tmps) = true) (hk : b.kind ≠ .early) (hop : o.op = .call { callee := .value (.func f), args := as, argTypes := ats })
    (hf : P.funcs[f]? = some fn) (hname : (fn.name == "runtime.NumGoroutine") = false) (hb : fn.body.isNone = true) (hn : Extern.findNext fn = none) (he : Extern.find fn = some (fun _ => do mark m; pure Extern.Race.none_)) (hev : Event.mute ⟨.mark m, false, true⟩ = true)
    (H : Qt P main K Stop (deafBehind k #[⟨.mark m, false, true⟩]) (G (b.at (x.put o.dst (.tuple #[])) (.inRegion ops rest :: kk)) cs)) : Qt P main K Stop k (G (b.at x (.inRegion ops (i :: rest) :: kk)) cs) :=
  Qt.said hev (fun _ => stepG_mark0 m hm ho hw hk hop hf hname hb hn he) rfl H
theorem Qt.pureEntry (v : Value) (ho : ops[i]? = some o) (hw : Region.wanted o (yielded ops x.tmps) = true) (hk : b.kind ≠ .early) (hop : o.op = .call { callee := .value (.func f), args := as, argTypes := ats })
    (hf : P.funcs[f]? = some fn) (hname : (fn.name == "runtime.NumGoroutine") = false) (hb : fn.body.isNone = true) (hn : Extern.findNext fn = none) (he : Extern.find fn = some (fun _ => pure v))
    (H : Qt P main K Stop k (G (b.at (x.put o.dst v) (.inRegion ops rest :: kk)) cs)) : Qt P main K Stop k (G (b.at x (.inRegion ops (i :: rest) :: kk)) cs) :=
  Qt.ctl (fun _ => stepG_entry_pure v ho hw hk hop hf hname hb hn he) rfl H
/-- A mark that was put off. -/
theorem Qt.unmark {m : Mark} {ds : List Deferred} {todo : List Item} (hm : ∀ g, m ≠ .extern g) (hd : x.defers = dcall f #[] :: ds) (hf : P.funcs[f]? = some fn) (hname : (fn.name == "runtime.NumGoroutine") = false) (hb : fn.body.isNone = true) (hn : Extern.findNext fn = none)
    (he : Extern.find fn = some (fun _ => do mark m; pure Extern.Race.none_)) (hev : Event.mute ⟨.mark m, false, true⟩ = true)
    (H : Qt P main K Stop (deafBehind k #[⟨.mark m, false, true⟩]) (G { b.at ⟨x.tmps, ds⟩ todo with mode := .returning } cs)) : Qt P main K Stop k (G { b.at x todo with mode := .returning } cs) :=
  Qt.said hev (fun w => stepG_unwind_entry (w' := w) hd hf hname hb hn he (by simp [Extern.Race.none_]; rfl) (by simp) (by
    intro y hy
    obtain rfl : y = _ := (by simpa using hy)
    exact ⟨rfl, fun g q => hm g (by cases q; rfl)⟩)) rfl H
theorem Run.unmark {Post : Value → World → Prop} {Z : Scene} {n h : Nat} {w : World} {m : Mark} {ds : List Deferred} {todo : List Item} (hm : ∀ g, m ≠ .extern g) (hd : x.defers = dcall f #[] :: ds) (hf : P.funcs[f]? = some fn) (hname : (fn.name == "runtime.NumGoroutine") = false) (hb : fn.body.isNone = true) (hn : Extern.findNext fn = none)
    (he : Extern.find fn = some (fun _ => do mark m; pure Extern.Race.none_)) (hev : EvX Z ⟨.mark m, false, true⟩)
    (H : Run P Post Z n h (deafBehind k #[⟨.mark m, false, true⟩]) (G { b.at ⟨x.tmps, ds⟩ todo with mode := .returning } cs) w) : Run P Post Z n h k (G { b.at x todo with mode := .returning } cs) w :=
  Run.step rfl fun d => ⟨_, _, _, stepG_unwind_entry (w' := w.at d) hd hf hname hb hn he (by simp [Extern.Race.none_]; rfl) (by simp) (by
    intro y hy
    obtain rfl : y = _ := (by simpa using hy)
    exact ⟨rfl, fun g q => hm g (by cases q; rfl)⟩), HX.still (fun e he => by obtain rfl : e = _ := (by simpa using he); exact hev), H.at d⟩
end
end
end Go.Proofs.Ytfgpnfboolbbbaa
namespace Go.Proofs.Ytfgpnfboolbbbaa
open Go Go.Conc
open Go.ConcN (upd upd_ne upd_same)
section
variable {P : Program} {Post : Value → World → Prop} {Sh : Loc → Prop} {Inb : Nat → Option Chair} {h : Nat} {T : Trace} {gs : Array Goroutine} {w : World} {q : Nat → Nat}
theorem Core.rise (C : Hold P Sh Inb h T gs w q) : Hold P Sh (upd Inb h none) h T gs w q := by
  have hsub : ∀ x, x ≠ h → upd Inb h none x = Inb x := fun x hx => upd_ne Inb _ hx
  have hs : ∀ i ch, upd Inb h none i = some ch → i ≠ h ∧ Inb i = some ch := fun i ch e => by
    by_cases ei : i = h
    · subst ei; rw [upd_same] at e; cases e
    · rw [hsub i ei] at e; exact ⟨ei, e⟩
  refine ⟨fun i g hi hg => ?_, fun i ch c e => C.chans i ch c (hs i ch e).2, fun i ch e => C.wf i ch (hs i ch e).2, C.above, ?_, fun i ch e => C.keep i ch (hs i ch e).2, fun i l hl => ?_⟩
  · rw [hsub i hi]; exact C.idle i g hi hg
  · refine ((C.past.fewer (Mem' := fun i => (upd Inb h none i).isSome = true) fun i hi => ?_).loosen (Lo' := fun i => (upd Inb h none i).isSome = true ∧ ¬ i = h) fun i hi => ?_).same fun i hi => ?_
    · by_cases ei : i = h
      · subst ei; rw [upd_same] at hi; cases hi
      · rw [hsub i ei] at hi; exact hi
    · exact ⟨by rw [hsub i hi.2]; exact hi.1, hi.2⟩
    · have ei : i ≠ h := fun e => by
        rcases hi with hi | hi
        · rw [e, upd_same] at hi; cases hi
        · exact hi.2 e
      funext l
      unfold StOf
      rw [hsub i ei]
  · obtain ⟨ch, e, hl⟩ := hl
    exact C.apart i l ⟨ch, (hs i ch e).2, hl⟩
end
/-- The holder has no chair. -/
def Scene.rise (Z : Scene) (h : Nat) : Scene where
  Sh := Z.Sh
  Inb := upd Z.Inb h none
  Hd := Z.Hd
  C := Z.C
  place := fun i ch a v e => by
    by_cases ei : i = h
    · subst ei; rw [upd_same] at e; cases e
    · rw [upd_ne _ _ ei] at e; exact Z.place i ch a v e
  chan := fun i ch c e => by
    by_cases ei : i = h
    · subst ei; rw [upd_same] at e; cases e
    · rw [upd_ne _ _ ei] at e; exact Z.chan i ch c e
  shun := Z.shun
  apart := Z.apart
/-- Goroutine i sits down. -/
def Scene.sit (Z : Scene) (i : Nat) (ch : Chair) (hp : ∀ a v, ch.val a = some v → Z.Hd a.block) (hc : ∀ c, ch.seat.has c → Z.C c) : Scene where
  Sh := Z.Sh
  Inb := upd Z.Inb i (some ch)
  Hd := Z.Hd
  C := Z.C
  place := fun j ch' a v e => by
    by_cases ei : j = i
    · subst ei; rw [upd_same] at e; obtain rfl := Option.some.inj e; exact hp a v
    · rw [upd_ne _ _ ei] at e; exact Z.place j ch' a v e
  chan := fun j ch' c e => by
    by_cases ei : j = i
    · subst ei; rw [upd_same] at e; obtain rfl := Option.some.inj e; exact hc c
    · rw [upd_ne _ _ ei] at e; exact Z.chan j ch' c e
  shun := Z.shun
  apart := Z.apart
section
variable {P : Program} {Post : Value → World → Prop} {Z Z' : Scene} {n h k : Nat} {a a' a₂ child : Goroutine} {w : World}
theorem Run.rise (H : Run P Post (Z.rise h) n h k a w) : Run P Post Z n h k a w :=
  fun d gs T q sl hn ha hok C hk => H d gs T q sl hn ha ⟨hok.obj, hok.hid, hok.chan⟩ C.rise hk
/-- Other blocks are hidden, other channels counted. -/
theorem Run.scene (hs : Z'.Sh = Z.Sh) (hi : Z'.Inb = Z.Inb) (hok : WOk P Z w → WOk P Z' w) (H : Run P Post Z' n h k a w) : Run P Post Z n h k a w :=
  fun d gs T q sl hn ha ho C hk => H d gs T q sl hn ha ((hok ⟨ho.obj, ho.hid, ho.chan⟩).at d) (by unfold Hold; rw [hs, hi]; exact C) hk
/-- ████ THE TOKEN PASSES. ████ -/
theorem Run.give {j c kk m nh : Nat} {chj ch : Chair} {v z z' : Value} (hjh : j ≠ h) (hjn : j < n) (hj : Z.Inb j = some chj) (hk : chj.seat.cases[kk]? = some (rcase c z))
    (honly : ∀ x chx, x ≠ j → Z.Inb x = some chx → ¬ chx.seat.has c) (hrun : a.status = .running) (hsend : ∀ w : World, stepG P (h == 0) a w = .comm a₂ #[scase c v z'] true .send w #[])
    (hc : w.heap[c]? = some (.chan 0 #[] false m m false)) (hwf : ch.seat.Wf) (hch : ∀ c' : Nat, ch.seat.has c' → ∃ cap k, w.heap[c']? = some (.chan cap #[] false k k false)) (hK : ch.K w) (hap : ∀ l, ch.St l → ¬ Z.Sh l)
    (hafter : Sits P (h == 0) ch.K ch.St ch.B ch.seat nh (Go.Conc.served a₂ undef)) (hp : ∀ a v, ch.val a = some v → Z.Hd a.block) (hcc : ∀ c, ch.seat.has c → Z.C c)
    (H : ∀ g₂, chj.seat.home g₂ → Run P Post ((Z.sit h ch hp hcc).rise j) n j 0 (Go.Conc.served g₂ (commResult chj.seat.cases chj.seat.shape kk v true)) (w.setChan c 0 #[] false (m + 1) (m + 1) false)) : Run P Post Z n h 0 a w := by
  intro d gs T q sl hn ha hok C hd
  refine Go.Proofs.Ytfgpnfboolbbbaa.give (w := w.at d) (ch := ch) (z' := z') (es := #[]) (kk := kk) (k := m) hjh (by rw [hn]; exact hjn) hj hk honly ha hrun hd (fun d' => hsend _) (by simp) (by simp) (by simp) (by simp) hap C hc hwf hch hK hafter ?_
  intro gs' g₂ d' T' q' sl' hsz hgj hhome C' hd'
  exact (H g₂ hhome) d' gs' T' q' sl' (hsz.trans hn) hgj (by
    have h1 : WOk P Z (w.setChan c 0 #[] false (m + 1) (m + 1) false) := WOk.setChan (w := w) ⟨hok.obj, hok.hid, hok.chan⟩ hc rfl _ _ _ _ _ _
    exact ⟨h1.obj, h1.hid, h1.chan⟩) C'.rise hd'
/-- ████ A GOROUTINE IS HIRED. ████ -/
theorem Run.hire {nc : Nat} {ch : Chair} (hrun : a.status = .running) (hgo : ∀ w : World, stepG P (h == 0) a w = .spawn a' child w #[]) (hap : ∀ l, ch.St l → ¬ Z.Sh l) (hnew : Z.Inb n = none) (hwf : ch.seat.Wf)
    (hch : ∀ c' : Nat, ch.seat.has c' → ∃ cap k, w.heap[c']? = some (.chan cap #[] false k k false)) (hK : ch.K w) (hsits : Sits P false ch.K ch.St ch.B ch.seat nc child) (hp : ∀ a v, ch.val a = some v → Z.Hd a.block) (hcc : ∀ c, ch.seat.has c → Z.C c)
    (H : Run P Post (Z.sit n ch hp hcc) (n + 1) h 0 a' w) : Run P Post Z n h 0 a w := by
  intro d gs T q sl hn ha hok C hd
  refine Go.Proofs.Ytfgpnfboolbbbaa.hire (w := w.at d) (ch := ch) (es := #[]) (nc := nc) ha hrun hd (fun d' => hgo _) (by simp) (by simp) (by simp) (by simp) hap C (by rw [hn]; exact hnew) hwf hch hK hsits ?_
  intro gs' d' T' q' sl' hsz hgh C' hd'
  rw [hn] at C'
  exact H d' gs' T' q' sl' (by rw [hsz, hn]) hgh ⟨hok.obj, hok.hid, hok.chan⟩ C' hd'
end
end Go.Proofs.Ytfgpnfboolbbbaa
namespace Go.Proofs.Ytfgpnfboolbbbaa
open Go Go.Conc
def Way (P : Program) (main : Bool) (ch : Chair) (a : Goroutine) : Prop := ∃ k, ∀ w, Goes P main (RK ch.K) (DS ch.St ch.B) (fun g _ => ∃ g₂, AtIn P main ch.K ch.St ch.B ch.seat g g₂) k a w
section
variable {P : Program} {main : Bool} {ch : Chair} {g g' g₂ : Goroutine} {b : Frame} {x : Act} {kk : List Item} {cs : List Frame} {ops : Array Oper} {i : Nat} {rest : List Nat} {o : Oper}
theorem Way.sits (h : Way P main ch g) : ∃ n, Sits P main ch.K ch.St ch.B ch.seat n g := by
  obtain ⟨k, h⟩ := h
  exact ⟨k + 1, .inl ⟨k, default, rfl, h _⟩⟩
theorem Way.here (h : AtIn P main ch.K ch.St ch.B ch.seat g g₂) : Way P main ch g := ⟨0, fun _ _ _ => ⟨g₂, h⟩⟩
theorem Way.ctl (hs : ∀ w, stepG P main g w = .go g' w #[]) (hr : g.status = .running) (H : Way P main ch g') : Way P main ch g := by
  obtain ⟨k, h⟩ := H
  exact ⟨k + 1, fun w => Goes.step hr fun w₁ _ => by rw [hs w₁, goes_go]; exact ⟨ds_none _, h w₁⟩⟩
theorem Way.auto {t t' : List Item} (hc : moved t = some t') (H : Way P main ch (G (b.at x t') cs)) : Way P main ch (G (b.at x t) cs) := by
  refine Way.ctl (g' := G (b.at x t') cs) (fun w => ?_) rfl H
  unfold moved at hc
  split at hc
  · obtain rfl := Option.some.inj hc; exact stepG_skip
  · obtain rfl := Option.some.inj hc; exact stepG_label
  · obtain rfl := Option.some.inj hc; exact stepG_inBlock
  · obtain rfl := Option.some.inj hc; exact stepG_region_end
  · obtain rfl := Option.some.inj hc; exact stepG_seq
  · obtain rfl := Option.some.inj hc; exact stepG_block
  · exact stepG_exit hc
  · cases hc
theorem Way.quietop (ho : ops[i]? = some o) (_ : quietOp o = true) (hw : Region.wanted o (yielded ops x.tmps) = true) (hk : b.kind ≠ .early) (he : ∀ w, (execOp x.eval o).events P w #[] = #[])
    (H : ∃ v, (∀ w, (execOp x.eval o).run P w = .ok (.value v) w) ∧ Way P main ch (G (b.at (x.put o.dst v) (.inRegion ops rest :: kk)) cs)) :
    Way P main ch (G (b.at x (.inRegion ops (i :: rest) :: kk)) cs) := by
  obtain ⟨v, hr, H⟩ := H
  exact Way.ctl (fun w => by rw [stepG_value ho hw hk (hr w), listed_none (he w)]) rfl H
theorem Way.not (ho : ops[i]? = some o) (hw : Region.wanted o (yielded ops x.tmps) = false) (H : Way P main ch (G (b.at (x.put o.dst undef) (.inRegion ops rest :: kk)) cs)) : Way P main ch (G (b.at x (.inRegion ops (i :: rest) :: kk)) cs) :=
  Way.ctl (fun _ => stepG_unwanted ho hw) rfl H
theorem Way.defer {f : FuncId} {as : Array Operand} {ats : Array TypeId} (ho : ops[i]? = some o) (hw : Region.wanted o (yielded ops x.tmps) = true) (hk : b.kind ≠ .early) (hop : o.op = .defer { callee := .value (.func f), args := as, argTypes := ats })
    (H : Way P main ch (G (b.at (Act.put ⟨x.tmps, dcall f (as.map x.eval) :: x.defers⟩ o.dst undef) (.inRegion ops rest :: kk)) cs)) : Way P main ch (G (b.at x (.inRegion ops (i :: rest) :: kk)) cs) :=
  Way.ctl (fun _ => stepG_defer ho hw hk hop) rfl H
/-- A load of a place of its chair. -/
theorem Way.ld {a : Addr} {v : Value} (ho : ops[i]? = some o) (hw : Region.wanted o (yielded ops x.tmps) = true) (hk : b.kind ≠ .early) (hv : ch.val a = some v) (hB : a.block < ch.B)
    (hr : ∀ w₁ : World, w₁.cell? a = some v → (execOp x.eval o).run P w₁ = .ok (.value v) w₁ ∧ (execOp x.eval o).events P w₁ #[] = #[⟨.cell a, false, false⟩])
    (H : Way P main ch (G (b.at (x.put o.dst v) (.inRegion ops rest :: kk)) cs)) : Way P main ch (G (b.at x (.inRegion ops (i :: rest) :: kk)) cs) := by
  obtain ⟨k, h⟩ := H
  refine ⟨k + 1, fun w => Goes.step rfl fun w₁ h₁ => ?_⟩
  obtain ⟨e1, e2⟩ := hr w₁ (h₁ a v hv)
  rw [stepG_value ho hw hk e1, goes_go]
  refine ⟨⟨rfl, fun e he => ?_⟩, h w₁⟩
  have hm := mem_listed he
  rw [e2] at hm
  obtain rfl : e = _ := by simpa using hm
  exact ⟨a, rfl, ⟨a, v, rfl, hv⟩, hB⟩
end
end Go.Proofs.Ytfgpnfboolbbbaa
