/-
  Whoever comes to a stop alone, on every tape, is at the root of a tree of draws that has no endless branch.
-/
import Derived.Test.YtfgpnfboolbbbaaBbStep
import Derived.CallsIn
import Derived.Conc.Beside
namespace Go.Proofs.Ytfgpnfboolbbbaa
open Go
def tp (v : World) (τ : Tape) : World := { v with tape := τ }
@[simp] theorem tp_drawn (v : World) (τ : Tape) : (tp v τ).drawn = v.drawn := rfl
@[simp] theorem tp_tape (v : World) (τ : Tape) : (tp v τ).tape = τ := rfl
@[simp] theorem tp_tp (v : World) (τ τ' : Tape) : tp (tp v τ) τ' = tp v τ' := rfl
theorem tp_self (v : World) : tp v v.tape = v := rfl
/-- No block is hidden. -/
abbrev NoHd : Nat → Prop := fun _ => False
/-- What is asked of the program. -/
structure Env (P : Program) (ok : Oper → Prop) (okf : FuncId → Prop) : Prop where
  hok : ∀ o, ok o → okOp P o = true
  hm : ∃ okm : FuncId → Prop, OkMethods P okm ∧ (∀ f, okm f → OkFn P ok f) ∧ ∀ f, okf f → okm f
  good : ∀ f, okf f → GoodFn P ok f
  hin : ∀ f, okf f ∨ f = P.funcs.size → P.inits.idxOf? f = none
structure Fit (P : Program) (ok : Oper → Prop) (okf : FuncId → Prop) (Hd : Nat → Prop) (g : Goroutine) (v : World) : Prop where
  gor : GorOk P ok g
  heap : HeapOk ok Hd v
  fn : okf g.frame.fn ∨ g.frame.fn = P.funcs.size
  about : ∀ f, g.frame.about P v = some f → okf f
def Same (τ : Tape) (v : World) : Prop := ∀ i, i < v.drawn → τ i = v.tape i
/-- The tree: whatever is answered from here on, a step, and on; every branch comes to a stop. -/
inductive Bar (P : Program) (ok : Oper → Prop) (okf : FuncId → Prop) (Hd : Nat → Prop) (Stop : Goroutine → World → Prop) : Goroutine → World → Prop
  | stop {g : Goroutine} {v : World} (h : Stop g v) : Bar P ok okf Hd Stop g v
  | step {g : Goroutine} {v : World} (ng : Tape → Goroutine) (nv : Tape → World) (ne : Tape → Array Event) (hf : ∀ τ, Same τ v → Fit P ok okf Hd g (tp v τ)) (hs : ∀ τ, Same τ v → stepG P true g (tp v τ) = .go (ng τ) (nv τ) (ne τ))
      (hd : ∀ τ, Same τ v → (ng τ).dying = none) (ih : ∀ τ, Same τ v → Bar P ok okf Hd Stop (ng τ) (nv τ)) : Bar P ok okf Hd Stop g v
theorem Env.gd {P : Program} {ok : Oper → Prop} {okf : FuncId → Prop} (E : Env P ok okf) {f : FuncId} (h : okf f ∨ f = P.funcs.size) : GoodFn P ok f := by
  rcases h with h | rfl
  · exact E.good f h
  · intro fn c h1 _
    rw [Array.getElem?_eq_none (Nat.le_refl _)] at h1
    cases h1
theorem like_heap {Hd : Nat → Prop} {M : Lim} {v w : World} (h : Like Hd M v w) (hM : M.hv = M.hid) : v.heap = w.heap := by
  apply Array.ext_getElem?
  intro i
  by_cases hi : Hd i
  · rcases h.hid i hi with ⟨h1, h2, _⟩ | ⟨_, o, _, h1, h2⟩
    · rw [h1, h2, hM]
    · rw [h1, h2]
  · exact h.obj i hi
section
variable {P : Program} {ok : Oper → Prop} {okf : FuncId → Prop} {Hd : Nat → Prop} {Stop : Goroutine → World → Prop} {g g' : Goroutine} {v v' : World} {es : Array Event}
/-- A step asks the tape where it draws, and nowhere else. -/
theorem retape (E : Env P ok okf) (hF : Fit P ok okf Hd g v) (hs : stepG P true g v = .go g' v' es) (hd : g'.dying = none) (τ : Tape) (hτ : ∀ i, v.drawn ≤ i → i < v'.drawn → τ i = v.tape i) :
    stepG P true g (tp v τ) = .go g' (tp v' τ) es ∧ GorOk P ok g' ∧ Went ok Hd v v' es := by
  have hl : Like Hd ⟨v'.drawn, τ, 0, 0, fun b => v.heap[b]?, fun b => v.heap[b]?⟩ v (tp v τ) := ⟨fun j q hj => by
    have := hτ (v.drawn + j) (Nat.le_add_right _ _) hj
    simp only [tp_drawn, tp_tape]
    rw [this], ⟨rfl, rfl⟩, rfl, rfl, rfl, fun _ _ => rfl, fun b hb => .inl ⟨rfl, rfl, hF.heap.veil hb⟩⟩
  obtain ⟨okm, hm1, hm2, hm3⟩ := E.hm
  have h1 := step_told (cs := []) (m := true) E.hok okm hm1 hm2 (E.gd hF.fn) hF.gor (E.hin _ hF.fn) (fun f q => hm3 f (hF.about f q)) hl hF.heap
  rw [hs] at h1
  obtain ⟨hg, hw, hx⟩ := h1 hd
  obtain ⟨w', e, hl'⟩ := hx (Nat.le_refl _)
  simp only [List.append_nil] at e
  refine ⟨?_, hg, hw⟩
  have hh := like_heap hl' rfl
  have : w' = tp v' τ := by
    obtain ⟨hp, tape, drawn, os, out⟩ := w'
    obtain ⟨hp', tape', drawn', os', out'⟩ := v'
    have e1 := hl'.os
    have e2 := hl'.output
    have e3 := hl'.other
    simp only [Nat.add_zero] at hh e1 e2 e3
    obtain ⟨e3, e4⟩ := e3
    subst hh e1 e2 e3 e4
    rfl
  rw [e, this]
theorem step_of_go {fr : Frame} {cs : List Frame} (hs : stepG P true { frame := fr, callers := cs, status := .running, dying := none } v = .go g' v' es) :
    step P (lone fr cs v) = .next { world := v', gs := #[g'], rest := { timers := #[], alone := none, slice := none } } := by
  rw [step, stepT, move_lone]
  simp [runT, lone, Array.swapAt!, hs]
theorem step_of_ended {fr : Frame} {cs : List Frame} {o : Outcome} (hs : stepG P true { frame := fr, callers := cs, status := .running, dying := none } v = .ended o v' es) :
    step P (lone fr cs v) = .ended o v' := by
  rw [step, stepT, move_lone]
  simp [runT, lone, Array.swapAt!, hs]
/-- It comes to a stop, alone, within the fence. -/
def Reach (P : Program) (F : Fence) (Stop : Goroutine → World → Prop) (g : Goroutine) (v : World) : Prop :=
  ∃ fr cs v', StepsIn (Machine.fenced P F) P (lone g.frame g.callers v) (lone fr cs v') ∧ Stop { frame := fr, callers := cs, status := .running, dying := none } v'
theorem gor_eta (h : GorOk P ok g) : g = { frame := g.frame, callers := g.callers, status := .running, dying := none } := by
  obtain ⟨fr, cs, st, dy, off⟩ := g
  have h1 := h.running
  have h2 := h.living
  have h3 := h.quiet
  simp only at h1 h2 h3
  subst h1 h2 h3
  rfl
/-- Whoever comes to a stop is there, or takes a step and comes there. -/
theorem Reach.first {F : Fence} (E : Env P ok okf) (hF : ∀ f, F.fn f → okf f) (ha : F.alive = true) (hg : GorOk P ok g) (hv : HeapOk ok Hd v) (h : Reach P F Stop g v) :
    Stop g v ∨ (Fit P ok okf Hd g v ∧ ∃ g' v' es, stepG P true g v = .go g' v' es ∧ g'.dying = none ∧ Reach P F Stop g' v') := by
  obtain ⟨fr, cs, v1, hp, hstop⟩ := h
  have eg := gor_eta hg
  generalize e0 : lone g.frame g.callers v = m at hp
  generalize e1 : lone fr cs v1 = m' at hp
  cases hp with
  | refl =>
    rw [← e0] at e1
    simp only [lone, Machine.mk.injEq, List.cons.injEq, Goroutine.mk.injEq, Array.mk.injEq, and_true, true_and] at e1
    obtain ⟨rfl, rfl, rfl⟩ := e1
    rw [← eg] at hstop
    exact .inl hstop
  | @head _ m1 _ hI hs hr =>
    subst e0 e1
    refine .inr ?_
    have hI' := hI { frame := g.frame, callers := g.callers, status := .running, dying := none } (by simp [lone])
    have hfit : Fit P ok okf Hd g v := ⟨hg, hv, hI'.2.1.imp (hF _) id, fun f hf => hF _ (hI'.2.2.1 f hf)⟩
    refine ⟨hfit, ?_⟩
    obtain ⟨okm, hm1, hm2, hm3⟩ := E.hm
    have h1 := step_told (cs := []) (m := true) E.hok okm hm1 hm2 (E.gd hfit.fn) hg (E.hin _ hfit.fn) (fun f q => hm3 f (hfit.about f q)) (Like.refl hv) hv
    rw [eg] at h1 ⊢
    generalize hq : stepG P true { frame := g.frame, callers := g.callers, status := .running, dying := none } v = q at h1
    cases q <;> first | exact h1.elim | skip
    case ended o w' es => rw [step_of_ended hq] at hs; cases hs
    case go g' v' es =>
      rw [step_of_go hq] at hs
      have e2 : m1 = _ := (Stepped.next.inj hs).symm
      have hdy : g'.dying = none := by
        generalize e3 : lone fr cs v1 = m' at hr
        cases hr with
        | refl =>
          rw [e2] at e3
          have e4 := congrArg (fun m : Machine => m.gs[0]?) e3
          have e5 : ({ frame := fr, callers := cs, status := .running, dying := none } : Goroutine) = g' := by simpa [lone] using e4
          rw [← e5]
        | head hI2 _ _ =>
          have := (hI2 g' (by rw [e2]; simp)).1 ha
          simpa using this
      refine ⟨g', v', es, rfl, hdy, fr, cs, v1, ?_, hstop⟩
      have hg' := (h1 hdy).1
      have e4 : lone g'.frame g'.callers v' = m1 := by
        rw [e2, lone, ← gor_eta hg']
      rw [e4]
      exact hr
end
end Go.Proofs.Ytfgpnfboolbbbaa
namespace Go.Proofs.Ytfgpnfboolbbbaa
open Go
section
variable {P : Program} {ok : Oper → Prop} {okf : FuncId → Prop} {Hd : Nat → Prop} {F : Fence} {Stop : Goroutine → World → Prop} {g g' : Goroutine} {v v' : World} {es : Array Event}
structure Phi (P : Program) (ok : Oper → Prop) (Hd : Nat → Prop) (F : Fence) (Stop : Goroutine → World → Prop) (g : Goroutine) (v : World) : Prop where
  gor : GorOk P ok g
  heap : HeapOk ok Hd v
  reach : ∀ τ, Same τ v → Reach P F Stop g (tp v τ)
theorem Phi.next (E : Env P ok okf) (hF : ∀ f, F.fn f → okf f) (ha : F.alive = true) (hS : ∀ g v τ, Stop g (tp v τ) → Stop g v) (h : Phi P ok Hd F Stop g v) (hn : ¬ Stop g v) {τ : Tape} (hτ : Same τ v) :
    ∃ g' v' es, Fit P ok okf Hd g (tp v τ) ∧ stepG P true g (tp v τ) = .go g' v' es ∧ g'.dying = none ∧ v'.tape = τ ∧ v.drawn ≤ v'.drawn ∧ Phi P ok Hd F Stop g' v' := by
  have hheap : ∀ τ, HeapOk ok Hd (tp v τ) := fun _ => ⟨h.heap.obj, h.heap.hid⟩
  rcases (h.reach τ hτ).first E hF ha h.gor (hheap τ) with hs | ⟨hf, g', v', es, hs, hd, _⟩
  · exact (hn (hS _ _ _ hs)).elim
  have hr := retape E hf hs hd τ (fun _ _ _ => rfl)
  have ht : v'.tape = τ := hr.2.2.draws.1
  have hle : v.drawn ≤ v'.drawn := hr.2.2.draws.2
  refine ⟨g', v', es, hf, hs, hd, ht, hle, hr.2.1, hr.2.2.heap, fun τ' hτ' => ?_⟩
  have hs' : Same τ' v := fun i hi => by rw [hτ' i (Nat.lt_of_lt_of_le hi hle), ht]; exact hτ i hi
  rcases (h.reach τ' hs').first E hF ha h.gor (hheap τ') with hq | ⟨_, g2, v2, es2, hq, _, hr2⟩
  · exact (hn (hS _ _ _ hq)).elim
  have he := (retape E hf hs hd τ' (fun i _ hi => by rw [hτ' i hi, ht]; rfl)).1
  rw [tp_tp, hq] at he
  injection he with e1 e2 e3
  rw [← e1, ← e2]
  exact hr2
theorem Bar.step' (h : ∀ τ, Same τ v → ∃ g' v' es, Fit P ok okf Hd g (tp v τ) ∧ stepG P true g (tp v τ) = .go g' v' es ∧ g'.dying = none ∧ Bar P ok okf Hd Stop g' v') : Bar P ok okf Hd Stop g v := by
  have h2 : ∀ τ, ∃ t : Goroutine × World × Array Event, Same τ v → Fit P ok okf Hd g (tp v τ) ∧ stepG P true g (tp v τ) = .go t.1 t.2.1 t.2.2 ∧ t.1.dying = none ∧ Bar P ok okf Hd Stop t.1 t.2.1 := fun τ => by
    by_cases hτ : Same τ v
    · obtain ⟨g', v', es, q⟩ := h τ hτ
      exact ⟨(g', v', es), fun _ => q⟩
    · exact ⟨(g, v, #[]), fun q => (hτ q).elim⟩
  obtain ⟨f, hf⟩ := Classical.skolem.1 h2
  exact .step (fun τ => (f τ).1) (fun τ => (f τ).2.1) (fun τ => (f τ).2.2) (fun τ hτ => (hf τ hτ).1) (fun τ hτ => (hf τ hτ).2.1) (fun τ hτ => (hf τ hτ).2.2.1) (fun τ hτ => (hf τ hτ).2.2.2)
/-- A state from which a branch runs on without end. -/
structure Bad (P : Program) (ok : Oper → Prop) (okf : FuncId → Prop) (Hd : Nat → Prop) (F : Fence) (Stop : Goroutine → World → Prop) where
  g : Goroutine
  v : World
  phi : Phi P ok Hd F Stop g v
  bad : ¬ Bar P ok okf Hd Stop g v
structure Bad.Goes (x y : Bad P ok okf Hd F Stop) : Prop where
  same : Same y.v.tape x.v
  fit : Fit P ok okf Hd x.g (tp x.v y.v.tape)
  step : ∃ es, stepG P true x.g (tp x.v y.v.tape) = .go y.g y.v es
  dying : y.g.dying = none
  le : x.v.drawn ≤ y.v.drawn
theorem Bad.next (E : Env P ok okf) (hF : ∀ f, F.fn f → okf f) (ha : F.alive = true) (hS : ∀ g v τ, Stop g (tp v τ) → Stop g v) (x : Bad P ok okf Hd F Stop) : ∃ y : Bad P ok okf Hd F Stop, x.Goes y := by
  refine Classical.byContradiction fun hno => x.bad ?_
  refine Bar.step' fun τ hτ => ?_
  obtain ⟨g', v', es, hf, hs, hd, ht, hle, hphi⟩ := x.phi.next E hF ha hS (fun q => x.bad (.stop q)) hτ
  refine ⟨g', v', es, hf, hs, hd, Classical.byContradiction fun hb => hno ⟨⟨g', v', hphi, hb⟩, ?_⟩⟩
  subst ht
  exact ⟨hτ, hf, ⟨es, hs⟩, hd, hle⟩
/-- ████ ████ -/
theorem bar (E : Env P ok okf) (hF : ∀ f, F.fn f → okf f) (ha : F.alive = true) (hS : ∀ g v τ, Stop g (tp v τ) → Stop g v) (h : Phi P ok Hd F Stop g v) : Bar P ok okf Hd Stop g v := by
  refine Classical.byContradiction fun hb => ?_
  obtain ⟨nx, hnx⟩ := Classical.skolem.1 (Bad.next (okf := okf) E hF ha hS)
  let f : Nat → Bad P ok okf Hd F Stop := fun n => Nat.rec ⟨g, v, h, hb⟩ (fun _ x => nx x) n
  have hf : ∀ n, (f n).Goes (f (n + 1)) := fun n => hnx (f n)
  have hK : ∀ n m, n ≤ m → (f n).v.drawn ≤ (f m).v.drawn := by
    intro n m hnm
    induction hnm with
    | refl => exact Nat.le_refl _
    | step _ ih => exact Nat.le_trans ih (hf _).le
  have hT : ∀ n m, n ≤ m → ∀ i, i < (f (n + 1)).v.drawn → (f (m + 1)).v.tape i = (f (n + 1)).v.tape i := by
    intro n m hnm
    induction hnm with
    | refl => exact fun i _ => rfl
    | @step m hm ih =>
      intro i hi
      rw [← ih i hi]
      exact (hf (m + 1)).same i (Nat.lt_of_lt_of_le hi (hK _ _ (Nat.succ_le_succ hm)))
  have hlim : ∃ τ : Tape, ∀ n i, i < (f (n + 1)).v.drawn → τ i = (f (n + 1)).v.tape i := by
    have : ∀ i, ∃ a : Question → Nat, ∀ n, i < (f (n + 1)).v.drawn → a = (f (n + 1)).v.tape i := fun i => by
      by_cases hi : ∃ n, i < (f (n + 1)).v.drawn
      · obtain ⟨c, hc⟩ := hi
        refine ⟨(f (c + 1)).v.tape i, fun n hn => ?_⟩
        rcases Nat.le_total c n with q | q
        · exact (hT c n q i hc).symm
        · exact hT n c q i hn
      · exact ⟨fun _ => 0, fun n hn => (hi ⟨n, hn⟩).elim⟩
    obtain ⟨τ, hτ⟩ := Classical.skolem.1 this
    exact ⟨τ, fun n i hi => hτ i n hi⟩
  obtain ⟨τ, hτ⟩ := hlim
  have hsame : Same τ v := fun i hi => by
    rw [hτ 0 i (Nat.lt_of_lt_of_le hi (hf 0).le)]
    exact (hf 0).same i hi
  obtain ⟨fr, cs, v1, hp, hstop⟩ := h.reach τ hsame
  have key : ∀ m m', StepsIn (Machine.fenced P F) P m m' → ∀ n, m = lone (f n).g.frame (f n).g.callers (tp (f n).v τ) → m' = lone fr cs v1 → False := by
    intro m m' hp
    induction hp with
    | refl m =>
      intro n e1 e2
      rw [e1] at e2
      simp only [lone, Machine.mk.injEq, List.cons.injEq, Goroutine.mk.injEq, Array.mk.injEq, and_true, true_and] at e2
      obtain ⟨e3, e4, e5⟩ := e2
      refine (f n).bad (.stop (hS _ _ τ ?_))
      rw [gor_eta (f n).phi.gor, e3, e4, e5]
      exact hstop
    | @head m m1 m2 _ hs _ ih =>
      intro n e1 e2
      refine ih (n + 1) ?_ e2
      obtain ⟨es, h1⟩ := (hf n).step
      have h2 := (retape E (hf n).fit h1 (hf n).dying τ (fun i _ hi => hτ n i hi)).1
      rw [tp_tp, gor_eta (f n).phi.gor] at h2
      rw [e1, step_of_go h2] at hs
      rw [← Stepped.next.inj hs, lone, ← gor_eta (f (n + 1)).phi.gor]
  exact key _ _ hp 0 rfl rfl
end
end Go.Proofs.Ytfgpnfboolbbbaa
namespace Go.Proofs.Ytfgpnfboolbbbaa
open Go Go.Conc
/-- In company, ahead of each step, the others may have drawn. 'k': how deaf the goroutine is. -/
inductive Gx (P : Program) (main : Bool) (D : World → World → Array Event → Prop) (Stop : Nat → Goroutine → World → Prop) : Nat → Goroutine → World → Prop
  | stop {k : Nat} {g : Goroutine} {w : World} (h : ∀ d, Stop k g (w.at d)) : Gx P main D Stop k g w
  | step {k : Nat} {g : Goroutine} {w : World} (hr : g.status = .running) (ng : Nat → Goroutine) (nw : Nat → World) (ne : Nat → Array Event) (hs : ∀ d, stepG P main g (w.at d) = .go (ng d) (nw d) (ne d))
      (hD : ∀ d, D (w.at d) (nw d) (ne d)) (ih : ∀ d, Gx P main D Stop (deafBehind k (ne d)) (ng d) (nw d)) : Gx P main D Stop k g w
theorem Gx.step' {P : Program} {main : Bool} {D : World → World → Array Event → Prop} {Stop : Nat → Goroutine → World → Prop} {k : Nat} {g : Goroutine} {w : World} (hr : g.status = .running)
    (h : ∀ d, ∃ g' w' es, stepG P main g (w.at d) = .go g' w' es ∧ D (w.at d) w' es ∧ Gx P main D Stop (deafBehind k es) g' w') : Gx P main D Stop k g w := by
  have h2 : ∀ d, ∃ t : Goroutine × World × Array Event, stepG P main g (w.at d) = .go t.1 t.2.1 t.2.2 ∧ D (w.at d) t.2.1 t.2.2 ∧ Gx P main D Stop (deafBehind k t.2.2) t.1 t.2.1 := fun d => by
    obtain ⟨g', w', es, q⟩ := h d
    exact ⟨(g', w', es), q⟩
  obtain ⟨f, hf⟩ := Classical.skolem.1 h2
  exact .step hr (fun d => (f d).1) (fun d => (f d).2.1) (fun d => (f d).2.2) (fun d => (hf d).1) (fun d => (hf d).2.1) (fun d => (hf d).2.2)
theorem Gx.mono {P : Program} {main : Bool} {D D' : World → World → Array Event → Prop} {Stop Stop' : Nat → Goroutine → World → Prop} (hD : ∀ w w' es, D w w' es → D' w w' es) {k : Nat} {g : Goroutine} {w : World} (h : Gx P main D Stop k g w)
    (hS : ∀ k g w, Stop k g w → Stop' k g w) : Gx P main D' Stop' k g w := by
  induction h with
  | stop h => exact .stop fun d => hS _ _ _ (h d)
  | step hr ng nw ne hs hd _ ih => exact .step hr ng nw ne hs (fun d => hD _ _ _ (hd d)) ih
/-- One walk behind the other. -/
theorem Gx.bind {P : Program} {main : Bool} {D : World → World → Array Event → Prop} {Stop Stop' : Nat → Goroutine → World → Prop} {k : Nat} {g : Goroutine} {w : World} (h : Gx P main D Stop k g w)
    (hS : ∀ k g w, (∀ d, Stop k g (w.at d)) → Gx P main D Stop' k g w) : Gx P main D Stop' k g w := by
  induction h with
  | stop h => exact hS _ _ _ h
  | step hr ng nw ne hs hd _ ih => exact .step hr ng nw ne hs hd ih
/-- What a step of the holder's may do: nothing at a hidden block, nor does a seat's channel turn. -/
structure GD (Hd C : Nat → Prop) (w w' : World) (es : Array Event) : Prop where
  evs : ∀ e ∈ es, EvOk Hd e
  hid : ∀ b, Hd b → Still w.heap[b]? w'.heap[b]?
  chan : ∀ c, C c → w'.heap[c]? = w.heap[c]?
  size : w.heap.size ≤ w'.heap.size
/-- v is w, but for its tape, and the hidden blocks are empty in it. -/
structure Near (Hd : Nat → Prop) (v w : World) : Prop where
  os : v.os = w.os
  output : v.output = w.output
  size : v.heap.size = w.heap.size
  obj : ∀ b : Nat, ¬ Hd b → v.heap[b]? = w.heap[b]?
  hid : ∀ b : Nat, Hd b → Veil b v.heap[b]? w.heap[b]?
theorem Near.like {Hd : Nat → Prop} {v w : World} (h : Near Hd v w) (M : Nat) (τ : Tape) (hτ : ∀ j q, τ (v.drawn + j) q = w.tape (w.drawn + j) q) : Like Hd ⟨M, w.tape, v.drawn, w.drawn, fun b => w.heap[b]?, fun b => v.heap[b]?⟩ (tp v τ) w :=
  ⟨fun j q _ => hτ j q, ⟨rfl, by simp only [tp_drawn]; omega⟩, h.os, h.output, h.size, h.obj, fun b hb => .inl ⟨rfl, rfl, h.hid b hb⟩⟩
theorem Like.near {Hd : Nat → Prop} {M : Lim} {v w : World} (h : Like Hd M v w) : Near Hd v w := ⟨h.os, h.output, h.size, h.obj, fun b hb => (h.hid b hb).veil⟩
theorem Near.at {Hd : Nat → Prop} {v w : World} (h : Near Hd v w) (d : Nat) : Near Hd v (w.at d) := ⟨h.os, h.output, h.size, h.obj, h.hid⟩
theorem deafBehind_calm {es : Array Event} (h : ∀ e ∈ es, ∀ m, e.loc = .mark m → MarkOk m) (k : Nat) : deafBehind k es = k :=
  deafBehind_still (fun e he => ⟨fun q => (h e he _ q).elim, fun q => (h e he _ q).elim⟩) k
section
variable {P : Program} {ok : Oper → Prop} {okf : FuncId → Prop} {Stop : Goroutine → World → Prop} {g g' : Goroutine} {v v' : World} {es : Array Event} {Hd C : Nat → Prop}
theorem Same.self (v : World) : Same v.tape v := fun _ _ => rfl
/-- A channel that stands at every stop stands all the way. -/
theorem Bar.chans (E : Env P ok okf) (hst : ∀ g v, Stop g v → ∀ c, C c → ∃ o : Obj, o.isChan = true ∧ v.heap[c]? = some o) (hb : Bar P ok okf Hd Stop g v) : (∀ c, C c → c < v.heap.size) → ∀ c, C c → ∃ o : Obj, o.isChan = true ∧ v.heap[c]? = some o := by
  induction hb with
  | stop h => exact fun _ => hst _ _ h
  | @step g v ng nv ne hf hs hd _ ih =>
    intro hc c hC
    have h1 := (retape E (hf _ (Same.self v)) (hs _ (Same.self v)) (hd _ (Same.self v)) v.tape (fun _ _ _ => rfl)).2.2
    obtain ⟨o, ho, hq⟩ := ih _ (Same.self v) (fun c hC => Nat.lt_of_lt_of_le (hc c hC) h1.size) c hC
    exact ⟨o, ho, h1.chan c o ho (hc c hC) hq⟩
/-- ████ ████ -/
theorem Bar.goes (E : Env P ok okf) (hst : ∀ g v, Stop g v → ∀ c, C c → ∃ o : Obj, o.isChan = true ∧ v.heap[c]? = some o) (hCH : ∀ c, C c → ¬ Hd c) (V0 H0 : Nat → Option Obj) (τ0 : Tape) (cs : List Frame) (m : Bool) (k : Nat) (hb : Bar P ok okf Hd Stop g v) :
    ∀ w : World, Near Hd v w → HeapOk ok Hd v → (∀ c, C c → c < v.heap.size) → (∀ b, Hd b → Twin b (V0 b) (H0 b) v.heap[b]? w.heap[b]?) → (∀ b, C b → w.heap[b]? = H0 b) → w.tape = τ0 →
    Gx P m (GD Hd C) (fun k' g' w' => k' = k ∧ ∃ g v, Stop g v ∧ Near Hd v w' ∧ HeapOk ok Hd v ∧ (∀ b, Hd b → Twin b (V0 b) (H0 b) v.heap[b]? w'.heap[b]?) ∧ (∀ b, C b → w'.heap[b]? = H0 b) ∧ w'.tape = τ0 ∧ g' = { g with callers := g.callers ++ cs }) k { g with callers := g.callers ++ cs } w := by
  induction hb with
  | @stop g v h => exact fun w hn hv _ hH hHC hτ0 => .stop fun d => ⟨rfl, g, v, h, hn.at d, hv, hH, hHC, hτ0, rfl⟩
  | @step g v ng nv ne hf hs hd hb ih =>
    intro w hn hv hc hH hHC hτ0
    refine Gx.step' (by exact (hf _ (Same.self v)).gor.running) fun d => ?_
    let τ : Tape := fun i q => if i < v.drawn then v.tape i q else w.tape (d + (i - v.drawn)) q
    have hτ : Same τ v := fun i hi => by funext q; simp only [τ, if_pos hi]
    have hl := (hn.at d).like (nv τ).drawn τ (fun j q => by simp only [τ]; rw [if_neg (by omega), Nat.add_sub_cancel_left]; rfl)
    obtain ⟨okm, hm1, hm2, hm3⟩ := E.hm
    have h1 := step_told (cs := cs) (m := m) E.hok okm hm1 hm2 (E.gd (hf τ hτ).fn) (hf τ hτ).gor (E.hin _ (hf τ hτ).fn) (fun f q => hm3 f ((hf τ hτ).about f q)) hl ⟨hv.obj, hv.hid⟩
    rw [hs τ hτ] at h1
    obtain ⟨hg, hw, hx⟩ := h1 (hd τ hτ)
    obtain ⟨w', e, hl'⟩ := hx (Nat.le_refl _)
    have hc' : ∀ c, C c → c < (nv τ).heap.size := fun c q => Nat.lt_of_lt_of_le (hc c q) hw.size
    have hhid : ∀ b, Hd b → Twin b v.heap[b]? w.heap[b]? (nv τ).heap[b]? w'.heap[b]? := fun b hb => hl'.hid b hb
    have hchan : ∀ c, C c → w'.heap[c]? = w.heap[c]? := fun c q => by
      obtain ⟨o, ho, hq⟩ := Bar.chans E hst (hb τ hτ) hc' c q
      rw [← hl'.obj c (hCH c q), hq]
      have h2 := hw.chan c o ho (hc c q) hq
      exact h2.symm.trans (hl.obj c (hCH c q))
    refine ⟨_, w', ne τ, e, ⟨hw.evs, fun b hb => (hhid b hb).still, hchan, ?_⟩, ?_⟩
    · have := hw.size
      rw [hl'.size, hl.size] at this
      exact this
    · rw [deafBehind_calm (fun x hx => (hw.evs x hx).mark)]
      exact ih τ hτ w' hl'.near hw.heap hc' (fun b hb => (hH b hb).trans (hhid b hb)) (fun b hb => (hchan b hb).trans (hHC b hb)) (hl'.other.1.trans hτ0)
end
end Go.Proofs.Ytfgpnfboolbbbaa
