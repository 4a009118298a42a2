/-
  From here the run ends well: what is said of the holder, step by step, backwards from the end.
-/
import Derived.Test.YtfpkachoneaaeaaBbCo
import Derived.Conc.TokenWalk
import Derived.Conc.DeferLaws
import Derived.Conc.Beside
import Derived.Conc.MarkLaws
import Derived.Conc.AtomicLaws2
import Derived.Conc.SmallLaws
import Derived.Laws.LoneSync
import Derived.Laws.NewBlocks
import Derived.Laws.Alloc2
import Derived.KernelRfl
set_option linter.unusedSimpArgs false
set_option linter.unusedVariables false
namespace Go.Proofs.Ytfpkachoneaaeaa
open Go Go.Conc
/-- How the slots are brought into order, in one. -/
theorem nrmL : (∀ (α β : Type) (f : α → β) (l : List α), l.toArray.map f = (l.map f).toArray) ∧ (∀ (α β : Type) (f : α → β) (a : α) (l : List α), (a :: l).map f = f a :: l.map f) ∧ (∀ (α β : Type) (f : α → β), ([] : List α).map f = [])
    ∧ (∀ (α : Type) (a : Array α) (i : Nat) (d : α), a.getD i d = a[i]?.getD d) ∧ (∀ (α : Type) (l : List α) (i : Nat), l.toArray[i]? = l[i]?) ∧ (∀ (α : Type) (a : α) (l : List α) (i : Nat), (a :: l)[i + 1]? = l[i]?) ∧ (∀ (α : Type) (a : α) (l : List α), (a :: l)[0]? = some a)
    ∧ (∀ (α : Type) (a d : α), (some a).getD d = a) ∧ (∀ (α β : Type) (a : α) (f : α → Option β), (some a).bind f = f a) ∧ (∀ (α : Type) (l : List α), l.toArray.size = l.length) ∧ (∀ (α : Type) (a : α) (l : List α), (a :: l).length = l.length + 1) ∧ (∀ (α : Type), ([] : List α).length = 0)
    ∧ (∀ (α : Type) (n : Nat) (a : α), Array.replicate (n + 1) a = (Array.replicate n a).push a) ∧ (∀ (α : Type) (a : α), Array.replicate 0 a = #[]) ∧ (∀ (α : Type) (a : α) (l : List α), l.toArray.push a = (l ++ [a]).toArray) ∧ (∀ (α : Type) (l l' : List α), l.toArray ++ l'.toArray = (l ++ l').toArray)
    ∧ (∀ (α : Type) (l : List α), [] ++ l = l) ∧ (∀ (α : Type) (a : α) (l l' : List α), a :: l ++ l' = a :: (l ++ l')) ∧ (∀ (α : Type) (l : List α) (i : Nat) (a : α), l.toArray.setIfInBounds i a = (l.set i a).toArray) ∧ (∀ (α : Type) (a b : α) (l : List α) (i : Nat), (a :: l).set (i + 1) b = a :: l.set i b) ∧ (∀ (α : Type) (a b : α) (l : List α), (a :: l).set 0 b = b :: l)
    ∧ (∀ (α : Type) (l : List α) (i : Nat) (h : i < l.toArray.size), l.toArray[i] = l[i]'(by simpa using h)) ∧ (∀ (α : Type) (a : α) (l : List α) (i : Nat) (h : i + 1 < (a :: l).length), (a :: l)[i + 1] = l[i]'(Nat.lt_of_succ_lt_succ h)) ∧ (∀ (α : Type) (a : α) (l : List α) (h : 0 < (a :: l).length), (a :: l)[0] = a) :=
  ⟨fun _ _ _ _ => by simp, fun _ _ _ _ _ => rfl, fun _ _ _ => rfl, fun _ _ _ _ => by simp, fun _ _ _ => by simp, fun _ _ _ _ => by simp, fun _ _ _ => by simp, fun _ _ _ => rfl, fun _ _ _ _ => rfl, fun _ _ => by simp, fun _ _ _ => rfl, fun _ => rfl, fun _ _ _ => Array.replicate_succ, fun _ _ => by simp, fun _ _ _ => by simp, fun _ _ _ => by simp, fun _ _ => rfl, fun _ _ _ _ => rfl, fun _ _ _ _ => by simp, fun _ _ _ _ _ => rfl, fun _ _ _ _ => rfl, fun _ _ _ _ => by simp, fun _ _ _ _ _ => rfl, fun _ _ _ _ => rfl⟩
theorem rngL : (∀ n : Nat, List.range n = List.range.loop n []) ∧ (∀ (n : Nat) (l : List Nat), List.range.loop (n + 1) l = List.range.loop n (n :: l)) ∧ (∀ l : List Nat, List.range.loop 0 l = l) := ⟨fun _ => rfl, fun _ _ => rfl, fun _ => rfl⟩
/-- Who sits where; what is shunned; the blocks that hold either; the seats' channels. -/
structure Scene where
  Sh : Loc → Prop
  Inb : Nat → Option Chair
  Hd : Nat → Prop
  C : Nat → Prop
  place : ∀ i ch a v, Inb i = some ch → ch.val a = some v → Hd a.block
  chan : ∀ i ch c, Inb i = some ch → ch.seat.has c → C c
  shun : ∀ l, Sh l → ∃ a, l = .cell a ∧ Hd a.block
  apart : ∀ c, C c → ¬ Hd c
def Scene.Place (Z : Scene) (a : Addr) : Prop := ∃ i ch v, Z.Inb i = some ch ∧ ch.val a = some v
structure EvX (Z : Scene) (e : Event) : Prop where
  write : ∀ x, (MemAct.ofEvent e).touch? = some x → x.write = true → ∀ g, ¬ StOf Z.Inb g x.loc
  shun : ∀ x, (MemAct.ofEvent e).touch? = some x → Z.Sh x.loc → x.kind ≠ .plain
  norel : ∀ a, e.loc ≠ .mark (.release a)
/-- An operation that the lone run may bear. -/
def okP (P : Program) : Oper → Prop := fun o => okOp P o = true
/-- The world is well: its objects that are not hidden; no hidden one is a channel; the channels are there. -/
structure WOk (P : Program) (Z : Scene) (w : World) : Prop where
  obj : ∀ (b : Nat) (o : Obj), ¬ Z.Hd b → w.heap[b]? = some o → ObjOk (okP P) o
  hid : ∀ b, Z.Hd b → ∃ o : Obj, o.isChan = false ∧ w.heap[b]? = some o
  chan : ∀ c, Z.C c → ∃ o : Obj, o.isChan = true ∧ w.heap[c]? = some o
structure HX (P : Program) (Z : Scene) (w w' : World) (es : Array Event) : Prop where
  ok : WOk P Z w → WOk P Z w'
  evs : ∀ e ∈ es, EvX Z e
  keep : ∀ a, Z.Place a → w'.cell? a = w.cell? a
  chan : ∀ c, Z.C c → w'.heap[c]? = w.heap[c]?
theorem HX.hd {P : Program} {Z : Scene} {w w' : World} {es : Array Event} (h : HX P Z w w' es) : HD Z.Sh Z.Inb w w' es :=
  ⟨fun e he => (h.evs e he).write, fun e he => (h.evs e he).shun, fun e he => (h.evs e he).norel, fun i ch e hK a v hv => by rw [h.keep a ⟨i, ch, v, e, hv⟩]; exact hK a v hv, fun i ch c e hc => h.chan c (Z.chan i ch c e hc)⟩
section
variable {Z : Scene}
theorem Scene.not_st {Z : Scene} {a : Addr} (h : ¬ Z.Place a) (g : Nat) : ¬ StOf Z.Inb g (.cell a) := by
  rintro ⟨ch, e, a', v, hl, hv⟩
  cases hl
  exact h ⟨g, ch, v, e, hv⟩
theorem Scene.st_hd {Z : Scene} {l : Loc} {g : Nat} (h : StOf Z.Inb g l) : ∃ a, l = .cell a ∧ Z.Hd a.block := by
  obtain ⟨ch, e, a, v, hl, hv⟩ := h
  exact ⟨a, hl, Z.place g ch a v e hv⟩
theorem evX_cell {a : Addr} {wr sy : Bool} (hp : wr = true → ¬ Z.Place a) (hs : sy = false → ¬ Z.Sh (.cell a)) : EvX Z ⟨.cell a, wr, sy⟩ := by
  refine ⟨fun x hx hw g => ?_, fun x hx hx' => ?_, fun a q => by cases q⟩
  · rw [ofEvent_cell0] at hx
    simp only [MemAct.touch?, Option.some.injEq] at hx
    subst hx
    exact Scene.not_st (hp hw) g
  · rw [ofEvent_cell0] at hx
    simp only [MemAct.touch?, Option.some.injEq] at hx
    subst hx
    cases sy with
    | false => exact (hs rfl hx').elim
    | true => simp
theorem evX_mute {e : Event} (h : (MemAct.ofEvent e).touch? = none) (hr : ∀ a, e.loc ≠ .mark (.release a)) : EvX Z e :=
  ⟨fun x hx => (by rw [h] at hx; cases hx), fun x hx => (by rw [h] at hx; cases hx), hr⟩
theorem evX_ok {e : Event} (h : EvOk Z.Hd e) : EvX Z e := by
  have key : ∀ x, (MemAct.ofEvent e).touch? = some x → ∀ a, x.loc = .cell a → ¬ Z.Hd a.block := fun x hx a ha => by
    rcases touch_loc hx with ⟨b, h1, h2⟩ | h1
    · rw [ha] at h1
      cases h1
      rcases h2 with h2 | h2 | h2
      · exact h.cell a h2
      · exact (h.mark _ h2).elim
      · exact (h.mark _ h2).elim
    · exact (h1 a ha).elim
  refine ⟨fun x hx hw g hs => ?_, fun x hx hs => ?_, fun a q => (h.mark _ q).elim⟩
  · obtain ⟨a, hl, hh⟩ := Scene.st_hd hs
    exact key x hx a hl hh
  · obtain ⟨a, hl, hh⟩ := Z.shun _ hs
    exact (key x hx a hl hh).elim
theorem HX.idle {P : Program} (w : World) : HX P Z w w #[] := ⟨id, by simp, fun _ _ => rfl, fun _ _ => rfl⟩
theorem HX.still {P : Program} {w : World} {es : Array Event} (h : ∀ e ∈ es, EvX Z e) : HX P Z w w es := ⟨id, h, fun _ _ => rfl, fun _ _ => rfl⟩
theorem heap_kind {w : World} {a : Addr} {v : Value} {b : Nat} {o : Obj} (h : (w.setCell a v).heap[b]? = some o) : w.heap[b]? = some o ∨ ∃ c c' e fr, o = .cells c e fr ∧ w.heap[b]? = some (.cells c' e fr) := by
  simp only [World.setCell, Array.getElem?_modify] at h
  split at h
  · cases e : w.heap[b]? with
    | none => rw [e] at h; cases h
    | some o' =>
      rw [e] at h
      cases o' <;> simp only [Option.map_some, Option.some.injEq] at h <;> subst h <;> first | exact .inl rfl | exact .inr ⟨_, _, _, _, rfl, rfl⟩
  · exact .inl h
theorem WOk.setCell {P : Program} {w : World} (h : WOk P Z w) (a : Addr) (v : Value) : WOk P Z (w.setCell a v) := by
  refine ⟨fun b o hb ho => ?_, fun b hb => ?_, fun c hc => ?_⟩
  · rcases heap_kind ho with q | ⟨c, c', e, fr, rfl, q⟩
    · exact h.obj b o hb q
    · exact trivial
  · obtain ⟨o, ho, q⟩ := h.hid b hb
    simp only [World.setCell, Array.getElem?_modify, q]
    split
    · refine ⟨_, ?_, rfl⟩
      cases o <;> first | rfl | exact ho
    · exact ⟨o, ho, rfl⟩
  · obtain ⟨o, ho, q⟩ := h.chan c hc
    refine ⟨o, ho, ?_⟩
    simp only [World.setCell, Array.getElem?_modify, q]
    split
    · cases o <;> first | rfl | cases ho
    · rfl
theorem WOk.at {P : Program} {w : World} (h : WOk P Z w) (d : Nat) : WOk P Z (w.at d) := ⟨h.obj, h.hid, h.chan⟩
theorem WOk.setChan {P : Program} {w : World} (h : WOk P Z w) {c : Nat} {o : Obj} (hc : w.heap[c]? = some o) (ho : o.isChan = true) (cap : Nat) (buf : Array Value) (cl : Bool) (s r : Nat) (tm : Bool) : WOk P Z (w.setChan c cap buf cl s r tm) := by
  refine ⟨fun b o' hb ho' => ?_, fun b hb => ?_, fun c' hc' => ?_⟩
  · simp only [World.setChan, Array.getElem?_setIfInBounds] at ho'
    split at ho'
    · split at ho'
      · obtain rfl := Option.some.inj ho'
        exact trivial
      · cases ho'
    · exact h.obj b o' hb ho'
  · obtain ⟨o2, h2, q⟩ := h.hid b hb
    refine ⟨o2, h2, ?_⟩
    simp only [World.setChan, Array.getElem?_setIfInBounds]
    rw [if_neg (fun e => by subst e; rw [hc] at q; obtain rfl := Option.some.inj q; rw [ho] at h2; cases h2)]
    exact q
  · obtain ⟨o', ho', q⟩ := h.chan c' hc'
    simp only [World.setChan, Array.getElem?_setIfInBounds]
    by_cases e : c = c'
    · subst e
      rw [if_pos rfl, if_pos (Array.getElem?_eq_some_iff.1 hc).1]
      exact ⟨_, rfl, rfl⟩
    · rw [if_neg e]
      exact ⟨o', ho', q⟩
end
/-- Goroutine h holds, its record is a, as deaf as k; n goroutines: the run ends well. -/
def Run (P : Program) (Post : Value → World → Prop) (Z : Scene) (n h k : Nat) (a : Goroutine) (w : World) : Prop :=
  ∀ (d : Nat) (gs : Array Goroutine) (T : Trace) (q : Nat → Nat) (sl : Option (Nat × Nat)), gs.size = n → gs[h]? = some a → WOk P Z (w.at d) → Hold P Z.Sh Z.Inb h T gs (w.at d) q → Deaf T h = k → Ends P Post (crowd gs (w.at d) sl) T
section
variable {P : Program} {Post : Value → World → Prop} {Z : Scene} {n h k : Nat} {a a' : Goroutine} {w w' : World}
theorem Run.at (H : Run P Post Z n h k a w) (d : Nat) : Run P Post Z n h k a (w.at d) := fun d' => H d'
theorem Run.of_at {d : Nat} (H : Run P Post Z n h k a (w.at d)) : Run P Post Z n h k a w := fun d' => H d'
theorem Run.here (H : Run P Post Z n h k a w) {gs : Array Goroutine} {T : Trace} {q : Nat → Nat} {sl : Option (Nat × Nat)} (h1 : gs.size = n) (h2 : gs[h]? = some a) (ho : WOk P Z w) (h3 : Hold P Z.Sh Z.Inb h T gs w q) (h4 : Deaf T h = k) : Ends P Post (crowd gs w sl) T :=
  H w.drawn gs T q sl h1 h2 ho h3 h4
theorem Run.step (hr : a.status = .running) (hs : ∀ d, ∃ a' w' es, stepG P (h == 0) a (w.at d) = .go a' w' es ∧ HX P Z (w.at d) w' es ∧ Run P Post Z n h (deafBehind k es) a' w') : Run P Post Z n h k a w := by
  intro d gs T q sl hn ha hok C hk
  refine Hold.picked ha hr C fun gs' d' sl' T' q' hsz ha' C' hdf => ?_
  obtain ⟨a₁, w₁, es, e, hx, H⟩ := hs d'
  have hlt : h < gs'.size := (Array.getElem?_eq_some_iff.1 ha').1
  refine ⟨_, _, runT_crowd_go (P := P) (sl := sl') (i := h) ha' e, ?_⟩
  exact H.here (by simp [hsz, hn]) (Array.getElem?_setIfInBounds_self_of_lt (by simpa using hlt)) (hx.ok ⟨hok.obj, hok.hid, hok.chan⟩) (C'.own ha' hx.hd) (by rw [Deaf_own, hdf, hk])
theorem Run.goes (hr : a.status = .running) (hs : ∀ d, (stepG P (h == 0) a (w.at d)).goes fun a' w' es => HX P Z (w.at d) w' es ∧ Run P Post Z n h (deafBehind k es) a' w') : Run P Post Z n h k a w :=
  Run.step hr fun d => by
    have := hs d
    revert this
    cases stepG P (h == 0) a (w.at d) <;> simp only [GStep.goes, false_implies]
    exact fun ⟨x, y⟩ => ⟨_, _, _, rfl, x, y⟩
theorem Run.ctl (hs : ∀ w, stepG P (h == 0) a w = .go a' w #[]) (hr : a.status = .running) (H : Run P Post Z n h k a' w) : Run P Post Z n h k a w :=
  Run.step hr fun d => ⟨_, _, _, hs _, HX.idle _, H.at d⟩
/-- A walk that is a tree of draws. -/
theorem Run.gx {D : World → World → Array Event → Prop} {Stop : Nat → Goroutine → World → Prop} (hD : ∀ w w' es, D w w' es → HD Z.Sh Z.Inb w w' es) (hS : ∀ k g w, Stop k g w → WOk P Z w) (hG : WOk P Z w → Gx P (h == 0) D Stop k a w)
    (H : ∀ k' a' w', Stop k' a' w' → Run P Post Z n h k' a' w') : Run P Post Z n h k a w := by
  intro d gs T q sl hn ha hok C hk
  have hG' : Gx P (h == 0) D Stop k a (w.at d) := by
    cases hG ⟨hok.obj, hok.hid, hok.chan⟩ with
    | stop hs => exact .stop fun d' => hs d'
    | step hr ng nw ne hs hd ih => exact .step hr ng nw ne (fun d' => hs d') (fun d' => hd d') ih
  exact hold hD hG' ha C hk fun k' a' w' gs' T' q' sl' hs ha' C' hk' hsz' => (H k' a' w' hs).here (hsz'.trans hn) ha' (hS _ _ _ hs) C' hk'
variable {b : Frame} {x : Act} {kk : List Item} {cs : List Frame} {ops : Array Oper} {i : Nat} {rest : List Nat} {o : Oper}
/-- An operation that yields a value or nothing. -/
theorem Run.opk (ho : ops[i]? = some o) (hw : Region.wanted o (yielded ops x.tmps) = true) (hk : b.kind ≠ .early)
    (H : ∀ d, ∀ K' : Act → World → Prop, (∀ x' w', HX P Z (w.at d) w' (listed P b.fn x o (w.at d)) ∧ deafBehind k (listed P b.fn x o (w.at d)) = k ∧ Run P Post Z n h k (G (b.at x' (.inRegion ops rest :: kk)) cs) w' → K' x' w') → uponK o x K' ((execOp x.eval o).run P (w.at d))) :
    Run P Post Z n h k (G (b.at x (.inRegion ops (i :: rest) :: kk)) cs) w :=
  Run.goes rfl fun d => goes_oper_k ho hw hk fun K' hK => H d K' fun x' w' ⟨q1, q2, q3⟩ => hK x' w' ⟨q1, by rw [q2]; exact q3⟩
/-- .. and neither turns the world nor lists anything. -/
theorem Run.quiet (ho : ops[i]? = some o) (hw : Region.wanted o (yielded ops x.tmps) = true) (hk : b.kind ≠ .early) (he : ∀ w, (execOp x.eval o).events P w #[] = #[])
    (H : ∀ w₁ : World, ∀ K' : Act → World → Prop, (∀ x', Run P Post Z n h k (G (b.at x' (.inRegion ops rest :: kk)) cs) w → K' x' w₁) → uponK o x K' ((execOp x.eval o).run P w₁)) :
    Run P Post Z n h k (G (b.at x (.inRegion ops (i :: rest) :: kk)) cs) w := by
  refine Run.opk ho hw hk fun d K' hK => ?_
  have e : listed P b.fn x o (w.at d) = #[] := listed_none (he _)
  exact H (w.at d) K' fun x' R => hK x' _ ⟨by rw [e]; exact HX.idle _, by rw [e]; rfl, R.at d⟩
end
end Go.Proofs.Ytfpkachoneaaeaa
namespace Go.Proofs.Ytfpkachoneaaeaa
open Go Go.Conc
open Go.ConcN (sumTo upd sumTo_upd upd_ne upd_same le_sumTo)
section
variable {P : Program} {Post : Value → World → Prop} {Sh : Loc → Prop} {Inb : Nat → Option Chair} {T : Trace} {gs : Array Goroutine} {w : World} {q : Nat → Nat}
theorem Hold.over (C : Hold P Sh Inb 0 T gs w q) (hI : ∀ i, Inb i = none) : T.HandedOver := by
  intro i g hg hg0 hc
  obtain ⟨x, hx, hm, hk⟩ := hc
  have ha : touchAt T i = some x := hx
  rcases C.past.known i x ha hm with h | ⟨_, g', _, _, hl⟩ | ⟨_, h1, h2⟩
  · obtain ⟨p, z, h1, h2, h3⟩ := h
    refine ⟨p, by rw [Trace.g?, h1]; simp [h2], ?_⟩
    rcases h3 with rfl | h3
    · rw [Trace.g?, h1] at hg
      simp [h2] at hg
      exact absurd hg.symm hg0
    · exact h3
  · rw [hI g'] at hl
    cases hl.1
  · rcases hk with hk | hk
    · exact absurd h1 hk
    · exact absurd hk h2
theorem Hold.ended {a : Goroutine} {v : Value} {sl : Option (Nat × Nat)} (ha : gs[0]? = some a) (hrun : a.status = .running) (C : Hold P Sh Inb 0 T gs w q) (hI : ∀ i, Inb i = none) (hs : ∀ w₁ : World, stepG P true a w₁ = .ended (.done v) w₁ #[]) (hp : ∀ d, Post v (w.at d)) : Ends P Post (crowd gs w sl) T := by
  have key : ∀ (n : Nat) (gs₁ : Array Goroutine) (d : Nat) (sl₁ : Option (Nat × Nat)) (T₁ : Trace) (q₁ : Nat → Nat), sumTo gs₁.size q₁ = n → gs₁[0]? = some a → Hold P Sh Inb 0 T₁ gs₁ (w.at d) q₁ → Ends P Post (crowd gs₁ (w.at d) sl₁) T₁ := by
    intro n
    induction n using Nat.strongRecOn with
    | _ n ih =>
      intro gs₁ d sl₁ T₁ q₁ hn ha₁ C₁
      obtain ⟨i, g, d', sl', hi, hg, hst⟩ := crowd_pick (P := P) (w := w.at d) (sl := sl₁) (C₁.awakes (fun i g hi hg => by
        subst hi
        rw [ha₁] at hg
        obtain rfl := Option.some.inj hg
        exact awake_of (.inl hrun))) ⟨0, a, ha₁, hrun⟩
      have Cd : Hold P Sh Inb 0 T₁ gs₁ (w.at d') q₁ := C₁.at d'
      by_cases e : i = 0
      · subst e
        rw [ha₁] at hi
        obtain rfl := Option.some.inj hi
        have hrt := runT_many_ended (P := P) (sl := sl') (i := 0) ha₁ (show stepG P (0 == 0) a ((w.at d).at d') = _ from hs _)
        rw [ofEvents_none] at hrt
        have hst' := hst.trans hrt
        refine ⟨0, crowd gs₁ (w.at d) sl₁, .done v, (w.at d).at d', T₁ ++ #[], ?_, rfl, ?_, v, rfl, hp d', ?_, ?_, ⟨fun x hx => ?_, rfl⟩, fun j x hx hj => ?_⟩
        · rw [runNT, hst']
        · unfold Go.step
          rw [hst']
        · rw [Array.append_empty]; exact C₁.past.clean
        · rw [Array.append_empty]; exact C₁.over hI
        · obtain ⟨j, hj⟩ := List.mem_iff_getElem?.1 hx
          rw [List.getElem?_drop] at hj
          have := C₁.idle (1 + j) x (by omega) (by simpa [crowd] using hj)
          rw [hI] at this
          exact ⟨_, this.2.leaves⟩
        · have := C₁.idle j x hj hx
          rw [hI] at this
          rw [Array.append_empty]
          exact ⟨q₁ j, this.2.hears _⟩
      · obtain ⟨gs', ops, q', hrt, hsz', hsp, _, _, C', hlt, hops⟩ := Core.by_step (sl := sl') (fun t u i => Knows.app u) Cd hi e hg
          (fun x gx hx hgx => by subst hx; rw [ha₁] at hgx; obtain rfl := Option.some.inj hgx; exact again_of_running (.inl hrun) _)
          (fun ch g₂ _ _ x gx c hx hgx _ => by subst hx; rw [ha₁] at hgx; obtain rfl := Option.some.inj hgx; exact offersAt_of_not_blocked (by rw [hrun]; simp) _ _)
        exact Ends.step (hst.trans hrt) (ih _ (by rw [← hn, ← hsz']; rw [hsz']; exact hlt) gs' d' sl' (T₁ ++ ops) q' rfl (by rw [hsp 0 rfl]; exact ha₁) C')
  exact key _ gs w.drawn sl T q rfl ha C
end
section
variable {P : Program} {Post : Value → World → Prop} {Z : Scene} {n : Nat} {a : Goroutine} {w : World}
/-- ████ THE RETURN. ████ -/
theorem Run.done {v : Value} (hr : a.status = .running) (hI : ∀ i, Z.Inb i = none) (hs : ∀ w₁ : World, stepG P true a w₁ = .ended (.done v) w₁ #[]) (hp : ∀ d, Post v (w.at d)) : Run P Post Z n 0 0 a w := by
  intro d gs T q sl hn ha hok C hk
  exact Hold.ended (w := w.at d) ha hr C hI hs (fun d' => hp d')
/-- ████ THE BEGINNING. ████ -/
theorem Run.start (hI : ∀ i, Z.Inb i = none) (hok : WOk P Z w) (H : Run P Post Z 1 0 0 a w) : Ends P Post (crowd #[a] w none) #[] := by
  refine H w.drawn #[a] #[] (fun _ => 0) none rfl rfl hok ⟨fun i g hi hg => ?_, fun i ch c e => ?_, fun i ch e => ?_, fun j _ => rfl, ⟨fun said h => ?_, fun i b hb => ?_, fun i b hb => ?_, fun i b hb => ?_⟩, fun i ch e => ?_, fun i l hl => ?_⟩ rfl
  · have : i < 1 := (Array.getElem?_eq_some_iff.1 hg).1
    exact absurd (show i = 0 by omega) hi
  · rw [hI] at e; cases e
  · rw [hI] at e; cases e
  · obtain ⟨i, j, _, ⟨x, y, hx, _⟩, _⟩ := h
    simp [Trace.act?] at hx
  · simp [touchAt, Trace.act?] at hb
  · simp [touchAt, Trace.act?] at hb
  · simp [Trace.act?] at hb
  · rw [hI] at e; cases e
  · obtain ⟨ch, e, _⟩ := hl
    rw [hI] at e; cases e
end
end Go.Proofs.Ytfpkachoneaaeaa
namespace Go.Proofs.Ytfpkachoneaaeaa
open Go Go.Conc
structure EvQ (Z : Scene) (e : Event) : Prop where
  ev : EvX Z e
  dis : e.loc ≠ .mark .disable
  en : e.loc ≠ .mark .enable
section
variable {P : Program} {Post : Value → World → Prop} {Z : Scene} {n h k : Nat} {w w' : World} {b : Frame} {x : Act} {kk : List Item} {cs : List Frame} {ops : Array Oper} {i : Nat} {rest : List Nat} {o : Oper}
theorem evQ_cell {a : Addr} {wr sy : Bool} (hp : wr = true → ¬ Z.Place a) (hs : sy = false → ¬ Z.Sh (.cell a)) : EvQ Z ⟨.cell a, wr, sy⟩ := ⟨evX_cell hp hs, by simp, by simp⟩
theorem evQ_mute {m : Mark} (h1 : m ≠ .disable) (h2 : m ≠ .enable) (h : (MemAct.ofEvent ⟨.mark m, false, true⟩).touch? = none) (hr : ∀ a, m ≠ .release a) : EvQ Z ⟨.mark m, false, true⟩ :=
  ⟨evX_mute h fun a q => hr a (by cases q; rfl), fun q => h1 (by cases q; rfl), fun q => h2 (by cases q; rfl)⟩
theorem evQ_acquire (a : Addr) : EvQ Z ⟨.mark (.acquire a), false, true⟩ := evQ_mute (by simp) (by simp) rfl (by simp)
theorem evQ_releaseMerge (a : Addr) : EvQ Z ⟨.mark (.releaseMerge a), false, true⟩ := evQ_mute (by simp) (by simp) rfl (by simp)
theorem evX_disable : EvX Z ⟨.mark .disable, false, true⟩ := evX_mute rfl (by simp)
theorem evX_enable : EvX Z ⟨.mark .enable, false, true⟩ := evX_mute rfl (by simp)
theorem Keep.set {a : Addr} (v : Value) (hp : ¬ Z.Place a) (a' : Addr) (ha : Z.Place a') : (w.setCell a v).cell? a' = w.cell? a' :=
  World.cell?_setCell_other w a a' v fun e => hp (e ▸ ha)
theorem Keep.chan {a : Addr} (v : Value) (hC : ¬ Z.C a.block) (c : Nat) (hc : Z.C c) : (w.setCell a v).heap[c]? = w.heap[c]? := by
  simp only [World.setCell, Array.getElem?_modify]
  rw [if_neg (fun (e : a.block = c) => hC (by rw [e]; exact hc))]
theorem Run.op (ho : ops[i]? = some o) (hw : Region.wanted o (yielded ops x.tmps) = true) (hk : b.kind ≠ .early)
    (H : ∀ d, ∀ K' : Act → World → Prop, (∀ x' w', (∀ e ∈ (execOp x.eval o).events P (w.at d) #[], EvQ Z e) → (∀ a, Z.Place a → w'.cell? a = (w.at d).cell? a) → (∀ c, Z.C c → w'.heap[c]? = (w.at d).heap[c]?) → (WOk P Z (w.at d) → WOk P Z w') → Run P Post Z n h k (G (b.at x' (.inRegion ops rest :: kk)) cs) w' → K' x' w') →
      uponK o x K' ((execOp x.eval o).run P (w.at d))) :
    Run P Post Z n h k (G (b.at x (.inRegion ops (i :: rest) :: kk)) cs) w :=
  Run.opk ho hw hk fun d K' hK => H d K' fun x' w' h1 h2 h3 h5 h4 => hK x' w' ⟨⟨h5, fun e he => (h1 e (mem_listed he)).ev, h2, h3⟩, deafBehind_still (fun e he => ⟨(h1 e (mem_listed he)).dis, (h1 e (mem_listed he)).en⟩) _, h4⟩
/-- A move of control that looks at no slot. -/
def moved : List Item → Option (List Item)
  | .code .skip :: k | .code (.label _) :: k | .inBlock _ :: k | .inRegion _ [] :: k => some k
  | .code (.seq x y) :: k => some (.code x :: .code y :: k)
  | .code (.block id c) :: k => some (.code c :: .inBlock id :: k)
  | .code (.exit id) :: k => exitTo id k
  | _ => none
theorem Run.auto {t t' : List Item} (hc : moved t = some t') (H : Run P Post Z n h k (G (b.at x t') cs) w) : Run P Post Z n h k (G (b.at x t) cs) w := by
  refine Run.ctl (a' := G (b.at x t') cs) (fun w => ?_) rfl H
  unfold moved at hc
  split at hc
  · obtain rfl := Option.some.inj hc; exact stepG_skip
  · obtain rfl := Option.some.inj hc; exact stepG_label
  · obtain rfl := Option.some.inj hc; exact stepG_inBlock
  · obtain rfl := Option.some.inj hc; exact stepG_region_end
  · obtain rfl := Option.some.inj hc; exact stepG_seq
  · obtain rfl := Option.some.inj hc; exact stepG_block
  · exact stepG_exit hc
  · cases hc
theorem Run.rg {id : Nat} (H : Run P Post Z n h k (G (b.at x (.inRegion ops (List.range ops.size) :: kk)) cs) w) : Run P Post Z n h k (G (b.at x (.code (.region id ops false) :: kk)) cs) w := Run.ctl (fun _ => stepG_region) rfl H
theorem Run.cT {c : Operand} {y z : Code} (hx : x.eval c = .bool true) (H : Run P Post Z n h k (G (b.at x (.code y :: kk)) cs) w) : Run P Post Z n h k (G (b.at x (.code (.cond c y z) :: kk)) cs) w := Run.ctl (fun _ => stepG_cond (t := true) hx) rfl H
theorem Run.cF {c : Operand} {y z : Code} (hx : x.eval c = .bool false) (H : Run P Post Z n h k (G (b.at x (.code z :: kk)) cs) w) : Run P Post Z n h k (G (b.at x (.code (.cond c y z) :: kk)) cs) w := Run.ctl (fun _ => stepG_cond (t := false) hx) rfl H
theorem Run.rt (H : Run P Post Z n h k (G { b.at x (.code .ret :: kk) with mode := .returning } cs) w) : Run P Post Z n h k (G (b.at x (.code .ret :: kk)) cs) w := Run.ctl (fun _ => stepG_ret') rfl H
theorem Run.nd (H : Run P Post Z n h k (G { b.at x [] with mode := .returning } cs) w) : Run P Post Z n h k (G (b.at x []) cs) w := Run.ctl (fun _ => stepG_end) rfl H
def quietOp (o : Oper) : Bool := match o.op with
  | .move _ | .assign _ | .nilCheck _ | .fieldAddr .. | .binOp .. | .unOp .. | .pick .. | .extract .. | .convert .. | .field .. | .indexAddr .. | .index .. | .slice .. | .build .. => true
  | _ => false
/-- A quiet operation: neither turns the world nor lists anything. -/
theorem Run.quietop (ho : ops[i]? = some o) (_ : quietOp o = true) (hw : Region.wanted o (yielded ops x.tmps) = true) (hk : b.kind ≠ .early) (he : ∀ w, (execOp x.eval o).events P w #[] = #[])
    (H : ∀ w₁ : World, ∀ K' : Act → World → Prop, (∀ x', Run P Post Z n h k (G (b.at x' (.inRegion ops rest :: kk)) cs) w → K' x' w₁) → uponK o x K' ((execOp x.eval o).run P w₁)) :
    Run P Post Z n h k (G (b.at x (.inRegion ops (i :: rest) :: kk)) cs) w := Run.quiet ho hw hk he H
/-- A load of a place that isn't shunned. -/
theorem Run.ld {v : Value} {a : Addr} (ho : ops[i]? = some o) (hw : Region.wanted o (yielded ops x.tmps) = true) (hk : b.kind ≠ .early) (hc : w.cell? a = some v) (hs : ¬ Z.Sh (.cell a))
    (hr : ∀ w₁ : World, w₁.cell? a = some v → (execOp x.eval o).run P w₁ = .ok (.value v) w₁ ∧ (execOp x.eval o).events P w₁ #[] = #[⟨.cell a, false, false⟩])
    (H : Run P Post Z n h k (G (b.at (x.put o.dst v) (.inRegion ops rest :: kk)) cs) w) : Run P Post Z n h k (G (b.at x (.inRegion ops (i :: rest) :: kk)) cs) w := by
  refine Run.op ho hw hk fun d K' hK => ?_
  obtain ⟨h1, h2⟩ := hr (w.at d) hc
  rw [h1]
  refine hK _ _ (fun e he => ?_) (fun _ _ => rfl) (fun _ _ => rfl) id (H.at d)
  rw [h2] at he
  obtain rfl : e = _ := by simpa using he
  exact evQ_cell (fun q => by cases q) (fun _ => hs)
/-- A store into a place that is nobody's and isn't shunned. -/
theorem Run.st {v : Value} {a : Addr} (ho : ops[i]? = some o) (hw : Region.wanted o (yielded ops x.tmps) = true) (hk : b.kind ≠ .early) (hc : (w.cell? a).isSome = true) (hz : w.frozen? a = false) (hs : ¬ Z.Sh (.cell a)) (hp : ¬ Z.Place a) (hC : ¬ Z.C a.block)
    (hr : ∀ w₁ : World, (w₁.cell? a).isSome = true → w₁.frozen? a = false → (execOp x.eval o).run P w₁ = .ok .skip (w₁.setCell a v) ∧ (execOp x.eval o).events P w₁ #[] = #[⟨.cell a, true, false⟩])
    (H : Run P Post Z n h k (G (b.at (x.put o.dst undef) (.inRegion ops rest :: kk)) cs) (w.setCell a v)) : Run P Post Z n h k (G (b.at x (.inRegion ops (i :: rest) :: kk)) cs) w := by
  refine Run.op ho hw hk fun d K' hK => ?_
  obtain ⟨h1, h2⟩ := hr (w.at d) hc hz
  rw [h1]
  refine hK _ _ (fun e he => ?_) (Keep.set v hp) (Keep.chan v hC) (fun q => q.setCell _ _) (H.at d)
  rw [h2] at he
  obtain rfl : e = _ := by simpa using he
  exact evQ_cell (fun _ => hp) (fun _ => hs)
/-- An operation that is not wanted. -/
theorem Run.not (ho : ops[i]? = some o) (hw : Region.wanted o (yielded ops x.tmps) = false) (H : Run P Post Z n h k (G (b.at (x.put o.dst undef) (.inRegion ops rest :: kk)) cs) w) : Run P Post Z n h k (G (b.at x (.inRegion ops (i :: rest) :: kk)) cs) w :=
  Run.ctl (fun _ => stepG_unwanted ho hw) rfl H
/-- A call of a function with a Go body. -/
theorem Run.enter {f : FuncId} {fn : Func} {c : Code} {args : Array Operand} {ats : Array TypeId} (ho : ops[i]? = some o) (hw : Region.wanted o (yielded ops x.tmps) = true) (hk : b.kind ≠ .early) (hop : o.op = .call { callee := .value (.func f), args, argTypes := ats })
    (hf : P.funcs[f]? = some fn) (hname : (fn.name == "runtime.NumGoroutine") = false) (hb : fn.body = some c)
    (H : Run P Post Z n h k (G ((base f).at { tmps := args.map x.eval ++ Array.replicate (fn.ntmps - (args.map x.eval).size) undef, defers := [] } [.code c]) (b.at x (.inRegion ops (i :: rest) :: kk) :: cs)) w) :
    Run P Post Z n h k (G (b.at x (.inRegion ops (i :: rest) :: kk)) cs) w :=
  Run.goes rfl fun d => goes_call ho hw hk hop hf hname hb ⟨HX.idle _, H.at d⟩
theorem Run.leave0 {fn : Func} {todo : List Item} {c : Frame} (hn : b.kind = .normal) (hd : x.defers = []) (hf : P.funcs[b.fn]? = some fn) (hr : fn.results = #[]) (H : Run P Post Z n h k (G (c.finish (.tuple #[])) cs) w) :
    Run P Post Z n h k (G { b.at x todo with mode := .returning } (c :: cs)) w :=
  Run.ctl (fun w => stepG_leave hn hd hf (results_none hr _ P w) (events_results_none hr _ _)) rfl H
theorem Run.leave1 {fn : Func} {t : Tmp} {todo : List Item} {c : Frame} (hn : b.kind = .normal) (hd : x.defers = []) (hf : P.funcs[b.fn]? = some fn) (hr : fn.results = #[.tmp t]) (H : Run P Post Z n h k (G (c.finish (x.tmps.getD t undef)) cs) w) :
    Run P Post Z n h k (G { b.at x todo with mode := .returning } (c :: cs)) w :=
  Run.ctl (fun w => stepG_leave hn hd hf (results_tmp hr _ P w) (events_results_tmp hr _ _)) rfl H
theorem Run.leave2 {fn : Func} {t u : Tmp} {todo : List Item} {c : Frame} (hn : b.kind = .normal) (hd : x.defers = []) (hf : P.funcs[b.fn]? = some fn) (hr : fn.results = #[.tmp t, .tmp u]) (H : Run P Post Z n h k (G (c.finish (.tuple #[x.tmps.getD t undef, x.tmps.getD u undef])) cs) w) :
    Run P Post Z n h k (G { b.at x todo with mode := .returning } (c :: cs)) w :=
  Run.ctl (fun w => stepG_leave hn hd hf (results_tmp2 hr _ P w) (events_results_tmp2 hr _ _)) rfl H
/-- A call is put off. -/
theorem Run.defer {f : FuncId} {as : Array Operand} {ats : Array TypeId} (ho : ops[i]? = some o) (hw : Region.wanted o (yielded ops x.tmps) = true) (hk : b.kind ≠ .early) (hop : o.op = .defer { callee := .value (.func f), args := as, argTypes := ats })
    (H : Run P Post Z n h k (G (b.at (Act.put ⟨x.tmps, dcall f (as.map x.eval) :: x.defers⟩ o.dst undef) (.inRegion ops rest :: kk)) cs) w) : Run P Post Z n h k (G (b.at x (.inRegion ops (i :: rest) :: kk)) cs) w :=
  Run.ctl (fun _ => stepG_defer ho hw hk hop) rfl H
/-- .. and made. -/
theorem Run.undefer {f : FuncId} {fn : Func} {c : Code} {args : Array Value} {ds : List Deferred} {todo : List Item} (hd : x.defers = dcall f args :: ds) (hf : P.funcs[f]? = some fn) (hname : (fn.name == "runtime.NumGoroutine") = false) (hb : fn.body = some c)
    (H : Run P Post Z n h k (G ((baseD f).at { tmps := args ++ Array.replicate (fn.ntmps - args.size) undef, defers := [] } [.code c]) ({ b.at ⟨x.tmps, ds⟩ todo with mode := .returning } :: cs)) w) : Run P Post Z n h k (G { b.at x todo with mode := .returning } cs) w :=
  Run.ctl (fun _ => stepG_unwind_enter hd hf hname hb) rfl H
theorem Run.leaveD {fn : Func} {todo : List Item} {c : Frame} (hn : b.kind = .deferred) (hd : x.defers = []) (hf : P.funcs[b.fn]? = some fn) (hr : fn.results = #[]) (hc : c.mode = .returning) (H : Run P Post Z n h k (G c cs) w) :
    Run P Post Z n h k (G { b.at x todo with mode := .returning } (c :: cs)) w :=
  Run.ctl (fun w => stepG_leave_deferred hn hd hf (results_none hr _ P w) (events_results_none hr _ _) hc) rfl H
section
variable {f : FuncId} {fn : Func} {ats : Array TypeId} {as : Array Operand}
/-- Disable, Enable. -/
theorem Run.mark0 {m : Mark} (hm : ∀ g, m ≠ Mark.extern g) (ho : ops[i]? = some o) (hw : Region.wanted o (yielded ops x.tmps) = true) (hk : b.kind ≠ .early) (hop : o.op = .call { callee := .value (.func f), args := as, argTypes := ats })
    (hf : P.funcs[f]? = some fn) (hname : (fn.name == "runtime.NumGoroutine") = false) (hb : fn.body.isNone = true) (hn : Extern.findNext fn = none) (he : Extern.find fn = some (fun _ => do mark m; pure Extern.Race.none_)) (hev : EvX Z ⟨.mark m, false, true⟩)
    (H : Run P Post Z n h (deafBehind k #[⟨.mark m, false, true⟩]) (G (b.at (x.put o.dst (.tuple #[])) (.inRegion ops rest :: kk)) cs) w) : Run P Post Z n h k (G (b.at x (.inRegion ops (i :: rest) :: kk)) cs) w :=
  Run.step rfl fun d => ⟨_, _, _, stepG_mark0 m hm ho hw hk hop hf hname hb hn he, HX.still (fun e he => by obtain rfl : e = _ := (by simpa using he); exact hev), H.at d⟩
/-- Acquire, ReleaseMerge. -/
theorem Run.markAt {a : Addr} (mk : Addr → Mark) (hm : ∀ ad g, mk ad ≠ Mark.extern g) (ho : ops[i]? = some o) (hw : Region.wanted o (yielded ops x.tmps) = true) (hk : b.kind ≠ .early) (hop : o.op = .call { callee := .value (.func f), args := as, argTypes := ats })
    (hf : P.funcs[f]? = some fn) (hname : (fn.name == "runtime.NumGoroutine") = false) (hb : fn.body.isNone = true) (hn : Extern.findNext fn = none) (he : Extern.find fn = some (Extern.Race.marked mk)) (hx : (as.map x.eval)[0]? = some (.pointer (some a))) (hev : EvQ Z ⟨.mark (mk a), false, true⟩)
    (H : Run P Post Z n h k (G (b.at (x.put o.dst (.tuple #[])) (.inRegion ops rest :: kk)) cs) w) : Run P Post Z n h k (G (b.at x (.inRegion ops (i :: rest) :: kk)) cs) w :=
  Run.step rfl fun d => ⟨_, _, _, stepG_markAt mk hm ho hw hk hop hf hname hb hn he hx, HX.still (fun e he => by obtain rfl : e = _ := (by simpa using he); exact hev.ev), by
    rw [deafBehind_still (fun e he => by obtain rfl : e = _ := (by simpa using he); exact ⟨hev.dis, hev.en⟩)]; exact H.at d⟩
theorem evQ_rw {a : Addr} (hp : ¬ Z.Place a) : ∀ e ∈ (#[⟨.cell a, false, true⟩, ⟨.cell a, true, true⟩] : Array Event), EvQ Z e := by
  intro e he
  simp at he
  rcases he with rfl | rfl
  · exact evQ_cell (fun q => by cases q) (fun q => by cases q)
  · exact evQ_cell (fun _ => hp) (fun q => by cases q)
theorem Run.cas {ty : IntKind} {X Y V : Operand} {a : Addr} {v u : Int} (ho : ops[i]? = some o) (hw : Region.wanted o (yielded ops x.tmps) = true) (hk : b.kind ≠ .early) (hop : o.op = .call { callee := .value (.func f), args := #[X, Y, V], argTypes := ats })
    (hf : P.funcs[f]? = some fn) (hname : (fn.name == "runtime.NumGoroutine") = false) (hb : fn.body.isNone = true) (hn : Extern.findNext fn = none) (he : Extern.find fn = some (Extern.Atomic.casT (.int ty)))
    (hx : x.eval X = .pointer (some a)) (hy : x.eval Y = .int ty v) (hv : x.eval V = .int ty u) (hc : w.cell? a = some (.int ty v)) (hz : w.frozen? a = false) (hp : ¬ Z.Place a) (hC : ¬ Z.C a.block)
    (H : Run P Post Z n h k (G (b.at (x.put o.dst (.bool true)) (.inRegion ops rest :: kk)) cs) (w.setCell a (.int ty u))) : Run P Post Z n h k (G (b.at x (.inRegion ops (i :: rest) :: kk)) cs) w :=
  Run.step rfl fun d => ⟨_, _, _, stepG_cas_hit (w := w.at d) ho hw hk hop hf hname hb hn ty he hx hy hv hc hz, ⟨fun q => q.setCell _ _, fun e he => (evQ_rw hp e he).ev, Keep.set _ hp, Keep.chan _ hC⟩, by
    rw [deafBehind_still (fun e he => ⟨(evQ_rw hp e he).dis, (evQ_rw hp e he).en⟩)]; exact H.at d⟩
theorem Run.add {ty : IntKind} {X Y : Operand} {a : Addr} {v u : Int} (ho : ops[i]? = some o) (hw : Region.wanted o (yielded ops x.tmps) = true) (hk : b.kind ≠ .early) (hop : o.op = .call { callee := .value (.func f), args := #[X, Y], argTypes := ats })
    (hf : P.funcs[f]? = some fn) (hname : (fn.name == "runtime.NumGoroutine") = false) (hb : fn.body.isNone = true) (hn : Extern.findNext fn = none) (he : Extern.find fn = some (Extern.Atomic.update (Op.intArith .add) ty true))
    (hx : x.eval X = .pointer (some a)) (hy : x.eval Y = .int ty u) (hc : w.cell? a = some (.int ty v)) (hz : w.frozen? a = false) (hp : ¬ Z.Place a) (hC : ¬ Z.C a.block)
    (H : Run P Post Z n h k (G (b.at (x.put o.dst (.int ty (ty.wrap (v + u)))) (.inRegion ops rest :: kk)) cs) (w.setCell a (.int ty (ty.wrap (v + u))))) : Run P Post Z n h k (G (b.at x (.inRegion ops (i :: rest) :: kk)) cs) w :=
  Run.step rfl fun d => ⟨_, _, _, stepG_add_atomic (w := w.at d) ho hw hk hop hf hname hb hn ty he hx hy hc hz, ⟨fun q => q.setCell _ _, fun e he => (evQ_rw hp e he).ev, Keep.set _ hp, Keep.chan _ hC⟩, by
    rw [deafBehind_still (fun e he => ⟨(evQ_rw hp e he).dis, (evQ_rw hp e he).en⟩)]; exact H.at d⟩
theorem Run.aload {ty : IntKind} {X : Operand} {a : Addr} {v : Int} (ho : ops[i]? = some o) (hw : Region.wanted o (yielded ops x.tmps) = true) (hk : b.kind ≠ .early) (hop : o.op = .call { callee := .value (.func f), args := #[X], argTypes := ats })
    (hf : P.funcs[f]? = some fn) (hname : (fn.name == "runtime.NumGoroutine") = false) (hb : fn.body.isNone = true) (hn : Extern.findNext fn = none) (he : Extern.find fn = some (Extern.Atomic.loadT (.int ty))) (hx : x.eval X = .pointer (some a)) (hc : w.cell? a = some (.int ty v))
    (H : Run P Post Z n h k (G (b.at (x.put o.dst (.int ty v)) (.inRegion ops rest :: kk)) cs) w) : Run P Post Z n h k (G (b.at x (.inRegion ops (i :: rest) :: kk)) cs) w :=
  have hq : ∀ e ∈ (#[⟨.cell a, false, true⟩] : Array Event), EvQ Z e := fun e he => by obtain rfl : e = _ := (by simpa using he); exact evQ_cell (fun q => by cases q) (fun q => by cases q)
  Run.step rfl fun d => ⟨_, _, _, stepG_load_atomic (w := w.at d) ho hw hk hop hf hname hb hn ty he hx hc, HX.still (fun e he => (hq e he).ev), by
    rw [deafBehind_still (fun e he => ⟨(hq e he).dis, (hq e he).en⟩)]; exact H.at d⟩
/-- A pointer becomes a bare one. -/
theorem Run.unsafe_ {src dst t : TypeId} {X : Operand} {a : Addr} {v : Value} (ho : ops[i]? = some o) (hw : Region.wanted o (yielded ops x.tmps) = true) (hk : b.kind ≠ .early) (hop : o.op = .convert src dst X) (hs : P.underlying src = some (.pointer t)) (hd : P.underlying dst = some .unsafePointer)
    (hsz : (P.info? t).map (fun i => decide (i.size = 0)) = some false) (hx : x.eval X = .pointer (some a)) (hc : w.cell? a = some v) (H : Run P Post Z n h k (G (b.at (x.put o.dst (.pointer (some a))) (.inRegion ops rest :: kk)) cs) w) : Run P Post Z n h k (G (b.at x (.inRegion ops (i :: rest) :: kk)) cs) w := by
  refine Run.op ho hw hk fun d K' hK => ?_
  have e1 : execOp x.eval o = (do pure (.value (← convert src dst (.pointer (some a)))) : Sem Next) := by unfold execOp; simp only [hop, hx]
  have hr : (execOp x.eval o).run P (w.at d) = .ok (.value (.pointer (some a))) (w.at d) := by
    rw [e1, Sem.run_bind, run_convert_to_unsafe hs hd hsz (w := w.at d) hc]; rfl
  have he : (execOp x.eval o).events P (w.at d) #[] = #[] := by
    rw [e1]
    simp [run_convert_to_unsafe hs hd hsz (w := w.at d) hc, events_convert_to_unsafe hs hd hsz (w := w.at d) hc]
  rw [hr]
  exact hK _ _ (by rw [he]; simp) (fun _ _ => rfl) (fun _ _ => rfl) id (H.at d)
theorem deaf_dis (k : Nat) : deafBehind k #[⟨.mark .disable, false, true⟩] = k + 1 := rfl
theorem deaf_en (k : Nat) : deafBehind (k + 1) #[⟨.mark .enable, false, true⟩] = k := rfl
theorem Run.pureEntry (v : Value) (ho : ops[i]? = some o) (hw : Region.wanted o (yielded ops x.tmps) = true) (hk : b.kind ≠ .early) (hop : o.op = .call { callee := .value (.func f), args := as, argTypes := ats })
    (hf : P.funcs[f]? = some fn) (hname : (fn.name == "runtime.NumGoroutine") = false) (hb : fn.body.isNone = true) (hn : Extern.findNext fn = none) (he : Extern.find fn = some (fun _ => pure v))
    (H : Run P Post Z n h k (G (b.at (x.put o.dst v) (.inRegion ops rest :: kk)) cs) w) : Run P Post Z n h k (G (b.at x (.inRegion ops (i :: rest) :: kk)) cs) w :=
  Run.ctl (fun _ => stepG_entry_pure v ho hw hk hop hf hname hb hn he) rfl H
end
end
end Go.Proofs.Ytfpkachoneaaeaa
