/-
  A run in a world in which some blocks are hidden tells of the run in the world itself: the same answers, the same accesses, and none of a hidden block.
-/
import Derived.Conc.Own
set_option linter.unusedSimpArgs false
set_option linter.unusedVariables false
namespace Go.Proofs.Ytfpkachoneaaeaa
open Go

/-- The run is lost: the machine ends. -/
def LostH (h : Halt) : Prop := (∃ s, h = .stuck s) ∨ ∃ u, h = .unsupported u ∧ ∀ g, u ≠ .initOrder g
/-- An end that stays within the goroutine: nobody is waited for, no variable is asked for that waits. -/
def HaltOk : Halt → Prop
  | .blocked | .waiting | .goexit | .unsupported (.initOrder _) => False
  | _ => True
theorem LostH.ok {h : Halt} (l : LostH h) : HaltOk h := by
  rcases l with ⟨s, rfl⟩ | ⟨u, rfl, hu⟩
  · trivial
  · cases u <;> first | trivial | exact (hu _ rfl).elim
/-- How far the tapes answer alike; the other's tape; how the two counts of draws stand; what the hidden blocks hold in the other. -/
structure Lim where
  lim : Nat
  tape : Tape
  a : Nat
  b : Nat
  hid : Nat → Option Obj
  hv : Nat → Option Obj
/-- What stands in the lone world for an object that is hidden: an empty row; for one that is not well: one that tells nothing. -/
def hideObj (b : Nat) : Obj → Obj
  | .cells _ e _ => .cells #[] e
  | .loop _ | .deferred _ | .pending .. => .coro none
  | .view .. => .view ⟨b, 0, none⟩ 0
  | o => o
/-- The kinds that may not be well. -/
def Junk : Obj → Prop
  | .loop _ | .deferred _ | .pending .. | .view .. => True
  | _ => False
/-- The kinds that may be laid over another. -/
def HealOk : Obj → Prop
  | .cells .. | .chan .. | .coro _ | .view .. | .pending .. => False
  | _ => True
/-- What stands in the one world and in the other, where it is hidden. -/
def Veil (b : Nat) (ov ow : Option Obj) : Prop := (∃ o, o.isChan = false ∧ ov = some (hideObj b o) ∧ ow = some o) ∨ (∃ o, HealOk o ∧ ov = some o ∧ ow = some o)
/-- It is still what it was; or it was no row, and is something well. -/
def Still (m ow : Option Obj) : Prop := ow = m ∨ ((∀ c t f, m ≠ some (.cells c t f)) ∧ ∃ o, HealOk o ∧ ow = some o)
/-- Both are still what they were; or they were no rows, and are the same, and well. -/
def Twin (b : Nat) (mv m ov ow : Option Obj) : Prop := (ov = mv ∧ ow = m ∧ Veil b mv m) ∨ ((∀ c t f, m ≠ some (.cells c t f)) ∧ ∃ o, HealOk o ∧ ov = some o ∧ ow = some o)
theorem Twin.still {b : Nat} {mv m ov ow : Option Obj} (h : Twin b mv m ov ow) : Still m ow := by
  rcases h with ⟨_, h, _⟩ | ⟨h1, o, h2, _, h3⟩
  · exact .inl h
  · exact .inr ⟨h1, o, h2, h3⟩
theorem Twin.veil {b : Nat} {mv m ov ow : Option Obj} (h : Twin b mv m ov ow) : Veil b ov ow := by
  rcases h with ⟨rfl, rfl, h⟩ | ⟨_, o, h2, h3, h4⟩
  · exact h
  · exact .inr ⟨o, h2, h3, h4⟩
theorem Twin.trans {b : Nat} {mv m ov ow ov' ow' : Option Obj} (h : Twin b mv m ov ow) (k : Twin b ov ow ov' ow') : Twin b mv m ov' ow' := by
  rcases h with ⟨rfl, rfl, h⟩ | ⟨h1, o, h2, h3, h4⟩
  · exact k
  · rcases k with ⟨rfl, rfl, _⟩ | ⟨_, o', k2, k3, k4⟩
    · exact .inr ⟨h1, o, h2, h3, h4⟩
    · exact .inr ⟨h1, o', k2, k3, k4⟩
/-- What the lone run has left is left in company. -/
theorem Twin.same {b : Nat} {x : Obj} {ov ow : Option Obj} (h : Twin b (some (hideObj b x)) (some x) ov ow) (hs : ov = some (hideObj b x)) : ow = some x := by
  rcases h with ⟨_, h, _⟩ | ⟨h1, o, h2, h3, h4⟩
  · exact h
  · rw [h4]
    rw [hs] at h3
    have e := Option.some.inj h3
    cases x <;> first
      | exact (h1 _ _ _ rfl).elim
      | (subst e; exact h2.elim)
      | (subst e; rfl)
theorem Still.trans {m a b : Option Obj} (h : Still m a) (k : Still a b) : Still m b := by
  rcases h with rfl | ⟨h1, o, h2, h3⟩
  · exact k
  · rcases k with rfl | ⟨_, o', k2, k3⟩
    · exact .inr ⟨h1, o, h2, h3⟩
    · exact .inr ⟨h1, o', k2, k3⟩
theorem Still.cells {m ow : Option Obj} (h : Still m ow) {c : Array Value} {t : TypeId} {f : Nat × Nat} (hm : m = some (.cells c t f)) : ow = m := by
  rcases h with h | ⟨h, _⟩
  · exact h
  · exact (h _ _ _ hm).elim
theorem Still.cell {w w' : World} {a : Addr} (h : Still w.heap[a.block]? w'.heap[a.block]?) : w'.cell? a = w.cell? a := by
  unfold World.cell?
  rcases h with h | ⟨h1, o, h2, h3⟩
  · rw [h]
  · rw [h3]
    generalize w.heap[a.block]? = m at h1
    have e1 : ∀ m : Option Obj, (∀ c t f, m ≠ some (.cells c t f)) → (match m with | some (.cells c _ _) => if a.spot.isSome then none else c[a.off]? | _ => none) = (none : Option Value) := fun m hm => by
      cases m with
      | none => rfl
      | some x => cases x <;> first | rfl | exact (hm _ _ _ rfl).elim
    have e2 := e1 m h1
    have e3 := e1 (some o) (fun c t f q => by cases q; exact h2)
    exact e3.trans e2.symm
theorem hideObj_idem (b : Nat) (o : Obj) : hideObj b (hideObj b o) = hideObj b o := by cases o <;> rfl
theorem hideObj_chan (b : Nat) (o : Obj) : (hideObj b o).isChan = o.isChan := by cases o <;> rfl
theorem hideObj_of {b : Nat} {o : Obj} (h : ¬ Junk o) (hc : ∀ c t f, o ≠ .cells c t f) : hideObj b o = o := by
  cases o <;> first | rfl | exact (h trivial).elim | exact (hc _ _ _ rfl).elim
theorem hideObj_cells {b : Nat} {o : Obj} {c : Array Value} {t : TypeId} {f : Nat × Nat} (h : hideObj b o = .cells c t f) : ∃ c' f', o = .cells c' t f' ∧ c = #[] ∧ f = (0, 0) := by
  cases o <;> cases h
  exact ⟨_, _, rfl, rfl, rfl⟩
/-- v is w, but that the hidden blocks are empty in it, and that the tapes answer alike up to a place alone (counted in v). -/
structure Like (Hd : Nat → Prop) (M : Lim) (v w : World) : Prop where
  tape : ∀ (j : Nat) (q : Question), v.drawn + j < M.lim → v.tape (v.drawn + j) q = w.tape (w.drawn + j) q
  other : w.tape = M.tape ∧ w.drawn + M.a = v.drawn + M.b
  os : v.os = w.os
  output : v.output = w.output
  size : v.heap.size = w.heap.size
  obj : ∀ b : Nat, ¬ Hd b → v.heap[b]? = w.heap[b]?
  hid : ∀ b : Nat, Hd b → Twin b (M.hv b) (M.hid b) v.heap[b]? w.heap[b]?

/-! ## What an operation may be made of -/

/-- The code holds no operation that is not well. -/
def CodeOk (ok : Oper → Prop) : Code → Prop
  | .region _ ops _ => ∀ o ∈ ops, ok o
  | .seq a b | .cond _ a b | .rangeFunc _ _ a b => CodeOk ok a ∧ CodeOk ok b
  | .block _ c | .loop c | .scope c => CodeOk ok c
  | _ => True
/-- A deferred call is one of a function. -/
def DefOk (d : Deferred) : Prop := match d.target with | .builtin .. | .coroexit _ => False | _ => True
/-- A loop holds code that is well, and so do the calls put off. -/
def ObjOk (ok : Oper → Prop) : Obj → Prop
  | .loop l => CodeOk ok l.assign ∧ CodeOk ok l.body ∧ ∀ c, l.pending = some c → CodeOk ok c
  | .deferred (some ds) => ∀ d ∈ ds, DefOk d
  | .pending .. | .view .. => False
  | _ => True
/-- A new object, or one that is laid over another: no channel but a new one. -/
def SetOk (ok : Oper → Prop) : Obj → Prop
  | .chan .. | .cells .. | .coro _ => False
  | o => ObjOk ok o
theorem SetOk.ok {ok : Oper → Prop} {o : Obj} (h : SetOk ok o) : ObjOk ok o := by cases o <;> first | exact h.elim | exact h
theorem SetOk.heal {ok : Oper → Prop} {o : Obj} (h : SetOk ok o) : HealOk o := by cases o <;> first | exact h.elim | trivial
structure HeapOk (ok : Oper → Prop) (Hd : Nat → Prop) (v : World) : Prop where
  obj : ∀ (b : Nat) (o : Obj), v.heap[b]? = some o → ObjOk ok o ∨ (Hd b ∧ o = .view ⟨b, 0, none⟩ 0)
  hid : ∀ b : Nat, Hd b → ∃ o, v.heap[b]? = some o ∧ o.isChan = false ∧ ∀ c t f, o = .cells c t f → c = #[] ∧ f = (0, 0)
def MarkOk : Mark → Prop
  | .noRoom | Mark.extern _ | .acquire _ | .releaseMerge _ => True
  | _ => False
/-- Whatever is answered, it comes to a loss at once. -/
def Lost (P : Program) {α : Type} : Sem α → Prop
  | .shape _ k => ∀ s, Lost P (k s)
  | .frozen _ k => ∀ b, Lost P (k b)
  | .program k => Lost P (k P)
  | .mark m k => MarkOk m ∧ Lost P k
  | .choose _ k => ∀ n, Lost P (k n)
  | .halt h => LostH h
  | _ => False
/-- Made of nothing that tells a hidden block, but where it is a loss. -/
def Tm (P : Program) (ok : Oper → Prop) {α : Type} (Q : α → Prop) : Sem α → Prop
  | .pure a => Q a
  | .load _ _ k => ∀ v, Tm P ok Q (k v)
  | .store _ _ _ k => Tm P ok Q k
  | .new o k => ObjOk ok o ∧ ∀ r, Tm P ok Q (k r)
  | .shape _ k => (∀ s, Lost P (k s)) ∨ ((∀ s, Tm P ok Q (k s)) ∧ ∀ e n, Lost P (k (some (e, 0))) ∨ k (some (e, 0)) = k (some (e, n)))
  | .freeze _ _ _ => False
  | .frozen _ k => ∀ b, Lost P (k b)
  | .getObj _ k => (∀ o, ObjOk ok o → Tm P ok Q (k o)) ∧ ∀ b o, Junk o → Lost P (k (hideObj b o)) ∨ (k (hideObj b o) = k o ∧ Tm P ok Q (k (hideObj b o)))
  | .setObj _ o k => SetOk ok o ∧ Tm P ok Q k
  | .choose _ k => ∀ n, Tm P ok Q (k n)
  | .sys c k => (∀ os : Os, ∃ r, Kernel.perform c os = .done r) ∧ ∀ r, Tm P ok Q (k r)
  | .program k => Tm P ok Q (k P)
  | .mark m k => MarkOk m ∧ Tm P ok Q k
  | .halt h => HaltOk h

theorem Lost.bind {P : Program} {α β : Type} {f : α → Sem β} : ∀ s : Sem α, Lost P s → Lost P (s.bind f)
  | .shape _ k, h => fun s => Lost.bind (k s) (h s)
  | .frozen _ k, h => fun b => Lost.bind (k b) (h b)
  | .program k, h => Lost.bind (k _) h
  | .mark _ k, h => ⟨h.1, Lost.bind k h.2⟩
  | .choose _ k, h => fun n => Lost.bind (k n) (h n)
  | .halt _, h => h
theorem Tm.bind {P : Program} {ok : Oper → Prop} {α β : Type} {Q : α → Prop} {R : β → Prop} {f : α → Sem β} (hf : ∀ a, Q a → Tm P ok R (f a)) : ∀ s : Sem α, Tm P ok Q s → Tm P ok R (s.bind f)
  | .pure a, h => hf a h
  | .load _ _ k, h => fun v => Tm.bind hf (k v) (h v)
  | .store _ _ _ k, h => Tm.bind hf k h
  | .new _ k, h => ⟨h.1, fun r => Tm.bind hf (k r) (h.2 r)⟩
  | .shape _ k, h => h.imp (fun h s => Lost.bind (k s) (h s)) (fun h => ⟨fun s => Tm.bind hf (k s) (h.1 s), fun e n => (h.2 e n).imp (fun h => Lost.bind (k _) h) (fun q => congrArg (fun (s : Sem α) => s.bind f) q)⟩)
  | .frozen _ k, h => fun b => Lost.bind (k b) (h b)
  | .getObj _ k, h => ⟨fun o ho => Tm.bind hf (k o) (h.1 o ho), fun b o hj => (h.2 b o hj).imp (fun h => Lost.bind (k _) h) (fun q => ⟨congrArg (fun (s : Sem α) => s.bind f) q.1, Tm.bind hf (k _) q.2⟩)⟩
  | .setObj _ _ k, h => ⟨h.1, Tm.bind hf k h.2⟩
  | .choose _ k, h => fun n => Tm.bind hf (k n) (h n)
  | .sys _ k, h => ⟨h.1, fun r => Tm.bind hf (k r) (h.2 r)⟩
  | .program k, h => Tm.bind hf (k P) h
  | .mark _ k, h => ⟨h.1, Tm.bind hf k h.2⟩
  | .halt _, h => h

/-! ## What a run in the world with hidden blocks tells -/

structure EvOk (Hd : Nat → Prop) (e : Event) : Prop where
  mark : ∀ m, e.loc = .mark m → MarkOk m
  cell : ∀ a, e.loc = .cell a → ¬ Hd a.block
structure After (ok : Oper → Prop) (Hd : Nat → Prop) (v v' : World) (es es' : Array Event) : Prop where
  evs : ∃ d : Array Event, es' = es ++ d ∧ ∀ e ∈ d, EvOk Hd e
  size : v.heap.size ≤ v'.heap.size
  heap : HeapOk ok Hd v'
  chan : ∀ (c : Nat) (o : Obj), o.isChan = true → c < v.heap.size → v'.heap[c]? = some o → v.heap[c]? = some o
  draws : v'.tape = v.tape ∧ v.drawn ≤ v'.drawn
theorem After.refl {ok : Oper → Prop} {Hd : Nat → Prop} {v : World} (h : HeapOk ok Hd v) (es : Array Event) : After ok Hd v v es es := ⟨⟨#[], by simp, by simp⟩, Nat.le_refl _, h, fun _ _ _ _ q => q, rfl, Nat.le_refl _⟩
theorem After.trans {ok : Oper → Prop} {Hd : Nat → Prop} {v v1 v2 : World} {es es1 es2 : Array Event} (h : After ok Hd v v1 es es1) (k : After ok Hd v1 v2 es1 es2) : After ok Hd v v2 es es2 := by
  obtain ⟨d, rfl, hd⟩ := h.evs
  obtain ⟨d2, rfl, hd2⟩ := k.evs
  refine ⟨⟨d ++ d2, by rw [Array.append_assoc], fun e he => ?_⟩, Nat.le_trans h.size k.size, k.heap, fun c o ho hc q => h.chan c o ho hc (k.chan c o ho (Nat.lt_of_lt_of_le hc h.size) q), k.draws.1.trans h.draws.1, Nat.le_trans h.draws.2 k.draws.2⟩
  rcases Array.mem_append.1 he with q | q
  · exact hd e q
  · exact hd2 e q
def Told (P : Program) (ok : Oper → Prop) (Hd : Nat → Prop) (M : Lim) {α : Type} (Q : α → Prop) (v : World) (es : Array Event) (r r' : Result α × Array Event) : Prop :=
  match r with
  | (.ok x v', es') => Q x ∧ After ok Hd v v' es es' ∧ (v'.drawn ≤ M.lim → ∃ w', r' = (.ok x w', es') ∧ Like Hd M v' w')
  | (.halt h v', es') => LostH h ∨ (HaltOk h ∧ After ok Hd v v' es es' ∧ (v'.drawn ≤ M.lim → ∃ w', r' = (.halt h w', es') ∧ Like Hd M v' w'))
section
variable {P : Program} {ok : Oper → Prop} {Hd : Nat → Prop} {M M' : Lim}
theorem Told.behind {α : Type} {Q : α → Prop} {v v1 : World} {es es1 : Array Event} {r r' : Result α × Array Event} (h : After ok Hd v v1 es es1) (k : Told P ok Hd M Q v1 es1 r r') : Told P ok Hd M Q v es r r' := by
  obtain ⟨r, es2⟩ := r
  cases r with
  | ok x v' => exact ⟨k.1, h.trans k.2.1, k.2.2⟩
  | halt g v' =>
    rcases k with k | ⟨k1, k2, k3⟩
    · exact .inl k
    · exact .inr ⟨k1, h.trans k2, k3⟩
/-- The other run need be told of only where the run comes no further than to M. -/
theorem Told.far {α : Type} {Q : α → Prop} {v v1 : World} {es es1 : Array Event} {r r' r'' : Result α × Array Event} (h : After ok Hd v v1 es es1) (hM : M.lim < v1.drawn) (k : Told P ok Hd M' Q v1 es1 r r') : Told P ok Hd M Q v es r r'' := by
  obtain ⟨r, es2⟩ := r
  cases r with
  | ok x v' => exact ⟨k.1, h.trans k.2.1, fun q => by have := k.2.1.draws.2; omega⟩
  | halt g v' =>
    rcases k with k | ⟨k1, k2, k3⟩
    · exact .inl k
    · exact .inr ⟨k1, h.trans k2, fun q => by have := k2.draws.2; omega⟩
def Lim.self (v : World) : Lim := ⟨0, v.tape, 0, 0, fun b => v.heap[b]?, fun b => v.heap[b]?⟩
theorem HeapOk.veil {v : World} (h : HeapOk ok Hd v) {b : Nat} (hb : Hd b) : Veil b v.heap[b]? v.heap[b]? := by
  obtain ⟨o, q, hc, he⟩ := h.hid b hb
  rcases h.obj b o q with h1 | ⟨_, rfl⟩
  · by_cases hj : Junk o
    · cases o <;> first | exact hj.elim | exact h1.elim | (refine .inr ⟨_, ?_, q, q⟩; trivial)
    · by_cases hce : ∃ c t f, o = .cells c t f
      · obtain ⟨c, t, f, rfl⟩ := hce
        obtain ⟨rfl, rfl⟩ := he _ _ _ rfl
        exact .inl ⟨.cells #[] t (0, 0), rfl, q, q⟩
      · refine .inl ⟨o, hc, ?_, q⟩
        rw [hideObj_of hj fun c t f r => hce ⟨c, t, f, r⟩]
        exact q
  · exact .inl ⟨.view ⟨b, 0, none⟩ 0, rfl, q, q⟩
theorem Like.refl {v : World} (h : HeapOk ok Hd v) : Like Hd (Lim.self v) v v := ⟨fun _ _ _ => rfl, ⟨rfl, rfl⟩, rfl, rfl, rfl, fun _ _ => rfl, fun _ hb => .inl ⟨rfl, rfl, h.veil hb⟩⟩
end

theorem runT_store {P : Program} {v : World} {α : Type} (m : Mode) (a : Addr) {x : Value} (k : Sem α) (h1 : ∀ c, x ≠ .agg c) (h2 : ∀ c, x ≠ .tuple c) (es : Array Event) :
    (Sem.store m a x k).runT P v es = match v.cell? a with
    | some _ => if v.frozen? a then (.halt (.unsupported (.unsafePointer "a write to bytes that a string shares")) v, es) else k.runT P (v.setCell a x) (es.push ⟨.cell a, true, m == .atomic⟩)
    | none => match v.farStore P a x (m == .atomic) with
      | .ok (w, touched) => k.runT P w (es ++ touched.toArray.map (⟨.cell ·, true, m == .atomic⟩))
      | .error h => (.halt h v, es) := by
  cases x <;> first | rfl | exact (h1 _ rfl).elim | exact (h2 _ rfl).elim
theorem lost_run {P : Program} {α : Type} : ∀ (s : Sem α) (_ : Lost P s) (v : World) (es : Array Event), ∃ h v' es', s.runT P v es = (.halt h v', es') ∧ LostH h
  | .shape _ k, h, v, es => lost_run (k _) (h _) v es
  | .frozen _ k, h, v, es => lost_run (k _) (h _) v es
  | .program k, h, v, es => lost_run (k P) h v es
  | .mark _ k, h, v, es => lost_run k h.2 v _
  | .choose q k, h, v, es => by
    rw [Sem.runT]
    split
    · exact lost_run (k 0) (h 0) v es
    · exact lost_run _ (h _) { v with drawn := v.drawn + 1 } es
  | .halt h, hl, v, es => ⟨h, v, es, rfl, hl⟩

section
variable {P : Program} {ok : Oper → Prop} {Hd : Nat → Prop} {M : Lim} {v w : World}
theorem After.one (hv : HeapOk ok Hd v) (es : Array Event) {e : Event} (he : EvOk Hd e) : After ok Hd v v es (es.push e) :=
  ⟨⟨#[e], by simp, by simpa using he⟩, Nat.le_refl _, hv, fun _ _ _ _ q => q, rfl, Nat.le_refl _⟩
theorem HeapOk.bare (hv : HeapOk ok Hd v) {a : Addr} {x : Value} (h : v.cell? a = some x) : ¬ Hd a.block := by
  intro q
  obtain ⟨o, he, _, hc⟩ := hv.hid _ q
  unfold World.cell? at h
  rw [he] at h
  cases o <;> simp at h
  obtain ⟨rfl, _⟩ := hc _ _ _ rfl
  simp at h
theorem Like.cell (h : Like Hd M v w) (hv : HeapOk ok Hd v) {a : Addr} {x : Value} (hx : v.cell? a = some x) : w.cell? a = some x ∧ w.frozen? a = v.frozen? a := by
  have := h.obj _ (hv.bare hx)
  unfold World.cell? at *
  unfold World.frozen?
  rw [← this]
  exact ⟨hx, rfl⟩
theorem Like.setCell (h : Like Hd M v w) {a : Addr} (ha : ¬ Hd a.block) (x : Value) : Like Hd M (v.setCell a x) (w.setCell a x) := by
  refine ⟨h.tape, h.other, h.os, h.output, by simp [World.setCell, h.size], fun b hb => ?_, fun b hb => ?_⟩
  · simp only [World.setCell, Array.getElem?_modify, h.obj b hb]
  · simp only [World.setCell, Array.getElem?_modify]
    rw [if_neg (fun (e : a.block = b) => ha (e ▸ hb)), if_neg (fun (e : a.block = b) => ha (e ▸ hb))]
    exact h.hid b hb
theorem Veil.lt {b : Nat} (h : Veil b v.heap[b]? w.heap[b]?) : b < v.heap.size ∧ b < w.heap.size := by
  rcases h with ⟨o, _, h1, h2⟩ | ⟨o, _, h1, h2⟩ <;> exact ⟨(Array.getElem?_eq_some_iff.1 h1).1, (Array.getElem?_eq_some_iff.1 h2).1⟩
theorem Like.push (h : Like Hd M v w) (o : Obj) : Like Hd M { v with heap := v.heap.push o } { w with heap := w.heap.push o } := by
  refine ⟨h.tape, h.other, h.os, h.output, by simp [h.size], fun b hb => ?_, fun b hb => ?_⟩
  · simp only [Array.getElem?_push, h.size, h.obj b hb]
  · have h1 := h.hid b hb
    have := h1.veil.lt
    simp only [Array.getElem?_push]
    rw [if_neg (by omega), if_neg (by omega)]
    exact h1
theorem Like.setObj (h : Like Hd M v w) {r : Nat} {o1 o : Obj} (hr : v.heap[r]? = some o1) (h1 : ∀ c t f, o1 ≠ .cells c t f) (ho : HealOk o) : Like Hd M { v with heap := v.heap.setIfInBounds r o } { w with heap := w.heap.setIfInBounds r o } := by
  refine ⟨h.tape, h.other, h.os, h.output, by simp [h.size], fun b hb => ?_, fun b hb => ?_⟩
  · simp only [Array.getElem?_setIfInBounds, h.size, h.obj b hb]
  · have h2 := h.hid b hb
    by_cases e : r = b
    · subst e
      have hlt := h2.veil.lt
      simp only [Array.getElem?_setIfInBounds, if_true]
      rw [if_pos hlt.1, if_pos hlt.2]
      refine .inr ⟨fun c t f q => ?_, o, ho, rfl, rfl⟩
      have hw : ∀ c t f, w.heap[r]? ≠ some (.cells c t f) := fun c t f q => by
        rcases h2.veil with ⟨x, _, x1, x2⟩ | ⟨x, x0, x1, x2⟩
        · rw [q] at x2
          obtain rfl := Option.some.inj x2
          rw [hr] at x1
          exact h1 _ _ _ (Option.some.inj x1)
        · rw [q] at x2
          obtain rfl := Option.some.inj x2
          exact x0
      rcases h2.still with x | ⟨x, _⟩
      · exact hw c t f (x.trans q)
      · exact x c t f q
    · simp only [Array.getElem?_setIfInBounds]
      rw [if_neg e, if_neg e]
      exact h2
theorem Like.sys (h : Like Hd M v w) (c : Sys) (hc : ∃ r, Kernel.perform c v.os = .done r) : (v.sys c).1 = (w.sys c).1 ∧ Like Hd M (v.sys c).2 (w.sys c).2 ∧ (v.sys c).2.heap = v.heap ∧ (v.sys c).2.tape = v.tape ∧ (v.sys c).2.drawn = v.drawn := by
  unfold World.sys
  rw [← h.os]
  obtain ⟨⟨r, os⟩, e⟩ := hc
  rw [e]
  simp only [World.ask]
  cases r <;> first | exact ⟨rfl, h, rfl, rfl, rfl⟩ | exact ⟨rfl, ⟨h.tape, h.other, rfl, h.output, h.size, h.obj, h.hid⟩, rfl, rfl, rfl⟩
theorem HeapOk.setCell (hv : HeapOk ok Hd v) {a : Addr} (ha : ¬ Hd a.block) (x : Value) : HeapOk ok Hd (v.setCell a x) := by
  refine ⟨fun b o ho => ?_, fun b hb => ?_⟩
  · simp only [World.setCell, Array.getElem?_modify] at ho
    split at ho
    · cases e : v.heap[b]? with
      | none => rw [e] at ho; cases ho
      | some o' =>
        rw [e] at ho
        have h1 := hv.obj b o' e
        cases o' <;> (simp only [Option.map_some, Option.some.injEq] at ho; subst ho; first | exact h1 | exact .inl trivial)
    · exact hv.obj b o ho
  · simp only [World.setCell, Array.getElem?_modify]
    rw [if_neg (fun (e : a.block = b) => ha (e ▸ hb))]
    exact hv.hid b hb
theorem HeapOk.push (hv : HeapOk ok Hd v) {o : Obj} (ho : ObjOk ok o) : HeapOk ok Hd { v with heap := v.heap.push o } := by
  refine ⟨fun b o' h => ?_, fun b hb => ?_⟩
  · simp only [Array.getElem?_push] at h
    split at h
    · cases h; exact .inl ho
    · exact hv.obj b o' h
  · obtain ⟨e, he⟩ := hv.hid b hb
    have := (Array.getElem?_eq_some_iff.1 he.1).1
    simp only [Array.getElem?_push]
    rw [if_neg (by omega)]
    exact ⟨e, he⟩
theorem HeapOk.setObj (hv : HeapOk ok Hd v) {r : Nat} {o : Obj} (ho : SetOk ok o) : HeapOk ok Hd { v with heap := v.heap.setIfInBounds r o } := by
  refine ⟨fun b o' h => ?_, fun b hb => ?_⟩
  · simp only [Array.getElem?_setIfInBounds] at h
    split at h
    · split at h
      · cases h; exact .inl ho.ok
      · cases h
    · exact hv.obj b o' h
  · obtain ⟨e, he⟩ := hv.hid b hb
    have hlt := (Array.getElem?_eq_some_iff.1 he.1).1
    simp only [Array.getElem?_setIfInBounds]
    by_cases q : r = b
    · subst q
      simp only [if_true]
      rw [if_pos hlt]
      refine ⟨o, rfl, ?_, fun c t f r => ?_⟩
      · cases o <;> first | rfl | exact ho.elim
      · subst r; exact ho.elim
    · rw [if_neg q]
      exact ⟨e, he⟩
theorem seenBad {P : Program} {v : World} {a k : Addr} {u : TypeId} {b : Bool} {a' : Addr} {u' : TypeId} (h : v.heap[a.block]? = some (.view a' u')) : ∀ r, v.seen P a u k b ≠ .ok r := by
  intro r q
  unfold World.seen at q
  rw [h] at q
  simp only [bind, Except.bind, pure, Except.pure, throw, throwThe, MonadExceptOf.throw] at q
  repeat' split at q
  all_goals cases q
theorem viewLoad_none {P : Program} {v : World} {at_ k : Addr} {u : TypeId} {b : Bool} (h : ∀ r, v.seen P at_ u k b ≠ .ok r) : ∀ r, v.viewLoad P at_ u k b ≠ .ok r := by
  intro r q
  unfold World.viewLoad at q
  cases e : v.seen P at_ u k b with
  | ok r => exact h r e
  | error why =>
    rw [e] at q
    simp only [bind, Except.bind] at q
    cases q
theorem viewStore_none {P : Program} {v : World} {at_ k : Addr} {u : TypeId} {y : Value} {b : Bool} (h : ∀ r, v.seen P at_ u k b ≠ .ok r) : ∀ r, v.viewStore P at_ u k y b ≠ .ok r := by
  intro r q
  unfold World.viewStore at q
  cases e : v.seen P at_ u k b with
  | ok r => exact h r e
  | error why =>
    rw [e] at q
    simp only [bind, Except.bind, pure, Except.pure, throw, throwThe, MonadExceptOf.throw] at q
    repeat' split at q
    all_goals cases q
theorem farLoad_none (hv : HeapOk ok Hd v) {a : Addr} {b : Bool} {r : Value × List Addr} (h : v.farLoad P a b = .ok r) : False := by
  unfold World.farLoad World.noCell at h
  have hvw : ∀ a' u', v.heap[a.block]? = some (.view a' u') → ∀ at_ : Addr, at_.block = a.block → ∀ u k b r, v.seen P at_ u k b ≠ .ok r := fun a' u' q at_ e u k b r => seenBad (a' := a') (u' := u') (by rw [e]; exact q) r
  have := hv.obj a.block
  generalize v.heap[a.block]? = x at this h hvw
  cases x with
  | none => cases h
  | some o =>
    rcases this _ rfl with ho | ⟨_, rfl⟩
    · cases o <;> first | cases h | exact ho.elim
    · simp only at h
      cases e : v.viewLoad P ⟨a.block, 0, none⟩ 0 a b with
      | ok r => exact viewLoad_none (hvw _ _ rfl ⟨a.block, 0, none⟩ rfl 0 a b) r e
      | error why => rw [e] at h; cases h
theorem farStore_none (hv : HeapOk ok Hd v) {a : Addr} {y : Value} {b : Bool} {r : World × List Addr} (h : v.farStore P a y b = .ok r) : False := by
  unfold World.farStore World.noCell at h
  have hvw : ∀ a' u', v.heap[a.block]? = some (.view a' u') → ∀ at_ : Addr, at_.block = a.block → ∀ u k b r, v.seen P at_ u k b ≠ .ok r := fun a' u' q at_ e u k b r => seenBad (a' := a') (u' := u') (by rw [e]; exact q) r
  have := hv.obj a.block
  generalize v.heap[a.block]? = x at this h hvw
  cases x with
  | none => cases h
  | some o =>
    rcases this _ rfl with ho | ⟨_, rfl⟩
    · cases o <;> first | cases h | exact ho.elim
    · simp only at h
      cases e : v.viewStore P ⟨a.block, 0, none⟩ 0 a y b with
      | ok r => exact viewStore_none (hvw _ _ rfl ⟨a.block, 0, none⟩ rfl 0 a b) r e
      | error why => rw [e] at h; cases h
theorem farLoad_lost (hv : HeapOk ok Hd v) {a : Addr} {b : Bool} {g : Halt} (h : v.farLoad P a b = .error g) : LostH g := by
  unfold World.farLoad World.noCell at h
  have := hv.obj a.block
  generalize v.heap[a.block]? = x at this h
  cases x with
  | none => cases h; exact .inl ⟨_, rfl⟩
  | some o =>
    rcases this _ rfl with ho | ⟨_, rfl⟩
    · cases o <;> first | (cases h; exact .inl ⟨_, rfl⟩) | exact ho.elim
    · simp only at h
      split at h
      · cases h
      · cases h
        exact .inr ⟨_, rfl, fun g q => by cases q⟩
theorem farStore_lost (hv : HeapOk ok Hd v) {a : Addr} {y : Value} {b : Bool} {g : Halt} (h : v.farStore P a y b = .error g) : LostH g := by
  unfold World.farStore World.noCell at h
  have := hv.obj a.block
  generalize v.heap[a.block]? = x at this h
  cases x with
  | none => cases h; exact .inl ⟨_, rfl⟩
  | some o =>
    rcases this _ rfl with ho | ⟨_, rfl⟩
    · cases o <;> first | (cases h; exact .inl ⟨_, rfl⟩) | exact ho.elim
    · simp only at h
      split at h
      · cases h
      · cases h
        exact .inr ⟨_, rfl, fun g q => by cases q⟩
end
theorem chan_setCell {v : World} (a : Addr) (x : Value) (c : Nat) (o : Obj) (ho : o.isChan = true) (h : (v.setCell a x).heap[c]? = some o) : v.heap[c]? = some o := by
  simp only [World.setCell, Array.getElem?_modify] at h
  by_cases e : a.block = c
  · rw [if_pos e] at h
    cases e2 : v.heap[c]? with
    | none => rw [e2] at h; cases h
    | some o' =>
      rw [e2] at h
      cases o' <;> (simp only [Option.map_some, Option.some.injEq] at h; subst h; first | rfl | cases ho)
  · rw [if_neg e] at h
    exact h
theorem chan_push {v : World} (x : Obj) (c : Nat) (o : Obj) (hc : c < v.heap.size) (h : ({ v with heap := v.heap.push x } : World).heap[c]? = some o) : v.heap[c]? = some o := by
  simp only [Array.getElem?_push] at h
  rw [if_neg (by omega)] at h
  exact h
theorem chan_setObj {v : World} (r : Nat) (x : Obj) (hx : x.isChan = false) (c : Nat) (o : Obj) (ho : o.isChan = true) (h : ({ v with heap := v.heap.setIfInBounds r x } : World).heap[c]? = some o) : v.heap[c]? = some o := by
  simp only [Array.getElem?_setIfInBounds] at h
  by_cases e : r = c
  · rw [if_pos e] at h
    split at h
    · cases h
      rw [hx] at ho
      cases ho
    · cases h
  · rw [if_neg e] at h
    exact h
/-- ████ WHAT IS DONE WHERE BLOCKS ARE HIDDEN IS DONE WHERE THEY ARE NOT. ████ -/
theorem tm_sim {P : Program} {ok : Oper → Prop} {Hd : Nat → Prop} {M : Lim} {α : Type} {Q : α → Prop} : ∀ (s : Sem α) (_ : Tm P ok Q s) (v w : World) (_ : Like Hd M v w) (_ : HeapOk ok Hd v) (es : Array Event), Told P ok Hd M Q v es (s.runT P v es) (s.runT P w es)
  | .pure a, h, v, w, hl, hv, es => ⟨h, After.refl hv es, fun _ => ⟨w, rfl, hl⟩⟩
  | .load m a k, h, v, w, hl, hv, es => by
    rw [Sem.runT, Sem.runT]
    cases e : v.cell? a with
    | some x =>
      rw [(hl.cell hv e).1]
      exact (tm_sim (k x) (h x) v w hl hv _).behind (After.one hv es ⟨fun m q => by (cases q), fun b q => by cases q; exact hv.bare e⟩)
    | none =>
      simp only
      cases ef : v.farLoad P a (m == .atomic) with
      | ok r => exact (farLoad_none hv ef).elim
      | error g => exact .inl (farLoad_lost hv ef)
  | .store m a x k, h, v, w, hl, hv, es => by
    by_cases h1 : ∃ c, x = .agg c
    · obtain ⟨c, rfl⟩ := h1
      exact .inl (.inl ⟨_, rfl⟩)
    by_cases h2 : ∃ c, x = .tuple c
    · obtain ⟨c, rfl⟩ := h2
      exact .inl (.inl ⟨_, rfl⟩)
    rw [runT_store m a k (fun c q => h1 ⟨c, q⟩) (fun c q => h2 ⟨c, q⟩), runT_store m a k (fun c q => h1 ⟨c, q⟩) (fun c q => h2 ⟨c, q⟩)]
    cases e : v.cell? a with
    | some y =>
      obtain ⟨c1, c2⟩ := hl.cell hv e
      rw [c1, c2]
      simp only
      cases ef : v.frozen? a with
      | true => exact .inl (.inr ⟨_, rfl, fun g q => by cases q⟩)
      | false =>
        have hb := hv.bare e
        refine Told.behind (v1 := v.setCell a x) (es1 := es.push ⟨.cell a, true, m == .atomic⟩) ⟨⟨#[⟨.cell a, true, m == .atomic⟩], by simp, fun e he => ?_⟩, by simp [World.setCell], hv.setCell hb x, fun c o ho _ q => chan_setCell a x c o ho q, rfl, Nat.le_refl _⟩ (tm_sim k h _ _ (hl.setCell hb x) (hv.setCell hb x) _)
        obtain rfl : e = _ := by simpa using he
        exact ⟨fun m' q => (by cases q), fun b q => by cases q; exact hb⟩
    | none =>
      simp only
      cases ef : v.farStore P a x (m == .atomic) with
      | ok r => exact (farStore_none hv ef).elim
      | error g => exact .inl (farStore_lost hv ef)
  | .new o k, h, v, w, hl, hv, es => by
    rw [Sem.runT, Sem.runT, hl.size]
    exact (tm_sim (k _) (h.2 _) _ _ (hl.push o) (hv.push h.1) es).behind ⟨⟨#[], by simp, by simp⟩, by simp, hv.push h.1, fun c o' _ hc q => chan_push o c o' hc q, rfl, Nat.le_refl _⟩
  | .shape r k, h, v, w, hl, hv, es => by
    rw [Sem.runT, Sem.runT]
    rcases h with h | h
    · obtain ⟨g, v', es', e, hg⟩ := lost_run (k (v.shape? r)) (h _) v es
      rw [e]
      exact .inl hg
    have hk : Lost P (k (v.shape? r)) ∨ k (v.shape? r) = k (w.shape? r) := by
      by_cases hr : Hd r
      · rcases (hl.hid r hr).veil with ⟨o, _, h2, h3⟩ | ⟨o, _, h2, h3⟩
        · unfold World.shape?
          rw [h2, h3]
          cases o <;> first | exact .inr rfl | exact h.2 _ _
        · unfold World.shape?
          rw [h2, h3]
          exact .inr rfl
      · unfold World.shape?
        rw [hl.obj r hr]
        exact .inr rfl
    rcases hk with hk | hk
    · obtain ⟨g, v', es', e, hg⟩ := lost_run (k (v.shape? r)) hk v es
      rw [e]
      exact .inl hg
    rw [← hk]
    exact tm_sim (k _) (h.1 _) v w hl hv es
  | .freeze a n k, h, v, w, hl, hv, es => h.elim
  | .frozen a k, h, v, w, hl, hv, es => by
    rw [Sem.runT]
    obtain ⟨g, v', es', e, hg⟩ := lost_run (k (v.frozen? a)) (h _) v es
    rw [e]
    exact .inl hg
  | .getObj r k, h, v, w, hl, hv, es => by
    rw [Sem.runT, Sem.runT]
    cases e : v.heap[r]? with
    | none => exact .inl (.inl ⟨_, rfl⟩)
    | some o =>
      by_cases hb : ∃ c t f, o = .cells c t f
      · obtain ⟨c, t, f, rfl⟩ := hb
        exact .inl (.inl ⟨_, rfl⟩)
      · have hone := After.one (ok := ok) hv es (e := ⟨.obj r, false, o.isChan⟩) ⟨fun m q => (by cases q), fun b q => (by cases q)⟩
        by_cases hr : Hd r
        · rcases (hl.hid r hr).veil with ⟨x, _, h2, h3⟩ | ⟨x, _, h2, h3⟩
          · rw [e] at h2
            obtain rfl := Option.some.inj h2
            rw [h3]
            by_cases hj : Junk x
            · rcases h.2 r x hj with q | ⟨q1, q2⟩
              · obtain ⟨g, v', es', e', hg⟩ := lost_run (k (hideObj r x)) q v (es.push ⟨.obj r, false, (hideObj r x).isChan⟩)
                have key : Told P ok Hd M Q v es ((k (hideObj r x)).runT P v (es.push ⟨.obj r, false, (hideObj r x).isChan⟩)) (match some x with
                  | some (.cells ..) => (.halt (.stuck "getObj: a row of cells") w, es)
                  | some o => (k o).runT P w (es.push ⟨.obj r, false, o.isChan⟩)
                  | none => (.halt (.stuck "getObj: no such block") w, es)) := by
                  rw [e']
                  exact .inl hg
                cases x <;> first | exact (hb ⟨_, _, _, rfl⟩).elim | exact hj.elim | exact key
              · have key := (tm_sim (k (hideObj r x)) q2 v w hl hv (es.push ⟨.obj r, false, (hideObj r x).isChan⟩)).behind hone
                rw [hideObj_chan] at key
                generalize hX : hideObj r x = X at *
                cases x <;> first | exact hj.elim | (cases hX; simp only at key ⊢; rw [← q1]; exact key)
            · have hx : hideObj r x = x := hideObj_of hj fun c t f q => hb ⟨#[], t, (0, 0), by rw [q]; rfl⟩
              rw [hx] at e hb hone ⊢
              have ho := (hv.obj r x e).resolve_right fun q => hj (by rw [q.2]; trivial)
              have key := (tm_sim (k x) (h.1 x ho) v w hl hv (es.push ⟨.obj r, false, x.isChan⟩)).behind hone
              cases x <;> first | exact (hb ⟨_, _, _, rfl⟩).elim | exact key
          · rw [e] at h2
            obtain rfl := Option.some.inj h2
            rw [h3]
            rename_i hh
            have ho := (hv.obj r o e).resolve_right fun q => by rw [q.2] at hh; exact hh
            have key := (tm_sim (k o) (h.1 o ho) v w hl hv (es.push ⟨.obj r, false, o.isChan⟩)).behind hone
            cases o <;> first | exact (hb ⟨_, _, _, rfl⟩).elim | exact key
        · have hw := hl.obj r hr
          rw [e] at hw
          rw [← hw]
          have key : Told P ok Hd M Q v es ((k o).runT P v (es.push ⟨.obj r, false, o.isChan⟩)) ((k o).runT P w (es.push ⟨.obj r, false, o.isChan⟩)) := by
            have ho := (hv.obj r o e).resolve_right fun q => hr q.1
            exact (tm_sim (k o) (h.1 o ho) v w hl hv (es.push ⟨.obj r, false, o.isChan⟩)).behind hone
          cases o <;> first | exact (hb ⟨_, _, _, rfl⟩).elim | exact key
  | .setObj r o k, h, v, w, hl, hv, es => by
    rw [Sem.runT, Sem.runT]
    cases e : v.heap[r]? with
    | none => exact .inl (.inl ⟨_, rfl⟩)
    | some o1 =>
      by_cases hb : ∃ c t f, o1 = .cells c t f
      · obtain ⟨c, t, f, rfl⟩ := hb
        exact .inl (.inl ⟨_, rfl⟩)
      · have hb' : ∀ c t f, o1 ≠ .cells c t f := fun c t f q => hb ⟨c, t, f, q⟩
        have key : Told P ok Hd M Q v es (k.runT P { v with heap := v.heap.setIfInBounds r o } (es.push ⟨.obj r, true, o.isChan⟩)) (k.runT P { w with heap := w.heap.setIfInBounds r o } (es.push ⟨.obj r, true, o.isChan⟩)) := by
          refine Told.behind (v1 := { v with heap := v.heap.setIfInBounds r o }) (es1 := es.push ⟨.obj r, true, o.isChan⟩) ⟨⟨#[⟨.obj r, true, o.isChan⟩], by simp, fun e' he => ?_⟩, by simp, hv.setObj h.1, fun c o' ho' _ q => chan_setObj r o (by cases o <;> first | rfl | exact h.1.elim) c o' ho' q, rfl, Nat.le_refl _⟩ (tm_sim k h.2 _ _ (hl.setObj e hb' h.1.heal) (hv.setObj h.1) _)
          obtain rfl : e' = _ := by simpa using he
          exact ⟨fun m' q => (by cases q), fun b q => (by cases q)⟩
        have hw : ∃ o2, w.heap[r]? = some o2 ∧ ∀ c t f, o2 ≠ .cells c t f := by
          by_cases hr : Hd r
          · rcases (hl.hid r hr).veil with ⟨x, _, h2, h3⟩ | ⟨x, hh, h2, h3⟩
            · refine ⟨x, h3, fun c t f q => ?_⟩
              rw [e, q] at h2
              exact hb' _ _ _ (Option.some.inj h2)
            · exact ⟨x, h3, fun c t f q => by rw [q] at hh; exact hh⟩
          · exact ⟨o1, by rw [← hl.obj r hr]; exact e, hb'⟩
        obtain ⟨o2, e2, hb2⟩ := hw
        rw [e2]
        cases o1 <;> first
          | exact (hb ⟨_, _, _, rfl⟩).elim
          | (cases o2 <;> first
              | exact (hb2 _ _ _ rfl).elim
              | exact key)
  | .choose q k, h, v, w, hl, hv, es => by
    rw [Sem.runT, Sem.runT]
    split
    · exact tm_sim (k 0) (h 0) v w hl hv es
    · have hv' : HeapOk ok Hd { v with drawn := v.drawn + 1 } := ⟨hv.obj, hv.hid⟩
      have ha : After ok Hd v { v with drawn := v.drawn + 1 } es es := ⟨⟨#[], by simp, by simp⟩, Nat.le_refl _, hv', fun _ _ _ _ q => q, rfl, Nat.le_succ _⟩
      rcases Nat.lt_or_ge v.drawn M.lim with hM | hM
      · have h0 := hl.tape 0 q (by omega)
        simp only [Nat.add_zero] at h0
        rw [← h0]
        refine Told.behind ha (tm_sim (k _) (h _) { v with drawn := v.drawn + 1 } { w with drawn := w.drawn + 1 } ⟨fun j q hj => ?_, ⟨hl.other.1, by have := hl.other.2; simp only; omega⟩, hl.os, hl.output, hl.size, hl.obj, hl.hid⟩ hv' es)
        have := hl.tape (j + 1) q (by simp only at hj; omega)
        simp only at hj ⊢
        rw [Nat.add_right_comm, Nat.add_right_comm w.drawn]
        exact this
      · exact Told.far ha (by simp only; omega) (tm_sim (k _) (h _) { v with drawn := v.drawn + 1 } { v with drawn := v.drawn + 1 } (Like.refl hv') hv' es)
  | .sys c k, h, v, w, hl, hv, es => by
    rw [Sem.runT, Sem.runT]
    obtain ⟨h1, h2, g1, g3, g4⟩ := hl.sys c (h.1 _)
    rw [← h1]
    have hv' : HeapOk ok Hd (v.sys c).2 := ⟨fun b o q => hv.obj b o (by rw [← g1]; exact q), fun b hb => by rw [g1]; exact hv.hid b hb⟩
    exact Told.behind (v1 := (v.sys c).2) (es1 := es.push ⟨.output, true, false⟩) ⟨⟨#[⟨.output, true, false⟩], by simp, fun e he => by
      obtain rfl : e = _ := by simpa using he
      exact ⟨fun m q => (by cases q), fun a q => (by cases q)⟩⟩, by rw [g1]; exact Nat.le_refl _, hv', fun c o _ _ q => by rw [g1] at q; exact q, g3, by rw [g4]; exact Nat.le_refl _⟩ (tm_sim (k _) (h.2 _) _ _ h2 hv' _)
  | .program k, h, v, w, hl, hv, es => by
    rw [Sem.runT, Sem.runT]
    exact tm_sim (k P) h v w hl hv es
  | .mark m k, h, v, w, hl, hv, es => by
    rw [Sem.runT, Sem.runT]
    exact (tm_sim k h.2 v w hl hv _).behind (After.one hv es ⟨fun m' q => by cases q; exact h.1, fun b q => by (cases q)⟩)
  | .halt g, h, v, w, hl, hv, es => .inr ⟨h, After.refl hv es, fun _ => ⟨w, rfl, hl⟩⟩

end Go.Proofs.Ytfpkachoneaaeaa
