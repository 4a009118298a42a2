/-
  What is held of the trace while one goroutine holds the token and each of the others may read places of its own: no race; the holder knows every touch but those readings; each reader knows every write of its places.
-/
import Derived.Conc.TokenTrace
import Derived.Conc.CrowdTrace
import Derived.Test.YtfpkachoneaaeaaBbStp
import Derived.Conc.Token
set_option linter.unusedSimpArgs false
set_option linter.unusedVariables false
namespace Go.Proofs.Ytfpkachoneaaeaa
open Go Go.Conc
structure Tr (Sh : Loc → Prop) (St : Nat → Loc → Prop) (Mem Lo : Nat → Prop) (K : Nat → Prop) (t : Trace) : Prop where
  clean : ∀ said, ¬ Race said t
  known : ∀ i a, touchAt t i = some a → a.loc.isMemory = true → K i ∨ (a.write = false ∧ ∃ g, t.g? i = some g ∧ St g a.loc ∧ Lo g) ∨ (Sh a.loc ∧ a.kind = .atomic ∧ ¬ t.heard i)
  wrote : ∀ i a, touchAt t i = some a → a.write = true → ∀ g, Mem g → St g a.loc → Knows t g i
  norel : ∀ i a, t.act? i ≠ some (.mark (.release a))
theorem still_memory {St : Nat → Loc → Prop} {g : Nat} {l : Loc} (hS : ∀ g l, St g l → l.isMemory = true) (h : St g l) : l.isMemory = true := hS g l h
theorem norel_app {t u : Trace} (h : ∀ i a, t.act? i ≠ some (.mark (.release a))) (hu : ∀ op ∈ u, ∀ a, op.act ≠ .mark (.release a)) : ∀ i a, (t ++ u).act? i ≠ some (.mark (.release a)) := by
  intro i a q
  unfold Trace.act? at q
  obtain ⟨op, ho, hq⟩ := Option.map_eq_some_iff.1 q
  rcases getElem?_append_cases ho with ⟨_, ho'⟩ | ⟨_, hou⟩
  · exact h i a (by unfold Trace.act?; rw [ho']; exact congrArg some hq)
  · exact hu op hou a hq
section
variable {Sh : Loc → Prop} {St St' : Nat → Loc → Prop} {Mem Lo : Nat → Prop} {K K' : Nat → Prop} {t u : Trace} {h g j c : Nat}
theorem Tr.loosen {Lo' : Nat → Prop} (H : Tr Sh St Mem Lo K t) (hL : ∀ g, Lo g → Lo' g) : Tr Sh St Mem Lo' K t :=
  ⟨H.clean, fun i a ha hm => (H.known i a ha hm).imp id (Or.imp (fun ⟨x, g, y, z, l⟩ => ⟨x, g, y, z, hL g l⟩) id), H.wrote, H.norel⟩
theorem Tr.fewer {Mem' : Nat → Prop} (H : Tr Sh St Mem Lo K t) (hM : ∀ g, Mem' g → Mem g) : Tr Sh St Mem' Lo K t :=
  ⟨H.clean, H.known, fun i a ha hw g hg => H.wrote i a ha hw g (hM g hg), H.norel⟩
theorem Tr.same (H : Tr Sh St Mem Lo K t) (hs : ∀ g, Mem g ∨ Lo g → St' g = St g) : Tr Sh St' Mem Lo K t :=
  ⟨H.clean, fun i a ha hm => (H.known i a ha hm).imp id (Or.imp (fun ⟨x, g, y, z, l⟩ => ⟨x, g, y, by rw [hs g (.inr l)]; exact z, l⟩) id), fun i a ha hw g hg q => H.wrote i a ha hw g hg (by rw [hs g (.inl hg)] at q; exact q), H.norel⟩
theorem Tr.old (H : Tr Sh St Mem Lo K t) (hK : ∀ i, K i → K' i) {i : Nat} {a : Touch} {x : MemOp} (hx' : t[i]? = some x) (hxa : x.act.touch? = some a) (hm : a.loc.isMemory = true) :
    K' i ∨ (a.write = false ∧ ∃ g, (t ++ u).g? i = some g ∧ St g a.loc ∧ Lo g) ∨ (Sh a.loc ∧ a.kind = .atomic ∧ ¬ (t ++ u).heard i) :=
  (H.known i a (by rw [touchAt_of hx']; exact hxa) hm).imp (hK i) (Or.imp (fun ⟨p, g, hg, q, hl⟩ => ⟨p, g, by rw [g?_old (lt_size_of_getElem? hx')]; exact hg, q, hl⟩) (fun ⟨p, q, r⟩ => ⟨p, q, fun z => r ((heard_old (lt_size_of_getElem? hx')).1 z)⟩))
/-- Whoever does something that touches nothing. -/
theorem Tr.appMute (H : Tr Sh St Mem Lo K t) (hK : ∀ i, K i → K' i) (hn : ∀ op ∈ u, op.act.touch? = none) (hr : ∀ op ∈ u, ∀ a, op.act ≠ .mark (.release a)) : Tr Sh St Mem Lo K' (t ++ u) := by
  refine ⟨fun said => noRace_appendMute (H.clean said) hn, fun i a ha hm => ?_, fun i a ha hw g hg hS => ?_, norel_app H.norel hr⟩
  · obtain ⟨x, hx, hxa⟩ := touch_of ha
    rcases getElem?_append_cases hx with ⟨_, hx'⟩ | ⟨_, hxu⟩
    · exact H.old hK hx' hxa hm
    · rw [hn x hxu] at hxa; cases hxa
  · obtain ⟨x, hx, hxa⟩ := touch_of ha
    rcases getElem?_append_cases hx with ⟨_, hx'⟩ | ⟨_, hxu⟩
    · exact (H.wrote i a (by rw [touchAt_of hx']; exact hxa) hw g hg hS).app u
    · rw [hn x hxu] at hxa; cases hxa
/-- A reader reads its places. -/
theorem Tr.appRead (H : Tr Sh St Mem Lo K t) (hK : ∀ i, K i → K' i) (hg : Mem g) (hL : Lo g) (hu : ∀ op ∈ u, op.g = g) (hr : ∀ op ∈ u, ∀ b, op.act.touch? = some b → b.write = false ∧ St g b.loc) (hrl : ∀ op ∈ u, ∀ a, op.act ≠ .mark (.release a)) : Tr Sh St Mem Lo K' (t ++ u) := by
  refine ⟨fun said => noRace_append (H.clean said) hu fun i a ha op hop b hb hc => ?_, fun i a ha hm => ?_, fun i a ha hw g' hg' hS => ?_, norel_app H.norel hrl⟩
  · obtain ⟨hb0, hbS⟩ := hr op hop b hb
    rcases hc.2.2.1 with x | x
    · exact H.wrote i a ha x g hg (hc.1 ▸ hbS)
    · rw [hb0] at x; cases x
  · obtain ⟨x, hx, hxa⟩ := touch_of ha
    rcases getElem?_append_cases hx with ⟨_, hx'⟩ | ⟨_, hxu⟩
    · exact H.old hK hx' hxa hm
    · exact .inr (.inl ⟨(hr x hxu a hxa).1, g, by rw [g?_of hx, hu x hxu], (hr x hxu a hxa).2, hL⟩)
  · obtain ⟨x, hx, hxa⟩ := touch_of ha
    rcases getElem?_append_cases hx with ⟨_, hx'⟩ | ⟨_, hxu⟩
    · exact (H.wrote i a (by rw [touchAt_of hx']; exact hxa) hw g' hg' hS).app u
    · rw [(hr x hxu a hxa).1] at hw; cases hw
/-- The holder's own: whatever, but no write of a place that is another's to read. -/
theorem Tr.appH (H : Tr Sh St Mem Lo (Knows t h) t) (hu : ∀ op ∈ u, op.g = h) (hs : ∀ op ∈ u, ∀ b, op.act.touch? = some b → b.write = true → ∀ g, Mem g ∨ Lo g → ¬ St g b.loc)
    (hs2 : ∀ op ∈ u, ∀ b, op.act.touch? = some b → Sh b.loc → b.kind ≠ .plain) (hr : ∀ op ∈ u, ∀ a, op.act ≠ .mark (.release a)) : Tr Sh St Mem Lo (Knows (t ++ u) h) (t ++ u) := by
  refine ⟨fun said => noRace_append (H.clean said) hu fun i a ha op hop b hb hc => ?_, fun i a ha hm => ?_, fun i a ha hw g' hg' hS => ?_, norel_app H.norel hr⟩
  · rcases H.known i a ha hc.2.1 with hk | ⟨hw, g, _, hS, hl⟩ | ⟨hS, hk, _⟩
    · exact hk
    · rcases hc.2.2.1 with x | x
      · rw [hw] at x; cases x
      · exact (hs op hop b hb x g (.inr hl) (hc.1 ▸ hS)).elim
    · rcases hc.2.2.2 with x | x | x
      · rw [hk] at x; cases x
      · exact (hs2 op hop b hb (hc.1 ▸ hS) x).elim
      · rw [hk] at x; cases x.2.1
  · obtain ⟨x, hx, hxa⟩ := touch_of ha
    rcases getElem?_append_cases hx with ⟨_, hx'⟩ | ⟨_, hxu⟩
    · exact H.old (fun i => Knows.app u) hx' hxa hm
    · have := knows_own hx
      rw [hu x hxu] at this
      exact .inl this
  · obtain ⟨x, hx, hxa⟩ := touch_of ha
    rcases getElem?_append_cases hx with ⟨_, hx'⟩ | ⟨_, hxu⟩
    · exact (H.wrote i a (by rw [touchAt_of hx']; exact hxa) hw g' hg' hS).app u
    · exact (hs x hxu a hxa hw g' (.inl hg') hS).elim
/-- The holder chooses places that it will read: it knows every write of them. -/
theorem Tr.reseat (hM : ∀ g l, St' g l → l.isMemory = true) (H : Tr Sh St Mem Lo (Knows t h) t) (hs : ∀ g, g ≠ h → St' g = St g) (hL : ¬ Lo h) (hSh : ∀ l, St' h l → ¬ Sh l) : Tr Sh St' (fun g => Mem g ∨ g = h) Lo (Knows t h) t := by
  refine ⟨H.clean, fun i a ha hm => ?_, fun i a ha hw g hg q => ?_, H.norel⟩
  · rcases H.known i a ha hm with q | ⟨x, g, y, z, l⟩ | q
    · exact .inl q
    · exact .inr (.inl ⟨x, g, y, by rw [hs g (fun e => hL (e ▸ l))]; exact z, l⟩)
    · exact .inr (.inr q)
  · by_cases e : g = h
    · subst e
      rcases H.known i a ha (hM g _ q) with k | ⟨x, _⟩ | ⟨x, _⟩
      · exact k
      · rw [hw] at x; cases x
      · exact (hSh _ q x).elim
    · exact H.wrote i a ha hw g (hg.resolve_right e) (by rw [hs g e] at q; exact q)
theorem met_norel (h j : Nat) (fh : FuncId) (ph : String) (fj : FuncId) (pj : String) (c k cap : Nat) : ∀ op ∈ met h j fh ph fj pj c k cap, ∀ a, op.act ≠ .mark (.release a) := by
  intro op hop a
  simp only [met, List.mem_toArray, List.mem_cons, List.not_mem_nil, or_false] at hop
  rcases hop with rfl | rfl | rfl | rfl <;> (intro q; cases q)
/-- A send that is met: the taker holds, and is no reader any more. -/
theorem Tr.give (H : Tr Sh St Mem Lo (Knows t h) t) (hh : Deaf t h = 0) (hj : Deaf t j = 0) (fh : FuncId) (ph : String) (fj : FuncId) (pj : String) (c k cap : Nat) :
    Tr Sh St Mem (fun g => Lo g ∧ g ≠ j) (Knows (t ++ met h j fh ph fj pj c k cap) j) (t ++ met h j fh ph fj pj c k cap) := by
  have hn := met_mute h j fh ph fj pj c k cap
  have e0 : (t ++ met h j fh ph fj pj c k cap)[t.size]? = some { g := h, fn := fh, pos := ph, act := .send c k } := by simp [met]
  have e3 : (t ++ met h j fh ph fj pj c k cap)[t.size + 3]? = some { g := j, fn := fj, pos := pj, act := .recvDone c k } := by simp [met]
  have edge : HappensBefore (t ++ met h j fh ph fj pj c k cap) t.size (t.size + 3) :=
    Relation.TransGen.single (.inr ⟨.handOver (act?_of e0) (act?_of e3), ⟨h, g?_of e0, by rw [deaf_old (Nat.le_refl _)]; exact hh⟩, ⟨j, g?_of e3, by rw [deaf_quiet (met_quiet h j fh ph fj pj c k cap j) 3 (by simp [met])]; exact hj⟩⟩)
  refine ⟨fun said => noRace_appendMute (H.clean said) hn, fun i a ha hm => ?_, fun i a ha hw g hg hS => ?_, norel_app H.norel (met_norel h j fh ph fj pj c k cap)⟩
  · obtain ⟨x, hx, hxa⟩ := touch_of ha
    rcases getElem?_append_cases hx with ⟨hi, hx'⟩ | ⟨_, hxu⟩
    · rcases H.known i a (by rw [touchAt_of hx']; exact hxa) hm with hk | ⟨p, g, hg, q, hl⟩ | q
      · exact .inl ⟨t.size + 3, _, e3, rfl, .inr ((hk.hb_new (Nat.le_refl _) e0 rfl).trans edge)⟩
      · by_cases e : g = j
        · subst e
          have := knows_own hx
          rw [show x.g = g from by have := g?_of hx'; rw [hg] at this; exact (Option.some.inj this).symm] at this
          exact .inl this
        · exact .inr (.inl ⟨p, g, by rw [g?_old hi]; exact hg, q, hl, e⟩)
      · exact .inr (.inr ⟨q.1, q.2.1, fun z => q.2.2 ((heard_old hi).1 z)⟩)
    · rw [hn x hxu] at hxa; cases hxa
  · obtain ⟨x, hx, hxa⟩ := touch_of ha
    rcases getElem?_append_cases hx with ⟨_, hx'⟩ | ⟨_, hxu⟩
    · exact (H.wrote i a (by rw [touchAt_of hx']; exact hxa) hw g hg hS).app _
    · rw [hn x hxu] at hxa; cases hxa
/-- A go statement of the holder's: the child knows what the holder knows. -/
theorem Tr.hire (hM : ∀ g l, St g l → l.isMemory = true) (H : Tr Sh St Mem Lo (Knows t h) t) (hh : Deaf t h = 0) (hc0 : Deaf t c = 0) (hSh : ∀ l, St c l → ¬ Sh l) (fh : FuncId) (ph : String) (fc : FuncId) (pc : String) :
    Tr Sh St (fun g => Mem g ∨ g = c) Lo (Knows (t ++ #[{ g := h, fn := fh, pos := ph, act := .go c }, { g := c, fn := fc, pos := pc, act := .start }]) h) (t ++ #[{ g := h, fn := fh, pos := ph, act := .go c }, { g := c, fn := fc, pos := pc, act := .start }]) := by
  generalize hu : (#[{ g := h, fn := fh, pos := ph, act := .go c }, { g := c, fn := fc, pos := pc, act := .start }] : Trace) = u
  have hn : ∀ op ∈ u, op.act.touch? = none := by
    intro op hop
    subst hu
    simp only [List.mem_toArray, List.mem_cons, List.not_mem_nil, or_false] at hop
    rcases hop with rfl | rfl <;> rfl
  have hq : ∀ g, ∀ op ∈ u, ∀ d, deafStep g d op = d := by
    intro g op hop d
    subst hu
    simp only [List.mem_toArray, List.mem_cons, List.not_mem_nil, or_false] at hop
    rcases hop with rfl | rfl <;> rfl
  have e0 : (t ++ u)[t.size]? = some { g := h, fn := fh, pos := ph, act := .go c } := by subst hu; simp
  have e1 : (t ++ u)[t.size + 1]? = some { g := c, fn := fc, pos := pc, act := .start } := by subst hu; simp
  have hs : u.size = 2 := by subst hu; rfl
  have edge : HappensBefore (t ++ u) t.size (t.size + 1) :=
    Relation.TransGen.single (.inr ⟨.spawn (child := c) (act?_of e0) (act?_of e1) (g?_of e1), ⟨h, g?_of e0, by rw [deaf_old (Nat.le_refl _)]; exact hh⟩, ⟨c, g?_of e1, by rw [deaf_quiet (hq c) 1 (by omega)]; exact hc0⟩⟩)
  have H' := H.appMute (u := u) (K' := Knows (t ++ u) h) (fun i => Knows.app u) hn (by
    intro op hop a
    subst hu
    simp only [List.mem_toArray, List.mem_cons, List.not_mem_nil, or_false] at hop
    rcases hop with rfl | rfl <;> (intro q; cases q))
  refine ⟨H'.clean, H'.known, fun i a ha hw g hg hS => ?_, H'.norel⟩
  rcases hg with hg | rfl
  · exact H'.wrote i a ha hw g hg hS
  · obtain ⟨x, hx, hxa⟩ := touch_of ha
    rcases getElem?_append_cases hx with ⟨hi, hx'⟩ | ⟨_, hxu⟩
    · rcases H.known i a (by rw [touchAt_of hx']; exact hxa) (hM g _ hS) with hk | ⟨p, _⟩ | ⟨p, _⟩
      · exact ⟨t.size + 1, _, e1, rfl, .inr ((hk.hb_new (Nat.le_refl _) e0 rfl).trans edge)⟩
      · rw [hw] at p; cases p
      · exact (hSh _ hS p).elim
    · rw [hn x hxu] at hxa; cases hxa
end
end Go.Proofs.Ytfpkachoneaaeaa
namespace Go.Proofs.Ytfpkachoneaaeaa
open Go Go.Conc
open Go.ConcN (sumTo upd sumTo_upd upd_ne upd_same le_sumTo)
/-- A seat, and the cells that its goroutine reads on its way there, with what lies in them. -/
structure Chair where
  seat : Seat
  val : Addr → Option Value
  B : Nat
def Chair.K (ch : Chair) (w : World) : Prop := ∀ a v, ch.val a = some v → w.cell? a = some v
def Chair.St (ch : Chair) (l : Loc) : Prop := ∃ a v, l = .cell a ∧ ch.val a = some v
def Idl (P : Program) (T : Trace) (i n : Nat) (g : Goroutine) : Option Chair → Prop
  | none => 0 < i ∧ QuitsD P n (Deaf T i) g
  | some ch => Sits P (i == 0) ch.K ch.St ch.B ch.seat n g ∧ Deaf T i = 0
def StOf (Inb : Nat → Option Chair) (i : Nat) (l : Loc) : Prop := ∃ ch, Inb i = some ch ∧ ch.St l
theorem StOf.memory {Inb : Nat → Option Chair} : ∀ g l, StOf Inb g l → l.isMemory = true := by
  rintro g l ⟨ch, _, a, v, rfl, _⟩
  rfl
theorem norel_mute {e : Event} (h : e.mute = true) (a : Addr) : MemAct.ofEvent e ≠ .mark (.release a) := by
  obtain ⟨loc, wr, sy⟩ := e
  cases loc <;> simp_all [Event.mute]
  rename_i m
  cases m <;> simp_all [MemAct.ofEvent]
theorem norel_read {S : Loc → Prop} {B : Nat} {e : Event} (h : EvC S B e) (a : Addr) : MemAct.ofEvent e ≠ .mark (.release a) := by
  obtain ⟨b, rfl, _, _⟩ := h
  rw [ofEvent_cell0]
  intro q
  cases q
structure Core (P : Program) (Sh : Loc → Prop) (Inb : Nat → Option Chair) (Sp : Nat → Prop) (Kf : Trace → Nat → Prop) (T : Trace) (gs : Array Goroutine) (w : World) (q : Nat → Nat) : Prop where
  idle : ∀ i g, ¬ Sp i → gs[i]? = some g → Idl P T i (q i) g (Inb i)
  chans : ∀ i ch c, Inb i = some ch → ch.seat.has c → ∃ cap k, w.heap[c]? = some (.chan cap #[] false k k false)
  wf : ∀ i ch, Inb i = some ch → ch.seat.Wf
  above : ∀ j, gs.size ≤ j → Deaf T j = 0
  past : Tr Sh (StOf Inb) (fun i => (Inb i).isSome = true) (fun i => (Inb i).isSome = true ∧ ¬ Sp i) (Kf T) T
  keep : ∀ i ch, Inb i = some ch → ch.K w
  apart : ∀ i l, StOf Inb i l → ¬ Sh l
def Ends (P : Program) (Post : Value → World → Prop) (m : Machine) (t : Trace) : Prop :=
  ∃ N last o w' t', runNT P (N + 1) m t = (.ended o w', t') ∧ runN P N m = .next last ∧ step P last = .ended o w' ∧ Good P Post last o w' t'
theorem Ends.step {P : Program} {Post : Value → World → Prop} {m m' : Machine} {t : Trace} {ops : Array MemOp} (hs : stepT P m = (.next m', ops)) (h : Ends P Post m' (t ++ ops)) : Ends P Post m t := by
  obtain ⟨N, last, o, w', t', h1, h2, h3, h4⟩ := h
  refine ⟨N + 1, last, o, w', t', ?_, ?_, h3, h4⟩
  · rw [runNT, hs]
    exact h1
  · rw [runN]
    have : Go.step P m = .next m' := by unfold Go.step; rw [hs]
    rw [this]
    exact h2
section
variable {P : Program} {Sh : Loc → Prop} {Inb : Nat → Option Chair} {Sp : Nat → Prop} {Kf : Trace → Nat → Prop} {T : Trace} {gs : Array Goroutine} {w : World} {q : Nat → Nat}
theorem Core.at (C : Core P Sh Inb Sp Kf T gs w q) (d : Nat) : Core P Sh Inb Sp Kf T gs (w.at d) q := ⟨C.idle, C.chans, C.wf, C.above, C.past, C.keep, C.apart⟩
/-- No bystander is unseated by what another does in this world. -/
theorem Core.fixed (C : Core P Sh Inb Sp Kf T gs w q) {x : Nat} {y : Goroutine} (hx : ¬ Sp x) (hy : gs[x]? = some y) : y.again w = y := by
  have h := C.idle x y hx hy
  cases e : Inb x with
  | none =>
    rw [e] at h
    exact again_of_running h.2.status w
  | some ch =>
    rw [e] at h
    exact Sits.again (C.keep x ch e) h.1 (C.wf x ch e) (fun c hc => by obtain ⟨cap, k, hk⟩ := C.chans x ch c e hc; exact ⟨cap, #[], k, k, false, hk⟩)
/-- No bystander offers a send. -/
theorem Core.noSend (C : Core P Sh Inb Sp Kf T gs w q) {x : Nat} {y : Goroutine} (hx : ¬ Sp x) (hy : gs[x]? = some y) (c : Nat) : offersAt y c true = [] := by
  have h := C.idle x y hx hy
  cases e : Inb x with
  | none =>
    rw [e] at h
    exact offersAt_of_not_blocked (fun hb => by rcases h.2.status with z | z <;> rw [z] at hb <;> cases hb) c true
  | some ch =>
    rw [e] at h
    rcases h.1 with ⟨k, w₀, hq, hg⟩ | ⟨_, _, g₂, rfl, _⟩
    · have := (Sits.status (C.keep x ch e) (.inl ⟨k, w₀, hq, hg⟩)).elim (·.1) (fun z => by omega)
      exact offersAt_of_not_blocked (fun hb => by rw [this] at hb; cases hb) c true
    · exact offersAt_parked_sends (fun cc hcc => by obtain ⟨c', z', rfl⟩ := (C.wf x ch e).recvs cc hcc; rfl) _
/-- No bystander offers a receive at a channel that is not its seat's. -/
theorem Core.noRecv (C : Core P Sh Inb Sp Kf T gs w q) {x : Nat} {y : Goroutine} (hx : ¬ Sp x) (hy : gs[x]? = some y) {c : Nat} (hc : ∀ ch, Inb x = some ch → ¬ ch.seat.has c) : offersAt y c false = [] := by
  have h := C.idle x y hx hy
  cases e : Inb x with
  | none =>
    rw [e] at h
    exact offersAt_of_not_blocked (fun hb => by rcases h.2.status with z | z <;> rw [z] at hb <;> cases hb) c false
  | some ch =>
    rw [e] at h
    rcases h.1 with ⟨k, w₀, hq, hg⟩ | ⟨_, _, g₂, rfl, _⟩
    · have := (Sits.status (C.keep x ch e) (.inl ⟨k, w₀, hq, hg⟩)).elim (·.1) (fun z => by omega)
      exact offersAt_of_not_blocked (fun hb => by rw [this] at hb; cases hb) c false
    · refine offersAt_parked_off (fun cc hcc he => ?_) false
      obtain ⟨c', z', rfl⟩ := (C.wf x ch e).recvs cc hcc
      simp only [rcase, Value.chan.injEq, Option.some.injEq] at he
      subst he
      exact hc ch e (Seat.has_of_mem hcc)
theorem Core.awakes (C : Core P Sh Inb Sp Kf T gs w q) (hs : ∀ i g, Sp i → gs[i]? = some g → awake g) : ∀ g ∈ gs, awake g := by
  intro g hg
  obtain ⟨i, hi, rfl⟩ := Array.mem_iff_getElem.1 hg
  by_cases e : Sp i
  · exact hs i _ e (Array.getElem?_eq_getElem hi)
  · have hid := C.idle i _ e (Array.getElem?_eq_getElem hi)
    cases es : Inb i with
    | none => rw [es] at hid; exact awake_of (hid.2.status.elim .inl fun x => .inr (.inr x))
    | some ch => rw [es] at hid; exact awake_of ((Sits.status (C.keep i ch es) hid.1).elim (fun x => .inl x.1) fun x => .inr (.inl x.1))
theorem Idl.deaf {T T' : Trace} {i n : Nat} {g : Goroutine} {o : Option Chair} (h : Idl P T i n g o) (hd : Deaf T' i = Deaf T i) : Idl P T' i n g o := by
  cases o with
  | none => exact ⟨h.1, by rw [hd]; exact h.2⟩
  | some ch => exact ⟨h.1, by rw [hd]; exact h.2⟩
/-- One bystander's record is laid anew; the world stands. -/
theorem Core.put (C : Core P Sh Inb Sp Kf T gs w q) {i n' : Nat} {g' : Goroutine} {ops : Array MemOp} {gs' : Array Goroutine} (hlt : i < gs.size) (hsz : gs'.size = gs.size) (hother : ∀ x, x ≠ i → gs'[x]? = gs[x]?) (hself : gs'[i]? = some g')
    (hops : ∀ op ∈ ops, op.g = i) (hidle : Idl P (T ++ ops) i n' g' (Inb i)) (hpast : Tr Sh (StOf Inb) (fun i => (Inb i).isSome = true) (fun i => (Inb i).isSome = true ∧ ¬ Sp i) (Kf (T ++ ops)) (T ++ ops)) : Core P Sh Inb Sp Kf (T ++ ops) gs' w (upd q i n') := by
  refine ⟨fun x y hx hy => ?_, C.chans, C.wf, fun j hj => ?_, hpast, C.keep, C.apart⟩
  · by_cases e : x = i
    · subst e
      rw [hself] at hy
      obtain rfl := Option.some.inj hy
      rw [upd_same]; exact hidle
    · rw [hother x e] at hy
      rw [upd_ne q n' e]
      exact (C.idle x y hx hy).deaf (Deaf_other T (fun z => e z.symm) ops hops)
  · rw [Deaf_other T (g' := i) (by omega) ops hops]
    exact C.above j (by omega)
/-- ████ A BYSTANDER's STEP. ████ -/
theorem Core.by_step (hKf : ∀ t u i, Kf t i → Kf (t ++ u) i) (C : Core P Sh Inb Sp Kf T gs w q) {i : Nat} {g : Goroutine} {sl : Option (Nat × Nat)} (hi : gs[i]? = some g) (hsp : ¬ Sp i) (hrun : g.status = .running)
    (hsA : ∀ x gx, Sp x → gs[x]? = some gx → gx.again w = gx)
    (hsO : ∀ ch g₂, Inb i = some ch → AtIn P (i == 0) ch.K ch.St ch.B ch.seat g g₂ → ∀ x gx c, Sp x → gs[x]? = some gx → ch.seat.has c → offersAt gx c true = []) :
    ∃ (gs' : Array Goroutine) (ops : Array MemOp) (q' : Nat → Nat), runT P (crowd gs w sl) i = (.next (crowd gs' w sl), ops) ∧ gs'.size = gs.size ∧ (∀ x, Sp x → gs'[x]? = gs[x]?) ∧ (∀ x, x ≠ i → q' x = q x) ∧ (∀ ch, Inb i = some ch → q' i = 0 → ∃ g₂, AtIn P (i == 0) ch.K ch.St ch.B ch.seat g g₂) ∧
      Core P Sh Inb Sp Kf (T ++ ops) gs' w q' ∧ sumTo gs.size q' < sumTo gs.size q ∧ (∀ op ∈ ops, op.g = i) := by
  have hlt : i < gs.size := (Array.getElem?_eq_some_iff.1 hi).1
  have hne : ∀ x, Sp x → x ≠ i := fun x hx e => hsp (e ▸ hx)
  have hfix : ∀ (a a' : Goroutine) (x : Nat) (y : Goroutine), gs[x]? = some y → woken P a a' w y = y := fun a a' x y hy => woken_of_again (by
    by_cases hx : Sp x
    · exact hsA x y hx hy
    · exact C.fixed hx hy)
  have harr : ∀ (a' g' : Goroutine) (x : Nat), x ≠ i → ((gs.map (woken P g a' w)).setIfInBounds i g')[x]? = gs[x]? := by
    intro a' g' x hx
    rw [Array.getElem?_setIfInBounds_ne (fun e => hx e.symm), Array.getElem?_map]
    cases e : gs[x]? with
    | none => rfl
    | some y => simp [hfix g a' x y e]
  have hself : ∀ (a' g' : Goroutine), ((gs.map (woken P g a' w)).setIfInBounds i g')[i]? = some g' := fun a' g' => Array.getElem?_setIfInBounds_self_of_lt (by simpa using hlt)
  have hsum : ∀ k, q i = k + 1 → sumTo gs.size (upd q i k) < sumTo gs.size q := by
    intro k hqi
    have h2 : sumTo gs.size (upd q i k) + (k + 1) = sumTo gs.size q + k := by
      have := sumTo_upd q k id hlt
      simpa [hqi] using this
    omega
  have hid := C.idle i g hsp hi
  cases e : Inb i with
  | none =>
    rw [e] at hid
    obtain ⟨hpos, hq⟩ := hid
    have hi0 : (i == 0) = false := by simp; omega
    cases hqi : q i with
    | zero => rw [hqi] at hq; rw [hq.1] at hrun; cases hrun
    | succ k =>
      rw [hqi] at hq
      rcases hq with ⟨hf, _⟩ | ⟨_, g', es, hm, hstp, hq'⟩
      · rw [hf] at hrun; cases hrun
      have hops : ∀ op ∈ MemOp.ofEvents i g.frame.fn g.frame.place es, op.g = i := fun op hop => by obtain ⟨e, _, rfl⟩ := Go.Conc.mem_ofEvents hop; rfl
      refine ⟨_, _, upd q i k, runT_crowd_go (sl := sl) hi (by rw [hi0]; exact hstp w), by simp, fun x hx => harr _ _ x (hne x hx), fun x hx => upd_ne q k hx, fun ch hs _ => (by cases hs), ?_, hsum k hqi, hops⟩
      refine C.put hlt (by simp) (harr _ _) (hself _ _) hops (by rw [e]; exact ⟨hpos, by rw [Deaf_own]; exact hq'⟩) ?_
      exact C.past.appMute (hKf T _) (fun op hop => by obtain ⟨e, he, rfl⟩ := Go.Conc.mem_ofEvents hop; exact touch_mute (hm e he)) (fun op hop a q => by obtain ⟨e, he, rfl⟩ := Go.Conc.mem_ofEvents hop; exact norel_mute (hm e he) a q)
  | some ch =>
    rw [e] at hid
    obtain ⟨hid, hdf⟩ := hid
    obtain ⟨k, w₀, hqi, hg⟩ : ∃ k w₀, q i = k + 1 ∧ Goes P (i == 0) (RK ch.K) (DS ch.St ch.B) (fun g _ => ∃ g₂, AtIn P (i == 0) ch.K ch.St ch.B ch.seat g g₂) k g w₀ := by
      rcases hid with h | ⟨_, _, g₂, rfl, _⟩
      · exact h
      · cases hrun
    have hKw := C.keep i ch e
    have hMi : (Inb i).isSome = true := by rw [e]; rfl
    have hst : ∀ l, ch.St l → StOf Inb i l := fun l hl => ⟨ch, e, hl⟩
    have hcase : (∃ g₂, AtIn P (i == 0) ch.K ch.St ch.B ch.seat g g₂) ∨ ∃ k' g' es, k = k' + 1 ∧ stepG P (i == 0) g w = .go g' w es ∧ (∀ e ∈ es, EvC ch.St ch.B e) ∧ Goes P (i == 0) (RK ch.K) (DS ch.St ch.B) (fun g _ => ∃ g₂, AtIn P (i == 0) ch.K ch.St ch.B ch.seat g g₂) k' g' w := by
      cases k with
      | zero => exact .inl (hg w hKw)
      | succ k' =>
        rcases hg with hstop | ⟨_, hstep⟩
        · exact .inl (hstop w hKw)
        · have hs := hstep w hKw
          cases hgo : stepG P (i == 0) g w with
          | go g' w' es =>
            rw [hgo, goes_go] at hs
            obtain ⟨⟨rfl, hes⟩, hG'⟩ := hs
            exact .inr ⟨k', g', es, rfl, rfl, hes, hG'⟩
          | _ => rw [hgo] at hs; exact hs.elim
    rcases hcase with ⟨g₂, hat⟩ | ⟨k', g', es, rfl, hgo, hes, hG'⟩
    · obtain ⟨_, _, _, _, _, es, hes, hstp⟩ := id hat
      obtain ⟨hops, hr, hl, hd⟩ := evC_ops (i := i) (fn := g.frame.fn) (pos := g.frame.place) hes
      have hw : ∀ cc ∈ ch.seat.cases, NoWays w (gs.setIfInBounds i ph) cc := by
        intro cc hcc
        obtain ⟨c, z, rfl⟩ := (C.wf i ch e).recvs cc hcc
        have hsc := Seat.has_of_mem hcc
        obtain ⟨cap, kk, hc⟩ := C.chans i ch c e hsc
        refine ways_recv_none hc (partners_nil fun x y hy => ?_)
        rcases getElem?_stand gs i x y hy with ⟨_, rfl⟩ | ⟨hx, hy'⟩
        · exact offersAt_ph _ _
        · by_cases hS : Sp x
          · exact hsO ch g₂ e hat x y c hS hy' hsc
          · exact C.noSend hS hy' _
      refine ⟨_, _, upd q i 0, crowd_waits (sl := sl) hi (hstp w hKw) hw, by simp, fun x hx => Array.getElem?_setIfInBounds_ne (fun z => hne x hx z.symm), fun x hx => upd_ne q 0 hx, fun ch' hs' _ => (by obtain rfl := Option.some.inj hs'; exact ⟨g₂, hat⟩), ?_, ?_, hops⟩
      · refine C.put hlt (by simp) (fun x hx => Array.getElem?_setIfInBounds_ne (fun z => hx z.symm)) (Array.getElem?_setIfInBounds_self_of_lt hlt) hops (by rw [e]; exact ⟨.inr ⟨rfl, g, g₂, rfl, hat⟩, (hd T).trans hdf⟩) ?_
        exact C.past.appRead (hKf T _) hMi ⟨hMi, hsp⟩ hops (fun op hop b hb => ⟨(hr op hop b hb).1, hst _ (hr op hop b hb).2⟩) (fun op hop a q => by obtain ⟨e, he, rfl⟩ := Go.Conc.mem_ofEvents hop; exact norel_read (hes e he) a q)
      · have h2 : sumTo gs.size (upd q i 0) + (k + 1) = sumTo gs.size q + 0 := by
          have := sumTo_upd q 0 id hlt
          simpa [hqi] using this
        omega
    · obtain ⟨hops, hr, hl, hd⟩ := evC_ops (i := i) (fn := g.frame.fn) (pos := g.frame.place) hes
      refine ⟨_, _, upd q i (k' + 1), runT_crowd_go (sl := sl) hi hgo, by simp, fun x hx => harr _ _ x (hne x hx), fun x hx => upd_ne q _ hx, fun ch' _ h0 => (by rw [upd_same] at h0; omega), ?_, hsum _ hqi, hops⟩
      refine C.put hlt (by simp) (harr _ _) (hself _ _) hops (by rw [e]; exact ⟨.inl ⟨k', w, rfl, hG'⟩, (hd T).trans hdf⟩) ?_
      exact C.past.appRead (hKf T _) hMi ⟨hMi, hsp⟩ hops (fun op hop b hb => ⟨(hr op hop b hb).1, hst _ (hr op hop b hb).2⟩) (fun op hop a q => by obtain ⟨e, he, rfl⟩ := Go.Conc.mem_ofEvents hop; exact norel_read (hes e he) a q)
end
end Go.Proofs.Ytfpkachoneaaeaa
namespace Go.Proofs.Ytfpkachoneaaeaa
open Go Go.Conc
open Go.ConcN (sumTo upd sumTo_upd upd_ne upd_same le_sumTo)
/-- Picked now, goroutine h takes a step, and from there the run ends. -/
def EndsAt (P : Program) (Post : Value → World → Prop) (h : Nat) (m : Machine) (t : Trace) : Prop := ∃ m' ops, runT P m h = (.next m', ops) ∧ Ends P Post m' (t ++ ops)
/-- The holder's frame. -/
abbrev Hold (P : Program) (Sh : Loc → Prop) (Inb : Nat → Option Chair) (h : Nat) (T : Trace) (gs : Array Goroutine) (w : World) (q : Nat → Nat) : Prop := Core P Sh Inb (· = h) (fun t => Knows t h) T gs w q
section
variable {P : Program} {Post : Value → World → Prop} {Sh : Loc → Prop} {Inb : Nat → Option Chair} {h : Nat} {T : Trace} {gs : Array Goroutine} {w : World} {q : Nat → Nat}
theorem Hold.picked {a : Goroutine} {sl : Option (Nat × Nat)} (ha : gs[h]? = some a) (hrun : a.status = .running) (C : Hold P Sh Inb h T gs w q)
    (cont : ∀ gs' d sl' T' q', gs'.size = gs.size → gs'[h]? = some a → Hold P Sh Inb h T' gs' (w.at d) q' → Deaf T' h = Deaf T h → EndsAt P Post h (crowd gs' (w.at d) sl') T') : Ends P Post (crowd gs w sl) T := by
  have key : ∀ (n : Nat) (gs₁ : Array Goroutine) (d : Nat) (sl₁ : Option (Nat × Nat)) (T₁ : Trace) (q₁ : Nat → Nat), sumTo gs₁.size q₁ = n → gs₁.size = gs.size → gs₁[h]? = some a → Hold P Sh Inb h T₁ gs₁ (w.at d) q₁ → Deaf T₁ h = Deaf T h → Ends P Post (crowd gs₁ (w.at d) sl₁) T₁ := by
    intro n
    induction n using Nat.strongRecOn with
    | _ n ih =>
      intro gs₁ d sl₁ T₁ q₁ hn hsz ha₁ C₁ hd
      obtain ⟨i, g, d', sl', hi, hg, hst⟩ := crowd_pick (P := P) (w := w.at d) (sl := sl₁) (C₁.awakes (fun i g hi hg => by
        subst hi
        rw [ha₁] at hg
        obtain rfl := Option.some.inj hg
        exact awake_of (.inl hrun))) ⟨h, a, ha₁, hrun⟩
      have Cd : Hold P Sh Inb h T₁ gs₁ (w.at d') q₁ := C₁.at d'
      by_cases e : i = h
      · subst e
        obtain ⟨m', ops, h1, h2⟩ := cont gs₁ d' sl' T₁ q₁ hsz ha₁ Cd hd
        exact Ends.step (hst.trans h1) h2
      · obtain ⟨gs', ops, q', hrt, hsz', hsp, _, _, C', hlt, hops⟩ := Core.by_step (sl := sl') (fun t u i => Knows.app u) Cd hi e hg
          (fun x gx hx hgx => by subst hx; rw [ha₁] at hgx; obtain rfl := Option.some.inj hgx; exact again_of_running (.inl hrun) _)
          (fun ch g₂ _ _ x gx c hx hgx _ => by subst hx; rw [ha₁] at hgx; obtain rfl := Option.some.inj hgx; exact offersAt_of_not_blocked (by rw [hrun]; simp) _ _)
        refine Ends.step (hst.trans hrt) (ih _ (by rw [← hn, ← hsz']; rw [hsz']; exact hlt) gs' d' sl' (T₁ ++ ops) q' rfl (hsz'.trans hsz) (by rw [hsp h rfl]; exact ha₁) C' ?_)
        rw [Deaf_other T₁ e ops hops]
        exact hd
  exact key _ gs w.drawn sl T q rfl rfl ha C rfl
theorem norel_of {e : Event} {a : Addr} (h : MemAct.ofEvent e = .mark (.release a)) : e.loc = .mark (.release a) := by
  obtain ⟨loc, wr, sy⟩ := e
  cases loc with
  | mark m =>
    simp only [MemAct.ofEvent, MemAct.mark.injEq] at h
    rw [h]
  | _ => cases wr <;> cases sy <;> simp_all [MemAct.ofEvent]
/-- What the holder's step may do. -/
structure HD (Sh : Loc → Prop) (Inb : Nat → Option Chair) (w w' : World) (es : Array Event) : Prop where
  write : ∀ e ∈ es, ∀ x, (MemAct.ofEvent e).touch? = some x → x.write = true → ∀ g, ¬ StOf Inb g x.loc
  shun : ∀ e ∈ es, ∀ x, (MemAct.ofEvent e).touch? = some x → Sh x.loc → x.kind ≠ .plain
  norel : ∀ e ∈ es, ∀ a, e.loc ≠ .mark (.release a)
  keep : ∀ i ch, Inb i = some ch → ch.K w → ch.K w'
  chan : ∀ i ch c, Inb i = some ch → ch.seat.has c → w'.heap[c]? = w.heap[c]?
theorem Core.own {a a' : Goroutine} {w' : World} {es : Array Event} (C : Hold P Sh Inb h T gs w q) (ha : gs[h]? = some a) (hd : HD Sh Inb w w' es) :
    Hold P Sh Inb h (T ++ MemOp.ofEvents h a.frame.fn a.frame.place es) ((gs.map (woken P a a' w')).setIfInBounds h a') w' q := by
  have hlt : h < gs.size := (Array.getElem?_eq_some_iff.1 ha).1
  have hops : ∀ op ∈ MemOp.ofEvents h a.frame.fn a.frame.place es, op.g = h := fun op hop => by obtain ⟨e, _, rfl⟩ := Go.Conc.mem_ofEvents hop; rfl
  have hch : ∀ i ch c, Inb i = some ch → ch.seat.has c → ∃ cap k, w'.heap[c]? = some (.chan cap #[] false k k false) := fun i ch c e hc => by
    obtain ⟨cap, k, hk⟩ := C.chans i ch c e hc
    exact ⟨cap, k, by rw [hd.chan i ch c e hc]; exact hk⟩
  have hkp : ∀ i ch, Inb i = some ch → ch.K w' := fun i ch e => hd.keep i ch e (C.keep i ch e)
  have C' : Hold P Sh Inb h T gs w' q := ⟨C.idle, hch, C.wf, C.above, C.past, hkp, C.apart⟩
  refine ⟨fun x y hx hy => ?_, hch, C.wf, fun j hj => ?_, C.past.appH hops (fun op hop b hb hw g _ => ?_) (fun op hop b hb => ?_) (fun op hop a q => ?_), hkp, C.apart⟩
  · rw [Array.getElem?_setIfInBounds_ne (fun e => hx e.symm), Array.getElem?_map] at hy
    obtain ⟨y₀, hy₀, rfl⟩ := Option.map_eq_some_iff.1 hy
    rw [woken_of_again (C'.fixed hx hy₀)]
    exact (C.idle x y₀ hx hy₀).deaf (Deaf_other T (fun z => hx z.symm) _ hops)
  · simp only [Array.size_setIfInBounds, Array.size_map] at hj
    rw [Deaf_other T (g' := h) (by omega) _ hops]
    exact C.above j hj
  · obtain ⟨e, he, rfl⟩ := Go.Conc.mem_ofEvents hop
    exact hd.write e he b hb hw g
  · obtain ⟨e, he, rfl⟩ := Go.Conc.mem_ofEvents hop
    exact hd.shun e he b hb
  · obtain ⟨e, he, rfl⟩ := Go.Conc.mem_ofEvents hop
    exact hd.norel e he a (norel_of q)
/-- ████ THE HOLDER's WALK. ████ -/
theorem hold {D : World → World → Array Event → Prop} {Stop : Nat → Goroutine → World → Prop} (hD : ∀ w w' es, D w w' es → HD Sh Inb w w' es) {k : Nat} {a : Goroutine} (hG : Gx P (h == 0) D Stop k a w) :
    ∀ {gs : Array Goroutine} {T : Trace} {q : Nat → Nat} {sl : Option (Nat × Nat)}, gs[h]? = some a → Hold P Sh Inb h T gs w q → Deaf T h = k →
      (∀ k' a' w' gs' T' q' sl', Stop k' a' w' → gs'[h]? = some a' → Hold P Sh Inb h T' gs' w' q' → Deaf T' h = k' → gs'.size = gs.size → Ends P Post (crowd gs' w' sl') T') → Ends P Post (crowd gs w sl) T := by
  induction hG with
  | @stop k a w hs =>
    intro gs T q sl ha C hk cont
    exact cont k a w gs T q sl (hs w.drawn) ha C hk rfl
  | @step k a w hr ng nw ne hs hd _ ih =>
    intro gs T q sl ha C hk cont
    refine Hold.picked ha hr C fun gs' d sl' T' q' hsz ha' C' hdf => ?_
    have hrt := runT_crowd_go (P := P) (sl := sl') (i := h) ha' (hs d)
    refine ⟨_, _, hrt, ?_⟩
    have hlt : h < gs'.size := (Array.getElem?_eq_some_iff.1 ha').1
    refine ih d (Array.getElem?_setIfInBounds_self_of_lt (by simpa using hlt)) (C'.own ha' (hD _ _ _ (hd d))) (by rw [Deaf_own, hdf, hk]) (fun k' a' w' gs'' T'' q'' sl'' hS ha'' C'' hk'' hsz'' => ?_)
    exact cont k' a' w' gs'' T'' q'' sl'' hS ha'' C'' hk'' (by rw [hsz'']; simpa using hsz)
theorem touch_loc {e : Event} {x : Touch} (hx : (MemAct.ofEvent e).touch? = some x) : (∃ a, x.loc = .cell a ∧ (e.loc = .cell a ∨ e.loc = .mark (.read a) ∨ e.loc = .mark (.write a))) ∨ ∀ a, x.loc ≠ .cell a := by
  obtain ⟨loc, wr, sy⟩ := e
  cases loc with
  | cell a =>
    simp only [ofEvent_cell0, MemAct.touch?, Option.some.injEq] at hx
    subst hx
    exact .inl ⟨a, rfl, .inl rfl⟩
  | mark m => cases m <;> simp [MemAct.ofEvent, MemAct.touch?] at hx <;> (subst hx; first | exact .inl ⟨_, rfl, .inr (.inl rfl)⟩ | exact .inl ⟨_, rfl, .inr (.inr rfl)⟩)
  | obj r => exact .inr (fun a q => by cases wr <;> cases sy <;> simp [MemAct.ofEvent, MemAct.touch?] at hx <;> (try (rw [← hx] at q)) <;> simp_all)
  | output => exact .inr (fun a q => by cases wr <;> cases sy <;> simp [MemAct.ofEvent, MemAct.touch?] at hx <;> (try (rw [← hx] at q)) <;> simp_all)
  | goroutines => exact .inr (fun a q => by cases wr <;> cases sy <;> simp [MemAct.ofEvent, MemAct.touch?] at hx <;> (try (rw [← hx] at q)) <;> simp_all)
/-- The lone run's guarantee is the holder's. -/
theorem GD.hd {Hd C : Nat → Prop} (hZ : ∀ i ch a v, Inb i = some ch → ch.val a = some v → Hd a.block) (hC : ∀ i ch c, Inb i = some ch → ch.seat.has c → C c) (hS : ∀ l, Sh l → ∃ a, l = .cell a ∧ Hd a.block) {w w' : World} {es : Array Event} (g : GD Hd C w w' es) : HD Sh Inb w w' es := by
  have key : ∀ e ∈ es, ∀ x, (MemAct.ofEvent e).touch? = some x → ∀ a, x.loc = .cell a → ¬ Hd a.block := fun e he x hx a ha => by
    rcases touch_loc hx with ⟨b, h1, h2⟩ | h1
    · rw [ha] at h1
      cases h1
      rcases h2 with h2 | h2 | h2
      · exact (g.evs e he).cell a h2
      · exact ((g.evs e he).mark _ h2).elim
      · exact ((g.evs e he).mark _ h2).elim
    · exact (h1 a ha).elim
  refine ⟨fun e he x hx hw i hSt => ?_, fun e he x hx hSx => ?_, fun e he a q => ((g.evs e he).mark _ q).elim, fun i ch e hK a v hv => ?_, fun i ch c e hc => g.chan c (hC i ch c e hc)⟩
  · obtain ⟨ch, e1, a, v, hl, hv⟩ := hSt
    exact key e he x hx a hl (hZ i ch a v e1 hv)
  · obtain ⟨a, hl, hh⟩ := hS _ hSx
    exact (key e he x hx a hl hh).elim
  · have h1 := hK a v hv
    have h2 := g.hid a.block (hZ i ch a v e hv)
    rw [Still.cell h2]
    exact h1
end
end Go.Proofs.Ytfpkachoneaaeaa
namespace Go.Proofs.Ytfpkachoneaaeaa
open Go Go.Conc
open Go.ConcN (sumTo upd sumTo_upd upd_ne upd_same le_sumTo)
theorem cell_setChan {w : World} {c cap s r : Nat} {buf : Array Value} {cl tm : Bool} {o : Obj} (ho : w.heap[c]? = some o) (hc : o.isChan = true) (a : Addr) : (w.setChan c cap buf cl s r tm).cell? a = w.cell? a := by
  unfold World.cell? World.setChan
  simp only [Array.getElem?_setIfInBounds]
  by_cases e : c = a.block
  · rw [← e, if_pos rfl, ho, if_pos (Array.getElem?_eq_some_iff.1 ho).1]
    cases o <;> first | rfl | cases hc
  · rw [if_neg e]
section
variable {P : Program} {Post : Value → World → Prop} {Sh : Loc → Prop} {Inb : Nat → Option Chair} {h : Nat} {T : Trace} {gs : Array Goroutine} {w : World} {q : Nat → Nat}
/-- The frame behind the meeting. -/
theorem Core.pass (C : Hold P Sh Inb h T gs w q) {j c cap k nh : Nat} {ch : Chair} {T' : Trace} {gs' : Array Goroutine} {yh : Goroutine} (hjh : j ≠ h) (hj : (Inb j).isSome = true) (hc : w.heap[c]? = some (.chan cap #[] false k k false))
    (hsz : gs'.size = gs.size) (hoth : ∀ x, x ≠ h → x ≠ j → gs'[x]? = gs[x]?) (hH : gs'[h]? = some yh) (hD : ∀ x, Deaf T' x = Deaf T x) (hd0 : Deaf T h = 0) (hafter : Sits P (h == 0) ch.K ch.St ch.B ch.seat nh yh)
    (hwf : ch.seat.Wf) (hch : ∀ c' : Nat, ch.seat.has c' → ∃ cap k, w.heap[c']? = some (.chan cap #[] false k k false)) (hK : ch.K w)
    (hap : ∀ l, ch.St l → ¬ Sh l) (hT : Tr Sh (StOf (upd Inb h (some ch))) (fun i => (Inb i).isSome = true ∨ i = h) (fun i => ((Inb i).isSome = true ∧ i ≠ h) ∧ i ≠ j) (Knows T' j) T') :
    Hold P Sh (upd Inb h (some ch)) j T' gs' (w.setChan c cap #[] false (k + 1) (k + 1) false) (upd q h nh) := by
  have hsub : ∀ x, x ≠ h → upd Inb h (some ch) x = Inb x := fun x hx => upd_ne Inb _ hx
  have hcell : ∀ a, (w.setChan c cap #[] false (k + 1) (k + 1) false).cell? a = w.cell? a := fun a => cell_setChan hc rfl a
  have hopen : ∀ c' : Nat, (∃ cap k, w.heap[c']? = some (.chan cap #[] false k k false)) → ∃ cap' k', (w.setChan c cap #[] false (k + 1) (k + 1) false).heap[c']? = some (.chan cap' #[] false k' k' false) := by
    rintro c' ⟨cap', k', h'⟩
    by_cases e : c = c'
    · subst e
      exact ⟨cap, k + 1, heap_setChan_self w hc _ _ _ _ _ _⟩
    · exact ⟨cap', k', by rw [heap_setChan_ne w _ _ _ _ _ _ e]; exact h'⟩
  have hc2 : ∀ i ch', upd Inb h (some ch) i = some ch' → (∀ c' : Nat, ch'.seat.has c' → ∃ cap k, w.heap[c']? = some (.chan cap #[] false k k false)) ∧ ch'.seat.Wf ∧ ch'.K w := fun i ch' e => by
    by_cases ei : i = h
    · subst ei
      rw [upd_same] at e
      obtain rfl := Option.some.inj e
      exact ⟨hch, hwf, hK⟩
    · rw [hsub i ei] at e
      exact ⟨fun c' hc' => C.chans i ch' c' e hc', C.wf i ch' e, C.keep i ch' e⟩
  refine ⟨fun x y hx hy => ?_, fun i ch' c' e hc' => hopen c' ((hc2 i ch' e).1 c' hc'), fun i ch' e => (hc2 i ch' e).2.1, fun x hx => by rw [hD]; exact C.above x (by omega), ?_, fun i ch' e a v hv => by rw [hcell]; exact (hc2 i ch' e).2.2 a v hv, fun i l hl => ?_⟩
  · by_cases ex : x = h
    · subst ex
      rw [hH] at hy
      obtain rfl := Option.some.inj hy
      rw [upd_same, upd_same]
      exact ⟨hafter, by rw [hD]; exact hd0⟩
    · rw [hoth x ex hx] at hy
      rw [upd_ne q nh ex, hsub x ex]
      exact (C.idle x y ex hy).deaf (hD x)
  · refine (hT.fewer fun i hi => ?_).loosen fun i hi => ?_
    · by_cases ei : i = h
      · exact .inr ei
      · rw [hsub i ei] at hi
        exact .inl hi
    · refine ⟨?_, hi.2⟩
      rw [hsub i hi.1.2]
      exact hi.1.1
  · obtain ⟨ch', e, hl⟩ := hl
    by_cases ei : i = h
    · subst ei
      rw [upd_same] at e
      obtain rfl := Option.some.inj e
      exact hap l hl
    · rw [hsub i ei] at e
      exact C.apart i l ⟨ch', e, hl⟩
/-- ████ ████ -/
theorem give {a a₂ : Goroutine} {j c kk k nh : Nat} {chj ch : Chair} {v z z' : Value} {es : Array Event} {sl : Option (Nat × Nat)} (hjh : j ≠ h) (hjlt : j < gs.size) (hj : Inb j = some chj) (hk : chj.seat.cases[kk]? = some (rcase c z))
    (honly : ∀ x chx, x ≠ j → Inb x = some chx → ¬ chx.seat.has c) (ha : gs[h]? = some a) (hrun : a.status = .running) (hd0 : Deaf T h = 0)
    (hsend : ∀ d, stepG P (h == 0) a (w.at d) = .comm a₂ #[scase c v z'] true .send (w.at d) es)
    (hes : ∀ e ∈ es, ∀ x, (MemAct.ofEvent e).touch? = some x → x.write = true → ∀ g, ¬ StOf Inb g x.loc) (hem : ∀ e ∈ es, e.loc ≠ .mark .disable ∧ e.loc ≠ .mark .enable)
    (hsh : ∀ e ∈ es, ∀ x, (MemAct.ofEvent e).touch? = some x → Sh x.loc → x.kind ≠ .plain) (hnr : ∀ e ∈ es, ∀ a, e.loc ≠ .mark (.release a)) (hap : ∀ l, ch.St l → ¬ Sh l)
    (C : Hold P Sh Inb h T gs w q) (hc : w.heap[c]? = some (.chan 0 #[] false k k false))
    (hwf : ch.seat.Wf) (hch : ∀ c' : Nat, ch.seat.has c' → ∃ cap k, w.heap[c']? = some (.chan cap #[] false k k false)) (hK : ch.K w)
    (hafter : Sits P (h == 0) ch.K ch.St ch.B ch.seat nh (Go.Conc.served a₂ undef))
    (cont : ∀ gs' g₂ d T' q' sl', gs'.size = gs.size → gs'[j]? = some (Go.Conc.served g₂ (commResult chj.seat.cases chj.seat.shape kk v true)) → chj.seat.home g₂ →
      Hold P Sh (upd Inb h (some ch)) j T' gs' ((w.at d).setChan c 0 #[] false (k + 1) (k + 1) false) q' → Deaf T' j = 0 → Ends P Post (crowd gs' ((w.at d).setChan c 0 #[] false (k + 1) (k + 1) false) sl') T') :
    Ends P Post (crowd gs w sl) T := by
  have hsc : chj.seat.has c := ⟨kk, z, hk⟩
  have hwfj := C.wf j chj hj
  have hu : ∀ (m : Nat) (cc : CommCase), m ≠ kk → chj.seat.cases[m]? = some cc → cc.chan ≠ .chan (some c) := by
    intro m cc hm hcc ec
    obtain ⟨c₂, z₂, rfl⟩ := hwfj.recvs cc (Array.mem_of_getElem? hcc)
    simp only [rcase, Value.chan.injEq, Option.some.injEq] at ec
    subst ec
    exact hm (hwfj.apart m kk _ _ _ hcc hk)
  have hopsH : ∀ (fn : FuncId) (pos : String), (∀ op ∈ MemOp.ofEvents h fn pos es, op.g = h) ∧ ∀ t : Trace, Deaf (t ++ MemOp.ofEvents h fn pos es) h = Deaf t h := fun fn pos => ⟨fun op hop => by obtain ⟨e, _, rfl⟩ := Go.Conc.mem_ofEvents hop; rfl, fun t => by rw [Deaf_own]; exact deafBehind_still hem _⟩
  have hpastH : ∀ (t : Trace) (gs₁ : Array Goroutine) (w₁ : World) (q₁ : Nat → Nat) (fn : FuncId) (pos : String), Hold P Sh Inb h t gs₁ w₁ q₁ → Tr Sh (StOf Inb) (fun i => (Inb i).isSome = true) (fun i => (Inb i).isSome = true ∧ ¬ i = h) (Knows (t ++ MemOp.ofEvents h fn pos es) h) (t ++ MemOp.ofEvents h fn pos es) :=
    fun t gs₁ w₁ q₁ fn pos C₁ => C₁.past.appH (hopsH fn pos).1 (fun op hop b hb hw g _ => by
      obtain ⟨e, he, rfl⟩ := Go.Conc.mem_ofEvents hop
      exact hes e he b hb hw g) (fun op hop b hb => by
      obtain ⟨e, he, rfl⟩ := Go.Conc.mem_ofEvents hop
      exact hsh e he b hb) (fun op hop a q => by
      obtain ⟨e, he, rfl⟩ := Go.Conc.mem_ofEvents hop
      exact hnr e he a (norel_of q))
  have key : ∀ (μ : Nat) (gs₁ : Array Goroutine) (d : Nat) (sl₁ : Option (Nat × Nat)) (t : Trace) (q₁ : Nat → Nat) (pk : Bool), sumTo gs₁.size q₁ + (if pk then 0 else 1) = μ → gs₁.size = gs.size → gs₁[h]? = some (if pk then parked a₂ #[scase c v z'] .send else a) →
      Hold P Sh Inb h t gs₁ (w.at d) q₁ → (pk = true → 0 < q₁ j) → Deaf t h = 0 → Ends P Post (crowd gs₁ (w.at d) sl₁) t := by
    intro μ
    induction μ using Nat.strongRecOn with
    | _ μ ih =>
      intro gs₁ d sl₁ t q₁ pk hμ hsz ha₁ C₁ hpk hdt
      obtain ⟨gj, hgj⟩ : ∃ gj, gs₁[j]? = some gj := ⟨gs₁[j]'(by omega), Array.getElem?_eq_getElem (by omega)⟩
      have hlth : h < gs₁.size := (Array.getElem?_eq_some_iff.1 ha₁).1
      obtain ⟨hSj, hdj⟩ : Sits P (j == 0) chj.K chj.St chj.B chj.seat (q₁ j) gj ∧ Deaf t j = 0 := by have := C₁.idle j gj hjh hgj; rwa [hj] at this
      have hsome : ∃ (i : Nat) (g : Goroutine), gs₁[i]? = some g ∧ g.status = .running := by
        cases pk with
        | false => exact ⟨h, a, ha₁, hrun⟩
        | true => exact ⟨j, gj, hgj, (Sits.status (C₁.keep j chj hj) hSj).elim (·.1) (fun z => by have := hpk rfl; omega)⟩
      obtain ⟨i, g, d', sl', hi, hg, hst⟩ := crowd_pick (P := P) (w := w.at d) (sl := sl₁) (C₁.awakes (fun i g hi hg => by
        subst hi
        rw [ha₁] at hg
        obtain rfl := Option.some.inj hg
        cases pk with
        | false => exact awake_of (.inl hrun)
        | true => exact awake_of (.inr (.inl rfl)))) hsome
      have Cd : Hold P Sh Inb h t gs₁ (w.at d') q₁ := C₁.at d'
      have hcd : (w.at d').heap[c]? = some (.chan 0 #[] false k k false) := hc
      -- behind either meeting
      have fin : ∀ (gs' : Array Goroutine) (ops₀ : Array MemOp) (g₂ : Goroutine), gs'.size = gs₁.size → (∀ x, x ≠ h → x ≠ j → gs'[x]? = gs₁[x]?) → gs'[h]? = some (Go.Conc.served a₂ undef) → gs'[j]? = some (Go.Conc.served g₂ (commResult chj.seat.cases chj.seat.shape kk v true)) → chj.seat.home g₂ →
          Tr Sh (StOf Inb) (fun i => (Inb i).isSome = true) (fun i => (Inb i).isSome = true ∧ ¬ i = h) (Knows (t ++ ops₀) h) (t ++ ops₀) → (∀ x, Deaf (t ++ ops₀) x = Deaf t x) →
          Ends P Post (crowd gs' ((w.at d').setChan c 0 #[] false (k + 1) (k + 1) false) sl') (t ++ (ops₀ ++ met h j a₂.frame.fn a₂.frame.place g₂.frame.fn g₂.frame.place c k 0)) := by
        intro gs' ops₀ g₂ hsz' hoth hH hJ hhome p1 hD0
        have hDeaf : ∀ x, Deaf (t ++ (ops₀ ++ met h j a₂.frame.fn a₂.frame.place g₂.frame.fn g₂.frame.place c k 0)) x = Deaf t x := fun x => by rw [← Array.append_assoc, Deaf_quiet (met_quiet _ _ _ _ _ _ _ _ _ x), hD0]
        have p2 := (p1.reseat (St' := StOf (upd Inb h (some ch))) StOf.memory (fun g hg => by funext l; unfold StOf; rw [upd_ne Inb _ hg]) (fun hl => hl.2 rfl) (fun l hl => by obtain ⟨ch', e, hl⟩ := hl; rw [upd_same] at e; obtain rfl := Option.some.inj e; exact hap l hl)).give (j := j) (by rw [hD0]; exact hdt) (by rw [hD0]; exact hdj) a₂.frame.fn a₂.frame.place g₂.frame.fn g₂.frame.place c k 0
        rw [Array.append_assoc] at p2
        exact cont gs' g₂ d' _ _ sl' (hsz'.trans hsz) hJ hhome (Cd.pass hjh (by rw [hj]; rfl) hcd hsz' hoth hH hDeaf hdt hafter hwf hch hK hap p2) ((hDeaf j).trans hdj)
      by_cases e : i = h
      · -- the holder's step
        subst e
        cases pk with
        | true => rw [ha₁] at hi; obtain rfl := Option.some.inj hi; cases hg
        | false =>
          obtain rfl : g = a := by rw [ha₁] at hi; exact (Option.some.inj hi).symm
          have hops := (hopsH g.frame.fn g.frame.place).1
          have hdf := (hopsH g.frame.fn g.frame.place).2
          have hoff : ∀ (x : Nat) (y : Goroutine), x ≠ j → (gs₁.setIfInBounds i ph)[x]? = some y → offersAt y c false = [] := by
            intro x y hxj hy
            rcases getElem?_stand gs₁ i x y hy with ⟨_, rfl⟩ | ⟨hx, hy'⟩
            · exact offersAt_ph _ _
            · exact Cd.noRecv hx hy' fun ch' hs' hc' => honly x ch' hxj hs' hc'
          rcases hSj with ⟨kk', w₀, hq, hG⟩ | ⟨hq0, g₀, g₂, rfl, hat⟩
          · -- j is on its way: the holder is parked at its send
            have hjr : gj.status = .running := (Sits.status (C₁.keep j chj hj) (.inl ⟨kk', w₀, hq, hG⟩)).elim (·.1) (fun z => by omega)
            have hp : partners (gs₁.setIfInBounds i ph) c false = [] := partners_nil fun x y hy => by
              by_cases hxj : x = j
              · subst hxj
                rw [stand_get hjh hgj] at hy
                obtain rfl := Option.some.inj hy
                exact offersAt_of_not_blocked (by rw [hjr]; simp) _ _
              · exact hoff x y hxj hy
            have hw : ∀ cc ∈ #[scase c v z'], NoWays (w.at d') (gs₁.setIfInBounds i ph) cc := by
              intro cc hcc
              simp only [List.mem_toArray, List.mem_cons, List.not_mem_nil, or_false] at hcc
              subst hcc
              exact ways_send_none hcd (Nat.le_refl _) hp
            refine Ends.step (hst.trans (crowd_waits (sl := sl') hi (hsend d') hw)) (ih (sumTo gs₁.size q₁) (by simp at hμ; omega) _ d' sl' _ q₁ true (by simp) (by simpa using hsz) (Array.getElem?_setIfInBounds_self_of_lt hlth) ?_ (fun _ => by omega) ((hdf t).trans hdt))
            refine ⟨fun x y hx hy => ?_, Cd.chans, Cd.wf, fun x hx => ?_, hpastH t _ _ _ _ _ C₁, Cd.keep, Cd.apart⟩
            · rw [Array.getElem?_setIfInBounds_ne (fun z => hx z.symm)] at hy
              exact (Cd.idle x y hx hy).deaf (Deaf_other t (fun z => hx z.symm) _ hops)
            · rw [Deaf_other t (g' := i) (by simp at hx; omega) _ hops]
              exact Cd.above x (by simpa using hx)
          · -- j is parked: the meeting
            have hp : partners (gs₁.setIfInBounds i ph) c false = [(j, kk)] := by
              rw [partners_one (stand_get hjh hgj) fun x y hxj hy => hoff x y hxj hy, offersAt_parked_at hk hu]
              rfl
            refine Ends.step (hst.trans (crowd_send_meets_sel (sl := sl') hi (hsend d') hcd hjh hgj hk hp)) ?_
            exact fin _ _ g₂ (by simp) (fun x hx hxj => by rw [Array.getElem?_setIfInBounds_ne (fun z => hx z.symm), Array.getElem?_setIfInBounds_ne (fun z => hxj z.symm)]) (Array.getElem?_setIfInBounds_self_of_lt (by simpa using hlth))
              (by rw [Array.getElem?_setIfInBounds_ne (fun z => hjh z.symm), Array.getElem?_setIfInBounds_self_of_lt (by omega), finishComm_served]) hat.2.2.2.2.1 (hpastH t _ _ _ _ _ C₁)
              (fun x => by
                by_cases ex : x = i
                · subst ex; exact hdf t
                · exact Deaf_other t (fun z => ex z.symm) _ hops)
      · by_cases ej : i = j ∧ pk = true ∧ ∃ g₂, AtIn P (i == 0) chj.K chj.St chj.B chj.seat g g₂
        · -- j comes to its receive and meets the parked holder
          obtain ⟨rfl, rfl, g₂, hat⟩ := ej
          obtain ⟨_, _, _, _, hhome, esj, hesj, hstp⟩ := hat
          obtain ⟨hops, hr, hl, hd⟩ := evC_ops (i := i) (fn := g.frame.fn) (pos := g.frame.place) hesj
          have hp : partners (gs₁.setIfInBounds i ph) c true = [(h, 0)] := by
            rw [partners_one (stand_get (Ne.symm hjh) ha₁) fun x y hxh hy => by
              rcases getElem?_stand gs₁ i x y hy with ⟨_, rfl⟩ | ⟨_, hy'⟩
              · exact offersAt_ph _ _
              · exact Cd.noSend hxh hy' _]
            simp [offersAt_parked_send]
          have ho : ∀ (m : Nat) (c' : CommCase), m ≠ kk → chj.seat.cases[m]? = some c' → NoWays (w.at d') (gs₁.setIfInBounds i ph) c' := by
            intro m c' hm hc'
            obtain ⟨c₂, z₂, rfl⟩ := hwfj.recvs c' (Array.mem_of_getElem? hc')
            have hne : c ≠ c₂ := fun ec => hu m _ hm hc' (by rw [ec]; rfl)
            obtain ⟨cap₂, k₂, hc₂⟩ := Cd.chans i chj c₂ hj ⟨m, z₂, hc'⟩
            refine ways_recv_none hc₂ (partners_nil fun x y hy => ?_)
            rcases getElem?_stand gs₁ i x y hy with ⟨_, rfl⟩ | ⟨_, hy'⟩
            · exact offersAt_ph _ _
            · by_cases hxh : x = h
              · subst hxh
                rw [ha₁] at hy'
                obtain rfl := Option.some.inj hy'
                simp only [if_true]
                rw [offersAt_parked_send, if_neg hne]
              · exact Cd.noSend hxh hy' _
          refine Ends.step (hst.trans (crowd_sel_recv_meets (sl := sl') hi (hstp _ (Cd.keep i chj hj)) hk ho hcd (Ne.symm hjh) ha₁ hp)) ?_
          exact fin _ _ g₂ (by simp) (fun x hx hxj => by rw [Array.getElem?_setIfInBounds_ne (fun z => hxj z.symm), Array.getElem?_setIfInBounds_ne (fun z => hx z.symm)])
            (by rw [Array.getElem?_setIfInBounds_ne hjh, Array.getElem?_setIfInBounds_self_of_lt hlth, finishComm_send]) (by rw [Array.getElem?_setIfInBounds_self_of_lt (by simp; omega), finishComm_served]) hhome
            (C₁.past.appRead (fun i => Knows.app _) (by rw [hj]; rfl) ⟨by rw [hj]; rfl, hjh⟩ hops (fun op hop b hb => ⟨(hr op hop b hb).1, ⟨chj, hj, (hr op hop b hb).2⟩⟩) (fun op hop a q => by obtain ⟨e, he, rfl⟩ := Go.Conc.mem_ofEvents hop; exact norel_read (hesj e he) a q))
            (fun x => by
              by_cases ex : x = i
              · subst ex; exact hd t
              · exact Deaf_other t (fun z => ex z.symm) _ hops)
        · -- a bystander's step (j's own way to its seat among them)
          obtain ⟨gs', ops, q', hrt, hsz', hsp, hqo, hq0, C', hlt, hops⟩ := Core.by_step (sl := sl') (fun t u i => Knows.app u) Cd hi e hg
            (fun x gx hx hgx => by
              subst hx; rw [ha₁] at hgx; obtain rfl := Option.some.inj hgx
              cases pk with
              | false => exact again_of_running (.inl hrun) _
              | true => exact again_send_open hcd)
            (fun ch' g₂ hs' hat x gx c' hx hgx hc' => by
              subst hx; rw [ha₁] at hgx; obtain rfl := Option.some.inj hgx
              cases pk with
              | false => exact offersAt_of_not_blocked (by simp [hrun]) _ _
              | true =>
                simp only [if_true]
                rw [offersAt_parked_send, if_neg]
                intro ec
                have hij : i = j := Classical.byContradiction fun hne => honly i ch' hne hs' (ec ▸ hc')
                subst hij
                rw [hj] at hs'
                obtain rfl := Option.some.inj hs'
                exact ej ⟨rfl, rfl, g₂, hat⟩)
          refine Ends.step (hst.trans hrt) (ih (sumTo gs'.size q' + (if pk then 0 else 1)) (by rw [hsz']; omega) gs' d' sl' _ q' pk rfl (hsz'.trans hsz) (by rw [hsp h rfl]; exact ha₁) C' (fun hp => ?_) (by rw [Deaf_other t e ops hops]; exact hdt))
          subst hp
          by_cases hij : j = i
          · subst hij
            rcases Nat.eq_zero_or_pos (q' j) with h0 | h0
            · obtain ⟨g₂, hat⟩ := hq0 chj hj h0
              exact absurd ⟨rfl, rfl, g₂, hat⟩ ej
            · exact h0
          · rw [hqo j hij]; exact hpk rfl
  exact key _ gs w.drawn sl T q false rfl rfl ha C (by simp) hd0
end
end Go.Proofs.Ytfpkachoneaaeaa
namespace Go.Proofs.Ytfpkachoneaaeaa
open Go Go.Conc
open Go.ConcN (sumTo upd sumTo_upd upd_ne upd_same le_sumTo)
section
variable {P : Program} {Post : Value → World → Prop} {Sh : Loc → Prop} {Inb : Nat → Option Chair} {h : Nat} {T : Trace} {gs : Array Goroutine} {w : World} {q : Nat → Nat}
theorem hire {a a' child : Goroutine} {nc : Nat} {ch : Chair} {es : Array Event} {sl : Option (Nat × Nat)} (ha : gs[h]? = some a) (hrun : a.status = .running) (hd0 : Deaf T h = 0)
    (hgo : ∀ d, stepG P (h == 0) a (w.at d) = .spawn a' child (w.at d) es)
    (hes : ∀ e ∈ es, ∀ x, (MemAct.ofEvent e).touch? = some x → x.write = true → ∀ g, ¬ StOf Inb g x.loc) (hem : ∀ e ∈ es, e.loc ≠ .mark .disable ∧ e.loc ≠ .mark .enable)
    (hsh : ∀ e ∈ es, ∀ x, (MemAct.ofEvent e).touch? = some x → Sh x.loc → x.kind ≠ .plain) (hnr : ∀ e ∈ es, ∀ a, e.loc ≠ .mark (.release a)) (hap : ∀ l, ch.St l → ¬ Sh l)
    (C : Hold P Sh Inb h T gs w q) (hnew : Inb gs.size = none)
    (hwf : ch.seat.Wf) (hch : ∀ c' : Nat, ch.seat.has c' → ∃ cap k, w.heap[c']? = some (.chan cap #[] false k k false)) (hK : ch.K w)
    (hsits : Sits P false ch.K ch.St ch.B ch.seat nc child)
    (cont : ∀ gs' d T' q' sl', gs'.size = gs.size + 1 → gs'[h]? = some a' → Hold P Sh (upd Inb gs.size (some ch)) h T' gs' (w.at d) q' → Deaf T' h = 0 → Ends P Post (crowd gs' (w.at d) sl') T') :
    Ends P Post (crowd gs w sl) T := by
  refine Hold.picked ha hrun C fun gs₁ d sl' T₁ q₁ hsz ha₁ C₁ hdf => ?_
  have hlt : h < gs₁.size := (Array.getElem?_eq_some_iff.1 ha₁).1
  have hops : ∀ op ∈ MemOp.ofEvents h a.frame.fn a.frame.place es, op.g = h := fun op hop => by obtain ⟨e, _, rfl⟩ := Go.Conc.mem_ofEvents hop; rfl
  have hdf1 : ∀ t : Trace, Deaf (t ++ MemOp.ofEvents h a.frame.fn a.frame.place es) h = Deaf t h := fun t => by rw [Deaf_own]; exact deafBehind_still hem _
  have hrt := runT_crowd_spawn (P := P) (sl := sl') ha₁ (hgo d)
  have hpush : ((MemOp.ofEvents h a.frame.fn a.frame.place es).push { g := h, fn := a.frame.fn, pos := a.frame.place, act := .go gs₁.size } |>.push { g := gs₁.size, fn := child.frame.fn, pos := a.frame.place, act := .start }) =
      MemOp.ofEvents h a.frame.fn a.frame.place es ++ #[{ g := h, fn := a.frame.fn, pos := a.frame.place, act := .go gs₁.size }, { g := gs₁.size, fn := child.frame.fn, pos := a.frame.place, act := .start }] := by
    apply Array.ext'; simp
  rw [hpush] at hrt
  refine ⟨_, _, hrt, ?_⟩
  rw [← hsz] at hnew
  have p1 := C₁.past.appH hops (fun op hop b hb hw g _ => by
    obtain ⟨e, he, rfl⟩ := Go.Conc.mem_ofEvents hop
    exact hes e he b hb hw g) (fun op hop b hb => by
    obtain ⟨e, he, rfl⟩ := Go.Conc.mem_ofEvents hop
    exact hsh e he b hb) (fun op hop a q => by
    obtain ⟨e, he, rfl⟩ := Go.Conc.mem_ofEvents hop
    exact hnr e he a (norel_of q))
  have hap2 : ∀ l, StOf (upd Inb gs₁.size (some ch)) gs₁.size l → ¬ Sh l := fun l hl => by obtain ⟨ch', e, hl⟩ := hl; rw [upd_same] at e; obtain rfl := Option.some.inj e; exact hap l hl
  have hD1 : ∀ x, Deaf (T₁ ++ MemOp.ofEvents h a.frame.fn a.frame.place es) x = Deaf T₁ x := fun x => by
    by_cases ex : x = h
    · subst ex; exact hdf1 T₁
    · exact Deaf_other T₁ (fun z => ex z.symm) _ hops
  have hsub : ∀ x, x ≠ gs₁.size → upd Inb gs₁.size (some ch) x = Inb x := fun x hx => upd_ne Inb _ hx
  have hc0 : Deaf T₁ gs₁.size = 0 := C₁.above _ (Nat.le_refl _)
  have p2 := (p1.same (St' := StOf (upd Inb gs₁.size (some ch))) (fun g hg => by
    have hne : g ≠ gs₁.size := fun e => by
      subst e
      rcases hg with hg | hg
      · rw [hnew] at hg; cases hg
      · rw [hnew] at hg; cases hg.1
    funext l
    unfold StOf
    rw [hsub g hne])).hire (c := gs₁.size) StOf.memory (by rw [hD1]; exact hdf.trans hd0) (by rw [hD1]; exact hc0) hap2 a.frame.fn a.frame.place child.frame.fn a.frame.place
  rw [Array.append_assoc] at p2
  have hD2 : ∀ x, Deaf (T₁ ++ (MemOp.ofEvents h a.frame.fn a.frame.place es ++ #[{ g := h, fn := a.frame.fn, pos := a.frame.place, act := .go gs₁.size }, { g := gs₁.size, fn := child.frame.fn, pos := a.frame.place, act := .start }])) x = Deaf T₁ x := fun x => by
    rw [← Array.append_assoc, Deaf_quiet (fun op hop d => by
      simp only [List.mem_toArray, List.mem_cons, List.not_mem_nil, or_false] at hop
      rcases hop with rfl | rfl <;> rfl), hD1]
  have hc2 : ∀ i ch', upd Inb gs₁.size (some ch) i = some ch' → (∀ c' : Nat, ch'.seat.has c' → ∃ cap k, (w.at d).heap[c']? = some (.chan cap #[] false k k false)) ∧ ch'.seat.Wf ∧ ch'.K (w.at d) := fun i ch' e => by
    by_cases ei : i = gs₁.size
    · subst ei
      rw [upd_same] at e
      obtain rfl := Option.some.inj e
      exact ⟨hch, hwf, hK⟩
    · rw [hsub i ei] at e
      exact ⟨fun c' hc' => C₁.chans i ch' c' e hc', C₁.wf i ch' e, C₁.keep i ch' e⟩
  have hpos : 0 < gs₁.size := by omega
  rw [← hsz] at cont
  refine cont _ d _ (upd q₁ gs₁.size nc) sl' (by simp) ?_ ⟨fun x y hx hy => ?_, fun i ch' c' e hc' => (hc2 i ch' e).1 c' hc', fun i ch' e => (hc2 i ch' e).2.1, fun x hx => ?_, ?_, fun i ch' e => (hc2 i ch' e).2.2, fun i l hl => ?_⟩ ((hD2 h).trans (hdf.trans hd0))
  · rw [Array.getElem?_push, if_neg (by simp; omega), Array.getElem?_setIfInBounds_self_of_lt hlt]
  · by_cases ex : x = gs₁.size
    · subst ex
      rw [Array.getElem?_push, if_pos (by simp)] at hy
      obtain rfl := Option.some.inj hy
      rw [upd_same, upd_same]
      exact ⟨by rw [show (gs₁.size == 0) = false from beq_false_of_ne (by omega)]; exact hsits, by rw [hD2]; exact hc0⟩
    · rw [Array.getElem?_push, if_neg (by simpa using ex), Array.getElem?_setIfInBounds_ne (fun z => hx z.symm)] at hy
      rw [upd_ne q₁ nc ex, hsub x ex]
      exact (C₁.idle x y hx hy).deaf (hD2 x)
  · rw [hD2]
    exact C₁.above x (by simp at hx; omega)
  · refine (p2.fewer fun i hi => ?_).loosen fun i hi => ⟨?_, hi.2⟩
    · by_cases ei : i = gs₁.size
      · exact .inr ei
      · rw [hsub i ei] at hi
        exact .inl hi
    · have hne : i ≠ gs₁.size := fun e => by
        have := hi.1
        rw [e, hnew] at this
        cases this
      rw [hsub i hne]
      exact hi.1
  · by_cases ei : i = gs₁.size
    · subst ei
      exact hap2 l hl
    · obtain ⟨ch', e, hl⟩ := hl
      rw [hsub i ei] at e
      exact C₁.apart i l ⟨ch', e, hl⟩
end
end Go.Proofs.Ytfpkachoneaaeaa
