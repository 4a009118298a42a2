/-
  What is held of the trace while one goroutine holds the token and each of the others may read places of its own: no race; the holder knows every touch but those readings; each reader knows every write of its places.
-/
import Derived.Conc.TokenTrace
import Derived.Conc.CrowdTrace
namespace Go.Proofs.Ytfgpnfboolbbbaa
open Go Go.Conc
structure Tr (Sh : Loc → Prop) (St : Nat → Loc → Prop) (Mem Lo : Nat → Prop) (K : Nat → Prop) (t : Trace) : Prop where
  clean : ∀ said, ¬ Race said t
  known : ∀ i a, touchAt t i = some a → a.loc.isMemory = true → K i ∨ (a.write = false ∧ ∃ g, t.g? i = some g ∧ St g a.loc ∧ Lo g) ∨ (Sh a.loc ∧ a.kind = .atomic ∧ ¬ t.heard i)
  wrote : ∀ i a, touchAt t i = some a → a.write = true → ∀ g, Mem g → St g a.loc → Knows t g i
  norel : ∀ i a, t.act? i ≠ some (.mark (.release a))
theorem still_memory {St : Nat → Loc → Prop} {g : Nat} {l : Loc} (hS : ∀ g l, St g l → l.isMemory = true) (h : St g l) : l.isMemory = true := hS g l h
theorem norel_app {t u : Trace} (h : ∀ i a, t.act? i ≠ some (.mark (.release a))) (hu : ∀ op ∈ u, ∀ a, op.act ≠ .mark (.release a)) : ∀ i a, (t ++ u).act? i ≠ some (.mark (.release a)) := by
  intro i a q
  unfold Trace.act? at q
  obtain ⟨op, ho, hq⟩ := Option.map_eq_some_iff.1 q
  rcases getElem?_append_cases ho with ⟨_, ho'⟩ | ⟨_, hou⟩
  · exact h i a (by unfold Trace.act?; rw [ho']; exact congrArg some hq)
  · exact hu op hou a hq
section
variable {Sh : Loc → Prop} {St St' : Nat → Loc → Prop} {Mem Lo : Nat → Prop} {K K' : Nat → Prop} {t u : Trace} {h g j c : Nat}
theorem Tr.loosen {Lo' : Nat → Prop} (H : Tr Sh St Mem Lo K t) (hL : ∀ g, Lo g → Lo' g) : Tr Sh St Mem Lo' K t :=
  ⟨H.clean, fun i a ha hm => (H.known i a ha hm).imp id (Or.imp (fun ⟨x, g, y, z, l⟩ => ⟨x, g, y, z, hL g l⟩) id), H.wrote, H.norel⟩
theorem Tr.fewer {Mem' : Nat → Prop} (H : Tr Sh St Mem Lo K t) (hM : ∀ g, Mem' g → Mem g) : Tr Sh St Mem' Lo K t :=
  ⟨H.clean, H.known, fun i a ha hw g hg => H.wrote i a ha hw g (hM g hg), H.norel⟩
theorem Tr.same (H : Tr Sh St Mem Lo K t) (hs : ∀ g, Mem g ∨ Lo g → St' g = St g) : Tr Sh St' Mem Lo K t :=
  ⟨H.clean, fun i a ha hm => (H.known i a ha hm).imp id (Or.imp (fun ⟨x, g, y, z, l⟩ => ⟨x, g, y, by rw [hs g (.inr l)]; exact z, l⟩) id), fun i a ha hw g hg q => H.wrote i a ha hw g hg (by rw [hs g (.inl hg)] at q; exact q), H.norel⟩
theorem Tr.old (H : Tr Sh St Mem Lo K t) (hK : ∀ i, K i → K' i) {i : Nat} {a : Touch} {x : MemOp} (hx' : t[i]? = some x) (hxa : x.act.touch? = some a) (hm : a.loc.isMemory = true) :
    K' i ∨ (a.write = false ∧ ∃ g, (t ++ u).g? i = some g ∧ St g a.loc ∧ Lo g) ∨ (Sh a.loc ∧ a.kind = .atomic ∧ ¬ (t ++ u).heard i) :=
  (H.known i a (by rw [touchAt_of hx']; exact hxa) hm).imp (hK i) (Or.imp (fun ⟨p, g, hg, q, hl⟩ => ⟨p, g, by rw [g?_old (lt_size_of_getElem? hx')]; exact hg, q, hl⟩) (fun ⟨p, q, r⟩ => ⟨p, q, fun z => r ((heard_old (lt_size_of_getElem? hx')).1 z)⟩))
/-- Whoever does something that touches nothing. -/
theorem Tr.appMute (H : Tr Sh St Mem Lo K t) (hK : ∀ i, K i → K' i) (hn : ∀ op ∈ u, op.act.touch? = none) (hr : ∀ op ∈ u, ∀ a, op.act ≠ .mark (.release a)) : Tr Sh St Mem Lo K' (t ++ u) := by
  refine ⟨fun said => noRace_appendMute (H.clean said) hn, fun i a ha hm => ?_, fun i a ha hw g hg hS => ?_, norel_app H.norel hr⟩
  · obtain ⟨x, hx, hxa⟩ := touch_of ha
    rcases getElem?_append_cases hx with ⟨_, hx'⟩ | ⟨_, hxu⟩
    · exact H.old hK hx' hxa hm
    · rw [hn x hxu] at hxa; cases hxa
  · obtain ⟨x, hx, hxa⟩ := touch_of ha
    rcases getElem?_append_cases hx with ⟨_, hx'⟩ | ⟨_, hxu⟩
    · exact (H.wrote i a (by rw [touchAt_of hx']; exact hxa) hw g hg hS).app u
    · rw [hn x hxu] at hxa; cases hxa
/-- A reader reads its places. -/
theorem Tr.appRead (H : Tr Sh St Mem Lo K t) (hK : ∀ i, K i → K' i) (hg : Mem g) (hL : Lo g) (hu : ∀ op ∈ u, op.g = g) (hr : ∀ op ∈ u, ∀ b, op.act.touch? = some b → b.write = false ∧ St g b.loc) (hrl : ∀ op ∈ u, ∀ a, op.act ≠ .mark (.release a)) : Tr Sh St Mem Lo K' (t ++ u) := by
  refine ⟨fun said => noRace_append (H.clean said) hu fun i a ha op hop b hb hc => ?_, fun i a ha hm => ?_, fun i a ha hw g' hg' hS => ?_, norel_app H.norel hrl⟩
  · obtain ⟨hb0, hbS⟩ := hr op hop b hb
    rcases hc.2.2.1 with x | x
    · exact H.wrote i a ha x g hg (hc.1 ▸ hbS)
    · rw [hb0] at x; cases x
  · obtain ⟨x, hx, hxa⟩ := touch_of ha
    rcases getElem?_append_cases hx with ⟨_, hx'⟩ | ⟨_, hxu⟩
    · exact H.old hK hx' hxa hm
    · exact .inr (.inl ⟨(hr x hxu a hxa).1, g, by rw [g?_of hx, hu x hxu], (hr x hxu a hxa).2, hL⟩)
  · obtain ⟨x, hx, hxa⟩ := touch_of ha
    rcases getElem?_append_cases hx with ⟨_, hx'⟩ | ⟨_, hxu⟩
    · exact (H.wrote i a (by rw [touchAt_of hx']; exact hxa) hw g' hg' hS).app u
    · rw [(hr x hxu a hxa).1] at hw; cases hw
/-- The holder's own: whatever, but no write of a place that is another's to read. -/
theorem Tr.appH (H : Tr Sh St Mem Lo (Knows t h) t) (hu : ∀ op ∈ u, op.g = h) (hs : ∀ op ∈ u, ∀ b, op.act.touch? = some b → b.write = true → ∀ g, Mem g ∨ Lo g → ¬ St g b.loc)
    (hs2 : ∀ op ∈ u, ∀ b, op.act.touch? = some b → Sh b.loc → b.kind ≠ .plain) (hr : ∀ op ∈ u, ∀ a, op.act ≠ .mark (.release a)) : Tr Sh St Mem Lo (Knows (t ++ u) h) (t ++ u) := by
  refine ⟨fun said => noRace_append (H.clean said) hu fun i a ha op hop b hb hc => ?_, fun i a ha hm => ?_, fun i a ha hw g' hg' hS => ?_, norel_app H.norel hr⟩
  · rcases H.known i a ha hc.2.1 with hk | ⟨hw, g, _, hS, hl⟩ | ⟨hS, hk, _⟩
    · exact hk
    · rcases hc.2.2.1 with x | x
      · rw [hw] at x; cases x
      · exact (hs op hop b hb x g (.inr hl) (hc.1 ▸ hS)).elim
    · rcases hc.2.2.2 with x | x | x
      · rw [hk] at x; cases x
      · exact (hs2 op hop b hb (hc.1 ▸ hS) x).elim
      · rw [hk] at x; cases x.2.1
  · obtain ⟨x, hx, hxa⟩ := touch_of ha
    rcases getElem?_append_cases hx with ⟨_, hx'⟩ | ⟨_, hxu⟩
    · exact H.old (fun i => Knows.app u) hx' hxa hm
    · have := knows_own hx
      rw [hu x hxu] at this
      exact .inl this
  · obtain ⟨x, hx, hxa⟩ := touch_of ha
    rcases getElem?_append_cases hx with ⟨_, hx'⟩ | ⟨_, hxu⟩
    · exact (H.wrote i a (by rw [touchAt_of hx']; exact hxa) hw g' hg' hS).app u
    · exact (hs x hxu a hxa hw g' (.inl hg') hS).elim
/-- The holder chooses places that it will read: it knows every write of them. -/
theorem Tr.reseat (hM : ∀ g l, St' g l → l.isMemory = true) (H : Tr Sh St Mem Lo (Knows t h) t) (hs : ∀ g, g ≠ h → St' g = St g) (hL : ¬ Lo h) (hSh : ∀ l, St' h l → ¬ Sh l) : Tr Sh St' (fun g => Mem g ∨ g = h) Lo (Knows t h) t := by
  refine ⟨H.clean, fun i a ha hm => ?_, fun i a ha hw g hg q => ?_, H.norel⟩
  · rcases H.known i a ha hm with q | ⟨x, g, y, z, l⟩ | q
    · exact .inl q
    · exact .inr (.inl ⟨x, g, y, by rw [hs g (fun e => hL (e ▸ l))]; exact z, l⟩)
    · exact .inr (.inr q)
  · by_cases e : g = h
    · subst e
      rcases H.known i a ha (hM g _ q) with k | ⟨x, _⟩ | ⟨x, _⟩
      · exact k
      · rw [hw] at x; cases x
      · exact (hSh _ q x).elim
    · exact H.wrote i a ha hw g (hg.resolve_right e) (by rw [hs g e] at q; exact q)
theorem met_norel (h j : Nat) (fh : FuncId) (ph : String) (fj : FuncId) (pj : String) (c k cap : Nat) : ∀ op ∈ met h j fh ph fj pj c k cap, ∀ a, op.act ≠ .mark (.release a) := by
  intro op hop a
  simp only [met, List.mem_toArray, List.mem_cons, List.not_mem_nil, or_false] at hop
  rcases hop with rfl | rfl | rfl | rfl <;> (intro q; cases q)
/-- A send that is met: the taker holds, and is no reader any more. -/
theorem Tr.give (H : Tr Sh St Mem Lo (Knows t h) t) (hh : Deaf t h = 0) (hj : Deaf t j = 0) (fh : FuncId) (ph : String) (fj : FuncId) (pj : String) (c k cap : Nat) :
    Tr Sh St Mem (fun g => Lo g ∧ g ≠ j) (Knows (t ++ met h j fh ph fj pj c k cap) j) (t ++ met h j fh ph fj pj c k cap) := by
  have hn := met_mute h j fh ph fj pj c k cap
  have e0 : (t ++ met h j fh ph fj pj c k cap)[t.size]? = some { g := h, fn := fh, pos := ph, act := .send c k } := by simp [met]
  have e3 : (t ++ met h j fh ph fj pj c k cap)[t.size + 3]? = some { g := j, fn := fj, pos := pj, act := .recvDone c k } := by simp [met]
  have edge : HappensBefore (t ++ met h j fh ph fj pj c k cap) t.size (t.size + 3) :=
    Relation.TransGen.single (.inr ⟨.handOver (act?_of e0) (act?_of e3), ⟨h, g?_of e0, by rw [deaf_old (Nat.le_refl _)]; exact hh⟩, ⟨j, g?_of e3, by rw [deaf_quiet (met_quiet h j fh ph fj pj c k cap j) 3 (by simp [met])]; exact hj⟩⟩)
  refine ⟨fun said => noRace_appendMute (H.clean said) hn, fun i a ha hm => ?_, fun i a ha hw g hg hS => ?_, norel_app H.norel (met_norel h j fh ph fj pj c k cap)⟩
  · obtain ⟨x, hx, hxa⟩ := touch_of ha
    rcases getElem?_append_cases hx with ⟨hi, hx'⟩ | ⟨_, hxu⟩
    · rcases H.known i a (by rw [touchAt_of hx']; exact hxa) hm with hk | ⟨p, g, hg, q, hl⟩ | q
      · exact .inl ⟨t.size + 3, _, e3, rfl, .inr ((hk.hb_new (Nat.le_refl _) e0 rfl).trans edge)⟩
      · by_cases e : g = j
        · subst e
          have := knows_own hx
          rw [show x.g = g from by have := g?_of hx'; rw [hg] at this; exact (Option.some.inj this).symm] at this
          exact .inl this
        · exact .inr (.inl ⟨p, g, by rw [g?_old hi]; exact hg, q, hl, e⟩)
      · exact .inr (.inr ⟨q.1, q.2.1, fun z => q.2.2 ((heard_old hi).1 z)⟩)
    · rw [hn x hxu] at hxa; cases hxa
  · obtain ⟨x, hx, hxa⟩ := touch_of ha
    rcases getElem?_append_cases hx with ⟨_, hx'⟩ | ⟨_, hxu⟩
    · exact (H.wrote i a (by rw [touchAt_of hx']; exact hxa) hw g hg hS).app _
    · rw [hn x hxu] at hxa; cases hxa
/-- A go statement of the holder's: the child knows what the holder knows. -/
theorem Tr.hire (hM : ∀ g l, St g l → l.isMemory = true) (H : Tr Sh St Mem Lo (Knows t h) t) (hh : Deaf t h = 0) (hc0 : Deaf t c = 0) (hSh : ∀ l, St c l → ¬ Sh l) (fh : FuncId) (ph : String) (fc : FuncId) (pc : String) :
    Tr Sh St (fun g => Mem g ∨ g = c) Lo (Knows (t ++ #[{ g := h, fn := fh, pos := ph, act := .go c }, { g := c, fn := fc, pos := pc, act := .start }]) h) (t ++ #[{ g := h, fn := fh, pos := ph, act := .go c }, { g := c, fn := fc, pos := pc, act := .start }]) := by
  generalize hu : (#[{ g := h, fn := fh, pos := ph, act := .go c }, { g := c, fn := fc, pos := pc, act := .start }] : Trace) = u
  have hn : ∀ op ∈ u, op.act.touch? = none := by
    intro op hop
    subst hu
    simp only [List.mem_toArray, List.mem_cons, List.not_mem_nil, or_false] at hop
    rcases hop with rfl | rfl <;> rfl
  have hq : ∀ g, ∀ op ∈ u, ∀ d, deafStep g d op = d := by
    intro g op hop d
    subst hu
    simp only [List.mem_toArray, List.mem_cons, List.not_mem_nil, or_false] at hop
    rcases hop with rfl | rfl <;> rfl
  have e0 : (t ++ u)[t.size]? = some { g := h, fn := fh, pos := ph, act := .go c } := by subst hu; simp
  have e1 : (t ++ u)[t.size + 1]? = some { g := c, fn := fc, pos := pc, act := .start } := by subst hu; simp
  have hs : u.size = 2 := by subst hu; rfl
  have edge : HappensBefore (t ++ u) t.size (t.size + 1) :=
    Relation.TransGen.single (.inr ⟨.spawn (child := c) (act?_of e0) (act?_of e1) (g?_of e1), ⟨h, g?_of e0, by rw [deaf_old (Nat.le_refl _)]; exact hh⟩, ⟨c, g?_of e1, by rw [deaf_quiet (hq c) 1 (by omega)]; exact hc0⟩⟩)
  have H' := H.appMute (u := u) (K' := Knows (t ++ u) h) (fun i => Knows.app u) hn (by
    intro op hop a
    subst hu
    simp only [List.mem_toArray, List.mem_cons, List.not_mem_nil, or_false] at hop
    rcases hop with rfl | rfl <;> (intro q; cases q))
  refine ⟨H'.clean, H'.known, fun i a ha hw g hg hS => ?_, H'.norel⟩
  rcases hg with hg | rfl
  · exact H'.wrote i a ha hw g hg hS
  · obtain ⟨x, hx, hxa⟩ := touch_of ha
    rcases getElem?_append_cases hx with ⟨hi, hx'⟩ | ⟨_, hxu⟩
    · rcases H.known i a (by rw [touchAt_of hx']; exact hxa) (hM g _ hS) with hk | ⟨p, _⟩ | ⟨p, _⟩
      · exact ⟨t.size + 1, _, e1, rfl, .inr ((hk.hb_new (Nat.le_refl _) e0 rfl).trans edge)⟩
      · rw [hw] at p; cases p
      · exact (hSh _ hS p).elim
    · rw [hn x hxu] at hxa; cases hxa
end
end Go.Proofs.Ytfgpnfboolbbbaa
