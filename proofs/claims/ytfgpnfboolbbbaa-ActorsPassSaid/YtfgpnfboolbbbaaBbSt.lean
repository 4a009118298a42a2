/-
  What is held of the trace from the close on, till all have said Done and goroutine 0 has heard it.
-/
import Derived.Test.YtfgpnfboolbbbaaBbQt
import Derived.Conc.CrowdStepC
namespace Go.Proofs.Ytfgpnfboolbbbaa
open Go Go.Conc
structure TrS (Sh : Loc → Prop) (St : Nat → Loc → Prop) (st sm : Addr) (qc mC : Nat) (ph : Nat → Nat) (t : Trace) : Prop where
  clean : ∀ said, ¬ Race said t
  norel : ∀ i a, t.act? i ≠ some (.mark (.release a))
  known : ∀ i a, touchAt t i = some a → a.loc.isMemory = true → Knows t 0 i ∨ (a.write = false ∧ ∃ g, t.g? i = some g ∧ 6 ≤ ph g) ∨ (∃ r, t.act? r = some (.mark (.releaseMerge st)) ∧ t.heard r ∧ Before t i r) ∨
    ((Sh a.loc ∨ a.loc = .cell st ∨ a.loc = .cell sm) ∧ a.kind = .atomic ∧ ¬ t.heard i)
  wrote : ∀ i a, touchAt t i = some a → a.write = true → ∀ g, ph g = 7 → St g a.loc → Knows t g i
  plain : ∀ i a, touchAt t i = some a → (a.loc = .cell st ∨ a.loc = .cell sm) → a.kind ≠ .atomic → Knows t 0 i ∧ (a.kind = .plain → Before t i mC)
  shut : t.act? mC = some (.close qc) ∧ t.heard mC
  seen : ∀ g, 2 ≤ ph g → ph g ≤ 6 → Knows t g mC
section
variable {Sh : Loc → Prop} {St : Nat → Loc → Prop} {st sm : Addr} {qc mC : Nat} {ph ph' : Nat → Nat} {t u : Trace} {g : Nat}
theorem touch_old {i : Nat} {a : Touch} (h : touchAt (t ++ u) i = some a) (hi : i < t.size) : touchAt t i = some a := by rw [touchAt_old hi] at h; exact h
theorem size_of_act {i : Nat} {a : MemAct} (h : t.act? i = some a) : i < t.size := lt_of_act? h
theorem TrS.app (H : TrS Sh St st sm qc mC ph t) (hu : ∀ op ∈ u, op.g = g) (hr : ∀ op ∈ u, ∀ a, op.act ≠ .mark (.release a))
    (hc : ∀ i a, touchAt t i = some a → ∀ op ∈ u, ∀ b, op.act.touch? = some b → (∃ said, a.conflicts said b) → Knows t g i)
    (hk : ∀ i a, t.size ≤ i → touchAt (t ++ u) i = some a → a.loc.isMemory = true → Knows (t ++ u) 0 i ∨ (a.write = false ∧ ∃ g, (t ++ u).g? i = some g ∧ 6 ≤ ph' g) ∨ ((Sh a.loc ∨ a.loc = .cell st ∨ a.loc = .cell sm) ∧ a.kind = .atomic ∧ ¬ (t ++ u).heard i))
    (hw : ∀ op ∈ u, ∀ b, op.act.touch? = some b → b.write = true → ∀ g', ph' g' = 7 → ¬ St g' b.loc)
    (hp : ∀ op ∈ u, ∀ b, op.act.touch? = some b → (b.loc = .cell st ∨ b.loc = .cell sm) → b.kind ≠ .atomic → g = 0 ∧ b.kind ≠ .plain)
    (h6 : ∀ g', 6 ≤ ph g' → 6 ≤ ph' g') (h7 : ∀ g', ph' g' = 7 → ph g' = 7) (hC : ∀ g', 2 ≤ ph' g' → ph' g' ≤ 6 → Knows (t ++ u) g' mC) : TrS Sh St st sm qc mC ph' (t ++ u) := by
  refine ⟨fun said => noRace_append (H.clean said) hu fun i a ha op hop b hb hcf => hc i a ha op hop b hb ⟨said, hcf⟩, norel_app H.norel hr, fun i a ha hm => ?_, fun i a ha hwr g' hg hS => ?_, fun i a ha hl hk' => ?_, ?_, hC⟩
  · by_cases hi : i < t.size
    · rcases H.known i a (touch_old ha hi) hm with q | ⟨q, g', q1, q2⟩ | ⟨r, q1, q2, q3⟩ | ⟨q1, q2, q3⟩
      · exact .inl (q.app u)
      · exact .inr (.inl ⟨q, g', by rw [g?_old hi]; exact q1, h6 g' q2⟩)
      · have := size_of_act q1
        exact .inr (.inr (.inl ⟨r, by rw [act?_old this]; exact q1, (heard_old this).2 q2, q3.app u⟩))
      · exact .inr (.inr (.inr ⟨q1, q2, fun z => q3 ((heard_old hi).1 z)⟩))
    · rcases hk i a (by omega) ha hm with q | q | q
      · exact .inl q
      · exact .inr (.inl q)
      · exact .inr (.inr (.inr q))
  · by_cases hi : i < t.size
    · exact (H.wrote i a (touch_old ha hi) hwr g' (h7 g' hg) hS).app u
    · obtain ⟨x, hx, hxa⟩ := touch_of ha
      rcases getElem?_append_cases hx with ⟨q, _⟩ | ⟨_, hxu⟩
      · omega
      · exact (hw x hxu a hxa hwr g' hg hS).elim
  · by_cases hi : i < t.size
    · have := H.plain i a (touch_old ha hi) hl hk'
      exact ⟨this.1.app u, fun q => (this.2 q).app u⟩
    · obtain ⟨x, hx, hxa⟩ := touch_of ha
      rcases getElem?_append_cases hx with ⟨q, _⟩ | ⟨_, hxu⟩
      · omega
      · obtain ⟨e, h2⟩ := hp x hxu a hxa hl hk'
        have := knows_own hx
        rw [hu x hxu, e] at this
        exact ⟨this, fun q => (h2 q).elim⟩
  · have := size_of_act H.shut.1
    exact ⟨by rw [act?_old this]; exact H.shut.1, (heard_old this).2 H.shut.2⟩
theorem touch_none_new (hn : ∀ op ∈ u, op.act.touch? = none) {i : Nat} {a : Touch} (hi : t.size ≤ i) (h : touchAt (t ++ u) i = some a) : False := by
  obtain ⟨x, hx, hxa⟩ := touch_of h
  rcases getElem?_append_cases hx with ⟨q, _⟩ | ⟨_, hxu⟩
  · omega
  · rw [hn x hxu] at hxa; cases hxa
/-- Nothing is touched. -/
theorem TrS.mute (H : TrS Sh St st sm qc mC ph t) (hu : ∀ op ∈ u, op.g = g) (hn : ∀ op ∈ u, op.act.touch? = none) (hr : ∀ op ∈ u, ∀ a, op.act ≠ .mark (.release a))
    (h6 : ∀ g', 6 ≤ ph g' → 6 ≤ ph' g') (h7 : ∀ g', ph' g' = 7 → ph g' = 7) (hC : ∀ g', 2 ≤ ph' g' → ph' g' ≤ 6 → Knows (t ++ u) g' mC) : TrS Sh St st sm qc mC ph' (t ++ u) :=
  H.app hu hr (fun i a _ op hop b hb _ => by rw [hn op hop] at hb; cases hb) (fun i a hi h => (touch_none_new hn hi h).elim) (fun op hop b hb => by rw [hn op hop] at hb; cases hb) (fun op hop b hb => by rw [hn op hop] at hb; cases hb) h6 h7 hC
/-- A worker on its way reads. -/
theorem TrS.read (H : TrS Sh St st sm qc mC ph t) (hg : ph g = 7) (hu : ∀ op ∈ u, op.g = g) (hr : ∀ op ∈ u, ∀ b, op.act.touch? = some b → b.write = false ∧ St g b.loc) (hrl : ∀ op ∈ u, ∀ a, op.act ≠ .mark (.release a))
    (hap : ∀ l, St g l → l ≠ .cell st ∧ l ≠ .cell sm) : TrS Sh St st sm qc mC ph (t ++ u) := by
  refine H.app hu hrl (fun i a ha op hop b hb hc => ?_) (fun i a hi ha hm => ?_) (fun op hop b hb hw => ?_) (fun op hop b hb hl => ?_) (fun _ q => q) (fun _ q => q) (fun g' q1 q2 => (H.seen g' q1 q2).app u)
  · obtain ⟨said, hc⟩ := hc
    obtain ⟨hb0, hbS⟩ := hr op hop b hb
    rcases hc.2.2.1 with x | x
    · exact H.wrote i a ha x g hg (hc.1 ▸ hbS)
    · rw [hb0] at x; cases x
  · obtain ⟨x, hx, hxa⟩ := touch_of ha
    rcases getElem?_append_cases hx with ⟨q, _⟩ | ⟨_, hxu⟩
    · omega
    · exact .inr (.inl ⟨(hr x hxu a hxa).1, g, by rw [g?_of hx, hu x hxu], by omega⟩)
  · rw [(hr op hop b hb).1] at hw; cases hw
  · have := hap _ (hr op hop b hb).2
    exact (hl.elim this.1 this.2).elim
/-- A worker finds the channel closed. -/
theorem TrS.wake (H : TrS Sh St st sm qc mC ph t) (hd : Deaf t g = 0) (fn : FuncId) (pos : String) (h6 : ∀ g', g' ≠ g → ph' g' = ph g') (hg : ph g = 7) (hg' : ph' g = 6) : TrS Sh St st sm qc mC ph' (t ++ #[{ g := g, fn := fn, pos := pos, act := .recvClosed qc }]) := by
  have e0 : (t ++ #[({ g := g, fn := fn, pos := pos, act := .recvClosed qc } : MemOp)])[t.size]? = some { g := g, fn := fn, pos := pos, act := .recvClosed qc } := by simp
  have hlt := size_of_act H.shut.1
  have edge : HappensBefore (t ++ #[({ g := g, fn := fn, pos := pos, act := .recvClosed qc } : MemOp)]) mC t.size :=
    Relation.TransGen.single (.inr ⟨.closed (by rw [act?_old hlt]; exact H.shut.1) (act?_of e0), (heard_old hlt).2 H.shut.2, ⟨g, g?_of e0, by rw [deaf_old (Nat.le_refl _)]; exact hd⟩⟩)
  refine H.mute (g := g) (by simp) (by intro op hop; obtain rfl : op = _ := (by simpa using hop); rfl) (by intro op hop a; obtain rfl : op = _ := (by simpa using hop); simp) (fun g' q => ?_) (fun g' q => ?_) (fun g' q1 q2 => ?_)
  · by_cases e : g' = g
    · subst e; omega
    · rw [h6 g' e]; exact q
  · by_cases e : g' = g
    · subst e; omega
    · rw [h6 g' e] at q; exact q
  · by_cases e : g' = g
    · subst e
      exact ⟨t.size, _, e0, rfl, .inr edge⟩
    · rw [h6 g' e] at q1 q2
      exact (H.seen g' q1 q2).app _
/-- A worker says what it did. -/
theorem TrS.relm (H : TrS Sh St st sm qc mC ph t) (hd : Deaf t g = 0) (fn : FuncId) (pos : String) (h6 : ∀ g', g' ≠ g → ph' g' = ph g') (hg : ph g = 6) (hg' : ph' g = 5) :
    TrS Sh St st sm qc mC ph' (t ++ #[{ g := g, fn := fn, pos := pos, act := .mark (.releaseMerge st) }]) := by
  generalize hu : (#[{ g := g, fn := fn, pos := pos, act := .mark (.releaseMerge st) }] : Trace) = u
  have hn : ∀ op ∈ u, op.act.touch? = none := by intro op hop; subst hu; obtain rfl : op = _ := (by simpa using hop); rfl
  have e0 : (t ++ u)[t.size]? = some { g := g, fn := fn, pos := pos, act := .mark (.releaseMerge st) } := by subst hu; simp
  have H1 : TrS Sh St st sm qc mC ph (t ++ u) := H.mute (g := g) (by subst hu; simp) hn (by subst hu; intro op hop a; obtain rfl : op = _ := (by simpa using hop); simp) (fun _ q => q) (fun _ q => q) (fun g' q1 q2 => (H.seen g' q1 q2).app u)
  refine ⟨H1.clean, H1.norel, fun i a ha hm => ?_, fun i a ha hw g' hg2 hS => ?_, H1.plain, H1.shut, fun g' q1 q2 => ?_⟩
  · rcases H1.known i a ha hm with q | ⟨q, g', q1, q2⟩ | q | q
    · exact .inl q
    · by_cases e : g' = g
      · subst e
        have hi : i < t.size := Classical.byContradiction fun hi => touch_none_new hn (by omega) ha
        refine .inr (.inr (.inl ⟨t.size, act?_of e0, ⟨g', g?_of e0, by rw [deaf_old (Nat.le_refl _)]; exact hd⟩, .inr ?_⟩))
        obtain ⟨x, hx, hxa⟩ := touch_of ha
        have hxg : x.g = g' := by have := g?_of hx; rw [q1] at this; exact (Option.some.inj this).symm
        exact hb_po hi hx e0 hxg
      · exact .inr (.inl ⟨q, g', q1, by rw [h6 g' e]; exact q2⟩)
    · exact .inr (.inr (.inl q))
    · exact .inr (.inr (.inr q))
  · refine H1.wrote i a ha hw g' ?_ hS
    by_cases e : g' = g
    · subst e; omega
    · rw [h6 g' e] at hg2; exact hg2
  · by_cases e : g' = g
    · subst e
      exact (H1.seen g' (by omega) (by omega))
    · rw [h6 g' e] at q1 q2
      exact H1.seen g' q1 q2
end
end Go.Proofs.Ytfgpnfboolbbbaa
namespace Go.Proofs.Ytfgpnfboolbbbaa
open Go Go.Conc
/-- The group's bookkeeping: an atomic access of its two cells, or a word that touches nothing. -/
def BkS (st sm : Addr) (e : Event) : Prop := (e = ⟨.mark .disable, false, true⟩ ∨ e = ⟨.mark .enable, false, true⟩) ∨ ∃ a wr, e = ⟨.cell a, wr, true⟩ ∧ (a = st ∨ a = sm)
section
variable {Sh : Loc → Prop} {St St' : Nat → Loc → Prop} {Mem Lo : Nat → Prop} {st sm : Addr} {qc mC : Nat} {ph ph' : Nat → Nat} {t u : Trace} {g : Nat} {fn : FuncId} {pos : String} {es : Array Event}
theorem BkS.touch {e : Event} (h : BkS st sm e) {x : Touch} (hx : (MemAct.ofEvent e).touch? = some x) : (x.loc = .cell st ∨ x.loc = .cell sm) ∧ x.kind = .atomic := by
  rcases h with (rfl | rfl) | ⟨a, wr, rfl, ha⟩
  · cases hx
  · cases hx
  · rw [ofEvent_cell0] at hx
    simp only [MemAct.touch?, Option.some.injEq] at hx
    subst hx
    exact ⟨ha.imp (fun e => by rw [e]) (fun e => by rw [e]), rfl⟩
theorem BkS.norel {e : Event} (h : BkS st sm e) (a : Addr) : MemAct.ofEvent e ≠ .mark (.release a) := by
  rcases h with (rfl | rfl) | ⟨a, wr, rfl, ha⟩
  · intro q; cases q
  · intro q; cases q
  · intro q; rw [ofEvent_cell0] at q; cases q
theorem ofEvents_g : ∀ op ∈ MemOp.ofEvents g fn pos es, op.g = g := fun op hop => by obtain ⟨e, _, rfl⟩ := Go.Conc.mem_ofEvents hop; rfl
/-- A worker's, deaf. -/
theorem TrS.book (H : TrS Sh St st sm qc mC ph t) (hes : ∀ e ∈ es, BkS st sm e) (hd : ∀ j e, es[j]? = some e → (MemAct.ofEvent e).touch? = none ∨ 0 < deafBehind (Deaf t g) (es.extract 0 j))
    (hg : 2 ≤ ph g ∧ ph g ≤ 5) (h6 : ∀ g', g' ≠ g → ph' g' = ph g') (hg' : ph' g ≤ 5) (hap : ∀ g l, St g l → l ≠ .cell st ∧ l ≠ .cell sm) : TrS Sh St st sm qc mC ph' (t ++ MemOp.ofEvents g fn pos es) := by
  refine H.app ofEvents_g (fun op hop a => ?_) (fun i a ha op hop b hb hc => ?_) (fun i a hi ha hm => ?_) (fun op hop b hb hw g' _ hS => ?_) (fun op hop b hb hl hk => ?_) (fun g' q => ?_) (fun g' q => ?_) (fun g' q1 q2 => ?_)
  · obtain ⟨e, he, rfl⟩ := Go.Conc.mem_ofEvents hop
    exact (hes e he).norel a
  · obtain ⟨e, he, rfl⟩ := Go.Conc.mem_ofEvents hop
    obtain ⟨h1, h2⟩ := (hes e he).touch hb
    obtain ⟨said, hc⟩ := hc
    have hpl : a.kind = .plain := by
      rcases hc.2.2.2 with x | x | x
      · exact x
      · rw [h2] at x; cases x
      · rw [h2] at x; cases x.2.2
    exact Knows.of_before ((H.plain i a ha (by rw [hc.1]; exact h1) (by rw [hpl]; simp)).2 hpl) (H.seen g hg.1 (by omega))
  · obtain ⟨x, hx, hxa⟩ := touch_of ha
    rcases getElem?_append_cases hx with ⟨q, _⟩ | ⟨_, hxu⟩
    · omega
    · obtain ⟨e0, he0, rfl⟩ := Go.Conc.mem_ofEvents hxu
      obtain ⟨h1, h2⟩ := (hes e0 he0).touch hxa
      refine .inr (.inr ⟨.inr h1, h2, fun hh => ?_⟩)
      have hxi : (MemOp.ofEvents g fn pos es)[i - t.size]? = some { g := g, fn := fn, pos := pos, act := .ofEvent e0 } := by
        rw [Array.getElem?_append_right hi] at hx
        exact hx
      rw [ofEvents_eq, Array.getElem?_map] at hxi
      obtain ⟨e1, he1, hq⟩ := Option.map_eq_some_iff.1 hxi
      simp only [MemOp.mk.injEq, true_and] at hq
      have hjs : i - t.size ≤ es.size := by
        rcases Nat.lt_or_ge (i - t.size) es.size with h' | h'
        · omega
        · rw [Array.getElem?_eq_none h'] at he1; cases he1
      rcases hd _ e1 he1 with h0 | h0
      · rw [hq, hxa] at h0; cases h0
      · obtain ⟨g', hg1, hg2⟩ := hh
        have : g' = g := by rw [g?_of hx] at hg1; exact (Option.some.inj hg1).symm
        subst this
        have h3 := deaf_inside t g' fn pos es (i - t.size) hjs
        rw [show t.size + (i - t.size) = i by omega, hg2] at h3
        omega
  · obtain ⟨e, he, rfl⟩ := Go.Conc.mem_ofEvents hop
    obtain ⟨h1, _⟩ := (hes e he).touch hb
    have := hap g' _ hS
    exact h1.elim this.1 this.2
  · obtain ⟨e, he, rfl⟩ := Go.Conc.mem_ofEvents hop
    exact (hk ((hes e he).touch hb).2).elim
  · by_cases e : g' = g
    · subst e; omega
    · rw [h6 g' e]; exact q
  · by_cases e : g' = g
    · subst e; omega
    · rw [h6 g' e] at q; exact q
  · by_cases e : g' = g
    · subst e; exact (H.seen g' hg.1 (by omega)).app _
    · rw [h6 g' e] at q1 q2; exact (H.seen g' q1 q2).app _
/-- Goroutine 0's. -/
theorem TrS.main (H : TrS Sh St st sm qc mC ph t) (hes : ∀ e ∈ es, BkS st sm e ∨ e = ⟨.mark (.write sm), false, true⟩) (hap : ∀ g l, St g l → l ≠ .cell st ∧ l ≠ .cell sm) : TrS Sh St st sm qc mC ph (t ++ MemOp.ofEvents 0 fn pos es) := by
  have key : ∀ e ∈ es, ∀ x, (MemAct.ofEvent e).touch? = some x → (x.loc = .cell st ∨ x.loc = .cell sm) ∧ x.kind ≠ .plain := fun e he x hx => by
    rcases hes e he with h | rfl
    · exact ⟨(h.touch hx).1, by rw [(h.touch hx).2]; simp⟩
    · simp only [MemAct.ofEvent, MemAct.touch?, Option.some.injEq] at hx
      subst hx
      exact ⟨.inr rfl, by simp⟩
  refine H.app ofEvents_g (fun op hop a => ?_) (fun i a ha op hop b hb hc => ?_) (fun i a hi ha hm => ?_) (fun op hop b hb hw g' _ hS => ?_) (fun op hop b hb hl hk => ?_) (fun g' q => q) (fun g' q => q) (fun g' q1 q2 => (H.seen g' q1 q2).app _)
  · obtain ⟨e, he, rfl⟩ := Go.Conc.mem_ofEvents hop
    rcases hes e he with h | rfl
    · exact h.norel a
    · intro q; cases q
  · obtain ⟨e, he, rfl⟩ := Go.Conc.mem_ofEvents hop
    obtain ⟨h1, h2⟩ := key e he b hb
    obtain ⟨said, hc⟩ := hc
    refine (H.plain i a ha (by rw [hc.1]; exact h1) (fun hk => ?_)).1
    rcases hc.2.2.2 with x | x | x
    · rw [hk] at x; cases x
    · exact h2 x
    · rw [hk] at x; cases x.2.1
  · obtain ⟨x, hx, hxa⟩ := touch_of ha
    rcases getElem?_append_cases hx with ⟨q, _⟩ | ⟨_, hxu⟩
    · omega
    · have := knows_own hx
      rw [ofEvents_g x hxu] at this
      exact .inl this
  · obtain ⟨e, he, rfl⟩ := Go.Conc.mem_ofEvents hop
    obtain ⟨h1, _⟩ := key e he b hb
    have := hap g' _ hS
    exact h1.elim this.1 this.2
  · obtain ⟨e, he, rfl⟩ := Go.Conc.mem_ofEvents hop
    exact ⟨rfl, (key e he b hb).2⟩
/-- Goroutine 0 closes the channel. -/
theorem TrS.start (H : Tr Sh St Mem Lo (Knows t 0) t) (hd : Deaf t 0 = 0) (hSt : ∀ g l, St g l → ∃ a, l = .cell a) (hShc : ∀ l, Sh l → ∃ a, l = .cell a) (hL : ∀ g, Lo g → ph g = 7) (hM : ∀ g, ph g = 7 → Mem g) (h26 : ∀ g, ¬ (2 ≤ ph g ∧ ph g ≤ 6))
    (hap : ∀ g l, St g l → l ≠ .cell st ∧ l ≠ .cell sm) (hns : ¬ Sh (.cell st) ∧ ¬ Sh (.cell sm)) : TrS Sh St st sm qc (t.size + 1) ph (t ++ MemOp.ofEvents 0 fn pos (closeEvents qc)) := by
  have hu : MemOp.ofEvents 0 fn pos (closeEvents qc) = #[{ g := 0, fn := fn, pos := pos, act := .access ⟨.obj qc, false, true⟩ }, { g := 0, fn := fn, pos := pos, act := .close qc }] := by
    rw [ofEvents_eq]; simp [closeEvents, MemAct.ofEvent]
  have hmem : ∀ op ∈ MemOp.ofEvents 0 fn pos (closeEvents qc), ∀ b, op.act.touch? = some b → b.loc = .obj qc ∧ b.kind = .atomic ∧ b.write = false := by
    intro op hop b hb
    rw [hu] at hop
    simp only [List.mem_toArray, List.mem_cons, List.not_mem_nil, or_false] at hop
    rcases hop with rfl | rfl
    · simp only [MemAct.touch?, Option.some.injEq] at hb
      subst hb
      exact ⟨rfl, rfl, rfl⟩
    · cases hb
  have H1 := H.appH (u := MemOp.ofEvents 0 fn pos (closeEvents qc)) ofEvents_g (fun op hop b hb hw => by rw [(hmem op hop b hb).2.2] at hw; cases hw) (fun op hop b hb _ => by rw [(hmem op hop b hb).2.1]; simp) (by
    intro op hop a
    rw [hu] at hop
    simp only [List.mem_toArray, List.mem_cons, List.not_mem_nil, or_false] at hop
    rcases hop with rfl | rfl <;> simp)
  have e1 : (t ++ MemOp.ofEvents 0 fn pos (closeEvents qc))[t.size + 1]? = some { g := 0, fn := fn, pos := pos, act := .close qc } := by
    rw [hu, Array.getElem?_append_right (by omega)]; simp
  have hdis : ∀ op ∈ MemOp.ofEvents 0 fn pos (closeEvents qc), ∀ d, deafStep 0 d op = d := by
    intro op hop d
    rw [hu] at hop
    simp only [List.mem_toArray, List.mem_cons, List.not_mem_nil, or_false] at hop
    rcases hop with rfl | rfl <;> rfl
  refine ⟨H1.clean, H1.norel, fun i a ha hm => ?_, fun i a ha hw g hg hS => H1.wrote i a ha hw g (hM g hg) hS, fun i a ha hl hk => ?_, ⟨act?_of e1, 0, g?_of e1, by rw [deaf_quiet hdis 1 (by rw [hu]; simp)]; exact hd⟩, fun g q1 q2 => (h26 g ⟨q1, q2⟩).elim⟩
  · rcases H1.known i a ha hm with q | ⟨q, g, q1, q2, q3⟩ | ⟨q1, q2, q3⟩
    · exact .inl q
    · exact .inr (.inl ⟨q, g, q1, by have := hL g q3; omega⟩)
    · exact .inr (.inr (.inr ⟨.inl q1, q2, q3⟩))
  · have hmm : a.loc.isMemory = true := by rcases hl with e | e <;> rw [e] <;> rfl
    by_cases hi : i < t.size
    · have hkn : Knows t 0 i := by
        rcases H.known i a (touch_old ha hi) hmm with q | ⟨_, g, _, q2, _⟩ | ⟨q1, _⟩
        · exact q
        · have := hap g _ q2; exact (hl.elim this.1 this.2).elim
        · rcases hl with e | e <;> rw [e] at q1
          · exact (hns.1 q1).elim
          · exact (hns.2 q1).elim
      exact ⟨hkn.app _, fun _ => .inr (hkn.hb_new (by omega) e1 rfl)⟩
    · obtain ⟨x, hx, hxa⟩ := touch_of ha
      rcases getElem?_append_cases hx with ⟨q, _⟩ | ⟨_, hxu⟩
      · omega
      · rw [(hmem x hxu a hxa).1] at hl
        rcases hl with e | e <;> cases e
/-- Goroutine 0 hears that all have said Done. -/
theorem TrS.done (H : TrS Sh St st sm qc mC ph t) (hd : Deaf t 0 = 0) (hall : ∀ g, ph g ≤ 1) : Tr (fun l => Sh l ∨ l = .cell st ∨ l = .cell sm) St' (fun _ => False) (fun _ => False) (Knows (t ++ #[{ g := 0, fn := fn, pos := pos, act := .mark (.acquire st) }]) 0) (t ++ #[{ g := 0, fn := fn, pos := pos, act := .mark (.acquire st) }]) := by
  generalize hu : (#[{ g := 0, fn := fn, pos := pos, act := .mark (.acquire st) }] : Trace) = u
  have hn : ∀ op ∈ u, op.act.touch? = none := by intro op hop; subst hu; obtain rfl : op = _ := (by simpa using hop); rfl
  have e0 : (t ++ u)[t.size]? = some { g := 0, fn := fn, pos := pos, act := .mark (.acquire st) } := by subst hu; simp
  have hnr : ∀ i a, (t ++ u).act? i ≠ some (.mark (.release a)) := norel_app H.norel (by subst hu; intro op hop a; obtain rfl : op = _ := (by simpa using hop); simp)
  refine ⟨fun said => noRace_appendMute (H.clean said) hn, fun i a ha hm => ?_, fun i a _ _ g hg => hg.elim, hnr⟩
  have hi : i < t.size := Classical.byContradiction fun hi => touch_none_new hn (by omega) ha
  rcases H.known i a (touch_old ha hi) hm with q | ⟨_, g, _, q2⟩ | ⟨r, q1, q2, q3⟩ | ⟨q1, q2, q3⟩
  · exact .inl (q.app u)
  · have := hall g; omega
  · have hr := size_of_act q1
    have edge : HappensBefore (t ++ u) r t.size := Relation.TransGen.single (.inr ⟨.marked hr (.inr (by rw [act?_old hr]; exact q1)) (act?_of e0) (fun k _ _ => hnr k st), (heard_old hr).2 q2, ⟨0, g?_of e0, by rw [deaf_old (Nat.le_refl _)]; exact hd⟩⟩)
    exact .inl ⟨t.size, _, e0, rfl, .inr ((q3.app u).hb edge)⟩
  · exact .inr (.inr ⟨q1, q2, fun z => q3 ((heard_old hi).1 z)⟩)
end
end Go.Proofs.Ytfgpnfboolbbbaa
namespace Go.Proofs.Ytfgpnfboolbbbaa
open Go Go.Conc
open Go.ConcN (sumTo upd sumTo_upd upd_ne upd_same le_sumTo sumTo_congr sumTo_le)
abbrev K32 : Int := 4294967296
/-- The group's two cells are there. -/
def KS (st sm : Addr) : World → Prop := fun w => (w.cell? st).isSome = true ∧ (w.cell? sm).isSome = true
section
variable (P : Program) (st sm : Addr) (Fin : Goroutine → Prop)
/-! ## A worker -/
def AtSem (k : Nat) (g : Goroutine) : Prop := g.status = .running ∧ mayWake P g = true ∧ 1 ≤ k ∧ ∃ g', Qt P false KT Ended k g' ∧
  ∀ (w : World) (s : Int), w.cell? sm = some (.int .u32 s) → w.frozen? sm = false → stepG P false g w = .go g' (w.setCell sm (.int .u32 (IntKind.u32.wrap (s + 1)))) (semEvents sm)
def AtStore (k : Nat) (g : Goroutine) : Prop := g.status = .running ∧ 1 ≤ k ∧ ∃ g', Qt P false (KS st sm) (AtSem P sm) k g' ∧
  ∀ (w : World) (u : Value), w.cell? st = some u → w.frozen? st = false → stepG P false g w = .go g' (w.setCell st (.int .u64 0)) #[⟨.cell st, true, true⟩]
def AtLoad (k : Nat) (g : Goroutine) : Prop := g.status = .running ∧ 1 ≤ k ∧ ∃ g', Qt P false (KS st sm) (AtStore P st sm) k g' ∧
  ∀ w : World, w.cell? st = some (.int .u64 1) → stepG P false g w = .go g' w #[⟨.cell st, false, true⟩]
def AtAdd (k : Nat) (g : Goroutine) : Prop := g.status = .running ∧ 1 ≤ k ∧ ∀ v wt : Nat, v < 2147483647 → wt ≤ 1 → ∃ g', (if v = 0 ∧ wt = 1 then Qt P false (KS st sm) (AtLoad P st sm) k g' else Qt P false KT Ended k g') ∧
  ∀ w : World, w.cell? st = some (.int .u64 (((v + 1 : Nat) : Int) * K32 + (wt : Int))) → w.frozen? st = false → stepG P false g w = .go g' (w.setCell st (.int .u64 ((v : Int) * K32 + (wt : Int)))) #[⟨.cell st, false, true⟩, ⟨.cell st, true, true⟩]
def AtRelm (k : Nat) (g : Goroutine) : Prop := g.status = .running ∧ k = 0 ∧ ∃ g', Qt P false (KS st sm) (AtAdd P st sm) 0 g' ∧ ∀ w : World, stepG P false g w = .go g' w #[⟨.mark (.releaseMerge st), false, true⟩]
/-! ## Goroutine 0 -/
def AtAcq (k : Nat) (g : Goroutine) : Prop := g.status = .running ∧ k = 0 ∧ ∃ g', Fin g' ∧ ∀ w : World, stepG P true g w = .go g' w #[⟨.mark (.acquire st), false, true⟩]
def AtLd2 (k : Nat) (g : Goroutine) : Prop := g.status = .running ∧ ∃ g', Qt P true (KS st sm) (AtAcq P st Fin) k g' ∧ ∀ w : World, w.cell? st = some (.int .u64 0) → stepG P true g w = .go g' w #[⟨.cell st, false, true⟩]
def AtSa (k : Nat) (g : Goroutine) : Prop := g.status = .running ∧ g.offers = none ∧ ∃ g', Qt P true (KS st sm) (AtLd2 P st sm Fin) k g' ∧
  (∀ w : World, w.cell? sm = some (.int .u32 1) → w.frozen? sm = false → stepG P true g w = .go g' (w.setCell sm (.int .u32 0)) (semEvents sm)) ∧
  (∀ w : World, w.cell? sm = some (.int .u32 0) → stepG P true g w = .go { g with status := .blocked } w #[])
def AtMk (k : Nat) (g : Goroutine) : Prop := g.status = .running ∧ ∃ g', Qt P true (KS st sm) (AtSa P st sm Fin) k g' ∧ ∀ w : World, stepG P true g w = .go g' w #[⟨.mark (.write sm), false, true⟩]
def AtCas (Ld : Nat → Goroutine → Prop) (v k : Nat) (g : Goroutine) : Prop := g.status = .running ∧
  (∃ g', Qt P true (KS st sm) (AtMk P st sm Fin) k g' ∧ ∀ w : World, w.cell? st = some (.int .u64 ((v : Int) * K32)) → w.frozen? st = false → stepG P true g w = .go g' (w.setCell st (.int .u64 ((v : Int) * K32 + 1))) #[⟨.cell st, false, true⟩, ⟨.cell st, true, true⟩]) ∧
  (∃ g', Qt P true (KS st sm) Ld k g' ∧ ∀ (w : World) (u : Nat), u < v → w.cell? st = some (.int .u64 ((u : Int) * K32)) → w.frozen? st = false → stepG P true g w = .go g' w #[⟨.cell st, false, true⟩])
def AtLd : Nat → Nat → Goroutine → Prop
  | 0 => fun k g => g.status = .running ∧ ∃ g', Qt P true (KS st sm) (AtAcq P st Fin) k g' ∧ ∀ w : World, w.cell? st = some (.int .u64 0) → stepG P true g w = .go g' w #[⟨.cell st, false, true⟩]
  | m + 1 => fun k g => (g.status = .running ∧ ∃ g', Qt P true (KS st sm) (AtAcq P st Fin) k g' ∧ ∀ w : World, w.cell? st = some (.int .u64 0) → stepG P true g w = .go g' w #[⟨.cell st, false, true⟩]) ∧
    ∀ v : Nat, 1 ≤ v → v ≤ m + 1 → ∃ g', Qt P true (KS st sm) (AtCas P st sm Fin (AtLd m) v) k g' ∧ ∀ w : World, w.cell? st = some (.int .u64 ((v : Int) * K32)) → stepG P true g w = .go g' w #[⟨.cell st, false, true⟩]
theorem AtLd.zero {m k : Nat} {g : Goroutine} (h : AtLd P st sm Fin m k g) : g.status = .running ∧ ∃ g', Qt P true (KS st sm) (AtAcq P st Fin) k g' ∧ ∀ w : World, w.cell? st = some (.int .u64 0) → stepG P true g w = .go g' w #[⟨.cell st, false, true⟩] := by
  cases m with
  | zero => exact h
  | succ m => exact h.1
inductive Tag where
  | ld (m : Nat) | cas (m v : Nat) | mk | sa | ld2 | acq
def Tag.stop : Tag → Nat → Goroutine → Prop
  | .ld m => AtLd P st sm Fin m
  | .cas m v => AtCas P st sm Fin (AtLd P st sm Fin m) v
  | .mk => AtMk P st sm Fin
  | .sa => AtSa P st sm Fin
  | .ld2 => AtLd2 P st sm Fin
  | .acq => AtAcq P st Fin
def Tag.rank (v : Nat) : Tag → Nat
  | .ld _ => 8 * v + 7
  | .cas _ vs => 8 * vs + 6
  | .mk => 7
  | .sa => 5
  | .ld2 => 3
  | .acq => 2
theorem Tag.running {t : Tag} {k : Nat} {g : Goroutine} (h : t.stop P st sm Fin k g) : g.status = .running := by
  cases t with
  | ld m => exact (AtLd.zero P st sm Fin h).1
  | cas m v => exact h.1
  | mk => exact h.1
  | sa => exact h.1
  | ld2 => exact h.1
  | acq => exact h.1
/-- Goroutine 0's situation. -/
def MSit (t : Tag) (f k : Nat) (a : Goroutine) : Prop := (∃ n, f = n + 1 ∧ Qs P true (KS st sm) (t.stop P st sm Fin) n k a) ∨ (t = .sa ∧ f = 0 ∧ ∃ a₀, a = { a₀ with status := .blocked } ∧ AtSa P st sm Fin k a₀)
/-- A worker's. -/
def WSit (Inb : Nat → Option Chair) (i ph f k : Nat) (g : Goroutine) : Prop :=
  (ph = 7 ∧ k = 0 ∧ ∃ ch, Inb i = some ch ∧ ∃ n w, f = n + 1 ∧ Goes P false (RK ch.K) (DS ch.St ch.B) (fun g _ => ∃ g₂, AtIn P false ch.K ch.St ch.B ch.seat g g₂) n g w) ∨
  (ph = 6 ∧ ∃ n, f = n + 1 ∧ Qs P false (KS st sm) (AtRelm P st sm) n k g) ∨ (ph = 5 ∧ ∃ n, f = n + 1 ∧ Qs P false (KS st sm) (AtAdd P st sm) n k g) ∨ (ph = 4 ∧ ∃ n, f = n + 1 ∧ Qs P false (KS st sm) (AtLoad P st sm) n k g) ∨
  (ph = 3 ∧ ∃ n, f = n + 1 ∧ Qs P false (KS st sm) (AtStore P st sm) n k g) ∨ (ph = 2 ∧ ∃ n, f = n + 1 ∧ Qs P false (KS st sm) (AtSem P sm) n k g) ∨ (ph = 1 ∧ QuitsD P f k g)
end
/-- How many have not said Done. -/
def cntS (ph : Nat) : Nat := if 5 ≤ ph then 1 else 0
def VcS (n : Nat) (ph : Nat → Nat) : Nat := sumTo n fun i => cntS (ph i)
def OpenS (n : Nat) (ph : Nat → Nat) : Prop := ∀ i, 0 < i → i < n → ph i = 7 ∨ ph i = 6 ∨ ph i = 5 ∨ ph i = 1
def AllS (n : Nat) (ph : Nat → Nat) : Prop := ∀ i, 0 < i → i < n → ph i = 1
def Tag.opn (v : Nat) : Tag → Prop
  | .ld m => v ≤ m
  | .cas m vs => v ≤ vs ∧ 1 ≤ vs ∧ vs ≤ m + 1
  | _ => False
def Tag.reg : Tag → Prop
  | .mk | .sa => True
  | _ => False
def Tag.fin : Tag → Prop
  | .ld2 | .acq => True
  | _ => False
/-- What the two cells hold. -/
inductive ModeS (n : Nat) (ph : Nat → Nat) (t : Tag) : Int → Int → Prop
  | opn : t.opn (VcS n ph) → OpenS n ph → ModeS n ph t ((VcS n ph : Int) * K32) 0
  | reg : t.reg → OpenS n ph → 1 ≤ VcS n ph → ModeS n ph t ((VcS n ph : Int) * K32 + 1) 0
  | last (L : Nat) : t.reg → 0 < L → L < n → (ph L = 4 ∨ ph L = 3 ∨ ph L = 2) → (∀ i, 0 < i → i < n → i ≠ L → ph i = 1) → ModeS n ph t (if ph L = 2 then 0 else 1) 0
  | sema : t.reg → AllS n ph → ModeS n ph t 0 1
  | fin : t.fin → AllS n ph → ModeS n ph t 0 0
section
variable {n i : Nat} {ph : Nat → Nat} {t : Tag} {x y : Int}
theorem VcS_le (n : Nat) (ph : Nat → Nat) : VcS n ph ≤ n := by
  have := sumTo_le (f := fun i => cntS (ph i)) (c := 1) (j := n) fun i _ => by simp only [cntS]; split <;> omega
  simpa [VcS] using this
theorem VcS_upd (ph : Nat → Nat) (p : Nat) (hi : i < n) : VcS n (upd ph i p) + cntS (ph i) = VcS n ph + cntS p := sumTo_upd ph p cntS hi
theorem VcS_all (h0 : ph 0 = 0) (h : AllS n ph) : VcS n ph = 0 := by
  have : ∀ j, j ≤ n → sumTo j (fun i => cntS (ph i)) = 0 := by
    intro j
    induction j with
    | zero => exact fun _ => rfl
    | succ j ih =>
      intro hj
      rw [sumTo, ih (by omega)]
      by_cases e : j = 0
      · subst e; simp [cntS, h0]
      · simp [cntS, h j (by omega) (by omega)]
  exact this n (Nat.le_refl _)
theorem AllS.of_open (h : OpenS n ph) (hv : VcS n ph = 0) : AllS n ph := fun i h0 hi => by
  have := le_sumTo (f := fun i => cntS (ph i)) hi
  simp only [VcS] at hv
  have c0 : cntS (ph i) = 0 := by omega
  have := h i h0 hi
  simp only [cntS] at c0
  split at c0 <;> omega
/-- A worker that is still counted goes on, and is still counted. -/
theorem ModeS.counted (hm : ModeS n ph t x y) (h0 : 0 < i) (hi : i < n) (h5 : 5 ≤ ph i) {p : Nat} (hp : p = 6 ∨ p = 5) : ModeS n (upd ph i p) t x y := by
  have hv : VcS n (upd ph i p) = VcS n ph := by
    have := VcS_upd ph p hi
    have c1 : cntS (ph i) = 1 := by simp [cntS, h5]
    have c2 : cntS p = 1 := by rcases hp with rfl | rfl <;> simp [cntS]
    omega
  have ho : OpenS n ph → OpenS n (upd ph i p) := fun h a h1 ha => by
    by_cases e : a = i
    · subst e; rw [upd_same]; rcases hp with rfl | rfl <;> simp
    · rw [upd_ne ph _ e]; exact h a h1 ha
  cases hm with
  | opn h1 h2 => rw [← hv]; exact .opn (by rw [hv]; exact h1) (ho h2)
  | reg h1 h2 h3 => rw [← hv]; exact .reg h1 (ho h2) (by rw [hv]; exact h3)
  | last L h1 h2 h3 h4 h5' =>
    by_cases e : i = L
    · subst e; omega
    · have := h5' i h0 hi e; omega
  | sema h1 h2 => have := h2 i h0 hi; omega
  | fin h1 h2 => have := h2 i h0 hi; omega
/-- What a worker that is counted meets at its Add. -/
theorem ModeS.atAdd (hm : ModeS n ph t x y) (hp0 : ph 0 = 0) (h0 : 0 < i) (hi : i < n) (h5 : ph i = 5) : ∃ v wt : Nat, VcS n ph = v + 1 ∧ wt ≤ 1 ∧ x = ((v + 1 : Nat) : Int) * K32 + (wt : Int) ∧ y = 0 ∧
    ∀ p, (p = if v = 0 ∧ wt = 1 then 4 else 1) → ModeS n (upd ph i p) t ((v : Int) * K32 + (wt : Int)) 0 := by
  have c1 : cntS (ph i) = 1 := by simp [cntS, h5]
  have hge : 1 ≤ VcS n ph := by
    have := le_sumTo (f := fun i => cntS (ph i)) hi
    simp only [VcS]; omega
  obtain ⟨v, hv⟩ : ∃ v, VcS n ph = v + 1 := ⟨VcS n ph - 1, by omega⟩
  have hv' : ∀ p, p ≤ 4 → VcS n (upd ph i p) = v := fun p hp => by
    have := VcS_upd ph p hi
    have c2 : cntS p = 0 := by simp only [cntS]; split <;> omega
    omega
  have ho : OpenS n ph → OpenS n (upd ph i 1) := fun h a h1 ha => by
    by_cases e : a = i
    · subst e; rw [upd_same]; simp
    · rw [upd_ne ph _ e]; exact h a h1 ha
  cases hm with
  | opn h1 h2 =>
    refine ⟨v, 0, hv, by omega, by rw [hv]; simp, rfl, fun p hp => ?_⟩
    rw [if_neg (by omega)] at hp
    subst hp
    have e := hv' 1 (by omega)
    have hm : ModeS n (upd ph i 1) t ((VcS n (upd ph i 1) : Int) * K32) 0 := .opn (by
      rw [e]
      rw [hv] at h1
      cases t <;> simp only [Tag.opn] at h1 ⊢ <;> omega) (ho h2)
    rw [e] at hm
    simpa using hm
  | reg h1 h2 h3 =>
    refine ⟨v, 1, hv, by omega, by rw [hv]; rfl, rfl, fun p hp => ?_⟩
    by_cases e0 : v = 0
    · subst e0
      simp at hp
      subst hp
      have hm : ModeS n (upd ph i 4) t (if (upd ph i 4) i = 2 then 0 else 1) 0 := .last i h1 h0 hi (by rw [upd_same]; simp) (fun a ha1 ha e => by
        rw [upd_ne ph _ e]
        have h1' := hv' 4 (by omega)
        have h2' := le_sumTo (f := fun j => cntS (upd ph i 4 j)) ha
        simp only [upd_ne ph _ e] at h2'
        simp only [VcS] at h1'
        have := h2 a ha1 ha
        have c0 : cntS (ph a) = 0 := by omega
        simp only [cntS] at c0
        split at c0 <;> omega)
      rw [upd_same] at hm
      simpa using hm
    · rw [if_neg (by omega)] at hp
      subst hp
      have e := hv' 1 (by omega)
      have hm : ModeS n (upd ph i 1) t ((VcS n (upd ph i 1) : Int) * K32 + 1) 0 := .reg h1 (ho h2) (by omega)
      rw [e] at hm
      exact hm
  | last L h1 h2 h3 h4 h5' =>
    by_cases e : i = L
    · subst e; omega
    · have := h5' i h0 hi e; omega
  | sema h1 h2 => have := h2 i h0 hi; omega
  | fin h1 h2 => have := h2 i h0 hi; omega
/-- Whoever is past its Add, but not gone, is the last one. -/
theorem ModeS.isLast (hm : ModeS n ph t x y) (h0 : 0 < i) (hi : i < n) (h : ph i = 4 ∨ ph i = 3 ∨ ph i = 2) : t.reg ∧ (∀ a, 0 < a → a < n → a ≠ i → ph a = 1) ∧ x = (if ph i = 2 then 0 else 1) ∧ y = 0 := by
  cases hm with
  | opn _ h2 => have := h2 i h0 hi; omega
  | reg _ h2 _ => have := h2 i h0 hi; omega
  | last L h1 h2 h3 h4 h5 =>
    by_cases e : i = L
    · subst e; exact ⟨h1, h5, rfl, rfl⟩
    · have := h5 i h0 hi e; omega
  | sema _ h2 => have := h2 i h0 hi; omega
  | fin _ h2 => have := h2 i h0 hi; omega
theorem ModeS.next (h1 : t.reg) (h : ∀ a, 0 < a → a < n → a ≠ i → ph a = 1) (h0 : 0 < i) (hi : i < n) {p : Nat} (hp : p = 4 ∨ p = 3 ∨ p = 2) : ModeS n (upd ph i p) t (if p = 2 then 0 else 1) 0 := by
  have hm : ModeS n (upd ph i p) t (if (upd ph i p) i = 2 then 0 else 1) 0 := .last i h1 h0 hi (by rw [upd_same]; exact hp) (fun a ha1 ha e => by rw [upd_ne ph _ e]; exact h a ha1 ha e)
  rw [upd_same] at hm
  exact hm
theorem ModeS.gone (h1 : t.reg) (h : ∀ a, 0 < a → a < n → a ≠ i → ph a = 1) : ModeS n (upd ph i 1) t 0 1 := .sema h1 fun a ha1 ha => by
  by_cases e : a = i
  · subst e; rw [upd_same]
  · rw [upd_ne ph _ e]; exact h a ha1 ha e
end
end Go.Proofs.Ytfgpnfboolbbbaa
namespace Go.Proofs.Ytfgpnfboolbbbaa
open Go Go.Conc
open Go.ConcN (sumTo upd sumTo_upd upd_ne upd_same le_sumTo sumTo_congr sumTo_le)
structure CtxS (P : Program) (Sh : Loc → Prop) (Inb : Nat → Option Chair) (st sm : Addr) (qc n : Nat) (w0 : World) : Prop where
  ne : st ≠ sm
  spot : st.spot = none ∧ sm.spot = none
  cst : (w0.cell? st).isSome = true
  csm : (w0.cell? sm).isSome = true
  zst : w0.frozen? st = false
  zsm : w0.frozen? sm = false
  place : ∀ g l, StOf Inb g l → l ≠ .cell st ∧ l ≠ .cell sm
  keep : ∀ i ch, Inb i = some ch → ch.K w0
  wf : ∀ i ch, Inb i = some ch → ch.seat.Wf
  chan : ∀ i ch c, Inb i = some ch → ch.seat.has c → c = qc ∨ ∃ cap k, w0.heap[c]? = some (.chan cap #[] false k k false)
  quit : ∃ cap k, w0.heap[qc]? = some (.chan cap #[] true k k false)
  wakes : ∀ i ch, Inb i = some ch → ∃ (kk : Nat) (z : Value), ch.seat.cases[kk]? = some (rcase qc z) ∧ ∀ g, ch.seat.home g → Qt P false (KS st sm) (AtRelm P st sm) 0 (Go.Conc.served g (commResult ch.seat.cases ch.seat.shape kk z false))
  small : n < 2147483647
/-- The world, but for the group's two cells and the draws. -/
def wat (w0 : World) (st sm : Addr) (x y : Int) (d : Nat) : World := ((w0.setCell st (.int .u64 x)).setCell sm (.int .u32 y)).at d
theorem setCell_twice (w : World) (a : Addr) (u v : Value) : (w.setCell a u).setCell a v = w.setCell a v := by
  unfold World.setCell
  simp only [World.mk.injEq, and_true, true_and]
  apply Array.ext_getElem?
  intro k
  simp only [Array.getElem?_modify]
  split
  · cases w.heap[k]? with
    | none => rfl
    | some o => cases o <;> simp only [Option.map_some] <;> (try rfl); split <;> simp
  · rfl
theorem setCell_comm (w : World) {a b : Addr} (h : a ≠ b) (ha : a.spot = none) (hb : b.spot = none) (u v : Value) : (w.setCell a u).setCell b v = (w.setCell b v).setCell a u := by
  unfold World.setCell
  simp only [World.mk.injEq, and_true, true_and]
  apply Array.ext_getElem?
  intro k
  simp only [Array.getElem?_modify]
  by_cases e1 : a.block = k <;> by_cases e2 : b.block = k
  · simp only [e1, e2, if_true]
    have : a.off ≠ b.off := fun e => h (by obtain ⟨x1, x2, x3⟩ := a; obtain ⟨y1, y2, y3⟩ := b; simp only at *; subst e ha hb; rw [e1, e2])
    cases w.heap[k]? with
    | none => rfl
    | some o =>
      cases o <;> simp only [Option.map_some] <;> (try rfl)
      rw [ha, hb]
      simp only [Option.isSome_none, Bool.false_eq_true, if_false]
      rw [Array.setIfInBounds_comm _ _ this]
  · simp only [e1, e2, if_true, if_false]
  · simp only [e1, e2, if_true, if_false]
  · simp only [e1, e2, if_false]
theorem heap_setCell_chan {w : World} {a : Addr} {v : Value} {c : Nat} {o : Obj} (h : w.heap[c]? = some o) (ho : o.isChan = true) : (w.setCell a v).heap[c]? = some o := by
  simp only [World.setCell, Array.getElem?_modify, h]
  split
  · cases o <;> first | rfl | cases ho
  · rfl
structure InvS (P : Program) (Sh : Loc → Prop) (Inb : Nat → Option Chair) (st sm : Addr) (qc mC : Nat) (Fin : Goroutine → Prop) (n : Nat) (w0 : World) (t : Tag) (f0 : Nat) (ph fu : Nat → Nat) (gs : Array Goroutine) (x y : Int) (T : Trace) : Prop where
  size : gs.size = n
  pos : 0 < n
  main : ∃ a, gs[0]? = some a ∧ MSit P st sm Fin t f0 (Deaf T 0) a
  wk : ∀ i g, 0 < i → gs[i]? = some g → WSit P st sm Inb i (ph i) (fu i) (Deaf T i) g
  ph0 : ph 0 = 0
  out : ∀ i, n ≤ i → ph i ≤ 1
  mode : ModeS n ph t x y
  wake : f0 = 0 → ∃ i, 0 < i ∧ i < n ∧ 2 ≤ ph i
  tr : TrS Sh (StOf Inb) st sm qc mC ph T
  above : ∀ j, n ≤ j → Deaf T j = 0
def mu1 (n : Nat) (t : Tag) (ph : Nat → Nat) : Nat := t.rank (VcS n ph) + sumTo n ph
def mu2 (n f0 : Nat) (fu : Nat → Nat) : Nat := f0 + 2 * sumTo n fu
def LowS (n : Nat) (t' : Tag) (f0' : Nat) (ph' fu' : Nat → Nat) (t : Tag) (f0 : Nat) (ph fu : Nat → Nat) : Prop := mu1 n t' ph' < mu1 n t ph ∨ (mu1 n t' ph' = mu1 n t ph ∧ mu2 n f0' fu' < mu2 n f0 fu)
theorem Tag.rank_mono (t : Tag) {v v' : Nat} (h : v ≤ v') : t.rank v ≤ t.rank v' := by cases t <;> simp only [Tag.rank] <;> omega
section
variable {P : Program} {Sh : Loc → Prop} {Inb : Nat → Option Chair} {st sm : Addr} {qc mC n : Nat} {w0 : World} {Fin : Goroutine → Prop} {t : Tag} {f0 : Nat} {ph fu : Nat → Nat} {gs : Array Goroutine} {x y x' y' : Int} {d d' : Nat} {T : Trace} {i : Nat} {g g' : Goroutine}
theorem WSit.status {p f k : Nat} (hK : ∀ ch, Inb i = some ch → ∃ w, ch.K w) (h : WSit P st sm Inb i p f k g) : g.status = .running ∨ g.status = .finished := by
  rcases h with ⟨_, _, ch, hc, m, w, _, h⟩ | ⟨_, m, _, h⟩ | ⟨_, m, _, h⟩ | ⟨_, m, _, h⟩ | ⟨_, m, _, h⟩ | ⟨_, m, _, h⟩ | ⟨_, h⟩
  · obtain ⟨w₁, hw⟩ := hK ch hc
    left
    cases m with
    | zero => obtain ⟨g₂, h, _⟩ := h w₁ hw; exact h
    | succ m =>
      rcases h with h | h
      · obtain ⟨g₂, h, _⟩ := h w₁ hw; exact h
      · exact h.1
  · exact .inl (Qs.running (fun _ _ q => q.1) h)
  · exact .inl (Qs.running (fun _ _ q => q.1) h)
  · exact .inl (Qs.running (fun _ _ q => q.1) h)
  · exact .inl (Qs.running (fun _ _ q => q.1) h)
  · exact .inl (Qs.running (fun _ _ q => q.1) h)
  · exact h.status
/-- Somebody's step may let goroutine 0 try again. -/
theorem MSit.woken {k : Nat} {a b b' : Goroutine} {w : World} (h : MSit P st sm Fin t f0 k a) : ∃ f0', MSit P st sm Fin t f0' k (woken P b b' w a) ∧ f0' ≤ f0 + 1 ∧ (mayWake P b = true → (b'.status = .running ∨ b'.status = .finished) → f0' ≠ 0) ∧ (f0 ≠ 0 → f0' = f0) := by
  rcases h with ⟨m, hm, h⟩ | ⟨rfl, rfl, a₀, rfl, h⟩
  · have hr : a.status = .running := Qs.running (fun _ _ q => Tag.running P st sm Fin q) h
    rw [woken_of_again (again_of_running (.inl hr) w)]
    exact ⟨f0, .inl ⟨m, hm, h⟩, by omega, fun _ _ => by omega, fun _ => rfl⟩
  · unfold Go.Conc.woken
    by_cases hw : (mayWake P b && b'.status != .blocked && b'.status != .waiting) = true
    · rw [if_pos hw]
      refine ⟨1, .inl ⟨0, rfl, ?_⟩, by omega, fun _ _ => by omega, fun q => (q rfl).elim⟩
      have e : ({ a₀ with status := .blocked } : Goroutine).again w = a₀ := by
        have h1 := h.1
        have h2 := h.2.1
        obtain ⟨fr, cs, s, dy, off⟩ := a₀
        simp only at h1 h2
        subst h1 h2
        rfl
      rw [e]
      exact h
    · rw [if_neg hw]
      refine ⟨0, .inr ⟨rfl, rfl, a₀, rfl, h⟩, by omega, fun h1 h2 => (hw ?_).elim, fun q => (q rfl).elim⟩
      rw [h1]
      rcases h2 with h2 | h2 <;> rw [h2] <;> rfl
/-- A worker's own step. -/
theorem InvS.goW (C : CtxS P Sh Inb st sm qc n w0) (I : InvS P Sh Inb st sm qc mC Fin n w0 t f0 ph fu gs x y T) (h0 : 0 < i) (hi : gs[i]? = some g) {p f' : Nat} {es : Array Event} {sl : Option (Nat × Nat)} (hgo : stepG P false g (wat w0 st sm x y d) = .go g' (wat w0 st sm x' y' d) es)
    (hW : WSit P st sm Inb i p f' (deafBehind (Deaf T i) es) g') (hM : ModeS n (upd ph i p) t x' y') (hT : TrS Sh (StOf Inb) st sm qc mC (upd ph i p) (T ++ MemOp.ofEvents i g.frame.fn g.frame.place es))
    (hlow : p < ph i ∨ (p = ph i ∧ f' < fu i)) (hwk : f0 = 0 → (∃ j, 0 < j ∧ j < n ∧ 2 ≤ upd ph i p j) ∨ mayWake P g = true) :
    ∃ gs' f0' ph' fu', runT P (crowd gs (wat w0 st sm x y d) sl) i = (.next (crowd gs' (wat w0 st sm x' y' d) sl), MemOp.ofEvents i g.frame.fn g.frame.place es) ∧
      InvS P Sh Inb st sm qc mC Fin n w0 t f0' ph' fu' gs' x' y' (T ++ MemOp.ofEvents i g.frame.fn g.frame.place es) ∧ LowS n t f0' ph' fu' t f0 ph fu := by
  have hlt : i < gs.size := (Array.getElem?_eq_some_iff.1 hi).1
  have hin : i < n := by rw [← I.size]; exact hlt
  have hne : (0 : Nat) ≠ i := Nat.ne_of_lt h0
  have hout : ∀ j, n ≤ j → j ≠ i := fun j hj e => by subst e; exact Nat.lt_irrefl _ (Nat.lt_of_lt_of_le hin hj)
  have hi0 : (i == 0) = false := beq_false_of_ne hne.symm
  have hops : ∀ op ∈ MemOp.ofEvents i g.frame.fn g.frame.place es, op.g = i := ofEvents_g
  have hst' := hW.status (fun ch hc => ⟨w0, C.keep i ch hc⟩)
  obtain ⟨a, ha, hsit⟩ := I.main
  obtain ⟨f0', hs', hf1, hf2, hf3⟩ := hsit.woken (b := g) (b' := g') (w := wat w0 st sm x' y' d)
  have hcnt : cntS p ≤ cntS (ph i) := by clear hwk; simp only [cntS]; split <;> split <;> omega
  have hV : VcS n (upd ph i p) ≤ VcS n ph := by clear hwk; have := VcS_upd ph p hin; omega
  have hS : sumTo n (upd ph i p) + ph i = sumTo n ph + p := sumTo_upd ph p id hin
  have hF : sumTo n (upd fu i f') + fu i = sumTo n fu + f' := sumTo_upd fu f' id hin
  refine ⟨_, f0', upd ph i p, upd fu i f', runT_crowd_go (sl := sl) hi (by rw [hi0]; exact hgo), ⟨by simp [I.size], I.pos, ⟨woken P g g' (wat w0 st sm x' y' d) a, ?_, ?_⟩, fun j gj hj0 hj => ?_, by rw [upd_ne ph _ hne]; exact I.ph0, fun j hj => by rw [upd_ne ph _ (hout j hj)]; exact I.out j hj, hM, fun hz => ?_, hT, fun j hj => ?_⟩, ?_⟩
  · rw [Array.getElem?_setIfInBounds_ne hne.symm, Array.getElem?_map, ha]; rfl
  · rw [Deaf_other T (g' := i) hne.symm _ hops]; exact hs'
  · by_cases e : j = i
    · subst e
      rw [Array.getElem?_setIfInBounds_self_of_lt (by simpa using hlt)] at hj
      obtain rfl := Option.some.inj hj
      rw [upd_same, upd_same, Deaf_own]
      exact hW
    · rw [Array.getElem?_setIfInBounds_ne (fun z => e z.symm), Array.getElem?_map] at hj
      obtain ⟨gj', hj', rfl⟩ := Option.map_eq_some_iff.1 hj
      have h1 := I.wk j gj' hj0 hj'
      rw [woken_of_again (again_of_running (h1.status fun ch hc => ⟨w0, C.keep j ch hc⟩) _), upd_ne ph _ e, upd_ne fu _ e, Deaf_other T (g' := i) (fun z => e z.symm) _ hops]
      exact h1
  · rcases hwk (Classical.byContradiction fun q => q (by rw [hf3 q] at hz; exact hz)) with q | q
    · exact q
    · exact ((hf2 q hst') hz).elim
  · rw [Deaf_other T (g' := i) (hout j hj).symm _ hops]; exact I.above j hj
  · clear hwk
    have hr := t.rank_mono hV
    rcases hlow with q | ⟨q, q2⟩
    · left; simp only [mu1]; omega
    · have hV2 : VcS n (upd ph i p) = VcS n ph := by
        have := VcS_upd ph p hin
        rw [q] at this ⊢
        omega
      right
      refine ⟨by simp only [mu1, hV2]; omega, ?_⟩
      simp only [mu2]
      omega
end
end Go.Proofs.Ytfgpnfboolbbbaa
