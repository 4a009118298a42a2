/-
  A System in memory: its actors, their mail, who sits where.
-/
import Derived.Test.YtfpkachoneaaeaaBbWk
import Derived.Test.YtfpkachoneaaeaaBbMem
import Derived.Test.YtfpkachoneaaeaaBbEnv
set_option linter.unusedSimpArgs false
set_option linter.unusedVariables false
namespace Go.Proofs.Ytfpkachoneaaeaa
open Go Go.Conc Go.RowKit
open Go.ConcN (upd upd_ne upd_same)
structure It where
  t : Nat
  A : Option Addr
  c : Nat
  bs : List UInt8
def It.val (i : It) : Value := .slice i.A i.bs.length i.c
structure Ent extends Core1 where
  A : Option Addr
  c : Nat
  items : List It
structure Sy where
  S : Nat
  mp : Nat
  qc : Nat
  fdo : Value
  stopped : Bool
  ents : List Ent
  own : Nat → Nat × Nat
def Sy.cells (s : Sy) (lk : Int) : Array Value := #[s.fdo, .int .i32 lk, .int .u32 0, .map (some s.mp), .chan (some s.qc), .int .u64 ((s.ents.length : Int) * K32), .int .u32 0, .bool s.stopped]
def Ent.cells (e : Ent) : Array Value := #[.slice e.A e.items.length e.c, .chan (some e.wk), .chan (some e.dn)]
def Opn (w : World) (c : Nat) : Prop := ∃ k, w.heap[c]? = some (.chan 0 #[] false k k false)
structure EntOk (w : World) (own : Nat → Nat × Nat) (e : Ent) : Prop where
  blk : Blk w e.b 75 e.cells
  row : SegV w (fun k => own k = (e.gi, 4)) 27 1 e.A e.items.length e.c (e.items.map It.val)
  its : ∀ i ∈ e.items, SegV w (fun k => own k = (e.gi, 5 + i.t)) 5 1 i.A i.bs.length i.c (bvs i.bs)
  tks : (e.items.map (·.t)).Nodup
  wk : Opn w e.wk
  dn : Opn w e.dn
  ob : own e.b = (e.gi, 1)
  ow : own e.wk = (e.gi, 2)
  od : own e.dn = (e.gi, 3)
  pos : 0 < e.gi
noncomputable def Sy.wch (s : Sy) (e : Ent) : Chair := wChair s.S s.qc e.toCore1
noncomputable def Sy.seats (s : Sy) (i : Nat) : Option Chair := (s.ents.find? fun e => e.gi == i).map s.wch
/-- Who sits: all of them; or all but one, who works, and goroutine 0. -/
noncomputable def Sy.inb (s : Sy) : Option (Nat × Chair) → Nat → Option Chair
  | none => s.seats
  | some (j, d) => upd (upd s.seats 0 (some d)) j none
/-- Goroutine 0's chair is at this actor's answers. -/
structure DCh (e : Ent) (d : Chair) : Prop where
  val : ∀ a v, d.val a = some v → a = ⟨e.b, 2, none⟩ ∧ v = .chan (some e.dn)
  has : ∀ x, d.seat.has x → x = e.dn
structure Rep (Z : Scene) (n : Nat) (hd : Option (Nat × Chair)) (w : World) (s : Sy) (lk : Int) : Prop where
  sys : Blk w s.S 58 (s.cells lk)
  map : IMap w s.mp (s.ents.map fun e => (e.id, e.b))
  ents : ∀ e ∈ s.ents, EntOk w s.own e
  gis : (s.ents.map (·.gi)).Nodup
  gin : ∀ e ∈ s.ents, e.gi < n
  oS : s.own s.S = (0, 1)
  oq : s.own s.qc = (0, 2)
  om : s.own s.mp = (0, 4)
  opn : s.stopped = false → Opn w s.qc ∧ Z.C s.qc
  hS : Z.Hd s.S
  hE : ∀ e ∈ s.ents, Z.Hd e.b
  vis : ∀ k, 4 ≤ (s.own k).2 → ¬ Z.Hd k ∧ ¬ Z.C k
  cE : ∀ e ∈ s.ents, Z.C e.wk ∧ Z.C e.dn
  stop : s.stopped = true → s.ents = []
  inb : Z.Inb = s.inb hd
  shun : ∀ a, Z.Sh (.cell a) → (∀ e ∈ s.ents, a.block ≠ e.b) ∧ (a.block = s.S → s.stopped = true ∧ (a = ⟨s.S, 5, none⟩ ∨ a = ⟨s.S, 6, none⟩))
  hdk : ∀ j d, hd = some (j, d) → ∃ e ∈ s.ents, e.gi = j ∧ DCh e d
  pos : 0 < n
  fresh : ∀ k, w.heap.size ≤ k → s.own k = (0, 0)
section
variable {s : Sy} {e : Ent} {i : Nat} {ch : Chair}
theorem nodup_gi : ∀ {l : List Ent} (_ : (l.map (·.gi)).Nodup) {x y : Ent}, x ∈ l → y ∈ l → x.gi = y.gi → x = y
  | [], _, _, _, h, _, _ => by cases h
  | p :: l, hn, x, y, h1, h2, he => by
    rw [List.map_cons, List.nodup_cons] at hn
    rcases List.mem_cons.1 h1 with e1 | e1 <;> rcases List.mem_cons.1 h2 with e2 | e2
    · rw [e1, e2]
    · exact absurd (List.mem_map.2 ⟨_, e2, by rw [← he, e1]⟩) hn.1
    · exact absurd (List.mem_map.2 ⟨_, e1, by rw [he, e2]⟩) hn.1
    · exact nodup_gi hn.2 e1 e2 he
theorem Sy.seats_mem (hn : (s.ents.map (·.gi)).Nodup) (he : e ∈ s.ents) : s.seats e.gi = some (s.wch e) := by
  unfold Sy.seats
  cases h : s.ents.find? (fun x => x.gi == e.gi) with
  | none => exact absurd (List.find?_eq_none.1 h e he) (by simp)
  | some x =>
    have h1 : x.gi = e.gi := by simpa using List.find?_some h
    rw [nodup_gi hn (List.mem_of_find?_eq_some h) he h1]
    rfl
theorem Sy.seats_of (h : s.seats i = some ch) : ∃ e ∈ s.ents, e.gi = i ∧ ch = s.wch e := by
  unfold Sy.seats at h
  obtain ⟨e, he, rfl⟩ := Option.map_eq_some_iff.1 h
  exact ⟨e, List.mem_of_find?_eq_some he, by simpa using List.find?_some he, rfl⟩
theorem Sy.seats_none (h : ∀ e ∈ s.ents, e.gi ≠ i) : s.seats i = none := by
  cases q : s.seats i with
  | none => rfl
  | some ch =>
    obtain ⟨e, he, hg, _⟩ := Sy.seats_of q
    exact absurd hg (h e he)
end
section
variable {Z : Scene} {n : Nat} {hd : Option (Nat × Chair)} {w w' : World} {s : Sy} {lk : Int} {e : Ent} {F : Nat → Prop} {own own' : Nat → Nat × Nat} {a : Addr} {P : Program}
theorem Opn.keep {c : Nat} (h : Opn w c) (hk : Kept F w w') (hF : ¬ F c) : Opn w' c := by
  obtain ⟨k, hc⟩ := h
  exact ⟨k, by rw [hk.block c (Array.getElem?_eq_some_iff.1 hc).1 hF]; exact hc⟩
theorem EntOk.keep (h : EntOk w own e) (hk : Kept F w w') (hF : ∀ k, F k → (own k).1 ≠ e.gi) : EntOk w' own e := by
  have key : ∀ k t, own k = (e.gi, t) → ¬ F k := fun k t ho hf => hF k hf (by rw [ho])
  exact ⟨h.blk.keep hk (key _ _ h.ob), h.row.keep hk fun k _ ho => key k _ ho, fun i hi => (h.its i hi).keep hk fun k _ ho => key k _ ho, h.tks, h.wk.keep hk (key _ _ h.ow), h.dn.keep hk (key _ _ h.od), h.ob, h.ow, h.od, h.pos⟩
theorem Opn.lt {c : Nat} (h : Opn w c) : c < w.heap.size := by
  obtain ⟨k, hc⟩ := h
  exact (Array.getElem?_eq_some_iff.1 hc).1
theorem EntOk.reown (h : EntOk w own e) (ho : ∀ k, k < w.heap.size → own' k = own k) : EntOk w own' e :=
  ⟨h.blk, h.row.mono fun k hk hf => by rw [ho k hk]; exact hf, fun i hi => (h.its i hi).mono fun k hk hf => by rw [ho k hk]; exact hf, h.tks, h.wk, h.dn, by rw [ho _ h.blk.lt]; exact h.ob, by rw [ho _ h.wk.lt]; exact h.ow, by rw [ho _ h.dn.lt]; exact h.od, h.pos⟩
/-- Somebody else's blocks have turned. -/
theorem Rep.keep (h : Rep Z n hd w s lk) (hk : Kept F w w') (hF : ∀ k, F k → s.own k = (0, 0)) : Rep Z n hd w' s lk := by
  have key : ∀ k g t, s.own k = (g, t + 1) → ¬ F k := fun k g t ho hf => by rw [hF k hf] at ho; cases ho
  refine ⟨h.sys.keep hk (key _ _ _ h.oS), h.map.keep hk (key _ _ _ h.om), fun e he => (h.ents e he).keep hk fun k hf q => ?_, h.gis, h.gin, h.oS, h.oq, h.om, fun hs => ⟨(h.opn hs).1.keep hk (key _ _ _ h.oq), (h.opn hs).2⟩, h.hS, h.hE, h.vis, h.cE, h.stop, h.inb, h.shun, h.hdk, h.pos, fun k hk2 => h.fresh k (Nat.le_trans hk.size hk2)⟩
  have := (h.ents e he).pos
  rw [hF k hf] at q
  simp at q
  omega
theorem Rep.inj (h : Rep Z n hd w s lk) {x y : Ent} (hx : x ∈ s.ents) (hy : y ∈ s.ents) (hb : x.b = y.b) : x = y :=
  nodup_gi h.gis hx hy (by
    have h1 := (h.ents x hx).ob
    rw [hb, (h.ents y hy).ob] at h1
    exact (Prod.mk.inj h1).1.symm)
/-- The places that are read on the way to a seat. -/
theorem Rep.place (h : Rep Z n hd w s lk) (hp : Z.Place a) : a = ⟨s.S, 4, none⟩ ∨ ∃ e ∈ s.ents, a = ⟨e.b, 1, none⟩ ∨ a = ⟨e.b, 2, none⟩ := by
  obtain ⟨i, ch, v, hi, hv⟩ := hp
  rw [h.inb] at hi
  have base : s.seats i = some ch → a = ⟨s.S, 4, none⟩ ∨ ∃ e ∈ s.ents, a = ⟨e.b, 1, none⟩ ∨ a = ⟨e.b, 2, none⟩ := fun q => by
    obtain ⟨e, he, _, rfl⟩ := Sy.seats_of q
    rcases wVal_of hv with ⟨h1, _⟩ | ⟨h1, _⟩
    · exact .inl h1
    · exact .inr ⟨e, he, .inl h1⟩
  cases hd with
  | none => exact base hi
  | some p =>
    obtain ⟨j, d⟩ := p
    obtain ⟨e, he, _, hD⟩ := h.hdk j d rfl
    replace hi : upd (upd s.seats 0 (some d)) j none i = some ch := hi
    by_cases e1 : i = j
    · subst e1; rw [upd_same] at hi; cases hi
    · rw [upd_ne _ _ e1] at hi
      by_cases e2 : i = 0
      · subst e2
        rw [upd_same] at hi
        obtain rfl := Option.some.inj hi
        exact .inr ⟨e, he, .inr (hD.val a v hv).1⟩
      · rw [upd_ne _ _ e2] at hi
        exact base hi
/-- The cells of the System: which may be read, which may be written. -/
theorem Rep.cell (h : Rep Z n hd w s lk) (i : Nat) : w.cell? ⟨s.S, i, none⟩ = (s.cells lk)[i]? := h.sys.cell i
theorem Rep.cellE (h : Rep Z n hd w s lk) (he : e ∈ s.ents) (i : Nat) : w.cell? ⟨e.b, i, none⟩ = e.cells[i]? := (h.ents e he).blk.cell i
theorem Rep.nsh (h : Rep Z n hd w s lk) (i : Nat) (hi : s.stopped = false ∨ (i ≠ 5 ∧ i ≠ 6)) : ¬ Z.Sh (.cell ⟨s.S, i, none⟩) := fun q => by
  obtain ⟨h1, h2⟩ := (h.shun _ q).2 rfl
  rcases hi with e | ⟨e1, e2⟩
  · rw [e] at h1; cases h1
  · rcases h2 with h2 | h2
    · exact e1 (by injection h2)
    · exact e2 (by injection h2)
theorem Rep.nshE (h : Rep Z n hd w s lk) (he : e ∈ s.ents) (i : Nat) : ¬ Z.Sh (.cell ⟨e.b, i, none⟩) := fun q => (h.shun _ q).1 e he rfl
theorem Rep.neSE (h : Rep Z n hd w s lk) (he : e ∈ s.ents) : e.b ≠ s.S := fun q => by
  have := (h.ents e he).ob
  rw [q, h.oS] at this
  have h2 := (h.ents e he).pos
  rw [← (Prod.mk.inj this).1] at h2
  omega
theorem Rep.npl (h : Rep Z n hd w s lk) (i : Nat) (hi : i ≠ 4) : ¬ Z.Place ⟨s.S, i, none⟩ := fun q => by
  rcases h.place q with e | ⟨x, hx, e | e⟩
  · exact hi (by injection e)
  · exact h.neSE hx (by injection e with e; exact e.symm)
  · exact h.neSE hx (by injection e with e; exact e.symm)
theorem Rep.nplE (h : Rep Z n hd w s lk) (he : e ∈ s.ents) : ¬ Z.Place ⟨e.b, 0, none⟩ := fun q => by
  rcases h.place q with e1 | ⟨x, hx, e1 | e1⟩
  · injection e1 with _ e2; cases e2
  · injection e1 with _ e2; cases e2
  · injection e1 with _ e2; cases e2
theorem Rep.nC (h : Rep Z n hd w s lk) (hok : WOk P Z w) : ¬ Z.C s.S := hok.cells h.sys
theorem Rep.nCE (h : Rep Z n hd w s lk) (hok : WOk P Z w) (he : e ∈ s.ents) : ¬ Z.C e.b := hok.cells (h.ents e he).blk
end
end Go.Proofs.Ytfpkachoneaaeaa
