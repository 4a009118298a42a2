/-
  A new actor: what is added to the System's picture.
-/
import Derived.Test.YtfgpnfboolbbbaaBbPo
import Derived.Test.YtfgpnfboolbbbaaBbAdd
namespace Go.Proofs.Ytfgpnfboolbbbaa
open Go Go.Conc Go.RowKit
open Go.ConcN (upd upd_ne upd_same)
theorem upd_comm {α : Type} {f : Nat → α} {i j : Nat} {x y : α} (h : i ≠ j) : upd (upd f i x) j y = upd (upd f j y) i x := by
  funext k
  unfold upd
  by_cases h1 : k = i <;> by_cases h2 : k = j <;> simp [h1, h2]
  · exact absurd (h1.symm.trans h2) h
  · subst h1; simp [h]
  · subst h2; simp [Ne.symm h]
def Sy.add (s : Sy) (e : Ent) (own' : Nat → Nat × Nat) : Sy := { s with ents := s.ents ++ [e], own := own' }
section
variable {Z Z' : Scene} {n : Nat} {hd : Option (Nat × Chair)} {w w' : World} {s : Sy} {e : Ent} {lk : Int} {F : Nat → Prop} {own' : Nat → Nat × Nat}
theorem Sy.add_seats (h : ∀ x ∈ s.ents, x.gi ≠ e.gi) : (s.add e own').seats = upd s.seats e.gi (some (s.wch e)) := by
  funext i
  by_cases q : i = e.gi
  · subst q
    rw [upd_same]
    unfold Sy.seats Sy.add
    rw [List.find?_append, List.find?_eq_none.2 (fun x hx => by simpa using h x hx)]
    simp
    rfl
  · rw [upd_ne _ _ q]
    unfold Sy.seats Sy.add
    rw [List.find?_append]
    have : List.find? (fun x => x.gi == i) [e] = none := by simp [Ne.symm q]
    rw [this, Option.or_none]
    rfl
theorem Sy.add_inb (hn : e.gi = n) (h : ∀ x ∈ s.ents, x.gi ≠ e.gi) (hp : 0 < n) (hj : ∀ j d, hd = some (j, d) → j ≠ n) : (s.add e own').inb hd = upd (s.inb hd) n (some (s.wch e)) := by
  cases hd with
  | none => show (s.add e own').seats = _; rw [Sy.add_seats h, hn]; rfl
  | some p =>
    obtain ⟨j, d⟩ := p
    show upd (upd (s.add e own').seats 0 (some d)) j none = upd (upd (upd s.seats 0 (some d)) j none) n (some (s.wch e))
    rw [Sy.add_seats h, hn, upd_comm (i := n) (j := 0) (by omega), upd_comm (i := n) (j := j) (Ne.symm (hj j d rfl))]
theorem Rep.addE (h : Rep Z n hd w s lk) (hs : s.stopped = false) (hk : Kept F w w') (hF : ∀ k, k < w.heap.size → F k → k = s.S ∨ k = s.mp) (hsys : Blk w' s.S 58 ((s.add e own').cells lk)) (hmap : IMap w' s.mp ((s.ents ++ [e]).map fun e => (e.id, e.b)))
    (hE : EntOk w' own' e) (hg : e.gi = n) (ho : ∀ k, k < w.heap.size → own' k = s.own k) (hfr : ∀ k, w'.heap.size ≤ k → own' k = (0, 0)) (hHd : ∀ k, Z.Hd k → Z'.Hd k) (hC : ∀ k, Z.C k → Z'.C k) (hb : Z'.Hd e.b) (hwk : Z'.C e.wk) (hdn : Z'.C e.dn) (hSh : Z'.Sh = Z.Sh)
    (hvis : ∀ k, 4 ≤ (own' k).2 → ¬ Z'.Hd k ∧ ¬ Z'.C k) (hinb : Z'.Inb = upd Z.Inb n (some (s.wch e))) (hsh : ∀ a, Z.Sh (.cell a) → a.block ≠ e.b) : Rep Z' (n + 1) hd w' (s.add e own') lk := by
  have hne : ∀ x ∈ s.ents, x.gi ≠ e.gi := fun x hx q => by have := h.gin x hx; omega
  have hSl := h.sys.lt
  have hMl := h.map.lt
  have hQl := (h.opn hs).1.lt
  have keyS : ∀ k t, s.own k = (t, 2) ∨ s.own k = (t, 3) → k < w.heap.size → ¬ F k := fun k t ho hlt hf => by
    rcases hF k hlt hf with rfl | rfl
    · rw [h.oS] at ho; rcases ho with q | q <;> exact snd_ne q (by decide)
    · rw [h.om] at ho; rcases ho with q | q <;> exact snd_ne q (by decide)
  refine ⟨hsys, hmap, fun y hy => ?_, ?_, fun y hy => ?_, (ho _ hSl).trans h.oS, (ho _ hQl).trans h.oq, (ho _ hMl).trans h.om, fun _ => ⟨(h.opn hs).1.keep (hk.mono (S' := fun k => F k ∧ k < w.heap.size) fun k h1 h2 => ⟨h2, h1⟩) fun q => keyS _ _ (.inl h.oq) q.2 q.1, hC _ (h.opn hs).2⟩, hHd _ h.hS, fun y hy => ?_, hvis, fun y hy => ?_, fun q => ?_, ?_, fun a q => ?_, fun j d q => ?_, by omega, hfr⟩
  · rcases List.mem_append.1 hy with hy | hy
    · refine ((h.ents y hy).reown ho).keep (hk.mono (S' := fun k => F k ∧ k < w.heap.size) fun k h1 h2 => ⟨h2, h1⟩) fun k hf q => ?_
      have := (h.ents y hy).pos
      rw [ho k hf.2] at q
      rcases hF k hf.2 hf.1 with rfl | rfl
      · rw [h.oS] at q; simp at q; omega
      · rw [h.om] at q; simp at q; omega
    · simp only [List.mem_cons, List.not_mem_nil, or_false] at hy
      subst hy
      exact hE
  · show ((s.ents ++ [e]).map (·.gi)).Nodup
    rw [List.map_append, List.nodup_append]
    refine ⟨h.gis, by simp, fun a ha b hb => ?_⟩
    simp at hb
    subst hb
    obtain ⟨x, hx, rfl⟩ := List.mem_map.1 ha
    exact hne x hx
  · rcases List.mem_append.1 hy with hy | hy
    · exact Nat.lt_succ_of_lt (h.gin y hy)
    · simp only [List.mem_cons, List.not_mem_nil, or_false] at hy
      subst hy
      omega
  · rcases List.mem_append.1 hy with hy | hy
    · exact hHd _ (h.hE y hy)
    · simp only [List.mem_cons, List.not_mem_nil, or_false] at hy
      subst hy
      exact hb
  · rcases List.mem_append.1 hy with hy | hy
    · exact ⟨hC _ (h.cE y hy).1, hC _ (h.cE y hy).2⟩
    · simp only [List.mem_cons, List.not_mem_nil, or_false] at hy
      subst hy
      exact ⟨hwk, hdn⟩
  · have : s.stopped = true := q
    rw [hs] at this
    cases this
  · rw [hinb, h.inb, Sy.add_inb hg hne h.pos fun j d q => ?_]
    obtain ⟨x, hx, h1, _⟩ := h.hdk j d q
    have := h.gin x hx
    omega
  · rw [hSh] at q
    obtain ⟨h1, h2⟩ := h.shun a q
    refine ⟨fun y hy => ?_, h2⟩
    rcases List.mem_append.1 hy with hy | hy
    · exact h1 y hy
    · simp only [List.mem_cons, List.not_mem_nil, or_false] at hy
      subst hy
      exact hsh a q
  · obtain ⟨x, hx, h1, h2⟩ := h.hdk j d q
    exact ⟨x, List.mem_append_left _ hx, h1, h2⟩
/-- What the document sees. -/
def Sy.abs (s : Sy) : List (Int × List (List UInt8)) := s.ents.map fun e => (e.id, e.items.map It.bs)
theorem Rep.ids (h : Rep Z n hd w s lk) {x y : Ent} (hx : x ∈ s.ents) (hy : y ∈ s.ents) (hi : x.id = y.id) : x = y := by
  have hnd := h.map.nodup
  exact h.inj hx hy (nodup_assoc (i := x.id) hnd (List.mem_map.2 ⟨x, hx, rfl⟩) (by rw [hi]; exact List.mem_map.2 ⟨y, hy, rfl⟩))
theorem Rep.abs_setE {e' : Ent} (h : Rep Z n hd w s lk) (he : e ∈ s.ents) (hc : e'.toCore1 = e.toCore1) : (s.setE e' own').abs = s.abs.map fun p => if p.1 = e.id then (p.1, e'.items.map It.bs) else p := by
  unfold Sy.abs Sy.setE
  rw [List.map_map, List.map_map]
  refine List.map_congr_left fun x hx => ?_
  simp only [Function.comp]
  by_cases q : x.gi = e'.gi
  · have : x = e := nodup_gi h.gis hx he (by rw [q, hc])
    subst this
    rw [if_pos q, if_pos rfl, hc]
  · have hne : x.id ≠ e.id := fun r => q (by rw [h.ids hx he r, hc])
    rw [if_neg q, if_neg hne]
structure Ext (Z : Scene) (n : Nat) (w : World) (s : Sy) (Z' : Scene) (n' : Nat) (w' : World) (s' : Sy) : Prop where
  S : s'.S = s.S
  qc : s'.qc = s.qc
  fdo : s'.fdo = s.fdo
  stopped : s'.stopped = s.stopped
  own : ∀ k, k < w.heap.size → s.own k = (0, 0) → s'.own k = (0, 0)
  kept : Kept (fun k => s.own k ≠ (0, 0)) w w'
  Hd : ∀ k, k < w.heap.size → (Z'.Hd k ↔ Z.Hd k)
  C : ∀ k, k < w.heap.size → (Z'.C k ↔ Z.C k)
  Sh : Z'.Sh = Z.Sh
  n1 : n ≤ n'
  n2 : n' ≤ n + 1
  cores : ∀ e ∈ s.ents, ∃ e' ∈ s'.ents, e'.toCore1 = e.toCore1
theorem Ext.same (hk : Kept (fun k => s.own k ≠ (0, 0)) w w') : Ext Z n w s Z n w' s :=
  ⟨rfl, rfl, rfl, rfl, fun _ _ h => h, hk, fun _ _ => Iff.rfl, fun _ _ => Iff.rfl, rfl, Nat.le_refl _, Nat.le_succ _, fun e he => ⟨e, he, rfl⟩⟩
theorem Ext.setE {e' : Ent} (hn : (s.ents.map (·.gi)).Nodup) (he : e ∈ s.ents) (hc : e'.toCore1 = e.toCore1) (hk : Kept (fun k => s.own k ≠ (0, 0)) w w') (ho : ∀ k, k < w.heap.size → own' k = s.own k) : Ext Z n w s Z n w' (s.setE e' own') :=
  ⟨rfl, rfl, rfl, rfl, fun k h1 h2 => (ho k h1).trans h2, hk, fun _ _ => Iff.rfl, fun _ _ => Iff.rfl, rfl, Nat.le_refl _, Nat.le_succ _, fun x hx => by
    by_cases q : x.gi = e'.gi
    · have : x = e := nodup_gi hn hx he (by rw [q, hc])
      exact ⟨e', Sy.setE_has he hc, by rw [this, hc]⟩
    · exact ⟨x, List.mem_map.2 ⟨x, hx, by simp [q]⟩, rfl⟩⟩
/-- What the document says of Post. -/
def putA (l : List (Int × List (List UInt8))) (id : Int) (bs : List UInt8) : List (Int × List (List UInt8)) × Bool :=
  match l.find? fun p => p.1 == id with
  | some p => if p.2.length < 64 then (l.map fun q => if q.1 = id then (q.1, p.2 ++ [bs]) else q, true) else (l, false)
  | none => (l ++ [(id, [bs])], true)
theorem Sy.abs_find (s : Sy) (id : Int) : s.abs.find? (fun p => p.1 == id) = (s.ent id).map fun e => (e.id, e.items.map It.bs) := by
  unfold Sy.abs Sy.ent
  rw [List.find?_map]
  rfl
end
end Go.Proofs.Ytfgpnfboolbbbaa
