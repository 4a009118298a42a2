/-
  A disk.Disk in memory: what each step of a method does to it.
-/
import Derived.Test.YtnlmkfncdklcdaaDkPut
import Derived.Test.YtnlmkfncdklcdaaDkRead
namespace Go.Proofs.Ytnlmkfncdklcdaa
open Go.RowKit

/-- DAt, its letters named. -/
structure DOpen (w : World) (tag : Nat → DTag) (m : Nat) (pv : Value) (hb : List UInt8 → Nat) (p : Nat) (s : DiskS) (N : Nat) : Prop where
  old : ∀ k, tag k ≠ .out → k < w.heap.size
  tp : tag p = .hdr
  tm : tag m = .mp
  blk : Blk w p 68 #[.map (some m), pv, .int .i64 s.room, .int .i64 s.used]
  map : VMap w m N (fun nm => (s.get nm).map fun _ => .pointer (some ⟨hb nm, 0, none⟩))
  files : ∀ f ∈ s.files, FileAt w tag (hb f.key) f
  pend : PendAt w tag pv s.pend
  room : -9223372036854775808 ≤ s.room ∧ s.room ≤ 9223372036854775807
  used : -9223372036854775808 ≤ s.used ∧ s.used ≤ 9223372036854775807

theorem DAt.open_ {w : World} {F : Nat → Prop} {p N : Nat} {s : DiskS} (h : DAt w F p s N) : ∃ tag m pv hb, (∀ k, F k ↔ tag k ≠ .out) ∧ DOpen w tag m pv hb p s N := by
  obtain ⟨tag, m, pv, hb, h1, h2, h3, h4, h5, h6, h7, h8, h9, h10⟩ := h
  exact ⟨tag, m, pv, hb, h1, ⟨fun k q => h2 k ((h1 k).2 q), h3, h4, h5, h6, h7, h8, h9, h10⟩⟩
theorem DOpen.at_ {w : World} {tag : Nat → DTag} {m : Nat} {pv : Value} {hb : List UInt8 → Nat} {p N : Nat} {s : DiskS} (h : DOpen w tag m pv hb p s N) : DAt w (fun k => tag k ≠ .out) p s N :=
  ⟨tag, m, pv, hb, fun _ => Iff.rfl, h.old, h.tp, h.tm, h.blk, h.map, h.files, h.pend, h.room, h.used⟩

section
variable {w w' : World} {tag tag' : Nat → DTag} {m : Nat} {pv : Value} {hb : List UInt8 → Nat} {p N : Nat} {s : DiskS} {S : Nat → Prop}

/-- Blocks of others turn. -/
theorem DOpen.keep (h : DOpen w tag m pv hb p s N) (hk : Kept S w w') (hd : ∀ k, S k → tag k = .out) : DOpen w' tag m pv hb p s N := by
  have hn : ∀ k t, tag k = t → t ≠ .out → ¬ S k := fun k t e ne q => ne (e.symm.trans (hd k q))
  exact ⟨fun k q => Nat.lt_of_lt_of_le (h.old k q) hk.size, h.tp, h.tm, h.blk.keep hk (hn p _ h.tp (by simp)), h.map.keep hk (hn m _ h.tm (by simp)), fun f hf => (h.files f hf).keep hk (fun _ _ => rfl) (fun k q => by rw [hd k q]; simp), h.pend.keep hk (fun _ _ => rfl) (fun k q => by rw [hd k q]; simp), h.room, h.used⟩

/-- The number of octets is set. -/
theorem DOpen.setUsed (h : DOpen w tag m pv hb p s N) (u : Int) (hu : -9223372036854775808 ≤ u ∧ u ≤ 9223372036854775807) : DOpen (w.setCell ⟨p, 3, none⟩ (.int .i64 u)) tag m pv hb p { s with used := u } N := by
  have hk : Kept (· = p) w (w.setCell ⟨p, 3, none⟩ (.int .i64 u)) := (Kept.refl (· = p) w).setCell (p := ⟨p, 3, none⟩) (fun _ => rfl) _
  have ht : ∀ k, k = p → tag k = .hdr := fun k e => e ▸ h.tp
  refine ⟨fun k q => Nat.lt_of_lt_of_le (h.old k q) hk.size, h.tp, h.tm, h.blk.set_ 3 _, h.map.keep hk (fun q => by have := ht m q; rw [h.tm] at this; cases this), fun f hf => (h.files f hf).keep hk (fun _ _ => rfl) (fun k q => by rw [ht k q]; simp), h.pend.keep hk (fun _ _ => rfl) (fun k q => by rw [ht k q]; simp), h.room, hu⟩

/-- Another row of pending writes. -/
theorem DOpen.setPend (h : DOpen w tag m pv hb p s N) (pv' : Value) (ps : List WrS) (hp : PendAt w tag pv' ps) : DOpen (w.setCell ⟨p, 1, none⟩ pv') tag m pv' hb p { s with pend := ps } N := by
  have hk : Kept (· = p) w (w.setCell ⟨p, 1, none⟩ pv') := (Kept.refl (· = p) w).setCell (p := ⟨p, 1, none⟩) (fun _ => rfl) _
  have ht : ∀ k, k = p → tag k = .hdr := fun k e => e ▸ h.tp
  refine ⟨fun k q => Nat.lt_of_lt_of_le (h.old k q) hk.size, h.tp, h.tm, h.blk.set_ 1 _, h.map.keep hk (fun q => by have := ht m q; rw [h.tm] at this; cases this), fun f hf => (h.files f hf).keep hk (fun _ _ => rfl) (fun k q => by rw [ht k q]; simp), hp.keep hk (fun _ _ => rfl) (fun k q => by rw [ht k q]; simp), h.room, h.used⟩

theorem FileAt.retag {b : Nat} {f : FileS} (h : FileAt w tag b f) (ht : ∀ k, tag k ≠ .out → tag' k = tag k) : FileAt w tag' b f := by
  obtain ⟨h1, h2, dv, sv, h3, h4, h5⟩ := h
  exact ⟨(ht b (by rw [h1]; simp)).trans h1, h2, dv, sv, h3, h4.mono (fun k _ q => (ht k (by rw [q]; simp)).trans q), h5.mono (fun k _ q => (ht k (by rw [q]; simp)).trans q)⟩
theorem PendAt.retag {ps : List WrS} (h : PendAt w tag pv ps) (ht : ∀ k, tag k ≠ .out → tag' k = tag k) : PendAt w tag' pv ps := by
  obtain ⟨css, h1, h2, h3⟩ := h
  refine ⟨css, h1.mono (fun k _ q => (ht k (by rw [q]; simp)).trans q), h2, fun j a b => ?_⟩
  obtain ⟨g1, g2, v, g3, g4⟩ := h3 j a b
  exact ⟨g1, g2, v, g3, g4.mono (fun k _ q => (ht k (by rw [q]; simp)).trans q)⟩
/-- New blocks become the disk's. -/
theorem DOpen.retag (h : DOpen w tag m pv hb p s N) (ht : ∀ k, tag k ≠ .out → tag' k = tag k) (ho : ∀ k, tag' k ≠ .out → k < w.heap.size) : DOpen w tag' m pv hb p s N :=
  ⟨ho, (ht p (by rw [h.tp]; simp)).trans h.tp, (ht m (by rw [h.tm]; simp)).trans h.tm, h.blk, h.map, fun f hf => (h.files f hf).retag ht, h.pend.retag ht, h.room, h.used⟩

theorem DiskS.get_eq {s : DiskS} {f g : FileS} (ha : Asc s.files) (hf : s.get f.key = some f) (hg : g ∈ s.files) (hk : g.key = f.key) : g = f := by
  unfold DiskS.get at hf
  have : ∀ l : List FileS, Asc l → l.find? (fun x => x.key == f.key) = some f → g ∈ l → g = f := by
    intro l
    induction l with
    | nil => intro _ _ h; cases h
    | cons x l ih =>
      intro ha hf hg
      obtain ⟨h1, h2⟩ := List.pairwise_cons.1 ha
      rw [List.find?_cons] at hf
      rcases hx : (x.key == f.key) with _ | _
      · rw [hx] at hf
        rcases List.mem_cons.1 hg with e | e
        · subst e
          have : (g.key == f.key) = true := by simpa using hk
          rw [this] at hx
          cases hx
        · exact ih h2 hf e
      · rw [hx] at hf
        have e1 : x = f := by simpa using hf
        rcases List.mem_cons.1 hg with e | e
        · exact e.trans e1
        · exact absurd hk (fun q => lt_ne (h1 g e) (by rw [e1, q]))
  exact this s.files ha hf hg

/-- A file's octets or its safe ones are another slice. -/
theorem DOpen.setFile (h : DOpen w tag m pv hb p s N) (ha : Asc s.files) {f f' : FileS} (hf : s.get f.key = some f) (hn : f'.name = f.name) (i : Nat) (u : Value)
    (hat : FileAt (w.setCell ⟨hb f.key, i, none⟩ u) tag (hb f.key) f') : DOpen (w.setCell ⟨hb f.key, i, none⟩ u) tag m pv hb p { s with files := putF f' s.files } N := by
  have hk : Kept (· = hb f.key) w (w.setCell ⟨hb f.key, i, none⟩ u) := (Kept.refl (· = hb f.key) w).setCell (p := ⟨hb f.key, i, none⟩) (fun _ => rfl) _
  have hm := (DiskS.get_mem hf).1
  have ht : ∀ k, k = hb f.key → tag k = .fh f.key := fun k e => e ▸ (h.files f hm).1
  have hkey : f'.key = f.key := by unfold FileS.key; rw [hn]
  refine ⟨fun k q => Nat.lt_of_lt_of_le (h.old k q) hk.size, h.tp, h.tm, h.blk.keep hk (fun q => by have := ht p q; rw [h.tp] at this; cases this), ?_, fun g hg => ?_, h.pend.keep hk (fun _ _ => rfl) (fun k q => by rw [ht k q]; simp), h.room, h.used⟩
  · have e : (fun nm => ((({ s with files := putF f' s.files } : DiskS).get nm).map fun _ => Value.pointer (some ⟨hb nm, 0, none⟩))) = fun nm => (s.get nm).map fun _ => Value.pointer (some ⟨hb nm, 0, none⟩) := by
      funext nm
      unfold DiskS.get
      rw [get_put]
      by_cases e : nm = f'.key
      · rw [if_pos e, e, hkey]
        have := hf
        unfold DiskS.get at this
        rw [this]
        rfl
      · rw [if_neg e]
    rw [e]
    exact h.map.keep hk (fun q => by have := ht m q; rw [h.tm] at this; cases this)
  · rcases mem_put f' g s.files ha hg with e | ⟨e, ne⟩
    · subst e
      rw [hkey]
      exact hat
    · exact (h.files g e).keep hk (fun _ _ => rfl) (fun k q => by
        rw [ht k q]
        refine ⟨by simp, fun e2 => ?_, by simp⟩
        injection e2 with e2
        exact ne (by rw [hkey]; exact e2.symm))
end

end Go.Proofs.Ytnlmkfncdklcdaa
