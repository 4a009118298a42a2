/-
  disk.Disk: a file's safe octets are those that are read; its octets are shortened; in memory and in plain words.
-/
import Derived.Test.YtnlmkfncdklcdaaDkFrg
import Derived.Test.YtnlmkfncdklcdaaDkAppP
namespace Go.Proofs.Ytnlmkfncdklcdaa
open Go.RowKit

/-- A file of that name is another one. -/
def updF (nm : List UInt8) (u : FileS → FileS) (l : List FileS) : List FileS := l.map fun g => if g.key = nm then u g else g
theorem upd_key {nm : List UInt8} {u : FileS → FileS} (hu : ∀ g, (u g).key = g.key) (g : FileS) : (if g.key = nm then u g else g).key = g.key := by
  split
  · exact hu g
  · rfl
theorem upd_find {nm : List UInt8} {u : FileS → FileS} (hu : ∀ g, (u g).key = g.key) (k : List UInt8) : ∀ l : List FileS, (updF nm u l).find? (fun x => x.key == k) = (l.find? (fun x => x.key == k)).map fun g => if g.key = nm then u g else g
  | [] => rfl
  | g :: l => by
    unfold updF at *
    rw [List.map_cons, List.find?_cons, List.find?_cons, upd_key hu]
    rcases h : (g.key == k) with _ | _
    · exact upd_find hu k l
    · rfl
theorem upd_asc {nm : List UInt8} {u : FileS → FileS} (hu : ∀ g, (u g).key = g.key) {l : List FileS} (h : Asc l) : Asc (updF nm u l) := by
  unfold Asc updF
  rw [List.pairwise_map]
  refine h.imp (fun {a b} hab => ?_)
  rw [upd_key hu, upd_key hu]
  exact hab
theorem upd_none {nm : List UInt8} {u : FileS → FileS} : ∀ l : List FileS, (∀ g ∈ l, g.key ≠ nm) → updF nm u l = l
  | [], _ => rfl
  | g :: l, h => by
    unfold updF at *
    rw [List.map_cons, if_neg (h g List.mem_cons_self)]
    have := upd_none (nm := nm) (u := u) l (fun x hx => h x (List.mem_cons_of_mem _ hx))
    unfold updF at this
    rw [this]
theorem put_upd {nm : List UInt8} {u : FileS → FileS} (hu : ∀ g, (u g).key = g.key) {f : FileS} : ∀ l : List FileS, Asc l → l.find? (fun x => x.key == nm) = some f → putF (u f) l = updF nm u l
  | [], _, h => by cases h
  | g :: l, ha, h => by
    obtain ⟨h3, h4⟩ := List.pairwise_cons.1 ha
    rw [List.find?_cons] at h
    rw [putF, hu]
    rcases e : (g.key == nm) with _ | _
    · rw [e] at h
      have hf := List.find?_some h
      have hfk : f.key = nm := by simpa using hf
      have hg : ¬ g.key = nm := by simpa using e
      have hlt : g.key < f.key := h3 f (List.mem_of_find?_eq_some h)
      rw [if_neg (by rw [hfk]; exact hg), if_neg (fun q => lt_irr _ (lt_tr q hlt)), put_upd hu l h4 h]
      unfold updF
      rw [List.map_cons, if_neg hg]
    · rw [e] at h
      have hfg : g = f := by simpa using h
      subst hfg
      have hg : g.key = nm := by simpa using e
      rw [if_pos rfl]
      have := upd_none (nm := nm) (u := u) l (fun x hx => by rw [← hg]; exact fun q => lt_ne (h3 x hx) q.symm)
      unfold updF at this ⊢
      rw [List.map_cons, if_pos hg, this]

def safeF (g : FileS) : FileS := { g with safe := g.data }
def cutF (n : Nat) (g : FileS) : FileS := { g with data := g.data.take n }
def DiskS.upd (s : DiskS) (nm : List UInt8) (u : FileS → FileS) : DiskS := { s with files := updF nm u s.files }

section
variable {w3 w4 : World} {tag : Nat → DTag} {m : Nat} {pv : Value} {hb : List UInt8 → Nat} {p N : Nat} {t : DiskS} {f : FileS}

theorem resafe {A4 : Option Addr} {c4 : Nat} (o3 : DOpen w3 tag m pv hb p t N) (ha : Asc t.files) (hg : t.get f.key = some f) (o4 : OB w4 (w3.heap.size ≤ ·) (.slice A4 f.data.length c4) f.data) (k4 : Kept noneS w3 w4) :
    ∃ tag', DOpen (w4.setCell ⟨hb f.key, 1, none⟩ (.slice A4 f.data.length c4)) tag' m pv hb p (t.upd f.key safeF) N ∧ ∀ k, tag' k ≠ .out → tag k ≠ .out ∨ w3.heap.size ≤ k := by
  have hlt := o3.old
  have hmem := (DiskS.get_mem hg).1
  obtain ⟨g1, g2, dv, sv, g3, g4, g5⟩ := o3.files f hmem
  have ht : ∀ k, tag k ≠ .out → tagR tag w3.heap.size w4.heap.size .ro k = tag k := fun k q => tagR_old hlt k q
  have hout : ∀ k, tagR tag w3.heap.size w4.heap.size .ro k ≠ .out → (w3.heap.size ≤ k ∧ k < w4.heap.size) ∨ tag k ≠ .out := fun k q => tagR_out k q
  have t1 : tagR tag w3.heap.size w4.heap.size .ro (hb f.key) = .fh f.key := (ht _ (by rw [g1]; simp)).trans g1
  have k8 : Kept (· = hb f.key) w4 (w4.setCell ⟨hb f.key, 1, none⟩ (.slice A4 f.data.length c4)) := (Kept.refl (· = hb f.key) w4).setCell (p := ⟨hb f.key, 1, none⟩) (fun _ => rfl) _
  have e : (t.upd f.key safeF) = { t with files := putF (safeF f) t.files } := by
    unfold DiskS.upd
    have hg' := hg
    unfold DiskS.get at hg'
    rw [put_upd (u := safeF) (fun _ => rfl) t.files ha hg']
  refine ⟨tagR tag w3.heap.size w4.heap.size .ro, ?_, fun k q => (hout k q).elim (fun h => .inr h.1) .inl⟩
  rw [e]
  refine o3.refile (f' := safeF f) ha hg rfl (k4.mono (fun _ _ q => q.elim)) ht (fun k q => ?_) 1 _ ⟨t1, g2, dv, _, (g3.keep k4 (fun q => q)).set_ 1 _, ?_, ?_⟩
  · rcases hout k q with h | h
    · exact h.2
    · exact Nat.lt_of_lt_of_le (hlt k h) k4.size
  · refine ((g4.mono (fun k _ q => (ht k (by rw [q]; simp)).trans q)).keep k4 (fun _ _ _ q => q)).keep k8 (fun k _ q r => ?_)
    rw [r, t1] at q
    cases q
  · refine ((OB.sl o4).mono (G := fun k => tagR tag w3.heap.size w4.heap.size .ro k = .ro) (fun k a q => tagR_in q a)).keep k8 (fun k _ q r => ?_)
    rw [r, t1] at q
    cases q

theorem redata {A : Option Addr} {c n : Nat} (o3 : DOpen w3 tag m pv hb p t N) (ha : Asc t.files) (hg : t.get f.key = some f) (hA : ∃ sv, Blk w3 (hb f.key) 71 #[.slice A f.data.length c, sv]) (hn : n ≤ f.data.length) :
    DOpen (w3.setCell ⟨hb f.key, 0, none⟩ (.slice A n n)) tag m pv hb p (t.upd f.key (cutF n)) N := by
  have hmem := (DiskS.get_mem hg).1
  obtain ⟨g1, g2, dv, sv, g3, g4, g5⟩ := o3.files f hmem
  obtain ⟨sv', hA⟩ := hA
  have hdv : dv = .slice A f.data.length c ∧ sv = sv' := by
    unfold Blk at g3 hA
    rw [hA] at g3
    injection g3 with g3
    injection g3 with g3
    simp at g3
    exact ⟨g3.1.symm, g3.2.symm⟩
  obtain ⟨rfl, rfl⟩ := hdv
  obtain ⟨A', c', e', sg, hc⟩ := g4
  injection e' with e1 e2 e3
  subst e1 e3
  have k8 : Kept (· = hb f.key) w3 (w3.setCell ⟨hb f.key, 0, none⟩ (.slice A n n)) := (Kept.refl (· = hb f.key) w3).setCell (p := ⟨hb f.key, 0, none⟩) (fun _ => rfl) _
  have hl : (f.data.take n).length = n := by rw [List.length_take]; omega
  have e : (t.upd f.key (cutF n)) = { t with files := putF (cutF n f) t.files } := by
    unfold DiskS.upd
    have hg' := hg
    unfold DiskS.get at hg'
    rw [put_upd (u := cutF n) (fun _ => rfl) t.files ha hg']
  rw [e]
  refine o3.refile (f' := cutF n f) ha hg rfl (Kept.refl _ _) (fun _ _ => rfl) o3.old 0 _ ⟨g1, g2, _, sv, g3.set_ 0 _, ⟨A, n, by show _ = Value.slice A (f.data.take n).length n; rw [hl], ?_, Nat.le_trans (Nat.le_trans hn sg.cap) hc⟩, g5.keep k8 (fun k _ q r => by rw [r, g1] at q; cases q)⟩
  refine Seg.keep (w := w3) ?_ k8 (fun k _ q r => by rw [r, show tag (hb f.key) = .fh f.key from g1] at q; cases q)
  show Seg w3 _ A (f.data.take n).length n (f.data.take n)
  rw [hl]
  refine ⟨hl.symm, ?_⟩
  rcases sg.2 with ⟨h1, h2, h3⟩ | ⟨g, o, cur, h1, h2, h3, h4, h5, h6, h7⟩
  · exact .inl ⟨h1, by omega, by omega⟩
  · refine .inr ⟨g, o, cur, h1, h2, h3, Nat.le_refl _, by omega, by omega, ?_⟩
    rw [bvs_take, ← h7, List.take_take, Nat.min_eq_left hn]
end

end Go.Proofs.Ytnlmkfncdklcdaa
