/-
  A disk.Disk in memory: a new file.
-/
import Derived.Test.YtnlmkfncdklcdaaDkUpd
namespace Go.Proofs.Ytnlmkfncdklcdaa
open Go.RowKit

section
variable {w w' : World} {tag : Nat → DTag} {m : Nat} {pv : Value} {hb : List UInt8 → Nat} {p N : Nat} {s : DiskS}

/-- A new file without octets, behind the map's store. -/
theorem DOpen.addFile (h : DOpen w tag m pv hb p s N) (ha : Asc s.files) (nm : ByteArray) (hn : nm.size ≤ 140737488351232) (_hg : s.get nm.toList = none) (b : Nat) (hbk : Blk w b 71 #[.slice none 0 0, .slice none 0 0]) (htb : tag b = .fh nm.toList)
    (hk : Kept (· = m) w w') (hv : VMap w' m (N + 1) (fun k => if k = nm.toList then some (.pointer (some ⟨b, 0, none⟩)) else (s.get k).map fun _ => .pointer (some ⟨hb k, 0, none⟩))) :
    DOpen w' tag m pv (fun k => if k = nm.toList then b else hb k) p { s with files := putF ⟨nm, [], []⟩ s.files } (N + 1) := by
  have ht : ∀ k, k = m → tag k = .mp := fun k e => e ▸ h.tm
  refine ⟨fun k q => Nat.lt_of_lt_of_le (h.old k q) hk.size, h.tp, h.tm, h.blk.keep hk (fun q => by have := ht p q; rw [h.tp] at this; cases this), ?_, fun g hgm => ?_, h.pend.keep hk (fun _ _ => rfl) (fun k q => by rw [ht k q]; simp), h.room, h.used⟩
  · have e : (fun k => ((({ s with files := putF ⟨nm, [], []⟩ s.files } : DiskS).get k).map fun _ => Value.pointer (some ⟨(if k = nm.toList then b else hb k), 0, none⟩))) = fun k => if k = nm.toList then some (Value.pointer (some ⟨b, 0, none⟩)) else (s.get k).map fun _ => Value.pointer (some ⟨hb k, 0, none⟩) := by
      funext k
      unfold DiskS.get
      rw [get_put]
      show Option.map _ (if k = nm.toList then _ else _) = _
      by_cases e : k = nm.toList
      · rw [if_pos e, if_pos e, if_pos e]
        rfl
      · rw [if_neg e, if_neg e]
        simp only [if_neg e]
    rw [e]
    exact hv
  · rcases mem_put _ g s.files ha hgm with e | ⟨e, ne⟩
    · subst e
      show FileAt w' tag (if nm.toList = nm.toList then b else _) _
      rw [if_pos rfl]
      exact ⟨htb, hn, _, _, hbk.keep hk (fun q => by have := ht b q; rw [htb] at this; cases this), ⟨none, 0, rfl, Seg.nil _ _, by decide⟩, ⟨none, 0, rfl, RB.nil _ _ _, Nat.le_refl _, by decide, fun _ => ⟨rfl, rfl⟩⟩⟩
    · have ne' : ¬ g.key = nm.toList := ne
      show FileAt w' tag (if g.key = nm.toList then b else hb g.key) g
      rw [if_neg ne']
      exact (h.files g e).keep hk (fun _ _ => rfl) (fun k q => by rw [ht k q]; simp)

/-- The row of pending writes is another one. -/
theorem DOpen.repend (h : DOpen w tag m pv hb p s N) {tag' : Nat → DTag} (hk : Kept (fun k => tag k = .pd) w w') (ht : ∀ k, tag k ≠ .out → tag' k = tag k) (ho : ∀ k, tag' k ≠ .out → k < w'.heap.size) {pv' : Value} {ps : List WrS} (hp : PendAt w' tag' pv' ps) :
    DOpen (w'.setCell ⟨p, 1, none⟩ pv') tag' m pv' hb p { s with pend := ps } N := by
  have k2 : Kept (· = p) w' (w'.setCell ⟨p, 1, none⟩ pv') := (Kept.refl (· = p) w').setCell (p := ⟨p, 1, none⟩) (fun _ => rfl) _
  have k3 : Kept (fun k => tag k = .pd ∨ tag k = .hdr) w (w'.setCell ⟨p, 1, none⟩ pv') := (hk.mono (fun _ _ q => .inl q)).trans2 k2 (fun k _ q => .inr (by rw [q]; exact h.tp))
  have hbp : Blk w' p 68 #[.map (some m), pv, .int .i64 s.room, .int .i64 s.used] := h.blk.keep hk (fun q => by rw [h.tp] at q; cases q)
  have tp' : tag' p = .hdr := (ht p (by rw [h.tp]; simp)).trans h.tp
  refine ⟨fun k q => Nat.lt_of_lt_of_le (ho k q) k2.size, tp', (ht m (by rw [h.tm]; simp)).trans h.tm, hbp.set_ 1 _, h.map.keep k3 (fun q => by rw [h.tm] at q; simp at q), fun f hf => ((h.files f hf).keep k3 (fun _ _ => rfl) (fun k q => by rcases q with q | q <;> rw [q] <;> simp)).retag ht, hp.keep k2 (fun _ _ => rfl) (fun k q => by rw [q, tp']; simp), h.room, h.used⟩
/-- A file's octets or its safe ones are another slice, whose row may lie in a new block. -/
theorem DOpen.refile (h : DOpen w tag m pv hb p s N) (ha : Asc s.files) {tag' : Nat → DTag} {f f' : FileS} (hf : s.get f.key = some f) (hkey : f'.key = f.key) (hk : Kept (fun k => tag k = .fd f.key) w w') (ht : ∀ k, tag k ≠ .out → tag' k = tag k) (ho : ∀ k, tag' k ≠ .out → k < w'.heap.size) (i : Nat) (u : Value)
    (hat : FileAt (w'.setCell ⟨hb f.key, i, none⟩ u) tag' (hb f.key) f') : DOpen (w'.setCell ⟨hb f.key, i, none⟩ u) tag' m pv hb p { s with files := putF f' s.files } N := by
  have k2 : Kept (· = hb f.key) w' (w'.setCell ⟨hb f.key, i, none⟩ u) := (Kept.refl (· = hb f.key) w').setCell (p := ⟨hb f.key, i, none⟩) (fun _ => rfl) _
  have hm := (DiskS.get_mem hf).1
  have ht0 : tag (hb f.key) = .fh f.key := (h.files f hm).1
  have k3 : Kept (fun k => tag k = .fd f.key ∨ tag k = .fh f.key) w (w'.setCell ⟨hb f.key, i, none⟩ u) := (hk.mono (fun _ _ q => .inl q)).trans2 k2 (fun k _ q => .inr (by rw [q]; exact ht0))
  have tp' : tag' p = .hdr := (ht p (by rw [h.tp]; simp)).trans h.tp
  have tm' : tag' m = .mp := (ht m (by rw [h.tm]; simp)).trans h.tm
  refine ⟨fun k q => Nat.lt_of_lt_of_le (ho k q) k2.size, tp', tm', h.blk.keep k3 (fun q => by rw [h.tp] at q; simp at q), ?_, fun g hg => ?_, (h.pend.keep k3 (fun _ _ => rfl) (fun k q => by rcases q with q | q <;> rw [q] <;> simp)).retag ht, h.room, h.used⟩
  · have e : (fun nm => ((({ s with files := putF f' s.files } : DiskS).get nm).map fun _ => Value.pointer (some ⟨hb nm, 0, none⟩))) = fun nm => (s.get nm).map fun _ => Value.pointer (some ⟨hb nm, 0, none⟩) := by
      funext nm
      unfold DiskS.get
      rw [get_put]
      by_cases e : nm = f'.key
      · rw [if_pos e, e, hkey]
        have := hf
        unfold DiskS.get at this
        rw [this]
        rfl
      · rw [if_neg e]
    rw [e]
    exact h.map.keep k3 (fun q => by rw [h.tm] at q; simp at q)
  · rcases mem_put f' g s.files ha hg with e | ⟨e, ne⟩
    · subst e
      rw [hkey]
      exact hat
    · refine ((h.files g e).keep k3 (fun _ _ => rfl) (fun k q => ?_)).retag ht
      have ne' : ¬ f.key = g.key := fun e => ne (by rw [hkey]; exact e.symm)
      rcases q with q | q <;> rw [q] <;> simp [ne']
end

/-- A tag more. -/
def tagAt (tag : Nat → DTag) (b : Nat) (t : DTag) : Nat → DTag := fun k => if k = b then t else tag k
theorem tagAt_same (tag : Nat → DTag) (b : Nat) (t : DTag) : tagAt tag b t b = t := by unfold tagAt; rw [if_pos rfl]
theorem tagAt_old {tag : Nat → DTag} {b : Nat} {t : DTag} (hb : tag b = .out) (k : Nat) (hk : tag k ≠ .out) : tagAt tag b t k = tag k := by
  unfold tagAt
  rw [if_neg (fun e => hk (by rw [e]; exact hb))]
theorem tagAt_out {tag : Nat → DTag} {b : Nat} {t : DTag} (k : Nat) (hk : tagAt tag b t k ≠ .out) : k = b ∨ tag k ≠ .out := by
  unfold tagAt at hk
  by_cases e : k = b
  · exact .inl e
  · rw [if_neg e] at hk
    exact .inr hk

/-- Blocks from lo up to hi get a tag. -/
def tagR (tag : Nat → DTag) (lo hi : Nat) (t : DTag) : Nat → DTag := fun k => if lo ≤ k ∧ k < hi then t else tag k
theorem tagR_in {tag : Nat → DTag} {lo hi : Nat} {t : DTag} {k : Nat} (h1 : lo ≤ k) (h2 : k < hi) : tagR tag lo hi t k = t := by unfold tagR; rw [if_pos ⟨h1, h2⟩]
theorem tagR_old {tag : Nat → DTag} {lo hi : Nat} {t : DTag} (h : ∀ k, tag k ≠ .out → k < lo) (k : Nat) (hk : tag k ≠ .out) : tagR tag lo hi t k = tag k := by
  unfold tagR
  rw [if_neg (fun q => by have := h k hk; omega)]
theorem tagR_out {tag : Nat → DTag} {lo hi : Nat} {t : DTag} (k : Nat) (hk : tagR tag lo hi t k ≠ .out) : (lo ≤ k ∧ k < hi) ∨ tag k ≠ .out := by
  unfold tagR at hk
  by_cases e : lo ≤ k ∧ k < hi
  · exact .inl e
  · rw [if_neg e] at hk
    exact .inr hk

end Go.Proofs.Ytnlmkfncdklcdaa
