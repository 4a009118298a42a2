/-
  disk.Disk.Append: the disk behind each of its steps.
-/
import Derived.Test.YtnlmkfncdklcdaaDkAppend
namespace Go.Proofs.Ytnlmkfncdklcdaa
open Go.RowKit

/-- The disk with the file of that name in it. -/
def DiskS.with (s : DiskS) (nm : ByteArray) : DiskS := { s with files := putF (s.fileOr nm) s.files }
theorem fileOr_name (s : DiskS) (nm : ByteArray) : (s.fileOr nm).key = nm.toList := by
  unfold DiskS.fileOr
  rcases h : s.get nm.toList with _ | f
  · rfl
  · exact (DiskS.get_mem h).2
theorem with_get (s : DiskS) (nm : ByteArray) : (s.with nm).get nm.toList = some (s.fileOr nm) := by
  unfold DiskS.with DiskS.get
  rw [get_put, if_pos (fileOr_name s nm).symm]
theorem with_old {s : DiskS} {nm : ByteArray} {f : FileS} (ha : Asc s.files) (h : s.get nm.toList = some f) : s.with nm = s := by
  have hk := (DiskS.get_mem h).2
  have e : s.fileOr nm = f := by unfold DiskS.fileOr; rw [h]; rfl
  unfold DiskS.with
  rw [e, put_self f s.files ha (by unfold DiskS.get at h; rw [hk]; exact h)]

theorem DOpen.more {w : World} {tag : Nat → DTag} {m : Nat} {pv : Value} {hb : List UInt8 → Nat} {p N N' : Nat} {s : DiskS} (h : DOpen w tag m pv hb p s N) (hn : N ≤ N') : DOpen w tag m pv hb p s N' :=
  ⟨h.old, h.tp, h.tm, h.blk, h.map.more hn, h.files, h.pend, h.room, h.used⟩
theorem fileOr_nm (s : DiskS) (nm : ByteArray) : (s.fileOr nm).name = nm := name_inj (fileOr_name s nm)
theorem app_with (s : DiskS) (nm : ByteArray) (b : List UInt8) : s.app nm b = { files := putF ⟨nm, (s.fileOr nm).data ++ b, (s.fileOr nm).safe⟩ (s.with nm).files, pend := s.pend ++ [⟨nm, (s.fileOr nm).data.length, b⟩], room := (s.with nm).room, used := s.used + b.length } := by
  unfold DiskS.app DiskS.with
  have := put_put ⟨nm, (s.fileOr nm).data ++ b, (s.fileOr nm).safe⟩ (s.fileOr nm) (fileOr_name s nm).symm s.files
  simp [this]

theorem Seg.max {w : World} {F : Nat → Prop} {A : Option Addr} {n c : Nat} {bs : List UInt8} (h : Seg w F A n c bs) : c ≤ maxLen := by
  rcases h.2 with ⟨_, _, h2⟩ | ⟨g, o, cur, _, _, _, _, h, _⟩
  · rw [h2]; exact Nat.zero_le _
  · exact h

section
variable {w3 w4 w5 : World} {tag1 : Nat → DTag} {m : Nat} {hb1 : List UInt8 → Nat} {p N : Nat} {s1 : DiskS}

theorem append_pend {ps : List WrS} {Ap A4 A5 : Option Addr} {cp c4 c5 off : Nat} {nm : ByteArray} {b : List UInt8} {css : List (List Value)} (o3 : DOpen w3 tag1 m (.slice Ap ps.length cp) hb1 p s1 N)
    (own : Own w3 74 3 (fun k => tag1 k = .pd) (.slice Ap ps.length cp) ps.length css.flatten) (hcl : css.length = ps.length) (hcw : ∀ j (h : j < ps.length) (h' : j < css.length), WrAt w3 tag1 ps[j] css[j])
    (hn : nm.size ≤ 140737488351232) (ho : off ≤ 140737488355328) (o4 : OB w4 (w3.heap.size ≤ ·) (.slice A4 b.length c4) b) (k4 : Kept noneS w3 w4)
    (own5 : Own w5 74 3 (fun k => ownS (.slice Ap ps.length cp) k ∨ k = w4.heap.size + 1) (.slice A5 (ps.length + 1) c5) (ps.length + 1) (css.flatten ++ [.string nm, .int .i64 off, .slice A4 b.length c4]))
    (k5 : Kept (ownS (.slice Ap ps.length cp)) (w4.alloc (.cells #[.string nm, .int .i64 off, .slice A4 b.length c4] 74)) w5) :
    ∃ tag2, DOpen (w5.setCell ⟨p, 1, none⟩ (.slice A5 (ps.length + 1) c5)) tag2 m (.slice A5 (ps.length + 1) c5) hb1 p { s1 with pend := ps ++ [⟨nm, off, b⟩] } N ∧ ∀ k, tag2 k ≠ .out → tag1 k ≠ .out ∨ w3.heap.size ≤ k := by
  have z4 := k4.size
  have z5 : w4.heap.size + 1 ≤ w5.heap.size := by
    have := k5.size
    simpa using this
  have kB : Kept (fun k => tag1 k = .pd) w3 w5 := ((k4.alloc _).mono (fun _ _ q => q.elim)).trans2 k5 (fun k _ q => own.2 k q)
  have hpo : ∀ k, ownS (.slice Ap ps.length cp) k → tag1 k = .pd := fun k q => own.2 k q
  have hlt : ∀ k, tag1 k ≠ .out → k < w3.heap.size := o3.old
  have hT2 : ∀ k, tag1 k ≠ .out → tagAt (tagR tag1 w3.heap.size w4.heap.size .ro) (w4.heap.size + 1) .pd k = tag1 k := fun k q => by
    have := hlt k q
    unfold tagAt tagR
    rw [if_neg (by omega), if_neg (by omega)]
  have hT3 : ∀ k, k < w3.heap.size → tagAt (tagR tag1 w3.heap.size w4.heap.size .ro) (w4.heap.size + 1) .pd k = tag1 k := fun k q => by
    unfold tagAt tagR
    rw [if_neg (by omega), if_neg (by omega)]
  have hT4 : ∀ k, w3.heap.size ≤ k → k < w4.heap.size → tagAt (tagR tag1 w3.heap.size w4.heap.size .ro) (w4.heap.size + 1) .pd k = .ro := fun k q q2 => by
    unfold tagAt tagR
    rw [if_neg (by omega), if_pos ⟨q, q2⟩]
  by_cases hnew : w4.heap.size + 1 < w5.heap.size
  · refine ⟨tagAt (tagR tag1 w3.heap.size w4.heap.size .ro) (w4.heap.size + 1) .pd, o3.repend kB hT2 (fun k q => ?_) ⟨css ++ [[.string nm, .int .i64 off, .slice A4 b.length c4]], ?_, by simp [hcl], fun j h h' => ?_⟩, fun k q => ?_⟩
    · rcases tagAt_out k q with e | e
      · omega
      · rcases tagR_out k e with e | e
        · omega
        · have := hlt k e
          omega
    · have e1 : (ps ++ [(⟨nm, off, b⟩ : WrS)]).length = ps.length + 1 := by simp
      have e2 : (css ++ [[Value.string nm, .int .i64 off, .slice A4 b.length c4]]).flatten = css.flatten ++ [.string nm, .int .i64 off, .slice A4 b.length c4] := by simp
      rw [e1, e2]
      refine own5.mono (fun k _ q => ?_)
      rcases q with q | q
      · exact (hT2 k (by rw [hpo k q]; simp)).trans (hpo k q)
      · rw [q]; exact tagAt_same _ _ _
    · rcases Nat.lt_or_ge j ps.length with hj | hj
      · rw [List.getElem_append_left hj, List.getElem_append_left (by omega)]
        exact (hcw j hj (by omega)).keep kB hT3 (fun k q => by rw [q]; simp)
      · have hj2 : j = ps.length := by simp at h; omega
        subst hj2
        rw [List.getElem_append_right (Nat.le_refl _), List.getElem_append_right (by omega)]
        simp only [Nat.sub_self, hcl, List.getElem_cons_zero]
        refine ⟨hn, ho, _, rfl, ?_⟩
        have h1 := (OB.sl o4).mono (G := fun k => tagAt (tagR tag1 w3.heap.size w4.heap.size .ro) (w4.heap.size + 1) .pd k = .ro ∧ w3.heap.size ≤ k) (fun k a q => ⟨hT4 k q a, q⟩)
        have h2 := h1.keep (((Kept.refl noneS w4).alloc (.cells #[.string nm, .int .i64 off, .slice A4 b.length c4] 74)).mono (S' := ownS (.slice Ap ps.length cp)) (fun _ _ q => q.elim) |>.trans k5) (fun k _ q q2 => by
          have := hlt k (by rw [hpo k q2]; simp)
          omega)
        exact h2.mono (fun k _ q => q.1)
    · rcases tagAt_out k q with e | e
      · exact .inr (by omega)
      · rcases tagR_out k e with e | e
        · exact .inr e.1
        · exact .inl e
  · refine ⟨tagR tag1 w3.heap.size w4.heap.size .ro, o3.repend kB (fun k q => tagR_old hlt k q) (fun k q => ?_) ⟨css ++ [[.string nm, .int .i64 off, .slice A4 b.length c4]], ?_, by simp [hcl], fun j h h' => ?_⟩, fun k q => ?_⟩
    · rcases tagR_out k q with e | e
      · omega
      · have := hlt k e
        omega
    · have e1 : (ps ++ [(⟨nm, off, b⟩ : WrS)]).length = ps.length + 1 := by simp
      have e2 : (css ++ [[Value.string nm, .int .i64 off, .slice A4 b.length c4]]).flatten = css.flatten ++ [.string nm, .int .i64 off, .slice A4 b.length c4] := by simp
      rw [e1, e2]
      refine own5.mono (fun k a q => ?_)
      rcases q with q | q
      · exact (tagR_old hlt k (by rw [hpo k q]; simp)).trans (hpo k q)
      · omega
    · rcases Nat.lt_or_ge j ps.length with hj | hj
      · rw [List.getElem_append_left hj, List.getElem_append_left (by omega)]
        exact (hcw j hj (by omega)).keep kB (fun k q => by unfold tagR; rw [if_neg (by omega)]) (fun k q => by rw [q]; simp)
      · have hj2 : j = ps.length := by simp at h; omega
        subst hj2
        rw [List.getElem_append_right (Nat.le_refl _), List.getElem_append_right (by omega)]
        simp only [Nat.sub_self, hcl, List.getElem_cons_zero]
        refine ⟨hn, ho, _, rfl, ?_⟩
        have h1 := (OB.sl o4).mono (G := fun k => tagR tag1 w3.heap.size w4.heap.size .ro k = .ro ∧ w3.heap.size ≤ k) (fun k a q => ⟨tagR_in q a, q⟩)
        have h2 := h1.keep (((Kept.refl noneS w4).alloc (.cells #[.string nm, .int .i64 off, .slice A4 b.length c4] 74)).mono (S' := ownS (.slice Ap ps.length cp)) (fun _ _ q => q.elim) |>.trans k5) (fun k _ q q2 => by
          have := hlt k (by rw [hpo k q2]; simp)
          omega)
        exact h2.mono (fun k _ q => q.1)
    · rcases tagR_out k q with e | e
      · exact .inr e.1
      · exact .inl e

theorem append_data {pv : Value} {f : FileS} {b1 : Nat} {A7 Ad : Option Addr} {c7 cd : Nat} {sv : Value} {b : List UInt8} (o6 : DOpen w3 tag1 m pv hb1 p s1 N) (ha : Asc s1.files) (hg : s1.get f.key = some f) (hb : hb1 f.key = b1)
    (hbk : Blk w3 b1 71 #[.slice Ad f.data.length cd, sv]) (h6 : Seg w3 (fun k => tag1 k = .fd f.key) Ad f.data.length cd f.data) (hsv : SlAt w3 (fun k => tag1 k = .ro) sv f.safe)
    (h7 : Seg w4 (fun k => tag1 k = .fd f.key ∨ k = w3.heap.size) A7 (f.data.length + b.length) c7 (f.data ++ b)) (k7 : Kept (segS Ad) w3 w4) :
    ∃ tag2, DOpen (w4.setCell ⟨b1, 0, none⟩ (.slice A7 (f.data.length + b.length) c7)) tag2 m pv hb1 p { s1 with files := putF ⟨f.name, f.data ++ b, f.safe⟩ s1.files } N ∧ ∀ k, tag2 k ≠ .out → tag1 k ≠ .out ∨ w3.heap.size ≤ k := by
  subst hb
  have hf := o6.files f (DiskS.get_mem hg).1
  have hk7 : Kept (fun k => tag1 k = .fd f.key) w3 w4 := k7.mono (fun k _ q => (h6.segS_lt q).1)
  have hlt : ∀ k, tag1 k ≠ .out → k < w3.heap.size := o6.old
  have z := k7.size
  have hb7 : Blk w4 (hb1 f.key) 71 #[.slice Ad f.data.length cd, sv] := hbk.keep hk7 (fun q => by rw [hf.1] at q; cases q)
  have k8 : Kept (· = hb1 f.key) w4 (w4.setCell ⟨hb1 f.key, 0, none⟩ (.slice A7 (f.data.length + b.length) c7)) := (Kept.refl (· = hb1 f.key) w4).setCell (p := ⟨hb1 f.key, 0, none⟩) (fun _ => rfl) _
  have key : ∀ tag2 : Nat → DTag, (∀ k, tag1 k ≠ .out → tag2 k = tag1 k) → (∀ k, tag2 k ≠ .out → k < w4.heap.size) → Seg w4 (fun k => tag2 k = .fd f.key) A7 (f.data.length + b.length) c7 (f.data ++ b) →
      DOpen (w4.setCell ⟨hb1 f.key, 0, none⟩ (.slice A7 (f.data.length + b.length) c7)) tag2 m pv hb1 p { s1 with files := putF ⟨f.name, f.data ++ b, f.safe⟩ s1.files } N := by
    intro tag2 ht ho hs
    have t2 : tag2 (hb1 f.key) = .fh f.key := (ht _ (by rw [hf.1]; simp)).trans hf.1
    refine o6.refile (f' := ⟨f.name, f.data ++ b, f.safe⟩) ha hg rfl hk7 ht ho 0 _ ⟨t2, hf.2.1, _, sv, hb7.set_ 0 _, ?_, ?_⟩
    · refine ⟨A7, c7, by simp, ?_, hs.max⟩
      have hs' := hs.keep k8 (fun k _ q e => by rw [e, t2] at q; cases q)
      show Seg _ (fun k => tag2 k = .fd f.key) A7 (f.data ++ b).length c7 (f.data ++ b)
      rw [List.length_append]
      exact hs'
    · have h1 := (hsv.keep hk7 (fun k _ q e => by rw [e] at q; cases q)).mono (G := fun k => tag2 k = .ro) (fun k _ q => (ht k (by rw [q]; simp)).trans q)
      exact h1.keep k8 (fun k _ q e => by rw [e, t2] at q; cases q)
  by_cases hnew : w3.heap.size < w4.heap.size
  · refine ⟨tagAt tag1 w3.heap.size (.fd f.key), key _ (fun k q => tagAt_old (by
      by_cases e : tag1 w3.heap.size = .out
      · exact e
      · exact absurd (hlt _ e) (Nat.lt_irrefl _)) k q) (fun k q => ?_) (h7.mono (fun k _ q => ?_)), fun k q => ?_⟩
    · rcases tagAt_out k q with e | e
      · omega
      · have := hlt k e
        omega
    · rcases q with q | q
      · exact (tagAt_old (by
          by_cases e : tag1 w3.heap.size = .out
          · exact e
          · exact absurd (hlt _ e) (Nat.lt_irrefl _)) k (by rw [q]; simp)).trans q
      · rw [q]; exact tagAt_same _ _ _
    · rcases tagAt_out k q with e | e
      · exact .inr (by omega)
      · exact .inl e
  · refine ⟨tag1, key _ (fun _ _ => rfl) (fun k q => by have := hlt k q; omega) (h7.mono (fun k a q => ?_)), fun k q => .inl q⟩
    rcases q with q | q
    · exact q
    · omega
end

end Go.Proofs.Ytnlmkfncdklcdaa
