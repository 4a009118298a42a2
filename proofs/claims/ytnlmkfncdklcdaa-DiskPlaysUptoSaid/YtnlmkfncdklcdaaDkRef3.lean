/-
  The document's Disk: Cut, Remove.
-/
import Derived.Test.YtnlmkfncdklcdaaDkRef2
import Derived.Deep.AppendLies
namespace Go.Proofs.Ytnlmkfncdklcdaa
open Go.RowKit

theorem upd_set {nm : List UInt8} {u : FileS → FileS} : ∀ (l : List FileS) (i : Nat) (h : i < l.length), Asc l → l[i].key = nm → updF nm u l = l.set i (u l[i])
  | [], i, h, _, _ => by cases h
  | g :: l, 0, _, ha, hk => by
    obtain ⟨h3, h4⟩ := List.pairwise_cons.1 ha
    have hg : g.key = nm := hk
    have := upd_none (nm := nm) (u := u) l (fun x hx => by rw [← hg]; exact fun a => lt_ne (h3 x hx) a.symm)
    unfold updF at this ⊢
    rw [List.map_cons, if_pos hg, this]
    rfl
  | g :: l, i + 1, h, ha, hk => by
    obtain ⟨h3, h4⟩ := List.pairwise_cons.1 ha
    have hi : i < l.length := by simpa using h
    have hk' : l[i].key = nm := hk
    have hg : ¬ g.key = nm := fun a => lt_ne (h3 l[i] (List.getElem_mem hi)) (by rw [a, hk'])
    have := upd_set (nm := nm) (u := u) l i hi h4 hk'
    unfold updF at this ⊢
    rw [List.map_cons, if_neg hg, this]
    rfl
theorem del_none {nm : List UInt8} (l : List FileS) (h : ∀ g ∈ l, g.key ≠ nm) : delF nm l = l := by
  unfold delF
  rw [List.filter_eq_self]
  intro g hg
  have := h g hg
  simpa using this
theorem del_erase {nm : List UInt8} : ∀ (l : List FileS) (i : Nat) (h : i < l.length), Asc l → l[i].key = nm → delF nm l = l.eraseIdx i
  | [], i, h, _, _ => by cases h
  | g :: l, 0, _, ha, hk => by
    obtain ⟨h3, h4⟩ := List.pairwise_cons.1 ha
    have hg : g.key = nm := hk
    have := del_none (nm := nm) l (fun x hx => by rw [← hg]; exact fun a => lt_ne (h3 x hx) a.symm)
    unfold delF at this ⊢
    rw [List.filter_cons]
    simp [hg, this]
  | g :: l, i + 1, h, ha, hk => by
    obtain ⟨h3, h4⟩ := List.pairwise_cons.1 ha
    have hi : i < l.length := by simpa using h
    have hk' : l[i].key = nm := hk
    have hg : ¬ g.key = nm := fun a => lt_ne (h3 l[i] (List.getElem_mem hi)) (by rw [a, hk'])
    have := del_erase (nm := nm) l i hi h4 hk'
    unfold delF at this ⊢
    rw [List.filter_cons]
    simp [hg, this]
theorem find_place {nm : List UInt8} {l : List FileS} {f : FileS} (h : l.find? (fun x => x.key == nm) = some f) : ∃ i : Nat, ∃ hi : i < l.length, findI nm l = i ∧ l[i] = f ∧ l[i].key = nm := by
  have h0 : (l.find? (fun x => x.key == nm)).isSome = true := by rw [h]; rfl
  have h1 : placeOf nm l < l.length := by
    unfold placeOf
    rw [List.findIdx_lt_length]
    exact List.find?_isSome.1 h0
  have h2 : l[placeOf nm l] = f := by
    have := List.find?_eq_getElem?_findIdx (xs := l) (p := fun x => x.key == nm)
    rw [h] at this
    have h3 : l[placeOf nm l]? = some f := this.symm
    rw [List.getElem?_eq_getElem h1] at h3
    exact Option.some.inj h3
  refine ⟨placeOf nm l, h1, ?_, h2, ?_⟩
  · unfold findI
    rw [if_pos h1]
  · rw [h2]
    simpa using List.find?_some h
theorem find_no {nm : List UInt8} {l : List FileS} (h : l.find? (fun x => x.key == nm) = none) : findI nm l = -1 := by
  have h1 : ¬ placeOf nm l < l.length := by
    unfold placeOf
    rw [List.findIdx_lt_length]
    rintro ⟨x, hx, hp⟩
    have := List.find?_eq_none.1 h x hx
    exact this hp
  unfold findI
  rw [if_neg h1]

/-- What the document's Cut answers. -/
theorem refCutBad (G : Nat → Prop) (q : Nat) (s : DiskS) (nm : ByteArray) (n : Int) (w : World) (h : RAt w G q s) (he : s.cutErr nm.toList n ≠ 0) :
    Calls Try.prog 33 #[.pointer (some ⟨q, 0, none⟩), .string nm, .int .i64 n] w fun e w' => e = .returned (.int .i64 (s.cutErr nm.toList n)) ∧ Kept noneS w w' := by
  obtain ⟨r, hr⟩ : ∃ r, s.cutErr nm.toList n = r := ⟨_, rfl⟩
  rw [hr] at he ⊢
  unfold DiskS.cutErr at hr
  have HRA := Lib.hid h
  obtain ⟨tag, fv, pv, l, hG, ho⟩ := h
  rcases hg : s.get nm.toList with _ | f
  · rw [hg] at hr
    have hf := find_no hg
    subst hr
    have HFi := Lib.hid hf
    clear ho hG hg he hf
    go_enter Try.func33, Try.ntmps33
    go_wp2_with fail
    refine (refFind G q s nm w HRA.out).mono ?_
    rintro e w1 ⟨rfl, rfl⟩
    rw [HFi.out]
    go_wp2
    go_ret
    exact ⟨rfl, Kept.refl _ _⟩
  · rw [hg] at hr
    have hr2 : (if n < 0 ∨ (f.data.length : Int) < n then (2 : Int) else 0) = r := hr
    clear hr
    obtain ⟨i, hi, hfi, hfe, _⟩ := find_place (show s.files.find? _ = some f from hg)
    by_cases hbad : n < 0 ∨ (f.data.length : Int) < n
    · rw [if_pos hbad] at hr2
      subst hr2
      obtain ⟨A, c, rfl, hc, hm, _⟩ := Own.form ho.frow
      have hil : i < l.length := by
        have := congrArg List.length ho.fls
        rw [List.length_map] at this
        omega
      have hle : l[i].1 = f := by
        have h1 : (l.map (·.1))[i]? = some f := by rw [ho.fls, List.getElem?_eq_getElem hi, hfe]
        rw [List.getElem?_map, List.getElem?_eq_getElem hil] at h1
        exact Option.some.inj h1
      have c0 : w.cell? ⟨q, 0, none⟩ = some (.slice A l.length c) := ho.blk.cell 0
      obtain ⟨g, rfl, _, _, q1, _⟩ := Own.at3 ho.frow hil
      obtain ⟨A1, c1, e1, _⟩ := Own.form (ho.fat l[i] (List.getElem_mem hil)).2
      have q1' : w.cell? ⟨g, i * 3 + 1, none⟩ = some (.slice A1 l[i].1.data.length c1) := q1.trans (congrArg some e1)
      rw [hle] at q1'
      have HFi := Lib.hid hfi
      have hii : (i : Int) < (l.length : Int) := by omega
      have hi0 : (0 : Int) ≤ (i : Int) := by omega
      clear ho hG hg he hfe q1 e1 hle hfi
      by_cases hneg : n < 0
      · clear hbad
        go_enter Try.func33, Try.ntmps33
        go_wp2_with fail
        refine (refFind G q s nm w HRA.out).mono ?_
        rintro e w1 ⟨rfl, rfl⟩
        rw [HFi.out]
        go_wp2
        go_ret
        exact ⟨rfl, Kept.refl _ _⟩
      · have hgt : (f.data.length : Int) < n := hbad.elim (fun a => absurd a hneg) id
        have hn0 : 0 ≤ n := Int.not_lt.1 hneg
        clear hbad hneg
        go_enter Try.func33, Try.ntmps33
        go_wp2_with fail
        refine (refFind G q s nm w HRA.out).mono ?_
        rintro e w1 ⟨rfl, rfl⟩
        rw [HFi.out]
        go_wp2
        go_ret
        exact ⟨rfl, Kept.refl _ _⟩
    · rw [if_neg hbad] at hr2
      exact absurd hr2.symm he

theorem run_slice_to (w : World) (A : Option Addr) (n c k : Nat) (h1 : k ≤ c) : (Instr.slice 34 (.slice A n c) none (some (.int .i64 (k : Int))) none).run Try.prog w = .ok (.slice A k c) w := by
  obtain ⟨i, hi', _, hs, _⟩ := info_parts infoU8
  have h3 : (k : Int) ≤ (c : Int) := by omega
  have h4 : (A.map (·.add 0)) = A := by cases A <;> simp [Addr.add]
  simp [Instr.slice, run_underlying Try.underlying34, Instr.sliceBounds, run_sliceBound, sizeOf, typeInfo, hi', h3, h4]
theorem refCopyN (A : Option Addr) (n c : Nat) (xs : List UInt8) (F : Nat → Prop) (w : World) (hl : xs.length = n) (hx : RB w F A xs) (hn : n ≤ 140737488351232) :
    Calls Try.prog 29 #[.slice A n c] w fun e w' => ∃ A' c', e = .returned (.slice A' n c') ∧ OB w' (w.heap.size ≤ ·) (.slice A' n c') xs ∧ Kept noneS w w' := by
  subst hl
  exact refCopyB A c xs F w hx hn

/-- An element of the files' row is another one. -/
theorem ROpen.setEl {w w' : World} {tag : Nat → RTag} {pv : Value} {l : List RF} {q c : Nat} {s : DiskS} {A : Option Addr} (h : ROpen w tag (.slice A l.length c) pv l q s) (hk : Kept (fun k => tag k = .fs) w w') (i : Nat) (x : RF) (ho : Own w' 58 3 (fun k => tag k = .fs) (.slice A l.length c) l.length (tF.fl (l.set i x)))
    (hx : x.1.name.size ≤ 140737488351232 ∧ OB w (fun k => tag k = .fd x.1.key) x.2 x.1.data) : ROpen w' tag (.slice A l.length c) pv (l.set i x) q { s with files := s.files.set i x.1 } := by
  have h1 := h.turnRow hk (l.set i x) (by rw [List.length_set]; exact ho) (fun p hp => by
    rcases List.mem_or_eq_of_mem_set hp with e | e
    · exact h.fat p e
    · rw [e]; exact hx)
  rw [List.map_set, h.fls] at h1
  exact h1

/-- A file's octets are another row: its own one, or a new one. -/
theorem ROpen.setData {w w4 : World} {tag : Nat → RTag} {pv : Value} {l : List RF} {q c g i : Nat} {s : DiskS} {f : FileS} {xs : List UInt8} {u : Value} (h : ROpen w tag (.slice (some ⟨g, 0, none⟩) l.length c) pv l q s) (hg : tag g = .fs) (hi : i < l.length) (hle : l[i].1 = f)
    (hne : ∀ j (hj : j < l.length), j ≠ i → l[j].1.key ≠ f.key) (ho : OB w4 (fun k => tag k = .fd f.key ∨ w.heap.size ≤ k) u xs) (hk : Kept (fun k => tag k = .fd f.key) w w4) :
    ∃ tag2, ROpen (w4.setCell ⟨g, i * 3 + 1, none⟩ u) tag2 (.slice (some ⟨g, 0, none⟩) l.length c) pv (l.set i ({ f with data := xs }, u)) q { s with files := s.files.set i { f with data := xs } } ∧ (∀ k, tag2 k ≠ .out → tag k ≠ .out ∨ w.heap.size ≤ k) ∧ tag2 g = .fs := by
  have k8 : Kept (· = g) w4 (w4.setCell ⟨g, i * 3 + 1, none⟩ u) := (Kept.refl (· = g) w4).setCell (p := ⟨g, i * 3 + 1, none⟩) (fun _ => rfl) _
  have ht : ∀ k, tag k ≠ .out → rtR tag w.heap.size w4.heap.size (.fd f.key) k = tag k := fun k a => rtR_old h.old k a
  have hto : ∀ k t, tag k = t → t ≠ .out → rtR tag w.heap.size w4.heap.size (.fd f.key) k = t := fun k t e a => (ht k (by rw [e]; exact a)).trans e
  have kA : Kept (fun k => tag k = .fd f.key ∨ tag k = .fs) w (w4.setCell ⟨g, i * 3 + 1, none⟩ u) := (hk.mono (fun _ _ a => .inl a)).trans2 k8 (fun k _ a => .inr (by rw [a]; exact hg))
  have hno : ∀ k t, tag k = t → t ≠ .fs → t ≠ .fd f.key → ¬ (tag k = .fd f.key ∨ tag k = .fs) := fun k t e a b q => q.elim (fun q => b (e.symm.trans q)) (fun q => a (e.symm.trans q))
  refine ⟨rtR tag w.heap.size w4.heap.size (.fd f.key), ⟨fun k a => ?_, hto _ _ h.tq (by simp), h.blk.keep kA (hno q _ h.tq (by simp) (by simp)), ?_, ?_, fun p hp => ?_, ?_, h.pat, h.room⟩, fun k a => ?_, hto _ _ hg (by simp)⟩
  · refine Nat.lt_of_lt_of_le ?_ k8.size
    rcases rtR_out k a with e | e
    · exact e.2
    · exact Nat.lt_of_lt_of_le (h.old k e) hk.size
  · have h4 : Own w4 58 3 (fun k => tag k = .fs) (.slice (some ⟨g, 0, none⟩) l.length c) l.length (tF.fl l) := h.frow.keep hk (fun k _ a b => by rw [a] at b; cases b)
    have h5 := h4.set1 (j := i) 1 u ({ f with data := xs }, u) (tF.fl_set1 hi _ 1 (by decide) _ (by
      show [_, _, _] = _
      unfold Three.cs tF
      simp only [hle]
      rfl))
    rw [List.length_set]
    exact h5.mono (fun k _ a => hto k _ a (by simp))
  · rw [List.map_set, h.fls]
  · obtain ⟨j, hj, rfl⟩ := List.mem_iff_getElem.1 hp
    rw [List.length_set] at hj
    by_cases e : j = i
    · subst e
      rw [List.getElem_set_self]
      have h6 := (h.fat l[j] (List.getElem_mem hi)).1
      rw [hle] at h6
      refine ⟨h6, ?_⟩
      refine (Own.mono ho (fun k a b => ?_)).keep k8 (fun k a b d => ?_)
      · show rtR tag w.heap.size w4.heap.size (.fd f.key) k = .fd f.key
        rcases b with b | b
        · exact hto k _ b (by simp)
        · exact rtR_in b a
      · have b' : rtR tag w.heap.size w4.heap.size (.fd f.key) k = .fd f.key := b
        rw [d, hto _ _ hg (by simp)] at b'
        cases b'
    · rw [List.getElem_set_ne (fun a => e a.symm)]
      obtain ⟨h6, h7⟩ := h.fat l[j] (List.getElem_mem hj)
      refine ⟨h6, (Own.mono (Own.keep h7 kA (fun k _ a b => ?_)) (fun k _ a => hto k _ a (by simp)))⟩
      have a' : tag k = .fd l[j].1.key := a
      rcases b with b | b
      · rw [a'] at b
        injection b with b
        exact hne j hj e b
      · rw [a'] at b
        cases b
  · exact (h.prow.keep kA (fun k _ a b => hno k _ a (by simp) (by simp) b)).mono (fun k _ a => hto k _ a (by simp))
  · rcases rtR_out k a with e | e
    · exact .inr e.1
    · exact .inl e
theorem asc_keys {l : List RF} {i : Nat} {f : FileS} (ha : Asc (l.map (·.1))) (hi : i < l.length) (hf : l[i].1 = f) : ∀ j (hj : j < l.length), j ≠ i → l[j].1.key ≠ f.key := by
  intro j hj hne e
  have h1 := List.pairwise_iff_getElem.1 ha
  rcases Nat.lt_or_gt_of_ne hne with h | h
  · have := h1 j i (by simpa using hj) (by simpa using hi) h
    rw [List.getElem_map, List.getElem_map, hf] at this
    exact lt_ne this e
  · have := h1 i j (by simpa using hi) (by simpa using hj) h
    rw [List.getElem_map, List.getElem_map, hf] at this
    exact lt_ne this e.symm

attribute [local go_sem ↓] append_as
set_option maxRecDepth 100000 in
set_option maxHeartbeats 3200000 in
theorem refCutOk (G : Nat → Prop) (q : Nat) (s : DiskS) (nm : ByteArray) (n : Nat) (f : FileS) (w : World) (h : RAt w G q s) (ha : Asc s.files) (hg : s.get nm.toList = some f) (hl : n ≤ f.data.length) (hd : f.data.length ≤ 140737488351232) (hp : s.pend.length * 32 ≤ 140737488355328) :
    Calls Try.prog 33 #[.pointer (some ⟨q, 0, none⟩), .string nm, .int .i64 (n : Int)] w fun e w' => e = .returned (.int .i64 0) ∧ ∃ G', RAt w' G' q (s.cut f n) ∧ (∀ k, G' k → G k ∨ w.heap.size ≤ k) ∧ Kept G w w' := by
  have HRA := Lib.hid h
  obtain ⟨tag, fv, pv, l, hG, ho⟩ := h
  obtain ⟨i, hi, hfi, hfe, hfk⟩ := find_place (show s.files.find? _ = some f from hg)
  obtain ⟨A, c, rfl, hc, hm, _⟩ := Own.form ho.frow
  have hil : i < l.length := by
    have := congrArg List.length ho.fls
    rw [List.length_map] at this
    omega
  have hle : l[i].1 = f := by
    have h1 : (l.map (·.1))[i]? = some f := by rw [ho.fls, List.getElem?_eq_getElem hi, hfe]
    rw [List.getElem?_map, List.getElem?_eq_getElem hil] at h1
    exact Option.some.inj h1
  have c0 : w.cell? ⟨q, 0, none⟩ = some (.slice A l.length c) := ho.blk.cell 0
  obtain ⟨g, rfl, hgt, q0, q1, q2, qf⟩ := Own.at3 ho.frow hil
  obtain ⟨hns, hob⟩ := ho.fat l[i] (List.getElem_mem hil)
  obtain ⟨A1, c1, e1, hc1, hm1, _⟩ := Own.form hob
  have q1' : w.cell? ⟨g, i * 3 + 1, none⟩ = some (.slice A1 l[i].1.data.length c1) := q1.trans (congrArg some e1)
  have hob' : OB w (fun k => tag k = .fd l[i].1.key) (.slice A1 l[i].1.data.length c1) l[i].1.data := by rw [← e1]; exact hob
  rw [hle] at q1' hob' hns
  have hkey : f.key = nm.toList := by rw [← hfe]; exact hfk
  obtain ⟨xs, hxs⟩ : ∃ xs, f.data.take n = xs := ⟨_, rfl⟩
  have hxl : xs.length = n := by rw [← hxs, List.length_take]; omega
  have hrb : RB w (fun k => tag k = .fd f.key) A1 xs := by
    rw [← hxs]
    exact (OB.rb hob').2.take n
  have HX := Lib.hid hrb
  have HFi := Lib.hid hfi
  have HO := Lib.hid ho
  have HG := Lib.hid hG
  have HAs := Lib.hid ha
  have HGt := Lib.hid hgt
  have HNe := Lib.hid (asc_keys (l := l) (by rw [ho.fls]; exact ha) hil hle)
  have HKey := Lib.hid hkey
  have HLe := Lib.hid hle
  have HXl := Lib.hid hxl
  have HXs := Lib.hid hxs
  have HFe := Lib.hid hfe
  have hii : (i : Int) < (l.length : Int) := by omega
  have hi0 : (0 : Int) ≤ (i : Int) := by omega
  have hn0 : (0 : Int) ≤ (n : Int) := by omega
  have hnl : (n : Int) ≤ (f.data.length : Int) := by omega
  have q1f : w.frozen? ⟨g, i * 3 + 1, none⟩ = false := qf _
  rw [hle] at hc1
  have hsl := fun W => run_slice_to W A1 f.data.length c1 n (by omega)
  clear ho hG hg ha hkey hle hxl hrb hfi q0 q1 q2 e1 hob hob' hxs hfk hfe qf hgt
  go_enter Try.func33, Try.ntmps33
  go_wp2_with fail
  refine (refFind G q s nm w HRA.out).mono ?_
  rintro e w1 ⟨rfl, rfl⟩
  rw [HFi.out]
  go_upto_region 6 with (fail)
  go_cut [6, 7] from 13 to 45 (fun v u wx => v = .int .i64 0 ∧ u = .int .i64 i ∧ ∃ (tag2 : Nat → RTag) (v4 : Value), Hid (ROpen wx tag2 (.slice (some ⟨g, 0, none⟩) l.length c) pv (l.set i ({ f with data := xs }, v4)) q { s with files := s.files.set i { f with data := xs } }) ∧ Hid (∀ k, tag2 k ≠ .out → G k ∨ w.heap.size ≤ k) ∧ Hid (tag2 g = .fs) ∧ Hid (Kept G w wx))
  case first =>
    go_region_law (go_simp; go_at_call 29; refine (refCopyN A1 n c1 xs _ w.drew HXl.out HX.out.drew (by omega)).mono ?_; rintro e w4 ⟨A4, c4, rfl, o4, k4⟩; have kA : Kept noneS w w4 := ((Kept.refl noneS w).drew).trans k4; have c0' : w4.cell? ⟨q, 0, none⟩ = some (.slice (some ⟨g, 0, none⟩) l.length c) := (HO.out.blk.keep kA (fun a => a)).cell 0; have r1 : w4.cell? ⟨g, i * 3 + 1, none⟩ = some (.slice A1 f.data.length c1) := (kA.cell (lt_of_cell q1') (fun a => a)).trans q1'; have r1f : w4.frozen? ⟨g, i * 3 + 1, none⟩ = false := (kA.frozen (p := ⟨g, i * 3 + 1, none⟩) (lt_of_cell q1') (fun a => a)).trans q1f; have O4 := Lib.hid o4; have KA := Lib.hid kA; clear o4 kA k4)
    all_goals
      go_wp2_with fail
      go_meet
      case rel =>
        obtain ⟨tag2, o5, ht5, hg5⟩ := HO.out.setData (i := i) (f := f) (u := .slice A4 n c4) HGt.out hil HLe.out HNe.out (Own.mono O4.out (fun _ _ a => .inr a)) (KA.out.mono (fun _ _ a => a.elim))
        exact ⟨rfl, rfl, tag2, _, Lib.hid o5, Lib.hid (fun k a => (ht5 k a).imp (HG.out k).2 id), Lib.hid hg5, Lib.hid ((KA.out.mono (S' := G) (fun _ _ a => a.elim)).setCell (p := ⟨g, i * 3 + 1, none⟩) (fun _ => (HG.out g).2 (by rw [HGt.out]; simp)) (.slice A4 n c4))⟩
  case rest =>
    obtain ⟨rfl, rfl, tag2, v4, HO2, HT2, HG2, K2⟩ := hcut
    clear c0 q1' q1f hsl
    have c0 : wc.cell? ⟨q, 0, none⟩ = some (.slice (some ⟨g, 0, none⟩) l.length c) := HO2.out.blk.cell 0
    have hil2 : i < (l.set i ({ f with data := xs }, v4)).length := by rw [List.length_set]; exact hil
    have hrow := HO2.out.frow
    rw [List.length_set] at hrow
    have hr2 : Own wc 58 3 (fun k => tag2 k = .fs) (.slice (some ⟨g, 0, none⟩) (l.set i ({ f with data := xs }, v4)).length c) (l.set i ({ f with data := xs }, v4)).length (tF.fl (l.set i ({ f with data := xs }, v4))) := by
      rw [List.length_set]
      exact hrow
    obtain ⟨g', eg, _, _, _, q2, qf⟩ := Own.at3 hr2 hil2
    injection eg with eg
    injection eg with eg
    subst eg
    have q2' : wc.cell? ⟨g, i * 3 + 2, none⟩ = some (.int .i64 (f.safe.length : Int)) := by
      rw [q2, List.getElem_set_self]
      rfl
    have q2f : wc.frozen? ⟨g, i * 3 + 2, none⟩ = false := qf _
    have hset := hr2.set1 (j := i) 2 (.int .i64 (n : Int)) ({ f with data := xs, safe := xs }, v4) (tF.fl_set1 hil2 _ 2 (by decide) _ (by
      rw [List.getElem_set_self]
      show [_, _, Value.int .i64 (xs.length : Int)] = _
      rw [HXl.out]
      rfl))
    rw [List.length_set] at hset
    have hfat : ({ f with data := xs, safe := xs } : FileS).name.size ≤ 140737488351232 ∧ OB wc (fun k => tag2 k = .fd ({ f with data := xs, safe := xs } : FileS).key) v4 xs := by
      have := HO2.out.fat ({ f with data := xs }, v4) (by
        have := List.getElem_mem hil2
        rw [List.getElem_set_self] at this
        exact this)
      exact this
    have o6 := HO2.out
    have e6 : l.length = (l.set i ({ f with data := xs }, v4)).length := by rw [List.length_set]
    rw [e6] at o6
    have o7 := o6.setEl ((Kept.refl (fun k => tag2 k = .fs) wc).setCell (p := ⟨g, i * 3 + 2, none⟩) (fun _ => HG2.out) (.int .i64 (n : Int))) i ({ f with data := xs, safe := xs }, v4) (by rw [List.length_set]; exact hset) hfat
    have O7 := Lib.hid o7
    have K7 := Lib.hid (K2.out.setCell (p := ⟨g, i * 3 + 2, none⟩) (fun a => (HT2.out g (by rw [HG2.out]; simp)).elim id (fun e => absurd a (Nat.not_lt.2 e))) (.int .i64 (n : Int)))
    clear q2 qf hset hfat o6 o7 hr2 hrow HO2 K2 e6
    go_wp2_with fail
    refine (refForget _ q _ nm _ O7.out.at_ hp).mono ?_
    rintro e w6 ⟨rfl, G6, d6, t6, k6⟩
    have D6 := Lib.hid d6
    have T6 := Lib.hid t6
    have hz7 := K7.out.size
    have K6 := Lib.hid (K7.out.trans2 k6 (fun k a b => (HT2.out k b).elim id (fun e => absurd a (Nat.not_lt.2 e))))
    clear d6 t6 k6 K7 O7
    go_wp2
    go_ret
    refine ⟨rfl, G6, ?_, fun k a => ?_, K6.out⟩
    · refine D6.out.like ?_ ?_ rfl
      · show updF f.key safeF (updF f.key (cutF n) s.files) = ((s.files.set i { f with data := xs }).set i { f with data := xs, safe := xs })
        have hki : s.files[i].key = f.key := by rw [HFe.out]
        have e1 := upd_set (nm := f.key) (u := cutF n) s.files i hi HAs.out hki
        rw [HFe.out] at e1
        rw [e1]
        have hi2 : i < (s.files.set i (cutF n f)).length := by rw [List.length_set]; exact hi
        rw [upd_set (nm := f.key) (u := safeF) (s.files.set i (cutF n f)) i hi2 (by rw [← e1]; exact upd_asc (u := cutF n) (fun _ => rfl) HAs.out) (by rw [List.getElem_set_self]; rfl), List.getElem_set_self, List.set_set, List.set_set]
        have : safeF (cutF n f) = { f with data := xs, safe := xs } := by
          unfold safeF cutF
          rw [HXs.out]
        rw [this]
      · show s.pend.filter (notFor f.key) = s.pend.filter (notFor nm.toList)
        rw [HKey.out]
    · rcases T6.out k a with e | e
      · exact HT2.out k e
      · exact .inr (Nat.le_trans hz7 e)

end Go.Proofs.Ytnlmkfncdklcdaa
