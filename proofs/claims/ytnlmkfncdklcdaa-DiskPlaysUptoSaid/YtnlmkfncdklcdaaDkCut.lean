/-
  disk.Disk.Cut and Remove.
-/
import Derived.Test.YtnlmkfncdklcdaaDkSync
import Derived.Maps.OwnSet
namespace Go.Proofs.Ytnlmkfncdklcdaa
open Go.RowKit Go.Maps

def DiskS.setU (s : DiskS) (u : Int) : DiskS := { s with used := u }
/-- A file is shortened. -/
def DiskS.cut (s : DiskS) (f : FileS) (n : Nat) : DiskS := ((((s.setU (s.used - ((f.data.length : Int) - (n : Int)))).upd f.key (cutF n)).upd f.key safeF)).forget f.key
def DiskS.cutErr (s : DiskS) (nm : List UInt8) (n : Int) : Int := match s.get nm with | none => 7 | some f => if n < 0 ∨ (f.data.length : Int) < n then 2 else 0

set_option maxRecDepth 100000 in
set_option maxHeartbeats 1600000 in
theorem diskCutBad (F : Nat → Prop) (p N : Nat) (s : DiskS) (nm : ByteArray) (n : Int) (w : World) (h : DAt w F p s N) (hn : nm.size ≤ 140737488351232) (he : s.cutErr nm.toList n ≠ 0) :
    Calls Try.prog 26 #[.pointer (some ⟨p, 0, none⟩), .string nm, .int .i64 n] w fun e w' => e = .returned (.int .i64 (s.cutErr nm.toList n)) ∧ Kept noneS w w' := by
  obtain ⟨tag, m, pv, hbf, hF, ho⟩ := h.open_
  have p0 : w.cell? ⟨p, 0, none⟩ = some (.map (some m)) := ho.blk.cell 0
  have lk := ho.map.look Try.underlying65 (.pointer none) (zeroPtr w) nm hn
  obtain ⟨r, hr⟩ : ∃ r, s.cutErr nm.toList n = r := ⟨_, rfl⟩
  rw [hr] at he ⊢
  unfold DiskS.cutErr at hr
  rcases hg : s.get nm.toList with _ | f
  · rw [hg] at lk hr
    simp only [Option.map_none, Option.getD_none] at lk
    subst hr
    clear ho h hF hg
    go_enter Try.func26, Try.ntmps26
    go_wp2
    go_ret
    exact ⟨rfl, Kept.refl _ _⟩
  · rw [hg] at lk hr
    simp only [Option.map_some, Option.getD_some] at lk
    have hr2 : (if n < 0 ∨ (f.data.length : Int) < n then (2 : Int) else 0) = r := hr
    clear hr
    by_cases hbad : n < 0 ∨ (f.data.length : Int) < n
    · rw [if_pos hbad] at hr2
      subst hr2
      obtain ⟨hm, hk⟩ := DiskS.get_mem hg
      obtain ⟨_, _, dv, sv, b1, b2, _⟩ := ho.files f hm
      rw [hk] at b1
      obtain ⟨A, c, rfl, _⟩ := b2.sl
      have d0 : w.cell? ⟨hbf nm.toList, 0, none⟩ = some (.slice A f.data.length c) := b1.cell 0
      clear ho h hF hg b1 b2 hm hk
      generalize hbf nm.toList = b at lk d0
      by_cases hneg : n < 0
      · clear hbad
        go_enter Try.func26, Try.ntmps26
        go_wp2
        go_ret
        exact ⟨rfl, Kept.refl _ _⟩
      · have hgt : (f.data.length : Int) < n := hbad.elim (fun q => absurd q hneg) id
        have hn0 : 0 ≤ n := Int.not_lt.1 hneg
        clear hbad hneg
        go_enter Try.func26, Try.ntmps26
        go_wp2
        go_ret
        exact ⟨rfl, Kept.refl _ _⟩
    · rw [if_neg hbad] at hr2
      exact absurd hr2.symm he

set_option maxRecDepth 100000 in
set_option maxHeartbeats 1600000 in
theorem diskCutOk (F : Nat → Prop) (p N : Nat) (s : DiskS) (nm : ByteArray) (n : Nat) (f : FileS) (w : World) (h : DAt w F p s N) (ha : Asc s.files) (hn : nm.size ≤ 140737488351232) (hg : s.get nm.toList = some f) (hl : n ≤ f.data.length) (hd : f.data.length ≤ 140737488355328) (hu : 0 ≤ s.used ∧ s.used ≤ 1152921504606846976) :
    Calls Try.prog 26 #[.pointer (some ⟨p, 0, none⟩), .string nm, .int .i64 (n : Int)] w fun e w' => e = .returned (.int .i64 0) ∧ ∃ F', DAt w' F' p (s.cut f n) N ∧ (∀ k, F' k → F k ∨ w.heap.size ≤ k) ∧ Kept F w w' := by
  obtain ⟨tag, m, pv, hbf, hF, ho⟩ := h.open_
  have p0 : w.cell? ⟨p, 0, none⟩ = some (.map (some m)) := ho.blk.cell 0
  have lk := ho.map.look Try.underlying65 (.pointer none) (zeroPtr w) nm hn
  rw [hg] at lk
  simp only [Option.map_some, Option.getD_some] at lk
  obtain ⟨hm, hk⟩ := DiskS.get_mem hg
  rw [← hk] at lk hg
  have p3 : w.cell? ⟨p, 3, none⟩ = some (.int .i64 s.used) := ho.blk.cell 3
  have p3f : w.frozen? ⟨p, 3, none⟩ = false := ho.blk.frozen 3
  obtain ⟨hfh, _, dv, sv, b1, b2, _⟩ := ho.files f hm
  obtain ⟨A, c, rfl, r1, r2, r3, r4⟩ := b2.sl
  have d0 : w.cell? ⟨hbf f.key, 0, none⟩ = some (.slice A f.data.length c) := b1.cell 0
  have o1 := ho.setUsed (s.used - ((f.data.length : Int) - (n : Int))) (by omega)
  have hw1 : wrap64 (s.used - ((f.data.length : Int) - (n : Int))) = s.used - ((f.data.length : Int) - (n : Int)) := by unfold wrap64; omega
  have O1 := Lib.hid o1
  have HAs := Lib.hid ha
  have HG : Hid ((s.setU (s.used - ((f.data.length : Int) - (n : Int)))).get f.key = some f) := Lib.hid hg
  have HF := Lib.hid hF
  have HFh := Lib.hid hfh
  have HK := Lib.hid hk
  have HTp := Lib.hid ho.tp
  have BB := Lib.hid b1
  have hp1 : p ≠ hbf f.key := fun q => by
    have h1 := ho.tp
    rw [q, hfh] at h1
    cases h1
  have hn0 : (0 : Int) ≤ (n : Int) := by omega
  have hnl : (n : Int) ≤ (f.data.length : Int) := by omega
  clear h ho hF hg hm hk hfh b1 b2 o1 r1 r4 ha
  go_enter Try.func26, Try.ntmps26
  go_upto_region 6 with (fail)
  go_cut [6, 7] from 29 to 42 (fun v u wx => v = .int .i64 0 ∧ u = .pointer (some ⟨hbf f.key, 0, none⟩) ∧ Hid (DOpen wx tag m pv hbf p (s.setU (s.used - ((f.data.length : Int) - (n : Int)))) N) ∧ Hid (Kept F w wx))
  case first =>
    go_region
    all_goals
      go_wp2_with fail
      go_meet
      case rel =>
        exact ⟨rfl, rfl, Lib.hid (O1.out.keep ((Kept.refl noneS _).drew) (fun _ q => q.elim)), Lib.hid (((Kept.refl F w).setCell (p := ⟨p, 3, none⟩) (fun _ => (HF.out p).2 (by rw [HTp.out]; simp)) _).drew)⟩
  case rest =>
    obtain ⟨rfl, rfl, HO2, K2⟩ := hcut
    clear p0 lk p3 p3f d0 hw1 O1 BB r2 r3
    obtain ⟨_, _, dv, sv, b1, b2, _⟩ := HO2.out.files f (DiskS.get_mem HG.out).1
    obtain ⟨A2, c2, rfl, sg, hcm⟩ := b2
    have hcap := sg.cap
    have d0 : wc.cell? ⟨hbf f.key, 0, none⟩ = some (.slice A2 f.data.length c2) := b1.cell 0
    have d0f : wc.frozen? ⟨hbf f.key, 0, none⟩ = false := b1.frozen 0
    have o3 := redata HO2.out HAs.out HG.out ⟨sv, b1⟩ hl
    have hfF : F (hbf f.key) := (HF.out _).2 (by rw [HFh.out]; simp)
    have K3 := Lib.hid (K2.out.setCell (p := ⟨hbf f.key, 0, none⟩) (fun _ => hfF) (.slice A2 n n))
    have B3 := Lib.hid (b1.set_ 0 (.slice A2 n n))
    have O3 := Lib.hid o3
    have HG3 : Hid (((s.setU (s.used - ((f.data.length : Int) - (n : Int)))).upd f.key (cutF n)).get (cutF n f).key = some (cutF n f)) := Lib.hid (by
      show DiskS.get _ f.key = _
      rw [upd_get _ _ _ (u := cutF n) (fun _ => rfl), HG.out]
      show some (if f.key = f.key then cutF n f else f) = _
      rw [if_pos rfl])
    have HA3 : Hid (Asc ((s.setU (s.used - ((f.data.length : Int) - (n : Int)))).upd f.key (cutF n)).files) := Lib.hid (upd_asc (u := cutF n) (fun _ => rfl) HAs.out)
    clear b1 sg o3 HO2 K2 HG HAs
    go_upto_region 8 with (fail)
    generalize wc.setCell ⟨hbf f.key, 0, none⟩ (.slice A2 n n) = w3 at O3 K3 ⊢
    clear B3 d0 d0f
    obtain ⟨_, _, dv3, sv3, b3, da3, _⟩ := O3.out.files (cutF n f) (DiskS.get_mem HG3.out).1
    obtain ⟨A3, c3, rfl, s1, s2, s3, s4⟩ := da3.sl
    have hkf : hbf (cutF n f).key = hbf f.key := rfl
    rw [hkf] at b3
    have d1 : w3.cell? ⟨hbf f.key, 0, none⟩ = some (.slice A3 (cutF n f).data.length c3) := b3.cell 0
    have hcl : (cutF n f).data.length ≤ 140737488355328 := by
      show (f.data.take n).length ≤ _
      rw [List.length_take]
      omega
    have HR := Lib.hid s1
    have HA := Lib.hid s4
    have BB := Lib.hid b3
    clear da3 s1 s4 b3 hkf
    generalize hfc : cutF n f = fc at *
    have HFC := Lib.hid hfc
    clear hfc
    go_wp2_with fail
    refine (sClone A3 c3 fc.data _ w3 HR.out HA.out hcl).mono ?_
    rintro e w4 ⟨v4, rfl, o4, k4⟩
    obtain ⟨A4, c4, rfl, _⟩ := Own.form o4
    obtain ⟨tag2, o5, ht5⟩ := resafe O3.out HA3.out HG3.out o4 k4
    have hfk : fc.key = f.key := by rw [← HFC.out]; rfl
    rw [hfk] at o5
    have e1 : w4.cell? ⟨hbf f.key, 1, none⟩ = some sv3 := (BB.out.keep k4 (fun q => q)).cell 1
    have e1f : w4.frozen? ⟨hbf f.key, 1, none⟩ = false := (BB.out.keep k4 (fun q => q)).frozen 1
    have O5 := Lib.hid o5
    have T5 : Hid (∀ k, tag2 k ≠ .out → F k ∨ w.heap.size ≤ k) := Lib.hid (fun k q => by
      rcases ht5 k q with e | e
      · exact .inl ((HF.out k).2 e)
      · exact .inr (Nat.le_trans K3.out.size e))
    have K5 := Lib.hid ((K3.out.trans2 k4 (fun _ _ q => q.elim)).setCell (p := ⟨hbf f.key, 1, none⟩) (fun _ => hfF) (.slice A4 fc.data.length c4))
    clear o4 k4 o5 ht5 O3 K3 HR HA BB
    go_wp2_with fail
    refine (diskForget _ p N _ nm _ O5.out.at_).mono ?_
    rintro e w6 ⟨rfl, d6, k6⟩
    have D6 := Lib.hid d6
    have K6 := Lib.hid (K5.out.trans2 k6 (fun k a q => (T5.out k q).elim id (fun e => absurd a (Nat.not_lt.2 e))))
    clear d6 k6 K5 O5
    go_wp2
    go_ret
    refine ⟨rfl, _, ?_, T5.out, K6.out⟩
    have hd6 := D6.out
    rw [show nm.toList = f.key from HK.out.symm] at hd6
    exact hd6

theorem VMap.del {w : World} {b n : Nat} {lk : List UInt8 → Option Value} {t e : TypeId} (h : VMap w b n lk) (ht : Try.prog.underlying t = some (.map 9 e)) (ty : TypeId) (s : ByteArray) (hs : s.size ≤ 140737488351232) :
    ∃ w', (Builtin.delete_ #[t, 9] ty #[.map (some b), .string s]).run Try.prog w = .ok (.tuple #[]) w' ∧ VMap w' b n (fun nm => if nm = s.toList then none else lk nm) ∧ Kept (· = b) w w' := by
  obtain ⟨D, h1, h2, h3⟩ := h
  obtain ⟨w', hrun, h4, h5⟩ := h1.drop strKeyed ht (WideMaps.keyOf_string_mk Try.underlying9 (s := s) (by unfold maxLen; omega)) ty
  refine ⟨w', hrun, ⟨_, h4, ?_, fun nm z => ?_⟩, (Kept.refl _ _).grown h5.grown (fun k hk _ => by cases hk; rfl)⟩
  · obtain ⟨es, rfl⟩ := h2
    exact ⟨_, rfl⟩
  · show _ = match (if nm = s.toList then none else lk nm) with | some v => DataW.held v | none => z
    rw [ByteArray.toList_eq]
    by_cases hne : nm = s.data.toList
    · subst hne
      rw [if_pos rfl, atKey_del_same]
    · rw [if_neg hne, atKey_del_other (fun e => hne (by injection e)), h3]
      rcases lk nm <;> rfl

/-- A file is away. -/
def delF (nm : List UInt8) (l : List FileS) : List FileS := l.filter fun g => !(g.key == nm)
theorem find_del (nm k : List UInt8) : ∀ l : List FileS, (delF nm l).find? (fun x => x.key == k) = if k = nm then none else l.find? fun x => x.key == k
  | [] => by simp [delF]
  | g :: l => by
    have ih := find_del nm k l
    unfold delF at ih ⊢
    rw [List.filter_cons]
    rcases h1 : (g.key == nm) with _ | _
    · simp only [Bool.not_false, if_true]
      rw [List.find?_cons, List.find?_cons, ih]
      rcases h2 : (g.key == k) with _ | _
      · rfl
      · have : ¬ k = nm := fun q => by
          rw [← q, h2] at h1
          cases h1
        simp [this]
    · simp only [Bool.not_true]
      rw [if_neg (by decide), ih]
      by_cases e : k = nm
      · rw [if_pos e, if_pos e]
      · rw [if_neg e, if_neg e, List.find?_cons]
        have : (g.key == k) = false := by
          have h3 : g.key = nm := by simpa using h1
          rw [h3]
          simpa using fun q => e q.symm
        rw [this]
theorem del_asc {nm : List UInt8} {l : List FileS} (h : Asc l) : Asc (delF nm l) := List.Pairwise.filter _ h
theorem DOpen.delFile {w w' : World} {tag : Nat → DTag} {m : Nat} {pv : Value} {hb : List UInt8 → Nat} {p N : Nat} {s : DiskS} (h : DOpen w tag m pv hb p s N) (nm : List UInt8) (hk : Kept (· = m) w w')
    (hv : VMap w' m N (fun k => if k = nm then none else (s.get k).map fun _ => .pointer (some ⟨hb k, 0, none⟩))) : DOpen w' tag m pv hb p { s with files := delF nm s.files } N := by
  have ht : ∀ k, k = m → tag k = .mp := fun k e => e ▸ h.tm
  refine ⟨fun k q => Nat.lt_of_lt_of_le (h.old k q) hk.size, h.tp, h.tm, h.blk.keep hk (fun q => by have := ht p q; rw [h.tp] at this; cases this), ?_, fun g hg => ?_, h.pend.keep hk (fun _ _ => rfl) (fun k q => by rw [ht k q]; simp), h.room, h.used⟩
  · have e : (fun k => ((({ s with files := delF nm s.files } : DiskS).get k).map fun _ => Value.pointer (some ⟨hb k, 0, none⟩))) = fun k => if k = nm then none else (s.get k).map fun _ => Value.pointer (some ⟨hb k, 0, none⟩) := by
      funext k
      unfold DiskS.get
      rw [find_del]
      by_cases e : k = nm
      · rw [if_pos e, if_pos e]; rfl
      · rw [if_neg e, if_neg e]
    rw [e]
    exact hv
  · exact (h.files g (List.mem_filter.1 hg).1).keep hk (fun _ _ => rfl) (fun k q => by rw [ht k q]; simp)

def deleteSem (ats : Array TypeId) (ty : TypeId) (args : Array Value) : Sem Value := Builtin.delete_ ats ty args
theorem delete_as (ats : Array TypeId) (ty : TypeId) (args : Array Value) : Builtin.delete_ ats ty args = deleteSem ats ty args := rfl

/-- A file is removed. -/
def DiskS.rem (s : DiskS) (f : FileS) : DiskS := ({ s with files := delF f.key s.files, used := s.used - (f.data.length : Int) } : DiskS).forget f.key
def DiskS.remErr (s : DiskS) (nm : List UInt8) : Int := match s.get nm with | none => 7 | some _ => 0

attribute [local go_sem ↓] delete_as
set_option maxRecDepth 100000 in
set_option maxHeartbeats 1600000 in
theorem diskRemBad (F : Nat → Prop) (p N : Nat) (s : DiskS) (nm : ByteArray) (w : World) (h : DAt w F p s N) (hn : nm.size ≤ 140737488351232) (hg : s.get nm.toList = none) :
    Calls Try.prog 27 #[.pointer (some ⟨p, 0, none⟩), .string nm] w fun e w' => e = .returned (.int .i64 7) ∧ Kept noneS w w' := by
  obtain ⟨tag, m, pv, hbf, hF, ho⟩ := h.open_
  have p0 : w.cell? ⟨p, 0, none⟩ = some (.map (some m)) := ho.blk.cell 0
  have lk := ho.map.look Try.underlying65 (.pointer none) (zeroPtr w) nm hn
  rw [hg] at lk
  simp only [Option.map_none, Option.getD_none] at lk
  clear ho h hF hg
  go_enter Try.func27, Try.ntmps27
  go_wp2
  go_ret
  exact ⟨rfl, Kept.refl _ _⟩

set_option maxRecDepth 100000 in
set_option maxHeartbeats 1600000 in
theorem diskRemOk (F : Nat → Prop) (p N : Nat) (s : DiskS) (nm : ByteArray) (f : FileS) (w : World) (h : DAt w F p s N) (hn : nm.size ≤ 140737488351232) (hg : s.get nm.toList = some f) (hd : f.data.length ≤ 140737488355328) (hu : 0 ≤ s.used ∧ s.used ≤ 1152921504606846976) :
    Calls Try.prog 27 #[.pointer (some ⟨p, 0, none⟩), .string nm] w fun e w' => e = .returned (.int .i64 0) ∧ DAt w' F p (s.rem f) N ∧ Kept F w w' := by
  obtain ⟨tag, m, pv, hbf, hF, ho⟩ := h.open_
  have p0 : w.cell? ⟨p, 0, none⟩ = some (.map (some m)) := ho.blk.cell 0
  have lk := ho.map.look Try.underlying65 (.pointer none) (zeroPtr w) nm hn
  rw [hg] at lk
  simp only [Option.map_some, Option.getD_some] at lk
  obtain ⟨hm, hk⟩ := DiskS.get_mem hg
  rw [← hk] at lk hg
  have p3 : w.cell? ⟨p, 3, none⟩ = some (.int .i64 s.used) := ho.blk.cell 3
  have p3f : w.frozen? ⟨p, 3, none⟩ = false := ho.blk.frozen 3
  obtain ⟨hfh, _, dv, sv, b1, b2, _⟩ := ho.files f hm
  obtain ⟨A, c, rfl, r1, r2, r3, r4⟩ := b2.sl
  have d0 : w.cell? ⟨hbf f.key, 0, none⟩ = some (.slice A f.data.length c) := b1.cell 0
  have o1 := ho.setUsed (s.used - (f.data.length : Int)) (by omega)
  have hw1 : wrap64 (s.used - (f.data.length : Int)) = s.used - (f.data.length : Int) := by unfold wrap64; omega
  have O1 := Lib.hid o1
  have HF := Lib.hid hF
  have HK := Lib.hid hk
  have HTp := Lib.hid ho.tp
  have hp1 : p ≠ hbf f.key := fun q => by
    have h1 := ho.tp
    rw [q, hfh] at h1
    cases h1
  clear h ho hF hg hm hk hfh b1 b2 o1 r1 r4
  go_enter Try.func27, Try.ntmps27
  go_upto_region 4 with (fail)
  go_cut [4, 5] from 14 to 25 (fun v u wx => v = .int .i64 0 ∧ u = .pointer (some ⟨hbf f.key, 0, none⟩) ∧ Hid (DOpen wx tag m pv hbf p (s.setU (s.used - (f.data.length : Int))) N) ∧ Hid (Kept F w wx))
  case first =>
    go_region
    all_goals
      go_wp2_with fail
      go_meet
      case rel =>
        exact ⟨rfl, rfl, Lib.hid (O1.out.keep ((Kept.refl noneS _).drew) (fun _ q => q.elim)), Lib.hid (((Kept.refl F w).setCell (p := ⟨p, 3, none⟩) (fun _ => (HF.out p).2 (by rw [HTp.out]; simp)) _).drew)⟩
  case rest =>
    obtain ⟨rfl, rfl, HO2, K2⟩ := hcut
    clear p0 lk p3 p3f d0 hw1 O1 r2 r3
    have p0 : wc.cell? ⟨p, 0, none⟩ = some (.map (some m)) := HO2.out.blk.cell 0
    obtain ⟨w3, hdel, vm3, k3⟩ := HO2.out.map.del Try.underlying65 0 nm hn
    have hdel' : (deleteSem #[65, 9] 0 #[.map (some m), .string nm]).run Try.prog wc = .ok (.tuple #[]) w3 := hdel
    have o3 := HO2.out.delFile nm.toList k3 vm3
    rw [show nm.toList = f.key from HK.out.symm] at o3
    have O3 := Lib.hid o3
    have K3 := Lib.hid (K2.out.trans2 k3 (fun k _ q => by rw [q]; exact (HF.out m).2 (by rw [HO2.out.tm]; simp)))
    clear hdel vm3 k3 o3 HO2 K2
    go_wp2_with fail
    refine (diskForget F p N _ nm _ (O3.out.atF HF.out)).mono ?_
    rintro e w6 ⟨rfl, d6, k6⟩
    have D6 := Lib.hid d6
    have K6 := Lib.hid (K3.out.trans k6)
    clear d6 k6 K3 O3
    go_wp2
    go_ret
    refine ⟨rfl, ?_, K6.out⟩
    have hd6 := D6.out
    rw [show nm.toList = f.key from HK.out.symm] at hd6
    exact hd6

end Go.Proofs.Ytnlmkfncdklcdaa
