/-
  disk.Disk.Sync.
-/
import Derived.Test.YtnlmkfncdklcdaaDkSyncP
import Derived.Deep.CutRange
namespace Go.Proofs.Ytnlmkfncdklcdaa
open Go.RowKit

def syncAll (ps : List WrS) (t : DiskS) : DiskS := ps.foldl (fun t x => t.upd x.key safeF) t
/-- All is safe. -/
def DiskS.sync (s : DiskS) : DiskS := { syncAll s.pend s with pend := [] }

theorem upd_get (s : DiskS) (nm k : List UInt8) {u : FileS → FileS} (hu : ∀ g, (u g).key = g.key) : (s.upd nm u).get k = (s.get k).map fun g => if g.key = nm then u g else g := by
  unfold DiskS.upd DiskS.get
  exact upd_find hu k s.files

set_option maxRecDepth 100000 in
set_option maxHeartbeats 1600000 in
theorem diskSync (F : Nat → Prop) (p N : Nat) (s : DiskS) (w : World) (h : DAt w F p s N) (ha : Asc s.files) (hne : ∀ x ∈ s.pend, s.get x.key ≠ none) (hd : ∀ f ∈ s.files, f.data.length ≤ 140737488355328) :
    Calls Try.prog 21 #[.pointer (some ⟨p, 0, none⟩)] w fun e w' => e = .returned (.tuple #[]) ∧ ∃ F', DAt w' F' p s.sync N ∧ (∀ k, F' k → F k ∨ w.heap.size ≤ k) ∧ Kept F w w' := by
  obtain ⟨tag, m, pv, hbf, hF, ho⟩ := h.open_
  obtain ⟨fin, HFin⟩ : ∃ fin, Hid (syncAll s.pend s = fin) := ⟨_, Lib.hid rfl⟩
  have hsync : s.sync = { fin with pend := [] } := by unfold DiskS.sync; rw [HFin.out]
  rw [hsync]
  obtain ⟨Ap, cp, hpv, hcp, hcm⟩ := ho.pend.form
  have hlm : s.pend.length ≤ 9223372036854775807 := by unfold maxLen at hcm; omega
  have c1 : w.cell? ⟨p, 1, none⟩ = some (.slice Ap s.pend.length cp) := by
    have := ho.blk.cell 1
    rw [hpv] at this
    exact this
  have HO := Lib.hid ho
  have HF := Lib.hid hF
  have HAs := Lib.hid ha
  have HNe := Lib.hid hne
  have HDa := Lib.hid (show ∀ nm f, s.get nm = some f → f.data.length ≤ 140737488355328 from fun nm f q => hd f (DiskS.get_mem q).1)
  clear h ho hF ha hne hd hsync hcp hcm
  go_enter Try.func21, Try.ntmps21
  go_wp2
  go_loopw [3, 4, 10] (fun _ _ i wr => ∃ (j : Nat) (t : DiskS) (tag' : Nat → DTag), j ≤ s.pend.length ∧ i = .int .i64 j ∧ Hid (DOpen wr tag' m pv hbf p t N) ∧ Hid (syncAll (s.pend.drop j) t = fin) ∧ Hid (t.pend = s.pend) ∧ Hid (Asc t.files) ∧ Hid (∀ nm, t.get nm = none → s.get nm = none) ∧ Hid (∀ nm f, t.get nm = some f → f.data.length ≤ 140737488355328) ∧ Hid (∀ k, tag' k ≠ .out → tag k ≠ .out ∨ w.heap.size ≤ k) ∧ Hid (Kept F w wr)) (fun _ _ i _ => s.pend.length - (intOf i).toNat)
  case atStart => exact ⟨0, s, tag, Nat.zero_le _, rfl, HO, HFin, Lib.hid rfl, HAs, Lib.hid (fun _ q => q), HDa, Lib.hid (fun k q => .inl q), Lib.hid (Kept.refl _ _)⟩
  case round =>
    obtain ⟨j, t, tag1, hj, rfl, HOt, HE, HPt, HAt, HNt, HDt, HT, HK⟩ := hrel
    by_cases hlt : j < s.pend.length
    · have hpt := HOt.out.pend
      rw [HPt.out] at hpt
      obtain ⟨g, o, c, B, d, hpe, _, ⟨hn1, hn2⟩, _, q0, q1, q2⟩ := hpt.at_ hlt
      rw [hpv] at hpe
      injection hpe with e1 e2 e3
      subst e1 e3
      have hE := HE.out
      rw [List.drop_eq_getElem_cons hlt] at hE
      have hnx := HNe.out s.pend[j] (List.getElem_mem hlt)
      generalize s.pend[j] = x at *
      have HE2 : Hid (syncAll (s.pend.drop (j + 1)) (t.upd x.key safeF) = fin) := Lib.hid hE
      obtain ⟨f, hg⟩ : ∃ f, t.get x.key = some f := by
        rcases e : t.get x.key with _ | f
        · exact absurd (HNt.out _ e) hnx
        · exact ⟨f, rfl⟩
      have hfk : f.key = x.key := (DiskS.get_mem hg).2
      rw [← hfk] at hg
      have HG := Lib.hid hg
      have HFK := Lib.hid hfk
      have hji : (j : Int) < (s.pend.length : Int) := by omega
      have hj0 : (0 : Int) ≤ (j : Int) := by omega
      have k2 : Kept noneS wr (wr.alloc (.cells #[.string x.name, .int .i64 (x.off : Int), .slice B x.data.length d] 74)) := (Kept.refl noneS wr).alloc _
      have BW := Lib.hid (Blk.new wr 74 #[.string x.name, .int .i64 (x.off : Int), .slice B x.data.length d])
      have HO2 := Lib.hid (HOt.out.keep k2 (fun _ q => q.elim))
      have K2 := Lib.hid (HK.out.trans2 k2 (fun _ _ q => q.elim))
      have hdl := HDt.out _ _ hg
      clear hE HE hnx hpt hg hfk k2 HOt HK
      go_upto_region 3 with (fail)
      generalize wr.alloc (.cells #[.string x.name, .int .i64 (x.off : Int), .slice B x.data.length d] 74) = w2 at BW HO2 K2 ⊢
      clear q0 q1 q2
      generalize wr.heap.size = bw at BW ⊢
      have v0 : w2.cell? ⟨bw, 0, none⟩ = some (.string x.name) := BW.out.cell 0
      have p0 : w2.cell? ⟨p, 0, none⟩ = some (.map (some m)) := HO2.out.blk.cell 0
      have lk : ∀ n, (Instr.lookup 65 (.map (some m)) (.string x.name) false).run Try.prog (w2.drewN n) = .ok (.pointer (some ⟨hbf f.key, 0, none⟩)) (w2.drewN n) := fun n => by
        have h1 := (HO2.out.keep ((Kept.refl noneS w2).drewN n) (fun _ q => q.elim)).map.look Try.underlying65 (.pointer none) (zeroPtr (w2.drewN n)) x.name hn1
        have h2 : t.get x.name.toList = some f := by
          have := HG.out
          rw [HFK.out] at this
          exact this
        rw [h2] at h1
        simp only [Option.map_some, Option.getD_some] at h1
        have h3 : x.name.toList = f.key := HFK.out.symm
        rw [h3] at h1
        exact h1
      go_quiet (fail)
      have HO3 := Lib.hid (HO2.out.keep ((Kept.refl noneS w2).drewN nq) (fun _ q => q.elim))
      have K3 := Lib.hid (K2.out.drewN nq)
      clear v0 p0 lk HO2 K2 BW
      generalize w2.drewN nq = w3 at HO3 K3 ⊢
      obtain ⟨_, _, dv, sv, b1, da, _⟩ := HO3.out.files f (DiskS.get_mem HG.out).1
      obtain ⟨A, ca, rfl, r1, r2, r3, r4⟩ := da.sl
      have d0 : w3.cell? ⟨hbf f.key, 0, none⟩ = some (.slice A f.data.length ca) := b1.cell 0
      have BB := Lib.hid b1
      have HR := Lib.hid r1
      have HA := Lib.hid r4
      clear b1 da r1 r4
      go_wp2_with fail
      refine (sClone A ca f.data _ w3 HR.out HA.out hdl).mono ?_
      rintro e w4 ⟨v4, rfl, o4, k4⟩
      obtain ⟨A4, c4, rfl, _⟩ := Own.form o4
      obtain ⟨tag2, o5, ht5⟩ := resafe HO3.out HAt.out HG.out o4 k4
      have e1 : w4.cell? ⟨hbf f.key, 1, none⟩ = some sv := (BB.out.keep k4 (fun q => q)).cell 1
      have e1f : w4.frozen? ⟨hbf f.key, 1, none⟩ = false := (BB.out.keep k4 (fun q => q)).frozen 1
      have O5 := Lib.hid o5
      have T5 : Hid (∀ k, tag2 k ≠ .out → tag k ≠ .out ∨ w.heap.size ≤ k) := Lib.hid (fun k q => by
        rcases ht5 k q with e | e
        · exact HT.out k e
        · exact .inr (Nat.le_trans K3.out.size e))
      have hbF : hbf f.key < w.heap.size → F (hbf f.key) := fun a => by
        have hfh := (HO3.out.files f (DiskS.get_mem HG.out).1).1
        rcases HT.out (hbf f.key) (by rw [hfh]; simp) with e | e
        · exact (HF.out _).2 e
        · exact absurd a (Nat.not_lt.2 e)
      have K5 := Lib.hid ((K3.out.trans2 k4 (fun _ _ q => q.elim)).setCell (p := ⟨hbf f.key, 1, none⟩) hbF (.slice A4 f.data.length c4))
      clear o4 k4 o5 ht5 hbF HO3 K3 HR HA BB
      go_wp2
      go_roundw
      case rel =>
        refine ⟨j + 1, t.upd f.key safeF, tag2, by omega, by go_num, O5, ?_, Lib.hid HPt.out, Lib.hid (upd_asc (u := safeF) (fun _ => rfl) HAt.out), Lib.hid (fun nm q => ?_), Lib.hid (fun nm f' q => ?_), T5, K5⟩
        · rw [HFK.out]
          exact HE2
        · rw [upd_get _ _ _ (u := safeF) (fun _ => rfl), Option.map_eq_none_iff] at q
          exact HNt.out nm q
        · rw [upd_get _ _ _ (u := safeF) (fun _ => rfl), Option.map_eq_some_iff] at q
          obtain ⟨f0, q1, q2⟩ := q
          have := HDt.out nm f0 q1
          rw [← q2]
          split
          · exact this
          · exact this
      case measure => simp [intOf]; omega
    · obtain rfl : j = s.pend.length := by omega
      have hE := HE.out
      rw [List.drop_length] at hE
      have hE2 : t = fin := hE
      subst hE2
      have f1 : wr.cell? ⟨p, 1, none⟩ = some pv := HOt.out.blk.cell 1
      have f1f : wr.frozen? ⟨p, 1, none⟩ = false := HOt.out.blk.frozen 1
      have o6 := HOt.out.setPend (.slice none 0 0) [] ⟨[], Own.nil _ _ _ _, rfl, fun j h => by cases h⟩
      have hpF : p < w.heap.size → F p := fun a => by
        rcases HT.out p (by rw [HOt.out.tp]; simp) with e | e
        · exact (HF.out _).2 e
        · exact absurd a (Nat.not_lt.2 e)
      have K6 := Lib.hid (HK.out.setCell (p := ⟨p, 1, none⟩) hpF (.slice none 0 0))
      have O6 := Lib.hid o6
      clear hE HE o6 hpF
      go_wp2
      go_end0
      exact ⟨rfl, fun k => tag1 k ≠ .out, O6.out.at_, fun k q => (HT.out k q).imp (HF.out k).2 id, K6.out⟩

end Go.Proofs.Ytnlmkfncdklcdaa
