/-
  The document's Disk: forget, Sync.
-/
import Derived.Test.YtnlmkfncdklcdaaDkRef
import Derived.BigRegion
namespace Go.Proofs.Ytnlmkfncdklcdaa
open Go.RowKit

def rtR (tag : Nat → RTag) (lo hi : Nat) (t : RTag) : Nat → RTag := fun k => if lo ≤ k ∧ k < hi then t else tag k
theorem rtR_in {tag : Nat → RTag} {lo hi : Nat} {t : RTag} {k : Nat} (h1 : lo ≤ k) (h2 : k < hi) : rtR tag lo hi t k = t := by unfold rtR; rw [if_pos ⟨h1, h2⟩]
theorem rtR_old {tag : Nat → RTag} {lo hi : Nat} {t : RTag} (h : ∀ k, tag k ≠ .out → k < lo) (k : Nat) (hk : tag k ≠ .out) : rtR tag lo hi t k = tag k := by
  have := h k hk
  unfold rtR
  rw [if_neg (by omega)]
theorem rtR_out {tag : Nat → RTag} {lo hi : Nat} {t : RTag} (k : Nat) (hk : rtR tag lo hi t k ≠ .out) : (lo ≤ k ∧ k < hi) ∨ tag k ≠ .out := by
  unfold rtR at hk
  by_cases e : lo ≤ k ∧ k < hi
  · exact .inl e
  · rw [if_neg e] at hk
    exact .inr hk

section
variable {w w' : World} {tag : Nat → RTag} {fv pv : Value} {l : List RF} {q : Nat} {s : DiskS}
theorem ROpen.setPend (h : ROpen w tag fv pv l q s) (v : Value) (ps : List WrS) (ho : Own w 84 3 (fun k => tag k = .pd) v ps.length (tW.fl ps)) (hp : ∀ x ∈ ps, x.name.size ≤ 140737488351232 ∧ x.off ≤ 140737488355328 ∧ x.data.length ≤ 140737488355328) :
    ROpen (w.setCell ⟨q, 1, none⟩ v) tag fv v l q { s with pend := ps } := by
  have hk : Kept (· = q) w (w.setCell ⟨q, 1, none⟩ v) := (Kept.refl (· = q) w).setCell (p := ⟨q, 1, none⟩) (fun _ => rfl) _
  have hn : ∀ k t, tag k = t → t ≠ .hdr → ¬ k = q := fun k t e ne a => ne (by rw [← e, a]; exact h.tq)
  exact ⟨fun k a => Nat.lt_of_lt_of_le (h.old k a) hk.size, h.tq, h.blk.set_ 1 _, h.frow.keep hk (fun k _ a b => hn k _ a (by simp) b), h.fls, fun p hp => ⟨(h.fat p hp).1, Own.keep (h.fat p hp).2 hk (fun k _ a b => hn k _ a (by simp) b)⟩, ho.keep hk (fun k _ a b => hn k _ a (by simp) b), hp, h.room⟩
theorem ROpen.setFiles (h : ROpen w tag fv pv l q s) (v : Value) (l' : List RF) (ho : Own w 58 3 (fun k => tag k = .fs) v l'.length (tF.fl l')) (hf : ∀ p ∈ l', p.1.name.size ≤ 140737488351232 ∧ OB w (fun k => tag k = .fd p.1.key) p.2 p.1.data) :
    ROpen (w.setCell ⟨q, 0, none⟩ v) tag v pv l' q { s with files := l'.map (·.1) } := by
  have hk : Kept (· = q) w (w.setCell ⟨q, 0, none⟩ v) := (Kept.refl (· = q) w).setCell (p := ⟨q, 0, none⟩) (fun _ => rfl) _
  have hn : ∀ k t, tag k = t → t ≠ .hdr → ¬ k = q := fun k t e ne a => ne (by rw [← e, a]; exact h.tq)
  exact ⟨fun k a => Nat.lt_of_lt_of_le (h.old k a) hk.size, h.tq, h.blk.set_ 0 _, ho.keep hk (fun k _ a b => hn k _ a (by simp) b), rfl, fun p hp => ⟨(hf p hp).1, Own.keep (hf p hp).2 hk (fun k _ a b => hn k _ a (by simp) b)⟩, h.prow.keep hk (fun k _ a b => hn k _ a (by simp) b), h.pat, h.room⟩
/-- The files' row turns within itself. -/
theorem ROpen.turnRow (h : ROpen w tag fv pv l q s) (hk : Kept (fun k => tag k = .fs) w w') (l' : List RF) (ho : Own w' 58 3 (fun k => tag k = .fs) fv l'.length (tF.fl l')) (hf : ∀ p ∈ l', p.1.name.size ≤ 140737488351232 ∧ OB w (fun k => tag k = .fd p.1.key) p.2 p.1.data) :
    ROpen w' tag fv pv l' q { s with files := l'.map (·.1) } := by
  have hn : ∀ k t, tag k = t → t ≠ .fs → ¬ tag k = .fs := fun k t e ne a => ne (e.symm.trans a)
  exact ⟨fun k a => Nat.lt_of_lt_of_le (h.old k a) hk.size, h.tq, h.blk.keep hk (hn q _ h.tq (by simp)), ho, rfl, fun p hp => ⟨(hf p hp).1, Own.keep (hf p hp).2 hk (fun k _ a b => hn k _ a (by simp) b)⟩, h.prow.keep hk (fun k _ a b => hn k _ a (by simp) b), h.pat, h.room⟩
end

theorem one_tW (x : WrS) : ∀ u ∈ tW.cs x, u.oneCell' = true := by
  intro u hu
  simp only [Three.cs, tW, List.mem_cons, List.not_mem_nil, or_false] at hu
  rcases hu with rfl | rfl | rfl <;> rfl

attribute [local go_sem ↓] append_as
set_option maxRecDepth 100000 in
set_option maxHeartbeats 1600000 in
theorem refForget (G : Nat → Prop) (q : Nat) (s : DiskS) (nm : ByteArray) (w : World) (h : RAt w G q s) (hl : s.pend.length * 32 ≤ 140737488355328) :
    Calls Try.prog 40 #[.pointer (some ⟨q, 0, none⟩), .string nm] w fun e w' => e = .returned (.tuple #[]) ∧ ∃ G', RAt w' G' q (s.forget nm.toList) ∧ (∀ k, G' k → G k ∨ w.heap.size ≤ k) ∧ Kept G w w' := by
  obtain ⟨tag, fv, pv, l, hG, ho⟩ := h
  obtain ⟨A, c, rfl, hc, hm, _⟩ := Own.form ho.prow
  have HO := Lib.hid ho
  have HG := Lib.hid hG
  obtain ⟨fin, HFin⟩ : ∃ fin, Hid (s.pend.filter (notFor nm.toList) = fin) := ⟨_, Lib.hid rfl⟩
  have hlm : s.pend.length ≤ 4398046511104 := by omega
  have hmm := @run_makeMap Try.prog
  clear ho hG hmm
  go_enter Try.func40, Try.ntmps40
  go_wp2
  go_loopw [4, 5] (fun v i wr => ∃ (j : Nat) (ps : List WrS), j ≤ s.pend.length ∧ i = .int .i64 j ∧ Hid ((s.pend.take j).filter (notFor nm.toList) = ps) ∧ Hid (Own wr 84 3 (w.heap.size ≤ ·) v ps.length (tW.fl ps)) ∧ Hid (Kept noneS w wr)) (fun _ i _ => s.pend.length - (intOf i).toNat)
  case atStart => exact ⟨0, [], Nat.zero_le _, rfl, Lib.hid rfl, Lib.hid (Own.empty _ _ _ _ (Nat.le_refl _)), Lib.hid ((Kept.refl _ _).alloc _)⟩
  case round =>
    obtain ⟨j, ps, hj, rfl, HPs, HOw, HK⟩ := hrel
    have HO1 := Lib.hid (HO.out.keep HK.out (fun _ a => a.elim))
    have c1 : wr.cell? ⟨q, 1, none⟩ = some (.slice A s.pend.length c) := HO1.out.blk.cell 1
    by_cases hlt : j < s.pend.length
    · obtain ⟨g, rfl, _, q0, q1, q2, _⟩ := Own.at3 HO1.out.prow hlt
      have hTs := List.take_succ_eq_append_getElem hlt
      have q0' : wr.cell? ⟨g, j * 3, none⟩ = some (.string s.pend[j].name) := q0
      have q1' : wr.cell? ⟨g, j * 3 + 1, none⟩ = some (.int .i64 (s.pend[j].off : Int)) := q1
      have q2' : wr.cell? ⟨g, j * 3 + 2, none⟩ = some (.int .i64 (s.pend[j].data.length : Int)) := q2
      have HTs := Lib.hid hTs
      have hji : (j : Int) < (s.pend.length : Int) := by omega
      have hj0 : (0 : Int) ≤ (j : Int) := by omega
      clear q0 q1 q2 hTs
      generalize s.pend[j] = x at *
      obtain ⟨A0, c0', rfl, hc0, hm0, _⟩ := Own.form HOw.out
      have hpl : ps.length ≤ j := by
        rw [← HPs.out]
        refine Nat.le_trans (List.length_filter_le _ _) ?_
        rw [List.length_take]
        omega
      rcases hmt : (x.name.toList == nm.toList) with _ | _
      · have hno : notFor nm.toList x = true := by unfold notFor WrS.key; rw [hmt]; rfl
        have hne : (x.name.toList != nm.toList) = true := by unfold bne; rw [hmt]; rfl
        obtain ⟨i0, hi, hz0, hz1, hz2⟩ := info_parts infoRW
        obtain ⟨A3, c3, w3, hap, o3, k3, os3⟩ := Own.app3 (T := tW) (ty := 52) HOw.out x Try.underlying52 hi hz0 hz1 hz2 rfl (one_tW x) (by unfold maxLen; omega) (by omega) (fun k a => Nat.le_trans HK.out.size a)
        have hap' : (appSem #[52, 52] 52 #[.slice A0 ps.length c0', .slice (some ⟨wr.heap.size, 0, none⟩) 1 1]).run Try.prog (wr.alloc (.cells #[.string x.name, .int .i64 (x.off : Int), .int .i64 (x.data.length : Int)] 84)) = .ok (.slice A3 (ps.length + 1) c3) w3 := hap
        have O3 := Lib.hid o3
        have K3 := Lib.hid (HK.out.trans2 k3 (fun k a b => absurd a (Nat.not_lt.2 (HOw.out.2 k b))))
        have HNo := Lib.hid hno
        clear hap o3 k3 os3 hno hi hz0 hz1 hz2
        go_wp2
        go_roundw
        case rel =>
          refine ⟨j + 1, ps ++ [x], by omega, by go_num, Lib.hid ?_, Lib.hid ?_, K3⟩
          · rw [HTs.out, List.filter_append, HPs.out]
            simp [List.filter, HNo.out]
          · rw [List.length_append, List.length_singleton]
            exact O3.out
        case measure => simp [intOf]; omega
      · have hno : notFor nm.toList x = false := by unfold notFor WrS.key; rw [hmt]; rfl
        have hne : (x.name.toList != nm.toList) = false := by unfold bne; rw [hmt]; rfl
        have HNo := Lib.hid hno
        clear hno
        go_wp2
        go_roundw
        case rel =>
          refine ⟨j + 1, ps, by omega, by go_num, Lib.hid ?_, HOw, HK⟩
          rw [HTs.out, List.filter_append, HPs.out]
          simp [List.filter, HNo.out]
        case measure => simp [intOf]; omega
    · obtain rfl : j = s.pend.length := by omega
      have hps := HPs.out
      rw [List.take_length, HFin.out] at hps
      subst hps
      have f1 : wr.frozen? ⟨q, 1, none⟩ = false := HO1.out.blk.frozen 1
      obtain ⟨A0, c0', rfl, _⟩ := Own.form HOw.out
      have hsub : ∀ x ∈ fin, x ∈ s.pend := fun x hx => by
        rw [← HFin.out] at hx
        exact (List.mem_filter.1 hx).1
      have o2 := (HO1.out.retag (tag' := rtR tag w.heap.size wr.heap.size .pd) (fun k a => rtR_old HO.out.old k a) (fun k a => by
        rcases rtR_out k a with e | e
        · exact e.2
        · exact Nat.lt_of_lt_of_le (HO.out.old k e) HK.out.size)).setPend _ fin (HOw.out.mono (fun k a b => rtR_in b a)) (fun x hx => HO.out.pat x (hsub x hx))
      have O2 := Lib.hid o2
      have K2 := Lib.hid ((HK.out.mono (S' := G) (fun _ _ a => a.elim)).setCell (p := ⟨q, 1, none⟩) (fun _ => (HG.out q).2 (by rw [HO.out.tq]; simp)) (.slice A0 fin.length c0'))
      clear o2 HO1 hsub
      go_wp2
      go_end0
      refine ⟨rfl, fun k => rtR tag w.heap.size wr.heap.size .pd k ≠ .out, ?_, fun k a => ?_, K2.out⟩
      · have e : s.forget nm.toList = { s with pend := fin } := by unfold DiskS.forget; rw [HFin.out]
        rw [e]
        exact O2.out.at_
      · rcases rtR_out k a with e | e
        · exact .inr e.1
        · exact .inl ((HG.out k).2 e)

/-- The first files are safe already. -/
def safeL (l : List RF) (j : Nat) : List RF := (l.take j).map (fun p => (safeF p.1, p.2)) ++ l.drop j
theorem safeL_length (l : List RF) (j : Nat) : (safeL l j).length = l.length := by
  unfold safeL
  rw [List.length_append, List.length_map, List.length_take, List.length_drop]
  omega
theorem safeL_get (l : List RF) (j : Nat) (h : j < l.length) (h' : j < (safeL l j).length) : (safeL l j)[j] = l[j] := by
  have h1 : ((l.take j).map (fun p : RF => (safeF p.1, p.2))).length = j := by simp; omega
  have h2 : (safeL l j)[j]? = l[j]? := by
    unfold safeL
    rw [List.getElem?_append_right (by omega), h1, Nat.sub_self, List.getElem?_drop, Nat.add_zero]
  rw [List.getElem?_eq_getElem h', List.getElem?_eq_getElem h] at h2
  exact Option.some.inj h2
theorem safeL_step (l : List RF) (j : Nat) (h : j < l.length) : (safeL l j).set j (safeF l[j].1, l[j].2) = safeL l (j + 1) := by
  unfold safeL
  have h1 : ((l.take j).map (fun p : RF => (safeF p.1, p.2))).length = j := by simp; omega
  rw [List.set_append_right _ _ (by omega), h1, Nat.sub_self, List.drop_eq_getElem_cons h, List.set_cons_zero, List.take_succ_eq_append_getElem h, List.map_append, List.append_assoc]
  rfl
theorem safeL_mem {l : List RF} {j : Nat} {P : RF → Prop} (h : ∀ p ∈ l, P p) (hs : ∀ p, P p → P (safeF p.1, p.2)) : ∀ p ∈ safeL l j, P p := by
  intro p hp
  unfold safeL at hp
  rcases List.mem_append.1 hp with hp | hp
  · obtain ⟨p0, h0, rfl⟩ := List.mem_map.1 hp
    exact hs p0 (h p0 (List.mem_of_mem_take h0))
  · exact h p (List.mem_of_mem_drop hp)
def DiskS.sync2 (s : DiskS) : DiskS := { s with files := s.files.map safeF, pend := [] }

set_option maxRecDepth 100000 in
set_option maxHeartbeats 1600000 in
theorem refSync (G : Nat → Prop) (q : Nat) (s : DiskS) (w : World) (h : RAt w G q s) :
    Calls Try.prog 32 #[.pointer (some ⟨q, 0, none⟩)] w fun e w' => e = .returned (.tuple #[]) ∧ ∃ G', RAt w' G' q s.sync2 ∧ (∀ k, G' k → G k ∨ w.heap.size ≤ k) ∧ Kept G w w' := by
  obtain ⟨tag, fv, pv, l, hG, ho⟩ := h
  obtain ⟨A, c, rfl, hc, hm, _⟩ := Own.form ho.frow
  have hlm : l.length ≤ 9223372036854775807 := by unfold maxLen at hm; omega
  have hfin : s.sync2 = { s with files := (safeL l l.length).map (·.1), pend := [] } := by
    unfold DiskS.sync2 safeL
    rw [List.take_length, List.drop_length, List.append_nil, List.map_map, ← ho.fls, List.map_map]
    rfl
  rw [hfin]
  have HO0 : Hid (ROpen w tag (.slice A l.length c) pv (safeL l 0) q { s with files := (safeL l 0).map (·.1) }) := Lib.hid (by
    have e : safeL l 0 = l := by unfold safeL; rfl
    rw [e, ho.fls]
    exact ho)
  have HG := Lib.hid hG
  have HTq := Lib.hid ho.tq
  have HLt := Lib.hid ho.old
  clear ho hG hfin
  go_enter Try.func32, Try.ntmps32
  go_wp2
  go_loopw [2] (fun i wr => ∃ (j : Nat), j ≤ l.length ∧ i = .int .i64 j ∧ Hid (ROpen wr tag (.slice A l.length c) pv (safeL l j) q { s with files := (safeL l j).map (·.1) }) ∧ Hid (Kept G w wr)) (fun i _ => l.length - (intOf i).toNat)
  case atStart => exact ⟨0, Nat.zero_le _, rfl, HO0, Lib.hid (Kept.refl _ _)⟩
  case round =>
    obtain ⟨j, hj, rfl, HO, HK⟩ := hrel
    have c0 : wr.cell? ⟨q, 0, none⟩ = some (.slice A l.length c) := HO.out.blk.cell 0
    by_cases hlt : j < l.length
    · have hltj : j < (safeL l j).length := by rw [safeL_length]; exact hlt
      obtain ⟨g, rfl, hgt, q0, q1, q2, q3⟩ := Own.at3 HO.out.frow hltj
      clear q0
      rw [safeL_get l j hlt] at q1 q2
      obtain ⟨A1, c1, e1, _⟩ := Own.form (HO.out.fat l[j] (by rw [← safeL_get l j hlt hltj]; exact List.getElem_mem _)).2
      have q1' : wr.cell? ⟨g, j * 3 + 1, none⟩ = some (.slice A1 l[j].1.data.length c1) := q1.trans (congrArg some e1)
      have q2' : wr.cell? ⟨g, j * 3 + 2, none⟩ = some (.int .i64 (l[j].1.safe.length : Int)) := q2
      have q2f : wr.frozen? ⟨g, j * 3 + 2, none⟩ = false := q3 _
      have hrow := HO.out.frow
      rw [show l.length = (safeL l j).length from (safeL_length l j).symm] at hrow
      have hset := hrow.set1 (j := j) 2 (.int .i64 (l[j].1.data.length : Int)) (safeF l[j].1, l[j].2) (tF.fl_set1 hltj _ 2 (by decide) _ (by rw [safeL_get l j hlt hltj]; rfl))
      rw [safeL_step l j hlt, safeL_length] at hset
      have o2 := HO.out.turnRow (w' := wr.setCell ⟨g, j * 3 + 2, none⟩ (.int .i64 (l[j].1.data.length : Int))) ((Kept.refl _ wr).setCell (p := ⟨g, j * 3 + 2, none⟩) (fun _ => hgt) _) (safeL l (j + 1)) (by rw [safeL_length]; exact hset) (fun p hp => by
        have h1 := safeL_mem (j := j + 1) (P := fun p : RF => p.1.name.size ≤ 140737488351232 ∧ OB wr (fun k => tag k = .fd p.1.key) p.2 p.1.data) (l := safeL l j) HO.out.fat (fun p hp => hp)
        rcases List.mem_append.1 hp with hp | hp
        · obtain ⟨p0, h0, rfl⟩ := List.mem_map.1 hp
          by_cases hq : p0 ∈ l.take j
          · exact HO.out.fat (safeF p0.1, p0.2) (List.mem_append_left _ (List.mem_map.2 ⟨p0, hq, rfl⟩))
          · rw [List.take_succ_eq_append_getElem hlt] at h0
            rcases List.mem_append.1 h0 with h0 | h0
            · exact absurd h0 hq
            · have e : p0 = l[j] := by simpa using h0
              have h2 := HO.out.fat l[j] (by rw [← safeL_get l j hlt hltj]; exact List.getElem_mem _)
              rw [e]
              exact h2
        · refine HO.out.fat p (List.mem_append_right _ ?_)
          rw [List.drop_eq_getElem_cons hlt]
          exact List.mem_cons_of_mem _ hp)
      have O2 := Lib.hid o2
      have K2 := Lib.hid (HK.out.setCell (p := ⟨g, j * 3 + 2, none⟩) (fun _ => (HG.out g).2 (by rw [hgt]; simp)) (.int .i64 (l[j].1.data.length : Int)))
      have hji : (j : Int) < (l.length : Int) := by omega
      have hj0 : (0 : Int) ≤ (j : Int) := by omega
      clear q1 q2 q3 e1 hrow hset o2 HO HK
      generalize l[j].1.data.length = n at *
      go_wp2
      go_region
      all_goals
        go_wp2
        go_roundw
        case rel => exact ⟨j + 1, by omega, by go_num, Lib.hid (O2.out.keep ((Kept.refl noneS _).drew) (fun _ a => a.elim)), Lib.hid K2.out.drew⟩
        case measure => simp [intOf]; omega
    · obtain rfl : j = l.length := by omega
      have ka : Kept noneS wr (wr.alloc (.cells #[] 84)) := (Kept.refl _ _).alloc _
      have hz := HK.out.size
      have o2 := (((HO.out.keep ka (fun _ a => a.elim)).retag (tag' := rtR tag wr.heap.size (wr.heap.size + 1) .pd) (fun k a => rtR_old HO.out.old k a) (fun k a => by
        rcases rtR_out k a with e | e
        · simp; omega
        · have := HO.out.old k e
          simp
          omega)).setPend (.slice (some ⟨wr.heap.size, 0, none⟩) 0 0) [] (Own.empty _ _ _ _ (rtR_in (Nat.le_refl _) (Nat.lt_succ_self _))) (fun x hx => by cases hx))
      have f1 : (wr.alloc (.cells #[] 84)).frozen? ⟨q, 1, none⟩ = false := (HO.out.blk.alloc _).frozen 1
      have c1 : (wr.alloc (.cells #[] 84)).cell? ⟨q, 1, none⟩ = some pv := (HO.out.blk.alloc _).cell 1
      have O2 := Lib.hid o2
      have K2 := Lib.hid ((HK.out.alloc (.cells #[] 84)).setCell (p := ⟨q, 1, none⟩) (fun _ => (HG.out q).2 (by rw [HTq.out]; simp)) (.slice (some ⟨wr.heap.size, 0, none⟩) 0 0))
      clear o2 ka
      go_wp2
      go_end0
      refine ⟨rfl, _, O2.out.at_, fun k a => ?_, K2.out⟩
      rcases rtR_out k a with e | e
      · exact .inr (by omega)
      · exact .inl ((HG.out k).2 e)

end Go.Proofs.Ytnlmkfncdklcdaa
