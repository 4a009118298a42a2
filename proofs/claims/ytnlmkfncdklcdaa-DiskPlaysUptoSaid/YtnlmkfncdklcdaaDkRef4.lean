/-
  The document's Disk: Remove.
-/
import Derived.Test.YtnlmkfncdklcdaaDkRef3
namespace Go.Proofs.Ytnlmkfncdklcdaa
open Go.RowKit

theorem erase_snoc {α : Type} (l : List α) (j i : Nat) (h : j < l.length) (hne : j ≠ i) : (l.take (j + 1)).eraseIdx i = (l.take j).eraseIdx i ++ [l[j]] := by
  rw [List.take_succ_eq_append_getElem h]
  have hl : (l.take j).length = j := by rw [List.length_take]; omega
  by_cases hi : i < j
  · rw [List.eraseIdx_append_of_lt_length (by rw [hl]; exact hi)]
  · rw [List.eraseIdx_append_of_length_le (by rw [hl]; omega), hl, List.eraseIdx_of_length_le (l := [l[j]]) (by simp; omega), List.eraseIdx_of_length_le (by rw [hl]; omega)]
theorem erase_skip {α : Type} (l : List α) (i : Nat) (h : i < l.length) : (l.take (i + 1)).eraseIdx i = (l.take i).eraseIdx i := by
  rw [List.take_succ_eq_append_getElem h]
  have hl : (l.take i).length = i := by rw [List.length_take]; omega
  rw [List.eraseIdx_append_of_length_le (by rw [hl]; omega), hl, Nat.sub_self, List.eraseIdx_of_length_le (l := l.take i) (by rw [hl]; omega)]
  simp

theorem refRemBad (G : Nat → Prop) (q : Nat) (s : DiskS) (nm : ByteArray) (w : World) (h : RAt w G q s) (hg : s.get nm.toList = none) :
    Calls Try.prog 34 #[.pointer (some ⟨q, 0, none⟩), .string nm] w fun e w' => e = .returned (.int .i64 7) ∧ Kept noneS w w' := by
  have HRA := Lib.hid h
  have HFi := Lib.hid (find_no (show s.files.find? _ = none from hg))
  clear h hg
  go_enter Try.func34, Try.ntmps34
  go_wp2_with fail
  refine (refFind G q s nm w HRA.out).mono ?_
  rintro e w1 ⟨rfl, rfl⟩
  rw [HFi.out]
  go_wp2
  go_ret
  exact ⟨rfl, Kept.refl _ _⟩

attribute [local go_sem ↓] append_as
set_option maxRecDepth 100000 in
set_option maxHeartbeats 3200000 in
theorem refRemOk (G : Nat → Prop) (q : Nat) (s : DiskS) (nm : ByteArray) (f : FileS) (w : World) (h : RAt w G q s) (ha : Asc s.files) (hg : s.get nm.toList = some f) (hp : s.pend.length * 32 ≤ 140737488355328) (hfl : s.files.length * 48 ≤ 140737488355328) :
    Calls Try.prog 34 #[.pointer (some ⟨q, 0, none⟩), .string nm] w fun e w' => e = .returned (.int .i64 0) ∧ ∃ G', RAt w' G' q (s.rem f) ∧ (∀ k, G' k → G k ∨ w.heap.size ≤ k) ∧ Kept G w w' := by
  have HRA := Lib.hid h
  obtain ⟨tag, fv, pv, l, hG, ho⟩ := h
  obtain ⟨i, hi, hfi, hfe, hfk⟩ := find_place (show s.files.find? _ = some f from hg)
  obtain ⟨A, c, rfl, hc, hm, _⟩ := Own.form ho.frow
  have hll : l.length = s.files.length := by rw [← ho.fls, List.length_map]
  have hil : i < l.length := by omega
  have hkey : f.key = nm.toList := by rw [← hfe]; exact hfk
  have herase : delF f.key s.files = (l.eraseIdx i).map (·.1) := by
    rw [del_erase s.files i hi ha (by rw [hfe]), ← ho.fls]
    rw [List.eraseIdx_eq_take_drop_succ, List.eraseIdx_eq_take_drop_succ, List.map_append, List.map_take, List.map_drop]
  have hil2 : l.length * 48 ≤ 140737488355328 := by omega
  have HFi := Lib.hid hfi
  have HO := Lib.hid ho
  have HG := Lib.hid hG
  have HKey := Lib.hid hkey
  have HEr := Lib.hid herase
  have hi0 : (0 : Int) ≤ (i : Int) := by omega
  clear ho hG hg hfi hfe hfk hkey herase ha hll hfl
  go_enter Try.func34, Try.ntmps34
  go_wp2_with fail
  refine (refFind G q s nm w HRA.out).mono ?_
  rintro e w1 ⟨rfl, rfl⟩
  rw [HFi.out]
  go_wp2
  go_loopw [6, 7] (fun v k wr => ∃ (j : Nat) (l' : List RF), j ≤ l.length ∧ k = .int .i64 j ∧ Hid ((l.take j).eraseIdx i = l') ∧ Hid (Own wr 58 3 (w.heap.size ≤ ·) v l'.length (tF.fl l')) ∧ Hid (Kept noneS w wr)) (fun _ k _ => l.length - (intOf k).toNat)
  case atStart => exact ⟨0, [], Nat.zero_le _, rfl, Lib.hid (by simp), Lib.hid (Own.empty _ _ _ _ (Nat.le_refl _)), Lib.hid ((Kept.refl _ _).alloc _)⟩
  case round =>
    obtain ⟨j, l', hj, rfl, HL, HOw, HK⟩ := hrel
    have HO1 := Lib.hid (HO.out.keep HK.out (fun _ a => a.elim))
    have c0 : wr.cell? ⟨q, 0, none⟩ = some (.slice A l.length c) := HO1.out.blk.cell 0
    obtain ⟨A0, c0', rfl, hc0, hm0, _⟩ := Own.form HOw.out
    by_cases hlt : j < l.length
    · by_cases hji : j = i
      · subst hji
        have hb : ((j : Int) != (j : Int)) = false := by simp
        have hjl : (j : Int) < (l.length : Int) := by omega
        go_wp2
        go_roundw
        case rel => exact ⟨j + 1, l', by omega, by go_num, Lib.hid (by rw [erase_skip l j hlt]; exact HL.out), HOw, HK⟩
        case measure => simp [intOf]; omega
      · have hb : ((j : Int) != (i : Int)) = true := by simp only [bne_iff_ne, ne_eq]; omega
        obtain ⟨g, rfl, _, q0, q1, q2, _⟩ := Own.at3 HO1.out.frow hlt
        obtain ⟨A1, c1, e1, _⟩ := Own.form (HO1.out.fat l[j] (List.getElem_mem hlt)).2
        have hEs := erase_snoc l j i hlt hji
        have q0' : wr.cell? ⟨g, j * 3, none⟩ = some (.string l[j].1.name) := q0
        have q1' : wr.cell? ⟨g, j * 3 + 1, none⟩ = some l[j].2 := q1
        have q2' : wr.cell? ⟨g, j * 3 + 2, none⟩ = some (.int .i64 (l[j].1.safe.length : Int)) := q2
        have hx : l[j] = (l[j].1, .slice A1 l[j].1.data.length c1) := Prod.ext rfl e1
        rw [e1] at q1'
        rw [hx] at hEs
        have HEs := Lib.hid hEs
        have hjl : (j : Int) < (l.length : Int) := by omega
        have hj0 : (0 : Int) ≤ (j : Int) := by omega
        have hpl : l'.length ≤ j := by
          rw [← HL.out]
          have := List.length_eraseIdx_le (l.take j) i
          rw [List.length_take] at this
          omega
        clear q0 q1 q2 hEs e1 hx
        generalize l[j].1 = x at *
        obtain ⟨i0, hi0', hz0, hz1, hz2⟩ := info_parts infoRF
        obtain ⟨A3, c3, w3, hap, o3, k3, os3⟩ := Own.app3 (T := tF) (ty := 51) HOw.out ((x, .slice A1 x.data.length c1) : RF) Try.underlying51 hi0' hz0 hz1 hz2 rfl (fun u hu => by
          simp only [Three.cs, tF, List.mem_cons, List.not_mem_nil, or_false] at hu
          rcases hu with rfl | rfl | rfl <;> rfl) (by unfold maxLen; omega) (by omega) (fun k a => Nat.le_trans HK.out.size a)
        have hap' : (appSem #[51, 51] 51 #[.slice A0 l'.length c0', .slice (some ⟨wr.heap.size, 0, none⟩) 1 1]).run Try.prog (wr.alloc (.cells #[.string x.name, .slice A1 x.data.length c1, .int .i64 (x.safe.length : Int)] 58)) = .ok (.slice A3 (l'.length + 1) c3) w3 := hap
        have O3 := Lib.hid o3
        have K3 := Lib.hid (HK.out.trans2 k3 (fun k a b => absurd a (Nat.not_lt.2 (HOw.out.2 k b))))
        clear hap o3 k3 os3 hi0' hz0 hz1 hz2
        go_wp2
        go_roundw
        case rel =>
          refine ⟨j + 1, l' ++ [(x, .slice A1 x.data.length c1)], by omega, by go_num, Lib.hid ?_, Lib.hid ?_, K3⟩
          · rw [HEs.out, HL.out]
          · rw [List.length_append, List.length_singleton]
            exact O3.out
        case measure => simp [intOf]; omega
    · obtain rfl : j = l.length := by omega
      have hL := HL.out
      rw [List.take_length] at hL
      have HL2 := Lib.hid hL
      have f1 : wr.frozen? ⟨q, 0, none⟩ = false := HO1.out.blk.frozen 0
      have hsub : ∀ x ∈ l', x ∈ l := fun x hx => by
        rw [← HL2.out] at hx
        exact List.mem_of_mem_eraseIdx hx
      have ho1 := (HO1.out.retag (tag' := rtR tag w.heap.size wr.heap.size .fs) (fun k a => rtR_old HO.out.old k a) (fun k a => by
        rcases rtR_out k a with e | e
        · exact e.2
        · exact Nat.lt_of_lt_of_le (HO.out.old k e) HK.out.size))
      have o2 := ho1.setFiles _ l' (HOw.out.mono (fun k a b => rtR_in b a)) (fun x hx => ho1.fat x (hsub x hx))
      have O2 := Lib.hid o2
      have K2 := Lib.hid ((HK.out.mono (S' := G) (fun _ _ a => a.elim)).setCell (p := ⟨q, 0, none⟩) (fun _ => (HG.out q).2 (by rw [HO.out.tq]; simp)) (.slice A0 l'.length c0'))
      have T2 : Hid (∀ k, rtR tag w.heap.size wr.heap.size .fs k ≠ .out → G k ∨ w.heap.size ≤ k) := Lib.hid (fun k a => by
        rcases rtR_out k a with e | e
        · exact .inr e.1
        · exact .inl ((HG.out k).2 e))
      clear o2 HO1 hsub ho1 hL HL
      go_wp2_with fail
      refine (refForget _ q _ nm _ O2.out.at_ hp).mono ?_
      rintro e w6 ⟨rfl, G6, d6, t6, k6⟩
      have D6 := Lib.hid d6
      have T6 := Lib.hid t6
      have hz7 := K2.out.size
      have K6 := Lib.hid (K2.out.trans2 k6 (fun k a b => (T2.out k b).elim id (fun e => absurd a (Nat.not_lt.2 e))))
      clear d6 t6 k6 K2 O2
      go_wp2
      go_ret
      refine ⟨rfl, G6, ?_, fun k a => ?_, K6.out⟩
      · refine D6.out.like ?_ ?_ rfl
        · show delF f.key s.files = l'.map (·.1)
          rw [HEr.out, HL2.out]
        · show s.pend.filter (notFor f.key) = s.pend.filter (notFor nm.toList)
          rw [HKey.out]
      · rcases T6.out k a with e | e
        · exact T2.out k e
        · exact .inr (Nat.le_trans hz7 e)

end Go.Proofs.Ytnlmkfncdklcdaa
