/-
  The document's Disk: Seen.
-/
import Derived.Test.YtnlmkfncdklcdaaDkLaw
import Derived.BigRegion
namespace Go.Proofs.Ytnlmkfncdklcdaa
open Go.RowKit

/-- A file in the row of those seen. -/
def tS (p : RF) : List Value := [.string p.1.name, p.2]
def fS (l : List RF) : List Value := (l.map tS).flatten
theorem fS_snoc (l : List RF) (p : RF) : fS (l ++ [p]) = fS l ++ [.string p.1.name, p.2] := by
  unfold fS
  rw [List.map_append, List.flatten_append]
  simp [tS]
def SeenPost (w : World) (G : Nat → Prop) (fs : List FlS) (e : Ending) (w' : World) : Prop := ∃ A c, e = .returned (.slice A fs.length c) ∧ FlsAt w' (fun k => G k ∨ w.heap.size ≤ k) A fs ∧ Kept noneS w w'

theorem seen_app (w : World) (F : Nat → Prop) (v : Value) (n : Nat) (xs : List Value) (h : Own w 36 2 F v n xs) (nm : ByteArray) (A : Option Addr) (m c : Nat) (hl : (n + 1) * 40 ≤ 140737488355328) :
    ∃ A' c' w', (appSem #[24, 24] 24 #[v, .slice (some ⟨w.heap.size, 0, none⟩) 1 1]).run Try.prog (w.alloc (.cells #[.string nm, .slice A m c] 36)) = .ok (.slice A' (n + 1) c') w' ∧
      Own w' 36 2 (fun k => F k ∨ w.heap.size ≤ k) (.slice A' (n + 1) c') (n + 1) (xs ++ [.string nm, .slice A m c]) ∧ Kept (ownS v) w w' := by
  obtain ⟨i0, hi, hz0, hz1, hz2⟩ := info_parts infoFile
  obtain ⟨A', c', w', hrun, g2, g3, g4⟩ := run_app1 (P := Try.prog) w 24 24 36 i0 _ 2 40 Try.underlying24 hi hz0 hz1 hz2 rfl (by decide) F v n xs h #[.string nm, .slice A m c] rfl (one_cells2 _ _ rfl) (by unfold maxLen; omega) hl
  refine ⟨A', c', w', hrun, g2.mono (fun k _ q => ?_), ((Kept.refl (ownS v) w).alloc _).trans g4⟩
  rcases q with q | q
  · exact .inl (h.2 k q)
  · exact .inr (by omega)

attribute [local go_sem ↓] append_as
set_option maxRecDepth 100000 in
set_option maxHeartbeats 3200000 in
theorem refSeen (G : Nat → Prop) (q : Nat) (s : DiskS) (w : World) (h : RAt w G q s) (hd : ∀ f ∈ s.files, f.data.length ≤ 140737488351232) (hl : s.files.length * 40 ≤ 140737488355328) :
    Calls Try.prog 25 #[.pointer (some ⟨q, 0, none⟩)] w (SeenPost w G s.seen) := by
  obtain ⟨tag, fv, pv, l, hG, ho⟩ := h
  have hfl : s.files.length = l.length := by rw [← ho.fls, List.length_map]
  have HFl := Lib.hid hfl
  obtain ⟨Af, cf, rfl, _⟩ := Own.form ho.frow
  have hfs : s.seen = l.map fun p => ⟨p.1.name, p.1.data⟩ := by
    unfold DiskS.seen
    rw [← ho.fls, List.map_map]
    rfl
  have HD : Hid (∀ p ∈ l, p.1.data.length ≤ 140737488351232) := Lib.hid (fun p hp => hd p.1 (by rw [← ho.fls]; exact List.mem_map_of_mem hp))
  rw [hfs]
  have HO := Lib.hid ho
  have HG := Lib.hid hG
  have hll : l.length * 40 ≤ 140737488355328 := by omega
  clear ho hG hd hl hfl hfs
  generalize hP : SeenPost w G (l.map fun p => ⟨p.1.name, p.1.data⟩) = Post
  have HP := Lib.hid hP
  clear hP
  go_enter Try.func25, Try.ntmps25
  go_wp2
  go_loopw [3, 4] (fun v i wr => ∃ j : Nat, j ≤ l.length ∧ i = .int .i64 j ∧ Hid (Own wr 36 2 (w.heap.size ≤ ·) v j (fS (l.take j))) ∧ Hid (Kept noneS w wr)) (fun _ i _ => l.length - (intOf i).toNat)
  case atStart => exact ⟨0, Nat.zero_le _, rfl, Lib.hid (Own.empty _ _ _ _ (Nat.le_refl _)), Lib.hid ((Kept.refl _ _).alloc _)⟩
  case round =>
    obtain ⟨j, hj, rfl, HOw, HK⟩ := hrel
    have HOr := Lib.hid (HO.out.keep HK.out (fun _ a => a.elim))
    have p0 : wr.cell? ⟨q, 0, none⟩ = some (.slice Af l.length cf) := HOr.out.blk.cell 0
    by_cases hlt : j < l.length
    · obtain ⟨g, rfl, hgF, q0, q1, _, _⟩ := Own.at3 HOr.out.frow hlt
      have HTk := Lib.hid (congrArg fS (List.take_succ_eq_append_getElem hlt))
      obtain ⟨A0, c0, rfl, _⟩ := Own.form HOw.out
      obtain ⟨A1, c1, e1, _⟩ := Own.form (HOr.out.fat l[j] (List.getElem_mem hlt)).2
      have q0' : wr.cell? ⟨g, j * 3, none⟩ = some (.string l[j].1.name) := q0
      have q1' : wr.cell? ⟨g, j * 3 + 1, none⟩ = some (.slice A1 l[j].1.data.length c1) := q1.trans (congrArg some e1)
      rw [fS_snoc, e1] at HTk
      clear q0 q1 e1
      generalize l[j].1.name = nm at *
      generalize l[j].1.data.length = n1 at *
      have hji : (j : Int) < (l.length : Int) := by omega
      have hj0 : (0 : Int) ≤ (j : Int) := by omega
      obtain ⟨A3, c3, w3, hap, fo3, k3⟩ := seen_app wr.drew _ _ _ _ (Own.keep HOw.out ((Kept.refl noneS wr).drew) (fun _ _ _ a => a)) nm A1 n1 c1 (by omega)
      have FO3 := Lib.hid fo3
      have K3 := Lib.hid (HK.out.trans2 (((Kept.refl (ownS (.slice A0 j c0)) wr).drew).trans k3) (fun k a b => absurd a (Nat.not_lt.2 (HOw.out.2 k b))))
      have hap2 : (appSem #[24, 24] 24 #[.slice A0 j c0, .slice (some ⟨wr.heap.size, 0, none⟩) 1 1]).run Try.prog (wr.alloc (.cells #[.string nm, .slice A1 n1 c1] 36)).drew = .ok (.slice A3 (j + 1) c3) w3 := hap
      clear fo3 k3 HOr hgF hap
      go_upto_region 5 with (fail)
      go_region
      all_goals
        go_wp2
        go_roundw
        case rel => exact ⟨j + 1, by omega, by go_num, Lib.hid (by rw [HTk.out]; exact FO3.out.mono (fun k _ a => by have := HK.out.size; have h2 : wr.drew.heap.size = wr.heap.size := rfl; omega)), K3⟩
        case measure => simp [intOf]; omega
    · obtain rfl : j = l.length := by omega
      rw [List.take_length] at HOw
      obtain ⟨A0, c0, rfl, _⟩ := Own.form HOw.out
      go_wp2
      rw [← HP.out]
      refine ⟨A0, c0, by rw [List.length_map]; rfl, ⟨l.map tS, (Own.rd HOw.out).mono (fun k _ a => .inr a), by rw [List.length_map, List.length_map], fun j a b => ?_⟩, HK.out⟩
      rw [List.length_map] at a
      rw [List.getElem_map, List.getElem_map]
      have h1 := HOr.out.fat l[j] (List.getElem_mem a)
      exact ⟨h1.1, HD.out _ (List.getElem_mem a), _, rfl, (OB.sl h1.2).mono (fun k _ b => .inl ((HG.out k).2 (by rw [b]; simp)))⟩

end Go.Proofs.Ytnlmkfncdklcdaa
