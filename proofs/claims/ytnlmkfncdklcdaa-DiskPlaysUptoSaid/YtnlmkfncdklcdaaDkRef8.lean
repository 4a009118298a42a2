/-
  warrenref11.CopyFiles; the document's Seen.
-/
import Derived.Test.YtnlmkfncdklcdaaDkRef3
import Derived.Test.YtnlmkfncdklcdaaDkFlo
import Derived.Deep.RegionHeld3
namespace Go.Proofs.Ytnlmkfncdklcdaa
open Go.RowKit

def CopyPost (w : World) (fs : List FlS) (e : Ending) (w' : World) : Prop := ∃ A c, e = .returned (.slice A fs.length c) ∧ FlsOwn w' (w.heap.size ≤ ·) (.slice A fs.length c) fs ∧ Kept noneS w w'

attribute [local go_sem ↓] append_as
set_option maxRecDepth 100000 in
set_option maxHeartbeats 3200000 in
theorem copyFiles (A : Option Addr) (c : Nat) (fs : List FlS) (H : Nat → Prop) (w : World) (h : FlsAt w H A fs) (hl : fs.length * 40 ≤ 140737488355328) :
    Calls Try.prog 11 #[.slice A fs.length c] w (CopyPost w fs) := by
  have HX := Lib.hid (h.mono (G := (· < w.heap.size)) (fun k a _ => a))
  clear h
  generalize hP : CopyPost w fs = Post
  have HP := Lib.hid hP
  clear hP
  go_enter Try.func11, Try.ntmps11
  go_wp2
  go_loopw [3, 4] (fun v i wr => ∃ j : Nat, j ≤ fs.length ∧ i = .int .i64 j ∧ Hid (FlsOwn wr (w.heap.size ≤ ·) v (fs.take j)) ∧ Hid (Kept noneS w wr)) (fun _ i _ => fs.length - (intOf i).toNat)
  case atStart => exact ⟨0, Nat.zero_le _, rfl, Lib.hid (FlsOwn.empty _ _ (Nat.le_refl _)), Lib.hid ((Kept.refl _ _).alloc _)⟩
  case round =>
    obtain ⟨j, hj, rfl, HO, HK⟩ := hrel
    by_cases hlt : j < fs.length
    · obtain ⟨g, o, B, d, rfl, hgF, ⟨hn1, hn2⟩, ⟨hB1, hB2, hB3, hB4⟩, q0, q1⟩ := (HX.out.still HK.out).at_ hlt
      have HTk := Lib.hid (List.take_succ_eq_append_getElem hlt)
      obtain ⟨A0, c0, rfl, _⟩ := HO.out.form
      have htl : (fs.take j).length = j := by rw [List.length_take]; omega
      generalize fs[j] = f at *
      obtain ⟨cur, hcur⟩ : ∃ cur, fs.take j = cur := ⟨_, rfl⟩
      have HCur := Lib.hid hcur
      rw [hcur] at HO htl HTk ⊢
      have HTl := Lib.hid htl
      have hcl : (cur.length + 1) * 40 ≤ 140737488355328 := by omega
      have hji : (j : Int) < (fs.length : Int) := by omega
      have hj0 : (0 : Int) ≤ (j : Int) := by omega
      have HB := Lib.hid hB1
      have HGF := Lib.hid hgF
      clear hB1 hcur htl hgF
      go_upto_region 5 with (fail)
      go_region_held3 (fun W => W.cell? ⟨g, o + j * 2, none⟩ = some (.string f.name) ∧ W.cell? ⟨g, o + j * 2 + 1, none⟩ = some (.slice B f.data.length d))
        (first | exact ⟨q0, q1⟩ | exact ⟨s0, s1⟩ | exact ⟨s0z, s1z⟩ | exact ⟨s0k, s1k⟩ | go_keep)
        (first
          | (go_at_call 29; refine (refCopyB B d f.data _ wr.drew HB.out.drew (by omega)).mono ?_; rintro e w2 ⟨A2, c2, rfl, o2, k2⟩; have kA : Kept noneS wr w2 := ((Kept.refl noneS wr).drew).trans k2; have s0 := (kA.cell (lt_of_cell q0) (fun a => a)).trans q0; have s1 := (kA.cell (lt_of_cell q1) (fun a => a)).trans q1; have kz : Kept noneS w2 (w2.alloc (.cells #[.string f.name, .slice A2 f.data.length c2] 36)) := (Kept.refl noneS w2).alloc _; have s0z := (kz.cell (lt_of_cell s0) (fun a => a)).trans s0; have s1z := (kz.cell (lt_of_cell s1) (fun a => a)).trans s1; obtain ⟨A3, c3, w3, hap, fo3, k3, os3⟩ := (HO.out.still kA).append f.name f.data (.slice A2 f.data.length c2) (Own.mono o2 (fun k _ a => Nat.le_trans HK.out.size a)) hn1 hn2 (fun k a => Nat.le_trans (HK.out.trans kA).size a) hcl; have hgo : ¬ ownS (.slice A0 cur.length c0) g := (fun a => by obtain ⟨css, h1, _⟩ := HO.out; have h2 := h1.2 g a; have h3 := HGF.out; omega); have s0k := (k3.cell (lt_of_cell s0) hgo).trans s0; have s1k := (k3.cell (lt_of_cell s1) hgo).trans s1; have FO3 := Lib.hid fo3; have K3 := Lib.hid ((HK.out.trans kA).trans2 k3 (fun k a b => by obtain ⟨css, h1, _⟩ := HO.out; have h2 := h1.2 k b; omega)); clear o2 k2 kA kz fo3 k3 os3 hgo))
      all_goals
        go_wp2
        go_roundw
        case rel => exact ⟨j + 1, by omega, by go_num, Lib.hid (by rw [HTk.out]; exact FO3.out), K3⟩
        case measure => simp [intOf]; omega
    · obtain rfl : j = fs.length := by omega
      rw [List.take_length] at HO
      obtain ⟨A0, c0, rfl, _⟩ := HO.out.form
      go_wp2
      rw [← HP.out]
      exact ⟨A0, c0, rfl, HO.out, HK.out⟩

end Go.Proofs.Ytnlmkfncdklcdaa
