/-
  The document's Disk: Append: what is refused; the plain words of what is taken.
-/
import Derived.Test.YtnlmkfncdklcdaaDkRef4
import Derived.Test.YtnlmkfncdklcdaaDkAppOk
import Derived.Sort.Walk0
namespace Go.Proofs.Ytnlmkfncdklcdaa
open Go.RowKit

/-- An element is put in at place i. -/
def insAt {α : Type} (l : List α) (i : Nat) (x : α) : List α := l.take i ++ x :: l.drop i
theorem insAt_length {α : Type} (l : List α) (i : Nat) (x : α) : (insAt l i x).length = l.length + 1 := by
  unfold insAt
  rw [List.length_append, List.length_cons, List.length_take, List.length_drop]
  omega
theorem insAt_end {α : Type} (l : List α) (x : α) : insAt l l.length x = l ++ [x] := by simp [insAt]
theorem insAt_get {α : Type} (l : List α) (i : Nat) (x : α) (h : i ≤ l.length) : (insAt l i x)[i]? = some x := by
  unfold insAt
  rw [List.getElem?_append_right (by rw [List.length_take]; omega), List.length_take, Nat.min_eq_left h, Nat.sub_self]
  rfl
theorem insAt_prev {α : Type} (l : List α) (i : Nat) (x : α) (h : i < l.length) : (insAt l (i + 1) x)[i]? = some l[i] := by
  unfold insAt
  rw [List.getElem?_append_left (by rw [List.length_take]; omega), List.getElem?_take_of_lt (by omega), List.getElem?_eq_getElem h]
theorem insAt_swap {α : Type} (l : List α) (i : Nat) (x : α) (h : i < l.length) : ((insAt l (i + 1) x).set (i + 1) l[i]).set i x = insAt l i x := by
  unfold insAt
  have h1 : (l.take (i + 1)).length = i + 1 := by rw [List.length_take]; omega
  have h2 : (l.take i).length = i := by rw [List.length_take]; omega
  rw [List.set_append_right _ _ (by omega), h1, Nat.sub_self, List.set_cons_zero, List.set_append_left _ _ (by omega), List.take_succ_eq_append_getElem h, List.set_append_right _ _ (by omega), h2, Nat.sub_self, List.drop_eq_getElem_cons h]
  simp
theorem put_ins (f : FileS) : ∀ (l : List FileS) (i : Nat), i ≤ l.length → (∀ g ∈ l.take i, g.key < f.key) → (∀ g ∈ l.drop i, f.key < g.key) → putF f l = insAt l i f
  | [], i, h, _, _ => by
    have : i = 0 := by simpa using h
    subst this
    rfl
  | g :: l, 0, _, _, h2 => by
    have h3 := h2 g (by simp)
    rw [putF, if_neg (fun a => lt_ne h3 a.symm), if_pos h3]
    rfl
  | g :: l, i + 1, h, h1, h2 => by
    have h3 := h1 g (by simp)
    rw [putF, if_neg (lt_ne h3), if_neg (fun a => lt_irr _ (lt_tr a h3)), put_ins f l i (by simpa using h) (fun x hx => h1 x (by simp [hx])) (fun x hx => h2 x (by simpa using hx))]
    rfl

def catF (b : List UInt8) (g : FileS) : FileS := { g with data := g.data ++ b }

set_option maxRecDepth 100000 in
set_option maxHeartbeats 1600000 in
theorem refAppBad (G : Nat → Prop) (q : Nat) (s : DiskS) (nm : ByteArray) (A : Option Addr) (c n : Nat) (w : World) (h : RAt w G q s) (hn : nm.size ≤ 140737488351232) (hu : s.used = sumF s.files) (hs : s.used ≤ 1152921504606846976) (hl : n ≤ 140737488355328) (he : s.appErr nm n ≠ 0) :
    Calls Try.prog 31 #[.pointer (some ⟨q, 0, none⟩), .string nm, .slice A n c] w fun e w' => e = .returned (.int .i64 (s.appErr nm n)) ∧ Kept noneS w w' := by
  obtain ⟨r, hr⟩ : ∃ r, s.appErr nm n = r := ⟨_, rfl⟩
  rw [hr] at he ⊢
  unfold DiskS.appErr at hr
  have HRA := Lib.hid h
  have c2 : w.cell? ⟨q, 2, none⟩ = some (.int .i64 s.room) := by
    obtain ⟨tag, fv, pv, l, _, ho⟩ := h
    exact ho.blk.cell 2
  clear h
  rcases hgd : goodB nm with _ | _
  · rw [hgd, if_pos rfl] at hr
    subst hr
    go_enter Try.func31, Try.ntmps31
    go_wp2_with fail
    refine (refGood nm w hn).mono ?_
    rw [hgd]
    rintro e w1 ⟨rfl, rfl⟩
    go_wp2
    go_ret
    exact ⟨rfl, Kept.refl _ _⟩
  · rw [hgd, if_neg (by decide)] at hr
    by_cases hroom : s.room < s.used + n
    · rw [if_pos hroom] at hr
      subst hr
      have hU : ∀ m, Calls Try.prog 18 #[.pointer (some ⟨q, 0, none⟩)] (w.drewN m) fun e w' => e = .returned (.int .i64 s.used) ∧ w' = w.drewN m := fun m => by
        refine (refUsed G q s (w.drewN m) (HRA.out.keep ((Kept.refl noneS w).drewN m) (fun _ _ a => a))).mono ?_
        rintro e w' ⟨rfl, rfl⟩
        have : wrap64 (sumF s.files : Int) = s.used := by rw [hu]; unfold wrap64; omega
        rw [this]
        exact ⟨rfl, rfl⟩
      have HU := Lib.hid hU
      have hw1 : wrap64 (s.used + (n : Int)) = s.used + (n : Int) := by unfold wrap64; omega
      have hgt : decide (s.room < s.used + (n : Int)) = true := decide_eq_true hroom
      have hU0 : 0 ≤ s.used := by rw [hu]; omega
      clear hU he hu
      go_enter Try.func31, Try.ntmps31
      go_wp2_with fail
      refine (refGood nm w hn).mono ?_
      rw [hgd]
      rintro e w1 ⟨rfl, rfl⟩
      go_wp2_with fail
      go_quiet (first | (go_at_call 18; exact Calls.quiet_of_same (HU.out _)))
      go_wp2
      go_ret
      exact ⟨rfl, (Kept.refl _ _).drewN _⟩
    · rw [if_neg hroom] at hr
      exact absurd hr.symm he

end Go.Proofs.Ytnlmkfncdklcdaa
