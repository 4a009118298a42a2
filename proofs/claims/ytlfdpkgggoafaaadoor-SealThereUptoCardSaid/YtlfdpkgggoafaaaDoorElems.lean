/-
  The walk of SealWhole.
-/
import Derived.Test.YtlfdpkgggoafaaaDoorRefWhole
namespace Go.Proofs.YtlfdpkgggoafaaaDoor
open Go.RowKit

/-- A store into an owned row of one-cell elements. -/
theorem Own.store1 {w : World} {e : TypeId} {F : Nat → Prop} {A : Option Addr} {n cap : Nat} {xs : List Value} (h : Own w e 1 F (.slice A n cap) n xs) {j : Nat} (hj : j < n) (u : Value) :
    ∃ g, A = some ⟨g, 0, none⟩ ∧ F g ∧ ownS (.slice A n cap) g ∧ w.cell? ⟨g, j, none⟩ = xs[j]? ∧ w.frozen? ⟨g, j, none⟩ = false ∧ Own (w.setCell ⟨g, j, none⟩ u) e 1 F (.slice A n cap) n (xs.set j u) := by
  rcases h.1.2 with ⟨h0, h1⟩ | ⟨g, cap', cur, h0, hb, hh, h1, h2, h3, h4⟩
  · omega
  · injection h0 with hA hn hcap
    subst hA hcap
    have hblk : Blk w g e cur := hh
    have h5 : cur.toList.take n = xs := by simpa using h4
    refine ⟨g, rfl, h.2 g rfl, rfl, ?_, hblk.frozen j, ⟨⟨by simpa using h.1.1, .inr ⟨g, cap, cur.setIfInBounds j u, rfl, hb, hblk.set_ j _, h1, h2, by simpa using h3, ?_⟩⟩, h.2⟩⟩
    · rw [hblk.cell j, ← h5]
      simp [List.getElem?_take, hj]
    · rw [← h5]
      simp [List.take_set]

/-- One element has been turned in its own block, or put into a new one. -/
theorem Elems.update {w w' : World} {F : Nat → Prop} {vs : List Value} {ls : List (List UInt8)} (h : Elems w F vs ls) {j : Nat} {v v' : Value} {l' : List UInt8} (hv : vs[j]? = some v) (hk : Kept (ownS v) w w')
    (hv' : OB w' F v' l') (hnew : ∀ k, ownS v' k → ownS v k ∨ w.heap.size ≤ k) : Elems w' F (vs.set j v') (ls.set j l') := by
  have hj : j < vs.length := (List.getElem?_eq_some_iff.1 hv).1
  refine ⟨by simp [h.1], fun i u l hu hl => ?_, fun i i' u u' k hne hu hu' h1 h2 => ?_⟩
  · by_cases hij : j = i
    · subst hij
      rw [List.getElem?_set_self hj] at hu
      rw [List.getElem?_set_self (by rw [← h.1]; exact hj)] at hl
      injection hu with hu
      injection hl with hl
      subst hu hl
      exact hv'
    · rw [List.getElem?_set_ne hij] at hu hl
      exact Own.keep0 (h.2.1 i u l hu hl) hk fun k _ ho hs => h.2.2 i j u v k (fun e => hij e.symm) hu hv ho hs
  · have old : ∀ (i : Nat) (u : Value), i ≠ j → (vs.set j v')[i]? = some u → vs[i]? = some u ∧ (ownS u k → k < w.heap.size) := by
      intro i u hij hu
      rw [List.getElem?_set_ne (fun e => hij e.symm)] at hu
      refine ⟨hu, fun hk => ?_⟩
      have hi : i < vs.length := (List.getElem?_eq_some_iff.1 hu).1
      exact Own.lt (h.2.1 i u _ hu (List.getElem?_eq_getElem (by rw [← h.1]; exact hi))) k hk
    have self : ∀ u : Value, (vs.set j v')[j]? = some u → u = v' := by
      intro u hu
      rw [List.getElem?_set_self hj] at hu
      injection hu with hu
      exact hu.symm
    by_cases ei : i = j
    · subst ei
      have e1 := self u hu
      subst e1
      obtain ⟨o1, o2⟩ := old i' u' (fun e => hne e.symm) hu'
      rcases hnew k h1 with q | q
      · exact h.2.2 i i' v u' k hne hv o1 q h2
      · have := o2 h2; omega
    · by_cases ei' : i' = j
      · subst ei'
        have e1 := self u' hu'
        subst e1
        obtain ⟨o1, o2⟩ := old i u hne hu
        rcases hnew k h2 with q | q
        · exact h.2.2 i i' u v k hne o1 hv h1 q
        · have := o2 h1; omega
      · exact h.2.2 i i' u u' k hne (old i u ei hu).1 (old i' u' ei' hu').1 h1 h2

theorem Elems.get {w : World} {F : Nat → Prop} {vs : List Value} {ls : List (List UInt8)} (h : Elems w F vs ls) {j : Nat} (hj : j < vs.length) :
    ∃ A c l, vs[j]? = some (.slice A l.length c) ∧ ls[j]? = some l ∧ OB w F (.slice A l.length c) l ∧ l.length ≤ c := by
  have hl : ls[j]? = some (ls[j]'(by rw [← h.1]; exact hj)) := List.getElem?_eq_getElem _
  have ho := h.2.1 j _ _ (List.getElem?_eq_getElem hj) hl
  obtain ⟨A, c, e, hc, _⟩ := Own.form ho
  refine ⟨A, c, _, ?_, hl, ?_, hc⟩
  · rw [List.getElem?_eq_getElem hj, e]
  · rw [← e]; exact ho

end Go.Proofs.YtlfdpkgggoafaaaDoor
