/-
  Rows of elements of three cells each.
-/
import Derived.Test.YtnlmkfncdklcdaaDkFls
namespace Go.Proofs.Ytnlmkfncdklcdaa
open Go.RowKit

/-- How an element lies in three cells. -/
structure Three (α : Type) where
  a : α → Value
  b : α → Value
  c : α → Value

section
variable {α : Type} (T : Three α)
def Three.cs (x : α) : List Value := [T.a x, T.b x, T.c x]
def Three.fl (l : List α) : List Value := (l.map T.cs).flatten
theorem Three.fl_cons (x : α) (l : List α) : T.fl (x :: l) = T.a x :: T.b x :: T.c x :: T.fl l := rfl
theorem Three.fl_length (l : List α) : (T.fl l).length = l.length * 3 := by
  induction l with
  | nil => rfl
  | cons p l ih =>
    rw [Three.fl_cons]
    simp only [List.length_cons]
    omega
theorem Three.fl_append (l m : List α) : T.fl (l ++ m) = T.fl l ++ T.fl m := by simp [Three.fl]
theorem Three.fl_get (l : List α) (j k : Nat) (hj : j < l.length) (hk : k < 3) : (T.fl l)[j * 3 + k]? = (T.cs l[j])[k]? := by
  have := flatten_get 3 (l.map T.cs) (fun x hx => by obtain ⟨p, _, rfl⟩ := List.mem_map.1 hx; rfl) j k (by simpa using hj) hk
  rw [List.getElem_map] at this
  exact this
theorem Three.fl_set (l : List α) (j : Nat) (x : α) : T.fl (l.set j x) = (((T.fl l).set (j * 3) (T.a x)).set (j * 3 + 1) (T.b x)).set (j * 3 + 2) (T.c x) := by
  induction l generalizing j with
  | nil => rfl
  | cons y l ih =>
    cases j with
    | zero => rfl
    | succ j =>
      rw [List.set_cons_succ, Three.fl_cons, Three.fl_cons, ih, show (j + 1) * 3 = j * 3 + 1 + 1 + 1 by omega]
      rfl

variable {T}
variable {w w' : World} {F : Nat → Prop} {e : TypeId} {v : Value} {n c : Nat} {A : Option Addr} {l : List α}
theorem Own.at3 (h : Own w e 3 F (.slice A n c) l.length (T.fl l)) {j : Nat} (hj : j < l.length) :
    ∃ g, A = some ⟨g, 0, none⟩ ∧ F g ∧ w.cell? ⟨g, j * 3, none⟩ = some (T.a l[j]) ∧ w.cell? ⟨g, j * 3 + 1, none⟩ = some (T.b l[j]) ∧ w.cell? ⟨g, j * 3 + 2, none⟩ = some (T.c l[j]) ∧ ∀ k, w.frozen? ⟨g, k, none⟩ = false := by
  rcases h.1.2 with ⟨h0, h1⟩ | ⟨g, cap, cur, h0, _, hb, h1, h2, h3, h4⟩
  · omega
  · injection h0 with e1 e2 e3
    have hat : ∀ k, k < 3 → w.cell? ⟨g, j * 3 + k, none⟩ = (T.cs l[j])[k]? := fun k hk => by
      have hb' : Blk w g e cur := hb
      rw [hb'.cell, ← T.fl_get l j k hj hk, ← h4, List.getElem?_take_of_lt (by omega)]
      simp
    exact ⟨g, e1, h.2 g (by rw [e1]; rfl), hat 0 (by decide), hat 1 (by decide), hat 2 (by decide), fun k => Blk.frozen (t := e) hb k⟩
theorem Own.set3 {g : Nat} (h : Own w e 3 F (.slice (some ⟨g, 0, none⟩) l.length c) l.length (T.fl l)) (j : Nat) (x : α) :
    Own (((w.setCell ⟨g, j * 3, none⟩ (T.a x)).setCell ⟨g, j * 3 + 1, none⟩ (T.b x)).setCell ⟨g, j * 3 + 2, none⟩ (T.c x)) e 3 F (.slice (some ⟨g, 0, none⟩) l.length c) l.length (T.fl (l.set j x)) := by
  rcases h.1.2 with ⟨h0, h1⟩ | ⟨g', cap, cur, h0, hx, hb, h1, h2, h3, h4⟩
  · cases h0
  · injection h0 with e1 e2 e3
    injection e1 with e1
    injection e1 with e1
    subst e1 e3
    refine ⟨⟨by rw [T.fl_length, List.length_set], .inr ⟨g, c, _, rfl, hx, (((Blk.set_ (t := e) hb (j * 3) _).set_ (j * 3 + 1) _).set_ (j * 3 + 2) _), h1, h2, by simp [h3], ?_⟩⟩, h.2⟩
    rw [T.fl_set, ← h4]
    simp [List.take_set]
/-- One cell of an element. -/
theorem Own.set1 {g : Nat} (h : Own w e 3 F (.slice (some ⟨g, 0, none⟩) l.length c) l.length (T.fl l)) {j : Nat} (k : Nat) (u : Value) (x : α) (hx : (T.fl l).set (j * 3 + k) u = T.fl (l.set j x)) :
    Own (w.setCell ⟨g, j * 3 + k, none⟩ u) e 3 F (.slice (some ⟨g, 0, none⟩) l.length c) l.length (T.fl (l.set j x)) := by
  rcases h.1.2 with ⟨h0, h1⟩ | ⟨g', cap, cur, h0, hy, hb, h1, h2, h3, h4⟩
  · cases h0
  · injection h0 with e1 e2 e3
    injection e1 with e1
    injection e1 with e1
    subst e1 e3
    refine ⟨⟨by rw [T.fl_length, List.length_set], .inr ⟨g, c, _, rfl, hy, Blk.set_ (t := e) hb (j * 3 + k) u, h1, h2, by simp [h3], ?_⟩⟩, h.2⟩
    rw [← hx, ← h4]
    simp [List.take_set]
/-- When only cell k of an element is another one. -/
theorem Three.fl_set1 (T : Three α) {l : List α} {j : Nat} (hj : j < l.length) (x : α) (k : Nat) (hk : k < 3) (u : Value) (hu : T.cs x = (T.cs l[j]).set k u) : (T.fl l).set (j * 3 + k) u = T.fl (l.set j x) := by
  induction l generalizing j with
  | nil => cases hj
  | cons y l ih =>
    cases j with
    | zero =>
      rw [List.set_cons_zero, Three.fl_cons, Three.fl_cons, Nat.zero_mul, Nat.zero_add]
      have h0 : T.cs x = (T.cs y).set k u := hu
      unfold Three.cs at h0
      match k, hk with
      | 0, _ => simp at h0; simp [h0]
      | 1, _ => simp at h0; simp [h0]
      | 2, _ => simp at h0; simp [h0]
    | succ j =>
      rw [List.set_cons_succ, Three.fl_cons, Three.fl_cons, show (j + 1) * 3 + k = (j * 3 + k) + 1 + 1 + 1 by omega]
      simp only [List.set_cons_succ]
      rw [ih (by simpa using hj) hu]
/-- An element is appended that lies in a new block. -/
theorem Own.app3 {t ty : TypeId} {i : TypeInfo} {z : Value} {bytes : Nat} (h : Own w e 3 F v l.length (T.fl l)) (x : α) (ht : Try.prog.underlying t = some (.slice e)) (hi : Try.prog.info? e = some i) (hz : i.zero = some z) (hsize : i.size = 3) (hby : i.bytes = bytes) (hzs : z.cells.size = 3)
    (h1 : ∀ u ∈ T.cs x, u.oneCell' = true) (h63 : l.length + 1 ≤ maxLen) (hbytes : (l.length + 1) * bytes ≤ 140737488355328) (hF : ∀ k, w.heap.size ≤ k → F k) :
    ∃ A' c' w', (appSem #[t, t] ty #[v, .slice (some ⟨w.heap.size, 0, none⟩) 1 1]).run Try.prog (w.alloc (.cells #[T.a x, T.b x, T.c x] e)) = .ok (.slice A' (l.length + 1) c') w' ∧ Own w' e 3 F (.slice A' (l.length + 1) c') (l.length + 1) (T.fl (l ++ [x])) ∧
      Kept (ownS v) w w' ∧ ∀ k, ownS (.slice A' (l.length + 1) c') k → ownS v k ∨ w.heap.size ≤ k := by
  obtain ⟨A', c', w', hrun, g2, g3, g4⟩ := run_app1 (P := Try.prog) w t ty e i z 3 bytes ht hi hz hsize hby hzs (by decide) F v l.length (T.fl l) h #[T.a x, T.b x, T.c x] rfl (fun u hu => h1 u (by simpa [Three.cs] using hu)) h63 hbytes
  have hfl : T.fl (l ++ [x]) = T.fl l ++ [T.a x, T.b x, T.c x] := by rw [T.fl_append]; rfl
  refine ⟨A', c', w', hrun, ?_, ((Kept.refl (ownS v) w).alloc _).trans g4, fun k q => (g2.2 k q).imp id (fun e => by omega)⟩
  rw [hfl]
  exact g2.mono (fun k _ q => q.elim (fun a => h.2 k a) (fun a => hF k (by omega)))
end

end Go.Proofs.Ytnlmkfncdklcdaa
