/-
  An argument that is a slice of slices of octets.
-/
import Derived.Test.YtlfdpkgggoafaaaDoorLift
import Derived.Test.YtlfdpkgggoafaaaDoorThereP
import Derived.Test.YtlfdpkgggoafaaaDoorElems
import Derived.Deep.Matrix
namespace Go.Proofs.YtlfdpkgggoafaaaDoor
open Go.ChangeShapes Go.WideShapes Go.ChangeAt Go.RowKit Go.Deep

theorem bulk_sum {H : Type} {α : Type} (f : α → DataW H) (g : α → List UInt8) (l : List α) (h : ∀ x ∈ l, (g x).length + 1 ≤ Rows.uptoBulk (f x)) : ((l.map g).map fun x => x.length + 1).sum ≤ Rows.uptoBulkAll (l.map f) := by
  induction l with
  | nil => simp [Rows.uptoBulkAll]
  | cons x r ih =>
    have h1 := h x List.mem_cons_self
    have h2 := ih fun y hy => h y (List.mem_cons_of_mem _ hy)
    simp only [List.map_cons, List.sum_cons, Rows.uptoBulkAll]
    omega

theorem recs_bulk (ls : List (List UInt8)) : (recs ls).length ≤ 8 * (ls.map fun x => x.length + 1).sum := by
  induction ls with
  | nil => simp [recs]
  | cons l r ih =>
    rw [recs_cons, List.length_append, sealRec_length, List.map_cons, List.sum_cons]
    omega
theorem len_bulk (ls : List (List UInt8)) : ls.length ≤ (ls.map fun x => x.length + 1).sum ∧ ∀ l ∈ ls, l.length + 1 ≤ (ls.map fun x => x.length + 1).sum := by
  induction ls with
  | nil => simp
  | cons l r ih =>
    rw [List.map_cons, List.sum_cons]
    refine ⟨by rw [List.length_cons]; have := ih.1; omega, fun x hx => ?_⟩
    rcases List.mem_cons.1 hx with rfl | hx
    · omega
    · have := ih.2 x hx
      omega

theorem open_rows {H : Type} {enc : TypeId × Value → H} {W : World} {base : Nat} {v : Value} {d : DataW H} {p : List MemPlace} {t e q : TypeId} (ht : Tryd.prog.underlying t = some (.slice e)) (he : Tryd.prog.underlying e = some (.slice q)) (hq : Tryd.prog.underlying q = some (.int .u8)) (ce : Tryd.prog.cellsOf e = 1) (cq : Tryd.prog.cellsOf q = 1)
    (hval : Value.okWide Tryd.prog W .any base t v) (h0 : DataW.Trod enc Tryd.prog W 0 (fun _ => true) true t v d p) :
    ∃ A c vs ls, v = .slice A vs.length c ∧ Rd W (· < W.heap.size) A vs ∧ Reads W (· < W.heap.size) vs ls ∧ (ls.map fun x => x.length + 1).sum < Rows.uptoBulk d := by
  obtain ⟨a0, len, cap, rfl⟩ := okWide_slice ht hval
  obtain ⟨fuel, hf⟩ := h0
  rcases open_int_rows ht he hq ce cq hf with ⟨hcs, _⟩ | ⟨x, l, c, A, L, C, Z, hcs, _, hl, hm, hx, hall⟩
  · simp [Value.cells] at hcs
    obtain ⟨rfl, rfl, rfl⟩ := hcs
    exact ⟨none, 0, [], [], rfl, .inl rfl, ⟨rfl, fun i v l h => by simp at h⟩, by have := bulk_one d; simp; omega⟩
  · simp [Value.cells] at hcs
    obtain ⟨rfl, rfl, rfl⟩ := hcs
    have hd : d = .slice ((List.range len).map fun r => intRow .u8 (A r) (L r) (Z r)) ((List.range (cap - len)).map fun j => intRow .u8 (A (len + j)) (L (len + j)) (Z (len + j))) := congrArg Prod.fst hx
    have hget : ∀ {β : Type} (f : Nat → β) (i : Nat) (y : β), ((List.range len).map f)[i]? = some y → i < len ∧ y = f i := by
      intro β f i y hy
      rw [List.getElem?_map] at hy
      by_cases hi : i < len
      · rw [List.getElem?_range hi] at hy
        simp at hy
        exact ⟨hi, hy.symm⟩
      · rw [List.getElem?_eq_none (by simp; omega)] at hy
        cases hy
    refine ⟨some x, cap, (List.range len).map fun r => .slice (A r) (L r) (C r), (List.range len).map fun r => ((Z r).take (L r)).map lo8, by simp, ?_, ⟨by simp, ?_⟩, ?_⟩
    · obtain ⟨g, o, sp⟩ := x
      by_cases h0 : len = 0
      · subst h0
        exact .inl (by simp)
      · have hc0 := (hall 0 (by omega)).1
        have hs : sp = none := by
          cases sp with
          | none => rfl
          | some k =>
            simp only [Addr.add, if_true, World.cell?, Option.isSome_some] at hc0
            split at hc0 <;> simp at hc0
        subst hs
        refine .inr ⟨g, o, rfl, ?_, fun j u hu => ?_⟩
        · have := lt_of_cell hc0
          simpa [Addr.add] using this
        · obtain ⟨hj, rfl⟩ := hget _ j u hu
          have h1 := (hall j (by omega)).1
          rw [← h1]
          unfold Addr.add
          by_cases hj0 : j = 0 <;> simp [hj0]
    · intro i v l hv hl'
      obtain ⟨hi, rfl⟩ := hget _ i v hv
      obtain ⟨_, rfl⟩ := hget _ i l hl'
      obtain ⟨_, h2, _, h4, h5, h6, h7⟩ := hall i (by omega)
      have hlen : (((Z i).take (L i)).map lo8).length = L i := by simp; omega
      refine ⟨A i, C i, by rw [hlen], ?_⟩
      by_cases hL : L i = 0
      · refine .inl ?_
        have h8 : ((Z i).take (L i)).map lo8 = [] := List.length_eq_zero_iff.1 (by rw [hlen]; exact hL)
        rw [h8]
        rfl
      · obtain ⟨a', ha'⟩ : ∃ a', A i = some a' := by
          cases hA : A i with
          | none => have := h6 hA; omega
          | some a' => exact ⟨a', rfl⟩
        obtain ⟨_, hcell⟩ := h7 a' ha'
        obtain ⟨g, o, sp⟩ := a'
        have hc0 := hcell 0 (by omega)
        have hs : sp = none := by
          cases sp with
          | none => rfl
          | some k =>
            simp only [Addr.add, if_true, World.cell?, Option.isSome_some] at hc0
            split at hc0 <;> simp at hc0
        subst hs
        refine .inr ⟨g, o, ha', ?_, fun j u hu => ?_⟩
        · have := lt_of_cell hc0
          simpa [Addr.add] using this
        · have hj : j < L i := by
            have := (List.getElem?_eq_some_iff.1 hu).1
            rw [bvs_length, hlen] at this
            exact this
          have h1 := hcell j (by omega)
          have h3 : (Z i)[j]? = some ((Z i).getD j 0) := by simp [List.getD, List.getElem?_eq_getElem (show j < (Z i).length by omega)]
          have h8 := wf_u8 (h5 ((Z i).getD j 0) (List.mem_of_getElem? h3))
          have h9 : (bvs (((Z i).take (L i)).map lo8))[j]? = some (.int .u8 ((Z i).getD j 0)) := by
            have e5 := lo8_val ((Z i).getD j 0)
            rw [Int.emod_eq_of_lt h8.1 h8.2] at e5
            simp only [bvs, List.getElem?_map, List.getElem?_take, hj, if_true, h3, Option.map_some, e5]
          rw [h9] at hu
          injection hu with hu
          subst hu
          rw [← h1]
          unfold Addr.add
          by_cases hj0 : j = 0 <;> simp [hj0]
    · rw [hd]
      simp only [Rows.uptoBulk]
      have h1 := bulk_sum (H := H) (fun r => intRow .u8 (A r) (L r) (Z r)) (fun r => ((Z r).take (L r)).map lo8) (List.range len) (fun r hr => by
        have hr' : r < len := by simpa using hr
        obtain ⟨_, h2, _, h4, _, h6, _⟩ := hall r (by omega)
        cases hA : A r with
        | none =>
          have h7 := h6 hA
          simp [intRow, Rows.uptoBulk]
          omega
        | some a' =>
          simp only [intRow, Rows.uptoBulk]
          have h8 := bulk_len (lits (H := H) .u8 ((Z r).take (L r)))
          simp only [lits, List.length_map, List.length_take] at h8 ⊢
          omega)
      omega

end Go.Proofs.YtlfdpkgggoafaaaDoor
