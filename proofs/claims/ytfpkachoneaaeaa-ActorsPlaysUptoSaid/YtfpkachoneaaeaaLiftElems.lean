/-
  An argument that is a slice of elements of any type, each of a fixed number of cells.
-/
import Derived.Test.YtfpkachoneaaeaaLift
import Derived.Deep.Slices
namespace Go.Proofs.Ytfpkachoneaaeaa
open Go.ChangeShapes Go.WideShapes Go.ChangeAt Go.RowKit Go.Deep

theorem flat_length {α β : Type} (cells : α → List β) (s : Nat) (l : List α) (h : ∀ x ∈ l, (cells x).length = s) : (l.flatMap cells).length = l.length * s := by
  induction l with
  | nil => simp
  | cons x l ih =>
    rw [List.flatMap_cons, List.length_append, h x List.mem_cons_self, ih fun y hy => h y (List.mem_cons_of_mem _ hy), List.length_cons, Nat.succ_mul]
    omega
theorem flat_get {α β : Type} (cells : α → List β) (s : Nat) (l : List α) (h : ∀ x ∈ l, (cells x).length = s) (i k : Nat) (hi : i < l.length) (hk : k < s) : (l.flatMap cells)[i * s + k]? = (cells l[i])[k]? := by
  induction l generalizing i with
  | nil => simp at hi
  | cons x l ih =>
    have hx := h x List.mem_cons_self
    cases i with
    | zero =>
      rw [List.flatMap_cons, Nat.zero_mul, Nat.zero_add, List.getElem?_append_left (by omega)]
      rfl
    | succ i =>
      rw [List.flatMap_cons, List.getElem?_append_right (by rw [hx, Nat.succ_mul]; omega), hx, show (i + 1) * s + k - s = i * s + k by rw [Nat.succ_mul]; omega]
      exact ih (fun y hy => h y (List.mem_cons_of_mem _ hy)) i (by simpa using hi)

set_option maxRecDepth 100000 in
theorem open_elems {H : Type} {enc : TypeId × Value → H} {W : World} {base : Nat} {v : Value} {d : DataW H} {p : List MemPlace} {t e : TypeId} {α : Type} [Inhabited α] (cells : α → List Value) (bulk : α → Nat) (good : α → Prop) (s B : Nat) (hs : 0 < s)
    (ht : Try.prog.underlying t = some (.slice e)) (hc : Try.prog.cellsOf e = s) (hbe : Try.prog.bytesOf e = B)
    (each : ∀ n cs' D Pl, DataW.trod enc Try.prog W 0 (fun _ => true) true n e cs' = some (D, Pl) → cs'.length = s → ∃ x, cells x = cs' ∧ good x ∧ bulk x ≤ Rows.uptoBulk D)
    (hval : Value.okWide Try.prog W .any base t v) (h0 : DataW.Trod enc Try.prog W 0 (fun _ => true) true t v d p) (hsz : ∀ n ∈ d.weights Try.prog t, n ≤ reachBytes) :
    ∃ A c xs, v = .slice A xs.length c ∧ Rd W (· < W.heap.size) A (xs.flatMap cells) ∧ (∀ x ∈ xs, good x) ∧ xs.length ≤ c ∧ c * B ≤ reachBytes ∧ (A = none → xs = [] ∧ c = 0) ∧ (xs.map bulk).sum < Rows.uptoBulk d ∧ ∀ x ∈ xs, (cells x).length = s := by
  obtain ⟨a0, len, cap, rfl⟩ := okWide_slice ht hval
  obtain ⟨fuel, hf⟩ := h0
  rcases open_slice ht hf with ⟨hcs, _⟩ | ⟨x, l, c, m, n, D, Pl, hcs, _, hl, hm, hmm, hx, hall⟩
  · simp [Value.cells] at hcs
    obtain ⟨rfl, rfl, rfl⟩ := hcs
    exact ⟨none, 0, [], rfl, .inl rfl, by simp, by simp, by simp, fun _ => ⟨rfl, rfl⟩, by have := bulk_one d; simp; omega, by simp⟩
  · simp [Value.cells] at hcs
    obtain ⟨rfl, rfl, rfl⟩ := hcs
    obtain rfl : m = cap := by simpa using hmm
    have hd : d = .slice ((List.range len).map D) ((List.range (m - len)).map fun j => D (len + j)) := congrArg Prod.fst hx
    have hw : m * B ≤ reachBytes := by
      have h1 := hsz ((len + (m - len)) * B) (by
        rw [hd, DataW.weights, ht]
        simp only [List.length_map, List.length_range, hbe]
        exact List.mem_cons_self)
      rwa [show len + (m - len) = m by omega] at h1
    have hone : ∀ i, i < len → ∃ y : α, (cells y).length = s ∧ good y ∧ bulk y ≤ Rows.uptoBulk (D i) ∧ ∀ k u, (cells y)[k]? = some u → W.cell? ((x.add (i * s)).add k) = some u := by
      intro i hi
      obtain ⟨cs', h1, h2⟩ := hall i (by omega)
      rw [hc] at h1
      obtain ⟨_, hlen, hcell⟩ := World.cells?_some h1
      obtain ⟨y, hy, hg, hb⟩ := each n cs' (D i) (Pl i) h2 hlen
      refine ⟨y, by rw [hy, hlen], hg, hb, fun k u hu => ?_⟩
      rw [hy] at hu
      have hk := (List.getElem?_eq_some_iff.1 hu).1
      rw [hcell k (by omega), hu]
    obtain ⟨Y, hY⟩ := choose_lt hone
    have hget : ∀ i y, ((List.range len).map Y)[i]? = some y → i < len ∧ y = Y i := by
      intro i y hy
      rw [List.getElem?_map] at hy
      by_cases hi : i < len
      · rw [List.getElem?_range hi] at hy
        simp at hy
        exact ⟨hi, hy.symm⟩
      · rw [List.getElem?_eq_none (by simp; omega)] at hy
        cases hy
    have hmem : ∀ y ∈ (List.range len).map Y, ∃ i, i < len ∧ y = Y i := by
      intro y hy
      obtain ⟨i, hi⟩ := List.getElem?_of_mem hy
      obtain ⟨h1, h2⟩ := hget i y hi
      exact ⟨i, h1, h2⟩
    have hlens : ∀ y ∈ (List.range len).map Y, (cells y).length = s := by
      intro y hy
      obtain ⟨i, hi, rfl⟩ := hmem y hy
      exact (hY i hi).1
    refine ⟨some x, m, (List.range len).map Y, by simp, ?_, ?_, by simpa using hl, hw, (fun h => by cases h), ?_, hlens⟩
    · obtain ⟨g, o, sp⟩ := x
      by_cases h0 : len = 0
      · subst h0
        exact .inl (by simp)
      · obtain ⟨u0, hu0⟩ : ∃ u, (cells (Y 0))[0]? = some u := ⟨_, List.getElem?_eq_getElem (by rw [(hY 0 (by omega)).1]; exact hs)⟩
        have hc0 := (hY 0 (by omega)).2.2.2 0 u0 hu0
        have hs0 : sp = none := by
          cases sp with
          | none => rfl
          | some k =>
            simp only [Nat.zero_mul, Addr.add, if_true, World.cell?, Option.isSome_some] at hc0
            split at hc0 <;> simp at hc0
        subst hs0
        refine .inr ⟨g, o, rfl, ?_, fun j u hu => ?_⟩
        · have := lt_of_cell hc0
          simpa [Addr.add] using this
        · have hj := (List.getElem?_eq_some_iff.1 hu).1
          rw [flat_length cells s _ hlens, List.length_map, List.length_range] at hj
          have hi : j / s < len := Nat.div_lt_of_lt_mul (by rw [Nat.mul_comm]; exact hj)
          have hk : j % s < s := Nat.mod_lt _ hs
          have e : j / s * s + j % s = j := by rw [Nat.mul_comm]; exact Nat.div_add_mod j s
          have h2 := flat_get cells s _ hlens (j / s) (j % s) (by simpa using hi) hk
          rw [e, hu] at h2
          have h3 := (hY (j / s) hi).2.2.2 (j % s) u (by rw [h2]; simp)
          rw [← h3, Deep.add_add, e]
          unfold Addr.add
          by_cases hj0 : j = 0 <;> simp [hj0]
    · intro y hy
      obtain ⟨i, hi, rfl⟩ := hmem y hy
      exact (hY i hi).2.1
    · rw [hd]
      simp only [Rows.uptoBulk]
      have h1 : (((List.range len).map Y).map bulk).sum ≤ Rows.uptoBulkAll ((List.range len).map D) := by
        have h2 : ∀ L : List Nat, (∀ i ∈ L, i < len) → ((L.map Y).map bulk).sum ≤ Rows.uptoBulkAll (L.map D) := by
          intro L
          induction L with
          | nil => intro _; simp [Rows.uptoBulkAll]
          | cons i L ih =>
            intro hL
            have h3 := (hY i (hL i List.mem_cons_self)).2.2.1
            have h4 := ih fun k hk => hL k (List.mem_cons_of_mem _ hk)
            simp only [List.map_cons, List.sum_cons, Rows.uptoBulkAll]
            omega
        exact h2 _ fun i hi => by simpa using hi
      omega

end Go.Proofs.Ytfpkachoneaaeaa
