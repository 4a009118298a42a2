/-
  Arguments of layer 11: a text, a list of files.
-/
import Derived.Test.YtnlmkfncdklcdaaLift
import Derived.Test.YtnlmkfncdklcdaaLiftCell
import Derived.Test.YtnlmkfncdklcdaaDkFls
import Derived.Deep.Slices
namespace Go.Proofs.Ytnlmkfncdklcdaa
open Go.ChangeShapes Go.WideShapes Go.ChangeAt Go.RowKit Go.Deep

set_option maxRecDepth 100000 in
theorem open_str {H : Type} {enc : TypeId × Value → H} {W : World} {base : Nat} {v : Value} {d : DataW H} {p : List MemPlace}
    (hval : Value.okWide Try.prog W .any base 9 v) (h0 : DataW.Trod enc Try.prog W 0 (fun _ => true) true 9 v d p) (hsz : ∀ n ∈ d.weights Try.prog 9, n ≤ reachBytes) :
    ∃ x : ByteArray, v = .string x ∧ x.size ≤ 140737488351232 := by
  obtain ⟨s, rfl⟩ := okWide_string Try.underlying9 hval
  obtain ⟨fuel, hf⟩ := h0
  have hf' : DataW.trod enc Try.prog W 0 (fun _ => true) true fuel 9 [.string s] = some (d, p) := by simpa [Value.cells] using hf
  obtain ⟨x, e, q, _⟩ := DataW.trod_string Try.underlying9 hf'
  cases e
  have hd : d = .lit (.string s.data.toList) := congrArg Prod.fst q
  have h1 := hsz s.data.toList.length (by rw [hd, DataW.weights]; exact List.mem_cons_self)
  have h2 : s.data.toList.length = s.size := by rw [Array.length_toList]; rfl
  have h3 : reachBytes = 140737488351232 := rfl
  exact ⟨s, rfl, by omega⟩

theorem weightsAll_mem {H : Type} {P : Program} {e : TypeId} {B : Nat} : ∀ {l : List (DataW H)} {d : DataW H}, d ∈ l → (∀ n ∈ DataW.weightsAll P e l, n ≤ B) → ∀ n ∈ d.weights P e, n ≤ B
  | [], _, h, _ => by cases h
  | x :: l, d, h, hB => by
    rw [DataW.weightsAll] at hB
    rcases List.mem_cons.1 h with rfl | h
    · exact fun n hn => hB n (List.mem_append_left _ hn)
    · exact weightsAll_mem h (fun n hn => hB n (List.mem_append_right _ hn))

set_option maxRecDepth 100000 in
theorem open_rows {H : Type} {enc : TypeId × Value → H} {W : World} {v : Value} {d : DataW H} {p : List MemPlace} {t e : TypeId} {fuel : Nat} (s B : Nat) (hs : 0 < s)
    (ht : Try.prog.underlying t = some (.slice e)) (hc : Try.prog.cellsOf e = s) (hbe : Try.prog.bytesOf e = B)
    (hf : DataW.trod enc Try.prog W 0 (fun _ => true) true fuel t [v] = some (d, p)) (hsz : ∀ n ∈ d.weights Try.prog t, n ≤ reachBytes) :
    ∃ A c, ∃ css : List (List Value), v = .slice A css.length c ∧ Rd W (· < W.heap.size) A css.flatten ∧
      (∀ cs ∈ css, cs.length = s ∧ ∃ n D Pl, n < fuel ∧ DataW.trod enc Try.prog W 0 (fun _ => true) true n e cs = some (D, Pl) ∧ ∀ m ∈ D.weights Try.prog e, m ≤ reachBytes) ∧ css.length ≤ c ∧ c * B ≤ reachBytes ∧ c ≤ maxLen := by
  rcases DataW.trod_slice ht hf with ⟨hcs, _⟩ | ⟨x, len, cap, elems, rest, n, hfu, hcs, hx, _, hl, hm, hlen, hel, hsp, _⟩
  · simp at hcs
    exact ⟨none, 0, [], hcs, .inl rfl, (by simp), Nat.zero_le _, (by simp), by decide⟩
  · simp at hcs
    subst hcs
    obtain ⟨hr, _⟩ := hsp rfl
    have hd : d = .slice (elems.map (·.1)) (rest.map (·.1)) := congrArg Prod.fst hx
    rw [hd, DataW.weights, ht] at hsz
    have hw : cap * B ≤ reachBytes := by
      have h1 := hsz (((elems.map (·.1)).length + (rest.map (·.1)).length) * Try.prog.bytesOf e) List.mem_cons_self
      rw [hbe, List.length_map, List.length_map, hlen, hr, show len + (cap - len) = cap by omega] at h1
      exact h1
    have hwe : ∀ n ∈ DataW.weightsAll Try.prog e (elems.map (·.1)), n ≤ reachBytes := fun n hn => hsz n (List.mem_cons_of_mem _ (List.mem_append_left _ hn))
    have hone : ∀ i, i < len → ∃ cs : List Value, (cs.length = s ∧ ∃ n D Pl, n < fuel ∧ DataW.trod enc Try.prog W 0 (fun _ => true) true n e cs = some (D, Pl) ∧ ∀ m ∈ D.weights Try.prog e, m ≤ reachBytes) ∧ ∀ k u, cs[k]? = some u → W.cell? ((x.add (i * s)).add k) = some u := by
      intro i hi
      have h1 := hel i hi
      rw [List.getElem?_eq_getElem (by omega), hc] at h1
      obtain ⟨cs', h2, h3⟩ := Option.bind_eq_some_iff.1 h1
      obtain ⟨_, hcl, hcell⟩ := World.cells?_some h2
      refine ⟨cs', ⟨hcl, n, (elems[i]).1, (elems[i]).2, by omega, h3, weightsAll_mem (List.mem_map.2 ⟨elems[i], List.getElem_mem (by omega), rfl⟩) hwe⟩, fun k u hu => ?_⟩
      have hk := (List.getElem?_eq_some_iff.1 hu).1
      rw [hcell k (by omega), hu]
    obtain ⟨Y, hY⟩ := choose_lt hone
    have hmem : ∀ y ∈ (List.range len).map Y, ∃ i, i < len ∧ y = Y i := by
      intro y hy
      obtain ⟨i, hi, rfl⟩ := List.mem_map.1 hy
      exact ⟨i, by simpa using hi, rfl⟩
    have hlens : ∀ y ∈ (List.range len).map Y, y.length = s := by
      intro y hy
      obtain ⟨i, hi, rfl⟩ := hmem y hy
      exact (hY i hi).1.1
    refine ⟨some x, cap, (List.range len).map Y, by simp, ?_, ?_, by simpa using hl, hw, hm⟩
    · obtain ⟨g, o, sp⟩ := x
      by_cases h0 : len = 0
      · subst h0
        exact .inl (by simp)
      · obtain ⟨u0, hu0⟩ : ∃ u, (Y 0)[0]? = some u := ⟨_, List.getElem?_eq_getElem (by rw [(hY 0 (by omega)).1.1]; exact hs)⟩
        have hc0 := (hY 0 (by omega)).2 0 u0 hu0
        have hs0 : sp = none := by
          cases sp with
          | none => rfl
          | some k =>
            simp only [Nat.zero_mul, Addr.add, if_true, World.cell?, Option.isSome_some] at hc0
            split at hc0 <;> simp at hc0
        subst hs0
        refine .inr ⟨g, o, rfl, ?_, fun j u hu => ?_⟩
        · have := lt_of_cell hc0
          simpa [Addr.add] using this
        · have hj := (List.getElem?_eq_some_iff.1 hu).1
          rw [flatten_len s _ hlens, List.length_map, List.length_range] at hj
          have hi : j / s < len := Nat.div_lt_of_lt_mul (by rw [Nat.mul_comm]; exact hj)
          have hk : j % s < s := Nat.mod_lt _ hs
          have e : j / s * s + j % s = j := by rw [Nat.mul_comm]; exact Nat.div_add_mod j s
          have h2 := flatten_get s _ hlens (j / s) (j % s) (by simpa using hi) hk
          rw [e, hu] at h2
          have h3 := (hY (j / s) hi).2 (j % s) u (by rw [h2]; simp)
          rw [← h3, Deep.add_add, e]
          unfold Addr.add
          by_cases hj0 : j = 0 <;> simp [hj0]
    · intro y hy
      obtain ⟨i, hi, rfl⟩ := hmem y hy
      exact (hY i hi).1


set_option maxRecDepth 100000 in
/-- A field that is a slice of octets, with the bound on its capacity. -/
theorem open_bytes_cellw {H : Type} {enc : TypeId × Value → H} {W : World} {v : Value} {d : DataW H} {p : List MemPlace} {t e : TypeId} {n : Nat} (ht : Try.prog.underlying t = some (.slice e)) (he : Try.prog.underlying e = some (.int .u8)) (hce : Try.prog.cellsOf e = 1) (hbe : Try.prog.bytesOf e = 1)
    (hf : DataW.trod enc Try.prog W 0 (fun _ => true) true n t [v] = some (d, p)) (hsz : ∀ n ∈ d.weights Try.prog t, n ≤ reachBytes) :
    ∃ A c bs, v = .slice A bs.length c ∧ RB W (· < W.heap.size) A bs ∧ bs.length ≤ c ∧ c ≤ 140737488351232 ∧ (A = none → bs = [] ∧ c = 0) ∧ bs.length < Rows.uptoBulk d := by
  obtain ⟨A, c, bs, h1, h2, h3, h4, h5, h6⟩ := open_bytes_cell ht he hce hf
  refine ⟨A, c, bs, h1, h2, h3, ?_, h5, h6⟩
  rcases open_ints ht he hce hf with ⟨hcs, _⟩ | ⟨x, len, cap, zs, hcs, _, hl, hm, hz, hx, hcell, hwz⟩
  · simp at hcs
    rw [hcs] at h1
    injection h1 with _ _ h1
    omega
  · simp at hcs
    rw [hcs] at h1
    injection h1 with _ _ h1
    have hzl : zs.length = cap := by simpa using hz
    have hd : d = .slice (lits .u8 (zs.take len)) (lits .u8 (zs.drop len)) := congrArg Prod.fst hx
    have h7 := hsz ((len + (cap - len)) * 1) (by
      rw [hd, DataW.weights, ht]
      simp only [lits, List.length_map, List.length_take, List.length_drop, hbe, hzl]
      rw [Nat.min_eq_left hl]
      exact List.mem_cons_self)
    have h8 : reachBytes = 140737488351232 := rfl
    omega

set_option maxRecDepth 100000 in
/-- The cells of a file that is read. -/
theorem open_file_cells {H : Type} {enc : TypeId × Value → H} {W : World} {fuel : Nat} {cs : List Value} {D : DataW H} {Pl : List MemPlace} (hx : DataW.trod enc Try.prog W 0 (fun _ => true) true fuel 36 cs = some (D, Pl)) (hsz : ∀ m ∈ D.weights Try.prog 36, m ≤ reachBytes) (hl : cs.length = 2) :
    ∃ f : FlS, FlAt W (· < W.heap.size) f cs ∧ f.name.size + f.data.length + 2 ≤ Rows.uptoBulk D := by
  obtain ⟨ys, k, _, hD, _, hyl, hf⟩ := DataW.trod_struct Try.underlying36 hx
  match cs, hl, ys, hyl with
  | [v0, v1], _, [y0, y1], _ =>
    have s1 : Try.prog.cellsOf 9 = 1 := by kernel_rfl
    have b1 : Try.prog.cellsOf 34 = 1 := by kernel_rfl
    have g0 := hf 0 _ rfl
    have g1 := hf 1 _ rfl
    simp [s1, b1] at g0 g1
    obtain ⟨x0, e0, q0, w0⟩ := DataW.trod_string Try.underlying9 g0
    obtain ⟨d1, p1⟩ := y1
    cases e0
    subst q0
    have hD' : D = .agg [.lit (.string x0.data.toList), d1] := congrArg Prod.fst hD
    have e : (DataW.agg [.lit (.string x0.data.toList), d1] : DataW H).weights Try.prog 36 = DataW.weightsEach Try.prog [9, 34] [.lit (.string x0.data.toList), d1] := by
      rw [DataW.weights, Try.underlying36]
      rfl
    rw [hD', e] at hsz
    have hs0 := (weights_head hsz).1 x0.data.toList.length (by rw [DataW.weights]; exact List.mem_cons_self)
    have hs1 := (weights_head (weights_head hsz).2).1
    obtain ⟨A1, c1, bs, e1, r1, l1, m1, n1, k1⟩ := open_bytes_cellw Try.underlying34 Try.underlying5 (by kernel_rfl) (by kernel_rfl) g1 hs1
    subst e1
    have hx0 : x0.data.toList.length = x0.size := by rw [Array.length_toList]; rfl
    have h3 : reachBytes = 140737488351232 := rfl
    refine ⟨⟨x0, bs⟩, ⟨by show x0.size ≤ _; omega, by show bs.length ≤ _; omega, _, rfl, A1, c1, rfl, r1, l1, Nat.le_trans m1 (by decide), n1⟩, ?_⟩
    rw [hD']
    simp only [Rows.uptoBulk, Rows.uptoBulkAll]
    omega

set_option maxRecDepth 100000 in
/-- An argument []api.File. -/
theorem open_files {H : Type} {enc : TypeId × Value → H} {W : World} {base : Nat} {v : Value} {d : DataW H} {p : List MemPlace}
    (hval : Value.okWide Try.prog W .any base 24 v) (h0 : DataW.Trod enc Try.prog W 0 (fun _ => true) true 24 v d p) (hsz : ∀ n ∈ d.weights Try.prog 24, n ≤ reachBytes) :
    ∃ A c, ∃ fs : List FlS, v = .slice A fs.length c ∧ FlsAt W (· < W.heap.size) A fs ∧ fs.length * 40 ≤ 140737488351232 := by
  obtain ⟨a0, len, cap, rfl⟩ := okWide_slice Try.underlying24 hval
  obtain ⟨fuel, hf⟩ := h0
  have hf' : DataW.trod enc Try.prog W 0 (fun _ => true) true fuel 24 [.slice a0 len cap] = some (d, p) := by simpa [Value.cells] using hf
  obtain ⟨A4, c4, css4, h1, r4, a4, b4, m4, n4⟩ := open_rows 2 40 (by decide) Try.underlying24 (by kernel_rfl) (by kernel_rfl) hf' hsz
  have hall : ∀ l : List (List Value), (∀ cs ∈ l, ∃ f : FlS, FlAt W (· < W.heap.size) f cs) → ∃ fs : List FlS, fs.length = l.length ∧ ∀ j (h : j < fs.length) (h' : j < l.length), FlAt W (· < W.heap.size) fs[j] l[j] := by
    intro l
    induction l with
    | nil => intro _; exact ⟨[], rfl, fun j h => by cases h⟩
    | cons x l ih =>
      intro h
      obtain ⟨f, hf⟩ := h x List.mem_cons_self
      obtain ⟨fs, e, hfs⟩ := ih (fun cs hcs => h cs (List.mem_cons_of_mem _ hcs))
      refine ⟨f :: fs, by simp [e], fun j a b => ?_⟩
      match j, a, b with
      | 0, _, _ => exact hf
      | j + 1, a, b => exact hfs j (by simpa using a) (by simpa using b)
  obtain ⟨fs, e, hfs⟩ := hall css4 (fun cs hcs => by
    obtain ⟨hc1, n', D', Pl', hn', hx', hw'⟩ := a4 cs hcs
    obtain ⟨f, hf, _⟩ := open_file_cells hx' hw' hc1
    exact ⟨f, hf⟩)
  have hre : reachBytes = 140737488351232 := rfl
  exact ⟨A4, c4, fs, by rw [h1, e], ⟨css4, r4, e.symm, hfs⟩, by omega⟩

end Go.Proofs.Ytnlmkfncdklcdaa
