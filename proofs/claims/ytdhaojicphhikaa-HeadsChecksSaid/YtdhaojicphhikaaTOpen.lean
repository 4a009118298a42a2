/-
  Arguments that are tables: a reading of []api.Field is a tree in memory.
-/
import Derived.Test.YtdhaojicphhikaaLift
import Derived.Test.YtdhaojicphhikaaTree
import Derived.Deep.Slices
namespace Go.Proofs.Ytdhaojicphhikaa
open Go.ChangeShapes Go.WideShapes Go.ChangeAt Go.RowKit Go.Deep

theorem weightsAll_mem {H : Type} {P : Program} {e : TypeId} {B : Nat} : ∀ {l : List (DataW H)} {d : DataW H}, d ∈ l → (∀ n ∈ DataW.weightsAll P e l, n ≤ B) → ∀ n ∈ d.weights P e, n ≤ B
  | [], _, h, _ => by cases h
  | x :: l, d, h, hB => by
    rw [DataW.weightsAll] at hB
    rcases List.mem_cons.1 h with rfl | h
    · exact fun n hn => hB n (List.mem_append_left _ hn)
    · exact weightsAll_mem h (fun n hn => hB n (List.mem_append_right _ hn))

theorem open_rows {H : Type} {enc : TypeId × Value → H} {W : World} {v : Value} {d : DataW H} {p : List MemPlace} {t e : TypeId} {fuel : Nat} (s B : Nat) (hs : 0 < s)
    (ht : Try.prog.underlying t = some (.slice e)) (hc : Try.prog.cellsOf e = s) (hbe : Try.prog.bytesOf e = B)
    (hf : DataW.trod enc Try.prog W 0 (fun _ => true) true fuel t [v] = some (d, p)) (hsz : ∀ n ∈ d.weights Try.prog t, n ≤ reachBytes) :
    ∃ A c, ∃ css : List (List Value), v = .slice A css.length c ∧ Rd W (· < W.heap.size) A css.flatten ∧
      (∀ cs ∈ css, cs.length = s ∧ ∃ n D Pl, n < fuel ∧ DataW.trod enc Try.prog W 0 (fun _ => true) true n e cs = some (D, Pl) ∧ ∀ m ∈ D.weights Try.prog e, m ≤ reachBytes) ∧ css.length ≤ c ∧ c * B ≤ reachBytes ∧ c ≤ maxLen := by
  rcases DataW.trod_slice ht hf with ⟨hcs, _⟩ | ⟨x, len, cap, elems, rest, n, hfu, hcs, hx, _, hl, hm, hlen, hel, hsp, _⟩
  · simp at hcs
    exact ⟨none, 0, [], hcs, .inl rfl, (by simp), Nat.zero_le _, (by simp), by decide⟩
  · simp at hcs
    subst hcs
    obtain ⟨hr, _⟩ := hsp rfl
    have hd : d = .slice (elems.map (·.1)) (rest.map (·.1)) := congrArg Prod.fst hx
    rw [hd, DataW.weights, ht] at hsz
    have hw : cap * B ≤ reachBytes := by
      have h1 := hsz (((elems.map (·.1)).length + (rest.map (·.1)).length) * Try.prog.bytesOf e) List.mem_cons_self
      rw [hbe, List.length_map, List.length_map, hlen, hr, show len + (cap - len) = cap by omega] at h1
      exact h1
    have hwe : ∀ n ∈ DataW.weightsAll Try.prog e (elems.map (·.1)), n ≤ reachBytes := fun n hn => hsz n (List.mem_cons_of_mem _ (List.mem_append_left _ hn))
    have hone : ∀ i, i < len → ∃ cs : List Value, (cs.length = s ∧ ∃ n D Pl, n < fuel ∧ DataW.trod enc Try.prog W 0 (fun _ => true) true n e cs = some (D, Pl) ∧ ∀ m ∈ D.weights Try.prog e, m ≤ reachBytes) ∧ ∀ k u, cs[k]? = some u → W.cell? ((x.add (i * s)).add k) = some u := by
      intro i hi
      have h1 := hel i hi
      rw [List.getElem?_eq_getElem (by omega), hc] at h1
      obtain ⟨cs', h2, h3⟩ := Option.bind_eq_some_iff.1 h1
      obtain ⟨_, hcl, hcell⟩ := World.cells?_some h2
      refine ⟨cs', ⟨hcl, n, (elems[i]).1, (elems[i]).2, by omega, h3, weightsAll_mem (List.mem_map.2 ⟨elems[i], List.getElem_mem (by omega), rfl⟩) hwe⟩, fun k u hu => ?_⟩
      have hk := (List.getElem?_eq_some_iff.1 hu).1
      rw [hcell k (by omega), hu]
    obtain ⟨Y, hY⟩ := choose_lt hone
    have hmem : ∀ y ∈ (List.range len).map Y, ∃ i, i < len ∧ y = Y i := by
      intro y hy
      obtain ⟨i, hi, rfl⟩ := List.mem_map.1 hy
      exact ⟨i, by simpa using hi, rfl⟩
    have hlens : ∀ y ∈ (List.range len).map Y, y.length = s := by
      intro y hy
      obtain ⟨i, hi, rfl⟩ := hmem y hy
      exact (hY i hi).1.1
    refine ⟨some x, cap, (List.range len).map Y, by simp, ?_, ?_, by simpa using hl, hw, hm⟩
    · obtain ⟨g, o, sp⟩ := x
      by_cases h0 : len = 0
      · subst h0
        exact .inl (by simp)
      · obtain ⟨u0, hu0⟩ : ∃ u, (Y 0)[0]? = some u := ⟨_, List.getElem?_eq_getElem (by rw [(hY 0 (by omega)).1.1]; exact hs)⟩
        have hc0 := (hY 0 (by omega)).2 0 u0 hu0
        have hs0 : sp = none := by
          cases sp with
          | none => rfl
          | some k =>
            simp only [Nat.zero_mul, Addr.add, if_true, World.cell?, Option.isSome_some] at hc0
            split at hc0 <;> simp at hc0
        subst hs0
        refine .inr ⟨g, o, rfl, ?_, fun j u hu => ?_⟩
        · have := lt_of_cell hc0
          simpa [Addr.add] using this
        · have hj := (List.getElem?_eq_some_iff.1 hu).1
          rw [flatten_len s _ hlens, List.length_map, List.length_range] at hj
          have hi : j / s < len := Nat.div_lt_of_lt_mul (by rw [Nat.mul_comm]; exact hj)
          have hk : j % s < s := Nat.mod_lt _ hs
          have e : j / s * s + j % s = j := by rw [Nat.mul_comm]; exact Nat.div_add_mod j s
          have h2 := flatten_get s _ hlens (j / s) (j % s) (by simpa using hi) hk
          rw [e, hu] at h2
          have h3 := (hY (j / s) hi).2 (j % s) u (by rw [h2]; simp)
          rw [← h3, Deep.add_add, e]
          unfold Addr.add
          by_cases hj0 : j = 0 <;> simp [hj0]
    · intro y hy
      obtain ⟨i, hi, rfl⟩ := hmem y hy
      exact (hY i hi).1

theorem VsAt.of_all {w : World} {F : Nat → Prop} : ∀ (css : List (List Value)), (∀ cs ∈ css, ∃ v, VAt w F v cs) → ∃ l, l.length = css.length ∧ VsAt w F l css
  | [], _ => ⟨[], rfl, by rw [VsAt]⟩
  | cs :: css, h => by
    obtain ⟨v, hv⟩ := h cs List.mem_cons_self
    obtain ⟨l, h1, h2⟩ := VsAt.of_all css (fun x hx => h x (List.mem_cons_of_mem _ hx))
    exact ⟨v :: l, by simp [h1], by rw [VsAt]; exact ⟨cs, css, rfl, hv, h2⟩⟩
theorem FsAt.of_all {w : World} {F : Nat → Prop} : ∀ (css : List (List Value)), (∀ cs ∈ css, ∃ v, FAt w F v cs) → ∃ l, l.length = css.length ∧ FsAt w F l css
  | [], _ => ⟨[], rfl, by rw [FsAt]⟩
  | cs :: css, h => by
    obtain ⟨v, hv⟩ := h cs List.mem_cons_self
    obtain ⟨l, h1, h2⟩ := FsAt.of_all css (fun x hx => h x (List.mem_cons_of_mem _ hx))
    exact ⟨v :: l, by simp [h1], by rw [FsAt]; exact ⟨cs, css, rfl, hv, h2⟩⟩

/-- What a reading of a value and of a field is, at readings of at most n steps. -/
theorem open_trees {H : Type} (enc : TypeId × Value → H) (W : World) : ∀ n : Nat,
    (∀ fuel cs D Pl, fuel ≤ n → DataW.trod enc Try.prog W 0 (fun _ => true) true fuel 32 cs = some (D, Pl) → (∀ m ∈ D.weights Try.prog 32, m ≤ reachBytes) → cs.length = 5 → ∃ v, VAt W (· < W.heap.size) v cs) ∧
    (∀ fuel cs D Pl, fuel ≤ n → DataW.trod enc Try.prog W 0 (fun _ => true) true fuel 34 cs = some (D, Pl) → (∀ m ∈ D.weights Try.prog 34, m ≤ reachBytes) → cs.length = 6 → ∃ f, FAt W (· < W.heap.size) f cs)
  | 0 => by
    refine ⟨fun fuel cs D Pl hn hx => ?_, fun fuel cs D Pl hn hx => ?_⟩
    · obtain rfl : fuel = 0 := by omega
      simp [DataW.trod] at hx
    · obtain rfl : fuel = 0 := by omega
      simp [DataW.trod] at hx
  | n + 1 => by
    obtain ⟨ihV, ihF⟩ := open_trees enc W n
    have i1 : Try.prog.cellsOf 3 = 1 := by kernel_rfl
    have j1 : Try.prog.cellsOf 2 = 1 := by kernel_rfl
    have s1 : Try.prog.cellsOf 9 = 1 := by kernel_rfl
    have l1 : Try.prog.cellsOf 30 = 1 := by kernel_rfl
    have t1 : Try.prog.cellsOf 22 = 1 := by kernel_rfl
    have v5 : Try.prog.cellsOf 32 = 5 := by kernel_rfl
    have hre : reachBytes = 140737488351232 := rfl
    have hV : ∀ fuel cs D Pl, fuel ≤ n + 1 → DataW.trod enc Try.prog W 0 (fun _ => true) true fuel 32 cs = some (D, Pl) → (∀ m ∈ D.weights Try.prog 32, m ≤ reachBytes) → cs.length = 5 → ∃ v, VAt W (· < W.heap.size) v cs := by
      intro fuel cs D Pl hn hx hsz hl
      obtain ⟨ys, k, hk, hD, _, hyl, hf⟩ := DataW.trod_struct Try.underlying32 hx
      match cs, hl, ys, hyl with
      | [v0, v1, v2, v3, v4], _, [y0, y1, y2, y3, y4], _ =>
        have g0 := hf 0 _ rfl
        have g1 := hf 1 _ rfl
        have g2 := hf 2 _ rfl
        have g3 := hf 3 _ rfl
        have g4 := hf 4 _ rfl
        simp [i1, j1, s1, l1, t1] at g0 g1 g2 g3 g4
        obtain ⟨x0, e0, q0, w0⟩ := DataW.trod_int Try.underlying3 g0
        obtain ⟨x1, e1, q1, w1⟩ := DataW.trod_int Try.underlying2 g1
        obtain ⟨x2, e2, q2, w2⟩ := DataW.trod_string Try.underlying9 g2
        obtain ⟨d3, p3⟩ := y3
        obtain ⟨d4, p4⟩ := y4
        cases e0; cases e1; cases e2
        subst q0 q1 q2
        have hD' : D = .agg [.lit (.int .i64 x0), .lit (.int .i64 x1), .lit (.string x2.data.toList), d3, d4] := congrArg Prod.fst hD
        have e : (DataW.agg [.lit (.int .i64 x0), .lit (.int .i64 x1), .lit (.string x2.data.toList), d3, d4] : DataW H).weights Try.prog 32 = DataW.weightsEach Try.prog [3, 2, 9, 30, 22] [.lit (.int .i64 x0), .lit (.int .i64 x1), .lit (.string x2.data.toList), d3, d4] := by
          rw [DataW.weights, Try.underlying32]
          rfl
        rw [hD', e] at hsz
        have z2 := (weights_head (weights_head hsz).2).2
        have hs2 := (weights_head z2).1 x2.data.toList.length (by rw [DataW.weights]; exact List.mem_cons_self)
        have z3 := (weights_head z2).2
        have z4 := (weights_head z3).2
        obtain ⟨A3, c3, css3, rfl, r3, a3, b3, m3, n3⟩ := open_rows 5 80 (by decide) Try.underlying30 v5 (by kernel_rfl) g3 (weights_head z3).1
        obtain ⟨A4, c4, css4, rfl, r4, a4, b4, m4, n4⟩ := open_rows 6 96 (by decide) Try.underlying22 (by kernel_rfl) (by kernel_rfl) g4 (weights_head z4).1
        obtain ⟨l, hl1, hl2⟩ := VsAt.of_all (w := W) (F := (· < W.heap.size)) css3 (fun cs hcs => by
          obtain ⟨hc1, n', D', Pl', hn', hx', hw'⟩ := a3 cs hcs
          exact ihV n' cs D' Pl' (by omega) hx' hw' hc1)
        obtain ⟨tb, ht1, ht2⟩ := FsAt.of_all (w := W) (F := (· < W.heap.size)) css4 (fun cs hcs => by
          obtain ⟨hc1, n', D', Pl', hn', hx', hw'⟩ := a4 cs hcs
          exact ihF n' cs D' Pl' (by omega) hx' hw' hc1)
        have hx2 : x2.data.toList.length = x2.size := by rw [Array.length_toList]; rfl
        refine ⟨.mk x0 x1 x2 l tb, ?_⟩
        rw [VAt]
        exact ⟨A3, c3, A4, c4, by rw [hl1, ht1], ⟨wf_i64 w0, wf_i64 w1, by omega, by omega, by omega, by omega, by omega, n3, n4⟩, ⟨css3, r3, hl2⟩, ⟨css4, r4, ht2⟩⟩
    refine ⟨hV, fun fuel cs D Pl hn hx hsz hl => ?_⟩
    obtain ⟨ys, k, hk, hD, _, hyl, hf⟩ := DataW.trod_struct Try.underlying34 hx
    match cs, hl, ys, hyl with
    | [v0, v1, v2, v3, v4, v5'], _, [y0, y1], _ =>
      have g0 := hf 0 _ rfl
      have g1 := hf 1 _ rfl
      simp [s1, v5] at g0 g1
      obtain ⟨x0, e0, q0, w0⟩ := DataW.trod_string Try.underlying9 g0
      obtain ⟨d1, p1⟩ := y1
      cases e0
      subst q0
      have hD' : D = .agg [.lit (.string x0.data.toList), d1] := congrArg Prod.fst hD
      have e : (DataW.agg [.lit (.string x0.data.toList), d1] : DataW H).weights Try.prog 34 = DataW.weightsEach Try.prog [9, 32] [.lit (.string x0.data.toList), d1] := by
        rw [DataW.weights, Try.underlying34]
        rfl
      rw [hD', e] at hsz
      have hs0 := (weights_head hsz).1 x0.data.toList.length (by rw [DataW.weights]; exact List.mem_cons_self)
      obtain ⟨v, hv⟩ := hV k _ d1 p1 (by omega) g1 (weights_head (weights_head hsz).2).1 rfl
      have hx0 : x0.data.toList.length = x0.size := by rw [Array.length_toList]; rfl
      refine ⟨.mk x0 v, ?_⟩
      rw [FAt]
      exact ⟨by omega, _, rfl, hv⟩

/-- An argument []api.Field. -/
theorem open_table {H : Type} {enc : TypeId × Value → H} {W : World} {base : Nat} {v : Value} {d : DataW H} {p : List MemPlace}
    (hval : Value.okWide Try.prog W .any base 22 v) (h0 : DataW.Trod enc Try.prog W 0 (fun _ => true) true 22 v d p) (hsz : ∀ n ∈ d.weights Try.prog 22, n ≤ reachBytes) :
    ∃ A c t, v = .slice A t.length c ∧ TAt W (· < W.heap.size) A t ∧ t.length ≤ c ∧ t.length * 96 ≤ 140737488351232 := by
  obtain ⟨a0, len, cap, rfl⟩ := okWide_slice Try.underlying22 hval
  obtain ⟨fuel, hf⟩ := h0
  have hf' : DataW.trod enc Try.prog W 0 (fun _ => true) true fuel 22 [.slice a0 len cap] = some (d, p) := by simpa [Value.cells] using hf
  obtain ⟨A4, c4, css4, h1, r4, a4, b4, m4, n4⟩ := open_rows 6 96 (by decide) Try.underlying22 (by kernel_rfl) (by kernel_rfl) hf' hsz
  obtain ⟨tb, ht1, ht2⟩ := FsAt.of_all (w := W) (F := (· < W.heap.size)) css4 (fun cs hcs => by
    obtain ⟨hc1, n', D', Pl', hn', hx', hw'⟩ := a4 cs hcs
    exact (open_trees enc W n').2 n' cs D' Pl' (Nat.le_refl _) hx' hw' hc1)
  have hre : reachBytes = 140737488351232 := rfl
  exact ⟨A4, c4, tb, by rw [h1, ht1], ⟨css4, r4, ht2⟩, by omega, by omega⟩

/-- An argument api.Field. -/
theorem open_field {H : Type} {enc : TypeId × Value → H} {W : World} {base : Nat} {v : Value} {d : DataW H} {p : List MemPlace}
    (hval : Value.okWide Try.prog W .any base 34 v) (h0 : DataW.Trod enc Try.prog W 0 (fun _ => true) true 34 v d p) (hsz : ∀ n ∈ d.weights Try.prog 34, n ≤ reachBytes) :
    ∃ (f : FF) (A B : Option Addr) (c e : Nat), v = .agg #[.string f.name, .int .i64 f.val.kind, .int .i64 f.val.num, .string f.val.text, .slice A f.val.list.length c, .slice B f.val.table.length e] ∧ f.name.size ≤ 140737488351232 ∧ f.val.fit c e ∧ LAt W (· < W.heap.size) A f.val.list ∧ TAt W (· < W.heap.size) B f.val.table := by
  obtain ⟨cs, rfl, hcs⟩ := okWide_struct Try.underlying34 hval
  obtain ⟨fuel, hf⟩ := h0
  have hc6 : Try.prog.cellsOf 34 = 6 := by kernel_rfl
  rw [hc6] at hcs
  have hf' : DataW.trod enc Try.prog W 0 (fun _ => true) true fuel 34 cs.toList = some (d, p) := by simpa [Value.cells] using hf
  obtain ⟨f, hfa⟩ := (open_trees enc W fuel).2 fuel cs.toList d p (Nat.le_refl _) hf' hsz (by simpa using hcs)
  rw [FAt_iff] at hfa
  obtain ⟨hn, r, hr, hv⟩ := hfa
  rw [VAt_iff] at hv
  obtain ⟨A, c, B, e, rfl, hfit, hl, ht⟩ := hv
  refine ⟨f, A, B, c, e, ?_, hn, hfit, hl, ht⟩
  rw [← hr]

end Go.Proofs.Ytdhaojicphhikaa
