/-
  A field that is a slice, in an element that is read.
-/
import Derived.Test.YtnlmkfncdklcdaaLiftElems
import Derived.Test.YtnlmkfncdklcdaaLiftCell
import Derived.Test.YtnlmkfncdklcdaaDkFls
namespace Go.Proofs.Ytnlmkfncdklcdaa
open Go.ChangeShapes Go.WideShapes Go.ChangeAt Go.RowKit Go.Deep

set_option maxRecDepth 100000 in
theorem open_elems_cell {H : Type} {enc : TypeId × Value → H} {W : World} {fuel : Nat} {v : Value} {d : DataW H} {p : List MemPlace} {t e : TypeId} {α : Type} [Inhabited α] (cells : α → List Value) (bulk : α → Nat) (good : α → Prop) (s : Nat) (hs : 0 < s)
    (ht : Try.prog.underlying t = some (.slice e)) (hc : Try.prog.cellsOf e = s)
    (each : ∀ n cs' D Pl, DataW.trod enc Try.prog W 0 (fun _ => true) true n e cs' = some (D, Pl) → cs'.length = s → ∃ x, cells x = cs' ∧ good x ∧ bulk x ≤ Rows.uptoBulk D)
    (hf : DataW.trod enc Try.prog W 0 (fun _ => true) true fuel t [v] = some (d, p)) :
    ∃ A c xs, v = .slice A xs.length c ∧ Rd W (· < W.heap.size) A (xs.flatMap cells) ∧ (∀ x ∈ xs, good x) ∧ xs.length ≤ c ∧ c ≤ maxLen ∧ (A = none → xs = [] ∧ c = 0) ∧ (xs.map bulk).sum < Rows.uptoBulk d ∧ ∀ x ∈ xs, (cells x).length = s := by
  rcases open_slice ht hf with ⟨hcs, _⟩ | ⟨x, len, c, m, n, D, Pl, hcs, _, hl, hm, hmm, hx, hall⟩
  · simp at hcs
    subst hcs
    exact ⟨none, 0, [], rfl, .inl rfl, by simp, by simp, by decide, fun _ => ⟨rfl, rfl⟩, by have := bulk_one d; simp; omega, by simp⟩
  · simp at hcs
    subst hcs
    obtain rfl : m = c := by simpa using hmm
    have hd : d = .slice ((List.range len).map D) ((List.range (m - len)).map fun j => D (len + j)) := congrArg Prod.fst hx
    have hone : ∀ i, i < len → ∃ y : α, (cells y).length = s ∧ good y ∧ bulk y ≤ Rows.uptoBulk (D i) ∧ ∀ k u, (cells y)[k]? = some u → W.cell? ((x.add (i * s)).add k) = some u := by
      intro i hi
      obtain ⟨cs', h1, h2⟩ := hall i (by omega)
      rw [hc] at h1
      obtain ⟨_, hlen, hcell⟩ := World.cells?_some h1
      obtain ⟨y, hy, hg, hb⟩ := each n cs' (D i) (Pl i) h2 hlen
      refine ⟨y, by rw [hy, hlen], hg, hb, fun k u hu => ?_⟩
      rw [hy] at hu
      have hk := (List.getElem?_eq_some_iff.1 hu).1
      rw [hcell k (by omega), hu]
    obtain ⟨Y, hY⟩ := choose_lt hone
    have hget : ∀ i y, ((List.range len).map Y)[i]? = some y → i < len ∧ y = Y i := by
      intro i y hy
      rw [List.getElem?_map] at hy
      by_cases hi : i < len
      · rw [List.getElem?_range hi] at hy
        simp at hy
        exact ⟨hi, hy.symm⟩
      · rw [List.getElem?_eq_none (by simp; omega)] at hy
        cases hy
    have hmem : ∀ y ∈ (List.range len).map Y, ∃ i, i < len ∧ y = Y i := by
      intro y hy
      obtain ⟨i, hi⟩ := List.getElem?_of_mem hy
      obtain ⟨h1, h2⟩ := hget i y hi
      exact ⟨i, h1, h2⟩
    have hlens : ∀ y ∈ (List.range len).map Y, (cells y).length = s := by
      intro y hy
      obtain ⟨i, hi, rfl⟩ := hmem y hy
      exact (hY i hi).1
    refine ⟨some x, m, (List.range len).map Y, by simp, ?_, ?_, by simpa using hl, by assumption, (fun h => by cases h), ?_, hlens⟩
    · obtain ⟨g, o, sp⟩ := x
      by_cases h0 : len = 0
      · subst h0
        exact .inl (by simp)
      · obtain ⟨u0, hu0⟩ : ∃ u, (cells (Y 0))[0]? = some u := ⟨_, List.getElem?_eq_getElem (by rw [(hY 0 (by omega)).1]; exact hs)⟩
        have hc0 := (hY 0 (by omega)).2.2.2 0 u0 hu0
        have hs0 : sp = none := by
          cases sp with
          | none => rfl
          | some k =>
            simp only [Nat.zero_mul, Addr.add, if_true, World.cell?, Option.isSome_some] at hc0
            split at hc0 <;> simp at hc0
        subst hs0
        refine .inr ⟨g, o, rfl, ?_, fun j u hu => ?_⟩
        · have := lt_of_cell hc0
          simpa [Addr.add] using this
        · have hj := (List.getElem?_eq_some_iff.1 hu).1
          rw [flat_length cells s _ hlens, List.length_map, List.length_range] at hj
          have hi : j / s < len := Nat.div_lt_of_lt_mul (by rw [Nat.mul_comm]; exact hj)
          have hk : j % s < s := Nat.mod_lt _ hs
          have e : j / s * s + j % s = j := by rw [Nat.mul_comm]; exact Nat.div_add_mod j s
          have h2 := flat_get cells s _ hlens (j / s) (j % s) (by simpa using hi) hk
          rw [e, hu] at h2
          have h3 := (hY (j / s) hi).2.2.2 (j % s) u (by rw [h2]; simp)
          rw [← h3, Deep.add_add, e]
          unfold Addr.add
          by_cases hj0 : j = 0 <;> simp [hj0]
    · intro y hy
      obtain ⟨i, hi, rfl⟩ := hmem y hy
      exact (hY i hi).2.1
    · rw [hd]
      simp only [Rows.uptoBulk]
      have h1 : (((List.range len).map Y).map bulk).sum ≤ Rows.uptoBulkAll ((List.range len).map D) := by
        have h2 : ∀ L : List Nat, (∀ i ∈ L, i < len) → ((L.map Y).map bulk).sum ≤ Rows.uptoBulkAll (L.map D) := by
          intro L
          induction L with
          | nil => intro _; simp [Rows.uptoBulkAll]
          | cons i L ih =>
            intro hL
            have h3 := (hY i (hL i List.mem_cons_self)).2.2.1
            have h4 := ih fun k hk => hL k (List.mem_cons_of_mem _ hk)
            simp only [List.map_cons, List.sum_cons, Rows.uptoBulkAll]
            omega
        exact h2 _ fun i hi => by simpa using hi
      omega

end Go.Proofs.Ytnlmkfncdklcdaa
namespace Go.Proofs.Ytnlmkfncdklcdaa
open Go.ChangeShapes Go.WideShapes Go.ChangeAt Go.RowKit Go.Deep

structure AFl where
  name : ByteArray
  addr : Option Addr
  cap : Nat
  data : List UInt8
deriving Inhabited
def AFl.cells (o : AFl) : List Value := [.string o.name, .slice o.addr o.data.length o.cap]
def AFl.good (W : World) (o : AFl) : Prop := RB W (· < W.heap.size) o.addr o.data ∧ o.data.length ≤ o.cap ∧ o.cap ≤ maxLen ∧ (o.addr = none → o.data = [] ∧ o.cap = 0)
def AFl.bulk (o : AFl) : Nat := o.name.size + o.data.length + 3
def AFl.fl (o : AFl) : FlS := ⟨o.name, o.data⟩

theorem sum_mem {α : Type} {f : α → Nat} {x : α} : ∀ {l : List α}, x ∈ l → f x ≤ (l.map f).sum
  | y :: l, h => by
    rw [List.map_cons, List.sum_cons]
    rcases List.mem_cons.1 h with e | e
    · rw [e]; omega
    · have := sum_mem (f := f) e
      omega
theorem afl_sum (l : List AFl) : (l.map AFl.fl).length + totLen (l.map AFl.fl) ≤ (l.map AFl.bulk).sum := by
  induction l with
  | nil => exact Nat.le_refl _
  | cons x l ih =>
    unfold totLen at ih ⊢
    simp only [List.map_cons, List.length_cons, List.sum_cons, AFl.bulk, AFl.fl] at ih ⊢
    omega

set_option maxRecDepth 100000 in
theorem open_afls {H : Type} {enc : TypeId × Value → H} {W : World} {base : Nat} {v : Value} {d : DataW H} {p : List MemPlace}
    (hval : Value.okWide Try.prog W .any base 24 v) (h0 : DataW.Trod enc Try.prog W 0 (fun _ => true) true 24 v d p) (hsz : ∀ n ∈ d.weights Try.prog 24, n ≤ reachBytes) (hbk : Rows.uptoBulk d ≤ 1048576) :
    ∃ A c, ∃ fs : List FlS, v = .slice A fs.length c ∧ FlsAt W (· < W.heap.size) A fs ∧ fs.length + totLen fs ≤ 1048576 := by
  obtain ⟨A, c, xs, h1, h2, h3, h4, h5, _, h7, _⟩ := open_elems AFl.cells AFl.bulk (AFl.good W) 2 40 (by decide) Try.underlying24 (by kernel_rfl) (by kernel_rfl) (fun n cs' D Pl hx hl => by
    obtain ⟨ys, k, _, hD, _, hyl, hf⟩ := DataW.trod_struct Try.underlying36 hx
    match cs', hl, ys, hyl with
    | [v0, v1], _, [y0, y1], _ =>
      have s1 : Try.prog.cellsOf 9 = 1 := by kernel_rfl
      have b1 : Try.prog.cellsOf 34 = 1 := by kernel_rfl
      have g0 := hf 0 _ rfl
      have g1 := hf 1 _ rfl
      simp [s1, b1] at g0 g1
      obtain ⟨x0, e0, q0, w0⟩ := DataW.trod_string Try.underlying9 g0
      obtain ⟨d1, p1⟩ := y1
      obtain ⟨A4, c4, bs, e4, r4, l4, m4, n4, k4⟩ := open_bytes_cell Try.underlying34 Try.underlying5 (by kernel_rfl) g1
      cases e0; subst e4
      subst q0
      refine ⟨⟨x0, A4, c4, bs⟩, rfl, ⟨r4, l4, m4, n4⟩, ?_⟩
      have hD' : D = .agg [.lit (.string x0.data.toList), d1] := congrArg Prod.fst hD
      rw [hD']
      simp only [Rows.uptoBulk, Rows.uptoBulkAll, AFl.bulk]
      have : x0.data.toList.length = x0.size := by rw [Array.length_toList]; rfl
      omega) hval h0 hsz
  have hs := afl_sum xs
  refine ⟨A, c, xs.map AFl.fl, by rw [List.length_map]; exact h1, ⟨xs.map AFl.cells, by rw [← List.flatMap_def]; exact h2, by rw [List.length_map, List.length_map], fun j a b => ?_⟩, by omega⟩
  rw [List.length_map] at a b
  rw [List.getElem_map, List.getElem_map]
  have hm := List.getElem_mem a
  obtain ⟨g1, g2, g3, g4⟩ := h3 _ hm
  have hb := sum_mem (f := AFl.bulk) hm
  unfold AFl.bulk at hb h7
  exact ⟨by show (xs[j]).name.size ≤ _; omega, by show (xs[j]).data.length ≤ _; omega, _, rfl, _, _, rfl, g1, g2, g3, g4⟩

end Go.Proofs.Ytnlmkfncdklcdaa
namespace Go.Proofs.Ytnlmkfncdklcdaa
open Go.ChangeShapes Go.WideShapes Go.ChangeAt Go.RowKit Go.Deep

structure AFate where
  addr : Option Addr
  cap : Nat
  keep : List Bool
  tear : Int
deriving Inhabited
def AFate.cells (o : AFate) : List Value := [.slice o.addr o.keep.length o.cap, .int .i64 o.tear]
def AFate.good (W : World) (o : AFate) : Prop := Rd W (· < W.heap.size) o.addr (o.keep.map Value.bool) ∧ o.keep.length ≤ o.cap ∧ o.cap ≤ maxLen ∧ -9223372036854775808 ≤ o.tear ∧ o.tear ≤ 9223372036854775807
def AFate.bulk (o : AFate) : Nat := o.keep.length + 2

theorem sum_ones {α : Type} : ∀ l : List α, (l.map fun _ => 1).sum = l.length
  | [] => rfl
  | x :: l => by
    rw [List.map_cons, List.sum_cons, sum_ones l, List.length_cons]
    omega
theorem flat_bools : ∀ l : List Bool, l.flatMap (fun b : Bool => [Value.bool b]) = l.map Value.bool
  | [] => rfl
  | x :: l => by
    rw [List.flatMap_cons, List.map_cons, flat_bools l]
    rfl

set_option maxRecDepth 100000 in
theorem open_fate_cells {H : Type} {enc : TypeId × Value → H} {W : World} {fuel : Nat} {cs : List Value} {D : DataW H} {Pl : List MemPlace} (hx : DataW.trod enc Try.prog W 0 (fun _ => true) true fuel 40 cs = some (D, Pl)) (hl : cs.length = 2) :
    ∃ f : AFate, f.cells = cs ∧ f.good W ∧ f.bulk ≤ Rows.uptoBulk D := by
  obtain ⟨ys, k, _, hD, _, hyl, hf⟩ := DataW.trod_struct Try.underlying40 hx
  match cs, hl, ys, hyl with
  | [v0, v1], _, [y0, y1], _ =>
    have s1 : Try.prog.cellsOf 3 = 1 := by kernel_rfl
    have b1 : Try.prog.cellsOf 38 = 1 := by kernel_rfl
    have g0 := hf 0 _ rfl
    have g1 := hf 1 _ rfl
    simp [s1, b1] at g0 g1
    obtain ⟨d0, p0⟩ := y0
    obtain ⟨x1, e1, q1, w1⟩ := DataW.trod_int Try.underlying3 g1
    obtain ⟨A, c, xs, e0, r0, _, l0, m0, _, k0, _⟩ := open_elems_cell (fun b : Bool => [Value.bool b]) (fun _ => 1) (fun _ => True) 1 (by decide) Try.underlying38 (by kernel_rfl) (fun n cs' D Pl hx hl => by
      match cs', hl with
      | [u], _ =>
        obtain ⟨x, e, _⟩ := DataW.trod_bool Try.underlying4 hx
        cases e
        exact ⟨x, rfl, trivial, bulk_one D⟩) g0
    cases e1
    subst q1 e0
    have hs : (xs.map fun _ => 1).sum = xs.length := sum_ones xs
    refine ⟨⟨A, c, xs, x1⟩, rfl, ⟨?_, l0, m0, wf_i64 w1⟩, ?_⟩
    · rw [← flat_bools]
      exact r0
    · have hD' : D = .agg [d0, .lit (.int .i64 x1)] := congrArg Prod.fst hD
      rw [hD']
      simp only [Rows.uptoBulk, Rows.uptoBulkAll, AFate.bulk]
      omega

end Go.Proofs.Ytnlmkfncdklcdaa
namespace Go.Proofs.Ytnlmkfncdklcdaa
open Go.ChangeShapes Go.WideShapes Go.ChangeAt Go.RowKit Go.Deep

structure DOp where
  kind : Int
  n : Int
  name : ByteArray
  addr : Option Addr
  cap : Nat
  data : List UInt8
  fate : AFate
deriving Inhabited
def DOp.cells (o : DOp) : List Value := .int .i64 o.kind :: .int .i64 o.n :: .string o.name :: .slice o.addr o.data.length o.cap :: o.fate.cells
def DOp.good (W : World) (o : DOp) : Prop := (-9223372036854775808 ≤ o.kind ∧ o.kind ≤ 9223372036854775807) ∧ (-9223372036854775808 ≤ o.n ∧ o.n ≤ 9223372036854775807) ∧ RB W (· < W.heap.size) o.addr o.data ∧ o.data.length ≤ o.cap ∧ o.cap ≤ maxLen ∧ (o.addr = none → o.data = [] ∧ o.cap = 0) ∧ o.fate.good W
def DOp.bulk (o : DOp) : Nat := o.name.size + o.data.length + o.fate.bulk + 4

set_option maxRecDepth 100000 in
theorem open_dops {H : Type} {enc : TypeId × Value → H} {W : World} {base : Nat} {v : Value} {d : DataW H} {p : List MemPlace}
    (hval : Value.okWide Try.prog W .any base 43 v) (h0 : DataW.Trod enc Try.prog W 0 (fun _ => true) true 43 v d p) (hsz : ∀ n ∈ d.weights Try.prog 43, n ≤ reachBytes) :
    ∃ A c, ∃ ops : List DOp, v = .slice A ops.length c ∧ Rd W (· < W.heap.size) A (ops.flatMap DOp.cells) ∧ (∀ o ∈ ops, o.good W) ∧ (ops.map DOp.bulk).sum < Rows.uptoBulk d := by
  obtain ⟨A, c, xs, h1, h2, h3, h4, h5, _, h7, _⟩ := open_elems DOp.cells DOp.bulk (DOp.good W) 6 _ (by decide) Try.underlying43 (by kernel_rfl) rfl (fun n cs' D Pl hx hl => by
    obtain ⟨ys, k, _, hD, _, hyl, hf⟩ := DataW.trod_struct Try.underlying45 hx
    match cs', hl, ys, hyl with
    | [v0, v1, v2, v3, v4, v5], _, [y0, y1, y2, y3, y4], _ =>
      have i1 : Try.prog.cellsOf 3 = 1 := by kernel_rfl
      have s1 : Try.prog.cellsOf 9 = 1 := by kernel_rfl
      have b1 : Try.prog.cellsOf 34 = 1 := by kernel_rfl
      have f1 : Try.prog.cellsOf 40 = 2 := by kernel_rfl
      have g0 := hf 0 _ rfl
      have g1 := hf 1 _ rfl
      have g2 := hf 2 _ rfl
      have g3 := hf 3 _ rfl
      have g4 := hf 4 _ rfl
      simp [i1, s1, b1, f1] at g0 g1 g2 g3 g4
      obtain ⟨x0, e0, q0, w0⟩ := DataW.trod_int Try.underlying3 g0
      obtain ⟨x1, e1, q1, w1⟩ := DataW.trod_int Try.underlying3 g1
      obtain ⟨x2, e2, q2, _⟩ := DataW.trod_string Try.underlying9 g2
      obtain ⟨d3, p3⟩ := y3
      obtain ⟨d4, p4⟩ := y4
      obtain ⟨A4, c4, bs, e4, r4, l4, m4, n4, k4⟩ := open_bytes_cell Try.underlying34 Try.underlying5 (by kernel_rfl) g3
      obtain ⟨f, ef, gf, kf⟩ := open_fate_cells g4 rfl
      cases e0; cases e1; cases e2; subst e4
      subst q0 q1 q2
      refine ⟨⟨x0, x1, x2, A4, c4, bs, f⟩, by unfold DOp.cells; rw [ef], ⟨wf_i64 w0, wf_i64 w1, r4, l4, m4, n4, gf⟩, ?_⟩
      have hD' : D = .agg [.lit (.int .i64 x0), .lit (.int .i64 x1), .lit (.string x2.data.toList), d3, d4] := congrArg Prod.fst hD
      rw [hD']
      simp only [Rows.uptoBulk, Rows.uptoBulkAll, DOp.bulk]
      have : x2.data.toList.length = x2.size := by rw [Array.length_toList]; rfl
      omega) hval h0 hsz
  exact ⟨A, c, xs, h1, h2, h3, h7⟩

theorem Rd.dop {w : World} {F : Nat → Prop} {A : Option Addr} {l : List DOp} (h : Rd w F A (l.flatMap DOp.cells)) {j : Nat} (hj : j < l.length) :
    ∃ g o, A = some ⟨g, o, none⟩ ∧ F g ∧ w.cell? ⟨g, o + j * 6, none⟩ = some (.int .i64 (l[j]).kind) ∧ w.cell? ⟨g, o + j * 6 + 1, none⟩ = some (.int .i64 (l[j]).n) ∧ w.cell? ⟨g, o + j * 6 + 2, none⟩ = some (.string (l[j]).name) ∧
      w.cell? ⟨g, o + j * 6 + 3, none⟩ = some (.slice (l[j]).addr (l[j]).data.length (l[j]).cap) ∧ w.cell? ⟨g, o + j * 6 + 4, none⟩ = some (.slice (l[j]).fate.addr (l[j]).fate.keep.length (l[j]).fate.cap) ∧ w.cell? ⟨g, o + j * 6 + 5, none⟩ = some (.int .i64 (l[j]).fate.tear) := by
  have h7 : ∀ x ∈ l, (DOp.cells x).length = 6 := fun _ _ => rfl
  rcases h with h | ⟨g, o, h, hF, hc⟩
  · have := congrArg List.length h
    rw [flat_length _ 6 _ h7, List.length_nil] at this
    omega
  · have at_ : ∀ k u, (l[j]).cells[k]? = some u → w.cell? ⟨g, o + j * 6 + k, none⟩ = some u := by
      intro k u hu
      have hk : k < 6 := (List.getElem?_eq_some_iff.1 hu).1
      rw [Nat.add_assoc]
      exact hc _ u (by rw [flat_get _ 6 _ h7 j k hj hk, hu])
    exact ⟨g, o, h, hF, at_ 0 _ rfl, at_ 1 _ rfl, at_ 2 _ rfl, at_ 3 _ rfl, at_ 4 _ rfl, at_ 5 _ rfl⟩

set_option maxRecDepth 100000 in
/-- A fate that is an argument of its own. -/
theorem open_fate {H : Type} {enc : TypeId × Value → H} {W : World} {base : Nat} {v : Value} {d : DataW H} {p : List MemPlace}
    (hval : Value.okWide Try.prog W .any base 40 v) (h0 : DataW.Trod enc Try.prog W 0 (fun _ => true) true 40 v d p) :
    ∃ f : AFate, v = .agg #[.slice f.addr f.keep.length f.cap, .int .i64 f.tear] ∧ f.good W := by
  obtain ⟨cs, rfl, hcs⟩ := okWide_struct Try.underlying40 hval
  obtain ⟨fuel, hf⟩ := h0
  have hc2 : Try.prog.cellsOf 40 = 2 := by kernel_rfl
  rw [hc2] at hcs
  obtain ⟨l, rfl⟩ : ∃ l, cs = l.toArray := ⟨cs.toList, by simp⟩
  obtain ⟨f, e, hg, _⟩ := open_fate_cells hf (by simpa [Value.cells] using hcs)
  refine ⟨f, ?_, hg⟩
  have : l = f.cells := by simpa [Value.cells] using e.symm
  rw [this]
  rfl

end Go.Proofs.Ytnlmkfncdklcdaa
