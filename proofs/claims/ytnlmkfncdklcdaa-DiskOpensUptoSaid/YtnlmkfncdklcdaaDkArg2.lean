/-
  Arguments of layer 11, of small bulk: a list of files.
-/
import Derived.Test.YtnlmkfncdklcdaaLiftElems
import Derived.Test.YtnlmkfncdklcdaaLiftCell
import Derived.Test.YtnlmkfncdklcdaaDkFls
namespace Go.Proofs.Ytnlmkfncdklcdaa
open Go.ChangeShapes Go.WideShapes Go.ChangeAt Go.RowKit Go.Deep

structure AFl where
  name : ByteArray
  addr : Option Addr
  cap : Nat
  data : List UInt8
deriving Inhabited
def AFl.cells (o : AFl) : List Value := [.string o.name, .slice o.addr o.data.length o.cap]
def AFl.good (W : World) (o : AFl) : Prop := RB W (· < W.heap.size) o.addr o.data ∧ o.data.length ≤ o.cap ∧ o.cap ≤ maxLen ∧ (o.addr = none → o.data = [] ∧ o.cap = 0)
def AFl.bulk (o : AFl) : Nat := o.name.size + o.data.length + 3
def AFl.fl (o : AFl) : FlS := ⟨o.name, o.data⟩

theorem sum_mem {α : Type} {f : α → Nat} {x : α} : ∀ {l : List α}, x ∈ l → f x ≤ (l.map f).sum
  | y :: l, h => by
    rw [List.map_cons, List.sum_cons]
    rcases List.mem_cons.1 h with e | e
    · rw [e]; omega
    · have := sum_mem (f := f) e
      omega
theorem afl_sum (l : List AFl) : (l.map AFl.fl).length + totLen (l.map AFl.fl) ≤ (l.map AFl.bulk).sum := by
  induction l with
  | nil => exact Nat.le_refl _
  | cons x l ih =>
    unfold totLen at ih ⊢
    simp only [List.map_cons, List.length_cons, List.sum_cons, AFl.bulk, AFl.fl] at ih ⊢
    omega

set_option maxRecDepth 100000 in
theorem open_afls {H : Type} {enc : TypeId × Value → H} {W : World} {base : Nat} {v : Value} {d : DataW H} {p : List MemPlace}
    (hval : Value.okWide Try.prog W .any base 24 v) (h0 : DataW.Trod enc Try.prog W 0 (fun _ => true) true 24 v d p) (hsz : ∀ n ∈ d.weights Try.prog 24, n ≤ reachBytes) (hbk : Rows.uptoBulk d ≤ 1048576) :
    ∃ A c, ∃ fs : List FlS, v = .slice A fs.length c ∧ FlsAt W (· < W.heap.size) A fs ∧ fs.length + totLen fs ≤ 1048576 := by
  obtain ⟨A, c, xs, h1, h2, h3, h4, h5, _, h7, _⟩ := open_elems AFl.cells AFl.bulk (AFl.good W) 2 40 (by decide) Try.underlying24 (by kernel_rfl) (by kernel_rfl) (fun n cs' D Pl hx hl => by
    obtain ⟨ys, k, _, hD, _, hyl, hf⟩ := DataW.trod_struct Try.underlying36 hx
    match cs', hl, ys, hyl with
    | [v0, v1], _, [y0, y1], _ =>
      have s1 : Try.prog.cellsOf 9 = 1 := by kernel_rfl
      have b1 : Try.prog.cellsOf 34 = 1 := by kernel_rfl
      have g0 := hf 0 _ rfl
      have g1 := hf 1 _ rfl
      simp [s1, b1] at g0 g1
      obtain ⟨x0, e0, q0, w0⟩ := DataW.trod_string Try.underlying9 g0
      obtain ⟨d1, p1⟩ := y1
      obtain ⟨A4, c4, bs, e4, r4, l4, m4, n4, k4⟩ := open_bytes_cell Try.underlying34 Try.underlying5 (by kernel_rfl) g1
      cases e0; subst e4
      subst q0
      refine ⟨⟨x0, A4, c4, bs⟩, rfl, ⟨r4, l4, m4, n4⟩, ?_⟩
      have hD' : D = .agg [.lit (.string x0.data.toList), d1] := congrArg Prod.fst hD
      rw [hD']
      simp only [Rows.uptoBulk, Rows.uptoBulkAll, AFl.bulk]
      have : x0.data.toList.length = x0.size := by rw [Array.length_toList]; rfl
      omega) hval h0 hsz
  have hs := afl_sum xs
  refine ⟨A, c, xs.map AFl.fl, by rw [List.length_map]; exact h1, ⟨xs.map AFl.cells, by rw [← List.flatMap_def]; exact h2, by rw [List.length_map, List.length_map], fun j a b => ?_⟩, by omega⟩
  rw [List.length_map] at a b
  rw [List.getElem_map, List.getElem_map]
  have hm := List.getElem_mem a
  obtain ⟨g1, g2, g3, g4⟩ := h3 _ hm
  have hb := sum_mem (f := AFl.bulk) hm
  unfold AFl.bulk at hb h7
  exact ⟨by show (xs[j]).name.size ≤ _; omega, by show (xs[j]).data.length ≤ _; omega, _, rfl, _, _, rfl, g1, g2, g3, g4⟩

end Go.Proofs.Ytnlmkfncdklcdaa
