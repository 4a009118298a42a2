/-
  ActorsPlays's argument: a script, each of its items with a row of octets.
-/
import Derived.Test.YtfpkachoneaaeaaLiftElems
import Derived.Test.YtfpkachoneaaeaaLiftCell
import Derived.Test.YtfpkachoneaaeaaPl12
set_option linter.unusedSimpArgs false
set_option linter.unusedVariables false
namespace Go.Proofs.Ytfpkachoneaaeaa
open Go Go.ChangeShapes Go.WideShapes Go.ChangeAt Go.RowKit Go.Deep
def Ap.good (W : World) (o : Ap) : Prop := RB W (· < W.heap.size) o.addr o.data ∧ (Lit.int .i64 o.actor).wf = true
def Ap.bulk (o : Ap) : Nat := o.data.length + 1
theorem sum_in {α : Type} {f : α → Nat} {x : α} : ∀ {l : List α}, x ∈ l → f x ≤ (l.map f).sum
  | y :: l, h => by
    rw [List.map_cons, List.sum_cons]
    rcases List.mem_cons.1 h with e | e
    · rw [e]; omega
    · have := sum_in (f := f) e
      omega
theorem ap_sum (l : List Ap) : l.length ≤ (l.map Ap.bulk).sum := by
  induction l with
  | nil => exact Nat.le_refl _
  | cons x l ih =>
    simp only [List.map_cons, List.length_cons, List.sum_cons, Ap.bulk] at ih ⊢
    omega
set_option maxRecDepth 100000 in
theorem open_aps {H : Type} {enc : TypeId × Value → H} {W : World} {base : Nat} {v : Value} {d : DataW H} {p : List MemPlace}
    (hval : Value.okWide Try.prog W .any base 22 v) (h0 : DataW.Trod enc Try.prog W 0 (fun _ => true) true 22 v d p) (hsz : ∀ n ∈ d.weights Try.prog 22, n ≤ reachBytes) :
    ∃ A c, ∃ ops : List Ap, v = .slice A ops.length c ∧ Rd W (· < W.heap.size) A (ops.flatMap Ap.cells) ∧ (∀ o ∈ ops, o.good W) ∧ (ops.map Ap.bulk).sum < Rows.uptoBulk d := by
  obtain ⟨A, c, xs, h1, h2, h3, h4, h5, _, h7, _⟩ := open_elems Ap.cells Ap.bulk (Ap.good W) 3 _ (by decide) Try.underlying22 (by kernel_rfl) rfl (fun n cs' D Pl hx hl => by
    obtain ⟨ys, k, _, hD, _, hyl, hf⟩ := DataW.trod_struct Try.underlying64 hx
    match cs', hl, ys, hyl with
    | [v0, v1, v2], _, [y0, y1, y2], _ =>
      have i1 : Try.prog.cellsOf 3 = 1 := by kernel_rfl
      have b1 : Try.prog.cellsOf 27 = 1 := by kernel_rfl
      have g0 := hf 0 _ rfl
      have g1 := hf 1 _ rfl
      have g2 := hf 2 _ rfl
      simp [i1, b1] at g0 g1 g2
      obtain ⟨x0, e0, q0, w0⟩ := DataW.trod_int Try.underlying3 g0
      obtain ⟨x1, e1, q1, w1⟩ := DataW.trod_int Try.underlying3 g1
      obtain ⟨d2, p2⟩ := y2
      obtain ⟨A4, c4, bs, e4, r4, l4, m4, n4, k4⟩ := open_bytes_cell Try.underlying27 Try.underlying5 (by kernel_rfl) g2
      cases e0; cases e1; subst e4
      subst q0 q1
      refine ⟨⟨x0, x1, A4, c4, bs⟩, rfl, ⟨r4, w1⟩, ?_⟩
      have hD' : D = .agg [.lit (.int .i64 x0), .lit (.int .i64 x1), d2] := congrArg Prod.fst hD
      rw [hD']
      simp only [Rows.uptoBulk, Rows.uptoBulkAll, Ap.bulk]
      omega) hval h0 hsz
  exact ⟨A, c, xs, h1, h2, h3, h7⟩
end Go.Proofs.Ytfpkachoneaaeaa
