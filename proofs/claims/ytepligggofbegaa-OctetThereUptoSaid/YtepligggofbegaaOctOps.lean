/-
  Scripts of calls on Readers and Writers.
-/
import Derived.Test.YtepligggofbegaaLiftCell
namespace Go.Proofs.Ytepligggofbegaa
open Go.ChangeShapes Go.WideShapes Go.ChangeAt Go.RowKit Go.Deep

structure OOp where
  kind : Int
  n : Int
  num : Int
  text : ByteArray
  addr : Option Addr
  cap : Nat
  data : List UInt8
deriving Inhabited

def OOp.cells (o : OOp) : List Value := [.int .i64 o.kind, .int .i64 o.n, .int .i64 o.num, .string o.text, .slice o.addr o.data.length o.cap]
def OOp.good (W : World) (o : OOp) : Prop := (-9223372036854775808 ≤ o.kind ∧ o.kind ≤ 9223372036854775807) ∧ (-9223372036854775808 ≤ o.n ∧ o.n ≤ 9223372036854775807) ∧ (-9223372036854775808 ≤ o.num ∧ o.num ≤ 9223372036854775807) ∧ o.text.size ≤ maxLen ∧ RB W (· < W.heap.size) o.addr o.data ∧ o.data.length ≤ o.cap ∧ o.cap ≤ maxLen ∧ (o.addr = none → o.data = [] ∧ o.cap = 0)
def OOp.bulk (o : OOp) : Nat := o.text.size + o.data.length + 6

theorem open_oops {H : Type} {enc : TypeId × Value → H} {W : World} {base : Nat} {v : Value} {d : DataW H} {p : List MemPlace}
    (hval : Value.okWide Try.prog W .any base 24 v) (h0 : DataW.Trod enc Try.prog W 0 (fun _ => true) true 24 v d p) (hsz : ∀ n ∈ d.weights Try.prog 24, n ≤ reachBytes) :
    ∃ A c, ∃ ops : List OOp, v = .slice A ops.length c ∧ Rd W (· < W.heap.size) A (ops.flatMap OOp.cells) ∧ (∀ o ∈ ops, o.good W) ∧ ops.length * 64 ≤ 140737488351232 ∧ (ops.map OOp.bulk).sum < Rows.uptoBulk d := by
  obtain ⟨A, c, xs, h1, h2, h3, h4, h5, _, h7, _⟩ := open_elems OOp.cells OOp.bulk (OOp.good W) 5 64 (by decide) Try.underlying24 (by kernel_rfl) (by kernel_rfl) (fun n cs' D Pl hx hl => by
    obtain ⟨ys, k, _, hD, _, hyl, hf⟩ := DataW.trod_struct Try.underlying33 hx
    match cs', hl, ys, hyl with
    | [v0, v1, v2, v3, v4], _, [y0, y1, y2, y3, y4], _ =>
      have i1 : Try.prog.cellsOf 3 = 1 := by kernel_rfl
      have j1 : Try.prog.cellsOf 2 = 1 := by kernel_rfl
      have s1 : Try.prog.cellsOf 9 = 1 := by kernel_rfl
      have b1 : Try.prog.cellsOf 23 = 1 := by kernel_rfl
      have g0 := hf 0 _ rfl
      have g1 := hf 1 _ rfl
      have g2 := hf 2 _ rfl
      have g3 := hf 3 _ rfl
      have g4 := hf 4 _ rfl
      simp [i1, j1, s1, b1] at g0 g1 g2 g3 g4
      obtain ⟨x0, e0, q0, w0⟩ := DataW.trod_int Try.underlying3 g0
      obtain ⟨x1, e1, q1, w1⟩ := DataW.trod_int Try.underlying3 g1
      obtain ⟨x2, e2, q2, w2⟩ := DataW.trod_int Try.underlying2 g2
      obtain ⟨x3, e3, q3, w3⟩ := DataW.trod_string Try.underlying9 g3
      obtain ⟨d4, p4⟩ := y4
      obtain ⟨A4, c4, bs, e4, r4, l4, m4, n4, k4⟩ := open_bytes_cell Try.underlying23 Try.underlying5 (by kernel_rfl) g4
      cases e0; cases e1; cases e2; cases e3; subst e4
      subst q0 q1 q2 q3
      refine ⟨⟨x0, x1, x2, x3, A4, c4, bs⟩, rfl, ⟨wf_i64 w0, wf_i64 w1, wf_i64 w2, w3, r4, l4, m4, n4⟩, ?_⟩
      have hD' : D = .agg [.lit (.int .i64 x0), .lit (.int .i64 x1), .lit (.int .i64 x2), .lit (.string x3.data.toList), d4] := congrArg Prod.fst hD
      rw [hD']
      simp only [Rows.uptoBulk, Rows.uptoBulkAll, OOp.bulk]
      have : x3.data.toList.length = x3.size := by rw [Array.length_toList]; rfl
      omega) hval h0 hsz
  refine ⟨A, c, xs, h1, h2, h3, ?_, h7⟩
  have : reachBytes = 140737488351232 := rfl
  omega

theorem Rd.oop {w : World} {F : Nat → Prop} {A : Option Addr} {l : List OOp} (h : Rd w F A (l.flatMap OOp.cells)) {j : Nat} (hj : j < l.length) :
    ∃ g o, A = some ⟨g, o, none⟩ ∧ F g ∧ w.cell? ⟨g, o + j * 5, none⟩ = some (.int .i64 (l[j]).kind) ∧ w.cell? ⟨g, o + j * 5 + 1, none⟩ = some (.int .i64 (l[j]).n) ∧ w.cell? ⟨g, o + j * 5 + 2, none⟩ = some (.int .i64 (l[j]).num) ∧
      w.cell? ⟨g, o + j * 5 + 3, none⟩ = some (.string (l[j]).text) ∧ w.cell? ⟨g, o + j * 5 + 4, none⟩ = some (.slice (l[j]).addr (l[j]).data.length (l[j]).cap) := by
  have h7 : ∀ x ∈ l, (OOp.cells x).length = 5 := fun _ _ => rfl
  rcases h with h | ⟨g, o, h, hF, hc⟩
  · have := congrArg List.length h
    rw [flat_length _ 5 _ h7, List.length_nil] at this
    omega
  · have at_ : ∀ k u, (l[j]).cells[k]? = some u → w.cell? ⟨g, o + j * 5 + k, none⟩ = some u := by
      intro k u hu
      have hk : k < 5 := (List.getElem?_eq_some_iff.1 hu).1
      rw [Nat.add_assoc]
      exact hc _ u (by rw [flat_get _ 5 _ h7 j k hj hk, hu])
    exact ⟨g, o, h, hF, at_ 0 _ rfl, at_ 1 _ rfl, at_ 2 _ rfl, at_ 3 _ rfl, at_ 4 _ rfl⟩

end Go.Proofs.Ytepligggofbegaa
