/-
  Scripts of calls on a book.
-/
import Derived.Test.YtchpkonlfjbkeaaBook8
import Derived.Test.YtchpkonlfjbkeaaLiftElems
namespace Go.Proofs.Ytchpkonlfjbkeaa
open Go.ChangeShapes Go.WideShapes Go.ChangeAt Go.RowKit Go.Deep

structure BOp where
  kind : Int
  tag : Int
  multiple : Bool
  hold : Bool
  queue : ByteArray
  seq : Int
  cons : Int
deriving Inhabited

def BOp.cells (o : BOp) : List Value := [.int .i64 o.kind, .int .i64 o.tag, .bool o.multiple, .bool o.hold, .string o.queue, .int .i64 o.seq, .int .i64 o.cons]
def BOp.good (o : BOp) : Prop := -9223372036854775808 ≤ o.kind ∧ o.kind ≤ 9223372036854775807 ∧ -9223372036854775808 ≤ o.cons ∧ o.cons ≤ 9223372036854775807

theorem open_bops {H : Type} {enc : TypeId × Value → H} {W : World} {base : Nat} {v : Value} {d : DataW H} {p : List MemPlace}
    (hval : Value.okWide Try.prog W .any base 22 v) (h0 : DataW.Trod enc Try.prog W 0 (fun _ => true) true 22 v d p) (hsz : ∀ n ∈ d.weights Try.prog 22, n ≤ reachBytes) :
    ∃ A c, ∃ ops : List BOp, v = .slice A ops.length c ∧ Rd W (· < W.heap.size) A (ops.flatMap BOp.cells) ∧ (∀ o ∈ ops, o.good) ∧ ops.length * 56 ≤ 140737488351232 := by
  obtain ⟨A, c, xs, h1, h2, h3, h4, h5, _⟩ := open_elems BOp.cells (fun _ => 0) BOp.good 7 56 (by decide) Try.underlying22 (by kernel_rfl) (by kernel_rfl) (fun n cs' D Pl hx hl => by
    obtain ⟨ys, k, _, _, _, hyl, hf⟩ := DataW.trod_struct Try.underlying32 hx
    match cs', hl, ys, hyl with
    | [v0, v1, v2, v3, v4, v5, v6], _, [y0, y1, y2, y3, y4, y5, y6], _ =>
      have i1 : Try.prog.cellsOf 3 = 1 := by kernel_rfl
      have b1 : Try.prog.cellsOf 4 = 1 := by kernel_rfl
      have s1 : Try.prog.cellsOf 9 = 1 := by kernel_rfl
      have g0 := hf 0 _ rfl
      have g1 := hf 1 _ rfl
      have g2 := hf 2 _ rfl
      have g3 := hf 3 _ rfl
      have g4 := hf 4 _ rfl
      have g5 := hf 5 _ rfl
      have g6 := hf 6 _ rfl
      simp [i1, b1, s1] at g0 g1 g2 g3 g4 g5 g6
      obtain ⟨x0, e0, _, w0⟩ := DataW.trod_int Try.underlying3 g0
      obtain ⟨x1, e1, _⟩ := DataW.trod_int Try.underlying3 g1
      obtain ⟨x2, e2, _⟩ := DataW.trod_bool Try.underlying4 g2
      obtain ⟨x3, e3, _⟩ := DataW.trod_bool Try.underlying4 g3
      obtain ⟨x4, e4, _⟩ := DataW.trod_string Try.underlying9 g4
      obtain ⟨x5, e5, _⟩ := DataW.trod_int Try.underlying3 g5
      obtain ⟨x6, e6, _, w6⟩ := DataW.trod_int Try.underlying3 g6
      cases e0; cases e1; cases e2; cases e3; cases e4; cases e5; cases e6
      exact ⟨⟨x0, x1, x2, x3, x4, x5, x6⟩, rfl, ⟨(wf_i64 w0).1, (wf_i64 w0).2, (wf_i64 w6).1, (wf_i64 w6).2⟩, Nat.zero_le _⟩) hval h0 hsz
  refine ⟨A, c, xs, h1, h2, h3, ?_⟩
  have : reachBytes = 140737488351232 := rfl
  omega

theorem Rd.bop {w : World} {F : Nat → Prop} {A : Option Addr} {l : List BOp} (h : Rd w F A (l.flatMap BOp.cells)) {j : Nat} (hj : j < l.length) :
    ∃ g o, A = some ⟨g, o, none⟩ ∧ F g ∧ w.cell? ⟨g, o + j * 7, none⟩ = some (.int .i64 (l[j]).kind) ∧ w.cell? ⟨g, o + j * 7 + 1, none⟩ = some (.int .i64 (l[j]).tag) ∧ w.cell? ⟨g, o + j * 7 + 2, none⟩ = some (.bool (l[j]).multiple) ∧
      w.cell? ⟨g, o + j * 7 + 3, none⟩ = some (.bool (l[j]).hold) ∧ w.cell? ⟨g, o + j * 7 + 4, none⟩ = some (.string (l[j]).queue) ∧ w.cell? ⟨g, o + j * 7 + 5, none⟩ = some (.int .i64 (l[j]).seq) ∧ w.cell? ⟨g, o + j * 7 + 6, none⟩ = some (.int .i64 (l[j]).cons) := by
  have h7 : ∀ x ∈ l, (BOp.cells x).length = 7 := fun _ _ => rfl
  rcases h with h | ⟨g, o, h, hF, hc⟩
  · have := congrArg List.length h
    rw [flat_length _ 7 _ h7, List.length_nil] at this
    omega
  · have at_ : ∀ k u, (l[j]).cells[k]? = some u → w.cell? ⟨g, o + j * 7 + k, none⟩ = some u := by
      intro k u hu
      have hk : k < 7 := (List.getElem?_eq_some_iff.1 hu).1
      rw [Nat.add_assoc]
      exact hc _ u (by rw [flat_get _ 7 _ h7 j k hj hk, hu])
    exact ⟨g, o, h, hF, at_ 0 _ rfl, at_ 1 _ rfl, at_ 2 _ rfl, at_ 3 _ rfl, at_ 4 _ rfl, at_ 5 _ rfl, at_ 6 _ rfl⟩

end Go.Proofs.Ytchpkonlfjbkeaa
