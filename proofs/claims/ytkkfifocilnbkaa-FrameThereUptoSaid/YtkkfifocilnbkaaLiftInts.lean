/-
  An argument that is a slice of ints.
-/
import Derived.Test.YtkkfifocilnbkaaLiftElems
namespace Go.Proofs.Ytkkfifocilnbkaa
open Go.ChangeShapes Go.WideShapes Go.ChangeAt Go.RowKit Go.Deep

theorem open_ints64 {H : Type} {enc : TypeId × Value → H} {W : World} {base : Nat} {v : Value} {d : DataW H} {p : List MemPlace}
    (hval : Value.okWide Try.prog W .any base 36 v) (h0 : DataW.Trod enc Try.prog W 0 (fun _ => true) true 36 v d p) (hsz : ∀ n ∈ d.weights Try.prog 36, n ≤ reachBytes) :
    ∃ A c, ∃ xs : List Int, v = .slice A xs.length c ∧ Rd W (· < W.heap.size) A (xs.map (Value.int .i64)) ∧ xs.length * 8 ≤ 140737488351232 := by
  obtain ⟨A, c, xs, h1, h2, h3, h4, h5, _⟩ := open_elems (fun x : Int => [Value.int .i64 x]) (fun _ => 0) (fun _ => True) 1 8 (by decide) Try.underlying36 (by kernel_rfl) (by kernel_rfl) (fun n cs' D Pl hx hl => by
    match cs', hl with
    | [v0], _ =>
      obtain ⟨x0, e0, q0, w0⟩ := DataW.trod_int Try.underlying3 hx
      cases e0
      exact ⟨x0, rfl, trivial, Nat.zero_le _⟩) hval h0 hsz
  have e : ∀ l : List Int, l.flatMap (fun x : Int => [Value.int .i64 x]) = l.map (Value.int .i64) := by
    intro l
    induction l with
    | nil => rfl
    | cons x l ih => rw [List.flatMap_cons, ih]; rfl
  refine ⟨A, c, xs, h1, ?_, ?_⟩
  · rw [e] at h2
    exact h2
  · have : reachBytes = 140737488351232 := rfl
    omega

end Go.Proofs.Ytkkfifocilnbkaa
