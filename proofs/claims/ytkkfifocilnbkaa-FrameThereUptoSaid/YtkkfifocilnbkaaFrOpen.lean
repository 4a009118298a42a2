/-
  Arguments of layer 04: a frame, a slice of frames, a script of steps.
-/
import Derived.Test.YtkkfifocilnbkaaLiftCell
namespace Go.Proofs.Ytkkfifocilnbkaa
open Go.ChangeShapes Go.WideShapes Go.ChangeAt Go.RowKit Go.Deep

/-- A field that is a slice of octets, with the bound on its capacity. -/
theorem open_bytes_cellw {H : Type} {enc : TypeId × Value → H} {W : World} {v : Value} {d : DataW H} {p : List MemPlace} {t e : TypeId} {n : Nat} (ht : Try.prog.underlying t = some (.slice e)) (he : Try.prog.underlying e = some (.int .u8)) (hce : Try.prog.cellsOf e = 1) (hbe : Try.prog.bytesOf e = 1)
    (hf : DataW.trod enc Try.prog W 0 (fun _ => true) true n t [v] = some (d, p)) (hsz : ∀ n ∈ d.weights Try.prog t, n ≤ reachBytes) :
    ∃ A c bs, v = .slice A bs.length c ∧ RB W (· < W.heap.size) A bs ∧ bs.length ≤ c ∧ c ≤ 140737488351232 ∧ (A = none → bs = [] ∧ c = 0) ∧ bs.length < Rows.uptoBulk d := by
  obtain ⟨A, c, bs, h1, h2, h3, h4, h5, h6⟩ := open_bytes_cell ht he hce hf
  refine ⟨A, c, bs, h1, h2, h3, ?_, h5, h6⟩
  rcases open_ints ht he hce hf with ⟨hcs, _⟩ | ⟨x, len, cap, zs, hcs, _, hl, hm, hz, hx, hcell, hwz⟩
  · simp at hcs
    rw [hcs] at h1
    injection h1 with _ _ h1
    omega
  · simp at hcs
    rw [hcs] at h1
    injection h1 with _ _ h1
    have hzl : zs.length = cap := by simpa using hz
    have hd : d = .slice (lits .u8 (zs.take len)) (lits .u8 (zs.drop len)) := congrArg Prod.fst hx
    have h7 := hsz ((len + (cap - len)) * 1) (by
      rw [hd, DataW.weights, ht]
      simp only [lits, List.length_map, List.length_take, List.length_drop, hbe, hzl]
      rw [Nat.min_eq_left hl]
      exact List.mem_cons_self)
    have h8 : reachBytes = 140737488351232 := rfl
    omega

structure Fr where
  t : Int
  ch : Int
  addr : Option Addr
  cap : Nat
  pl : List UInt8
deriving Inhabited

def Fr.cells (f : Fr) : List Value := [.int .i64 f.t, .int .i64 f.ch, .slice f.addr f.pl.length f.cap]
def Fr.good (W : World) (f : Fr) : Prop := (-9223372036854775808 ≤ f.t ∧ f.t ≤ 9223372036854775807) ∧ (-9223372036854775808 ≤ f.ch ∧ f.ch ≤ 9223372036854775807) ∧ RB W (· < W.heap.size) f.addr f.pl ∧ f.pl.length ≤ f.cap ∧ f.cap ≤ maxLen ∧ (f.addr = none → f.pl = [] ∧ f.cap = 0)
def Fr.bulk (f : Fr) : Nat := f.pl.length + 4

theorem open_frame {H : Type} {enc : TypeId × Value → H} {W : World} {base : Nat} {v : Value} {d : DataW H} {p : List MemPlace}
    (hval : Value.okWide Try.prog W .any base 25 v) (h0 : DataW.Trod enc Try.prog W 0 (fun _ => true) true 25 v d p) (hsz : ∀ n ∈ d.weights Try.prog 25, n ≤ reachBytes) :
    ∃ f : Fr, v = .agg #[.int .i64 f.t, .int .i64 f.ch, .slice f.addr f.pl.length f.cap] ∧ f.good W ∧ f.cap ≤ 140737488351232 := by
  obtain ⟨cs, rfl, hcs⟩ := okWide_struct Try.underlying25 hval
  obtain ⟨fuel, hf⟩ := h0
  obtain ⟨ys, k, _, hD, _, hyl, hf⟩ := DataW.trod_struct Try.underlying25 hf
  have hc3 : Try.prog.cellsOf 25 = 3 := by kernel_rfl
  rw [hc3] at hcs
  obtain ⟨l, rfl⟩ : ∃ l, cs = l.toArray := ⟨cs.toList, by simp⟩
  match l, hcs, ys, hyl with
  | [v0, v1, v2], _, [y0, y1, y2], _ =>
    have i1 : Try.prog.cellsOf 3 = 1 := by kernel_rfl
    have b1 : Try.prog.cellsOf 23 = 1 := by kernel_rfl
    have g0 := hf 0 _ rfl
    have g1 := hf 1 _ rfl
    have g2 := hf 2 _ rfl
    simp [i1, b1, Value.cells] at g0 g1 g2
    obtain ⟨x0, e0, q0, w0⟩ := DataW.trod_int Try.underlying3 g0
    obtain ⟨x1, e1, q1, w1⟩ := DataW.trod_int Try.underlying3 g1
    obtain ⟨d2, p2⟩ := y2
    cases e0; cases e1
    subst q0 q1
    have hD' : d = .agg [.lit (.int .i64 x0), .lit (.int .i64 x1), d2] := congrArg Prod.fst hD
    have hs2 : ∀ n ∈ d2.weights Try.prog 23, n ≤ reachBytes := by
      have e : (DataW.agg [.lit (.int .i64 x0), .lit (.int .i64 x1), d2] : DataW H).weights Try.prog 25 = DataW.weightsEach Try.prog [3, 3, 23] [.lit (.int .i64 x0), .lit (.int .i64 x1), d2] := by
        rw [DataW.weights, Try.underlying25]
        rfl
      rw [hD', e] at hsz
      exact (weights_head (weights_head (weights_head hsz).2).2).1
    obtain ⟨A4, c4, bs, e4, r4, l4, m4, n4, k4⟩ := open_bytes_cellw Try.underlying23 Try.underlying5 (by kernel_rfl) (by kernel_rfl) g2 hs2
    subst e4
    exact ⟨⟨x0, x1, A4, c4, bs⟩, rfl, ⟨wf_i64 w0, wf_i64 w1, r4, l4, Nat.le_trans m4 (by decide), n4⟩, m4⟩

theorem open_frames {H : Type} {enc : TypeId × Value → H} {W : World} {base : Nat} {v : Value} {d : DataW H} {p : List MemPlace}
    (hval : Value.okWide Try.prog W .any base 35 v) (h0 : DataW.Trod enc Try.prog W 0 (fun _ => true) true 35 v d p) (hsz : ∀ n ∈ d.weights Try.prog 35, n ≤ reachBytes) :
    ∃ A c, ∃ fs : List Fr, v = .slice A fs.length c ∧ Rd W (· < W.heap.size) A (fs.flatMap Fr.cells) ∧ (∀ o ∈ fs, o.good W) ∧ fs.length * 40 ≤ 140737488351232 ∧ (fs.map Fr.bulk).sum < Rows.uptoBulk d := by
  obtain ⟨A, c, xs, h1, h2, h3, h4, h5, _, h7, _⟩ := open_elems Fr.cells Fr.bulk (Fr.good W) 3 40 (by decide) Try.underlying35 (by kernel_rfl) (by kernel_rfl) (fun n cs' D Pl hx hl => by
    obtain ⟨ys, k, _, hD, _, hyl, hf⟩ := DataW.trod_struct Try.underlying25 hx
    match cs', hl, ys, hyl with
    | [v0, v1, v2], _, [y0, y1, y2], _ =>
      have i1 : Try.prog.cellsOf 3 = 1 := by kernel_rfl
      have b1 : Try.prog.cellsOf 23 = 1 := by kernel_rfl
      have g0 := hf 0 _ rfl
      have g1 := hf 1 _ rfl
      have g2 := hf 2 _ rfl
      simp [i1, b1] at g0 g1 g2
      obtain ⟨x0, e0, q0, w0⟩ := DataW.trod_int Try.underlying3 g0
      obtain ⟨x1, e1, q1, w1⟩ := DataW.trod_int Try.underlying3 g1
      obtain ⟨d2, p2⟩ := y2
      obtain ⟨A4, c4, bs, e4, r4, l4, m4, n4, k4⟩ := open_bytes_cell Try.underlying23 Try.underlying5 (by kernel_rfl) g2
      cases e0; cases e1; subst e4
      subst q0 q1
      refine ⟨⟨x0, x1, A4, c4, bs⟩, rfl, ⟨wf_i64 w0, wf_i64 w1, r4, l4, m4, n4⟩, ?_⟩
      have hD' : D = .agg [.lit (.int .i64 x0), .lit (.int .i64 x1), d2] := congrArg Prod.fst hD
      rw [hD']
      simp only [Rows.uptoBulk, Rows.uptoBulkAll, Fr.bulk]
      omega) hval h0 hsz
  refine ⟨A, c, xs, h1, h2, h3, ?_, h7⟩
  have : reachBytes = 140737488351232 := rfl
  omega

end Go.Proofs.Ytkkfifocilnbkaa
