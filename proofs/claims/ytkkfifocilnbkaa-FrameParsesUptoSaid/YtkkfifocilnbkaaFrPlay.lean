/-
  A Parser and the document's Parser side by side.
-/
import Derived.Test.YtkkfifocilnbkaaRefNext
import Derived.Test.YtkkfifocilnbkaaNext2
import Derived.Test.YtkkfifocilnbkaaFrPack
import Derived.Test.YtkkfifocilnbkaaFrOpen
namespace Go.Proofs.Ytkkfifocilnbkaa
open Go.RowKit

/-- The Parser at p, the document's at m; Z: blocks that are neither's. -/
def FPlay (w0 : World) (Z : Nat → Prop) (w : World) (p : Nat) (bs : List UInt8) (mx : Int) (m : Nat) (bs2 : List UInt8) (mx2 : Int) : Prop :=
  ∃ FP FM : Nat → Prop, (∀ k, FP k → FM k → False) ∧ (∀ k, Z k → FP k ∨ FM k → False) ∧ (∀ k, FP k ∨ FM k ∨ Z k → w0.heap.size ≤ k ∧ k < w.heap.size) ∧
    PAt w FP p bs mx ∧ RPAt w FM m bs2 mx2 ∧ Kept noneS w0 w

section
variable {w0 w w1 : World} {Z : Nat → Prop} {p m : Nat} {bs bs2 : List UInt8} {mx mx2 : Int}

theorem FPlay.kept (h : FPlay w0 Z w p bs mx m bs2 mx2) : Kept noneS w0 w := h.choose_spec.choose_spec.2.2.2.2.2
/-- A step that turns nothing but Z, and new blocks. -/
theorem FPlay.other {S : Nat → Prop} (h : FPlay w0 Z w p bs mx m bs2 mx2) (k : Kept S w w1) (hS : ∀ i, i < w.heap.size → S i → Z i) : FPlay w0 Z w1 p bs mx m bs2 mx2 := by
  obtain ⟨FP, FM, h1, h2, h3, h4, h5, h6⟩ := h
  refine ⟨FP, FM, h1, h2, fun i hi => ⟨(h3 i hi).1, Nat.lt_of_lt_of_le (h3 i hi).2 k.size⟩, h4.keep k (fun i a b c => h2 i (hS i a c) (.inl b)), h5.keep k (fun i a b c => h2 i (hS i a c) (.inr b)), h6.trans2 k (fun i a b => ?_)⟩
  have := (h3 i (.inr (.inr (hS i (Nat.lt_of_lt_of_le a h6.size) b)))).1
  exact absurd a (by omega)
theorem FPlay.still (h : FPlay w0 Z w p bs mx m bs2 mx2) (k : Kept noneS w w1) : FPlay w0 Z w1 p bs mx m bs2 mx2 := h.other k fun _ _ q => q.elim
/-- New blocks join Z. -/
theorem FPlay.more {Z' : Nat → Prop} (h : FPlay w0 Z w p bs mx m bs2 mx2) (k : Kept noneS w w1) (hZ : ∀ i, Z' i → Z i ∨ (w.heap.size ≤ i ∧ i < w1.heap.size)) : FPlay w0 Z' w1 p bs mx m bs2 mx2 := by
  obtain ⟨FP, FM, h1, h2, h3, h4, h5, h6⟩ := h.still k
  obtain ⟨FP', FM', g1, g2, g3, g4, g5, g6⟩ := h
  refine ⟨FP', FM', g1, fun i a b => ?_, fun i a => ?_, g4.keep k (fun _ _ _ q => q.elim), g5.keep k (fun _ _ _ q => q.elim), h6⟩
  · rcases hZ i a with c | c
    · exact g2 i c b
    · have := (g3 i (by rcases b with b | b; exact .inl b; exact .inr (.inl b))).2
      omega
  · rcases a with a | a | a
    · exact ⟨(g3 i (.inl a)).1, Nat.lt_of_lt_of_le (g3 i (.inl a)).2 k.size⟩
    · exact ⟨(g3 i (.inr (.inl a))).1, Nat.lt_of_lt_of_le (g3 i (.inr (.inl a))).2 k.size⟩
    · rcases hZ i a with c | c
      · exact ⟨(g3 i (.inr (.inr c))).1, Nat.lt_of_lt_of_le (g3 i (.inr (.inr c))).2 k.size⟩
      · exact ⟨by have := g6.size; omega, c.2⟩

theorem PAt.mono {F G : Nat → Prop} (h : PAt w F p bs mx) (hF : ∀ k, k < w.heap.size → F k → G k) : PAt w G p bs mx := by
  obtain ⟨a, A, n, c, b1, b2⟩ := h
  exact ⟨hF p b1.lt a, A, n, c, b1, b2.mono hF⟩
theorem RPAt.mono {F G : Nat → Prop} (h : RPAt w F p bs mx) (hF : ∀ k, k < w.heap.size → F k → G k) : RPAt w G p bs mx := by
  obtain ⟨a, A, c, b1, b2⟩ := h
  exact ⟨hF p b1.lt a, A, c, b1, Own.mono b2 hF⟩

theorem FPlay.stepP (h : FPlay w0 Z w p bs mx m bs2 mx2) : ∃ FP : Nat → Prop, PAt w FP p bs mx ∧ (∀ k, FP k → w0.heap.size ≤ k ∧ k < w.heap.size ∧ ¬ Z k) ∧
    ∀ (F' Z' : Nat → Prop) (W1 : World) (bs' : List UInt8) (mx' : Int), PAt W1 F' p bs' mx' → Kept F' w W1 → (∀ k, F' k → FP k ∨ w.heap.size ≤ k) → (∀ k, Z' k → Z k ∨ (w.heap.size ≤ k ∧ k < W1.heap.size ∧ ¬ F' k)) → FPlay w0 Z' W1 p bs' mx' m bs2 mx2 := by
  obtain ⟨FP, FM, h1, h2, h3, h4, h5, h6⟩ := h
  refine ⟨FP, h4, fun k a => ⟨(h3 k (.inl a)).1, (h3 k (.inl a)).2, fun z => h2 k z (.inl a)⟩, fun F' Z' W1 bs' mx' hP hk hF hZ => ?_⟩
  have d : ∀ k, k < w.heap.size → FM k → F' k → False := fun k a b c => by
    rcases hF k c with c | c
    · exact h1 k c b
    · omega
  refine ⟨fun k => F' k ∧ k < W1.heap.size, FM, fun k a b => d k (h3 k (.inr (.inl b))).2 b a.1, fun k a b => ?_, fun k a => ?_, hP.mono (fun k x y => ⟨y, x⟩), h5.keep hk d, h6.trans2 hk (fun k a b => ?_)⟩
  · rcases hZ k a with c | c
    · rcases b with b | b
      · rcases hF k b.1 with e | e
        · exact h2 k c (.inl e)
        · have := (h3 k (.inr (.inr c))).2
          omega
      · exact h2 k c (.inr b)
    · rcases b with b | b
      · exact c.2.2 b.1
      · have := (h3 k (.inr (.inl b))).2
        omega
  · have hs := hk.size
    have h0 := h6.size
    rcases a with a | a | a
    · rcases hF k a.1 with c | c
      · have := h3 k (.inl c); omega
      · omega
    · have := h3 k (.inr (.inl a)); omega
    · rcases hZ k a with c | c
      · have := h3 k (.inr (.inr c)); omega
      · omega
  · rcases hF k b with c | c
    · have := (h3 k (.inl c)).1
      exact absurd a (by omega)
    · have := h6.size
      exact absurd a (by omega)

theorem FPlay.stepM (h : FPlay w0 Z w p bs mx m bs2 mx2) : ∃ FM : Nat → Prop, RPAt w FM m bs2 mx2 ∧ (∀ k, FM k → w0.heap.size ≤ k ∧ k < w.heap.size ∧ ¬ Z k) ∧
    ∀ (F' : Nat → Prop) (W1 : World) (bs' : List UInt8) (mx' : Int), RPAt W1 F' m bs' mx' → Kept F' w W1 → (∀ k, F' k → FM k ∨ w.heap.size ≤ k) → FPlay w0 Z W1 p bs mx m bs' mx' := by
  obtain ⟨FP, FM, h1, h2, h3, h4, h5, h6⟩ := h
  refine ⟨FM, h5, fun k a => ⟨(h3 k (.inr (.inl a))).1, (h3 k (.inr (.inl a))).2, fun z => h2 k z (.inr a)⟩, fun F' W1 bs' mx' hP hk hF => ?_⟩
  have d : ∀ k, k < w.heap.size → FP k → F' k → False := fun k a b c => by
    rcases hF k c with c | c
    · exact h1 k b c
    · omega
  have hPo : RPAt W1 (fun k => F' k ∧ k < W1.heap.size) m bs' mx' := by
    obtain ⟨a, A, c, b1, b2⟩ := hP
    exact ⟨⟨a, b1.lt⟩, A, c, b1, Own.mono b2 (fun k x y => ⟨y, x⟩)⟩
  refine ⟨FP, fun k => F' k ∧ k < W1.heap.size, fun k a b => d k (h3 k (.inl a)).2 a b.1, fun k a b => ?_, fun k a => ?_, h4.keep hk d, hPo, h6.trans2 hk (fun k a b => ?_)⟩
  · rcases b with b | b
    · exact h2 k a (.inl b)
    · rcases hF k b.1 with e | e
      · exact h2 k a (.inr e)
      · have := (h3 k (.inr (.inr a))).2
        omega
  · have hs := hk.size
    have h0 := h6.size
    rcases a with a | a | a
    · have := h3 k (.inl a); omega
    · rcases hF k a.1 with c | c
      · have := h3 k (.inr (.inl c)); omega
      · omega
    · have := h3 k (.inr (.inr a)); omega
  · rcases hF k b with c | c
    · have := (h3 k (.inr (.inl c))).1
      exact absurd a (by omega)
    · have := h6.size
      exact absurd a (by omega)
end

/-- A step of the script. -/
structure Stp where
  kind : Int
  max : Int
  addr : Option Addr
  cap : Nat
  data : List UInt8
deriving Inhabited

def Stp.cells (f : Stp) : List Value := [.int .i64 f.kind, .int .i64 f.max, .slice f.addr f.data.length f.cap]
def Stp.good (W : World) (f : Stp) : Prop := (-9223372036854775808 ≤ f.kind ∧ f.kind ≤ 9223372036854775807) ∧ (-9223372036854775808 ≤ f.max ∧ f.max ≤ 9223372036854775807) ∧ RB W (· < W.heap.size) f.addr f.data ∧ f.data.length ≤ f.cap ∧ f.cap ≤ maxLen ∧ (f.addr = none → f.data = [] ∧ f.cap = 0)
def Stp.bulk (f : Stp) : Nat := f.data.length + 4

theorem Rd.stp {w : World} {F : Nat → Prop} {A : Option Addr} {l : List Stp} (h : Rd w F A (l.flatMap Stp.cells)) {j : Nat} (hj : j < l.length) :
    ∃ g o, A = some ⟨g, o, none⟩ ∧ F g ∧ w.cell? ⟨g, o + j * 3, none⟩ = some (.int .i64 (l[j]).kind) ∧ w.cell? ⟨g, o + j * 3 + 1, none⟩ = some (.int .i64 (l[j]).max) ∧ w.cell? ⟨g, o + j * 3 + 2, none⟩ = some (.slice (l[j]).addr (l[j]).data.length (l[j]).cap) := by
  have h7 : ∀ x ∈ l, (Stp.cells x).length = 3 := fun _ _ => rfl
  rcases h with h | ⟨g, o, h, hF, hc⟩
  · have := congrArg List.length h
    rw [flat_length _ 3 _ h7, List.length_nil] at this
    omega
  · have at_ : ∀ k u, (l[j]).cells[k]? = some u → w.cell? ⟨g, o + j * 3 + k, none⟩ = some u := by
      intro k u hu
      have hk : k < 3 := (List.getElem?_eq_some_iff.1 hu).1
      rw [Nat.add_assoc]
      exact hc _ u (by rw [flat_get _ 3 _ h7 j k hj hk, hu])
    exact ⟨g, o, h, hF, at_ 0 _ rfl, at_ 1 _ rfl, at_ 2 _ rfl⟩

open Go.ChangeShapes Go.WideShapes Go.ChangeAt Go.Deep in
theorem open_steps {H : Type} {enc : TypeId × Value → H} {W : World} {base : Nat} {v : Value} {d : DataW H} {p : List MemPlace}
    (hval : Value.okWide Try.prog W .any base 47 v) (h0 : DataW.Trod enc Try.prog W 0 (fun _ => true) true 47 v d p) (hsz : ∀ n ∈ d.weights Try.prog 47, n ≤ reachBytes) :
    ∃ A c, ∃ fs : List Stp, v = .slice A fs.length c ∧ Rd W (· < W.heap.size) A (fs.flatMap Stp.cells) ∧ (∀ o ∈ fs, o.good W) ∧ fs.length * 40 ≤ 140737488351232 ∧ (fs.map Stp.bulk).sum < Rows.uptoBulk d := by
  obtain ⟨A, c, xs, h1, h2, h3, h4, h5, _, h7, _⟩ := open_elems Stp.cells Stp.bulk (Stp.good W) 3 40 (by decide) Try.underlying47 (by kernel_rfl) (by kernel_rfl) (fun n cs' D Pl hx hl => by
    obtain ⟨ys, k, _, hD, _, hyl, hf⟩ := DataW.trod_struct Try.underlying52 hx
    match cs', hl, ys, hyl with
    | [v0, v1, v2], _, [y0, y1, y2], _ =>
      have i1 : Try.prog.cellsOf 3 = 1 := by kernel_rfl
      have b1 : Try.prog.cellsOf 23 = 1 := by kernel_rfl
      have g0 := hf 0 _ rfl
      have g1 := hf 1 _ rfl
      have g2 := hf 2 _ rfl
      simp [i1, b1] at g0 g1 g2
      obtain ⟨x0, e0, q0, w0⟩ := DataW.trod_int Try.underlying3 g0
      obtain ⟨x1, e1, q1, w1⟩ := DataW.trod_int Try.underlying3 g1
      obtain ⟨d2, p2⟩ := y2
      obtain ⟨A4, c4, bs, e4, r4, l4, m4, n4, k4⟩ := open_bytes_cell Try.underlying23 Try.underlying5 (by kernel_rfl) g2
      cases e0; cases e1; subst e4
      subst q0 q1
      refine ⟨⟨x0, x1, A4, c4, bs⟩, rfl, ⟨wf_i64 w0, wf_i64 w1, r4, l4, m4, n4⟩, ?_⟩
      have hD' : D = .agg [.lit (.int .i64 x0), .lit (.int .i64 x1), d2] := congrArg Prod.fst hD
      rw [hD']
      simp only [Rows.uptoBulk, Rows.uptoBulkAll, Stp.bulk]
      omega) hval h0 hsz
  refine ⟨A, c, xs, h1, h2, h3, ?_, h7⟩
  have : reachBytes = 140737488351232 := rfl
  omega

end Go.Proofs.Ytkkfifocilnbkaa
