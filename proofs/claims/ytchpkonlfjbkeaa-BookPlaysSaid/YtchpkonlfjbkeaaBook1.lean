/-
  Slips and books: words, and the contracts of book.New, Next, Give.
-/
import Derived.Test.YtchpkonlfjbkeaaRows
import Derived.Test.YtchpkonlfjbkeaaMem
namespace Go.Proofs.Ytchpkonlfjbkeaa
open Go.RowKit

structure Slip where
  tag : Int
  queue : ByteArray
  seq : Int
  cons : Int
  held : Bool
deriving DecidableEq

def Slip.cells (s : Slip) : List Value := [.int .i64 s.tag, .string s.queue, .int .i64 s.seq, .int .i64 s.cons, .bool s.held]
def slipRow (l : List Slip) : List Value := l.flatMap Slip.cells
theorem slipRow_length (l : List Slip) : (slipRow l).length = l.length * 5 := by
  induction l with
  | nil => rfl
  | cons s l ih => simp only [slipRow, List.flatMap_cons, List.length_append, List.length_cons] at ih ⊢; rw [ih]; simp [Slip.cells]; omega
theorem slipRow_append (l r : List Slip) : slipRow (l ++ r) = slipRow l ++ slipRow r := by simp [slipRow]
theorem slipRow_get (l : List Slip) (i k : Nat) (hi : i < l.length) (hk : k < 5) : (slipRow l)[i * 5 + k]? = (l[i]).cells[k]? := by
  induction l generalizing i with
  | nil => simp at hi
  | cons s l ih =>
    have h5 : s.cells.length = 5 := rfl
    cases i with
    | zero =>
      simp only [slipRow, List.flatMap_cons, Nat.zero_mul, Nat.zero_add, List.getElem_cons_zero]
      rw [List.getElem?_append_left (by omega)]
    | succ i =>
      simp only [slipRow, List.flatMap_cons, List.getElem_cons_succ]
      rw [List.getElem?_append_right (by omega), h5, show (i + 1) * 5 + k - 5 = i * 5 + k by omega]
      exact ih i (by simpa using hi)

theorem infoSlip : (Try.prog.info? 29).map (fun i => (i.zero, i.size, i.bytes)) = some (some (.agg #[.int .i64 0, .string .empty, .int .i64 0, .int .i64 0, .bool false]), 5, 48) := by kernel_rfl

/-- A book at block p: its slips, the last tag. -/
def BookAt (w : World) (F : Nat → Prop) (p : Nat) (l : List Slip) (last : Int) : Prop :=
  ∃ sv, Blk w p 48 #[sv, .int .i64 last] ∧ Own w 29 5 F sv l.length (slipRow l) ∧ F p

theorem BookAt.keep {w w' : World} {F S : Nat → Prop} {p : Nat} {l : List Slip} {last : Int} (h : BookAt w F p l last) (hk : Kept S w w') (hd : ∀ k, k < w.heap.size → F k → S k → False) : BookAt w' F p l last := by
  obtain ⟨sv, h1, h2, h3⟩ := h
  exact ⟨sv, h1.keep hk (hd p h1.lt h3), h2.keep hk hd, h3⟩
theorem BookAt.still {w w' : World} {F : Nat → Prop} {p : Nat} {l : List Slip} {last : Int} (h : BookAt w F p l last) (hk : Kept noneS w w') : BookAt w' F p l last := h.keep hk fun _ _ _ q => q.elim

theorem bookNew (w : World) : Calls Try.prog 7 #[] w fun e w' => e = .returned (.pointer (some ⟨w.heap.size, 0, none⟩)) ∧ BookAt w' (w.heap.size ≤ ·) w.heap.size [] 0 ∧ Kept noneS w w' := by
  go_enter Try.func7, Try.ntmps7
  go_wp2
  go_ret
  exact ⟨rfl, ⟨_, Blk.new _ _ _, Own.nil _ _ _ _, Nat.le_refl _⟩, (Kept.refl _ _).alloc _⟩

set_option maxHeartbeats 400000 in
theorem bookNext (w : World) (F : Nat → Prop) (p : Nat) (l : List Slip) (last : Int) (h : BookAt w F p l last) (h0 : 0 ≤ last) (h1 : last < 9223372036854775807) :
    Calls Try.prog 20 #[.pointer (some ⟨p, 0, none⟩)] w fun e w' => e = .returned (.int .i64 (last + 1)) ∧ BookAt w' F p l (last + 1) ∧ Kept (· = p) w w' := by
  obtain ⟨sv, hblk, hown, hp⟩ := h
  have c1 : w.cell? ⟨p, 1, none⟩ = some (.int .i64 last) := hblk.cell 1
  have f1 := hblk.frozen 1
  have HB := Lib.hid hblk
  have HO := Lib.hid hown
  clear hblk hown
  go_enter Try.func20, Try.ntmps20
  go_wp2
  go_ret
  exact ⟨rfl, ⟨sv, HB.out.set_ 1 _, HO.out.far (HO.out.ne_blk HB.out (by decide)) _, hp⟩, (Kept.refl (· = p) w).setCell (p := ⟨p, 1, none⟩) (fun _ => rfl) _⟩

theorem cells_one (s : Slip) : ∀ u ∈ s.cells, u.oneCell' = true := by
  intro u hu
  simp [Slip.cells] at hu
  rcases hu with rfl | rfl | rfl | rfl | rfl <;> rfl

section
variable {w : World} {ops : Array Oper} {rest : List Oper} {o : Oper} {a : Act} {Q : Exit → Act → World → Prop} {K : Act → World → Prop} {E : Prop}
/-- append of one slip. -/
theorem wpList_appSl (hgd : o.guard = none) (s x : Operand) (ho : o.op = .call { callee := .builtin .append, args := #[s, x], argTypes := #[27, 27] })
    (F : Nat → Prop) (v : Value) (l : List Slip) (hs : a.eval s = v) (hown : Own w 29 5 F v l.length (slipRow l)) (g : Nat) (t : Slip) (hx : a.eval x = .slice (some ⟨g, 0, none⟩) 1 1) (hc : ∀ k u, t.cells[k]? = some u → w.cell? ⟨g, k, none⟩ = some u)
    (hl : (l.length + 1) * 48 ≤ 140737488355328) (hF : F w.heap.size)
    (h : ∀ A' c' w', Own w' 29 5 F (.slice A' (l.length + 1) c') (l.length + 1) (slipRow (l ++ [t])) → Kept (ownS v) w w' → wpList Try.prog ops Q rest (a.put o.dst (.slice A' (l.length + 1) c')) w') : wpList Try.prog ops Q (o :: rest) a w := by
  obtain ⟨i0, hi, hz0, hz1, hz2⟩ := info_parts infoSlip
  refine wpList_append_Own w hgd s x 27 ho 29 i0 _ 5 48 Try.underlying27 hi hz0 hz1 hz2 rfl (by decide) F (fun _ => True) v l.length (slipRow l) hs hown (some ⟨g, 0, none⟩) 1 1 t.cells hx rfl ?_ (cells_one t) (by unfold maxLen; omega) hl ?_
  · refine .inr ⟨g, 0, rfl, trivial, fun j u hj => ?_⟩
    rw [Nat.zero_add]
    exact hc j u hj
  · intro v' w' h1 h2
    have h3 := h1.mono (G := F) (fun k _ q => q.elim id fun q => q ▸ hF)
    obtain ⟨A', c', rfl, _⟩ := Own.form h3
    refine h A' c' w' ?_ h2
    rw [slipRow_append]
    simpa [slipRow] using h3
end

theorem cells_new (w : World) (s : Slip) (t : TypeId) : ∀ k u, s.cells[k]? = some u → (w.alloc (.cells #[.int .i64 s.tag, .string s.queue, .int .i64 s.seq, .int .i64 s.cons, .bool s.held] t)).cell? ⟨w.heap.size, k, none⟩ = some u := by
  intro k u hu
  have h := (Blk.new w t #[.int .i64 s.tag, .string s.queue, .int .i64 s.seq, .int .i64 s.cons, .bool s.held]).cell k
  rw [h, ← hu]
  simp [Slip.cells]

set_option maxHeartbeats 400000 in
theorem bookGive (q : ByteArray) (seq cons : Int) (w : World) (F : Nat → Prop) (p : Nat) (l : List Slip) (last : Int) (h : BookAt w F p l last) (hF : ∀ j, w.heap.size ≤ j → F j) (h0 : 0 ≤ last) (h1 : last < 9223372036854775807) (hl : (l.length + 1) * 48 ≤ 140737488355328) :
    Calls Try.prog 9 #[.pointer (some ⟨p, 0, none⟩), .string q, .int .i64 seq, .int .i64 cons] w fun e w' => e = .returned (.int .i64 (last + 1)) ∧ BookAt w' F p (l ++ [⟨last + 1, q, seq, cons, false⟩]) (last + 1) ∧ Kept F w w' := by
  have HH := Lib.hid h
  have HF := Lib.hid hF
  clear h hF
  go_enter Try.func9, Try.ntmps9
  go_wp2_with fail
  refine (bookNext w F p l last HH.out h0 h1).mono ?_
  rintro e w1 ⟨rfl, h2, k2⟩
  have K2 := Lib.hid k2
  obtain ⟨sv, hblk, hown, hp⟩ := h2
  obtain ⟨A0, cap, rfl, hcap, _⟩ := Own.form hown
  have c0 : w1.cell? ⟨p, 0, none⟩ = some (.slice A0 l.length cap) := hblk.cell 0
  have f0 := hblk.frozen 0
  have hplt := hblk.lt
  have HB := Lib.hid hblk
  have HO := Lib.hid hown
  clear hblk hown hcap k2
  have HN := Lib.hid (HO.out.ne_blk HB.out (by decide))
  go_wp2_with (at_builtin; refine wpList_appSl rfl (.tmp 16) (.tmp 22) rfl F (.slice A0 l.length cap) l rfl (Own.alloc HO.out _) w1.heap.size ⟨last + 1, q, seq, cons, false⟩ rfl (cells_new w1 ⟨last + 1, q, seq, cons, false⟩ _) hl (HF.out _ (by have := K2.out.size; simp; omega)) ?_; intro A1 cap1 w2 hown hk; have hb1 := Blk.keep (Blk.alloc HB.out _) hk HN.out; have c1 : w2.cell? ⟨p, 0, none⟩ = some (.slice A0 l.length cap) := hb1.cell 0; have f1 := hb1.frozen 0; have HB1 := Lib.hid hb1; have HO1 := Lib.hid hown; have HK1 := Lib.hid hk; clear hb1 hown hk)
  go_ret
  refine ⟨rfl, ⟨_, HB1.out.set_ 0 _, ?_, hp⟩, ?_⟩
  · have h2 := HO1.out.far (p := ⟨p, 0, none⟩) (HO1.out.ne_blk HB1.out (by decide)) (.slice A1 (l.length + 1) cap1)
    rw [List.length_append]
    exact h2
  · exact ((((K2.out.mono (S' := F) (fun i _ h => by subst h; exact hp)).alloc _).trans2 HK1.out (fun i _ h => HO.out.2 i h))).setCell (p := ⟨p, 0, none⟩) (fun _ => hp) _

theorem Rd.slip {w : World} {F : Nat → Prop} {A : Option Addr} {l : List Slip} (h : Rd w F A (slipRow l)) {j : Nat} (hj : j < l.length) :
    ∃ g o, A = some ⟨g, o, none⟩ ∧ F g ∧ w.cell? ⟨g, o + j * 5, none⟩ = some (.int .i64 (l[j]).tag) ∧ w.cell? ⟨g, o + j * 5 + 1, none⟩ = some (.string (l[j]).queue) ∧ w.cell? ⟨g, o + j * 5 + 2, none⟩ = some (.int .i64 (l[j]).seq) ∧
      w.cell? ⟨g, o + j * 5 + 3, none⟩ = some (.int .i64 (l[j]).cons) ∧ w.cell? ⟨g, o + j * 5 + 4, none⟩ = some (.bool (l[j]).held) := by
  rcases h with h | ⟨g, o, h, hF, hc⟩
  · have := congrArg List.length h
    rw [slipRow_length, List.length_nil] at this
    omega
  · have at_ : ∀ k u, (l[j]).cells[k]? = some u → w.cell? ⟨g, o + j * 5 + k, none⟩ = some u := by
      intro k u hu
      have hk : k < 5 := (List.getElem?_eq_some_iff.1 hu).1
      rw [Nat.add_assoc]
      exact hc _ u (by rw [slipRow_get l j k hj hk, hu])
    exact ⟨g, o, h, hF, at_ 0 _ rfl, at_ 1 _ rfl, at_ 2 _ rfl, at_ 3 _ rfl, at_ 4 _ rfl⟩

end Go.Proofs.Ytchpkonlfjbkeaa
