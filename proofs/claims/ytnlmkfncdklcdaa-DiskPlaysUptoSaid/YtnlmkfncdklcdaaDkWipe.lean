/-
  Files whose octets are written over: of the octets themselves nothing is said any more.
-/
import Derived.Test.YtnlmkfncdklcdaaDkFlo
namespace Go.Proofs.Ytnlmkfncdklcdaa
open Go.RowKit

/-- A slice of octets of one's own; nothing is said of them. -/
def Wip (w : World) (F : Nat → Prop) (A : Option Addr) (n : Nat) : Prop := n = 0 ∨ ∃ g cur, A = some ⟨g, 0, none⟩ ∧ F g ∧ Blk w g 5 cur ∧ n ≤ cur.size

section
variable {w w' : World} {F G S : Nat → Prop} {A : Option Addr} {n c : Nat} {v : Value} {fs : List FlS}
theorem OB.wip {bs : List UInt8} (h : OB w F (.slice A n c) bs) : n = bs.length ∧ Wip w F A n := by
  rcases h.1.2 with ⟨e, hn⟩ | ⟨g, cap, cur, e, _, hgb, h1, h2, h3, h4⟩
  · injection e with e1 e2 e3
    exact ⟨e2.trans hn.symm, .inl e2⟩
  · injection e with e1 e2 e3
    subst e1 e2 e3
    refine ⟨rfl, .inr ⟨g, cur, rfl, h.2 g rfl, hgb, ?_⟩⟩
    omega
theorem Wip.set (h : Wip w F A n) (g i : Nat) (u : Value) : Wip (w.setCell ⟨g, i, none⟩ u) F A n := by
  rcases h with h | ⟨g', cur, e, hF, hb, hn⟩
  · exact .inl h
  · by_cases q : g' = g
    · subst q
      exact .inr ⟨g', _, e, hF, hb.set_ i u, by simpa using hn⟩
    · exact .inr ⟨g', cur, e, hF, hb.far q u, hn⟩
theorem Wip.keep (h : Wip w F A n) (hk : Kept S w w') (hd : ∀ k, F k → S k → False) : Wip w' F A n := by
  rcases h with h | ⟨g, cur, e, hF, hb, hn⟩
  · exact .inl h
  · exact .inr ⟨g, cur, e, hF, hb.keep hk (fun q => hd g hF q), hn⟩
theorem Wip.at_ (h : Wip w F A n) {k : Nat} (hk : k < n) : ∃ g cur u, A = some ⟨g, 0, none⟩ ∧ F g ∧ Blk w g 5 cur ∧ w.cell? ⟨g, k, none⟩ = some u ∧ w.frozen? ⟨g, k, none⟩ = false := by
  rcases h with h | ⟨g, cur, e, hF, hb, hn⟩
  · omega
  · refine ⟨g, cur, cur[k]'(by omega), e, hF, hb, ?_, hb.frozen k⟩
    rw [hb.cell, Array.getElem?_eq_getElem (by omega)]

/-- Files: their row is as it was; of their octets nothing is said. -/
structure FlsWip (w : World) (F : Nat → Prop) (v : Value) (css : List (List Value)) : Prop where
  own : Own w 36 2 F v css.length css.flatten
  el : ∀ j (_ : j < css.length), ∃ x B m d, css[j] = [x, .slice B m d] ∧ m ≤ 140737488351232 ∧ Wip w F B m
theorem FlsOwn.wip (h : FlsOwn w F v fs) : ∃ css, css.length = fs.length ∧ FlsWip w F v css := by
  obtain ⟨css, h1, h2, h3⟩ := h
  refine ⟨css, h2, ⟨by rw [h2]; exact h1, fun j hj => ?_⟩⟩
  obtain ⟨g1, g2, x, g3, g4⟩ := h3 j (by omega) hj
  obtain ⟨B, d, rfl, _⟩ := Own.form g4
  exact ⟨_, B, _, d, g3, g2, (OB.wip g4).2⟩
theorem FlsWip.set {css : List (List Value)} (h : FlsWip w F v css) {g : Nat} {cur : Array Value} (hb : Blk w g 5 cur) (i : Nat) (u : Value) : FlsWip (w.setCell ⟨g, i, none⟩ u) F v css := by
  have hk : Kept (· = g) w (w.setCell ⟨g, i, none⟩ u) := (Kept.refl (· = g) w).setCell (p := ⟨g, i, none⟩) (fun _ => rfl) _
  refine ⟨Own.keep0 h.own hk (fun k _ a b => ?_), fun j hj => ?_⟩
  · subst b
    exact Own.ne_blk h.own (g := k) (t := 5) hb (by decide) a
  · obtain ⟨x, B, m, d, e, hm, hw⟩ := h.el j hj
    exact ⟨x, B, m, d, e, hm, hw.set g i u⟩
theorem FlsWip.keep {css : List (List Value)} (h : FlsWip w F v css) (hk : Kept S w w') (hd : ∀ k, F k → S k → False) : FlsWip w' F v css :=
  ⟨h.own.keep hk (fun k _ a b => hd k a b), fun j hj => by
    obtain ⟨x, B, m, d, e, hm, hw⟩ := h.el j hj
    exact ⟨x, B, m, d, e, hm, hw.keep hk hd⟩⟩
theorem FlsWip.at_ {css : List (List Value)} (h : FlsWip w F (.slice A n c) css) {j : Nat} (hj : j < css.length) {x B : _} {m d : Nat} (he : css[j] = [x, .slice B m d]) :
    ∃ g o, A = some ⟨g, o, none⟩ ∧ m ≤ 140737488351232 ∧ Wip w F B m ∧ w.cell? ⟨g, o + j * 2 + 1, none⟩ = some (.slice B m d) := by
  obtain ⟨x', B', m', d', e, hm, hw⟩ := h.el j hj
  rw [he] at e
  injection e with _ e
  injection e with e _
  injection e with q1 q2 q3
  subst q1 q2 q3
  have hlen : ∀ y ∈ css, y.length = 2 := by
    intro y hy
    obtain ⟨i, hi, rfl⟩ := List.mem_iff_getElem.1 hy
    obtain ⟨_, _, _, _, e, _⟩ := h.el i hi
    rw [e]
    rfl
  have e1 := flatten_get 2 css hlen j 1 hj (by decide)
  rw [he] at e1
  obtain ⟨A', c', e2, _⟩ := Own.form h.own
  injection e2 with q1 q2 q3
  subst q1 q2 q3
  rcases Own.rd h.own with h0 | ⟨g, o, rfl, hF, hc⟩
  · rw [h0] at e1
    simp at e1
  · refine ⟨g, o, rfl, hm, hw, ?_⟩
    have := hc (j * 2 + 1) _ e1
    rw [← Nat.add_assoc] at this
    exact this
end

end Go.Proofs.Ytnlmkfncdklcdaa
