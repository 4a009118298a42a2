/-
  A map from texts to counts that a call made.
-/
import Derived.Test.YtdhaojicphhikaaRows
import Derived.Test.YtdhaojicphhikaaMem
import Derived.StringKeys
import Derived.Maps.OwnOps
import Derived.Maps.Views
namespace Go.Proofs.Ytdhaojicphhikaa
open Go.RowKit Go.Maps

/-- The map in block b has at most n entries; a text's count is cnt. -/
def SeenMap (w : World) (b n : Nat) (cnt : List UInt8 → Int) : Prop :=
  ∃ D : DataW Unit, w.ownsMap Try.prog 9 (plainElem Try.prog 3) b n D ∧ IsMap D ∧ ∀ nm, D.atKey (.string nm) (.lit (.int .i64 0)) = .lit (.int .i64 (cnt nm))

theorem strKeyed : Keyed Try.prog 9 := string_keyed Try.underlying9
theorem zeroInt (w : World) : (zeroValue 3).run Try.prog w = .ok (.int .i64 0) w := by kernel_rfl

section
variable {w w' : World} {b n : Nat} {cnt : List UInt8 → Int} {S : Nat → Prop}
theorem SeenMap.made (w : World) : SeenMap (w.alloc (.map #[] 0)) w.heap.size 0 (fun _ => 0) :=
  ⟨.map [], World.ownsMap_made _ _ _ _, ⟨[], rfl⟩, fun _ => rfl⟩
theorem SeenMap.lt (h : SeenMap w b n cnt) : b < w.heap.size := by
  obtain ⟨D, h1, _⟩ := h
  exact h1.lt
theorem SeenMap.keep (h : SeenMap w b n cnt) (hk : Kept S w w') (hn : ¬ S b) : SeenMap w' b n cnt := by
  have hl := h.lt
  obtain ⟨D, ⟨es, clock, hb, F, hs, hD⟩, h2, h3⟩ := h
  exact ⟨D, ⟨es, clock, (hk.block b hl hn).trans hb, F, hs, hD⟩, h2, h3⟩
theorem SeenMap.look (h : SeenMap w b n cnt) (s : ByteArray) (hs : s.size ≤ 140737488351232) : (Instr.lookup 47 (.map (some b)) (.string s) false).run Try.prog w = .ok (.int .i64 (cnt s.toList)) w := by
  obtain ⟨D, h1, h2, h3⟩ := h
  obtain ⟨c, hrun, hat, _⟩ := h1.lookup_int strKeyed Try.underlying47 Try.underlying3 (zeroInt w) (Go.WideMaps.keyOf_string_mk Try.underlying9 (s := s) (by unfold maxLen; omega))
  rw [h3] at hat
  rw [hrun, ByteArray.toList_eq]
  injection hat with hat
  injection hat with _ hat
  rw [hat]
theorem SeenMap.put (h : SeenMap w b n cnt) (hn : n < 1000000) (s : ByteArray) (hs : s.size ≤ 140737488351232) (x : Int) (hx0 : 0 ≤ x) (hx : x ≤ 1000000) :
    ∃ w', (Instr.mapUpdate 47 (.map (some b)) (.string s) (.int .i64 x)).run Try.prog w = .ok () w' ∧ SeenMap w' b (n + 1) (fun nm => if nm = s.toList then x else cnt nm) ∧ Kept (· = b) w w' := by
  obtain ⟨D, h1, h2, h3⟩ := h
  obtain ⟨w', hrun, h4, h5⟩ := h1.update strKeyed Try.underlying47 (by unfold maxLen; omega) (Go.WideMaps.keyOf_string_mk Try.underlying9 (s := s) (by unfold maxLen; omega)) (plainElem_int (H := Unit) Try.underlying3 (a := x) (WalkArith.wf_i64 (by omega)))
  refine ⟨w', hrun, ⟨_, h4, ?_, fun nm => ?_⟩, (Kept.refl _ _).grown h5 (fun k hk _ => by cases hk; rfl)⟩
  · obtain ⟨es, rfl⟩ := h2
    exact ⟨_, rfl⟩
  · show _ = DataW.lit (Lit.int .i64 (if nm = s.toList then x else cnt nm))
    rw [ByteArray.toList_eq]
    by_cases hne : nm = s.data.toList
    · subst hne
      rw [if_pos rfl, atKey_put_same h2 (by trivial)]
    · rw [if_neg hne, atKey_put_other (fun e => hne (by injection e)), h3]
end

end Go.Proofs.Ytdhaojicphhikaa
