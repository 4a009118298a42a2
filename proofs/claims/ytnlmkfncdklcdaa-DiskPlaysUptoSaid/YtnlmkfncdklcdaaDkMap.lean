/-
  A map from texts to values of any kind that a call made.
-/
import Derived.Test.YtnlmkfncdklcdaaRows
import Derived.Test.YtnlmkfncdklcdaaMem
import Derived.StringKeys
import Derived.Maps.OwnOps
import Derived.Maps.Views
namespace Go.Proofs.Ytnlmkfncdklcdaa
open Go.RowKit Go.Maps

/-- How an element reads: as itself. -/
def rHeld (v : Value) : Option (DataW Value × List MemPlace) := some (.held v, [])

/-- The map in block b has at most n entries; what a text leads to is lk. -/
def VMap (w : World) (b n : Nat) (lk : List UInt8 → Option Value) : Prop :=
  ∃ D : DataW Value, w.ownsMap Try.prog 9 rHeld b n D ∧ IsMap D ∧ ∀ nm z, D.atKey (.string nm) z = match lk nm with | some v => .held v | none => z

theorem strKeyed : Keyed Try.prog 9 := string_keyed Try.underlying9

theorem okW {w1 w2 : World} (h : (Result.ok () w1 : Result Unit) = .ok () w2) : w1 = w2 := by
  injection h

section
variable {w w' : World} {b n : Nat} {lk : List UInt8 → Option Value} {S : Nat → Prop} {t e : TypeId}
theorem VMap.made (w : World) : VMap (w.alloc (.map #[] 0)) w.heap.size 0 (fun _ => none) :=
  ⟨.map [], World.ownsMap_made _ _ _ _, ⟨[], rfl⟩, fun _ _ => rfl⟩
theorem VMap.lt (h : VMap w b n lk) : b < w.heap.size := by
  obtain ⟨D, h1, _⟩ := h
  exact h1.lt
theorem VMap.more (h : VMap w b n lk) {n' : Nat} (hn : n ≤ n') : VMap w b n' lk := by
  obtain ⟨D, ⟨es, clock, hb, F, hs, hD⟩, h2, h3⟩ := h
  exact ⟨D, ⟨es, clock, hb, F, Nat.le_trans hs hn, hD⟩, h2, h3⟩
theorem VMap.keep (h : VMap w b n lk) (hk : Kept S w w') (hn : ¬ S b) : VMap w' b n lk := by
  have hl := h.lt
  obtain ⟨D, ⟨es, clock, hb, F, hs, hD⟩, h2, h3⟩ := h
  exact ⟨D, ⟨es, clock, (hk.block b hl hn).trans hb, F, hs, hD⟩, h2, h3⟩
theorem VMap.look (h : VMap w b n lk) (ht : Try.prog.underlying t = some (.map 9 e)) (z : Value) (hz : (zeroValue e).run Try.prog w = .ok z w) (s : ByteArray) (hs : s.size ≤ 140737488351232) :
    (Instr.lookup t (.map (some b)) (.string s) false).run Try.prog w = .ok ((lk s.toList).getD z) w := by
  obtain ⟨D, h1, h2, h3⟩ := h
  obtain ⟨v, ps, hrun, hv⟩ := h1.lookup strKeyed ht hz (zd := .held z) (zp := []) rfl (WideMaps.keyOf_string_mk Try.underlying9 (s := s) (by unfold maxLen; omega))
  rw [h3] at hv
  rw [hrun, ByteArray.toList_eq]
  unfold rHeld at hv
  simp only [Option.some.injEq, Prod.mk.injEq] at hv
  rcases hl : lk s.data.toList with _ | u
  · rw [hl] at hv
    have := hv.1
    simp at this
    rw [this]
    rfl
  · rw [hl] at hv
    have := hv.1
    simp at this
    rw [this]
    rfl
theorem VMap.put (h : VMap w b n lk) (ht : Try.prog.underlying t = some (.map 9 e)) (hn : n < maxLen) (s : ByteArray) (hs : s.size ≤ 140737488351232) (v : Value) :
    ∃ w', (Instr.mapUpdate t (.map (some b)) (.string s) v).run Try.prog w = .ok () w' ∧ VMap w' b (n + 1) (fun nm => if nm = s.toList then some v else lk nm) ∧ Kept (· = b) w w' ∧ w'.heap.size = w.heap.size := by
  obtain ⟨D, h1, h2, h3⟩ := h
  have h1' := h1
  obtain ⟨w', hrun, h4, h5⟩ := h1.update strKeyed ht hn (WideMaps.keyOf_string_mk Try.underlying9 (s := s) (by unfold maxLen; omega)) (d := .held v) (ps := []) (val := v) rfl
  refine ⟨w', hrun, ⟨_, h4, ?_, fun nm z => ?_⟩, (Kept.refl _ _).grown h5 (fun k hk _ => by cases hk; rfl), ?_⟩
  · obtain ⟨es, rfl⟩ := h2
    exact ⟨_, rfl⟩
  · show _ = match (if nm = s.toList then some v else lk nm) with | some v => DataW.held v | none => z
    rw [ByteArray.toList_eq]
    by_cases hne : nm = s.data.toList
    · subst hne
      rw [if_pos rfl, atKey_put_same h2 (by trivial)]
    · rw [if_neg hne, atKey_put_other (fun e => hne (by injection e)), h3]
  · obtain ⟨es, clock, hb, F, hs', _⟩ := h1'
    obtain ⟨es', clock', hrun', _⟩ := Maps.fit_store (R' := rHeld) strKeyed ht hb F (Nat.lt_of_le_of_lt hs' hn) (fun _ _ _ _ hz => hz) (WideMaps.keyOf_string_mk Try.underlying9 (s := s) (by unfold maxLen; omega)) (val := v) rfl
    have e := okW (hrun.symm.trans hrun')
    rw [e]
    simp [Go.ChangeMaps.setBlock]
end

end Go.Proofs.Ytnlmkfncdklcdaa
