/-
  The beginning: any world, and what may not be well in it lies hidden.
-/
import Derived.Test.YtfpkachoneaaeaaBbRun
import Derived.Test.YtfpkachoneaaeaaBbCli
import Derived.Conc.HoldsTime
set_option linter.unusedSimpArgs false
set_option linter.unusedVariables false
namespace Go.Proofs.Ytfpkachoneaaeaa
open Go Go.Conc
/-- The scene at the beginning. -/
def opening (W : World) : Scene where
  Sh := fun _ => False
  Inb := fun _ => none
  Hd := fun k => JunkAt W k
  C := fun _ => False
  place := fun _ _ _ _ h => by cases h
  chan := fun _ _ _ h => by cases h
  shun := fun _ h => h.elim
  apart := fun _ h => h.elim
theorem opening_ok {P : Program} (W : World) : WOk P (opening W) W where
  obj := fun b o h ho => by
    have hj : ¬ Junk o := fun q => h ⟨o, ho, q⟩
    cases o <;> first | trivial | exact absurd trivial hj
  hid := fun b h => by
    obtain ⟨o, ho, hj⟩ := h
    exact ⟨o, by cases o <;> first | rfl | exact hj.elim, ho⟩
  chan := fun _ h => h.elim
theorem shut_boolW {H : Type} {enc : TypeId × Value → H} {P : Program} {w : World} {base : Nat} {spare : Nat → Bool} {held : Bool} {t : TypeId} {b : Bool} (ht : P.underlying t = some .bool) : DataW.Trod enc P w base spare held t (.bool b) (.lit (.bool b)) [] :=
  ⟨1, by simp [DataW.trod, Value.cells, ht]⟩
end Go.Proofs.Ytfpkachoneaaeaa
