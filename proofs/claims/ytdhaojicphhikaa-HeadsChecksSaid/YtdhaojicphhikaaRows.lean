/-
  NARROWER THAN 'FOR EVERY INPUT', by the rows' own cells (each row's printed sentence says how): HeadsChecks: loops · HeadsMore: loops · HeadsModes: loops.
  DERIVED. THE GIVEN ROWS OF THIS SEAT. 3 by the template 'for every input the law returns true; each argument reads behind the call as it read before'; 0 by the template 'total and deterministic' (their statements: YtdhaojicphhikaaTotals.lean).
  GIVEN WITH THE SEED: the statements are not yours to turn. If you find one false, say at which input.
  Laid BY PROGRAM, IN A SANDBOX (cutbox-rows.mjs): the forced cells as the released guide's own fill.sh prints them over the translation 39e2889d8cea7433… (all of the seat's roots in one cut). By AI agents, Wed Nov 11 2026. No macro, syntax, notation, axiom, sorry.
-/
import Derived.Test.YtdhaojicphhikaaChecked
import GoSem.Claim
import GoSem.ClaimJoined
import GoSem.ClaimMapViews
import Derived.JoinedTies
import Derived.KernelRfl
namespace Go.Proofs.Ytdhaojicphhikaa
/- THE CELL 'sum', in the pinned program and in every row, IS THE sha256 OF THE DUMP (.gsa) THAT YtdhaojicphhikaaProg.lean LOADS. Nothing in Lean hashes anything: it is a label: what it is worth is what the hold of that sum in a sandbox is worth. -/
noncomputable def Try.pinned : Pinned := { name := "ytdhaojicphhikaa", sum := "39e2889d8cea7433bb6052f437078e1e7bcade32e753c845f0954eece9a8cefa", checked := Try.checked }
namespace Rows
def none {H : Type} : Left H := { results := [], args := [] }

/-- 'warrenlaw08.HeadsChecks': WHATEVER THE INPUT: true; the input reads as it did. -/
def headsChecksSpec : ChangeSpec := { name := "headsChecks", fn := fun _ => fun
  | [d] => { results := [.lit (.bool true)], args := [d] }
  | _ => none }
def headsChecksRow : OpenClaim := { program := "ytdhaojicphhikaa", sum := "39e2889d8cea7433bb6052f437078e1e7bcade32e753c845f0954eece9a8cefa", func := "warren/warrenlaw08.HeadsChecks", spec := "headsChecks", unfollowed := true, recurses := true, loops := true, apart := false }
def HeadsChecksSaid : Prop := headsChecksRow.holds Try.pinned (OpenSpec.ofChange headsChecksSpec)

/-- ITS FALSE NEIGHBOUR: 'it returns false'. Refute it at one input. -/
def headsChecksWrong : ChangeSpec := { name := "headsChecks", fn := fun _ => fun
  | [d] => { results := [.lit (.bool false)], args := [d] }
  | _ => none }
def HeadsChecksWrongFalsely : Prop := headsChecksRow.holds Try.pinned (OpenSpec.ofChange headsChecksWrong)

/-- 'warrenlaw08.HeadsMore': WHATEVER THE INPUT: true; the input reads as it did. -/
def headsMoreSpec : ChangeSpec := { name := "headsMore", fn := fun _ => fun
  | [d1, d2, d3] => { results := [.lit (.bool true)], args := [d1, d2, d3] }
  | _ => none }
def headsMoreRow : OpenClaim := { program := "ytdhaojicphhikaa", sum := "39e2889d8cea7433bb6052f437078e1e7bcade32e753c845f0954eece9a8cefa", func := "warren/warrenlaw08.HeadsMore", spec := "headsMore", unfollowed := true, recurses := true, loops := true, apart := false }
def HeadsMoreSaid : Prop := headsMoreRow.holds Try.pinned (OpenSpec.ofChange headsMoreSpec)

/-- ITS FALSE NEIGHBOUR: 'it returns false'. Refute it at one input. -/
def headsMoreWrong : ChangeSpec := { name := "headsMore", fn := fun _ => fun
  | [d1, d2, d3] => { results := [.lit (.bool false)], args := [d1, d2, d3] }
  | _ => none }
def HeadsMoreWrongFalsely : Prop := headsMoreRow.holds Try.pinned (OpenSpec.ofChange headsMoreWrong)

/-- 'warrenlaw08.HeadsModes': WHATEVER THE INPUT: true; the input reads as it did. -/
def headsModesSpec : ChangeSpec := { name := "headsModes", fn := fun _ => fun
  | [d1, d2] => { results := [.lit (.bool true)], args := [d1, d2] }
  | _ => none }
def headsModesRow : OpenClaim := { program := "ytdhaojicphhikaa", sum := "39e2889d8cea7433bb6052f437078e1e7bcade32e753c845f0954eece9a8cefa", func := "warren/warrenlaw08.HeadsModes", spec := "headsModes", unfollowed := true, recurses := true, loops := true, apart := false }
def HeadsModesSaid : Prop := headsModesRow.holds Try.pinned (OpenSpec.ofChange headsModesSpec)

/-- ITS FALSE NEIGHBOUR: 'it returns false'. Refute it at one input. -/
def headsModesWrong : ChangeSpec := { name := "headsModes", fn := fun _ => fun
  | [d1, d2] => { results := [.lit (.bool false)], args := [d1, d2] }
  | _ => none }
def HeadsModesWrongFalsely : Prop := headsModesRow.holds Try.pinned (OpenSpec.ofChange headsModesWrong)

/- THE SECOND FORM. 'bulk': how many values and letters a reading holds, each counted each time it is reached (what is shared counts as often as it is met; a slice's spare places count too). A statement '..UptoSaid' is the law's where the arguments, and the package variables that the reading takes, are together of bulk at most 1048576: NARROWER than '..Said'. Prove '..Said' where nothing that the law and all that it calls make is longer than what came in: it says more and counts as full. Else prove '..UptoSaid'. A law counts once. -/
mutual
def uptoBulk {H : Type} : DataW H → Nat
  | .lit (.string bytes) => bytes.length + 1
  | .lit _ => 1
  | .nil => 1
  | .ptr d => uptoBulk d + 1
  | .slice elems spare => uptoBulkAll elems + uptoBulkAll spare + 1
  | .agg parts => uptoBulkAll parts + 1
  | .iface _ d => uptoBulk d + 1
  | .map entries => uptoBulkEntries entries + 1
  | .held _ => 1
def uptoBulkAll {H : Type} : List (DataW H) → Nat
  | [] => 0
  | d :: r => uptoBulk d + uptoBulkAll r
def uptoBulkEntries {H : Type} : List (Lit × DataW H) → Nat
  | [] => 0
  | x :: r => uptoBulkEntry x + uptoBulkEntries r
def uptoBulkEntry {H : Type} : Lit × DataW H → Nat
  | (.string bytes, d) => bytes.length + uptoBulk d + 1
  | (_, d) => uptoBulk d + 1
 end
def uptoSmall : (H : Type) → List (DataW H) → Bool := fun _ ds => decide (uptoBulkAll ds ≤ 1048576)
def OpenSpec.upto (s : _root_.Go.ChangeSpec) : _root_.Go.OpenSpec := { _root_.Go.OpenSpec.ofChange s with cond := some uptoSmall }

/-- 'warrenlaw08.HeadsChecks', WHERE WHAT IT READS IS OF BULK AT MOST 1048576: true; the input reads as it did. -/
def headsChecksUptoRow : OpenClaim := { program := "ytdhaojicphhikaa", sum := "39e2889d8cea7433bb6052f437078e1e7bcade32e753c845f0954eece9a8cefa", func := "warren/warrenlaw08.HeadsChecks", spec := "headsChecks", unfollowed := true, recurses := true, loops := true, apart := false, narrowed := true }
def HeadsChecksUptoSaid : Prop := headsChecksUptoRow.holds Try.pinned (OpenSpec.upto headsChecksSpec)

/-- 'warrenlaw08.HeadsMore', WHERE WHAT IT READS IS OF BULK AT MOST 1048576: true; the input reads as it did. -/
def headsMoreUptoRow : OpenClaim := { program := "ytdhaojicphhikaa", sum := "39e2889d8cea7433bb6052f437078e1e7bcade32e753c845f0954eece9a8cefa", func := "warren/warrenlaw08.HeadsMore", spec := "headsMore", unfollowed := true, recurses := true, loops := true, apart := false, narrowed := true }
def HeadsMoreUptoSaid : Prop := headsMoreUptoRow.holds Try.pinned (OpenSpec.upto headsMoreSpec)

/-- 'warrenlaw08.HeadsModes', WHERE WHAT IT READS IS OF BULK AT MOST 1048576: true; the input reads as it did. -/
def headsModesUptoRow : OpenClaim := { program := "ytdhaojicphhikaa", sum := "39e2889d8cea7433bb6052f437078e1e7bcade32e753c845f0954eece9a8cefa", func := "warren/warrenlaw08.HeadsModes", spec := "headsModes", unfollowed := true, recurses := true, loops := true, apart := false, narrowed := true }
def HeadsModesUptoSaid : Prop := headsModesUptoRow.holds Try.pinned (OpenSpec.upto headsModesSpec)

end Rows
end Go.Proofs.Ytdhaojicphhikaa
