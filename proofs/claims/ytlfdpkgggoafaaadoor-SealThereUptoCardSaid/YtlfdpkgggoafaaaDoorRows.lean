/-
  NARROWER THAN 'FOR EVERY INPUT', by the rows' own cells (each row's printed sentence says how): SealSums: laid · SealWraps: laid · SealUnwraps: laid · SealBurst: laid · SealWhole: laid · SealThere: laid.
  DERIVED. THE GIVEN ROWS OF THIS SEAT. 6 by the template 'for every input the law returns true; each argument reads behind the call as it read before'; 0 by the template 'total and deterministic' (their statements: YtlfdpkgggoafaaaDoorTotals.lean).
  GIVEN WITH THE SEED: the statements are not yours to turn. If you find one false, say at which input.
  Laid BY PROGRAM, IN A SANDBOX (cutbox-rows.mjs): the forced cells as the released guide's own fill.sh prints them over the translation 4b5bb13dfaef0e7d… (all of the seat's roots in one cut). By AI agents, Wed Nov 11 2026. No macro, syntax, notation, axiom, sorry.
-/
import Derived.Test.YtlfdpkgggoafaaaDoorChecked
import GoSem.Claim
import GoSem.ClaimJoined
import GoSem.ClaimMapViews
import Derived.JoinedTies
import Derived.KernelRfl
namespace Go.Proofs.YtlfdpkgggoafaaaDoor
/- THE CELL 'sum', in the pinned program and in every row, IS THE sha256 OF THE DUMP (.gsa) THAT YtlfdpkgggoafaaaDoorProg.lean LOADS. Nothing in Lean hashes anything: it is a label: what it is worth is what the hold of that sum in a sandbox is worth. -/
noncomputable def Tryd.pinned : Pinned := { name := "ytlfdpkgggoafaaadoor", sum := "4b5bb13dfaef0e7d72e324b292cc7ecae7af0bbe0151509cbac0518114672770", checked := Tryd.checked }
namespace Rows
def none {H : Type} : Left H := { results := [], args := [] }

/- WHAT THE LISTED PACKAGE-LEVEL VARIABLES READ AS WHEN THE CALL BEGINS. Each datum BY PROGRAM (the guide's laid-datum.mjs) off the statement by which the dump's own 'gosem.cut.vars' lays the variable. In a bare row this is a premise. The card (YtlfdpkgggoafaaaDoorCards.lean) ties it to the program's text. -/
def laid_warren_seal_nibble {H : Type} : DataW H := .agg [.lit (.int .u32 0), .lit (.int .u32 274646895), .lit (.int .u32 549293790), .lit (.int .u32 820201905), .lit (.int .u32 1098587580), .lit (.int .u32 1361435347), .lit (.int .u32 1640403810), .lit (.int .u32 1905808397), .lit (.int .u32 2197175160), .lit (.int .u32 2460548119), .lit (.int .u32 2722870694), .lit (.int .u32 2987750089), .lit (.int .u32 3280807620), .lit (.int .u32 3553878443), .lit (.int .u32 3811616794), .lit (.int .u32 4084100981)]

/-- 'warrenlaw02.SealSums': WHATEVER THE INPUT: true; the input reads as it did. -/
def sealSumsSpec : ChangeSpec := { name := "sealSums", fn := fun _ => fun
  | [d] => { results := [.lit (.bool true)], args := [d] }
  | _ => none }
def sealSumsRow : OpenClaim := { program := "ytlfdpkgggoafaaadoor", sum := "4b5bb13dfaef0e7d72e324b292cc7ecae7af0bbe0151509cbac0518114672770", func := "warren/warrenlaw02.SealSums", spec := "sealSums", named := ["warren/seal.nibble"], apart := false, laid := [("warren/seal.nibble", laid_warren_seal_nibble)] }
def SealSumsSaid : Prop := sealSumsRow.holds Tryd.pinned (OpenSpec.ofChange sealSumsSpec)

/-- ITS FALSE NEIGHBOUR: 'it returns false'. Refute it at one input. -/
def sealSumsWrong : ChangeSpec := { name := "sealSums", fn := fun _ => fun
  | [d] => { results := [.lit (.bool false)], args := [d] }
  | _ => none }
def SealSumsWrongFalsely : Prop := sealSumsRow.holds Tryd.pinned (OpenSpec.ofChange sealSumsWrong)

/-- 'warrenlaw02.SealWraps': WHATEVER THE INPUT: true; the input reads as it did. -/
def sealWrapsSpec : ChangeSpec := { name := "sealWraps", fn := fun _ => fun
  | [d] => { results := [.lit (.bool true)], args := [d] }
  | _ => none }
def sealWrapsRow : OpenClaim := { program := "ytlfdpkgggoafaaadoor", sum := "4b5bb13dfaef0e7d72e324b292cc7ecae7af0bbe0151509cbac0518114672770", func := "warren/warrenlaw02.SealWraps", spec := "sealWraps", named := ["warren/seal.nibble"], apart := false, laid := [("warren/seal.nibble", laid_warren_seal_nibble)] }
def SealWrapsSaid : Prop := sealWrapsRow.holds Tryd.pinned (OpenSpec.ofChange sealWrapsSpec)

/-- ITS FALSE NEIGHBOUR: 'it returns false'. Refute it at one input. -/
def sealWrapsWrong : ChangeSpec := { name := "sealWraps", fn := fun _ => fun
  | [d] => { results := [.lit (.bool false)], args := [d] }
  | _ => none }
def SealWrapsWrongFalsely : Prop := sealWrapsRow.holds Tryd.pinned (OpenSpec.ofChange sealWrapsWrong)

/-- 'warrenlaw02.SealUnwraps': WHATEVER THE INPUT: true; the input reads as it did. -/
def sealUnwrapsSpec : ChangeSpec := { name := "sealUnwraps", fn := fun _ => fun
  | [d] => { results := [.lit (.bool true)], args := [d] }
  | _ => none }
def sealUnwrapsRow : OpenClaim := { program := "ytlfdpkgggoafaaadoor", sum := "4b5bb13dfaef0e7d72e324b292cc7ecae7af0bbe0151509cbac0518114672770", func := "warren/warrenlaw02.SealUnwraps", spec := "sealUnwraps", named := ["warren/seal.nibble"], apart := false, laid := [("warren/seal.nibble", laid_warren_seal_nibble)] }
def SealUnwrapsSaid : Prop := sealUnwrapsRow.holds Tryd.pinned (OpenSpec.ofChange sealUnwrapsSpec)

/-- ITS FALSE NEIGHBOUR: 'it returns false'. Refute it at one input. -/
def sealUnwrapsWrong : ChangeSpec := { name := "sealUnwraps", fn := fun _ => fun
  | [d] => { results := [.lit (.bool false)], args := [d] }
  | _ => none }
def SealUnwrapsWrongFalsely : Prop := sealUnwrapsRow.holds Tryd.pinned (OpenSpec.ofChange sealUnwrapsWrong)

/-- 'warrenlaw02.SealBurst': WHATEVER THE INPUT: true; the input reads as it did. -/
def sealBurstSpec : ChangeSpec := { name := "sealBurst", fn := fun _ => fun
  | [d1, d2, d3] => { results := [.lit (.bool true)], args := [d1, d2, d3] }
  | _ => none }
def sealBurstRow : OpenClaim := { program := "ytlfdpkgggoafaaadoor", sum := "4b5bb13dfaef0e7d72e324b292cc7ecae7af0bbe0151509cbac0518114672770", func := "warren/warrenlaw02.SealBurst", spec := "sealBurst", named := ["warren/seal.nibble"], apart := false, laid := [("warren/seal.nibble", laid_warren_seal_nibble)] }
def SealBurstSaid : Prop := sealBurstRow.holds Tryd.pinned (OpenSpec.ofChange sealBurstSpec)

/-- ITS FALSE NEIGHBOUR: 'it returns false'. Refute it at one input. -/
def sealBurstWrong : ChangeSpec := { name := "sealBurst", fn := fun _ => fun
  | [d1, d2, d3] => { results := [.lit (.bool false)], args := [d1, d2, d3] }
  | _ => none }
def SealBurstWrongFalsely : Prop := sealBurstRow.holds Tryd.pinned (OpenSpec.ofChange sealBurstWrong)

/-- 'warrenlaw02.SealWhole': WHATEVER THE INPUT: true; the input reads as it did. -/
def sealWholeSpec : ChangeSpec := { name := "sealWhole", fn := fun _ => fun
  | [d] => { results := [.lit (.bool true)], args := [d] }
  | _ => none }
def sealWholeRow : OpenClaim := { program := "ytlfdpkgggoafaaadoor", sum := "4b5bb13dfaef0e7d72e324b292cc7ecae7af0bbe0151509cbac0518114672770", func := "warren/warrenlaw02.SealWhole", spec := "sealWhole", named := ["warren/seal.nibble"], apart := false, laid := [("warren/seal.nibble", laid_warren_seal_nibble)] }
def SealWholeSaid : Prop := sealWholeRow.holds Tryd.pinned (OpenSpec.ofChange sealWholeSpec)

/-- ITS FALSE NEIGHBOUR: 'it returns false'. Refute it at one input. -/
def sealWholeWrong : ChangeSpec := { name := "sealWhole", fn := fun _ => fun
  | [d] => { results := [.lit (.bool false)], args := [d] }
  | _ => none }
def SealWholeWrongFalsely : Prop := sealWholeRow.holds Tryd.pinned (OpenSpec.ofChange sealWholeWrong)

/-- 'warrenlaw02.SealThere': WHATEVER THE INPUT: true; the input reads as it did. -/
def sealThereSpec : ChangeSpec := { name := "sealThere", fn := fun _ => fun
  | [d1, d2, d3] => { results := [.lit (.bool true)], args := [d1, d2, d3] }
  | _ => none }
def sealThereRow : OpenClaim := { program := "ytlfdpkgggoafaaadoor", sum := "4b5bb13dfaef0e7d72e324b292cc7ecae7af0bbe0151509cbac0518114672770", func := "warren/warrenlaw02.SealThere", spec := "sealThere", named := ["warren/seal.nibble"], apart := false, laid := [("warren/seal.nibble", laid_warren_seal_nibble)] }
def SealThereSaid : Prop := sealThereRow.holds Tryd.pinned (OpenSpec.ofChange sealThereSpec)

/-- ITS FALSE NEIGHBOUR: 'it returns false'. Refute it at one input. -/
def sealThereWrong : ChangeSpec := { name := "sealThere", fn := fun _ => fun
  | [d1, d2, d3] => { results := [.lit (.bool false)], args := [d1, d2, d3] }
  | _ => none }
def SealThereWrongFalsely : Prop := sealThereRow.holds Tryd.pinned (OpenSpec.ofChange sealThereWrong)

/- THE SECOND FORM. 'bulk': how many values and letters a reading holds, each counted each time it is reached (what is shared counts as often as it is met; a slice's spare places count too). A statement '..UptoSaid' is the law's where the arguments, and the package variables that the reading takes, are together of bulk at most 1048576: NARROWER than '..Said'. Prove '..Said' where nothing that the law and all that it calls make is longer than what came in: it says more and counts as full. Else prove '..UptoSaid'. A law counts once. -/
mutual
def uptoBulk {H : Type} : DataW H → Nat
  | .lit (.string bytes) => bytes.length + 1
  | .lit _ => 1
  | .nil => 1
  | .ptr d => uptoBulk d + 1
  | .slice elems spare => uptoBulkAll elems + uptoBulkAll spare + 1
  | .agg parts => uptoBulkAll parts + 1
  | .iface _ d => uptoBulk d + 1
  | .map entries => uptoBulkEntries entries + 1
  | .held _ => 1
def uptoBulkAll {H : Type} : List (DataW H) → Nat
  | [] => 0
  | d :: r => uptoBulk d + uptoBulkAll r
def uptoBulkEntries {H : Type} : List (Lit × DataW H) → Nat
  | [] => 0
  | x :: r => uptoBulkEntry x + uptoBulkEntries r
def uptoBulkEntry {H : Type} : Lit × DataW H → Nat
  | (.string bytes, d) => bytes.length + uptoBulk d + 1
  | (_, d) => uptoBulk d + 1
 end
def uptoSmall : (H : Type) → List (DataW H) → Bool := fun _ ds => decide (uptoBulkAll ds ≤ 1048576)
def OpenSpec.upto (s : _root_.Go.ChangeSpec) : _root_.Go.OpenSpec := { _root_.Go.OpenSpec.ofChange s with cond := some uptoSmall }

/-- 'warrenlaw02.SealSums', WHERE WHAT IT READS IS OF BULK AT MOST 1048576: true; the input reads as it did. -/
def sealSumsUptoRow : OpenClaim := { program := "ytlfdpkgggoafaaadoor", sum := "4b5bb13dfaef0e7d72e324b292cc7ecae7af0bbe0151509cbac0518114672770", func := "warren/warrenlaw02.SealSums", spec := "sealSums", named := ["warren/seal.nibble"], apart := false, laid := [("warren/seal.nibble", laid_warren_seal_nibble)], narrowed := true }
def SealSumsUptoSaid : Prop := sealSumsUptoRow.holds Tryd.pinned (OpenSpec.upto sealSumsSpec)

/-- 'warrenlaw02.SealWraps', WHERE WHAT IT READS IS OF BULK AT MOST 1048576: true; the input reads as it did. -/
def sealWrapsUptoRow : OpenClaim := { program := "ytlfdpkgggoafaaadoor", sum := "4b5bb13dfaef0e7d72e324b292cc7ecae7af0bbe0151509cbac0518114672770", func := "warren/warrenlaw02.SealWraps", spec := "sealWraps", named := ["warren/seal.nibble"], apart := false, laid := [("warren/seal.nibble", laid_warren_seal_nibble)], narrowed := true }
def SealWrapsUptoSaid : Prop := sealWrapsUptoRow.holds Tryd.pinned (OpenSpec.upto sealWrapsSpec)

/-- 'warrenlaw02.SealUnwraps', WHERE WHAT IT READS IS OF BULK AT MOST 1048576: true; the input reads as it did. -/
def sealUnwrapsUptoRow : OpenClaim := { program := "ytlfdpkgggoafaaadoor", sum := "4b5bb13dfaef0e7d72e324b292cc7ecae7af0bbe0151509cbac0518114672770", func := "warren/warrenlaw02.SealUnwraps", spec := "sealUnwraps", named := ["warren/seal.nibble"], apart := false, laid := [("warren/seal.nibble", laid_warren_seal_nibble)], narrowed := true }
def SealUnwrapsUptoSaid : Prop := sealUnwrapsUptoRow.holds Tryd.pinned (OpenSpec.upto sealUnwrapsSpec)

/-- 'warrenlaw02.SealBurst', WHERE WHAT IT READS IS OF BULK AT MOST 1048576: true; the input reads as it did. -/
def sealBurstUptoRow : OpenClaim := { program := "ytlfdpkgggoafaaadoor", sum := "4b5bb13dfaef0e7d72e324b292cc7ecae7af0bbe0151509cbac0518114672770", func := "warren/warrenlaw02.SealBurst", spec := "sealBurst", named := ["warren/seal.nibble"], apart := false, laid := [("warren/seal.nibble", laid_warren_seal_nibble)], narrowed := true }
def SealBurstUptoSaid : Prop := sealBurstUptoRow.holds Tryd.pinned (OpenSpec.upto sealBurstSpec)

/-- 'warrenlaw02.SealWhole', WHERE WHAT IT READS IS OF BULK AT MOST 1048576: true; the input reads as it did. -/
def sealWholeUptoRow : OpenClaim := { program := "ytlfdpkgggoafaaadoor", sum := "4b5bb13dfaef0e7d72e324b292cc7ecae7af0bbe0151509cbac0518114672770", func := "warren/warrenlaw02.SealWhole", spec := "sealWhole", named := ["warren/seal.nibble"], apart := false, laid := [("warren/seal.nibble", laid_warren_seal_nibble)], narrowed := true }
def SealWholeUptoSaid : Prop := sealWholeUptoRow.holds Tryd.pinned (OpenSpec.upto sealWholeSpec)

/-- 'warrenlaw02.SealThere', WHERE WHAT IT READS IS OF BULK AT MOST 1048576: true; the input reads as it did. -/
def sealThereUptoRow : OpenClaim := { program := "ytlfdpkgggoafaaadoor", sum := "4b5bb13dfaef0e7d72e324b292cc7ecae7af0bbe0151509cbac0518114672770", func := "warren/warrenlaw02.SealThere", spec := "sealThere", named := ["warren/seal.nibble"], apart := false, laid := [("warren/seal.nibble", laid_warren_seal_nibble)], narrowed := true }
def SealThereUptoSaid : Prop := sealThereUptoRow.holds Tryd.pinned (OpenSpec.upto sealThereSpec)

end Rows
end Go.Proofs.YtlfdpkgggoafaaaDoor
