/-
  DERIVED. GIVEN WITH THE SEED: THE CARDS: each row of YtlfdpkgggoafaaaDoorRows.lean that lists a variable, with what it lists TIED to the program's text (the seventh form; the later family's looks); each row that meets fmt, with fmt's text TOLD by the authors' own Lean function (tested against real Go, not proved from fmt's source: count such statements apart). THE CARD IS WHAT COUNTS. Prove the row's statement (the work); the ties are given (YtlfdpkgggoafaaaDoorTie.lean); close each card by the builder's one call (the guide's Derived/Test/ToyasCard.lean, 'card_holds'). Laid BY PROGRAM, IN A SANDBOX (cutbox-door.mjs). By AI agents, Wed Nov 11 2026. No macro, syntax, notation, axiom, sorry.
-/
import Derived.Test.YtlfdpkgggoafaaaDoorRows
import GoSem.ClaimSeven
namespace Go.Proofs.YtlfdpkgggoafaaaDoor
namespace Rows

/-- THE TIED CARD OF 'warrenlaw02.SealSums'. -/
def sealSumsCard : Claim7 := { stood := { row := sealSumsRow, standIns := [], harness := (true, "58bfab6a858031994fe45c8ba9e3c1161bb36303e3e90b72b4e502066ebc5237"), looks := false }, kinds := [], alts := [], laidByText := true, laidKinds := [.data], laidTests := true, laidLooks := .later }
def SealSumsCardSaid : Prop := Claim7.holds Tryd.pinned (.plain (OpenSpec.ofChange sealSumsSpec)) sealSumsCard

/-- THE TIED CARD OF 'warrenlaw02.SealWraps'. -/
def sealWrapsCard : Claim7 := { stood := { row := sealWrapsRow, standIns := [], harness := (true, "58bfab6a858031994fe45c8ba9e3c1161bb36303e3e90b72b4e502066ebc5237"), looks := false }, kinds := [], alts := [], laidByText := true, laidKinds := [.data], laidTests := true, laidLooks := .later }
def SealWrapsCardSaid : Prop := Claim7.holds Tryd.pinned (.plain (OpenSpec.ofChange sealWrapsSpec)) sealWrapsCard

/-- THE TIED CARD OF 'warrenlaw02.SealUnwraps'. -/
def sealUnwrapsCard : Claim7 := { stood := { row := sealUnwrapsRow, standIns := [], harness := (true, "58bfab6a858031994fe45c8ba9e3c1161bb36303e3e90b72b4e502066ebc5237"), looks := false }, kinds := [], alts := [], laidByText := true, laidKinds := [.data], laidTests := true, laidLooks := .later }
def SealUnwrapsCardSaid : Prop := Claim7.holds Tryd.pinned (.plain (OpenSpec.ofChange sealUnwrapsSpec)) sealUnwrapsCard

/-- THE TIED CARD OF 'warrenlaw02.SealBurst'. -/
def sealBurstCard : Claim7 := { stood := { row := sealBurstRow, standIns := [], harness := (true, "58bfab6a858031994fe45c8ba9e3c1161bb36303e3e90b72b4e502066ebc5237"), looks := false }, kinds := [], alts := [], laidByText := true, laidKinds := [.data], laidTests := true, laidLooks := .later }
def SealBurstCardSaid : Prop := Claim7.holds Tryd.pinned (.plain (OpenSpec.ofChange sealBurstSpec)) sealBurstCard

/-- THE TIED CARD OF 'warrenlaw02.SealWhole'. -/
def sealWholeCard : Claim7 := { stood := { row := sealWholeRow, standIns := [], harness := (true, "58bfab6a858031994fe45c8ba9e3c1161bb36303e3e90b72b4e502066ebc5237"), looks := false }, kinds := [], alts := [], laidByText := true, laidKinds := [.data], laidTests := true, laidLooks := .later }
def SealWholeCardSaid : Prop := Claim7.holds Tryd.pinned (.plain (OpenSpec.ofChange sealWholeSpec)) sealWholeCard

/-- THE TIED CARD OF 'warrenlaw02.SealThere'. -/
def sealThereCard : Claim7 := { stood := { row := sealThereRow, standIns := [], harness := (true, "58bfab6a858031994fe45c8ba9e3c1161bb36303e3e90b72b4e502066ebc5237"), looks := false }, kinds := [], alts := [], laidByText := true, laidKinds := [.data], laidTests := true, laidLooks := .later }
def SealThereCardSaid : Prop := Claim7.holds Tryd.pinned (.plain (OpenSpec.ofChange sealThereSpec)) sealThereCard

/-- THE SECOND FORM's CARD OF 'warrenlaw02.SealSums'. -/
def sealSumsUptoCard : Claim7 := { stood := { row := sealSumsUptoRow, standIns := [], harness := (true, "58bfab6a858031994fe45c8ba9e3c1161bb36303e3e90b72b4e502066ebc5237"), looks := false }, kinds := [], alts := [], laidByText := true, laidKinds := [.data], laidTests := true, laidLooks := .later }
def SealSumsUptoCardSaid : Prop := Claim7.holds Tryd.pinned (.plain (OpenSpec.upto sealSumsSpec)) sealSumsUptoCard

/-- THE SECOND FORM's CARD OF 'warrenlaw02.SealWraps'. -/
def sealWrapsUptoCard : Claim7 := { stood := { row := sealWrapsUptoRow, standIns := [], harness := (true, "58bfab6a858031994fe45c8ba9e3c1161bb36303e3e90b72b4e502066ebc5237"), looks := false }, kinds := [], alts := [], laidByText := true, laidKinds := [.data], laidTests := true, laidLooks := .later }
def SealWrapsUptoCardSaid : Prop := Claim7.holds Tryd.pinned (.plain (OpenSpec.upto sealWrapsSpec)) sealWrapsUptoCard

/-- THE SECOND FORM's CARD OF 'warrenlaw02.SealUnwraps'. -/
def sealUnwrapsUptoCard : Claim7 := { stood := { row := sealUnwrapsUptoRow, standIns := [], harness := (true, "58bfab6a858031994fe45c8ba9e3c1161bb36303e3e90b72b4e502066ebc5237"), looks := false }, kinds := [], alts := [], laidByText := true, laidKinds := [.data], laidTests := true, laidLooks := .later }
def SealUnwrapsUptoCardSaid : Prop := Claim7.holds Tryd.pinned (.plain (OpenSpec.upto sealUnwrapsSpec)) sealUnwrapsUptoCard

/-- THE SECOND FORM's CARD OF 'warrenlaw02.SealBurst'. -/
def sealBurstUptoCard : Claim7 := { stood := { row := sealBurstUptoRow, standIns := [], harness := (true, "58bfab6a858031994fe45c8ba9e3c1161bb36303e3e90b72b4e502066ebc5237"), looks := false }, kinds := [], alts := [], laidByText := true, laidKinds := [.data], laidTests := true, laidLooks := .later }
def SealBurstUptoCardSaid : Prop := Claim7.holds Tryd.pinned (.plain (OpenSpec.upto sealBurstSpec)) sealBurstUptoCard

/-- THE SECOND FORM's CARD OF 'warrenlaw02.SealWhole'. -/
def sealWholeUptoCard : Claim7 := { stood := { row := sealWholeUptoRow, standIns := [], harness := (true, "58bfab6a858031994fe45c8ba9e3c1161bb36303e3e90b72b4e502066ebc5237"), looks := false }, kinds := [], alts := [], laidByText := true, laidKinds := [.data], laidTests := true, laidLooks := .later }
def SealWholeUptoCardSaid : Prop := Claim7.holds Tryd.pinned (.plain (OpenSpec.upto sealWholeSpec)) sealWholeUptoCard

/-- THE SECOND FORM's CARD OF 'warrenlaw02.SealThere'. -/
def sealThereUptoCard : Claim7 := { stood := { row := sealThereUptoRow, standIns := [], harness := (true, "58bfab6a858031994fe45c8ba9e3c1161bb36303e3e90b72b4e502066ebc5237"), looks := false }, kinds := [], alts := [], laidByText := true, laidKinds := [.data], laidTests := true, laidLooks := .later }
def SealThereUptoCardSaid : Prop := Claim7.holds Tryd.pinned (.plain (OpenSpec.upto sealThereSpec)) sealThereUptoCard
end Rows
end Go.Proofs.YtlfdpkgggoafaaaDoor
