/-
  DERIVED. GIVEN WITH THE SEED: THE CARDS: each row of YtekpdmjobkikfaaDoorRows.lean that lists a variable, with what it lists TIED to the program's text (the seventh form; the later family's looks); each row that meets fmt, with fmt's text TOLD by the authors' own Lean function (tested against real Go, not proved from fmt's source: count such statements apart). THE CARD IS WHAT COUNTS. Prove the row's statement (the work); the ties are given (YtekpdmjobkikfaaDoorTie.lean); close each card by the builder's one call (the guide's Derived/Test/ToyasCard.lean, 'card_holds'). Laid BY PROGRAM, IN A SANDBOX (cutbox-door.mjs). By AI agents, Wed Nov 11 2026. No macro, syntax, notation, axiom, sorry.
-/
import Derived.Test.YtekpdmjobkikfaaDoorRows
import GoSem.ClaimSeven
namespace Go.Proofs.YtekpdmjobkikfaaDoor
namespace Rows

/-- THE TIED CARD OF 'purlinlaw01.NumParts'. -/
def numPartsCard : Claim7 := { stood := { row := numPartsRow, standIns := [], harness := (true, "28d2a78594f325c0e6a690b1674470f72276bf41e1d32455b63d33c7d4657612"), looks := true }, kinds := [], alts := [], laidByText := true, laidKinds := [.data, .data, .data, .sentinel, .sentinel], laidTests := true, laidLooks := .later }
def NumPartsCardSaid : Prop := Claim7.holds Tryd.pinned (.plain (OpenSpec.ofChange numPartsSpec)) numPartsCard

/-- THE TIED CARD OF 'purlinlaw01.NumSums'. -/
def numSumsCard : Claim7 := { stood := { row := numSumsRow, standIns := [], harness := (true, "28d2a78594f325c0e6a690b1674470f72276bf41e1d32455b63d33c7d4657612"), looks := true }, kinds := [], alts := [], laidByText := true, laidKinds := [.data, .data, .data, .sentinel, .sentinel], laidTests := true, laidLooks := .later }
def NumSumsCardSaid : Prop := Claim7.holds Tryd.pinned (.plain (OpenSpec.ofChange numSumsSpec)) numSumsCard

/-- THE TIED CARD OF 'purlinlaw01.NumLong'. -/
def numLongCard : Claim7 := { stood := { row := numLongRow, standIns := [], harness := (true, "28d2a78594f325c0e6a690b1674470f72276bf41e1d32455b63d33c7d4657612"), looks := true }, kinds := [], alts := [], laidByText := true, laidKinds := [.data, .data, .data, .sentinel, .sentinel], laidTests := true, laidLooks := .later }
def NumLongCardSaid : Prop := Claim7.holds Tryd.pinned (.plain (OpenSpec.ofChange numLongSpec)) numLongCard

/-- THE TIED CARD OF 'purlinlaw01.NumProducts'. -/
def numProductsCard : Claim7 := { stood := { row := numProductsRow, standIns := [], harness := (true, "28d2a78594f325c0e6a690b1674470f72276bf41e1d32455b63d33c7d4657612"), looks := true }, kinds := [], alts := [], laidByText := true, laidKinds := [.data, .data, .data, .sentinel, .sentinel], laidTests := true, laidLooks := .later }
def NumProductsCardSaid : Prop := Claim7.holds Tryd.pinned (.plain (OpenSpec.ofChange numProductsSpec)) numProductsCard

/-- THE TIED CARD OF 'purlinlaw01.NumRules'. -/
def numRulesCard : Claim7 := { stood := { row := numRulesRow, standIns := [], harness := (true, "28d2a78594f325c0e6a690b1674470f72276bf41e1d32455b63d33c7d4657612"), looks := true }, kinds := [], alts := [], laidByText := true, laidKinds := [.data, .data, .data, .sentinel, .sentinel], laidTests := true, laidLooks := .later }
def NumRulesCardSaid : Prop := Claim7.holds Tryd.pinned (.plain (OpenSpec.ofChange numRulesSpec)) numRulesCard

/-- THE TIED CARD OF 'purlinlaw01.NumSigns'. -/
def numSignsCard : Claim7 := { stood := { row := numSignsRow, standIns := [], harness := (true, "28d2a78594f325c0e6a690b1674470f72276bf41e1d32455b63d33c7d4657612"), looks := true }, kinds := [], alts := [], laidByText := true, laidKinds := [.data, .data, .data, .sentinel, .sentinel], laidTests := true, laidLooks := .later }
def NumSignsCardSaid : Prop := Claim7.holds Tryd.pinned (.plain (OpenSpec.ofChange numSignsSpec)) numSignsCard

/-- THE TIED CARD OF 'purlinlaw01.NumInts'. -/
def numIntsCard : Claim7 := { stood := { row := numIntsRow, standIns := [], harness := (true, "28d2a78594f325c0e6a690b1674470f72276bf41e1d32455b63d33c7d4657612"), looks := true }, kinds := [], alts := [], laidByText := true, laidKinds := [.data, .data, .data, .sentinel, .sentinel], laidTests := true, laidLooks := .later }
def NumIntsCardSaid : Prop := Claim7.holds Tryd.pinned (.plain (OpenSpec.ofChange numIntsSpec)) numIntsCard

/-- THE SECOND FORM's CARD OF 'purlinlaw01.NumParts'. -/
def numPartsUptoCard : Claim7 := { stood := { row := numPartsUptoRow, standIns := [], harness := (true, "28d2a78594f325c0e6a690b1674470f72276bf41e1d32455b63d33c7d4657612"), looks := true }, kinds := [], alts := [], laidByText := true, laidKinds := [.data, .data, .data, .sentinel, .sentinel], laidTests := true, laidLooks := .later }
def NumPartsUptoCardSaid : Prop := Claim7.holds Tryd.pinned (.plain (OpenSpec.upto numPartsSpec)) numPartsUptoCard

/-- THE SECOND FORM's CARD OF 'purlinlaw01.NumSums'. -/
def numSumsUptoCard : Claim7 := { stood := { row := numSumsUptoRow, standIns := [], harness := (true, "28d2a78594f325c0e6a690b1674470f72276bf41e1d32455b63d33c7d4657612"), looks := true }, kinds := [], alts := [], laidByText := true, laidKinds := [.data, .data, .data, .sentinel, .sentinel], laidTests := true, laidLooks := .later }
def NumSumsUptoCardSaid : Prop := Claim7.holds Tryd.pinned (.plain (OpenSpec.upto numSumsSpec)) numSumsUptoCard

/-- THE SECOND FORM's CARD OF 'purlinlaw01.NumLong'. -/
def numLongUptoCard : Claim7 := { stood := { row := numLongUptoRow, standIns := [], harness := (true, "28d2a78594f325c0e6a690b1674470f72276bf41e1d32455b63d33c7d4657612"), looks := true }, kinds := [], alts := [], laidByText := true, laidKinds := [.data, .data, .data, .sentinel, .sentinel], laidTests := true, laidLooks := .later }
def NumLongUptoCardSaid : Prop := Claim7.holds Tryd.pinned (.plain (OpenSpec.upto numLongSpec)) numLongUptoCard

/-- THE SECOND FORM's CARD OF 'purlinlaw01.NumProducts'. -/
def numProductsUptoCard : Claim7 := { stood := { row := numProductsUptoRow, standIns := [], harness := (true, "28d2a78594f325c0e6a690b1674470f72276bf41e1d32455b63d33c7d4657612"), looks := true }, kinds := [], alts := [], laidByText := true, laidKinds := [.data, .data, .data, .sentinel, .sentinel], laidTests := true, laidLooks := .later }
def NumProductsUptoCardSaid : Prop := Claim7.holds Tryd.pinned (.plain (OpenSpec.upto numProductsSpec)) numProductsUptoCard

/-- THE SECOND FORM's CARD OF 'purlinlaw01.NumRules'. -/
def numRulesUptoCard : Claim7 := { stood := { row := numRulesUptoRow, standIns := [], harness := (true, "28d2a78594f325c0e6a690b1674470f72276bf41e1d32455b63d33c7d4657612"), looks := true }, kinds := [], alts := [], laidByText := true, laidKinds := [.data, .data, .data, .sentinel, .sentinel], laidTests := true, laidLooks := .later }
def NumRulesUptoCardSaid : Prop := Claim7.holds Tryd.pinned (.plain (OpenSpec.upto numRulesSpec)) numRulesUptoCard

/-- THE SECOND FORM's CARD OF 'purlinlaw01.NumSigns'. -/
def numSignsUptoCard : Claim7 := { stood := { row := numSignsUptoRow, standIns := [], harness := (true, "28d2a78594f325c0e6a690b1674470f72276bf41e1d32455b63d33c7d4657612"), looks := true }, kinds := [], alts := [], laidByText := true, laidKinds := [.data, .data, .data, .sentinel, .sentinel], laidTests := true, laidLooks := .later }
def NumSignsUptoCardSaid : Prop := Claim7.holds Tryd.pinned (.plain (OpenSpec.upto numSignsSpec)) numSignsUptoCard

/-- THE SECOND FORM's CARD OF 'purlinlaw01.NumInts'. -/
def numIntsUptoCard : Claim7 := { stood := { row := numIntsUptoRow, standIns := [], harness := (true, "28d2a78594f325c0e6a690b1674470f72276bf41e1d32455b63d33c7d4657612"), looks := true }, kinds := [], alts := [], laidByText := true, laidKinds := [.data, .data, .data, .sentinel, .sentinel], laidTests := true, laidLooks := .later }
def NumIntsUptoCardSaid : Prop := Claim7.holds Tryd.pinned (.plain (OpenSpec.upto numIntsSpec)) numIntsUptoCard
end Rows
end Go.Proofs.YtekpdmjobkikfaaDoor
