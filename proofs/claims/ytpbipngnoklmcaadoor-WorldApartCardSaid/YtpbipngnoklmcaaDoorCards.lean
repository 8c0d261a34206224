/-
  DERIVED. GIVEN WITH THE SEED: THE CARDS: each row of YtpbipngnoklmcaaDoorRows.lean that lists a variable, with what it lists TIED to the program's text (the seventh form; the later family's looks); each row that meets fmt, with fmt's text TOLD by the authors' own Lean function (tested against real Go, not proved from fmt's source: count such statements apart). THE CARD IS WHAT COUNTS. Prove the row's statement (the work); the ties are given (YtpbipngnoklmcaaDoorTie.lean); close each card by the builder's one call (the guide's Derived/Test/ToyasCard.lean, 'card_holds'). Laid BY PROGRAM, IN A SANDBOX (cutbox-door.mjs). By AI agents, Wed Nov 11 2026. No macro, syntax, notation, axiom, sorry.
-/
import Derived.Test.YtpbipngnoklmcaaDoorRows
import GoSem.ClaimSeven
namespace Go.Proofs.YtpbipngnoklmcaaDoor
namespace Rows

/-- THE TIED CARD OF 'purlinlaw17.WorldApart'. -/
def worldApartCard : Claim7 := { stood := { row := worldApartRow, standIns := [], harness := (true, "7d7135bc304ab44bcd34aa5d08ad60967b7283aaf292a4c5c15eb512e802c471"), looks := true }, kinds := [], alts := [], laidByText := true, laidKinds := [.data, .data, .data, .sentinel, .sentinel], laidTests := true, laidLooks := .later }
def WorldApartCardSaid : Prop := Claim7.holds Tryd.pinned (.plain (OpenSpec.ofChange worldApartSpec)) worldApartCard

/-- THE TIED CARD OF 'purlinlaw17.WorldNumbers'. -/
def worldNumbersCard : Claim7 := { stood := { row := worldNumbersRow, standIns := [], harness := (true, "7d7135bc304ab44bcd34aa5d08ad60967b7283aaf292a4c5c15eb512e802c471"), looks := true }, kinds := [], alts := [], laidByText := true, laidKinds := [.data, .data, .data, .sentinel, .sentinel], laidTests := true, laidLooks := .later }
def WorldNumbersCardSaid : Prop := Claim7.holds Tryd.pinned (.plain (OpenSpec.ofChange worldNumbersSpec)) worldNumbersCard

/-- THE SECOND FORM's CARD OF 'purlinlaw17.WorldApart'. -/
def worldApartUptoCard : Claim7 := { stood := { row := worldApartUptoRow, standIns := [], harness := (true, "7d7135bc304ab44bcd34aa5d08ad60967b7283aaf292a4c5c15eb512e802c471"), looks := true }, kinds := [], alts := [], laidByText := true, laidKinds := [.data, .data, .data, .sentinel, .sentinel], laidTests := true, laidLooks := .later }
def WorldApartUptoCardSaid : Prop := Claim7.holds Tryd.pinned (.plain (OpenSpec.upto worldApartSpec)) worldApartUptoCard

/-- THE SECOND FORM's CARD OF 'purlinlaw17.WorldNumbers'. -/
def worldNumbersUptoCard : Claim7 := { stood := { row := worldNumbersUptoRow, standIns := [], harness := (true, "7d7135bc304ab44bcd34aa5d08ad60967b7283aaf292a4c5c15eb512e802c471"), looks := true }, kinds := [], alts := [], laidByText := true, laidKinds := [.data, .data, .data, .sentinel, .sentinel], laidTests := true, laidLooks := .later }
def WorldNumbersUptoCardSaid : Prop := Claim7.holds Tryd.pinned (.plain (OpenSpec.upto worldNumbersSpec)) worldNumbersUptoCard
end Rows
end Go.Proofs.YtpbipngnoklmcaaDoor
