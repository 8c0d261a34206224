/-
  DERIVED. GIVEN WITH THE SEED: THE CARDS: each row of YtpbipngnoklmcaaGreatDoorRows.lean that lists a variable, with what it lists TIED to the program's text (the seventh form; the later family's looks); each row that meets fmt, with fmt's text TOLD by the authors' own Lean function (tested against real Go, not proved from fmt's source: count such statements apart). THE CARD IS WHAT COUNTS. Prove the row's statement (the work); the ties are given (YtpbipngnoklmcaaGreatDoorTie.lean); close each card by the builder's one call (the guide's Derived/Test/ToyasCard.lean, 'card_holds'). Laid BY PROGRAM, IN A SANDBOX (cutbox-door.mjs). By AI agents, Wed Nov 11 2026. No macro, syntax, notation, axiom, sorry.
-/
import Derived.Test.YtpbipngnoklmcaaGreatDoorRows
import GoSem.ClaimSeven
namespace Go.Proofs.YtpbipngnoklmcaaGreatDoor
namespace Rows

/-- THE TIED CARD OF 'purlinlaw17.WorldPlays'. -/
def worldPlaysCard : Claim7 := { stood := { row := worldPlaysRow, standIns := [], harness := (true, "60cf30b52046c44410be0aa119fba8416b8a7635e988e8b373dd100a9c94d26d"), looks := true }, kinds := [], alts := [], laidByText := true, laidKinds := [.data, .data, .data, .sentinel, .sentinel], laidTests := true, laidLooks := .later }
def WorldPlaysCardSaid : Prop := Claim7.holds Tryz.pinned (.plain (OpenSpec.ofChange worldPlaysSpec)) worldPlaysCard

/-- THE TIED CARD OF 'purlinlaw17.WorldOwn'. -/
def worldOwnCard : Claim7 := { stood := { row := worldOwnRow, standIns := [], harness := (true, "60cf30b52046c44410be0aa119fba8416b8a7635e988e8b373dd100a9c94d26d"), looks := true }, kinds := [], alts := [], laidByText := true, laidKinds := [.data, .data, .data, .sentinel, .sentinel], laidTests := true, laidLooks := .later }
def WorldOwnCardSaid : Prop := Claim7.holds Tryz.pinned (.plain (OpenSpec.ofChange worldOwnSpec)) worldOwnCard

/-- THE TIED CARD OF 'purlinlaw17.WorldContract'. -/
def worldContractCard : Claim7 := { stood := { row := worldContractRow, standIns := [], harness := (true, "60cf30b52046c44410be0aa119fba8416b8a7635e988e8b373dd100a9c94d26d"), looks := true }, kinds := [], alts := [], laidByText := true, laidKinds := [.data, .data, .data, .sentinel, .sentinel], laidTests := true, laidLooks := .later }
def WorldContractCardSaid : Prop := Claim7.holds Tryz.pinned (.plain (OpenSpec.ofChange worldContractSpec)) worldContractCard

/-- THE SECOND FORM's CARD OF 'purlinlaw17.WorldPlays'. -/
def worldPlaysUptoCard : Claim7 := { stood := { row := worldPlaysUptoRow, standIns := [], harness := (true, "60cf30b52046c44410be0aa119fba8416b8a7635e988e8b373dd100a9c94d26d"), looks := true }, kinds := [], alts := [], laidByText := true, laidKinds := [.data, .data, .data, .sentinel, .sentinel], laidTests := true, laidLooks := .later }
def WorldPlaysUptoCardSaid : Prop := Claim7.holds Tryz.pinned (.plain (OpenSpec.upto worldPlaysSpec)) worldPlaysUptoCard

/-- THE SECOND FORM's CARD OF 'purlinlaw17.WorldOwn'. -/
def worldOwnUptoCard : Claim7 := { stood := { row := worldOwnUptoRow, standIns := [], harness := (true, "60cf30b52046c44410be0aa119fba8416b8a7635e988e8b373dd100a9c94d26d"), looks := true }, kinds := [], alts := [], laidByText := true, laidKinds := [.data, .data, .data, .sentinel, .sentinel], laidTests := true, laidLooks := .later }
def WorldOwnUptoCardSaid : Prop := Claim7.holds Tryz.pinned (.plain (OpenSpec.upto worldOwnSpec)) worldOwnUptoCard

/-- THE SECOND FORM's CARD OF 'purlinlaw17.WorldContract'. -/
def worldContractUptoCard : Claim7 := { stood := { row := worldContractUptoRow, standIns := [], harness := (true, "60cf30b52046c44410be0aa119fba8416b8a7635e988e8b373dd100a9c94d26d"), looks := true }, kinds := [], alts := [], laidByText := true, laidKinds := [.data, .data, .data, .sentinel, .sentinel], laidTests := true, laidLooks := .later }
def WorldContractUptoCardSaid : Prop := Claim7.holds Tryz.pinned (.plain (OpenSpec.upto worldContractSpec)) worldContractUptoCard
end Rows
end Go.Proofs.YtpbipngnoklmcaaGreatDoor
