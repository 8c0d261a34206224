/-
  DERIVED. GIVEN WITH THE SEED: THE CARDS: each row of YtgbalofdfdafmaaDoorRows.lean that lists a variable, with what it lists TIED to the program's text (the seventh form; the later family's looks); each row that meets fmt, with fmt's text TOLD by the authors' own Lean function (tested against real Go, not proved from fmt's source: count such statements apart). THE CARD IS WHAT COUNTS. Prove the row's statement (the work); the ties are given (YtgbalofdfdafmaaDoorTie.lean); close each card by the builder's one call (the guide's Derived/Test/ToyasCard.lean, 'card_holds'). Laid BY PROGRAM, IN A SANDBOX (cutbox-door.mjs). By AI agents, Wed Nov 11 2026. No macro, syntax, notation, axiom, sorry.
-/
import Derived.Test.YtgbalofdfdafmaaDoorRows
import GoSem.ClaimSeven
namespace Go.Proofs.YtgbalofdfdafmaaDoor
namespace Rows

/-- THE TIED CARD OF 'purlinlaw02.ValueWhole'. -/
def valueWholeCard : Claim7 := { stood := { row := valueWholeRow, standIns := [], harness := (true, "f40bd15724641b4876ceb15ac0217b797f40ae1877c0e1ccc87e180ea5fd1910"), looks := true }, kinds := [], alts := [], laidByText := true, laidKinds := [.data, .data, .data, .sentinel, .sentinel], laidTests := true, laidLooks := .later }
def ValueWholeCardSaid : Prop := Claim7.holds Tryd.pinned (.plain (OpenSpec.ofChange valueWholeSpec)) valueWholeCard

/-- THE TIED CARD OF 'purlinlaw02.ValueKeys'. -/
def valueKeysCard : Claim7 := { stood := { row := valueKeysRow, standIns := [], harness := (true, "f40bd15724641b4876ceb15ac0217b797f40ae1877c0e1ccc87e180ea5fd1910"), looks := true }, kinds := [], alts := [], laidByText := true, laidKinds := [.data, .data, .data, .sentinel, .sentinel], laidTests := true, laidLooks := .later }
def ValueKeysCardSaid : Prop := Claim7.holds Tryd.pinned (.plain (OpenSpec.ofChange valueKeysSpec)) valueKeysCard

/-- THE TIED CARD OF 'purlinlaw02.ValueOwn'. -/
def valueOwnCard : Claim7 := { stood := { row := valueOwnRow, standIns := [], harness := (true, "f40bd15724641b4876ceb15ac0217b797f40ae1877c0e1ccc87e180ea5fd1910"), looks := true }, kinds := [], alts := [], laidByText := true, laidKinds := [.data, .data, .data, .sentinel, .sentinel], laidTests := true, laidLooks := .later }
def ValueOwnCardSaid : Prop := Claim7.holds Tryd.pinned (.plain (OpenSpec.ofChange valueOwnSpec)) valueOwnCard

/-- THE TIED CARD OF 'purlinlaw02.ValueGood'. -/
def valueGoodCard : Claim7 := { stood := { row := valueGoodRow, standIns := [], harness := (true, "f40bd15724641b4876ceb15ac0217b797f40ae1877c0e1ccc87e180ea5fd1910"), looks := true }, kinds := [], alts := [], laidByText := true, laidKinds := [.data, .data, .data, .sentinel, .sentinel], laidTests := true, laidLooks := .later }
def ValueGoodCardSaid : Prop := Claim7.holds Tryd.pinned (.plain (OpenSpec.ofChange valueGoodSpec)) valueGoodCard

/-- THE SECOND FORM's CARD OF 'purlinlaw02.ValueWhole'. -/
def valueWholeUptoCard : Claim7 := { stood := { row := valueWholeUptoRow, standIns := [], harness := (true, "f40bd15724641b4876ceb15ac0217b797f40ae1877c0e1ccc87e180ea5fd1910"), looks := true }, kinds := [], alts := [], laidByText := true, laidKinds := [.data, .data, .data, .sentinel, .sentinel], laidTests := true, laidLooks := .later }
def ValueWholeUptoCardSaid : Prop := Claim7.holds Tryd.pinned (.plain (OpenSpec.upto valueWholeSpec)) valueWholeUptoCard

/-- THE SECOND FORM's CARD OF 'purlinlaw02.ValueKeys'. -/
def valueKeysUptoCard : Claim7 := { stood := { row := valueKeysUptoRow, standIns := [], harness := (true, "f40bd15724641b4876ceb15ac0217b797f40ae1877c0e1ccc87e180ea5fd1910"), looks := true }, kinds := [], alts := [], laidByText := true, laidKinds := [.data, .data, .data, .sentinel, .sentinel], laidTests := true, laidLooks := .later }
def ValueKeysUptoCardSaid : Prop := Claim7.holds Tryd.pinned (.plain (OpenSpec.upto valueKeysSpec)) valueKeysUptoCard

/-- THE SECOND FORM's CARD OF 'purlinlaw02.ValueOwn'. -/
def valueOwnUptoCard : Claim7 := { stood := { row := valueOwnUptoRow, standIns := [], harness := (true, "f40bd15724641b4876ceb15ac0217b797f40ae1877c0e1ccc87e180ea5fd1910"), looks := true }, kinds := [], alts := [], laidByText := true, laidKinds := [.data, .data, .data, .sentinel, .sentinel], laidTests := true, laidLooks := .later }
def ValueOwnUptoCardSaid : Prop := Claim7.holds Tryd.pinned (.plain (OpenSpec.upto valueOwnSpec)) valueOwnUptoCard

/-- THE SECOND FORM's CARD OF 'purlinlaw02.ValueGood'. -/
def valueGoodUptoCard : Claim7 := { stood := { row := valueGoodUptoRow, standIns := [], harness := (true, "f40bd15724641b4876ceb15ac0217b797f40ae1877c0e1ccc87e180ea5fd1910"), looks := true }, kinds := [], alts := [], laidByText := true, laidKinds := [.data, .data, .data, .sentinel, .sentinel], laidTests := true, laidLooks := .later }
def ValueGoodUptoCardSaid : Prop := Claim7.holds Tryd.pinned (.plain (OpenSpec.upto valueGoodSpec)) valueGoodUptoCard
end Rows
end Go.Proofs.YtgbalofdfdafmaaDoor
