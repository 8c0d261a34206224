/-
  DERIVED. GIVEN WITH THE SEED: THE CARDS: each row of YtnjbdedmalpccaaDoorRows.lean that lists a variable, with what it lists TIED to the program's text (the seventh form; the later family's looks); each row that meets fmt, with fmt's text TOLD by the authors' own Lean function (tested against real Go, not proved from fmt's source: count such statements apart). THE CARD IS WHAT COUNTS. Prove the row's statement (the work); the ties are given (YtnjbdedmalpccaaDoorTie.lean); close each card by the builder's one call (the guide's Derived/Test/ToyasCard.lean, 'card_holds'). Laid BY PROGRAM, IN A SANDBOX (cutbox-door.mjs). By AI agents, Wed Nov 11 2026. No macro, syntax, notation, axiom, sorry.
-/
import Derived.Test.YtnjbdedmalpccaaDoorRows
import GoSem.ClaimSeven
namespace Go.Proofs.YtnjbdedmalpccaaDoor
namespace Rows

/-- THE TIED CARD OF 'purlinlaw18.PlanChain'. -/
def planChainCard : Claim7 := { stood := { row := planChainRow, standIns := [], harness := (true, "4e57f7fc3fcc4602a458e47ed9299e19d4bda1aeb6aa4d17a474c1ce08a6d3b9"), looks := true }, kinds := [], alts := [], laidByText := true, laidKinds := [.data], laidTests := true, laidLooks := .later }
def PlanChainCardSaid : Prop := Claim7.holds Tryd.pinned (.plain (OpenSpec.ofChange planChainSpec)) planChainCard

/-- THE SECOND FORM's CARD OF 'purlinlaw18.PlanChain'. -/
def planChainUptoCard : Claim7 := { stood := { row := planChainUptoRow, standIns := [], harness := (true, "4e57f7fc3fcc4602a458e47ed9299e19d4bda1aeb6aa4d17a474c1ce08a6d3b9"), looks := true }, kinds := [], alts := [], laidByText := true, laidKinds := [.data], laidTests := true, laidLooks := .later }
def PlanChainUptoCardSaid : Prop := Claim7.holds Tryd.pinned (.plain (OpenSpec.upto planChainSpec)) planChainUptoCard
end Rows
end Go.Proofs.YtnjbdedmalpccaaDoor
