/-
  DERIVED. GIVEN WITH THE SEED: THE CARDS: each row of YtelioljmhlabjaaDoorRows.lean that lists a variable, with what it lists TIED to the program's text (the seventh form; the later family's looks); each row that meets fmt, with fmt's text TOLD by the authors' own Lean function (tested against real Go, not proved from fmt's source: count such statements apart). THE CARD IS WHAT COUNTS. Prove the row's statement (the work); the ties are given (YtelioljmhlabjaaDoorTie.lean); close each card by the builder's one call (the guide's Derived/Test/ToyasCard.lean, 'card_holds'). Laid BY PROGRAM, IN A SANDBOX (cutbox-door.mjs). By AI agents, Wed Nov 11 2026. No macro, syntax, notation, axiom, sorry.
-/
import Derived.Test.YtelioljmhlabjaaDoorRows
import GoSem.ClaimSeven
namespace Go.Proofs.YtelioljmhlabjaaDoor
namespace Rows

/-- THE TIED CARD OF 'purlinlaw12.GraphOrders'. -/
def graphOrdersCard : Claim7 := { stood := { row := graphOrdersRow, standIns := [], harness := (true, "13dd9cf6474f7fc1802e3e443c5e7615c53160d9d9a1e6c163c427668780e4d6"), looks := true }, kinds := [], alts := [], laidByText := true, laidKinds := [.data], laidTests := true, laidLooks := .later }
def GraphOrdersCardSaid : Prop := Claim7.holds Tryd.pinned (.plain (OpenSpec.ofChange graphOrdersSpec)) graphOrdersCard

/-- THE TIED CARD OF 'purlinlaw12.GraphOrderly'. -/
def graphOrderlyCard : Claim7 := { stood := { row := graphOrderlyRow, standIns := [], harness := (true, "13dd9cf6474f7fc1802e3e443c5e7615c53160d9d9a1e6c163c427668780e4d6"), looks := true }, kinds := [], alts := [], laidByText := true, laidKinds := [.data], laidTests := true, laidLooks := .later }
def GraphOrderlyCardSaid : Prop := Claim7.holds Tryd.pinned (.plain (OpenSpec.ofChange graphOrderlySpec)) graphOrderlyCard

/-- THE TIED CARD OF 'purlinlaw12.GraphReaches'. -/
def graphReachesCard : Claim7 := { stood := { row := graphReachesRow, standIns := [], harness := (true, "13dd9cf6474f7fc1802e3e443c5e7615c53160d9d9a1e6c163c427668780e4d6"), looks := true }, kinds := [], alts := [], laidByText := true, laidKinds := [.data], laidTests := true, laidLooks := .later }
def GraphReachesCardSaid : Prop := Claim7.holds Tryd.pinned (.plain (OpenSpec.ofChange graphReachesSpec)) graphReachesCard

/-- THE TIED CARD OF 'purlinlaw12.GraphCycles'. -/
def graphCyclesCard : Claim7 := { stood := { row := graphCyclesRow, standIns := [], harness := (true, "13dd9cf6474f7fc1802e3e443c5e7615c53160d9d9a1e6c163c427668780e4d6"), looks := true }, kinds := [], alts := [], laidByText := true, laidKinds := [.data], laidTests := true, laidLooks := .later }
def GraphCyclesCardSaid : Prop := Claim7.holds Tryd.pinned (.plain (OpenSpec.ofChange graphCyclesSpec)) graphCyclesCard

/-- THE TIED CARD OF 'purlinlaw12.GraphReduces'. -/
def graphReducesCard : Claim7 := { stood := { row := graphReducesRow, standIns := [], harness := (true, "13dd9cf6474f7fc1802e3e443c5e7615c53160d9d9a1e6c163c427668780e4d6"), looks := true }, kinds := [], alts := [], laidByText := true, laidKinds := [.data], laidTests := true, laidLooks := .later }
def GraphReducesCardSaid : Prop := Claim7.holds Tryd.pinned (.plain (OpenSpec.ofChange graphReducesSpec)) graphReducesCard

/-- THE TIED CARD OF 'purlinlaw12.GraphTwice'. -/
def graphTwiceCard : Claim7 := { stood := { row := graphTwiceRow, standIns := [], harness := (true, "13dd9cf6474f7fc1802e3e443c5e7615c53160d9d9a1e6c163c427668780e4d6"), looks := true }, kinds := [], alts := [], laidByText := true, laidKinds := [.data], laidTests := true, laidLooks := .later }
def GraphTwiceCardSaid : Prop := Claim7.holds Tryd.pinned (.plain (OpenSpec.ofChange graphTwiceSpec)) graphTwiceCard

/-- THE TIED CARD OF 'purlinlaw19.WalkLimit'. -/
def walkLimitCard : Claim7 := { stood := { row := walkLimitRow, standIns := [], harness := (true, "13dd9cf6474f7fc1802e3e443c5e7615c53160d9d9a1e6c163c427668780e4d6"), looks := true }, kinds := [], alts := [], laidByText := true, laidKinds := [.data], laidTests := true, laidLooks := .later }
def WalkLimitCardSaid : Prop := Claim7.holds Tryd.pinned (.plain (OpenSpec.ofChange walkLimitSpec)) walkLimitCard

/-- THE TIED CARD OF 'purlinlaw19.WalkPlays'. -/
def walkPlaysCard : Claim7 := { stood := { row := walkPlaysRow, standIns := [], harness := (true, "13dd9cf6474f7fc1802e3e443c5e7615c53160d9d9a1e6c163c427668780e4d6"), looks := true }, kinds := [], alts := [], laidByText := true, laidKinds := [.data], laidTests := true, laidLooks := .later }
def WalkPlaysCardSaid : Prop := Claim7.holds Tryd.pinned (.plain (OpenSpec.ofChange walkPlaysSpec)) walkPlaysCard

/-- THE TIED CARD OF 'purlinlaw19.WalkOrder'. -/
def walkOrderCard : Claim7 := { stood := { row := walkOrderRow, standIns := [], harness := (true, "13dd9cf6474f7fc1802e3e443c5e7615c53160d9d9a1e6c163c427668780e4d6"), looks := true }, kinds := [], alts := [], laidByText := true, laidKinds := [.data], laidTests := true, laidLooks := .later }
def WalkOrderCardSaid : Prop := Claim7.holds Tryd.pinned (.plain (OpenSpec.ofChange walkOrderSpec)) walkOrderCard

/-- THE TIED CARD OF 'purlinlaw19.WalkAlike'. -/
def walkAlikeCard : Claim7 := { stood := { row := walkAlikeRow, standIns := [], harness := (true, "13dd9cf6474f7fc1802e3e443c5e7615c53160d9d9a1e6c163c427668780e4d6"), looks := true }, kinds := [], alts := [], laidByText := true, laidKinds := [.data], laidTests := true, laidLooks := .later }
def WalkAlikeCardSaid : Prop := Claim7.holds Tryd.pinned (.plain (OpenSpec.ofChange walkAlikeSpec)) walkAlikeCard

/-- THE TIED CARD OF 'purlinlaw19.WalkLeast'. -/
def walkLeastCard : Claim7 := { stood := { row := walkLeastRow, standIns := [], harness := (true, "13dd9cf6474f7fc1802e3e443c5e7615c53160d9d9a1e6c163c427668780e4d6"), looks := true }, kinds := [], alts := [], laidByText := true, laidKinds := [.data], laidTests := true, laidLooks := .later }
def WalkLeastCardSaid : Prop := Claim7.holds Tryd.pinned (.plain (OpenSpec.ofChange walkLeastSpec)) walkLeastCard

/-- THE TIED CARD OF 'purlinlaw12.GraphLimits'. -/
def graphLimitsCard : Claim7 := { stood := { row := graphLimitsRow, standIns := [], harness := (true, "13dd9cf6474f7fc1802e3e443c5e7615c53160d9d9a1e6c163c427668780e4d6"), looks := true }, kinds := [], alts := [], laidByText := true, laidKinds := [.data], laidTests := true, laidLooks := .later }
def GraphLimitsCardSaid : Prop := Claim7.holds Tryd.pinned (.plain (OpenSpec.ofChange graphLimitsSpec)) graphLimitsCard

/-- THE SECOND FORM's CARD OF 'purlinlaw12.GraphOrders'. -/
def graphOrdersUptoCard : Claim7 := { stood := { row := graphOrdersUptoRow, standIns := [], harness := (true, "13dd9cf6474f7fc1802e3e443c5e7615c53160d9d9a1e6c163c427668780e4d6"), looks := true }, kinds := [], alts := [], laidByText := true, laidKinds := [.data], laidTests := true, laidLooks := .later }
def GraphOrdersUptoCardSaid : Prop := Claim7.holds Tryd.pinned (.plain (OpenSpec.upto graphOrdersSpec)) graphOrdersUptoCard

/-- THE SECOND FORM's CARD OF 'purlinlaw12.GraphOrderly'. -/
def graphOrderlyUptoCard : Claim7 := { stood := { row := graphOrderlyUptoRow, standIns := [], harness := (true, "13dd9cf6474f7fc1802e3e443c5e7615c53160d9d9a1e6c163c427668780e4d6"), looks := true }, kinds := [], alts := [], laidByText := true, laidKinds := [.data], laidTests := true, laidLooks := .later }
def GraphOrderlyUptoCardSaid : Prop := Claim7.holds Tryd.pinned (.plain (OpenSpec.upto graphOrderlySpec)) graphOrderlyUptoCard

/-- THE SECOND FORM's CARD OF 'purlinlaw12.GraphReaches'. -/
def graphReachesUptoCard : Claim7 := { stood := { row := graphReachesUptoRow, standIns := [], harness := (true, "13dd9cf6474f7fc1802e3e443c5e7615c53160d9d9a1e6c163c427668780e4d6"), looks := true }, kinds := [], alts := [], laidByText := true, laidKinds := [.data], laidTests := true, laidLooks := .later }
def GraphReachesUptoCardSaid : Prop := Claim7.holds Tryd.pinned (.plain (OpenSpec.upto graphReachesSpec)) graphReachesUptoCard

/-- THE SECOND FORM's CARD OF 'purlinlaw12.GraphCycles'. -/
def graphCyclesUptoCard : Claim7 := { stood := { row := graphCyclesUptoRow, standIns := [], harness := (true, "13dd9cf6474f7fc1802e3e443c5e7615c53160d9d9a1e6c163c427668780e4d6"), looks := true }, kinds := [], alts := [], laidByText := true, laidKinds := [.data], laidTests := true, laidLooks := .later }
def GraphCyclesUptoCardSaid : Prop := Claim7.holds Tryd.pinned (.plain (OpenSpec.upto graphCyclesSpec)) graphCyclesUptoCard

/-- THE SECOND FORM's CARD OF 'purlinlaw12.GraphReduces'. -/
def graphReducesUptoCard : Claim7 := { stood := { row := graphReducesUptoRow, standIns := [], harness := (true, "13dd9cf6474f7fc1802e3e443c5e7615c53160d9d9a1e6c163c427668780e4d6"), looks := true }, kinds := [], alts := [], laidByText := true, laidKinds := [.data], laidTests := true, laidLooks := .later }
def GraphReducesUptoCardSaid : Prop := Claim7.holds Tryd.pinned (.plain (OpenSpec.upto graphReducesSpec)) graphReducesUptoCard

/-- THE SECOND FORM's CARD OF 'purlinlaw12.GraphTwice'. -/
def graphTwiceUptoCard : Claim7 := { stood := { row := graphTwiceUptoRow, standIns := [], harness := (true, "13dd9cf6474f7fc1802e3e443c5e7615c53160d9d9a1e6c163c427668780e4d6"), looks := true }, kinds := [], alts := [], laidByText := true, laidKinds := [.data], laidTests := true, laidLooks := .later }
def GraphTwiceUptoCardSaid : Prop := Claim7.holds Tryd.pinned (.plain (OpenSpec.upto graphTwiceSpec)) graphTwiceUptoCard

/-- THE SECOND FORM's CARD OF 'purlinlaw19.WalkLimit'. -/
def walkLimitUptoCard : Claim7 := { stood := { row := walkLimitUptoRow, standIns := [], harness := (true, "13dd9cf6474f7fc1802e3e443c5e7615c53160d9d9a1e6c163c427668780e4d6"), looks := true }, kinds := [], alts := [], laidByText := true, laidKinds := [.data], laidTests := true, laidLooks := .later }
def WalkLimitUptoCardSaid : Prop := Claim7.holds Tryd.pinned (.plain (OpenSpec.upto walkLimitSpec)) walkLimitUptoCard

/-- THE SECOND FORM's CARD OF 'purlinlaw19.WalkPlays'. -/
def walkPlaysUptoCard : Claim7 := { stood := { row := walkPlaysUptoRow, standIns := [], harness := (true, "13dd9cf6474f7fc1802e3e443c5e7615c53160d9d9a1e6c163c427668780e4d6"), looks := true }, kinds := [], alts := [], laidByText := true, laidKinds := [.data], laidTests := true, laidLooks := .later }
def WalkPlaysUptoCardSaid : Prop := Claim7.holds Tryd.pinned (.plain (OpenSpec.upto walkPlaysSpec)) walkPlaysUptoCard

/-- THE SECOND FORM's CARD OF 'purlinlaw19.WalkOrder'. -/
def walkOrderUptoCard : Claim7 := { stood := { row := walkOrderUptoRow, standIns := [], harness := (true, "13dd9cf6474f7fc1802e3e443c5e7615c53160d9d9a1e6c163c427668780e4d6"), looks := true }, kinds := [], alts := [], laidByText := true, laidKinds := [.data], laidTests := true, laidLooks := .later }
def WalkOrderUptoCardSaid : Prop := Claim7.holds Tryd.pinned (.plain (OpenSpec.upto walkOrderSpec)) walkOrderUptoCard

/-- THE SECOND FORM's CARD OF 'purlinlaw19.WalkAlike'. -/
def walkAlikeUptoCard : Claim7 := { stood := { row := walkAlikeUptoRow, standIns := [], harness := (true, "13dd9cf6474f7fc1802e3e443c5e7615c53160d9d9a1e6c163c427668780e4d6"), looks := true }, kinds := [], alts := [], laidByText := true, laidKinds := [.data], laidTests := true, laidLooks := .later }
def WalkAlikeUptoCardSaid : Prop := Claim7.holds Tryd.pinned (.plain (OpenSpec.upto walkAlikeSpec)) walkAlikeUptoCard

/-- THE SECOND FORM's CARD OF 'purlinlaw19.WalkLeast'. -/
def walkLeastUptoCard : Claim7 := { stood := { row := walkLeastUptoRow, standIns := [], harness := (true, "13dd9cf6474f7fc1802e3e443c5e7615c53160d9d9a1e6c163c427668780e4d6"), looks := true }, kinds := [], alts := [], laidByText := true, laidKinds := [.data], laidTests := true, laidLooks := .later }
def WalkLeastUptoCardSaid : Prop := Claim7.holds Tryd.pinned (.plain (OpenSpec.upto walkLeastSpec)) walkLeastUptoCard

/-- THE SECOND FORM's CARD OF 'purlinlaw12.GraphLimits'. -/
def graphLimitsUptoCard : Claim7 := { stood := { row := graphLimitsUptoRow, standIns := [], harness := (true, "13dd9cf6474f7fc1802e3e443c5e7615c53160d9d9a1e6c163c427668780e4d6"), looks := true }, kinds := [], alts := [], laidByText := true, laidKinds := [.data], laidTests := true, laidLooks := .later }
def GraphLimitsUptoCardSaid : Prop := Claim7.holds Tryd.pinned (.plain (OpenSpec.upto graphLimitsSpec)) graphLimitsUptoCard
end Rows
end Go.Proofs.YtelioljmhlabjaaDoor
