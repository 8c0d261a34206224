/-
  DERIVED. GIVEN WITH THE SEED: THE CARDS: each row of YtgmgmjddadgkkaaDoorRows.lean that lists a variable, with what it lists TIED to the program's text (the seventh form; the later family's looks); each row that meets fmt, with fmt's text TOLD by the authors' own Lean function (tested against real Go, not proved from fmt's source: count such statements apart). THE CARD IS WHAT COUNTS. Prove the row's statement (the work); the ties are given (YtgmgmjddadgkkaaDoorTie.lean); close each card by the builder's one call (the guide's Derived/Test/ToyasCard.lean, 'card_holds'). Laid BY PROGRAM, IN A SANDBOX (cutbox-door.mjs). By AI agents, Wed Nov 11 2026. No macro, syntax, notation, axiom, sorry.
-/
import Derived.Test.YtgmgmjddadgkkaaDoorRows
import GoSem.ClaimSeven
namespace Go.Proofs.YtgmgmjddadgkkaaDoor
namespace Rows

/-- THE TIED CARD OF 'purlinlaw04.LexStands'. -/
def lexStandsCard : Claim7 := { stood := { row := lexStandsRow, standIns := [], harness := (true, "a56a46607bf9e7a336609759c258e0680525182e0197e57988413f7923d468f2"), looks := false }, kinds := [], alts := [], laidByText := true, laidKinds := [.data, .pinned], laidTests := true, laidLooks := .later }
def LexStandsCardSaid : Prop := Claim7.holds Tryd.pinned (.plain (OpenSpec.ofChange lexStandsSpec)) lexStandsCard

/-- THE TIED CARD OF 'purlinlaw04.LexHeredocs'. -/
def lexHeredocsCard : Claim7 := { stood := { row := lexHeredocsRow, standIns := [], harness := (true, "a56a46607bf9e7a336609759c258e0680525182e0197e57988413f7923d468f2"), looks := false }, kinds := [], alts := [], laidByText := true, laidKinds := [.data, .pinned], laidTests := true, laidLooks := .later }
def LexHeredocsCardSaid : Prop := Claim7.holds Tryd.pinned (.plain (OpenSpec.ofChange lexHeredocsSpec)) lexHeredocsCard

/-- THE TIED CARD OF 'purlinlaw04.LexLimits'. -/
def lexLimitsCard : Claim7 := { stood := { row := lexLimitsRow, standIns := [], harness := (true, "a56a46607bf9e7a336609759c258e0680525182e0197e57988413f7923d468f2"), looks := false }, kinds := [], alts := [], laidByText := true, laidKinds := [.data, .pinned], laidTests := true, laidLooks := .later }
def LexLimitsCardSaid : Prop := Claim7.holds Tryd.pinned (.plain (OpenSpec.ofChange lexLimitsSpec)) lexLimitsCard

/-- THE TIED CARD OF 'purlinlaw04.LexCounts'. -/
def lexCountsCard : Claim7 := { stood := { row := lexCountsRow, standIns := [], harness := (true, "a56a46607bf9e7a336609759c258e0680525182e0197e57988413f7923d468f2"), looks := false }, kinds := [], alts := [], laidByText := true, laidKinds := [.data, .pinned], laidTests := true, laidLooks := .later }
def LexCountsCardSaid : Prop := Claim7.holds Tryd.pinned (.plain (OpenSpec.ofChange lexCountsSpec)) lexCountsCard

/-- THE SECOND FORM's CARD OF 'purlinlaw04.LexStands'. -/
def lexStandsUptoCard : Claim7 := { stood := { row := lexStandsUptoRow, standIns := [], harness := (true, "a56a46607bf9e7a336609759c258e0680525182e0197e57988413f7923d468f2"), looks := false }, kinds := [], alts := [], laidByText := true, laidKinds := [.data, .pinned], laidTests := true, laidLooks := .later }
def LexStandsUptoCardSaid : Prop := Claim7.holds Tryd.pinned (.plain (OpenSpec.upto lexStandsSpec)) lexStandsUptoCard

/-- THE SECOND FORM's CARD OF 'purlinlaw04.LexHeredocs'. -/
def lexHeredocsUptoCard : Claim7 := { stood := { row := lexHeredocsUptoRow, standIns := [], harness := (true, "a56a46607bf9e7a336609759c258e0680525182e0197e57988413f7923d468f2"), looks := false }, kinds := [], alts := [], laidByText := true, laidKinds := [.data, .pinned], laidTests := true, laidLooks := .later }
def LexHeredocsUptoCardSaid : Prop := Claim7.holds Tryd.pinned (.plain (OpenSpec.upto lexHeredocsSpec)) lexHeredocsUptoCard

/-- THE SECOND FORM's CARD OF 'purlinlaw04.LexLimits'. -/
def lexLimitsUptoCard : Claim7 := { stood := { row := lexLimitsUptoRow, standIns := [], harness := (true, "a56a46607bf9e7a336609759c258e0680525182e0197e57988413f7923d468f2"), looks := false }, kinds := [], alts := [], laidByText := true, laidKinds := [.data, .pinned], laidTests := true, laidLooks := .later }
def LexLimitsUptoCardSaid : Prop := Claim7.holds Tryd.pinned (.plain (OpenSpec.upto lexLimitsSpec)) lexLimitsUptoCard

/-- THE SECOND FORM's CARD OF 'purlinlaw04.LexCounts'. -/
def lexCountsUptoCard : Claim7 := { stood := { row := lexCountsUptoRow, standIns := [], harness := (true, "a56a46607bf9e7a336609759c258e0680525182e0197e57988413f7923d468f2"), looks := false }, kinds := [], alts := [], laidByText := true, laidKinds := [.data, .pinned], laidTests := true, laidLooks := .later }
def LexCountsUptoCardSaid : Prop := Claim7.holds Tryd.pinned (.plain (OpenSpec.upto lexCountsSpec)) lexCountsUptoCard
end Rows
end Go.Proofs.YtgmgmjddadgkkaaDoor
