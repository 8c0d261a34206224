/-
  NARROWER THAN 'FOR EVERY INPUT', by the rows' own cells (each row's printed sentence says how): GraphOrders: laid · GraphOrderly: laid · GraphReaches: laid · GraphCycles: laid · GraphReduces: laid · GraphTwice: laid · WalkLimit: laid · WalkPlays: laid · WalkOrder: laid · WalkAlike: laid · WalkLeast: laid · GraphLimits: laid.
  DERIVED. THE GIVEN ROWS OF THIS SEAT. 12 by the template 'for every input the law returns true; each argument reads behind the call as it read before'; 0 by the template 'total and deterministic' (their statements: YtelioljmhlabjaaDoorTotals.lean).
  GIVEN WITH THE SEED: the statements are not yours to turn. If you find one false, say at which input.
  Laid BY PROGRAM, IN A SANDBOX (cutbox-rows.mjs): the forced cells as the released guide's own fill.sh prints them over the translation 93cd91a481859bb6… (all of the seat's roots in one cut). By AI agents, Wed Nov 11 2026. No macro, syntax, notation, axiom, sorry.
-/
import Derived.Test.YtelioljmhlabjaaDoorChecked
import GoSem.Claim
import GoSem.ClaimJoined
import GoSem.ClaimMapViews
import Derived.JoinedTies
import Derived.KernelRfl
namespace Go.Proofs.YtelioljmhlabjaaDoor
/- THE CELL 'sum', in the pinned program and in every row, IS THE sha256 OF THE DUMP (.gsa) THAT YtelioljmhlabjaaDoorProg.lean LOADS. Nothing in Lean hashes anything: it is a label: what it is worth is what the hold of that sum in a sandbox is worth. -/
noncomputable def Tryd.pinned : Pinned := { name := "ytelioljmhlabjaadoor", sum := "93cd91a481859bb6841ec0ab8780d9bc972887f64ed71ac09790b5f932fe612f", checked := Tryd.checked }
namespace Rows
def none {H : Type} : Left H := { results := [], args := [] }

/- WHAT THE LISTED PACKAGE-LEVEL VARIABLES READ AS WHEN THE CALL BEGINS. Each datum BY PROGRAM (the guide's laid-datum.mjs) off the statement by which the dump's own 'gosem.cut.vars' lays the variable. In a bare row this is a premise. The card (YtelioljmhlabjaaDoorCards.lean) ties it to the program's text. -/
def laid_math_bits_deBruijn64tab {H : Type} : DataW H := .agg [.lit (.int .u8 0), .lit (.int .u8 1), .lit (.int .u8 56), .lit (.int .u8 2), .lit (.int .u8 57), .lit (.int .u8 49), .lit (.int .u8 28), .lit (.int .u8 3), .lit (.int .u8 61), .lit (.int .u8 58), .lit (.int .u8 42), .lit (.int .u8 50), .lit (.int .u8 38), .lit (.int .u8 29), .lit (.int .u8 17), .lit (.int .u8 4), .lit (.int .u8 62), .lit (.int .u8 47), .lit (.int .u8 59), .lit (.int .u8 36), .lit (.int .u8 45), .lit (.int .u8 43), .lit (.int .u8 51), .lit (.int .u8 22), .lit (.int .u8 53), .lit (.int .u8 39), .lit (.int .u8 33), .lit (.int .u8 30), .lit (.int .u8 24), .lit (.int .u8 18), .lit (.int .u8 12), .lit (.int .u8 5), .lit (.int .u8 63), .lit (.int .u8 55), .lit (.int .u8 48), .lit (.int .u8 27), .lit (.int .u8 60), .lit (.int .u8 41), .lit (.int .u8 37), .lit (.int .u8 16), .lit (.int .u8 46), .lit (.int .u8 35), .lit (.int .u8 44), .lit (.int .u8 21), .lit (.int .u8 52), .lit (.int .u8 32), .lit (.int .u8 23), .lit (.int .u8 11), .lit (.int .u8 54), .lit (.int .u8 26), .lit (.int .u8 40), .lit (.int .u8 15), .lit (.int .u8 34), .lit (.int .u8 20), .lit (.int .u8 31), .lit (.int .u8 10), .lit (.int .u8 25), .lit (.int .u8 14), .lit (.int .u8 19), .lit (.int .u8 9), .lit (.int .u8 13), .lit (.int .u8 8), .lit (.int .u8 7), .lit (.int .u8 6)]

/-- 'purlinlaw12.GraphOrders': WHATEVER THE INPUT: true; the input reads as it did. -/
def graphOrdersSpec : ChangeSpec := { name := "graphOrders", fn := fun _ => fun
  | [d1, d2] => { results := [.lit (.bool true)], args := [d1, d2] }
  | _ => none }
def graphOrdersRow : OpenClaim := { program := "ytelioljmhlabjaadoor", sum := "93cd91a481859bb6841ec0ab8780d9bc972887f64ed71ac09790b5f932fe612f", func := "purlin/purlinlaw12.GraphOrders", spec := "graphOrders", unfollowed := true, recurses := true, named := ["math/bits.deBruijn64tab"], apart := false, laid := [("math/bits.deBruijn64tab", laid_math_bits_deBruijn64tab)] }
def GraphOrdersSaid : Prop := graphOrdersRow.holds Tryd.pinned (OpenSpec.ofChange graphOrdersSpec)

/-- ITS FALSE NEIGHBOUR: 'it returns false'. Refute it at one input. -/
def graphOrdersWrong : ChangeSpec := { name := "graphOrders", fn := fun _ => fun
  | [d1, d2] => { results := [.lit (.bool false)], args := [d1, d2] }
  | _ => none }
def GraphOrdersWrongFalsely : Prop := graphOrdersRow.holds Tryd.pinned (OpenSpec.ofChange graphOrdersWrong)

/-- 'purlinlaw12.GraphOrderly': WHATEVER THE INPUT: true; the input reads as it did. -/
def graphOrderlySpec : ChangeSpec := { name := "graphOrderly", fn := fun _ => fun
  | [d1, d2] => { results := [.lit (.bool true)], args := [d1, d2] }
  | _ => none }
def graphOrderlyRow : OpenClaim := { program := "ytelioljmhlabjaadoor", sum := "93cd91a481859bb6841ec0ab8780d9bc972887f64ed71ac09790b5f932fe612f", func := "purlin/purlinlaw12.GraphOrderly", spec := "graphOrderly", unfollowed := true, recurses := true, named := ["math/bits.deBruijn64tab"], apart := false, laid := [("math/bits.deBruijn64tab", laid_math_bits_deBruijn64tab)] }
def GraphOrderlySaid : Prop := graphOrderlyRow.holds Tryd.pinned (OpenSpec.ofChange graphOrderlySpec)

/-- ITS FALSE NEIGHBOUR: 'it returns false'. Refute it at one input. -/
def graphOrderlyWrong : ChangeSpec := { name := "graphOrderly", fn := fun _ => fun
  | [d1, d2] => { results := [.lit (.bool false)], args := [d1, d2] }
  | _ => none }
def GraphOrderlyWrongFalsely : Prop := graphOrderlyRow.holds Tryd.pinned (OpenSpec.ofChange graphOrderlyWrong)

/-- 'purlinlaw12.GraphReaches': WHATEVER THE INPUT: true; the input reads as it did. -/
def graphReachesSpec : ChangeSpec := { name := "graphReaches", fn := fun _ => fun
  | [d1, d2, d3] => { results := [.lit (.bool true)], args := [d1, d2, d3] }
  | _ => none }
def graphReachesRow : OpenClaim := { program := "ytelioljmhlabjaadoor", sum := "93cd91a481859bb6841ec0ab8780d9bc972887f64ed71ac09790b5f932fe612f", func := "purlin/purlinlaw12.GraphReaches", spec := "graphReaches", unfollowed := true, recurses := true, named := ["math/bits.deBruijn64tab"], apart := false, laid := [("math/bits.deBruijn64tab", laid_math_bits_deBruijn64tab)] }
def GraphReachesSaid : Prop := graphReachesRow.holds Tryd.pinned (OpenSpec.ofChange graphReachesSpec)

/-- ITS FALSE NEIGHBOUR: 'it returns false'. Refute it at one input. -/
def graphReachesWrong : ChangeSpec := { name := "graphReaches", fn := fun _ => fun
  | [d1, d2, d3] => { results := [.lit (.bool false)], args := [d1, d2, d3] }
  | _ => none }
def GraphReachesWrongFalsely : Prop := graphReachesRow.holds Tryd.pinned (OpenSpec.ofChange graphReachesWrong)

/-- 'purlinlaw12.GraphCycles': WHATEVER THE INPUT: true; the input reads as it did. -/
def graphCyclesSpec : ChangeSpec := { name := "graphCycles", fn := fun _ => fun
  | [d1, d2] => { results := [.lit (.bool true)], args := [d1, d2] }
  | _ => none }
def graphCyclesRow : OpenClaim := { program := "ytelioljmhlabjaadoor", sum := "93cd91a481859bb6841ec0ab8780d9bc972887f64ed71ac09790b5f932fe612f", func := "purlin/purlinlaw12.GraphCycles", spec := "graphCycles", unfollowed := true, recurses := true, named := ["math/bits.deBruijn64tab"], apart := false, laid := [("math/bits.deBruijn64tab", laid_math_bits_deBruijn64tab)] }
def GraphCyclesSaid : Prop := graphCyclesRow.holds Tryd.pinned (OpenSpec.ofChange graphCyclesSpec)

/-- ITS FALSE NEIGHBOUR: 'it returns false'. Refute it at one input. -/
def graphCyclesWrong : ChangeSpec := { name := "graphCycles", fn := fun _ => fun
  | [d1, d2] => { results := [.lit (.bool false)], args := [d1, d2] }
  | _ => none }
def GraphCyclesWrongFalsely : Prop := graphCyclesRow.holds Tryd.pinned (OpenSpec.ofChange graphCyclesWrong)

/-- 'purlinlaw12.GraphReduces': WHATEVER THE INPUT: true; the input reads as it did. -/
def graphReducesSpec : ChangeSpec := { name := "graphReduces", fn := fun _ => fun
  | [d1, d2] => { results := [.lit (.bool true)], args := [d1, d2] }
  | _ => none }
def graphReducesRow : OpenClaim := { program := "ytelioljmhlabjaadoor", sum := "93cd91a481859bb6841ec0ab8780d9bc972887f64ed71ac09790b5f932fe612f", func := "purlin/purlinlaw12.GraphReduces", spec := "graphReduces", unfollowed := true, recurses := true, named := ["math/bits.deBruijn64tab"], apart := false, laid := [("math/bits.deBruijn64tab", laid_math_bits_deBruijn64tab)] }
def GraphReducesSaid : Prop := graphReducesRow.holds Tryd.pinned (OpenSpec.ofChange graphReducesSpec)

/-- ITS FALSE NEIGHBOUR: 'it returns false'. Refute it at one input. -/
def graphReducesWrong : ChangeSpec := { name := "graphReduces", fn := fun _ => fun
  | [d1, d2] => { results := [.lit (.bool false)], args := [d1, d2] }
  | _ => none }
def GraphReducesWrongFalsely : Prop := graphReducesRow.holds Tryd.pinned (OpenSpec.ofChange graphReducesWrong)

/-- 'purlinlaw12.GraphTwice': WHATEVER THE INPUT: true; the input reads as it did. -/
def graphTwiceSpec : ChangeSpec := { name := "graphTwice", fn := fun _ => fun
  | [d1, d2, d3] => { results := [.lit (.bool true)], args := [d1, d2, d3] }
  | _ => none }
def graphTwiceRow : OpenClaim := { program := "ytelioljmhlabjaadoor", sum := "93cd91a481859bb6841ec0ab8780d9bc972887f64ed71ac09790b5f932fe612f", func := "purlin/purlinlaw12.GraphTwice", spec := "graphTwice", unfollowed := true, recurses := true, named := ["math/bits.deBruijn64tab"], apart := false, laid := [("math/bits.deBruijn64tab", laid_math_bits_deBruijn64tab)] }
def GraphTwiceSaid : Prop := graphTwiceRow.holds Tryd.pinned (OpenSpec.ofChange graphTwiceSpec)

/-- ITS FALSE NEIGHBOUR: 'it returns false'. Refute it at one input. -/
def graphTwiceWrong : ChangeSpec := { name := "graphTwice", fn := fun _ => fun
  | [d1, d2, d3] => { results := [.lit (.bool false)], args := [d1, d2, d3] }
  | _ => none }
def GraphTwiceWrongFalsely : Prop := graphTwiceRow.holds Tryd.pinned (OpenSpec.ofChange graphTwiceWrong)

/-- 'purlinlaw19.WalkLimit': WHATEVER THE INPUT: true; the input reads as it did. -/
def walkLimitSpec : ChangeSpec := { name := "walkLimit", fn := fun _ => fun
  | [d] => { results := [.lit (.bool true)], args := [d] }
  | _ => none }
def walkLimitRow : OpenClaim := { program := "ytelioljmhlabjaadoor", sum := "93cd91a481859bb6841ec0ab8780d9bc972887f64ed71ac09790b5f932fe612f", func := "purlin/purlinlaw19.WalkLimit", spec := "walkLimit", unfollowed := true, recurses := true, named := ["math/bits.deBruijn64tab"], apart := false, laid := [("math/bits.deBruijn64tab", laid_math_bits_deBruijn64tab)] }
def WalkLimitSaid : Prop := walkLimitRow.holds Tryd.pinned (OpenSpec.ofChange walkLimitSpec)

/-- ITS FALSE NEIGHBOUR: 'it returns false'. Refute it at one input. -/
def walkLimitWrong : ChangeSpec := { name := "walkLimit", fn := fun _ => fun
  | [d] => { results := [.lit (.bool false)], args := [d] }
  | _ => none }
def WalkLimitWrongFalsely : Prop := walkLimitRow.holds Tryd.pinned (OpenSpec.ofChange walkLimitWrong)

/-- 'purlinlaw19.WalkPlays': WHATEVER THE INPUT: true; the input reads as it did. -/
def walkPlaysSpec : ChangeSpec := { name := "walkPlays", fn := fun _ => fun
  | [d1, d2] => { results := [.lit (.bool true)], args := [d1, d2] }
  | _ => none }
def walkPlaysRow : OpenClaim := { program := "ytelioljmhlabjaadoor", sum := "93cd91a481859bb6841ec0ab8780d9bc972887f64ed71ac09790b5f932fe612f", func := "purlin/purlinlaw19.WalkPlays", spec := "walkPlays", unfollowed := true, recurses := true, named := ["math/bits.deBruijn64tab"], apart := false, laid := [("math/bits.deBruijn64tab", laid_math_bits_deBruijn64tab)] }
def WalkPlaysSaid : Prop := walkPlaysRow.holds Tryd.pinned (OpenSpec.ofChange walkPlaysSpec)

/-- ITS FALSE NEIGHBOUR: 'it returns false'. Refute it at one input. -/
def walkPlaysWrong : ChangeSpec := { name := "walkPlays", fn := fun _ => fun
  | [d1, d2] => { results := [.lit (.bool false)], args := [d1, d2] }
  | _ => none }
def WalkPlaysWrongFalsely : Prop := walkPlaysRow.holds Tryd.pinned (OpenSpec.ofChange walkPlaysWrong)

/-- 'purlinlaw19.WalkOrder': WHATEVER THE INPUT: true; the input reads as it did. -/
def walkOrderSpec : ChangeSpec := { name := "walkOrder", fn := fun _ => fun
  | [d1, d2, d3] => { results := [.lit (.bool true)], args := [d1, d2, d3] }
  | _ => none }
def walkOrderRow : OpenClaim := { program := "ytelioljmhlabjaadoor", sum := "93cd91a481859bb6841ec0ab8780d9bc972887f64ed71ac09790b5f932fe612f", func := "purlin/purlinlaw19.WalkOrder", spec := "walkOrder", unfollowed := true, recurses := true, named := ["math/bits.deBruijn64tab"], apart := false, laid := [("math/bits.deBruijn64tab", laid_math_bits_deBruijn64tab)] }
def WalkOrderSaid : Prop := walkOrderRow.holds Tryd.pinned (OpenSpec.ofChange walkOrderSpec)

/-- ITS FALSE NEIGHBOUR: 'it returns false'. Refute it at one input. -/
def walkOrderWrong : ChangeSpec := { name := "walkOrder", fn := fun _ => fun
  | [d1, d2, d3] => { results := [.lit (.bool false)], args := [d1, d2, d3] }
  | _ => none }
def WalkOrderWrongFalsely : Prop := walkOrderRow.holds Tryd.pinned (OpenSpec.ofChange walkOrderWrong)

/-- 'purlinlaw19.WalkAlike': WHATEVER THE INPUT: true; the input reads as it did. -/
def walkAlikeSpec : ChangeSpec := { name := "walkAlike", fn := fun _ => fun
  | [d1, d2, d3] => { results := [.lit (.bool true)], args := [d1, d2, d3] }
  | _ => none }
def walkAlikeRow : OpenClaim := { program := "ytelioljmhlabjaadoor", sum := "93cd91a481859bb6841ec0ab8780d9bc972887f64ed71ac09790b5f932fe612f", func := "purlin/purlinlaw19.WalkAlike", spec := "walkAlike", unfollowed := true, recurses := true, named := ["math/bits.deBruijn64tab"], apart := false, laid := [("math/bits.deBruijn64tab", laid_math_bits_deBruijn64tab)] }
def WalkAlikeSaid : Prop := walkAlikeRow.holds Tryd.pinned (OpenSpec.ofChange walkAlikeSpec)

/-- ITS FALSE NEIGHBOUR: 'it returns false'. Refute it at one input. -/
def walkAlikeWrong : ChangeSpec := { name := "walkAlike", fn := fun _ => fun
  | [d1, d2, d3] => { results := [.lit (.bool false)], args := [d1, d2, d3] }
  | _ => none }
def WalkAlikeWrongFalsely : Prop := walkAlikeRow.holds Tryd.pinned (OpenSpec.ofChange walkAlikeWrong)

/-- 'purlinlaw19.WalkLeast': WHATEVER THE INPUT: true; the input reads as it did. -/
def walkLeastSpec : ChangeSpec := { name := "walkLeast", fn := fun _ => fun
  | [d] => { results := [.lit (.bool true)], args := [d] }
  | _ => none }
def walkLeastRow : OpenClaim := { program := "ytelioljmhlabjaadoor", sum := "93cd91a481859bb6841ec0ab8780d9bc972887f64ed71ac09790b5f932fe612f", func := "purlin/purlinlaw19.WalkLeast", spec := "walkLeast", unfollowed := true, recurses := true, named := ["math/bits.deBruijn64tab"], apart := false, laid := [("math/bits.deBruijn64tab", laid_math_bits_deBruijn64tab)] }
def WalkLeastSaid : Prop := walkLeastRow.holds Tryd.pinned (OpenSpec.ofChange walkLeastSpec)

/-- ITS FALSE NEIGHBOUR: 'it returns false'. Refute it at one input. -/
def walkLeastWrong : ChangeSpec := { name := "walkLeast", fn := fun _ => fun
  | [d] => { results := [.lit (.bool false)], args := [d] }
  | _ => none }
def WalkLeastWrongFalsely : Prop := walkLeastRow.holds Tryd.pinned (OpenSpec.ofChange walkLeastWrong)

/-- 'purlinlaw12.GraphLimits': WHATEVER THE INPUT: true; the input reads as it did. -/
def graphLimitsSpec : ChangeSpec := { name := "graphLimits", fn := fun _ => fun
  | [d] => { results := [.lit (.bool true)], args := [d] }
  | _ => none }
def graphLimitsRow : OpenClaim := { program := "ytelioljmhlabjaadoor", sum := "93cd91a481859bb6841ec0ab8780d9bc972887f64ed71ac09790b5f932fe612f", func := "purlin/purlinlaw12.GraphLimits", spec := "graphLimits", unfollowed := true, recurses := true, named := ["math/bits.deBruijn64tab"], apart := false, laid := [("math/bits.deBruijn64tab", laid_math_bits_deBruijn64tab)] }
def GraphLimitsSaid : Prop := graphLimitsRow.holds Tryd.pinned (OpenSpec.ofChange graphLimitsSpec)

/-- ITS FALSE NEIGHBOUR: 'it returns false'. Refute it at one input. -/
def graphLimitsWrong : ChangeSpec := { name := "graphLimits", fn := fun _ => fun
  | [d] => { results := [.lit (.bool false)], args := [d] }
  | _ => none }
def GraphLimitsWrongFalsely : Prop := graphLimitsRow.holds Tryd.pinned (OpenSpec.ofChange graphLimitsWrong)

/- THE SECOND FORM. 'bulk': how many values and letters a reading holds, each counted each time it is reached (what is shared counts as often as it is met; a slice's spare places count too). A statement '..UptoSaid' is the law's where the arguments, and the package variables that the reading takes, are together of bulk at most 1048576: NARROWER than '..Said'. Prove '..Said' where nothing that the law and all that it calls make is longer than what came in: it says more and counts as full. Else prove '..UptoSaid'. A law counts once. -/
mutual
def uptoBulk {H : Type} : DataW H → Nat
  | .lit (.string bytes) => bytes.length + 1
  | .lit _ => 1
  | .nil => 1
  | .ptr d => uptoBulk d + 1
  | .slice elems spare => uptoBulkAll elems + uptoBulkAll spare + 1
  | .agg parts => uptoBulkAll parts + 1
  | .iface _ d => uptoBulk d + 1
  | .map entries => uptoBulkEntries entries + 1
  | .held _ => 1
def uptoBulkAll {H : Type} : List (DataW H) → Nat
  | [] => 0
  | d :: r => uptoBulk d + uptoBulkAll r
def uptoBulkEntries {H : Type} : List (Lit × DataW H) → Nat
  | [] => 0
  | x :: r => uptoBulkEntry x + uptoBulkEntries r
def uptoBulkEntry {H : Type} : Lit × DataW H → Nat
  | (.string bytes, d) => bytes.length + uptoBulk d + 1
  | (_, d) => uptoBulk d + 1
 end
def uptoSmall : (H : Type) → List (DataW H) → Bool := fun _ ds => decide (uptoBulkAll ds ≤ 1048576)
def OpenSpec.upto (s : _root_.Go.ChangeSpec) : _root_.Go.OpenSpec := { _root_.Go.OpenSpec.ofChange s with cond := some uptoSmall }

/-- 'purlinlaw12.GraphOrders', WHERE WHAT IT READS IS OF BULK AT MOST 1048576: true; the input reads as it did. -/
def graphOrdersUptoRow : OpenClaim := { program := "ytelioljmhlabjaadoor", sum := "93cd91a481859bb6841ec0ab8780d9bc972887f64ed71ac09790b5f932fe612f", func := "purlin/purlinlaw12.GraphOrders", spec := "graphOrders", unfollowed := true, recurses := true, named := ["math/bits.deBruijn64tab"], apart := false, laid := [("math/bits.deBruijn64tab", laid_math_bits_deBruijn64tab)], narrowed := true }
def GraphOrdersUptoSaid : Prop := graphOrdersUptoRow.holds Tryd.pinned (OpenSpec.upto graphOrdersSpec)

/-- 'purlinlaw12.GraphOrderly', WHERE WHAT IT READS IS OF BULK AT MOST 1048576: true; the input reads as it did. -/
def graphOrderlyUptoRow : OpenClaim := { program := "ytelioljmhlabjaadoor", sum := "93cd91a481859bb6841ec0ab8780d9bc972887f64ed71ac09790b5f932fe612f", func := "purlin/purlinlaw12.GraphOrderly", spec := "graphOrderly", unfollowed := true, recurses := true, named := ["math/bits.deBruijn64tab"], apart := false, laid := [("math/bits.deBruijn64tab", laid_math_bits_deBruijn64tab)], narrowed := true }
def GraphOrderlyUptoSaid : Prop := graphOrderlyUptoRow.holds Tryd.pinned (OpenSpec.upto graphOrderlySpec)

/-- 'purlinlaw12.GraphReaches', WHERE WHAT IT READS IS OF BULK AT MOST 1048576: true; the input reads as it did. -/
def graphReachesUptoRow : OpenClaim := { program := "ytelioljmhlabjaadoor", sum := "93cd91a481859bb6841ec0ab8780d9bc972887f64ed71ac09790b5f932fe612f", func := "purlin/purlinlaw12.GraphReaches", spec := "graphReaches", unfollowed := true, recurses := true, named := ["math/bits.deBruijn64tab"], apart := false, laid := [("math/bits.deBruijn64tab", laid_math_bits_deBruijn64tab)], narrowed := true }
def GraphReachesUptoSaid : Prop := graphReachesUptoRow.holds Tryd.pinned (OpenSpec.upto graphReachesSpec)

/-- 'purlinlaw12.GraphCycles', WHERE WHAT IT READS IS OF BULK AT MOST 1048576: true; the input reads as it did. -/
def graphCyclesUptoRow : OpenClaim := { program := "ytelioljmhlabjaadoor", sum := "93cd91a481859bb6841ec0ab8780d9bc972887f64ed71ac09790b5f932fe612f", func := "purlin/purlinlaw12.GraphCycles", spec := "graphCycles", unfollowed := true, recurses := true, named := ["math/bits.deBruijn64tab"], apart := false, laid := [("math/bits.deBruijn64tab", laid_math_bits_deBruijn64tab)], narrowed := true }
def GraphCyclesUptoSaid : Prop := graphCyclesUptoRow.holds Tryd.pinned (OpenSpec.upto graphCyclesSpec)

/-- 'purlinlaw12.GraphReduces', WHERE WHAT IT READS IS OF BULK AT MOST 1048576: true; the input reads as it did. -/
def graphReducesUptoRow : OpenClaim := { program := "ytelioljmhlabjaadoor", sum := "93cd91a481859bb6841ec0ab8780d9bc972887f64ed71ac09790b5f932fe612f", func := "purlin/purlinlaw12.GraphReduces", spec := "graphReduces", unfollowed := true, recurses := true, named := ["math/bits.deBruijn64tab"], apart := false, laid := [("math/bits.deBruijn64tab", laid_math_bits_deBruijn64tab)], narrowed := true }
def GraphReducesUptoSaid : Prop := graphReducesUptoRow.holds Tryd.pinned (OpenSpec.upto graphReducesSpec)

/-- 'purlinlaw12.GraphTwice', WHERE WHAT IT READS IS OF BULK AT MOST 1048576: true; the input reads as it did. -/
def graphTwiceUptoRow : OpenClaim := { program := "ytelioljmhlabjaadoor", sum := "93cd91a481859bb6841ec0ab8780d9bc972887f64ed71ac09790b5f932fe612f", func := "purlin/purlinlaw12.GraphTwice", spec := "graphTwice", unfollowed := true, recurses := true, named := ["math/bits.deBruijn64tab"], apart := false, laid := [("math/bits.deBruijn64tab", laid_math_bits_deBruijn64tab)], narrowed := true }
def GraphTwiceUptoSaid : Prop := graphTwiceUptoRow.holds Tryd.pinned (OpenSpec.upto graphTwiceSpec)

/-- 'purlinlaw19.WalkLimit', WHERE WHAT IT READS IS OF BULK AT MOST 1048576: true; the input reads as it did. -/
def walkLimitUptoRow : OpenClaim := { program := "ytelioljmhlabjaadoor", sum := "93cd91a481859bb6841ec0ab8780d9bc972887f64ed71ac09790b5f932fe612f", func := "purlin/purlinlaw19.WalkLimit", spec := "walkLimit", unfollowed := true, recurses := true, named := ["math/bits.deBruijn64tab"], apart := false, laid := [("math/bits.deBruijn64tab", laid_math_bits_deBruijn64tab)], narrowed := true }
def WalkLimitUptoSaid : Prop := walkLimitUptoRow.holds Tryd.pinned (OpenSpec.upto walkLimitSpec)

/-- 'purlinlaw19.WalkPlays', WHERE WHAT IT READS IS OF BULK AT MOST 1048576: true; the input reads as it did. -/
def walkPlaysUptoRow : OpenClaim := { program := "ytelioljmhlabjaadoor", sum := "93cd91a481859bb6841ec0ab8780d9bc972887f64ed71ac09790b5f932fe612f", func := "purlin/purlinlaw19.WalkPlays", spec := "walkPlays", unfollowed := true, recurses := true, named := ["math/bits.deBruijn64tab"], apart := false, laid := [("math/bits.deBruijn64tab", laid_math_bits_deBruijn64tab)], narrowed := true }
def WalkPlaysUptoSaid : Prop := walkPlaysUptoRow.holds Tryd.pinned (OpenSpec.upto walkPlaysSpec)

/-- 'purlinlaw19.WalkOrder', WHERE WHAT IT READS IS OF BULK AT MOST 1048576: true; the input reads as it did. -/
def walkOrderUptoRow : OpenClaim := { program := "ytelioljmhlabjaadoor", sum := "93cd91a481859bb6841ec0ab8780d9bc972887f64ed71ac09790b5f932fe612f", func := "purlin/purlinlaw19.WalkOrder", spec := "walkOrder", unfollowed := true, recurses := true, named := ["math/bits.deBruijn64tab"], apart := false, laid := [("math/bits.deBruijn64tab", laid_math_bits_deBruijn64tab)], narrowed := true }
def WalkOrderUptoSaid : Prop := walkOrderUptoRow.holds Tryd.pinned (OpenSpec.upto walkOrderSpec)

/-- 'purlinlaw19.WalkAlike', WHERE WHAT IT READS IS OF BULK AT MOST 1048576: true; the input reads as it did. -/
def walkAlikeUptoRow : OpenClaim := { program := "ytelioljmhlabjaadoor", sum := "93cd91a481859bb6841ec0ab8780d9bc972887f64ed71ac09790b5f932fe612f", func := "purlin/purlinlaw19.WalkAlike", spec := "walkAlike", unfollowed := true, recurses := true, named := ["math/bits.deBruijn64tab"], apart := false, laid := [("math/bits.deBruijn64tab", laid_math_bits_deBruijn64tab)], narrowed := true }
def WalkAlikeUptoSaid : Prop := walkAlikeUptoRow.holds Tryd.pinned (OpenSpec.upto walkAlikeSpec)

/-- 'purlinlaw19.WalkLeast', WHERE WHAT IT READS IS OF BULK AT MOST 1048576: true; the input reads as it did. -/
def walkLeastUptoRow : OpenClaim := { program := "ytelioljmhlabjaadoor", sum := "93cd91a481859bb6841ec0ab8780d9bc972887f64ed71ac09790b5f932fe612f", func := "purlin/purlinlaw19.WalkLeast", spec := "walkLeast", unfollowed := true, recurses := true, named := ["math/bits.deBruijn64tab"], apart := false, laid := [("math/bits.deBruijn64tab", laid_math_bits_deBruijn64tab)], narrowed := true }
def WalkLeastUptoSaid : Prop := walkLeastUptoRow.holds Tryd.pinned (OpenSpec.upto walkLeastSpec)

/-- 'purlinlaw12.GraphLimits', WHERE WHAT IT READS IS OF BULK AT MOST 1048576: true; the input reads as it did. -/
def graphLimitsUptoRow : OpenClaim := { program := "ytelioljmhlabjaadoor", sum := "93cd91a481859bb6841ec0ab8780d9bc972887f64ed71ac09790b5f932fe612f", func := "purlin/purlinlaw12.GraphLimits", spec := "graphLimits", unfollowed := true, recurses := true, named := ["math/bits.deBruijn64tab"], apart := false, laid := [("math/bits.deBruijn64tab", laid_math_bits_deBruijn64tab)], narrowed := true }
def GraphLimitsUptoSaid : Prop := graphLimitsUptoRow.holds Tryd.pinned (OpenSpec.upto graphLimitsSpec)

end Rows
end Go.Proofs.YtelioljmhlabjaaDoor
