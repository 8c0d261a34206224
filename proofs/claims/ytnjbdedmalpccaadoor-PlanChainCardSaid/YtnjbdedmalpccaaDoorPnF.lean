/- Plain: the chain's plan reckoned: merging with fuel; a trial. No walk. -/
import Derived.Test.YtnjbdedmalpccaaDoorPnG
namespace Go.Proofs.YtnjbdedmalpccaaDoor
open Go.RowKit
set_option maxRecDepth 100000

def mergeF : Nat → List IX → List RX → PS → PS
  | 0, _, _, S => S
  | f + 1, xs, rs, S =>
    match xs, rs with
    | [], [] => S
    | x :: xs, [] => mergeF f xs [] (S.inst x.1)
    | [], r :: rs => mergeF f [] rs (S.dropR r.1)
    | x :: xs, r :: rs => if leS x.1.addr r.1.addr = true then mergeF f xs (r :: rs) (S.inst x.1) else mergeF f (x :: xs) rs (S.dropR r.1)
theorem merge_fuel : ∀ (f : Nat) (xs : List IX) (rs : List RX) (S : PS), xs.length + rs.length ≤ f → mergeS xs rs S = mergeF f xs rs S
  | 0, xs, rs, S, h => by
    obtain rfl : xs = [] := List.eq_nil_of_length_eq_zero (by omega)
    obtain rfl : rs = [] := List.eq_nil_of_length_eq_zero (by omega)
    rw [merge_nil]
    rfl
  | f + 1, [], [], S, h => by rw [merge_nil]; rfl
  | f + 1, x :: xs, [], S, h => by
    rw [merge_inst x xs [] S (fun r rs' e => by cases e), merge_fuel f _ _ _ (by simp at h ⊢; omega)]
    rfl
  | f + 1, [], r :: rs, S, h => by
    rw [merge_drop r [] rs S (fun r rs' e => by cases e), merge_fuel f _ _ _ (by simp at h ⊢; omega)]
    rfl
  | f + 1, x :: xs, r :: rs, S, h => by
    rw [mergeF]
    by_cases hl : leS x.1.addr r.1.addr = true
    · rw [if_pos hl, merge_inst x xs (r :: rs) S (fun r' rs' e => by injection e with e _; rw [← e]; exact hl), merge_fuel f _ _ _ (by simp at h ⊢; omega)]
    · rw [if_neg hl, merge_drop r (x :: xs) rs S (fun x' xs' e => by injection e with e _; rw [← e]; simpa using hl), merge_fuel f _ _ _ (by simp at h ⊢; omega)]

/-- The chain's address of a place. -/
def nameC (i : Nat) : S8 := [116, 46, 110, UInt8.ofNat (97 + i)]
def depsC (i : Nat) : List S8 := (List.range i).map nameC
def actC (how : Nat) : Int := if how = 0 then 1 else if how = 2 then 3 else if how = 3 then 4 else 0
def instX (how i : Nat) : IX := (⟨nameC i, [116], 6, false, [], none, 0, 0, none, 0, 0, actC how, false, none, i, i⟩, depsC i)
def recX (i : Nat) : RX := (⟨nameC i, [116], nameC i, 6, false, [], none, 0, 0, none, 0, 0, none, i, i⟩, depsC i)
def xsC (how n : Nat) : List IX := if how = 1 then [] else (List.range n).map (instX how)
def rsC (how n : Nat) : List RX := if how = 0 then [] else (List.range n).map recX
def planC (how n : Nat) : PS := (mergeF (2 * n) (xsC how n) (rsC how n) (readS (xsC how n) (rsC how n))).link (xsC how n) (rsC how n)


/-- The order that the plan has; what the law wants. -/
def ordC (how n : Nat) : List Nat :=
  if how = 0 then List.range n
  else if how = 1 then (List.range n).map fun i => n - 1 - i
  else if how = 2 then ((List.range n).map fun i => 2 * (n - 1 - i)) ++ (List.range n).map fun i => 2 * i + 1
  else ((List.range n).map fun i => 2 * i) ++ (List.range n).map fun i => 2 * (n - 1 - i) + 1
def wantC (how n : Nat) : List S8 :=
  if how = 0 then (List.range n).map fun i => 43 :: nameC i
  else if how = 1 then (List.range n).map fun i => 45 :: nameC (n - 1 - i)
  else if how = 2 then ((List.range n).map fun i => 45 :: nameC (n - 1 - i)) ++ (List.range n).map fun i => 43 :: nameC i
  else ((List.range n).map fun i => 43 :: nameC i) ++ (List.range n).map fun i => 45 :: (nameC (n - 1 - i) ++ [126])
def signS (s : StepT) : S8 := (if s.op = 5 then 45 else 43) :: s.addr
def step0 : StepT := ⟨0, [], [], [], false⟩
/-- Each once: by a set of bits. -/
def onceB : List Nat → Nat → Bool
  | [], _ => true
  | x :: r, s => !s.testBit x && onceB r (s ||| 2 ^ x)
def edgeN (e : Int × Int) : Nat := e.1.toNat * 64 + e.2.toNat
def chkL (N : Nat) (l : List Nat) : Bool := l.length == N && l.all (fun i => decide (i < N)) && onceB l 0
def chkE (N : Nat) (l : List Nat) (es : List (Int × Int)) : Bool :=
  es.all (fun e => decide (0 ≤ e.1) && decide (e.1 < (N : Int)) && decide (0 ≤ e.2) && decide (e.2 < (N : Int)) && decide (l.idxOf e.1.toNat < l.idxOf e.2.toNat)) && onceB (es.map edgeN) 0
def chkN (l : List Nat) (es : List Nat) : Nat → Bool
  | 0 => true
  | k + 1 => es.contains (l.getD k 0 * 64 + l.getD (k + 1) 0) && chkN l es k
def chkC (how n : Nat) : Bool :=
  (planC how n).steps.map signS == (List.range ((planC how n).steps.length)).map (fun k => (wantC how n).getD ((ordC how n).idxOf k) []) && chkL (planC how n).steps.length (ordC how n) && decide ((planC how n).steps.length ≤ 40) && chkE (planC how n).steps.length (ordC how n) (planC how n).edges && chkN (ordC how n) ((planC how n).edges.map edgeN) ((planC how n).steps.length - 1)


end Go.Proofs.YtnjbdedmalpccaaDoor
