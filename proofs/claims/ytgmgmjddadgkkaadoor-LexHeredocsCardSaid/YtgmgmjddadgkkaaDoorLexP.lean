/- Plain: tokens of a text, as lex.Scan tells them. No program in sight. -/
import GoSem.Core.Utf8
import Derived.Lib.Index
import Derived.WalkKit
import Derived.Lib.RuneBytes
namespace Go.Proofs.YtgmgmjddadgkkaaDoor
open Go

abbrev Bs := List UInt8
def letB (c : UInt8) : Bool := (decide (97 ≤ c) && decide (c ≤ 122)) || ((decide (65 ≤ c) && decide (c ≤ 90)) || c == 95)
def digB (c : UInt8) : Bool := decide (48 ≤ c) && decide (c ≤ 57)
def namB (c : UInt8) : Bool := letB c || (digB c || c == 45)
def blankB (c : UInt8) : Bool := c == 32 || (c == 9 || c == 13)
/-- How many bytes at the front are of a kind. -/
def runN (p : UInt8 → Bool) : Bs → Nat
  | [] => 0
  | c :: r => if p c = true then runN p r + 1 else 0
/-- Where a remark's end stands. -/
def endN : Bs → Option Nat
  | [] => none
  | c :: r => if (c == 42 && r.head? == some 47) = true then some 0 else (endN r).map (· + 1)
def addN (k : Nat) (x : Nat × Int) : Nat × Int := if x.2 = 0 then (x.1 + k, 0) else (0, x.2)

/-- What stands between tokens; the error. -/
def skipF : Nat → Bs → Nat × Int
  | 0, _ => (0, 0)
  | _ + 1, [] => (0, 0)
  | f + 1, c :: r =>
    if blankB c = true then ((skipF f r).1 + 1, (skipF f r).2)
    else if (c == 35 || (c == 47 && r.head? == some 47)) = true then ((skipF f ((c :: r).drop (runN (· != 10) (c :: r)))).1 + runN (· != 10) (c :: r), (skipF f ((c :: r).drop (runN (· != 10) (c :: r)))).2)
    else if (c == 47 && r.head? == some 42) = true then
      match endN (r.drop 1) with
      | none => (0, 40)
      | some i => ((skipF f ((c :: r).drop (i + 4))).1 + (i + 4), (skipF f ((c :: r).drop (i + 4))).2)
    else (0, 0)

def escB (c : UInt8) : Bool := c == 34 || (c == 92 || (c == 110 || (c == 116 || (c == 114 || c == 36))))
mutual
/-- How many bytes of a text stand behind its first quote; the error. -/
def txF : Nat → Bs → Nat → Nat × Int
  | 0, _, _ => (0, 40)
  | _ + 1, [], _ => (0, 40)
  | f + 1, c :: r, d =>
    if c = 34 then (1, 0)
    else if c = 10 then (0, 40)
    else if c = 92 then
      if escB (r.headD 0) = true then addN 2 (txF f (r.drop 1) d) else (0, 40)
    else if (c == 36 && r.head? == some 123) = true then
      if (inF f r (d + 1)).2 = 0 then addN ((inF f r (d + 1)).1 + 1) (txF f (r.drop (inF f r (d + 1)).1) d) else (0, (inF f r (d + 1)).2)
    else addN 1 (txF f r d)
/-- From a brace to the one that ends it. -/
def inF : Nat → Bs → Nat → Nat × Int
  | 0, _, _ => (0, 40)
  | f + 1, s, d => if 24 < d then (0, 7) else addN 1 (ilF f (s.drop 1) d)
def ilF : Nat → Bs → Nat → Nat × Int
  | 0, _, _ => (0, 40)
  | _ + 1, [], _ => (0, 40)
  | f + 1, c :: r, d =>
    if c = 125 then (1, 0)
    else if c = 10 then (0, 40)
    else if c = 123 then
      if (inF f (c :: r) (d + 1)).2 = 0 then addN (inF f (c :: r) (d + 1)).1 (ilF f ((c :: r).drop (inF f (c :: r) (d + 1)).1) d) else (0, (inF f (c :: r) (d + 1)).2)
    else if c = 34 then
      if (txF f r d).2 = 0 then addN ((txF f r d).1 + 1) (ilF f (r.drop (txF f r d).1) d) else (0, (txF f r d).2)
    else addN 1 (ilF f r d)
end

/-- A rune as it would stand between quotes. -/
def escR (r : Nat) : Bs :=
  if r = 92 ∨ r = 34 ∨ r = 36 then 92 :: Lib.encodeRune r
  else if r = 9 then [92, 116]
  else if r = 13 then [92, 114]
  else Lib.encodeRune r
def escF (s : ByteArray) : Nat → Nat → Bs
  | 0, _ => []
  | f + 1, pos => if pos < s.size then escR (Utf8.decode s pos).1 ++ escF s f (pos + (Utf8.decode s pos).2) else []
def escL (l : Bs) : Bs := escF ⟨l.toArray⟩ l.length 0
/-- The lines of a heredoc up to its name: the text, how many bytes. -/
def hdF (name : Bs) : Nat → Bs → Option (Bs × Nat)
  | 0, _ => none
  | f + 1, s =>
    if ((s.takeWhile (· != 10)).dropWhile (fun c => c == 32 || c == 9)) = name then some ([], (s.takeWhile (· != 10)).length)
    else if (s.takeWhile (· != 10)).length = s.length then none
    else match hdF name f (s.drop ((s.takeWhile (· != 10)).length + 1)) with
      | none => none
      | some x => some (escL (s.takeWhile (· != 10)) ++ [92, 110] ++ x.1, x.2 + ((s.takeWhile (· != 10)).length + 1))
/-- How many bytes a heredoc's name has. -/
def nameN : Bs → Nat
  | [] => 0
  | c :: r => if letB c = true then runN namB (c :: r) else 0
/-- A heredoc at the front: its text, how many bytes. -/
def hereN (s : Bs) : Option (Bs × Nat) :=
  if nameN (s.drop 2) = 0 then none
  else match s.drop (2 + nameN (s.drop 2)) with
    | [] => none
    | c :: r => if c = 10 then (hdF ((s.drop 2).take (nameN (s.drop 2))) (r.length + 1) r).map (fun x => (x.1, x.2 + (2 + nameN (s.drop 2) + 1))) else none

def sign2 (c e : UInt8) : Bool := (c == 61 && e == 61) || ((c == 33 && e == 61) || ((c == 60 && e == 61) || ((c == 62 && e == 61) || ((c == 38 && e == 38) || (c == 124 && e == 124)))))
def signs1 : Bs := [123, 125, 91, 93, 40, 41, 61, 43, 45, 42, 47, 37, 60, 62, 33, 63, 58, 44, 46]
def signN (c : UInt8) (r : Bs) : Bs :=
  match r with
  | e :: _ => if sign2 c e = true then [c, e] else if signs1.contains c = true then [c] else []
  | [] => if signs1.contains c = true then [c] else []

/-- The token at the front: kind, text, how many bytes, the error. -/
structure Tk where
  kind : Int
  text : Bs
  size : Nat
  err : Int
def oneN (c : UInt8) (r : Bs) : Tk :=
  if c = 10 then ⟨5, [10], 1, 0⟩
  else if letB c = true then ⟨1, (c :: r).take (runN namB (c :: r)), runN namB (c :: r), if 32 < runN namB (c :: r) then 3 else 0⟩
  else if digB c = true then
    ⟨2, (c :: r).take (runN digB (c :: r)), runN digB (c :: r),
      if (match (c :: r).drop (runN digB (c :: r)) with | [] => false | e :: _ => letB e) = true ∨ (c = 48 ∧ 1 < runN digB (c :: r)) then 40
      else if 100 < runN digB (c :: r) then 3 else 0⟩
  else if c = 34 then
    if (txF (2 * r.length + 1) r 0).2 = 0 then ⟨3, r.take ((txF (2 * r.length + 1) r 0).1 - 1), (txF (2 * r.length + 1) r 0).1 + 1, 0⟩ else ⟨0, [], 0, (txF (2 * r.length + 1) r 0).2⟩
  else if (c == 60 && r.head? == some 60) = true then
    match hereN (c :: r) with
    | none => ⟨3, [], 0, 40⟩
    | some x => ⟨3, x.1, x.2, 0⟩
  else ⟨4, signN c r, (signN c r).length, if (signN c r).length = 0 then 40 else 0⟩

/-- A token: kind, text, place. -/
abbrev Tok := Int × Bs × Nat
/-- The tokens of what is left, where it begins, how many there are already; or the error and its place. -/
def scanF : Nat → Bs → Nat → Nat → Except (Int × Nat) (List Tok)
  | 0, _, _, _ => .error (0, 0)
  | f + 1, s, at_, k =>
    let x := skipF (s.length + 1) s
    if x.2 ≠ 0 then .error (x.2, at_ + x.1)
    else match s.drop x.1 with
      | [] => .ok [(0, [], at_ + x.1)]
      | c :: r =>
        let t := oneN c r
        if t.err ≠ 0 then .error (t.err, at_ + x.1)
        else if k = 4096 then .error (3, at_ + x.1)
        else match scanF f ((c :: r).drop t.size) (at_ + x.1 + t.size) (k + 1) with
          | .error e => .error e
          | .ok l => .ok ((t.kind, t.text, at_ + x.1) :: l)
/-- The first byte at which no UTF-8 begins. -/
def badF (l : Bs) (s : ByteArray) : Nat → Nat → Option Nat
  | 0, _ => none
  | f + 1, pos =>
    if pos < s.size then
      if (Utf8.decode s pos).1 = 65533 ∧ ([239, 191, 189] : Bs).isPrefixOf (l.drop pos) = false then some pos else badF l s f (pos + (Utf8.decode s pos).2)
    else none
def scanP (l : Bs) : Except (Int × Nat) (List Tok) :=
  if 16384 < l.length then .error (3, 0)
  else match badF l ⟨l.toArray⟩ (l.length + 1) 0 with
    | some i => .error (31, i)
    | none => scanF (l.length + 1) l 0 0

/-- The document's examples. -/
theorem ex1 : scanP [97, 32, 61, 32, 34, 120, 36, 123, 98, 125, 34, 32, 35, 32, 114] = .ok [(1, [97], 0), (4, [61], 2), (3, [120, 36, 123, 98, 125], 4), (0, [], 15)] := by
  kernel_rfl
theorem ex2 : scanP [97, 32, 38, 32, 98] = .error (40, 2) := by kernel_rfl
theorem ex3 : scanP [60, 60, 69, 10, 97, 34, 98, 10, 69] = .ok [(3, [97, 92, 34, 98, 92, 110], 0), (0, [], 9)] := by kernel_rfl

end Go.Proofs.YtgmgmjddadgkkaaDoor
