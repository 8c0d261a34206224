/- Copies between rows of elements of any size; what a row holds behind an insertion. No walk. -/
import Derived.Test.YtgbalofdfdafmaaDoorValO
import Derived.Lib.AppendZeros
import Derived.Lib.AppendZerosOnto
import Derived.Lib.Overlaps
import Derived.Laws.Externs
import Derived.Laws.IdiomCopy
import Derived.Laws.CopyRow
namespace Go.Proofs.YtgbalofdfdafmaaDoor
open Go.RowKit
set_option maxRecDepth 100000

theorem run_copy_rowN {P : Program} (w : World) (size : Nat) (dT sT ty elem : TypeId) (g o dLen dCap : Nat) (a : Addr) (sLen sCap : Nat) (cur : Array Value) (t : TypeId) (cs : List Value)
    (hu : P.underlying dT = some (.slice elem)) (hs : (P.info? elem).map (·.size) = some size)
    (hg : w.heap[g]? = some (.cells cur t (0, 0))) (hn : cs.length = Nat.min sLen dLen * size)
    (hsrc : ∀ j v, cs[j]? = some v → w.cell? (a.add j) = some v) (hfit : o + cs.length ≤ cur.size) (h1 : ∀ v ∈ cs, v.oneCell' = true) :
    (Builtin.copy_ #[dT, sT] ty #[.slice (some ⟨g, o, none⟩) dLen dCap, .slice (some a) sLen sCap]).run P w =
      .ok (goInt (Nat.min sLen dLen)) (w.setRow g (cur.toList.take o ++ cs ++ cur.toList.drop (o + cs.length)).toArray) := by
  have hl := run_loadCells_list (P := P) w a cs hsrc
  have hst := run_storeCells_at P g o t cs 0 cur w hg (by simpa using hfit) h1
  cases hq : P.info? elem with
  | none => simp [hq] at hs
  | some i =>
    have hi : i.size = size := by simpa [hq] using hs
    simp [Builtin.copy_, run_underlying hu, Builtin.lenOf, Builtin.firstCells, sizeOf, typeInfo, hq, hi, ← hn, hl, hst]

theorem heap_setRow {w : World} {g : Nat} {cur new : Array Value} {t : TypeId} (h : w.heap[g]? = some (.cells cur t (0, 0))) : (w.setRow g new).heap[g]? = some (.cells new t (0, 0)) := by
  simp [World.setRow, Array.getElem?_modify, h]
theorem heap_setRow_ne {w : World} {g k : Nat} {new : Array Value} (h : k ≠ g) : (w.setRow g new).heap[k]? = w.heap[k]? := by
  simp [World.setRow, Array.getElem?_modify, Ne.symm h]
theorem setRow_size (w : World) (g : Nat) (new : Array Value) : (w.setRow g new).heap.size = w.heap.size := by simp [World.setRow]
theorem grown_setRow (w : World) (g : Nat) (new : Array Value) : w.grownBy (w.setRow g new) (some g) :=
  ⟨rfl, rfl, rfl, by rw [setRow_size]; exact Nat.le_refl _, fun k _ hk => heap_setRow_ne (fun e => hk (by rw [e]))⟩

/-- What two copies make of a row with one element more. -/
theorem shift_row {α : Type} {cur A B news : List α} {s : Nat} (hA : cur.take (A.length + B.length) = A ++ B) (hn : news.length = s) (hl : A.length + B.length + s ≤ cur.length) :
    (((cur.take (A.length + s) ++ B ++ cur.drop (A.length + s + B.length)).take A.length ++ news ++ (cur.take (A.length + s) ++ B ++ cur.drop (A.length + s + B.length)).drop (A.length + news.length)).take (A.length + B.length + s)) = A ++ news ++ B ∧
    ((cur.take (A.length + s) ++ B ++ cur.drop (A.length + s + B.length)).take A.length ++ news ++ (cur.take (A.length + s) ++ B ++ cur.drop (A.length + s + B.length)).drop (A.length + news.length)).length = cur.length := by
  have e1 : cur.take (A.length + s) = A ++ (cur.take (A.length + s)).drop A.length := by
    conv => lhs; rw [← List.take_append_drop A.length (cur.take (A.length + s))]
    rw [List.take_take, Nat.min_eq_left (by omega)]
    have := congrArg (List.take A.length) hA
    rw [List.take_take, Nat.min_eq_left (by omega), List.take_left] at this
    rw [this]
  have hT : ((cur.take (A.length + s)).drop A.length).length = s := by simp; omega
  generalize (cur.take (A.length + s)).drop A.length = T at e1 hT
  have hD : (cur.drop (A.length + s + B.length)).length = cur.length - (A.length + s + B.length) := by simp
  generalize cur.drop (A.length + s + B.length) = D at hD
  rw [e1]
  subst hn
  rw [show (A ++ T ++ B ++ D).take A.length = A by simp, show (A ++ T ++ B ++ D).drop (A.length + news.length) = B ++ D by
    rw [show A ++ T ++ B ++ D = (A ++ T) ++ (B ++ D) by simp, List.drop_append, List.drop_of_length_le (by simp; omega)]
    rw [show A.length + news.length - (A ++ T).length = 0 by simp; omega]
    rfl]
  constructor
  · rw [show A ++ news ++ (B ++ D) = (A ++ news ++ B) ++ D by simp, show A.length + B.length + news.length = (A ++ news ++ B).length by simp; omega, List.take_left]
  · simp
    omega
/-- What two copies make of a new row. -/
theorem grow_row {α : Type} {A B news Z Y : List α} (hZ : Z.length = news.length + B.length) :
    (((A ++ Z ++ Y).take A.length ++ news ++ (A ++ Z ++ Y).drop (A.length + news.length)).take (A.length + news.length) ++ B ++ ((A ++ Z ++ Y).take A.length ++ news ++ (A ++ Z ++ Y).drop (A.length + news.length)).drop (A.length + news.length + B.length)) = A ++ news ++ B ++ Y := by
  rw [show (A ++ Z ++ Y).take A.length = A by simp]
  have e : (A ++ Z ++ Y).drop (A.length + news.length) = Z.drop news.length ++ Y := by
    rw [show A ++ Z ++ Y = A ++ (Z ++ Y) by simp, List.drop_append, List.drop_of_length_le (by omega), Nat.add_sub_cancel_left, List.drop_append, show news.length - Z.length = 0 by omega]
    rfl
  rw [e]
  rw [show (A ++ news ++ (Z.drop news.length ++ Y)).take (A.length + news.length) = A ++ news by
    rw [show A.length + news.length = (A ++ news).length by simp, List.take_left]]
  rw [show (A ++ news ++ (Z.drop news.length ++ Y)).drop (A.length + news.length + B.length) = Y by
    rw [show A ++ news ++ (Z.drop news.length ++ Y) = (A ++ news ++ Z.drop news.length) ++ Y by simp, show A.length + news.length + B.length = (A ++ news ++ Z.drop news.length).length by simp; omega, List.drop_left]]

end Go.Proofs.YtgbalofdfdafmaaDoor
