/- Limbs in a block of the call's own. -/
import Derived.Test.YtgbalofdfdafmaaDoorSum
namespace Go.Proofs.YtgbalofdfdafmaaDoor
open Go.RowKit
set_option maxRecDepth 100000

/-- A whole block of limbs. -/
def OwnLimbs (w : World) (b : Nat) (xs : List Nat) : Prop := w.heap[b]? = some (.cells (limbs xs).toArray 92 (0, 0))
theorem OwnLimbs.lt {w : World} {b : Nat} {xs : List Nat} (h : OwnLimbs w b xs) : b < w.heap.size := (Array.getElem?_eq_some_iff.1 h).1
theorem OwnLimbs.cell {w : World} {b : Nat} {xs : List Nat} (h : OwnLimbs w b xs) {i : Nat} (hi : i < xs.length) : w.cell? ⟨b, i, none⟩ = some (.int .u64 ((xs.getD i 0 : Nat) : Int)) := by
  simp [World.cell?, show w.heap[b]? = _ from h, List.getD, hi, limbs]
theorem OwnLimbs.free {w : World} {b : Nat} {xs : List Nat} (h : OwnLimbs w b xs) (i : Nat) : w.frozen? ⟨b, i, none⟩ = false := by
  simp [World.frozen?, show w.heap[b]? = _ from h]
theorem OwnLimbs.set {w : World} {b : Nat} {xs : List Nat} (h : OwnLimbs w b xs) (i : Nat) (x : Nat) : OwnLimbs (w.setCell ⟨b, i, none⟩ (.int .u64 (x : Int))) b (xs.set i x) := by
  unfold OwnLimbs at h ⊢
  simp [World.setCell, Array.getElem?_modify, h, limbs, List.map_set]
theorem OwnLimbs.at {w : World} {b : Nat} {xs : List Nat} (h : OwnLimbs w b xs) (hl : xs.length ≤ 4096) : LimbsAt w (.slice (some ⟨b, 0, none⟩) xs.length xs.length) xs :=
  ⟨_, _, rfl, hl, ⟨Nat.le_refl _, by omega, fun e => by cases e⟩, fun _ => ⟨b, 0, rfl, ⟨h.lt, _, _, h⟩, fun i hi => by rw [Nat.zero_add]; exact h.cell hi⟩⟩
theorem made_limbs (n : Nat) : (madeCells #[Value.int .u64 0] n).toList = limbs (List.replicate n 0) := by
  simp [madeCells, Nat.mod_one, List.map_const', limbs]


end Go.Proofs.YtgbalofdfdafmaaDoor
