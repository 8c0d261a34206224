/- Reading and turning good numbers. -/
import Derived.Test.YtgbalofdfdafmaaDoorNumP
import Derived.Test.YtgbalofdfdafmaaDoorRead
import Derived.Test.YtgbalofdfdafmaaDoorTurned
namespace Go.Proofs.YtgbalofdfdafmaaDoor
open Go.RowKit
set_option maxRecDepth 100000
attribute [local go_sem] str_size str_toList str_get

theorem good_parts {a : List UInt8} (h : goodS a = true) : allD (sizeS a) = true ∧ (sizeS a).length ≤ 100 ∧ a.length ≤ 101 := by
  unfold goodS at h
  simp only [Bool.and_eq_true, decide_eq_true_eq] at h
  refine ⟨h.2, h.1.1.2, ?_⟩
  have h1 := h.1.1.2
  unfold sizeS at h1
  split at h1
  · rw [List.length_tail] at h1; omega
  · omega
theorem good_is {a : List UInt8} {g : Bool} (h : goodS a = g) (w : World) : Calls Tryd.prog 59 #[str a] w fun e w' => e = .returned (.bool g) ∧ Below w.heap.size w w' := by
  rw [← h]; exact good_any a w
theorem read_good {a : List UInt8} (h : goodS a = true) (w : World) : Calls Tryd.prog 65 #[str a] w (NumPost (valS a) 100 w) := by
  obtain ⟨h1, h2, h3⟩ := good_parts h
  refine (read_any a h1 (by omega) w).mono ?_
  rintro e w' ⟨v, b, zs, r1, r2, r3, r4, r5, r6⟩
  exact ⟨v, b, zs, r1, r2, r3, r4, by omega, r6⟩
theorem turned_big (b : Bool) (v : Value) (xs : List Nat) (w : World) (h : LimbsAt w v xs) (ok : bigOk b xs) : Calls Tryd.prog 66 #[.agg #[.bool b, v]] w (NumPost (-numV b xs) xs.length w) := by
  refine (turned_any b v xs w h).mono ?_
  rintro e w' ⟨v, rfl, hv, hb⟩
  refine ⟨v, _, _, rfl, hv, big_trim _ ok.1, ?_, trimL_len xs, hb⟩
  rw [num_trim]
  unfold numV
  cases b <;> simp


end Go.Proofs.YtgbalofdfdafmaaDoor
