/- num.Good at a text of which it is known whether it is a good one. -/
import Derived.Test.YtpbipngnoklmcaaDoorMp
import Derived.Test.YtpbipngnoklmcaaDoorMg
namespace Go.Proofs.YtpbipngnoklmcaaDoor
open Go.RowKit
set_option maxRecDepth 100000
attribute [local go_sem] str_size str_toList str_get

theorem good_parts {a : List UInt8} (h : goodS a = true) : allD (sizeS a) = true ∧ (sizeS a).length ≤ 100 ∧ a.length ≤ 101 := by
  unfold goodS at h
  simp only [Bool.and_eq_true, decide_eq_true_eq] at h
  refine ⟨h.2, h.1.1.2, ?_⟩
  have h1 := h.1.1.2
  unfold sizeS at h1
  split at h1
  · rw [List.length_tail] at h1; omega
  · omega
theorem good_is {a : List UInt8} {g : Bool} (h : goodS a = g) (w : World) : Calls Tryd.prog 67 #[str a] w fun e w' => e = .returned (.bool g) ∧ Below w.heap.size w w' := by
  rw [← h]; exact good_any a w

end Go.Proofs.YtpbipngnoklmcaaDoor
