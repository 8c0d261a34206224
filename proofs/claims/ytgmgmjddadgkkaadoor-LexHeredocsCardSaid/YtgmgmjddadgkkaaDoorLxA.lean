/- The walks of letter, digit, and how many bytes are of a kind. -/
import Derived.Test.YtgmgmjddadgkkaaDoorLxB
import Derived.Test.YtgmgmjddadgkkaaDoorLexQ
namespace Go.Proofs.YtgmgmjddadgkkaaDoor
open Go.RowKit
set_option maxRecDepth 100000
attribute [local go_sem] str_size str_toList str_get

theorem letB_eq (c : UInt8) : letB c = ((decide ((97 : Int) ≤ (c.toNat : Int)) && decide ((c.toNat : Int) ≤ 122)) || ((decide ((65 : Int) ≤ (c.toNat : Int)) && decide ((c.toNat : Int) ≤ 90)) || ((c.toNat : Int) == 95))) := by
  unfold letB
  rw [u8_le, u8_le, u8_le, u8_le, ← u8_eq]
  rfl
theorem digB_eq (c : UInt8) : digB c = (decide ((48 : Int) ≤ (c.toNat : Int)) && decide ((c.toNat : Int) ≤ 57)) := by
  unfold digB
  rw [u8_le, u8_le]
  rfl

theorem letter_any (c : UInt8) (w : World) : Calls Tryd.prog 21 #[.int .u8 c.toNat] w fun e w' => e = .returned (.bool (letB c)) ∧ w' = w := by
  rw [letB_eq]
  generalize (c.toNat : Int) = x
  go_enter Tryd.func21, Tryd.ntmps21
  by_cases h1 : (97 : Int) ≤ x <;> by_cases h2 : x ≤ 122 <;> by_cases h3 : (65 : Int) ≤ x <;> by_cases h4 : x ≤ 90 <;> (go_wp2; go_ret; first | exact ⟨rfl, rfl⟩ | exact ⟨ret_bool (by rw [Bool.eq_iff_iff]; simp; omega), rfl⟩)
theorem digit_any (c : UInt8) (w : World) : Calls Tryd.prog 23 #[.int .u8 c.toNat] w fun e w' => e = .returned (.bool (digB c)) ∧ w' = w := by
  rw [digB_eq]
  generalize (c.toNat : Int) = x
  go_enter Tryd.func23, Tryd.ntmps23
  by_cases h1 : (48 : Int) ≤ x <;> by_cases h2 : x ≤ 57 <;> (go_wp2; go_ret; first | exact ⟨rfl, rfl⟩ | exact ⟨ret_bool (by rw [Bool.eq_iff_iff]; simp; omega), rfl⟩)

end Go.Proofs.YtgmgmjddadgkkaaDoor
