/- Bytes, digits and texts: small laws. -/
import Derived.Test.YtpbipngnoklmcaaDoorStr
import Derived.Test.YtpbipngnoklmcaaDoorMp
namespace Go.Proofs.YtpbipngnoklmcaaDoor
open Go.RowKit
set_option maxRecDepth 100000
attribute [local go_sem] str_size str_toList str_get

theorem u8_eq (c d : UInt8) : ((c.toNat : Int) == (d.toNat : Int)) = (c == d) := by
  rw [Bool.eq_iff_iff, beq_iff_eq, beq_iff_eq]
  constructor
  · intro h; exact UInt8.toNat_inj.1 (by omega)
  · rintro rfl; rfl
theorem bytesLess_eq : ∀ a b : List UInt8, Op.bytesLess a b = ltS a b
  | [], [] => rfl
  | [], _ :: _ => rfl
  | _ :: _, [] => rfl
  | c :: l, d :: m => by
    unfold Op.bytesLess ltS
    rw [bytesLess_eq l m]
    by_cases h : c = d
    · subst h; simp
    · simp [h]
/-- A digit's byte as a text. -/
theorem str_dig {w : World} (d : Nat) (h : d < 10) (x : Int) (hx : x = 48 + (d : Int)) :
    (convert 70 9 (.slice (some ⟨w.heap.size, 0, none⟩) 1 1)).run Tryd.prog (w.alloc (.cells #[.int .u8 x] 5)) = .ok (.string ⟨[UInt8.ofNat (48 + d)].toArray⟩) (w.alloc (.cells #[.int .u8 x] 5)) := by
  have hc := run_convert_bytes_back (P := Tryd.prog) (w.alloc (.cells #[.int .u8 x] 5)) 70 9 5 ⟨w.heap.size, 0, none⟩ 1 [UInt8.ofNat (48 + d)] Tryd.underlying70 Tryd.underlying5 Tryd.underlying9 (fun j hj => by
    have hj0 : j = 0 := by simpa using hj
    subst hj0
    rw [Lib.add_plain]
    have : (UInt8.ofNat (48 + d)).toNat = 48 + d := by rw [UInt8.toNat_ofNat']; omega
    have h0 := cell_one_new w (Value.int .u8 x) 5 0 (.int .u8 x) rfl
    rw [Lib.add_plain] at h0
    rw [h0, hx]
    show some (Value.int .u8 (48 + (d : Int))) = some (Value.int .u8 ((UInt8.ofNat (48 + d)).toNat : Int))
    rw [this]
    rfl)
  simpa using hc

theorem valD_take_succ {y : List UInt8} {i : Nat} (h : i < y.length) : valD (y.take (i + 1)) = 10 * valD (y.take i) + dv (y[i]?.getD 0) := by
  rw [List.take_succ_eq_append_getElem h, valD_snoc]
  simp [h]
theorem allD_at {y : List UInt8} (h : allD y = true) {i : Nat} (hi : i < y.length) : isD (y[i]?.getD 0) = true := by
  simp only [List.getElem?_eq_getElem hi, Option.getD_some]
  exact List.all_eq_true.1 h _ (List.getElem_mem hi)
theorem allD_take {y : List UInt8} (h : allD y = true) (i : Nat) : allD (y.take i) = true := by
  unfold allD at h ⊢
  rw [List.all_eq_true] at h ⊢
  exact fun c hc => h c (List.mem_of_mem_take hc)
theorem valD_take_lt {y : List UInt8} (h : allD y = true) (i : Nat) : valD (y.take i) < 10 ^ i := by
  refine Nat.lt_of_lt_of_le (valD_lt (allD_take h i)) (Nat.pow_le_pow_right (by decide) ?_)
  rw [List.length_take]
  omega
theorem allD_not {y : List UInt8} {i : Nat} (hi : i < y.length) (h : isD (y[i]?.getD 0) = false) : allD y = false := by
  cases ha : allD y with
  | false => rfl
  | true => rw [allD_at ha hi] at h; cases h
theorem allD_all {y : List UInt8} (h : ∀ i, i < y.length → isD (y[i]?.getD 0) = true) : allD y = true := by
  unfold allD
  rw [List.all_eq_true]
  intro c hc
  obtain ⟨i, hi, rfl⟩ := List.getElem_of_mem hc
  have := h i hi
  simpa [hi] using this


end Go.Proofs.YtpbipngnoklmcaaDoor
