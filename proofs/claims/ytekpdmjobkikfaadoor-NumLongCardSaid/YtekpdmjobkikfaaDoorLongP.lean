/- Plain: what the law on numbers of a hundred digits asks. No program in sight. -/
import Derived.Test.YtekpdmjobkikfaaDoorNumP
namespace Go.Proofs.YtekpdmjobkikfaaDoor
set_option maxRecDepth 100000

def nines (j : Nat) : List UInt8 := List.replicate j 57
theorem allD_nines (j : Nat) : allD (nines j) = true := by
  unfold allD nines
  rw [List.all_eq_true]
  intro c hc
  rw [List.eq_of_mem_replicate hc]
  decide
theorem valD_nines (j : Nat) : valD (nines j) + 1 = 10 ^ j := by
  induction j with
  | zero => rfl
  | succ j ih =>
    unfold nines at ih ⊢
    rw [List.replicate_succ', valD_snoc, Nat.pow_succ, ← ih]
    have : dv 57 = 9 := rfl
    omega
theorem itoa_nines {j : Nat} (h : 1 ≤ j) : Lib.itoa ((10 ^ j - 1 : Nat) : Int) = nines j := by
  have hv := valD_nines j
  rw [itoa_pos (by omega), Int.toNat_natCast, show 10 ^ j - 1 = valD (nines j) by omega]
  refine dec_of ?_ (allD_nines j) (Or.inl ?_)
  · intro e
    have := congrArg List.length e
    simp [nines] at this
    omega
  · obtain ⟨i, rfl⟩ : ∃ i, j = i + 1 := ⟨j - 1, by omega⟩
    unfold nines
    rw [List.replicate_succ]
    simp
theorem itoa_one (k : Nat) (h : k < 10) : Lib.itoa (k : Int) = [UInt8.ofNat (48 + k)] := by
  rw [itoa_pos (by omega), Int.toNat_natCast, dig_small h]

theorem long_product {k : Nat} (hk : k < 50) : 10 ^ 99 ≤ (10 ^ (50 + k) - 1) * (10 ^ (50 - k) - 1) ∧ (10 ^ (50 + k) - 1) * (10 ^ (50 - k) - 1) < 10 ^ 100 := by
  have hAB : 10 ^ (50 + k) * 10 ^ (50 - k) = 10 ^ 99 * 10 := by rw [← Nat.pow_add, show 50 + k + (50 - k) = 99 + 1 by omega, Nat.pow_succ]
  have hA : 10 ≤ 10 ^ (50 + k) := by
    have : 10 ^ 1 ≤ 10 ^ (50 + k) := Nat.pow_le_pow_right (by decide) (by omega)
    simpa using this
  have hB : 10 ≤ 10 ^ (50 - k) := by
    have : 10 ^ 1 ≤ 10 ^ (50 - k) := Nat.pow_le_pow_right (by decide) (by omega)
    simpa using this
  have h100 : (10 : Nat) ^ 100 = 10 ^ 99 * 10 := by rw [show (100 : Nat) = 99 + 1 from rfl, Nat.pow_succ]
  generalize (10 : Nat) ^ (50 + k) = A at *
  generalize (10 : Nat) ^ (50 - k) = B at *
  rw [h100]
  have hp : 0 < (10 : Nat) ^ 99 := Nat.pow_pos (by decide)
  generalize (10 : Nat) ^ 99 = E at *
  obtain ⟨a, rfl⟩ : ∃ a, A = a + 1 := ⟨A - 1, by omega⟩
  obtain ⟨b, rfl⟩ : ∃ b, B = b + 1 := ⟨B - 1, by omega⟩
  have e : (a + 1) * (b + 1) = a * b + a + b + 1 := by rw [Nat.add_mul, Nat.mul_add]; omega
  rw [e] at hAB
  rw [Nat.add_sub_cancel, Nat.add_sub_cancel]
  have h1 : 9 * b ≤ a * b := Nat.mul_le_mul_right _ (by omega)
  have h2 : a * 9 ≤ a * b := Nat.mul_le_mul_left _ (by omega)
  constructor <;> omega

theorem good_nines {j : Nat} (h1 : 1 ≤ j) (h2 : j ≤ 100) : goodS (nines j) = true := by
  rw [← itoa_nines h1]
  refine good_itoa ?_
  have h3 : 10 ^ j ≤ (10 : Nat) ^ 100 := Nat.pow_le_pow_right (by decide) h2
  have h4 : 0 < (10 : Nat) ^ j := Nat.pow_pos (by decide)
  rw [Int.natAbs_natCast]
  omega
theorem not_good_long {a : List UInt8} (h : a.length = 101) (h45 : a.head? ≠ some 45) : goodS a = false := by
  unfold goodS
  have hs : sizeS a = a := by unfold sizeS; rw [if_neg h45]
  rw [hs, h]
  simp

/-- What the law asks of numbers of a hundred nines. -/
theorem long_plain (r9 k : Nat) (h9 : r9 < 9) (hk : k < 50) :
    addR (nines 100) [UInt8.ofNat (49 + r9)] = ([], 3) ∧ subR (45 :: nines 100) [UInt8.ofNat (49 + r9)] = ([], 3) ∧ mulR (nines 100) [49, 48] = ([], 3) ∧
    (∃ t, mulR (nines (50 + k)) (nines (50 - k)) = (t, 0) ∧ t.length = 100) ∧ mulR (nines 50) (nines 51) = ([], 3) ∧ goodS (nines 100) = true ∧ goodS (nines 100 ++ [57]) = false := by
  have hpos : ∀ j : Nat, 0 < (10 : Nat) ^ j := fun j => Nat.pow_pos (by decide)
  have ec : [UInt8.ofNat (49 + r9)] = Lib.itoa ((r9 + 1 : Nat) : Int) := by
    rw [itoa_one (r9 + 1) (by omega)]
    congr 2
    omega
  have h10 : (10 : Nat) < 10 ^ 100 := by
    exact (Nat.pow_lt_pow_right (by decide) (by decide) : (10 : Nat) ^ 1 < 10 ^ 100)
  have en : nines 100 = Lib.itoa ((10 ^ 100 - 1 : Nat) : Int) := (itoa_nines (by decide)).symm
  have e10 : ([49, 48] : List UInt8) = Lib.itoa ((10 : Nat) : Int) := by
    have := good_text (a := [49, 48]) (by decide)
    rw [← this]
    rfl
  have em : (45 :: nines 100 : List UInt8) = Lib.itoa (-((10 ^ 100 - 1 : Nat) : Int)) := by
    rw [itoa_neg (by have := hpos 100; omega), Int.natAbs_neg, Int.natAbs_natCast, en, itoa_pos (by omega), Int.toNat_natCast]
  have hlt : ∀ j : Nat, j ≤ 100 → ((10 ^ j - 1 : Nat) : Int).natAbs < 10 ^ 100 := fun j hj => by
    rw [Int.natAbs_natCast]
    have h1 : (10 : Nat) ^ j ≤ 10 ^ 100 := Nat.pow_le_pow_right (by decide) hj
    have := hpos j
    omega
  refine ⟨?_, ?_, ?_, ?_, ?_, good_nines (by decide) (by decide), not_good_long (by simp [nines]) (by simp [nines, List.replicate_succ])⟩
  · rw [en, ec, addR_itoa (hlt 100 (by decide)) (by rw [Int.natAbs_natCast]; omega)]
    refine capR_long ?_
    have := hpos 100
    omega
  · rw [em, ec, subR_itoa (by rw [Int.natAbs_neg]; exact hlt 100 (by decide)) (by rw [Int.natAbs_natCast]; omega)]
    refine capR_long ?_
    have := hpos 100
    omega
  · rw [en, e10, mulR_itoa (hlt 100 (by decide)) (by rw [Int.natAbs_natCast]; omega)]
    refine capR_long ?_
    rw [← Int.natCast_mul, Int.natAbs_natCast]
    have := hpos 100
    omega
  · obtain ⟨h1, h2⟩ := long_product hk
    have e1 : nines (50 + k) = Lib.itoa ((10 ^ (50 + k) - 1 : Nat) : Int) := (itoa_nines (by omega)).symm
    have e2 : nines (50 - k) = Lib.itoa ((10 ^ (50 - k) - 1 : Nat) : Int) := (itoa_nines (by omega)).symm
    rw [e1, e2, mulR_itoa (hlt _ (by omega)) (hlt _ (by omega)), ← Int.natCast_mul, capR_ok (by rw [Int.natAbs_natCast]; exact h2)]
    refine ⟨_, rfl, ?_⟩
    rw [itoa_pos (by omega), Int.toNat_natCast]
    have h3 := (nDigits_le (u := (10 ^ (50 + k) - 1) * (10 ^ (50 - k) - 1)) (k := 100) (by decide)).2 h2
    have h4 : ¬ Lib.nDigits ((10 ^ (50 + k) - 1) * (10 ^ (50 - k) - 1)) ≤ 99 := fun h => by
      have := (nDigits_le (by decide)).1 h
      omega
    rw [Lib.decDigits_length]
    omega
  · have e1 : nines 50 = Lib.itoa ((10 ^ 50 - 1 : Nat) : Int) := (itoa_nines (by decide)).symm
    have e2 : nines 51 = Lib.itoa ((10 ^ 51 - 1 : Nat) : Int) := (itoa_nines (by decide)).symm
    rw [e1, e2, mulR_itoa (hlt _ (by decide)) (hlt _ (by decide)), ← Int.natCast_mul]
    refine capR_long ?_
    rw [Int.natAbs_natCast]
    decide

end Go.Proofs.YtekpdmjobkikfaaDoor
