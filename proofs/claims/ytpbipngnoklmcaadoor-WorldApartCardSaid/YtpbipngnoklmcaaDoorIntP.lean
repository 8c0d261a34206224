/- Plain: ints in decimal, and reading them back: what Atoi answers of a good number. No program in sight. -/
import Derived.Test.YtpbipngnoklmcaaDoorMp
import Derived.Lib.AtoiAll
import Derived.Lib.AtoiAllCases
namespace Go.Proofs.YtpbipngnoklmcaaDoor
set_option maxRecDepth 100000

/-- What num.Int answers. -/
def intR (a : List UInt8) : Int × Bool := if goodS a = true ∧ -9223372036854775808 ≤ valS a ∧ valS a ≤ 9223372036854775807 then (valS a, true) else (0, false)

theorem parse10 : ∀ (l : List UInt8) (acc : Nat), allD l = true → acc < 18446744073709551616 →
    Lib.parseUint10 acc l = if acc * 10 ^ l.length + valD l < 18446744073709551616 then .ok (acc * 10 ^ l.length + valD l) else .range
  | [], acc, _, h => by
    unfold Lib.parseUint10
    rw [valD_nil, List.length_nil, Nat.pow_zero, Nat.mul_one, Nat.add_zero, if_pos h]
  | c :: r, acc, hd, h => by
    have hd' : isD c = true ∧ allD r = true := by simpa [allD] using hd
    have hc := isD_iff.1 hd'.1
    have e : acc * 10 ^ (c :: r).length + valD (c :: r) = (acc * 10 + dv c) * 10 ^ r.length + valD r := by
      rw [valD_cons, List.length_cons, Nat.pow_succ, Nat.add_mul, Nat.mul_assoc, Nat.mul_comm (10 ^ r.length) 10]
      omega
    have hp : 0 < 10 ^ r.length := Nat.pow_pos (by decide)
    have hle : acc * 10 + dv c ≤ (acc * 10 + dv c) * 10 ^ r.length := Nat.le_mul_of_pos_right _ hp
    rw [e]
    unfold Lib.parseUint10
    rw [if_pos hc]
    by_cases h1 : 1844674407370955162 ≤ acc
    · rw [if_pos h1, if_neg (by omega)]
    · rw [if_neg h1]
      by_cases h2 : 18446744073709551616 ≤ acc * 10 + (c.toNat - 48)
      · rw [if_pos h2, if_neg (by unfold dv at hle ⊢; omega)]
      · rw [if_neg h2]
        exact parse10 r _ hd'.2 (by omega)

theorem parse_mag {l : List UInt8} (hn : l ≠ []) (hd : allD l = true) : Lib.parseMag l = if valD l < 18446744073709551616 then .ok (valD l) else .range := by
  unfold Lib.parseMag
  rw [if_neg hn, parse10 l 0 hd (by decide), Nat.zero_mul, Nat.zero_add]

/-- What Atoi answers of a good number. -/
theorem atoi_good {a : List UInt8} (h : goodS a = true) : Lib.atoiAll a = if -9223372036854775808 ≤ valS a ∧ valS a ≤ 9223372036854775807 then .ok (valS a) else .range := by
  have h' := h
  unfold goodS at h'
  simp only [Bool.and_eq_true, Bool.not_eq_true', List.isEmpty_eq_false_iff] at h'
  obtain ⟨⟨⟨hn, _⟩, _⟩, hd⟩ := h'
  cases a with
  | nil => exact absurd rfl hn
  | cons c r =>
    by_cases hc : c = 45
    · subst hc
      have hs : sizeS (45 :: r) = r := rfl
      have hv : valS (45 :: r) = -(valD r : Int) := rfl
      rw [hs] at hn hd
      rw [hv, Lib.atoiAll_minus, parse_mag hn hd]
      by_cases h1 : valD r < 18446744073709551616
      · rw [if_pos h1]
        show (if 9223372036854775808 < valD r then Lib.NumEnd.range else .ok (-(valD r : Int))) = _
        by_cases h2 : 9223372036854775808 < valD r
        · rw [if_pos h2, if_neg (by omega)]
        · rw [if_neg h2, if_pos (by omega)]
      · rw [if_neg h1, if_neg (by omega)]
        rfl
    · have hs : sizeS (c :: r) = c :: r := by unfold sizeS; rw [if_neg (by simpa using hc)]
      have hv : valS (c :: r) = (valD (c :: r) : Int) := by unfold valS belowS; rw [if_neg (by simpa using hc), hs]
      rw [hs] at hn hd
      have hcd : isD c = true := by
        have := List.all_eq_true.1 hd c (by simp)
        exact this
      rw [isD_iff] at hcd
      rw [hv, Lib.atoiAll_plain c r (by omega) (by omega), parse_mag hn hd]
      by_cases h1 : valD (c :: r) < 18446744073709551616
      · rw [if_pos h1]
        show (if 9223372036854775808 ≤ valD (c :: r) then Lib.NumEnd.range else .ok (valD (c :: r) : Int)) = _
        by_cases h2 : 9223372036854775808 ≤ valD (c :: r)
        · rw [if_pos h2, if_neg (by omega)]
        · rw [if_neg h2, if_pos (by omega)]
      · rw [if_neg h1, if_neg (by omega)]
        rfl

/-- What the digits of a text that is read from the left spell: signs are passed by. -/
def valX (b : Bool) (l : List UInt8) : Int := l.foldl (fun acc c => if c = 45 then acc else 10 * acc + (if b = true then -(dv c : Int) else (dv c : Int))) 0
theorem valX_snoc (b : Bool) (l : List UInt8) (c : UInt8) : valX b (l ++ [c]) = if c = 45 then valX b l else 10 * valX b l + (if b = true then -(dv c : Int) else (dv c : Int)) := by
  unfold valX
  rw [List.foldl_append]
  rfl
theorem valX_digits_from (b : Bool) : ∀ (l : List UInt8) (acc : Nat), allD l = true →
    l.foldl (fun acc c => if c = 45 then acc else 10 * acc + (if b = true then -(dv c : Int) else (dv c : Int))) (if b = true then -(acc : Int) else (acc : Int)) =
      if b = true then -((l.foldl (fun a c => 10 * a + dv c) acc : Nat) : Int) else ((l.foldl (fun a c => 10 * a + dv c) acc : Nat) : Int)
  | [], acc, _ => rfl
  | c :: r, acc, hd => by
    have hd' : isD c = true ∧ allD r = true := by simpa [allD] using hd
    rw [List.foldl_cons, List.foldl_cons, if_neg (isD_ne hd'.1)]
    rw [← valX_digits_from b r _ hd'.2]
    congr 1
    cases b
    · rw [if_neg (by decide), if_neg (by decide), if_neg (by decide)]
      omega
    · rw [if_pos rfl, if_pos rfl, if_pos rfl]
      omega
theorem valX_digits (b : Bool) {l : List UInt8} (hd : allD l = true) : valX b l = if b = true then -(valD l : Int) else (valD l : Int) := by
  have := valX_digits_from b l 0 hd
  unfold valX valD
  rw [← this]
  congr 1
  cases b <;> rfl
/-- .. and a good number's is its value, and each piece ahead of its end spells no more. -/
theorem valX_good {a : List UInt8} (h : goodS a = true) : valX (belowS a) a = valS a := by
  have h' := h
  unfold goodS at h'
  simp only [Bool.and_eq_true] at h'
  have hd := h'.2
  unfold valS
  by_cases hc : a.head? = some 45
  · obtain ⟨r, rfl⟩ : ∃ r, a = 45 :: r := by
      cases a with
      | nil => simp at hc
      | cons c r => exact ⟨r, by simp at hc; rw [hc]⟩
    have hs : sizeS (45 :: r) = r := rfl
    rw [hs] at hd ⊢
    rw [← valX_digits _ hd]
    rfl
  · have hs : sizeS a = a := by unfold sizeS; rw [if_neg hc]
    rw [hs] at hd ⊢
    exact valX_digits _ hd
theorem valX_grows (b : Bool) (l m : List UInt8) (hm : ∀ c ∈ m, c = 45 ∨ isD c = true) : (b = true → valX b (l ++ m) ≤ valX b l ∨ 0 < valX b l) ∧ (b = false → valX b l ≤ valX b (l ++ m) ∨ valX b l < 0) := by
  induction m generalizing l with
  | nil => rw [List.append_nil]; exact ⟨fun _ => Or.inl (Int.le_refl _), fun _ => Or.inl (Int.le_refl _)⟩
  | cons c r ih =>
    have e : l ++ c :: r = (l ++ [c]) ++ r := by simp
    have ih' := ih (l ++ [c]) (fun x hx => hm x (by simp [hx]))
    rw [← e, valX_snoc] at ih'
    rcases hm c (by simp) with h | h
    · rw [if_pos h] at ih'
      exact ih'
    · rw [if_neg (isD_ne h)] at ih'
      constructor
      · intro hb
        have := ih'.1 hb
        rw [if_pos hb] at this
        omega
      · intro hb
        have := ih'.2 hb
        rw [if_neg (by rw [hb]; decide)] at this
        omega
theorem valX_sign (b : Bool) (l : List UInt8) : (b = true → valX b l ≤ 0) ∧ (b = false → 0 ≤ valX b l) := by
  have key : ∀ (l : List UInt8) (acc : Int), (b = true → acc ≤ 0) ∧ (b = false → 0 ≤ acc) →
      (b = true → l.foldl (fun acc c => if c = 45 then acc else 10 * acc + (if b = true then -(dv c : Int) else (dv c : Int))) acc ≤ 0) ∧
      (b = false → 0 ≤ l.foldl (fun acc c => if c = 45 then acc else 10 * acc + (if b = true then -(dv c : Int) else (dv c : Int))) acc) := by
    intro l
    induction l with
    | nil => exact fun _ h => h
    | cons c r ih =>
      intro acc h
      rw [List.foldl_cons]
      refine ih _ ?_
      split
      · exact h
      · constructor
        · intro hb
          have := h.1 hb
          rw [if_pos hb]
          omega
        · intro hb
          have := h.2 hb
          rw [if_neg (by rw [hb]; decide)]
          omega
  exact key l 0 ⟨fun _ => Int.le_refl _, fun _ => Int.le_refl _⟩

/-- What is still to be written of an int, ahead of what has been. -/
def joinD (u : Nat) (s : List UInt8) : List UInt8 := if u = 0 then s else Lib.decDigits u ++ s
theorem joinD_step {u : Nat} (h : u ≠ 0) (s : List UInt8) : joinD (u / 10) (UInt8.ofNat (48 + u % 10) :: s) = joinD u s := by
  unfold joinD
  rw [if_neg h]
  by_cases h1 : u < 10
  · rw [if_pos (by omega), dig_small h1, Nat.mod_eq_of_lt h1]
    rfl
  · rw [if_neg (by omega), dig_step h1]
    simp
theorem joinD_len (u : Nat) (s : List UInt8) : s.length ≤ (joinD u s).length := by
  unfold joinD
  split
  · exact Nat.le_refl _
  · rw [List.length_append]; omega

end Go.Proofs.YtpbipngnoklmcaaDoor
