/- Plain: the document's sums, differences, products and quotients, digit by digit, are those of the numbers. No program in sight. -/
import Derived.Test.YtgbalofdfdafmaaDoorDigP
namespace Go.Proofs.YtgbalofdfdafmaaDoor

/-- The i-th digit from the right; 0 beyond the text. -/
def dgR (s : List UInt8) (i : Nat) : Nat := if i < s.length then dv (s.getD (s.length - 1 - i) 0) else 0
/-- What the last i digits are worth. -/
def lowR (s : List UInt8) (i : Nat) : Nat := valD (s.drop (s.length - i))
theorem lowR_zero (s : List UInt8) : lowR s 0 = 0 := by unfold lowR; rw [Nat.sub_zero, List.drop_length]; rfl
theorem lowR_all {s : List UInt8} {i : Nat} (h : s.length ≤ i) : lowR s i = valD s := by
  unfold lowR
  rw [show s.length - i = 0 by omega, List.drop_zero]
theorem lowR_succ (s : List UInt8) (i : Nat) : lowR s (i + 1) = lowR s i + 10 ^ i * dgR s i := by
  by_cases h : i < s.length
  · unfold lowR dgR
    rw [if_pos h]
    have e : s.drop (s.length - (i + 1)) = s.getD (s.length - 1 - i) 0 :: s.drop (s.length - i) := by
      rw [show s.length - (i + 1) = s.length - 1 - i by omega, List.drop_eq_getElem_cons (show s.length - 1 - i < s.length by omega)]
      congr 1
      · simp [List.getD, show s.length - 1 - i < s.length by omega]
      · congr 1; omega
    rw [e, valD_cons, List.length_drop, show s.length - (s.length - i) = i by omega, Nat.mul_comm]
    omega
  · rw [lowR_all (by omega), lowR_all (by omega)]
    unfold dgR
    rw [if_neg h]
    omega
theorem dgR_lt {s : List UInt8} (h : allD s = true) (i : Nat) : dgR s i < 10 := by
  unfold dgR
  split
  · rename_i hi
    have : s.getD (s.length - 1 - i) 0 ∈ s := by
      simp only [List.getD, List.getElem?_eq_getElem (show s.length - 1 - i < s.length by omega), Option.getD_some]
      exact List.getElem_mem _
    exact dv_lt (List.all_eq_true.1 h _ this)
  · decide

theorem rplus_step {a b out : List UInt8} {i c : Nat} (ha : allD a = true) (hb : allD b = true) (hl : out.length = i) (ho : allD out = true) (hc : c ≤ 1) (h : valD out + 10 ^ i * c = lowR a i + lowR b i) :
    allD (UInt8.ofNat (48 + (dgR a i + dgR b i + c) % 10) :: out) = true ∧ (dgR a i + dgR b i + c) / 10 ≤ 1 ∧ valD (UInt8.ofNat (48 + (dgR a i + dgR b i + c) % 10) :: out) + 10 ^ (i + 1) * ((dgR a i + dgR b i + c) / 10) = lowR a (i + 1) + lowR b (i + 1) := by
  have h1 := dgR_lt ha i
  have h2 := dgR_lt hb i
  have h3 : (dgR a i + dgR b i + c) % 10 < 10 := Nat.mod_lt _ (by decide)
  refine ⟨?_, by omega, ?_⟩
  · unfold allD
    rw [List.all_cons, isD_ofNat h3, Bool.true_and]
    exact ho
  · rw [valD_cons, dv_ofNat h3, hl, lowR_succ, lowR_succ, Nat.pow_succ, Nat.mul_assoc]
    have e : 10 ^ i * ((dgR a i + dgR b i + c) % 10) + 10 ^ i * (10 * ((dgR a i + dgR b i + c) / 10)) = 10 ^ i * dgR a i + 10 ^ i * dgR b i + 10 ^ i * c := by
      rw [← Nat.mul_add, Nat.mod_add_div, Nat.mul_add, Nat.mul_add]
    rw [Nat.mul_comm ((dgR a i + dgR b i + c) % 10)]
    omega
theorem rplus_end {a b out : List UInt8} {i : Nat} (hl : out.length = i) (ho : allD out = true) (ha : a.length ≤ i) (hb : b.length ≤ i) (hn : 0 < i) (h : valD out + 10 ^ i * 0 = lowR a i + lowR b i) : bareL out = Lib.decDigits (valD a + valD b) := by
  rw [lowR_all ha, lowR_all hb] at h
  rw [bareL_dec (by rintro rfl; simp at hl; omega) ho]
  congr 1
theorem rminus_step {a b out : List UInt8} {i c : Nat} (ha : allD a = true) (hb : allD b = true) (hl : out.length = i) (ho : allD out = true) (hc : c ≤ 1) (h : valD out + lowR b i = lowR a i + 10 ^ i * c) :
    (dgR a i < dgR b i + c → allD (UInt8.ofNat (48 + (dgR a i + 10 - (dgR b i + c))) :: out) = true ∧ valD (UInt8.ofNat (48 + (dgR a i + 10 - (dgR b i + c))) :: out) + lowR b (i + 1) = lowR a (i + 1) + 10 ^ (i + 1) * 1) ∧
    (¬ dgR a i < dgR b i + c → allD (UInt8.ofNat (48 + (dgR a i - (dgR b i + c))) :: out) = true ∧ valD (UInt8.ofNat (48 + (dgR a i - (dgR b i + c))) :: out) + lowR b (i + 1) = lowR a (i + 1) + 10 ^ (i + 1) * 0) := by
  have h1 := dgR_lt ha i
  have h2 := dgR_lt hb i
  refine ⟨fun hlt => ?_, fun hlt => ?_⟩
  · have h3 : dgR a i + 10 - (dgR b i + c) < 10 := by omega
    refine ⟨by unfold allD; rw [List.all_cons, isD_ofNat h3, Bool.true_and]; exact ho, ?_⟩
    rw [valD_cons, dv_ofNat h3, hl, lowR_succ, lowR_succ, Nat.pow_succ]
    have e : 10 ^ i * (dgR a i + 10 - (dgR b i + c)) + 10 ^ i * (dgR b i + c) = 10 ^ i * dgR a i + 10 ^ i * 10 := by
      rw [← Nat.mul_add, ← Nat.mul_add]
      congr 1
      omega
    rw [Nat.mul_add] at e
    rw [Nat.mul_comm (dgR a i + 10 - (dgR b i + c))]
    omega
  · have h3 : dgR a i - (dgR b i + c) < 10 := by omega
    refine ⟨by unfold allD; rw [List.all_cons, isD_ofNat h3, Bool.true_and]; exact ho, ?_⟩
    rw [valD_cons, dv_ofNat h3, hl, lowR_succ, lowR_succ]
    have e : 10 ^ i * (dgR a i - (dgR b i + c)) + 10 ^ i * (dgR b i + c) = 10 ^ i * dgR a i := by
      rw [← Nat.mul_add]
      congr 1
      omega
    rw [Nat.mul_add] at e
    rw [Nat.mul_comm (dgR a i - (dgR b i + c))]
    omega
theorem rminus_end {a b out : List UInt8} {c : Nat} (hl : out.length = a.length) (ho : allD out = true) (hb : b.length ≤ a.length) (hn : a ≠ []) (hle : valD b ≤ valD a) (h : valD out + lowR b a.length = lowR a a.length + 10 ^ a.length * c) : bareL out = Lib.decDigits (valD a - valD b) := by
  rw [lowR_all (Nat.le_refl _), lowR_all hb] at h
  have h1 := valD_lt ho
  rw [hl] at h1
  have hc : c = 0 := by
    apply Classical.byContradiction
    intro hh
    have : 10 ^ a.length * 1 ≤ 10 ^ a.length * c := Nat.mul_le_mul_left _ (by omega)
    omega
  rw [hc] at h
  rw [bareL_dec (by rintro rfl; simp at hl; exact hn (List.eq_nil_of_length_eq_zero hl.symm)) ho]
  congr 1
  omega

/-- A digit more. -/
theorem bare_digit (n d : Nat) (hd : d < 10) : bareL (Lib.decDigits n ++ [UInt8.ofNat (48 + d)]) = Lib.decDigits (10 * n + d) := by
  rw [bareL_dec (by simp) (by rw [allD_append]; exact ⟨allD_dec n, by unfold allD; rw [List.all_cons, isD_ofNat hd]; rfl⟩), valD_snoc, valD_dec, dv_ofNat hd]

/-- Of two texts of numbers the shorter one is worth less; of as many digits the one that comes first. -/
theorem dec_len_le {m n : Nat} (h : m ≤ n) : (Lib.decDigits m).length ≤ (Lib.decDigits n).length := by
  rw [Lib.decDigits_length, Lib.decDigits_length]
  exact (nDigits_le (Lib.nDigits_pos n)).2 (Nat.lt_of_le_of_lt h (Lib.lt_pow_nDigits n))
theorem dec_len_lt {m n : Nat} (h : (Lib.decDigits m).length < (Lib.decDigits n).length) : m < n := by
  apply Classical.byContradiction
  intro hh
  have := dec_len_le (show n ≤ m by omega)
  omega
/-- Which of two texts comes first. -/
def ltS : List UInt8 → List UInt8 → Bool
  | [], [] => false
  | [], _ :: _ => true
  | _ :: _, [] => false
  | c :: l, d :: m => if c = d then ltS l m else decide (c < d)
theorem ltS_val : ∀ {l m : List UInt8}, l.length = m.length → allD l = true → allD m = true → (ltS l m = true ↔ valD l < valD m)
  | [], [], _, _, _ => by simp [ltS, valD]
  | c :: l, d :: m, hl, h1, h2 => by
    simp only [allD, List.all_cons, Bool.and_eq_true] at h1 h2
    have hl' : l.length = m.length := by simpa using hl
    have v1 := valD_lt h1.2
    have v2 := valD_lt h2.2
    rw [hl'] at v1
    have i1 := isD_iff.1 h1.1
    have i2 := isD_iff.1 h2.1
    unfold ltS
    rw [valD_cons, valD_cons, hl']
    by_cases hcd : c = d
    · rw [if_pos hcd, ltS_val hl' h1.2 h2.2, hcd]
      omega
    · rw [if_neg hcd, decide_eq_true_eq, UInt8.lt_iff_toNat_lt]
      have hne : c.toNat ≠ d.toNat := fun e => hcd (UInt8.toNat_inj.1 e)
      constructor
      · intro hlt
        have : (dv c + 1) * 10 ^ m.length ≤ dv d * 10 ^ m.length := Nat.mul_le_mul_right _ (by unfold dv; omega)
        rw [Nat.add_mul, Nat.one_mul] at this
        omega
      · intro hv
        apply Classical.byContradiction
        intro hge
        have : (dv d + 1) * 10 ^ m.length ≤ dv c * 10 ^ m.length := Nat.mul_le_mul_right _ (by unfold dv; omega)
        rw [Nat.add_mul, Nat.one_mul] at this
        omega
  | [], _ :: _, hl, _, _ => by simp at hl
  | _ :: _, [], hl, _, _ => by simp at hl
/-- The document's Less. -/
def lessS (a b : List UInt8) : Bool := if a.length ≠ b.length then decide (a.length < b.length) else ltS a b
theorem lessS_dec (m n : Nat) : lessS (Lib.decDigits m) (Lib.decDigits n) = decide (m < n) := by
  unfold lessS
  by_cases h : (Lib.decDigits m).length = (Lib.decDigits n).length
  · rw [if_neg (by simp [h])]
    have := ltS_val h (allD_dec m) (allD_dec n)
    rw [valD_dec, valD_dec] at this
    rw [Bool.eq_iff_iff, this]
    simp
  · rw [if_pos h, Bool.eq_iff_iff, decide_eq_true_eq, decide_eq_true_eq]
    constructor
    · exact dec_len_lt
    · intro hlt
      have := dec_len_le (Nat.le_of_lt hlt)
      omega

/-! ### Signs -/

def signedS (below : Bool) (s : List UInt8) : List UInt8 := if below = true ∧ s ≠ [48] then 45 :: s else s
theorem dec_48 (n : Nat) : Lib.decDigits n = [48] ↔ n = 0 := by
  constructor
  · intro h
    have := congrArg valD h
    rw [valD_dec] at this
    rw [this]; rfl
  · rintro rfl; exact dec_zero
theorem signed_dec (below : Bool) (n : Nat) : signedS below (Lib.decDigits n) = Lib.itoa (if below = true then -(n : Int) else n) := by
  unfold signedS
  cases below with
  | false =>
    rw [if_neg (by simp), if_neg (by simp), itoa_pos (by omega), Int.toNat_natCast]
  | true =>
    by_cases h : n = 0
    · subst h
      rw [if_neg (by rw [dec_zero]; simp), if_pos rfl, itoa_pos (by decide)]
      rfl
    · rw [if_pos ⟨rfl, fun e => h ((dec_48 n).1 e)⟩, if_pos rfl, itoa_neg (by omega), show (-(n : Int)).natAbs = n by omega]

/-- The rest and the next digit: what is taken away how often. -/
theorem part_step {X Y r d : Nat} (hY : 0 < Y) (hr : r = X % Y) : (10 * r + d) / Y < 10 ∨ 10 ≤ d := by
  have h : r < Y := by rw [hr]; exact Nat.mod_lt _ hY
  by_cases hd : d < 10
  · left
    rw [Nat.div_lt_iff_lt_mul hY]
    omega
  · right; omega
theorem part_next {X Y d : Nat} (hY : 0 < Y) : (10 * X + d) / Y = 10 * (X / Y) + (10 * (X % Y) + d) / Y ∧ (10 * X + d) % Y = (10 * (X % Y) + d) % Y := by
  have h := Nat.div_add_mod X Y
  have e : 10 * X + d = Y * (10 * (X / Y)) + (10 * (X % Y) + d) := by
    conv => lhs; rw [← h]
    rw [Nat.mul_add, Nat.mul_left_comm]
    omega
  rw [e]
  constructor
  · rw [Nat.mul_add_div hY]
  · rw [Nat.mul_add_mod]

end Go.Proofs.YtgbalofdfdafmaaDoor
