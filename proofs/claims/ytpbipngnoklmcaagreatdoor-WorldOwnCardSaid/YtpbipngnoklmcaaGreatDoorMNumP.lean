/- Plain: what the calls on numbers answer, and the laws of whole numbers that the statements ask. No program in sight. Plain: the document's sums, differences, products and quotients, digit by digit, are those of the numbers. No program in sight. Plain: values as trees: what is a good one, their order, their keys. No program in sight. -/
import Derived.Test.YtpbipngnoklmcaaGreatDoorDigP
namespace Go.Proofs.YtpbipngnoklmcaaGreatDoor

/-- A number's text, or 'too long' (3). -/
def capR (z : Int) : List UInt8 × Int := if z.natAbs < 10 ^ 100 then (Lib.itoa z, 0) else ([], 3)
def addR (a b : List UInt8) : List UInt8 × Int := if goodS a = true ∧ goodS b = true then capR (valS a + valS b) else ([], 6)
def subR (a b : List UInt8) : List UInt8 × Int := if goodS a = true ∧ goodS b = true then capR (valS a - valS b) else ([], 6)
def mulR (a b : List UInt8) : List UInt8 × Int := if goodS a = true ∧ goodS b = true then capR (valS a * valS b) else ([], 6)
/-- Quotient, rest, error. -/
def divR (a b : List UInt8) : List UInt8 × List UInt8 × Int :=
  if goodS a = true ∧ goodS b = true then (if b = [48] then ([], [], 10) else (Lib.itoa ((valS a).tdiv (valS b)), Lib.itoa ((valS a).tmod (valS b)), 0)) else ([], [], 6)
def sgn (z : Int) : Int := if z < 0 then -1 else if z = 0 then 0 else 1
def cmpR (a b : List UInt8) : Int := if goodS a = true ∧ goodS b = true then sgn (valS a - valS b) else 0

theorem capR_ok {z : Int} (h : z.natAbs < 10 ^ 100) : capR z = (Lib.itoa z, 0) := by unfold capR; rw [if_pos h]
theorem capR_long {z : Int} (h : ¬ z.natAbs < 10 ^ 100) : capR z = ([], 3) := by unfold capR; rw [if_neg h]
theorem good_abs {a : List UInt8} (h : goodS a = true) : (valS a).natAbs < 10 ^ 100 := (itoa_good h).2
theorem good_text {a : List UInt8} (h : goodS a = true) : Lib.itoa (valS a) = a := (itoa_good h).1.symm
theorem itoa_inj {m n : Int} (h : Lib.itoa m = Lib.itoa n) : m = n := by rw [← valS_itoa m, h, valS_itoa]
theorem itoa_zero : Lib.itoa 0 = [48] := by rw [itoa_pos (by decide)]; exact dec_zero
theorem good_zero_iff {a : List UInt8} (h : goodS a = true) : a = [48] ↔ valS a = 0 := by
  constructor
  · rintro rfl; rfl
  · intro e
    rw [← good_text h, e, itoa_zero]
theorem addR_itoa {m n : Int} (hm : m.natAbs < 10 ^ 100) (hn : n.natAbs < 10 ^ 100) : addR (Lib.itoa m) (Lib.itoa n) = capR (m + n) := by
  unfold addR; rw [if_pos ⟨good_itoa hm, good_itoa hn⟩, valS_itoa, valS_itoa]
theorem subR_itoa {m n : Int} (hm : m.natAbs < 10 ^ 100) (hn : n.natAbs < 10 ^ 100) : subR (Lib.itoa m) (Lib.itoa n) = capR (m - n) := by
  unfold subR; rw [if_pos ⟨good_itoa hm, good_itoa hn⟩, valS_itoa, valS_itoa]
theorem mulR_itoa {m n : Int} (hm : m.natAbs < 10 ^ 100) (hn : n.natAbs < 10 ^ 100) : mulR (Lib.itoa m) (Lib.itoa n) = capR (m * n) := by
  unfold mulR; rw [if_pos ⟨good_itoa hm, good_itoa hn⟩, valS_itoa, valS_itoa]
theorem divR_itoa {m n : Int} (hm : m.natAbs < 10 ^ 100) (hn : n.natAbs < 10 ^ 100) (h0 : n ≠ 0) : divR (Lib.itoa m) (Lib.itoa n) = (Lib.itoa (m.tdiv n), Lib.itoa (m.tmod n), 0) := by
  unfold divR
  rw [if_pos ⟨good_itoa hm, good_itoa hn⟩, if_neg, valS_itoa, valS_itoa]
  intro e
  rw [good_zero_iff (good_itoa hn), valS_itoa] at e
  exact h0 e
theorem cmpR_itoa {m n : Int} (hm : m.natAbs < 10 ^ 100) (hn : n.natAbs < 10 ^ 100) : cmpR (Lib.itoa m) (Lib.itoa n) = sgn (m - n) := by
  unfold cmpR; rw [if_pos ⟨good_itoa hm, good_itoa hn⟩, valS_itoa, valS_itoa]
theorem tdiv_abs (m n : Int) : (m.tdiv n).natAbs ≤ m.natAbs := by
  rw [Int.natAbs_tdiv]
  exact Nat.div_le_self _ _
theorem tmod_abs (m n : Int) : (m.tmod n).natAbs ≤ m.natAbs := by
  rw [Int.natAbs_tmod]
  exact Nat.mod_le _ _
theorem tdiv_mul (m n : Int) : m.tdiv n * n + m.tmod n = m := by
  have := Int.mul_tdiv_add_tmod m n
  rw [Int.mul_comm] at this
  exact this
theorem tdiv_mul_abs (m n : Int) : (m.tdiv n * n).natAbs ≤ m.natAbs := by
  rw [Int.natAbs_mul, Int.natAbs_tdiv]
  exact Nat.div_mul_le_self _ _
theorem sgn_neg (z : Int) : sgn (-z) = -sgn z := by
  unfold sgn
  split <;> split <;> (try split) <;> omega
theorem sgn_tmod (m n : Int) : 0 ≤ sgn (m.tmod n - 0) * sgn (m - 0) := by
  rw [Int.sub_zero, Int.sub_zero]
  by_cases h : 0 ≤ m
  · have := Int.tmod_nonneg n h
    unfold sgn
    split <;> split <;> (try split) <;> (try split) <;> first | omega | decide
  · have h2 := Int.tmod_nonneg n (show 0 ≤ -m by omega)
    rw [Int.neg_tmod] at h2
    unfold sgn
    split <;> split <;> (try split) <;> (try split) <;> first | omega | decide

theorem tdiv_signs (m n : Int) : m.tdiv n = if (!(decide (m < 0) == decide (n < 0))) = true then -((m.natAbs / n.natAbs : Nat) : Int) else ((m.natAbs / n.natAbs : Nat) : Int) := by
  rcases Int.lt_or_le m 0 with h1 | h1 <;> rcases Int.lt_or_le n 0 with h2 | h2
  · rw [decide_eq_true h1, decide_eq_true h2, if_neg (by decide)]
    obtain ⟨x, rfl⟩ : ∃ x : Nat, m = -(x : Int) := ⟨m.natAbs, by omega⟩
    obtain ⟨y, rfl⟩ : ∃ y : Nat, n = -(y : Int) := ⟨n.natAbs, by omega⟩
    rw [Int.neg_tdiv, Int.tdiv_neg, Int.neg_neg, ← Int.ofNat_tdiv, Int.natAbs_neg, Int.natAbs_neg, Int.natAbs_natCast, Int.natAbs_natCast]
  · rw [decide_eq_true h1, decide_eq_false (Int.not_lt.2 h2), if_pos (by decide)]
    obtain ⟨x, rfl⟩ : ∃ x : Nat, m = -(x : Int) := ⟨m.natAbs, by omega⟩
    obtain ⟨y, rfl⟩ : ∃ y : Nat, n = (y : Int) := ⟨n.natAbs, by omega⟩
    rw [Int.neg_tdiv, ← Int.ofNat_tdiv, Int.natAbs_neg, Int.natAbs_natCast, Int.natAbs_natCast]
  · rw [decide_eq_false (Int.not_lt.2 h1), decide_eq_true h2, if_pos (by decide)]
    obtain ⟨x, rfl⟩ : ∃ x : Nat, m = (x : Int) := ⟨m.natAbs, by omega⟩
    obtain ⟨y, rfl⟩ : ∃ y : Nat, n = -(y : Int) := ⟨n.natAbs, by omega⟩
    rw [Int.tdiv_neg, ← Int.ofNat_tdiv, Int.natAbs_neg, Int.natAbs_natCast, Int.natAbs_natCast]
  · rw [decide_eq_false (Int.not_lt.2 h1), decide_eq_false (Int.not_lt.2 h2), if_neg (by decide)]
    obtain ⟨x, rfl⟩ : ∃ x : Nat, m = (x : Int) := ⟨m.natAbs, by omega⟩
    obtain ⟨y, rfl⟩ : ∃ y : Nat, n = (y : Int) := ⟨n.natAbs, by omega⟩
    rw [← Int.ofNat_tdiv, Int.natAbs_natCast, Int.natAbs_natCast]
theorem tmod_signs (m n : Int) : m.tmod n = if decide (m < 0) = true then -((m.natAbs % n.natAbs : Nat) : Int) else ((m.natAbs % n.natAbs : Nat) : Int) := by
  have e : ∀ (x : Nat), (x : Int).tmod n = ((x % n.natAbs : Nat) : Int) := fun x => by
    rcases Int.lt_or_le n 0 with h2 | h2
    · obtain ⟨y, rfl⟩ : ∃ y : Nat, n = -(y : Int) := ⟨n.natAbs, by omega⟩
      rw [Int.tmod_neg, ← Int.ofNat_tmod, Int.natAbs_neg, Int.natAbs_natCast]
    · obtain ⟨y, rfl⟩ : ∃ y : Nat, n = (y : Int) := ⟨n.natAbs, by omega⟩
      rw [← Int.ofNat_tmod, Int.natAbs_natCast]
  rcases Int.lt_or_le m 0 with h1 | h1
  · rw [decide_eq_true h1, if_pos rfl]
    obtain ⟨x, rfl⟩ : ∃ x : Nat, m = -(x : Int) := ⟨m.natAbs, by omega⟩
    rw [Int.neg_tmod, e, Int.natAbs_neg, Int.natAbs_natCast]
  · rw [decide_eq_false (Int.not_lt.2 h1), if_neg (by decide)]
    obtain ⟨x, rfl⟩ : ∃ x : Nat, m = (x : Int) := ⟨m.natAbs, by omega⟩
    rw [e, Int.natAbs_natCast]

end Go.Proofs.YtpbipngnoklmcaaGreatDoor
namespace Go.Proofs.YtpbipngnoklmcaaGreatDoor

/-- The i-th digit from the right; 0 beyond the text. -/
def dgR (s : List UInt8) (i : Nat) : Nat := if i < s.length then dv (s.getD (s.length - 1 - i) 0) else 0
/-- What the last i digits are worth. -/
def lowR (s : List UInt8) (i : Nat) : Nat := valD (s.drop (s.length - i))
theorem lowR_zero (s : List UInt8) : lowR s 0 = 0 := by unfold lowR; rw [Nat.sub_zero, List.drop_length]; rfl
theorem lowR_all {s : List UInt8} {i : Nat} (h : s.length ≤ i) : lowR s i = valD s := by
  unfold lowR
  rw [show s.length - i = 0 by omega, List.drop_zero]
theorem lowR_succ (s : List UInt8) (i : Nat) : lowR s (i + 1) = lowR s i + 10 ^ i * dgR s i := by
  by_cases h : i < s.length
  · unfold lowR dgR
    rw [if_pos h]
    have e : s.drop (s.length - (i + 1)) = s.getD (s.length - 1 - i) 0 :: s.drop (s.length - i) := by
      rw [show s.length - (i + 1) = s.length - 1 - i by omega, List.drop_eq_getElem_cons (show s.length - 1 - i < s.length by omega)]
      congr 1
      · simp [List.getD, show s.length - 1 - i < s.length by omega]
      · congr 1; omega
    rw [e, valD_cons, List.length_drop, show s.length - (s.length - i) = i by omega, Nat.mul_comm]
    omega
  · rw [lowR_all (by omega), lowR_all (by omega)]
    unfold dgR
    rw [if_neg h]
    omega
theorem dgR_lt {s : List UInt8} (h : allD s = true) (i : Nat) : dgR s i < 10 := by
  unfold dgR
  split
  · rename_i hi
    have : s.getD (s.length - 1 - i) 0 ∈ s := by
      simp only [List.getD, List.getElem?_eq_getElem (show s.length - 1 - i < s.length by omega), Option.getD_some]
      exact List.getElem_mem _
    exact dv_lt (List.all_eq_true.1 h _ this)
  · decide

theorem rplus_step {a b out : List UInt8} {i c : Nat} (ha : allD a = true) (hb : allD b = true) (hl : out.length = i) (ho : allD out = true) (hc : c ≤ 1) (h : valD out + 10 ^ i * c = lowR a i + lowR b i) :
    allD (UInt8.ofNat (48 + (dgR a i + dgR b i + c) % 10) :: out) = true ∧ (dgR a i + dgR b i + c) / 10 ≤ 1 ∧ valD (UInt8.ofNat (48 + (dgR a i + dgR b i + c) % 10) :: out) + 10 ^ (i + 1) * ((dgR a i + dgR b i + c) / 10) = lowR a (i + 1) + lowR b (i + 1) := by
  have h1 := dgR_lt ha i
  have h2 := dgR_lt hb i
  have h3 : (dgR a i + dgR b i + c) % 10 < 10 := Nat.mod_lt _ (by decide)
  refine ⟨?_, by omega, ?_⟩
  · unfold allD
    rw [List.all_cons, isD_ofNat h3, Bool.true_and]
    exact ho
  · rw [valD_cons, dv_ofNat h3, hl, lowR_succ, lowR_succ, Nat.pow_succ, Nat.mul_assoc]
    have e : 10 ^ i * ((dgR a i + dgR b i + c) % 10) + 10 ^ i * (10 * ((dgR a i + dgR b i + c) / 10)) = 10 ^ i * dgR a i + 10 ^ i * dgR b i + 10 ^ i * c := by
      rw [← Nat.mul_add, Nat.mod_add_div, Nat.mul_add, Nat.mul_add]
    rw [Nat.mul_comm ((dgR a i + dgR b i + c) % 10)]
    omega
theorem rplus_end {a b out : List UInt8} {i : Nat} (hl : out.length = i) (ho : allD out = true) (ha : a.length ≤ i) (hb : b.length ≤ i) (hn : 0 < i) (h : valD out + 10 ^ i * 0 = lowR a i + lowR b i) : bareL out = Lib.decDigits (valD a + valD b) := by
  rw [lowR_all ha, lowR_all hb] at h
  rw [bareL_dec (by rintro rfl; simp at hl; omega) ho]
  congr 1
theorem rminus_step {a b out : List UInt8} {i c : Nat} (ha : allD a = true) (hb : allD b = true) (hl : out.length = i) (ho : allD out = true) (hc : c ≤ 1) (h : valD out + lowR b i = lowR a i + 10 ^ i * c) :
    (dgR a i < dgR b i + c → allD (UInt8.ofNat (48 + (dgR a i + 10 - (dgR b i + c))) :: out) = true ∧ valD (UInt8.ofNat (48 + (dgR a i + 10 - (dgR b i + c))) :: out) + lowR b (i + 1) = lowR a (i + 1) + 10 ^ (i + 1) * 1) ∧
    (¬ dgR a i < dgR b i + c → allD (UInt8.ofNat (48 + (dgR a i - (dgR b i + c))) :: out) = true ∧ valD (UInt8.ofNat (48 + (dgR a i - (dgR b i + c))) :: out) + lowR b (i + 1) = lowR a (i + 1) + 10 ^ (i + 1) * 0) := by
  have h1 := dgR_lt ha i
  have h2 := dgR_lt hb i
  refine ⟨fun hlt => ?_, fun hlt => ?_⟩
  · have h3 : dgR a i + 10 - (dgR b i + c) < 10 := by omega
    refine ⟨by unfold allD; rw [List.all_cons, isD_ofNat h3, Bool.true_and]; exact ho, ?_⟩
    rw [valD_cons, dv_ofNat h3, hl, lowR_succ, lowR_succ, Nat.pow_succ]
    have e : 10 ^ i * (dgR a i + 10 - (dgR b i + c)) + 10 ^ i * (dgR b i + c) = 10 ^ i * dgR a i + 10 ^ i * 10 := by
      rw [← Nat.mul_add, ← Nat.mul_add]
      congr 1
      omega
    rw [Nat.mul_add] at e
    rw [Nat.mul_comm (dgR a i + 10 - (dgR b i + c))]
    omega
  · have h3 : dgR a i - (dgR b i + c) < 10 := by omega
    refine ⟨by unfold allD; rw [List.all_cons, isD_ofNat h3, Bool.true_and]; exact ho, ?_⟩
    rw [valD_cons, dv_ofNat h3, hl, lowR_succ, lowR_succ]
    have e : 10 ^ i * (dgR a i - (dgR b i + c)) + 10 ^ i * (dgR b i + c) = 10 ^ i * dgR a i := by
      rw [← Nat.mul_add]
      congr 1
      omega
    rw [Nat.mul_add] at e
    rw [Nat.mul_comm (dgR a i - (dgR b i + c))]
    omega
theorem rminus_end {a b out : List UInt8} {c : Nat} (hl : out.length = a.length) (ho : allD out = true) (hb : b.length ≤ a.length) (hn : a ≠ []) (hle : valD b ≤ valD a) (h : valD out + lowR b a.length = lowR a a.length + 10 ^ a.length * c) : bareL out = Lib.decDigits (valD a - valD b) := by
  rw [lowR_all (Nat.le_refl _), lowR_all hb] at h
  have h1 := valD_lt ho
  rw [hl] at h1
  have hc : c = 0 := by
    apply Classical.byContradiction
    intro hh
    have : 10 ^ a.length * 1 ≤ 10 ^ a.length * c := Nat.mul_le_mul_left _ (by omega)
    omega
  rw [hc] at h
  rw [bareL_dec (by rintro rfl; simp at hl; exact hn (List.eq_nil_of_length_eq_zero hl.symm)) ho]
  congr 1
  omega

/-- A digit more. -/
theorem bare_digit (n d : Nat) (hd : d < 10) : bareL (Lib.decDigits n ++ [UInt8.ofNat (48 + d)]) = Lib.decDigits (10 * n + d) := by
  rw [bareL_dec (by simp) (by rw [allD_append]; exact ⟨allD_dec n, by unfold allD; rw [List.all_cons, isD_ofNat hd]; rfl⟩), valD_snoc, valD_dec, dv_ofNat hd]

/-- Of two texts of numbers the shorter one is worth less; of as many digits the one that comes first. -/
theorem dec_len_le {m n : Nat} (h : m ≤ n) : (Lib.decDigits m).length ≤ (Lib.decDigits n).length := by
  rw [Lib.decDigits_length, Lib.decDigits_length]
  exact (nDigits_le (Lib.nDigits_pos n)).2 (Nat.lt_of_le_of_lt h (Lib.lt_pow_nDigits n))
theorem dec_len_lt {m n : Nat} (h : (Lib.decDigits m).length < (Lib.decDigits n).length) : m < n := by
  apply Classical.byContradiction
  intro hh
  have := dec_len_le (show n ≤ m by omega)
  omega
/-- Which of two texts comes first. -/
def ltS : List UInt8 → List UInt8 → Bool
  | [], [] => false
  | [], _ :: _ => true
  | _ :: _, [] => false
  | c :: l, d :: m => if c = d then ltS l m else decide (c < d)
theorem ltS_val : ∀ {l m : List UInt8}, l.length = m.length → allD l = true → allD m = true → (ltS l m = true ↔ valD l < valD m)
  | [], [], _, _, _ => by simp [ltS, valD]
  | c :: l, d :: m, hl, h1, h2 => by
    simp only [allD, List.all_cons, Bool.and_eq_true] at h1 h2
    have hl' : l.length = m.length := by simpa using hl
    have v1 := valD_lt h1.2
    have v2 := valD_lt h2.2
    rw [hl'] at v1
    have i1 := isD_iff.1 h1.1
    have i2 := isD_iff.1 h2.1
    unfold ltS
    rw [valD_cons, valD_cons, hl']
    by_cases hcd : c = d
    · rw [if_pos hcd, ltS_val hl' h1.2 h2.2, hcd]
      omega
    · rw [if_neg hcd, decide_eq_true_eq, UInt8.lt_iff_toNat_lt]
      have hne : c.toNat ≠ d.toNat := fun e => hcd (UInt8.toNat_inj.1 e)
      constructor
      · intro hlt
        have : (dv c + 1) * 10 ^ m.length ≤ dv d * 10 ^ m.length := Nat.mul_le_mul_right _ (by unfold dv; omega)
        rw [Nat.add_mul, Nat.one_mul] at this
        omega
      · intro hv
        apply Classical.byContradiction
        intro hge
        have : (dv d + 1) * 10 ^ m.length ≤ dv c * 10 ^ m.length := Nat.mul_le_mul_right _ (by unfold dv; omega)
        rw [Nat.add_mul, Nat.one_mul] at this
        omega
  | [], _ :: _, hl, _, _ => by simp at hl
  | _ :: _, [], hl, _, _ => by simp at hl
/-- The document's Less. -/
def lessS (a b : List UInt8) : Bool := if a.length ≠ b.length then decide (a.length < b.length) else ltS a b
theorem lessS_dec (m n : Nat) : lessS (Lib.decDigits m) (Lib.decDigits n) = decide (m < n) := by
  unfold lessS
  by_cases h : (Lib.decDigits m).length = (Lib.decDigits n).length
  · rw [if_neg (by simp [h])]
    have := ltS_val h (allD_dec m) (allD_dec n)
    rw [valD_dec, valD_dec] at this
    rw [Bool.eq_iff_iff, this]
    simp
  · rw [if_pos h, Bool.eq_iff_iff, decide_eq_true_eq, decide_eq_true_eq]
    constructor
    · exact dec_len_lt
    · intro hlt
      have := dec_len_le (Nat.le_of_lt hlt)
      omega

/-! ### Signs -/

def signedS (below : Bool) (s : List UInt8) : List UInt8 := if below = true ∧ s ≠ [48] then 45 :: s else s
theorem dec_48 (n : Nat) : Lib.decDigits n = [48] ↔ n = 0 := by
  constructor
  · intro h
    have := congrArg valD h
    rw [valD_dec] at this
    rw [this]; rfl
  · rintro rfl; exact dec_zero
theorem signed_dec (below : Bool) (n : Nat) : signedS below (Lib.decDigits n) = Lib.itoa (if below = true then -(n : Int) else n) := by
  unfold signedS
  cases below with
  | false =>
    rw [if_neg (by simp), if_neg (by simp), itoa_pos (by omega), Int.toNat_natCast]
  | true =>
    by_cases h : n = 0
    · subst h
      rw [if_neg (by rw [dec_zero]; simp), if_pos rfl, itoa_pos (by decide)]
      rfl
    · rw [if_pos ⟨rfl, fun e => h ((dec_48 n).1 e)⟩, if_pos rfl, itoa_neg (by omega), show (-(n : Int)).natAbs = n by omega]

/-- The rest and the next digit: what is taken away how often. -/
theorem part_step {X Y r d : Nat} (hY : 0 < Y) (hr : r = X % Y) : (10 * r + d) / Y < 10 ∨ 10 ≤ d := by
  have h : r < Y := by rw [hr]; exact Nat.mod_lt _ hY
  by_cases hd : d < 10
  · left
    rw [Nat.div_lt_iff_lt_mul hY]
    omega
  · right; omega
theorem part_next {X Y d : Nat} (hY : 0 < Y) : (10 * X + d) / Y = 10 * (X / Y) + (10 * (X % Y) + d) / Y ∧ (10 * X + d) % Y = (10 * (X % Y) + d) % Y := by
  have h := Nat.div_add_mod X Y
  have e : 10 * X + d = Y * (10 * (X / Y)) + (10 * (X % Y) + d) := by
    conv => lhs; rw [← h]
    rw [Nat.mul_add, Nat.mul_left_comm]
    omega
  rw [e]
  constructor
  · rw [Nat.mul_add_div hY]
  · rw [Nat.mul_add_mod]

end Go.Proofs.YtpbipngnoklmcaaGreatDoor
namespace Go.Proofs.YtpbipngnoklmcaaGreatDoor
set_option maxRecDepth 100000

/-- A value: kind, truth, text, items, keys. -/
inductive VT where
  | mk (kind : Int) (b : Bool) (text : List UInt8) (items : List VT) (keys : List (List UInt8))

theorem VT.ind {P : VT → Prop} (h : ∀ k b t its ks, (∀ x ∈ its, P x) → P (.mk k b t its ks)) (v : VT) : P v :=
  VT.rec (motive_1 := P) (motive_2 := fun l => ∀ x ∈ l, P x) (fun k b t its ks ih => h k b t its ks ih) (fun x hx => by cases hx)
    (fun y r hy hr x hx => by rcases List.mem_cons.1 hx with rfl | h'; exact hy; exact hr x h') v

def VT.kind : VT → Int | .mk k _ _ _ _ => k
def VT.flag : VT → Bool | .mk _ b _ _ _ => b
def VT.text : VT → List UInt8 | .mk _ _ t _ _ => t
def VT.items : VT → List VT | .mk _ _ _ i _ => i
def VT.keys : VT → List (List UInt8) | .mk _ _ _ _ k => k
def VT.none : VT := .mk 0 false [] [] []
instance : Inhabited VT := ⟨VT.none⟩

mutual
def sizeV : VT → Nat | .mk _ _ _ its _ => 1 + sizeL its
def sizeL : List VT → Nat | [] => 0 | x :: r => sizeV x + sizeL r
end
def deepV : Nat → VT → Bool
  | 0, _ => false
  | n + 1, .mk _ _ _ its _ => its.all (deepV n)
/-- Texts that rise. -/
def rising : List (List UInt8) → Bool
  | a :: b :: r => ltS a b && rising (b :: r)
  | _ => true
/-- Has a value just what its kind needs? (its own fields: two lots of questions, and its keys) -/
def aOk (k : Int) (b : Bool) (t : List UInt8) (n m : Nat) : Bool :=
  decide (0 ≤ k) && decide (k ≤ 6) && (!b || k == 2) && (t.isEmpty || k == 3 || k == 4) && (n == 0 || decide (5 ≤ k)) && (k == 6 || m == 0)
def bOk (k : Int) (t : List UInt8) (n m : Nat) : Bool := (!(k == 3) || goodS t) && (!(k == 4) || decide (t.length ≤ 16384)) && (!(k == 6) || m == n)
def keysOk (ks : List (List UInt8)) : Bool := ks.all (fun s => decide (s.length ≤ 16384)) && rising ks
def nodeOk (k : Int) (b : Bool) (t : List UInt8) (n : Nat) (ks : List (List UInt8)) : Bool := aOk k b t n ks.length && bOk k t n ks.length && keysOk ks
theorem rising_snoc : ∀ (l : List (List UInt8)) (p x : List UInt8), rising (l ++ [p, x]) = (rising (l ++ [p]) && ltS p x)
  | [], p, x => by simp [rising]
  | [a], p, x => by simp [rising]
  | a :: b :: r, p, x => by
    have := rising_snoc (b :: r) p x
    simp only [List.cons_append] at this ⊢
    rw [rising, rising, this, Bool.and_assoc]
theorem keysOk_zero : keysOk [] = true := rfl
theorem keysOk_one {ks : List (List UInt8)} (h : 0 < ks.length) : keysOk (ks.take 1) = decide (ks[0].length ≤ 16384) := by
  cases ks with
  | nil => simp at h
  | cons x r => simp [keysOk, rising]
theorem keysOk_succ {ks : List (List UInt8)} {i : Nat} (h : i + 1 < ks.length) : keysOk (ks.take (i + 2)) = (keysOk (ks.take (i + 1)) && (decide (ks[i + 1].length ≤ 16384) && ltS ks[i] ks[i + 1])) := by
  have e1 : ks.take (i + 1) = ks.take i ++ [ks[i]] := List.take_succ_eq_append_getElem (by omega)
  have e2 : ks.take (i + 2) = ks.take i ++ [ks[i], ks[i + 1]] := by
    rw [List.take_succ_eq_append_getElem (show i + 1 < ks.length from h), e1, List.append_assoc]
    rfl
  unfold keysOk
  rw [e2, rising_snoc, e1, List.all_append, List.all_append]
  simp only [List.all_cons, List.all_nil, Bool.and_true]
  cases (ks.take i).all (fun s => decide (s.length ≤ 16384)) <;> cases decide (ks[i].length ≤ 16384) <;> cases decide (ks[i + 1].length ≤ 16384) <;> cases rising (ks.take i ++ [ks[i]]) <;> simp
theorem keysOk_take {ks : List (List UInt8)} {i j : Nat} (hij : i ≤ j) (h : keysOk (ks.take j) = true) : keysOk (ks.take i) = true := by
  have hr : ∀ (l m : List (List UInt8)), rising (l ++ m) = true → rising l = true := by
    intro l
    induction l with
    | nil => intro _ _; rfl
    | cons a l ih =>
      intro m h
      cases l with
      | nil => rfl
      | cons b r =>
        simp only [List.cons_append, rising, Bool.and_eq_true] at h ⊢
        exact ⟨h.1, ih m h.2⟩
  have e : ks.take j = ks.take i ++ (ks.take j).drop i := by
    conv => lhs; rw [← List.take_append_drop i (ks.take j), List.take_take, Nat.min_eq_left hij]
  unfold keysOk at h ⊢
  rw [Bool.and_eq_true] at h ⊢
  rw [e] at h
  rw [List.all_append, Bool.and_eq_true] at h
  exact ⟨h.1.1, hr _ _ h.2⟩
mutual
def plainV : VT → Bool | .mk k b t its ks => nodeOk k b t its.length ks && plainL its
def plainL : List VT → Bool | [] => true | x :: r => plainV x && plainL r
end
mutual
def knownV : VT → Bool | .mk k _ _ its _ => !(k == 1) && knownL its
def knownL : List VT → Bool | [] => true | x :: r => knownV x && knownL r
end
mutual
/-- No more keys than items, at whatever depth. -/
def fitV : VT → Bool | .mk _ _ _ its ks => decide (ks.length ≤ its.length) && fitL its
def fitL : List VT → Bool | [] => true | x :: r => fitV x && fitL r
end
def goodV (v : VT) : Bool := decide (sizeV v ≤ 2000) && deepV 24 v && plainV v

theorem plainL_all : ∀ (l : List VT), plainL l = l.all plainV
  | [] => rfl
  | x :: r => by rw [plainL, List.all_cons, plainL_all r]
theorem knownL_all : ∀ (l : List VT), knownL l = l.all knownV
  | [] => rfl
  | x :: r => by rw [knownL, List.all_cons, knownL_all r]
theorem fitL_all : ∀ (l : List VT), fitL l = l.all fitV
  | [] => rfl
  | x :: r => by rw [fitL, List.all_cons, fitL_all r]
theorem nodeOk_len {k : Int} {b : Bool} {t : List UInt8} {n : Nat} {ks : List (List UInt8)} (h : nodeOk k b t n ks = true) : ks.length ≤ n := by
  simp only [nodeOk, aOk, bOk, Bool.and_eq_true, Bool.or_eq_true, beq_iff_eq, Bool.not_eq_true', beq_eq_false_iff_ne, ne_eq] at h
  obtain ⟨⟨⟨_, h1⟩, ⟨_, h2⟩⟩, _⟩ := h
  omega
theorem plain_fit (t : VT) : plainV t = true → fitV t = true := by
  induction t using VT.ind with
  | h k b tx its ks ih =>
    intro h
    rw [plainV, Bool.and_eq_true, plainL_all, List.all_eq_true] at h
    rw [fitV, Bool.and_eq_true, fitL_all, List.all_eq_true]
    exact ⟨decide_eq_true (nodeOk_len h.1), fun x hx => ih x hx (h.2 x hx)⟩
theorem fitV_mk {k : Int} {b : Bool} {t : List UInt8} {its : List VT} {ks : List (List UInt8)} : fitV (.mk k b t its ks) = true ↔ ks.length ≤ its.length ∧ ∀ x ∈ its, fitV x = true := by
  rw [fitV, Bool.and_eq_true, fitL_all, List.all_eq_true, decide_eq_true_eq]
theorem sizeV_pos (v : VT) : 1 ≤ sizeV v := by cases v; rw [sizeV]; omega
theorem sizeL_append : ∀ (l m : List VT), sizeL (l ++ m) = sizeL l + sizeL m
  | [], m => by rw [List.nil_append, sizeL, Nat.zero_add]
  | x :: r, m => by rw [List.cons_append, sizeL, sizeL, sizeL_append r m]; omega
theorem sizeL_len : ∀ (l : List VT), l.length ≤ sizeL l
  | [] => Nat.zero_le _
  | x :: r => by
    rw [sizeL, List.length_cons]
    have := sizeV_pos x
    have := sizeL_len r
    omega
theorem sizeL_take_succ {l : List VT} {i : Nat} (h : i < l.length) : sizeL (l.take (i + 1)) = sizeL (l.take i) + sizeV l[i] := by
  rw [List.take_succ_eq_append_getElem h, sizeL_append, sizeL, sizeL]
  omega
theorem sizeL_take_le (l : List VT) (i : Nat) : sizeL (l.take i) ≤ sizeL l := by
  conv => rhs; rw [← List.take_append_drop i l, sizeL_append]
  omega

mutual
def sameV : VT → VT → Bool
  | .mk k b t its ks, w => k == w.kind && b == w.flag && t == w.text && ks == w.keys && sameL its w.items
def sameL : List VT → List VT → Bool
  | [], [] => true
  | x :: r, y :: s => sameV x y && sameL r s
  | _, _ => false
end
theorem sameV_iff (a : VT) : ∀ b, sameV a b = true ↔ a = b := by
  induction a using VT.ind with
  | h k b t its ks ih =>
    have hL : ∀ (l m : List VT), (∀ x ∈ l, ∀ y, sameV x y = true ↔ x = y) → (sameL l m = true ↔ l = m) := by
      intro l
      induction l with
      | nil => intro m _; cases m <;> simp [sameL]
      | cons x r ihr =>
        intro m hx
        cases m with
        | nil => simp [sameL]
        | cons y s =>
          rw [sameL, Bool.and_eq_true, hx x (by simp) y, ihr s (fun z hz => hx z (by simp [hz]))]
          simp
    intro c
    cases c with
    | mk k' b' t' its' ks' =>
      rw [sameV]
      simp only [VT.kind, VT.flag, VT.text, VT.keys, VT.items, Bool.and_eq_true, beq_iff_eq, hL its its' ih, VT.mk.injEq]
      constructor
      · rintro ⟨⟨⟨⟨h1, h2⟩, h3⟩, h4⟩, h5⟩; exact ⟨h1, h2, h3, h5, h4⟩
      · rintro ⟨h1, h2, h3, h5, h4⟩; exact ⟨⟨⟨⟨h1, h2⟩, h3⟩, h4⟩, h5⟩

/-- -1, 0, 1 of two texts. -/
def ordS (a b : List UInt8) : Int := if ltS a b = true then -1 else if ltS b a = true then 1 else 0
/-- .. of two lists, by what their elements are to one another; the shorter first. -/
def ordL {α : Type} (f : α → α → Int) : List α → List α → Int
  | [], [] => 0
  | [], _ :: _ => -1
  | _ :: _, [] => 1
  | x :: r, y :: s => if f x y = 0 then ordL f r s else f x y
def orB (a b : Bool) : Int := if a = b then 0 else if b = true then -1 else 1
mutual
def cmpV : VT → VT → Int
  | .mk k b t its ks, w =>
    if k = w.kind then
      if k = 2 then orB b w.flag
      else if k = 3 then cmpR t w.text
      else if k = 4 then ordS t w.text
      else if ordL ordS ks w.keys = 0 then cmpLs its w.items else ordL ordS ks w.keys
    else if k < w.kind then -1 else 1
def cmpLs : List VT → List VT → Int
  | [], [] => 0
  | [], _ :: _ => -1
  | _ :: _, [] => 1
  | x :: r, y :: s => if cmpV x y = 0 then cmpLs r s else cmpV x y
end
theorem cmpLs_ord : ∀ (l m : List VT), cmpLs l m = ordL cmpV l m
  | [], [] => by rw [cmpLs, ordL]
  | [], _ :: _ => by rw [cmpLs, ordL]
  | _ :: _, [] => by rw [cmpLs, ordL]
  | x :: r, y :: s => by rw [cmpLs, ordL, cmpLs_ord r s]

end Go.Proofs.YtpbipngnoklmcaaGreatDoor
