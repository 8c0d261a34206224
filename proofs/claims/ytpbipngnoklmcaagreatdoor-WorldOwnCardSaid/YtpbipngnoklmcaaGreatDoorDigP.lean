/- Plain: digits and numbers: what a text of digits is worth, the text of a number, and texts without noughts ahead. No program in sight. -/
import Derived.Lib.ItoaNum
namespace Go.Proofs.YtpbipngnoklmcaaGreatDoor

def isD (c : UInt8) : Bool := decide (48 ≤ c.toNat) && decide (c.toNat ≤ 57)
def dv (c : UInt8) : Nat := c.toNat - 48
def valD (l : List UInt8) : Nat := l.foldl (fun a c => 10 * a + dv c) 0
def allD (l : List UInt8) : Bool := l.all isD

theorem isD_iff {c : UInt8} : isD c = true ↔ 48 ≤ c.toNat ∧ c.toNat ≤ 57 := by simp [isD]
theorem dv_lt {c : UInt8} (h : isD c = true) : dv c < 10 := by rw [isD_iff] at h; unfold dv; omega
theorem ofNat_dv {c : UInt8} (h : isD c = true) : UInt8.ofNat (48 + dv c) = c := by
  rw [isD_iff] at h
  apply UInt8.toNat_inj.1
  rw [UInt8.toNat_ofNat']
  unfold dv
  omega
theorem isD_ofNat {d : Nat} (h : d < 10) : isD (UInt8.ofNat (48 + d)) = true := by
  rw [isD_iff, UInt8.toNat_ofNat']; omega
theorem dv_ofNat {d : Nat} (h : d < 10) : dv (UInt8.ofNat (48 + d)) = d := by
  unfold dv; rw [UInt8.toNat_ofNat']; omega

theorem valD_snoc (l : List UInt8) (c : UInt8) : valD (l ++ [c]) = 10 * valD l + dv c := by simp [valD]
theorem valD_nil : valD [] = 0 := rfl
theorem foldl_val (l : List UInt8) (a : Nat) : l.foldl (fun a c => 10 * a + dv c) a = a * 10 ^ l.length + valD l := by
  induction l generalizing a with
  | nil => simp [valD]
  | cons c l ih =>
    unfold valD
    rw [List.foldl_cons, List.foldl_cons, ih, ih (10 * 0 + dv c), List.length_cons, Nat.pow_succ]
    simp only [Nat.mul_zero, Nat.zero_add, Nat.add_mul]
    rw [Nat.mul_comm 10 a, Nat.mul_assoc, Nat.mul_comm 10]
    omega
theorem valD_append (l m : List UInt8) : valD (l ++ m) = valD l * 10 ^ m.length + valD m := by
  unfold valD
  rw [List.foldl_append, foldl_val]
  rfl
theorem valD_cons (c : UInt8) (l : List UInt8) : valD (c :: l) = dv c * 10 ^ l.length + valD l := by
  have := valD_append [c] l
  simpa [valD] using this
theorem valD_lt {l : List UInt8} (h : allD l = true) : valD l < 10 ^ l.length := by
  induction l with
  | nil => simp [valD]
  | cons c l ih =>
    simp only [allD, List.all_cons, Bool.and_eq_true] at h
    have h1 := dv_lt h.1
    have h2 := ih h.2
    rw [valD_cons, List.length_cons, Nat.pow_succ]
    have : dv c * 10 ^ l.length ≤ 9 * 10 ^ l.length := Nat.mul_le_mul_right _ (by omega)
    omega
theorem allD_append {l m : List UInt8} : allD (l ++ m) = true ↔ allD l = true ∧ allD m = true := by simp [allD, List.all_append]
theorem valD_zeros (k : Nat) : valD (List.replicate k 48) = 0 := by
  induction k with
  | zero => rfl
  | succ k ih => rw [List.replicate_succ, valD_cons, ih]; simp [dv]
theorem allD_zeros (k : Nat) : allD (List.replicate k 48) = true := by
  unfold allD
  rw [List.all_eq_true]
  intro c hc
  rw [List.eq_of_mem_replicate hc]
  decide
theorem valD_shift (l : List UInt8) (k : Nat) : valD (l ++ List.replicate k 48) = valD l * 10 ^ k := by
  rw [valD_append, valD_zeros, List.length_replicate]; omega
theorem valD_zeros_ahead (k : Nat) (l : List UInt8) : valD (List.replicate k 48 ++ l) = valD l := by
  rw [valD_append, valD_zeros]; omega

/-- Two texts of as many digits that are worth the same are the same. -/
theorem valD_inj : ∀ {l m : List UInt8}, l.length = m.length → allD l = true → allD m = true → valD l = valD m → l = m
  | [], [], _, _, _, _ => rfl
  | c :: l, d :: m, hl, h1, h2, hv => by
    simp only [allD, List.all_cons, Bool.and_eq_true] at h1 h2
    have hl' : l.length = m.length := by simpa using hl
    have v1 := valD_lt h1.2
    have v2 := valD_lt h2.2
    rw [valD_cons, valD_cons, hl'] at hv
    rw [hl'] at v1
    have hd : dv c = dv d := by
      have e1 : (dv c * 10 ^ m.length + valD l) / 10 ^ m.length = dv c := by
        rw [Nat.mul_comm, Nat.mul_add_div (by exact Nat.pow_pos (by decide)), Nat.div_eq_of_lt v1, Nat.add_zero]
      have e2 : (dv d * 10 ^ m.length + valD m) / 10 ^ m.length = dv d := by
        rw [Nat.mul_comm, Nat.mul_add_div (by exact Nat.pow_pos (by decide)), Nat.div_eq_of_lt v2, Nat.add_zero]
      rw [← e1, ← e2, hv]
    have hc : c = d := by rw [← ofNat_dv h1.1, ← ofNat_dv h2.1, hd]
    subst hc
    rw [valD_inj hl' h1.2 h2.2 (by omega)]
  | [], _ :: _, hl, _, _, _ => by simp at hl
  | _ :: _, [], hl, _, _, _ => by simp at hl

/-! ### The text of a number -/

theorem dig_step {u : Nat} (h : ¬ u < 10) : Lib.decDigits u = Lib.decDigits (u / 10) ++ [UInt8.ofNat (48 + u % 10)] := by rw [Lib.decDigits, dif_neg h]
theorem dig_small {u : Nat} (h : u < 10) : Lib.decDigits u = [UInt8.ofNat (48 + u)] := by rw [Lib.decDigits, dif_pos h]
theorem valD_dec (u : Nat) : valD (Lib.decDigits u) = u := by
  induction u using Nat.strongRecOn with
  | _ u ih =>
    by_cases h : u < 10
    · rw [dig_small h]
      show 10 * 0 + dv _ = u
      rw [dv_ofNat h]
      omega
    · rw [dig_step h, valD_snoc, ih _ (by omega), dv_ofNat (by omega)]
      omega
theorem allD_dec (u : Nat) : allD (Lib.decDigits u) = true := by
  induction u using Nat.strongRecOn with
  | _ u ih =>
    by_cases h : u < 10
    · rw [dig_small h]
      unfold allD
      rw [List.all_cons, isD_ofNat h]
      rfl
    · rw [dig_step h, allD_append]
      exact ⟨ih _ (by omega), by unfold allD; rw [List.all_cons, isD_ofNat (show u % 10 < 10 by omega)]; rfl⟩
theorem dec_ne_nil (u : Nat) : Lib.decDigits u ≠ [] := by
  have := Lib.nDigits_pos u
  rw [← Lib.decDigits_length] at this
  intro e
  rw [e] at this
  simp at this
theorem dec_head (u : Nat) (h : 0 < u) : (Lib.decDigits u).head? ≠ some 48 := by
  induction u using Nat.strongRecOn with
  | _ u ih =>
    by_cases h10 : u < 10
    · rw [dig_small h10]
      simp only [List.head?_cons, ne_eq, Option.some.injEq]
      intro e
      have := congrArg UInt8.toNat e
      rw [UInt8.toNat_ofNat'] at this
      simp at this
      omega
    · rw [dig_step h10, List.head?_append]
      have := ih (u / 10) (by omega) (by omega)
      cases hd : (Lib.decDigits (u / 10)).head? with
      | none => exact absurd (List.head?_eq_none_iff.1 hd) (dec_ne_nil _)
      | some c => rw [hd] at this; simpa using this
theorem dec_zero : Lib.decDigits 0 = [48] := by rw [dig_small (by decide)]; rfl

/-- A text of digits without a nought ahead is the text of what it is worth. -/
theorem dec_of {l : List UInt8} (hn : l ≠ []) (h : allD l = true) (hz : l.head? ≠ some 48 ∨ l.length = 1) : Lib.decDigits (valD l) = l := by
  obtain ⟨k, hk⟩ : ∃ k, k = l.length := ⟨_, rfl⟩
  induction k using Nat.strongRecOn generalizing l with
  | _ k ih =>
    obtain ⟨m, c, rfl⟩ : ∃ m c, l = m ++ [c] := ⟨l.dropLast, l.getLast hn, (List.dropLast_concat_getLast hn).symm⟩
    rw [allD_append] at h
    have hc : isD c = true := by simpa [allD] using h.2
    by_cases hm : m = []
    · subst hm
      simp only [List.nil_append]
      rw [show valD [c] = dv c by simp [valD], dig_small (dv_lt hc), ofNat_dv hc]
    · have hz' : m.head? ≠ some 48 := by
        rcases hz with hz | hz
        · rw [List.head?_append] at hz
          cases hd : m.head? with
          | none => exact absurd (List.head?_eq_none_iff.1 hd) hm
          | some x => rw [hd] at hz; simpa using hz
        · rw [List.length_append, List.length_singleton] at hz
          have : 0 < m.length := List.length_pos_iff.2 hm
          omega
      have hi := ih m.length (by rw [hk, List.length_append]; simp) hm h.1 (Or.inl hz') rfl
      have hv : 0 < valD m := by
        apply Nat.pos_of_ne_zero
        intro e
        rw [e, dec_zero] at hi
        rw [← hi] at hz'
        simp at hz'
      have hd := dv_lt hc
      rw [valD_snoc, dig_step (by omega), show (10 * valD m + dv c) / 10 = valD m by omega, hi, show (10 * valD m + dv c) % 10 = dv c by omega, ofNat_dv hc]

/-- Without noughts ahead. -/
def bareL : List UInt8 → List UInt8
  | c :: d :: l => if c = 48 then bareL (d :: l) else c :: d :: l
  | l => l
theorem bareL_val : ∀ (l : List UInt8), valD (bareL l) = valD l
  | [] => rfl
  | [_] => rfl
  | c :: d :: l => by
    unfold bareL
    split
    · rename_i h
      rw [bareL_val (d :: l), h, valD_cons 48]
      simp [dv]
    · rfl
theorem bareL_dec {l : List UInt8} (hn : l ≠ []) (h : allD l = true) : bareL l = Lib.decDigits (valD l) := by
  induction l with
  | nil => exact absurd rfl hn
  | cons c l ih =>
    cases l with
    | nil => exact (dec_of (by simp) h (Or.inr rfl)).symm
    | cons d l =>
      unfold bareL
      split
      · rename_i hc
        simp only [allD, List.all_cons, Bool.and_eq_true] at h
        rw [ih (by simp) (by simp only [allD, List.all_cons, Bool.and_eq_true]; exact h.2), hc, valD_cons 48]
        simp [dv]
      · rename_i hc
        exact (dec_of (by simp) h (Or.inl (by simpa using hc))).symm

/-! ### Numbers with a sign -/

/-- Without its sign. -/
def sizeS (a : List UInt8) : List UInt8 := if a.head? = some 45 then a.tail else a
def belowS (a : List UInt8) : Bool := a.head? == some 45
/-- Is it a number's text? -/
def goodS (a : List UInt8) : Bool := !(sizeS a).isEmpty && decide ((sizeS a).length ≤ 100) && (!((sizeS a).head? == some 48) || a == [48]) && allD (sizeS a)
def valS (a : List UInt8) : Int := if belowS a = true then -(valD (sizeS a) : Int) else (valD (sizeS a) : Int)

theorem itoa_neg {n : Int} (h : n < 0) : Lib.itoa n = 45 :: Lib.decDigits n.natAbs := by unfold Lib.itoa; rw [if_pos h]
theorem itoa_pos {n : Int} (h : ¬ n < 0) : Lib.itoa n = Lib.decDigits n.toNat := by unfold Lib.itoa; rw [if_neg h]
theorem isD_ne {c : UInt8} (h : isD c = true) : c ≠ 45 := by
  intro e
  subst e
  revert h
  decide
theorem dec_head45 (u : Nat) : (Lib.decDigits u).head? ≠ some 45 := by
  intro e
  have h := allD_dec u
  cases hd : Lib.decDigits u with
  | nil => rw [hd] at e; simp at e
  | cons c l =>
    rw [hd] at e h
    simp only [allD, List.all_cons, Bool.and_eq_true] at h
    simp only [List.head?_cons, Option.some.injEq] at e
    exact isD_ne h.1 e
theorem sizeS_itoa (n : Int) : sizeS (Lib.itoa n) = Lib.decDigits n.natAbs := by
  by_cases h : n < 0
  · rw [itoa_neg h]; rfl
  · rw [itoa_pos h]
    unfold sizeS
    rw [if_neg (dec_head45 _)]
    congr 1
    omega
theorem belowS_itoa (n : Int) : belowS (Lib.itoa n) = decide (n < 0) := by
  by_cases h : n < 0
  · rw [itoa_neg h, decide_eq_true h]; rfl
  · rw [itoa_pos h, decide_eq_false h]
    unfold belowS
    rw [beq_eq_false_iff_ne]
    exact dec_head45 _
theorem valS_itoa (n : Int) : valS (Lib.itoa n) = n := by
  unfold valS
  rw [belowS_itoa, sizeS_itoa, valD_dec]
  by_cases h : n < 0
  · rw [if_pos (by simpa using h)]; omega
  · rw [if_neg (by simpa using h)]; omega

theorem nDigits_le {u k : Nat} (hk : 1 ≤ k) : Lib.nDigits u ≤ k ↔ u < 10 ^ k := by
  constructor
  · intro h
    exact Nat.lt_of_lt_of_le (Lib.lt_pow_nDigits u) (Nat.pow_le_pow_right (by decide) h)
  · intro h
    by_cases hu : u = 0
    · subst hu
      rw [Lib.nDigits_small (by decide)]
      exact hk
    · apply Classical.byContradiction
      intro hn
      have h1 := dec_head u (by omega)
      have hl := Lib.decDigits_length u
      have hv := valD_dec u
      cases hd : Lib.decDigits u with
      | nil => exact dec_ne_nil u hd
      | cons c l =>
        have ha := allD_dec u
        rw [hd] at h1 hl hv ha
        simp only [allD, List.all_cons, Bool.and_eq_true] at ha
        have hc : 1 ≤ dv c := by
          have hi := isD_iff.1 ha.1
          unfold dv
          have : c.toNat ≠ 48 := by
            intro e
            apply h1
            simp only [List.head?_cons, Option.some.injEq]
            apply UInt8.toNat_inj.1
            rw [e]; rfl
          omega
        rw [valD_cons] at hv
        simp only [List.length_cons] at hl
        have : 10 ^ k ≤ 10 ^ l.length := Nat.pow_le_pow_right (by decide) (by omega)
        have : 10 ^ l.length ≤ dv c * 10 ^ l.length := Nat.le_mul_of_pos_left _ hc
        omega

/-- The good texts are those of the numbers of at most a hundred digits. -/
theorem good_itoa {n : Int} (h : n.natAbs < 10 ^ 100) : goodS (Lib.itoa n) = true := by
  unfold goodS
  rw [sizeS_itoa]
  have h1 := dec_ne_nil n.natAbs
  have h2 : (Lib.decDigits n.natAbs).length ≤ 100 := by rw [Lib.decDigits_length]; exact (nDigits_le (by decide)).2 h
  simp only [Bool.and_eq_true, Bool.not_eq_true', List.isEmpty_eq_false_iff, decide_eq_true_eq, Bool.or_eq_true, beq_eq_false_iff_ne, beq_iff_eq]
  refine ⟨⟨⟨h1, h2⟩, ?_⟩, allD_dec _⟩
  by_cases h0 : n = 0
  · subst h0
    right
    rw [itoa_pos (by decide)]
    exact dec_zero
  · exact Or.inl (dec_head _ (by omega))
theorem itoa_good {a : List UInt8} (h : goodS a = true) : a = Lib.itoa (valS a) ∧ (valS a).natAbs < 10 ^ 100 := by
  unfold goodS at h
  simp only [Bool.and_eq_true, Bool.not_eq_true', List.isEmpty_eq_false_iff, decide_eq_true_eq, Bool.or_eq_true, beq_eq_false_iff_ne, beq_iff_eq] at h
  obtain ⟨⟨⟨h1, h2⟩, h3⟩, h4⟩ := h
  have hv : valD (sizeS a) < 10 ^ 100 := Nat.lt_of_lt_of_le (valD_lt h4) (Nat.pow_le_pow_right (by decide) h2)
  by_cases hb : a.head? = some 45
  · have hs : sizeS a = a.tail := by unfold sizeS; rw [if_pos hb]
    have ha : a = 45 :: a.tail := by
      cases a with
      | nil => simp at hb
      | cons c l => simp at hb; rw [hb]; rfl
    have hne : (sizeS a).head? ≠ some 48 := by
      rcases h3 with h3 | h3
      · exact h3
      · rw [h3] at hb; simp at hb
    have hd := dec_of h1 h4 (Or.inl hne)
    have hp : 0 < valD (sizeS a) := by
      apply Nat.pos_of_ne_zero
      intro e
      rw [e, dec_zero] at hd
      rw [← hd] at hne
      simp at hne
    have hvs : valS a = -(valD (sizeS a) : Int) := by unfold valS belowS; rw [if_pos (by simpa using hb)]
    rw [hvs]
    refine ⟨?_, by omega⟩
    rw [itoa_neg (by omega), show (-(valD (sizeS a) : Int)).natAbs = valD (sizeS a) by omega, hd, hs]
    exact ha
  · have hs : sizeS a = a := by unfold sizeS; rw [if_neg hb]
    have hvs : valS a = (valD (sizeS a) : Int) := by unfold valS belowS; rw [if_neg (by simpa using hb)]
    rw [hvs]
    refine ⟨?_, by omega⟩
    rw [itoa_pos (by omega), Int.toNat_natCast]
    have hz : (sizeS a).head? ≠ some 48 ∨ (sizeS a).length = 1 := by
      rcases h3 with h3 | h3
      · exact Or.inl h3
      · right; rw [hs, h3]; rfl
    rw [dec_of h1 h4 hz, hs]
theorem goodS_iff (a : List UInt8) : goodS a = true ↔ ∃ n : Int, n.natAbs < 10 ^ 100 ∧ a = Lib.itoa n :=
  ⟨fun h => ⟨valS a, (itoa_good h).2, (itoa_good h).1⟩, fun ⟨_, h1, h2⟩ => h2 ▸ good_itoa h1⟩

end Go.Proofs.YtpbipngnoklmcaaGreatDoor
