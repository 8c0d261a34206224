/- Plain: digits and numbers: what a text of digits is worth, the text of a number, and texts without noughts ahead. No program in sight. Plain: numbers in limbs of nine digits: what they are worth, without noughts on top, compared, added, taken away, multiplied, read and written. No program in sight. Plain: what the calls on numbers answer, and the laws of whole numbers that the statements ask. No program in sight. Plain: the document's sums, differences, products and quotients, digit by digit, are those of the numbers. No program in sight. Plain: values as trees: what is a good one, their order, their keys. No program in sight. Plain: the keys of an object: where they stand; what putting, getting and dropping make. No program in sight. -/
import Derived.Lib.ItoaNum
namespace Go.Proofs.YtpbipngnoklmcaaDoor

def isD (c : UInt8) : Bool := decide (48 ≤ c.toNat) && decide (c.toNat ≤ 57)
def dv (c : UInt8) : Nat := c.toNat - 48
def valD (l : List UInt8) : Nat := l.foldl (fun a c => 10 * a + dv c) 0
def allD (l : List UInt8) : Bool := l.all isD

theorem isD_iff {c : UInt8} : isD c = true ↔ 48 ≤ c.toNat ∧ c.toNat ≤ 57 := by simp [isD]
theorem dv_lt {c : UInt8} (h : isD c = true) : dv c < 10 := by rw [isD_iff] at h; unfold dv; omega
theorem ofNat_dv {c : UInt8} (h : isD c = true) : UInt8.ofNat (48 + dv c) = c := by
  rw [isD_iff] at h
  apply UInt8.toNat_inj.1
  rw [UInt8.toNat_ofNat']
  unfold dv
  omega
theorem isD_ofNat {d : Nat} (h : d < 10) : isD (UInt8.ofNat (48 + d)) = true := by
  rw [isD_iff, UInt8.toNat_ofNat']; omega
theorem dv_ofNat {d : Nat} (h : d < 10) : dv (UInt8.ofNat (48 + d)) = d := by
  unfold dv; rw [UInt8.toNat_ofNat']; omega

theorem valD_snoc (l : List UInt8) (c : UInt8) : valD (l ++ [c]) = 10 * valD l + dv c := by simp [valD]
theorem valD_nil : valD [] = 0 := rfl
theorem foldl_val (l : List UInt8) (a : Nat) : l.foldl (fun a c => 10 * a + dv c) a = a * 10 ^ l.length + valD l := by
  induction l generalizing a with
  | nil => simp [valD]
  | cons c l ih =>
    unfold valD
    rw [List.foldl_cons, List.foldl_cons, ih, ih (10 * 0 + dv c), List.length_cons, Nat.pow_succ]
    simp only [Nat.mul_zero, Nat.zero_add, Nat.add_mul]
    rw [Nat.mul_comm 10 a, Nat.mul_assoc, Nat.mul_comm 10]
    omega
theorem valD_append (l m : List UInt8) : valD (l ++ m) = valD l * 10 ^ m.length + valD m := by
  unfold valD
  rw [List.foldl_append, foldl_val]
  rfl
theorem valD_cons (c : UInt8) (l : List UInt8) : valD (c :: l) = dv c * 10 ^ l.length + valD l := by
  have := valD_append [c] l
  simpa [valD] using this
theorem valD_lt {l : List UInt8} (h : allD l = true) : valD l < 10 ^ l.length := by
  induction l with
  | nil => simp [valD]
  | cons c l ih =>
    simp only [allD, List.all_cons, Bool.and_eq_true] at h
    have h1 := dv_lt h.1
    have h2 := ih h.2
    rw [valD_cons, List.length_cons, Nat.pow_succ]
    have : dv c * 10 ^ l.length ≤ 9 * 10 ^ l.length := Nat.mul_le_mul_right _ (by omega)
    omega
theorem allD_append {l m : List UInt8} : allD (l ++ m) = true ↔ allD l = true ∧ allD m = true := by simp [allD, List.all_append]
theorem valD_zeros (k : Nat) : valD (List.replicate k 48) = 0 := by
  induction k with
  | zero => rfl
  | succ k ih => rw [List.replicate_succ, valD_cons, ih]; simp [dv]
theorem allD_zeros (k : Nat) : allD (List.replicate k 48) = true := by
  unfold allD
  rw [List.all_eq_true]
  intro c hc
  rw [List.eq_of_mem_replicate hc]
  decide
theorem valD_shift (l : List UInt8) (k : Nat) : valD (l ++ List.replicate k 48) = valD l * 10 ^ k := by
  rw [valD_append, valD_zeros, List.length_replicate]; omega
theorem valD_zeros_ahead (k : Nat) (l : List UInt8) : valD (List.replicate k 48 ++ l) = valD l := by
  rw [valD_append, valD_zeros]; omega

/-- Two texts of as many digits that are worth the same are the same. -/
theorem valD_inj : ∀ {l m : List UInt8}, l.length = m.length → allD l = true → allD m = true → valD l = valD m → l = m
  | [], [], _, _, _, _ => rfl
  | c :: l, d :: m, hl, h1, h2, hv => by
    simp only [allD, List.all_cons, Bool.and_eq_true] at h1 h2
    have hl' : l.length = m.length := by simpa using hl
    have v1 := valD_lt h1.2
    have v2 := valD_lt h2.2
    rw [valD_cons, valD_cons, hl'] at hv
    rw [hl'] at v1
    have hd : dv c = dv d := by
      have e1 : (dv c * 10 ^ m.length + valD l) / 10 ^ m.length = dv c := by
        rw [Nat.mul_comm, Nat.mul_add_div (by exact Nat.pow_pos (by decide)), Nat.div_eq_of_lt v1, Nat.add_zero]
      have e2 : (dv d * 10 ^ m.length + valD m) / 10 ^ m.length = dv d := by
        rw [Nat.mul_comm, Nat.mul_add_div (by exact Nat.pow_pos (by decide)), Nat.div_eq_of_lt v2, Nat.add_zero]
      rw [← e1, ← e2, hv]
    have hc : c = d := by rw [← ofNat_dv h1.1, ← ofNat_dv h2.1, hd]
    subst hc
    rw [valD_inj hl' h1.2 h2.2 (by omega)]
  | [], _ :: _, hl, _, _, _ => by simp at hl
  | _ :: _, [], hl, _, _, _ => by simp at hl

/-! ### The text of a number -/

theorem dig_step {u : Nat} (h : ¬ u < 10) : Lib.decDigits u = Lib.decDigits (u / 10) ++ [UInt8.ofNat (48 + u % 10)] := by rw [Lib.decDigits, dif_neg h]
theorem dig_small {u : Nat} (h : u < 10) : Lib.decDigits u = [UInt8.ofNat (48 + u)] := by rw [Lib.decDigits, dif_pos h]
theorem valD_dec (u : Nat) : valD (Lib.decDigits u) = u := by
  induction u using Nat.strongRecOn with
  | _ u ih =>
    by_cases h : u < 10
    · rw [dig_small h]
      show 10 * 0 + dv _ = u
      rw [dv_ofNat h]
      omega
    · rw [dig_step h, valD_snoc, ih _ (by omega), dv_ofNat (by omega)]
      omega
theorem allD_dec (u : Nat) : allD (Lib.decDigits u) = true := by
  induction u using Nat.strongRecOn with
  | _ u ih =>
    by_cases h : u < 10
    · rw [dig_small h]
      unfold allD
      rw [List.all_cons, isD_ofNat h]
      rfl
    · rw [dig_step h, allD_append]
      exact ⟨ih _ (by omega), by unfold allD; rw [List.all_cons, isD_ofNat (show u % 10 < 10 by omega)]; rfl⟩
theorem dec_ne_nil (u : Nat) : Lib.decDigits u ≠ [] := by
  have := Lib.nDigits_pos u
  rw [← Lib.decDigits_length] at this
  intro e
  rw [e] at this
  simp at this
theorem dec_head (u : Nat) (h : 0 < u) : (Lib.decDigits u).head? ≠ some 48 := by
  induction u using Nat.strongRecOn with
  | _ u ih =>
    by_cases h10 : u < 10
    · rw [dig_small h10]
      simp only [List.head?_cons, ne_eq, Option.some.injEq]
      intro e
      have := congrArg UInt8.toNat e
      rw [UInt8.toNat_ofNat'] at this
      simp at this
      omega
    · rw [dig_step h10, List.head?_append]
      have := ih (u / 10) (by omega) (by omega)
      cases hd : (Lib.decDigits (u / 10)).head? with
      | none => exact absurd (List.head?_eq_none_iff.1 hd) (dec_ne_nil _)
      | some c => rw [hd] at this; simpa using this
theorem dec_zero : Lib.decDigits 0 = [48] := by rw [dig_small (by decide)]; rfl

/-- A text of digits without a nought ahead is the text of what it is worth. -/
theorem dec_of {l : List UInt8} (hn : l ≠ []) (h : allD l = true) (hz : l.head? ≠ some 48 ∨ l.length = 1) : Lib.decDigits (valD l) = l := by
  obtain ⟨k, hk⟩ : ∃ k, k = l.length := ⟨_, rfl⟩
  induction k using Nat.strongRecOn generalizing l with
  | _ k ih =>
    obtain ⟨m, c, rfl⟩ : ∃ m c, l = m ++ [c] := ⟨l.dropLast, l.getLast hn, (List.dropLast_concat_getLast hn).symm⟩
    rw [allD_append] at h
    have hc : isD c = true := by simpa [allD] using h.2
    by_cases hm : m = []
    · subst hm
      simp only [List.nil_append]
      rw [show valD [c] = dv c by simp [valD], dig_small (dv_lt hc), ofNat_dv hc]
    · have hz' : m.head? ≠ some 48 := by
        rcases hz with hz | hz
        · rw [List.head?_append] at hz
          cases hd : m.head? with
          | none => exact absurd (List.head?_eq_none_iff.1 hd) hm
          | some x => rw [hd] at hz; simpa using hz
        · rw [List.length_append, List.length_singleton] at hz
          have : 0 < m.length := List.length_pos_iff.2 hm
          omega
      have hi := ih m.length (by rw [hk, List.length_append]; simp) hm h.1 (Or.inl hz') rfl
      have hv : 0 < valD m := by
        apply Nat.pos_of_ne_zero
        intro e
        rw [e, dec_zero] at hi
        rw [← hi] at hz'
        simp at hz'
      have hd := dv_lt hc
      rw [valD_snoc, dig_step (by omega), show (10 * valD m + dv c) / 10 = valD m by omega, hi, show (10 * valD m + dv c) % 10 = dv c by omega, ofNat_dv hc]

/-- Without noughts ahead. -/
def bareL : List UInt8 → List UInt8
  | c :: d :: l => if c = 48 then bareL (d :: l) else c :: d :: l
  | l => l
theorem bareL_val : ∀ (l : List UInt8), valD (bareL l) = valD l
  | [] => rfl
  | [_] => rfl
  | c :: d :: l => by
    unfold bareL
    split
    · rename_i h
      rw [bareL_val (d :: l), h, valD_cons 48]
      simp [dv]
    · rfl
theorem bareL_dec {l : List UInt8} (hn : l ≠ []) (h : allD l = true) : bareL l = Lib.decDigits (valD l) := by
  induction l with
  | nil => exact absurd rfl hn
  | cons c l ih =>
    cases l with
    | nil => exact (dec_of (by simp) h (Or.inr rfl)).symm
    | cons d l =>
      unfold bareL
      split
      · rename_i hc
        simp only [allD, List.all_cons, Bool.and_eq_true] at h
        rw [ih (by simp) (by simp only [allD, List.all_cons, Bool.and_eq_true]; exact h.2), hc, valD_cons 48]
        simp [dv]
      · rename_i hc
        exact (dec_of (by simp) h (Or.inl (by simpa using hc))).symm

/-! ### Numbers with a sign -/

/-- Without its sign. -/
def sizeS (a : List UInt8) : List UInt8 := if a.head? = some 45 then a.tail else a
def belowS (a : List UInt8) : Bool := a.head? == some 45
/-- Is it a number's text? -/
def goodS (a : List UInt8) : Bool := !(sizeS a).isEmpty && decide ((sizeS a).length ≤ 100) && (!((sizeS a).head? == some 48) || a == [48]) && allD (sizeS a)
def valS (a : List UInt8) : Int := if belowS a = true then -(valD (sizeS a) : Int) else (valD (sizeS a) : Int)

theorem itoa_neg {n : Int} (h : n < 0) : Lib.itoa n = 45 :: Lib.decDigits n.natAbs := by unfold Lib.itoa; rw [if_pos h]
theorem itoa_pos {n : Int} (h : ¬ n < 0) : Lib.itoa n = Lib.decDigits n.toNat := by unfold Lib.itoa; rw [if_neg h]
theorem isD_ne {c : UInt8} (h : isD c = true) : c ≠ 45 := by
  intro e
  subst e
  revert h
  decide
theorem dec_head45 (u : Nat) : (Lib.decDigits u).head? ≠ some 45 := by
  intro e
  have h := allD_dec u
  cases hd : Lib.decDigits u with
  | nil => rw [hd] at e; simp at e
  | cons c l =>
    rw [hd] at e h
    simp only [allD, List.all_cons, Bool.and_eq_true] at h
    simp only [List.head?_cons, Option.some.injEq] at e
    exact isD_ne h.1 e
theorem sizeS_itoa (n : Int) : sizeS (Lib.itoa n) = Lib.decDigits n.natAbs := by
  by_cases h : n < 0
  · rw [itoa_neg h]; rfl
  · rw [itoa_pos h]
    unfold sizeS
    rw [if_neg (dec_head45 _)]
    congr 1
    omega
theorem belowS_itoa (n : Int) : belowS (Lib.itoa n) = decide (n < 0) := by
  by_cases h : n < 0
  · rw [itoa_neg h, decide_eq_true h]; rfl
  · rw [itoa_pos h, decide_eq_false h]
    unfold belowS
    rw [beq_eq_false_iff_ne]
    exact dec_head45 _
theorem valS_itoa (n : Int) : valS (Lib.itoa n) = n := by
  unfold valS
  rw [belowS_itoa, sizeS_itoa, valD_dec]
  by_cases h : n < 0
  · rw [if_pos (by simpa using h)]; omega
  · rw [if_neg (by simpa using h)]; omega

theorem nDigits_le {u k : Nat} (hk : 1 ≤ k) : Lib.nDigits u ≤ k ↔ u < 10 ^ k := by
  constructor
  · intro h
    exact Nat.lt_of_lt_of_le (Lib.lt_pow_nDigits u) (Nat.pow_le_pow_right (by decide) h)
  · intro h
    by_cases hu : u = 0
    · subst hu
      rw [Lib.nDigits_small (by decide)]
      exact hk
    · apply Classical.byContradiction
      intro hn
      have h1 := dec_head u (by omega)
      have hl := Lib.decDigits_length u
      have hv := valD_dec u
      cases hd : Lib.decDigits u with
      | nil => exact dec_ne_nil u hd
      | cons c l =>
        have ha := allD_dec u
        rw [hd] at h1 hl hv ha
        simp only [allD, List.all_cons, Bool.and_eq_true] at ha
        have hc : 1 ≤ dv c := by
          have hi := isD_iff.1 ha.1
          unfold dv
          have : c.toNat ≠ 48 := by
            intro e
            apply h1
            simp only [List.head?_cons, Option.some.injEq]
            apply UInt8.toNat_inj.1
            rw [e]; rfl
          omega
        rw [valD_cons] at hv
        simp only [List.length_cons] at hl
        have : 10 ^ k ≤ 10 ^ l.length := Nat.pow_le_pow_right (by decide) (by omega)
        have : 10 ^ l.length ≤ dv c * 10 ^ l.length := Nat.le_mul_of_pos_left _ hc
        omega

/-- The good texts are those of the numbers of at most a hundred digits. -/
theorem good_itoa {n : Int} (h : n.natAbs < 10 ^ 100) : goodS (Lib.itoa n) = true := by
  unfold goodS
  rw [sizeS_itoa]
  have h1 := dec_ne_nil n.natAbs
  have h2 : (Lib.decDigits n.natAbs).length ≤ 100 := by rw [Lib.decDigits_length]; exact (nDigits_le (by decide)).2 h
  simp only [Bool.and_eq_true, Bool.not_eq_true', List.isEmpty_eq_false_iff, decide_eq_true_eq, Bool.or_eq_true, beq_eq_false_iff_ne, beq_iff_eq]
  refine ⟨⟨⟨h1, h2⟩, ?_⟩, allD_dec _⟩
  by_cases h0 : n = 0
  · subst h0
    right
    rw [itoa_pos (by decide)]
    exact dec_zero
  · exact Or.inl (dec_head _ (by omega))
theorem itoa_good {a : List UInt8} (h : goodS a = true) : a = Lib.itoa (valS a) ∧ (valS a).natAbs < 10 ^ 100 := by
  unfold goodS at h
  simp only [Bool.and_eq_true, Bool.not_eq_true', List.isEmpty_eq_false_iff, decide_eq_true_eq, Bool.or_eq_true, beq_eq_false_iff_ne, beq_iff_eq] at h
  obtain ⟨⟨⟨h1, h2⟩, h3⟩, h4⟩ := h
  have hv : valD (sizeS a) < 10 ^ 100 := Nat.lt_of_lt_of_le (valD_lt h4) (Nat.pow_le_pow_right (by decide) h2)
  by_cases hb : a.head? = some 45
  · have hs : sizeS a = a.tail := by unfold sizeS; rw [if_pos hb]
    have ha : a = 45 :: a.tail := by
      cases a with
      | nil => simp at hb
      | cons c l => simp at hb; rw [hb]; rfl
    have hne : (sizeS a).head? ≠ some 48 := by
      rcases h3 with h3 | h3
      · exact h3
      · rw [h3] at hb; simp at hb
    have hd := dec_of h1 h4 (Or.inl hne)
    have hp : 0 < valD (sizeS a) := by
      apply Nat.pos_of_ne_zero
      intro e
      rw [e, dec_zero] at hd
      rw [← hd] at hne
      simp at hne
    have hvs : valS a = -(valD (sizeS a) : Int) := by unfold valS belowS; rw [if_pos (by simpa using hb)]
    rw [hvs]
    refine ⟨?_, by omega⟩
    rw [itoa_neg (by omega), show (-(valD (sizeS a) : Int)).natAbs = valD (sizeS a) by omega, hd, hs]
    exact ha
  · have hs : sizeS a = a := by unfold sizeS; rw [if_neg hb]
    have hvs : valS a = (valD (sizeS a) : Int) := by unfold valS belowS; rw [if_neg (by simpa using hb)]
    rw [hvs]
    refine ⟨?_, by omega⟩
    rw [itoa_pos (by omega), Int.toNat_natCast]
    have hz : (sizeS a).head? ≠ some 48 ∨ (sizeS a).length = 1 := by
      rcases h3 with h3 | h3
      · exact Or.inl h3
      · right; rw [hs, h3]; rfl
    rw [dec_of h1 h4 hz, hs]
theorem goodS_iff (a : List UInt8) : goodS a = true ↔ ∃ n : Int, n.natAbs < 10 ^ 100 ∧ a = Lib.itoa n :=
  ⟨fun h => ⟨valS a, (itoa_good h).2, (itoa_good h).1⟩, fun ⟨_, h1, h2⟩ => h2 ▸ good_itoa h1⟩

end Go.Proofs.YtpbipngnoklmcaaDoor
namespace Go.Proofs.YtpbipngnoklmcaaDoor

abbrev BB : Nat := 1000000000
def valL : List Nat → Nat
  | [] => 0
  | x :: l => x + BB * valL l
def okL (l : List Nat) : Prop := ∀ x ∈ l, x < BB

theorem BB_pos (k : Nat) : 0 < BB ^ k := Nat.pow_pos (by decide)
theorem valL_append (l m : List Nat) : valL (l ++ m) = valL l + BB ^ l.length * valL m := by
  induction l with
  | nil => simp [valL]
  | cons x l ih =>
    simp only [List.cons_append, valL, List.length_cons, ih, Nat.pow_succ]
    rw [Nat.mul_add, Nat.mul_comm (BB ^ l.length) BB, Nat.mul_assoc]
    omega
theorem valL_snoc (l : List Nat) (x : Nat) : valL (l ++ [x]) = valL l + BB ^ l.length * x := by
  rw [valL_append]; simp [valL]
theorem okL_append {l m : List Nat} : okL (l ++ m) ↔ okL l ∧ okL m := by
  unfold okL
  simp only [List.mem_append]
  exact ⟨fun h => ⟨fun x hx => h x (Or.inl hx), fun x hx => h x (Or.inr hx)⟩, fun h x hx => hx.elim (h.1 x) (h.2 x)⟩
theorem okL_snoc {l : List Nat} {x : Nat} : okL (l ++ [x]) ↔ okL l ∧ x < BB := by
  rw [okL_append]
  simp [okL]
theorem okL_nil : okL [] := fun x hx => by cases hx
theorem valL_lt {l : List Nat} (h : okL l) : valL l < BB ^ l.length := by
  induction l with
  | nil => simp [valL]
  | cons x l ih =>
    have h1 := h x (by simp)
    have h2 := ih fun y hy => h y (by simp [hy])
    simp only [valL, List.length_cons, Nat.pow_succ]
    have : BB * (valL l + 1) ≤ BB * BB ^ l.length := Nat.mul_le_mul_left _ h2
    rw [Nat.mul_add, Nat.mul_one] at this
    rw [Nat.mul_comm (BB ^ l.length)]
    omega
theorem okL_take {l : List Nat} (h : okL l) (k : Nat) : okL (l.take k) := fun x hx => h x (List.mem_of_mem_take hx)
theorem okL_getD {l : List Nat} (h : okL l) (k : Nat) : l.getD k 0 < BB := by
  by_cases hk : k < l.length
  · simp only [List.getD, List.getElem?_eq_getElem hk, Option.getD_some]
    exact h _ (List.getElem_mem hk)
  · simp only [List.getD, List.getElem?_eq_none (Nat.le_of_not_lt hk), Option.getD_none]
    decide
theorem valL_take_succ (l : List Nat) (k : Nat) : valL (l.take (k + 1)) = valL (l.take k) + BB ^ k * l.getD k 0 := by
  by_cases hk : k < l.length
  · rw [List.take_succ_eq_append_getElem hk, valL_snoc, List.length_take, Nat.min_eq_left (by omega)]
    simp [List.getD, hk]
  · rw [List.take_of_length_le (by omega), List.take_of_length_le (by omega)]
    simp [List.getD, List.getElem?_eq_none (Nat.le_of_not_lt hk)]

/-! ### No noughts on top -/

def trimL (l : List Nat) : List Nat := (l.reverse.dropWhile (· == 0)).reverse
def isTrim (l : List Nat) : Prop := l.getLast? ≠ some 0
theorem trimL_nil : trimL [] = [] := rfl
theorem trimL_snoc (l : List Nat) (x : Nat) : trimL (l ++ [x]) = if x = 0 then trimL l else l ++ [x] := by
  unfold trimL
  rw [List.reverse_append, List.reverse_singleton, List.singleton_append, List.dropWhile_cons]
  by_cases h : x = 0
  · simp [h]
  · simp [h]
theorem snoc_cases (l : List Nat) : l = [] ∨ ∃ m x, l = m ++ [x] := by
  by_cases h : l = []
  · exact Or.inl h
  · exact Or.inr ⟨l.dropLast, l.getLast h, (List.dropLast_concat_getLast h).symm⟩
theorem snoc_ind {P : List Nat → Prop} (h0 : P []) (h1 : ∀ l x, P l → P (l ++ [x])) : ∀ l, P l := by
  intro l
  obtain ⟨k, hk⟩ : ∃ k, k = l.length := ⟨_, rfl⟩
  induction k generalizing l with
  | zero => rw [List.eq_nil_of_length_eq_zero hk.symm]; exact h0
  | succ k ih =>
    rcases snoc_cases l with rfl | ⟨m, x, rfl⟩
    · exact h0
    · exact h1 m x (ih m (by simpa using hk))
theorem valL_trim (l : List Nat) : valL (trimL l) = valL l := by
  induction l using snoc_ind with
  | h0 => rfl
  | h1 l x ih =>
    rw [trimL_snoc]
    by_cases h : x = 0
    · rw [if_pos h, ih, h, valL_snoc]; omega
    · rw [if_neg h]
theorem okL_trim {l : List Nat} (h : okL l) : okL (trimL l) := by
  induction l using snoc_ind with
  | h0 => exact h
  | h1 l x ih =>
    rw [trimL_snoc]
    by_cases hx : x = 0
    · rw [if_pos hx]; exact ih (okL_snoc.1 h).1
    · rw [if_neg hx]; exact h
theorem trim_is (l : List Nat) : isTrim (trimL l) := by
  induction l using snoc_ind with
  | h0 => simp [isTrim, trimL]
  | h1 l x ih =>
    rw [trimL_snoc]
    by_cases hx : x = 0
    · rw [if_pos hx]; exact ih
    · rw [if_neg hx]; simp [isTrim, hx]
theorem trim_of {l : List Nat} (h : isTrim l) : trimL l = l := by
  rcases snoc_cases l with rfl | ⟨m, x, rfl⟩
  · rfl
  · rw [trimL_snoc, if_neg]
    intro hx
    apply h
    simp [hx]
theorem trimL_take (l : List Nat) : ∃ k, k ≤ l.length ∧ trimL l = l.take k := by
  induction l using snoc_ind with
  | h0 => exact ⟨0, by simp, rfl⟩
  | h1 l x ih =>
    rw [trimL_snoc]
    by_cases hx : x = 0
    · obtain ⟨k, hk, e⟩ := ih
      exact ⟨k, by simp; omega, by rw [if_pos hx, e, List.take_append_of_le_length hk]⟩
    · exact ⟨(l ++ [x]).length, Nat.le_refl _, by rw [if_neg hx, List.take_length]⟩
theorem top_le {l : List Nat} (h : isTrim l) (hn : l ≠ []) : BB ^ (l.length - 1) ≤ valL l := by
  rcases snoc_cases l with rfl | ⟨m, x, rfl⟩
  · exact absurd rfl hn
  · rw [valL_snoc]
    have hx : 0 < x := by
      apply Nat.pos_of_ne_zero
      intro e
      apply h
      simp [e]
    have : BB ^ m.length * 1 ≤ BB ^ m.length * x := Nat.mul_le_mul_left _ hx
    simp only [List.length_append, List.length_singleton, Nat.add_sub_cancel]
    omega
theorem trim_nil {l : List Nat} (h : isTrim l) : l = [] ↔ valL l = 0 := by
  constructor
  · rintro rfl; rfl
  · intro e
    apply Classical.byContradiction
    intro hn
    have := top_le h hn
    have := BB_pos (l.length - 1)
    omega

/-! ### Compared -/

theorem len_lt {x y : List Nat} (hx : okL x) (hy : isTrim y) (h : x.length < y.length) : valL x < valL y := by
  have h1 := valL_lt hx
  have h2 := top_le hy (by rintro rfl; simp at h)
  have h3 : BB ^ x.length ≤ BB ^ (y.length - 1) := Nat.pow_le_pow_right (by decide) (by omega)
  omega
theorem drop_cons {l : List Nat} {i : Nat} (h : i < l.length) : l.drop i = l.getD i 0 :: l.drop (i + 1) := by
  rw [List.drop_eq_getElem_cons h]
  simp [List.getD, h]
theorem valL_split (l : List Nat) {i : Nat} (h : i < l.length) : valL l = valL (l.take i) + BB ^ i * (l.getD i 0 + BB * valL (l.drop (i + 1))) := by
  conv => lhs; rw [← List.take_append_drop i l, valL_append, List.length_take, Nat.min_eq_left (Nat.le_of_lt h), drop_cons h]
  rfl
theorem limb_lt {x y : List Nat} (hx : okL x) {i : Nat} (hl : x.length = y.length) (hi : i < x.length) (hd : x.drop (i + 1) = y.drop (i + 1)) (h : x.getD i 0 < y.getD i 0) : valL x < valL y := by
  rw [valL_split x hi, valL_split y (hl ▸ hi), hd]
  have h1 := valL_lt (okL_take hx i)
  rw [List.length_take, Nat.min_eq_left (Nat.le_of_lt hi)] at h1
  have : BB ^ i * (x.getD i 0 + BB * valL (y.drop (i + 1)) + 1) ≤ BB ^ i * (y.getD i 0 + BB * valL (y.drop (i + 1))) := Nat.mul_le_mul_left _ (by omega)
  rw [Nat.mul_add, Nat.mul_one] at this
  omega
def cmpN (a b : Nat) : Int := if a < b then -1 else if a = b then 0 else 1

/-! ### Added, taken away -/

theorem plus_step {x y out : List Nat} {k c : Nat} (hl : out.length = k) (ho : okL out) (hx : okL x) (hy : okL y) (hc : c ≤ 1) (h : valL out + BB ^ k * c = valL (x.take k) + valL (y.take k)) :
    okL (out ++ [(c + x.getD k 0 + y.getD k 0) % BB]) ∧ (c + x.getD k 0 + y.getD k 0) / BB ≤ 1 ∧ valL (out ++ [(c + x.getD k 0 + y.getD k 0) % BB]) + BB ^ (k + 1) * ((c + x.getD k 0 + y.getD k 0) / BB) = valL (x.take (k + 1)) + valL (y.take (k + 1)) := by
  have h1 := okL_getD hx k
  have h2 := okL_getD hy k
  have h3 : (c + x.getD k 0 + y.getD k 0) / BB < 2 := (Nat.div_lt_iff_lt_mul (by decide)).2 (by omega)
  refine ⟨okL_snoc.2 ⟨ho, Nat.mod_lt _ (by decide)⟩, by omega, ?_⟩
  rw [valL_snoc, hl, valL_take_succ, valL_take_succ, Nat.pow_succ, Nat.mul_assoc]
  have e : BB ^ k * ((c + x.getD k 0 + y.getD k 0) % BB) + BB ^ k * (BB * ((c + x.getD k 0 + y.getD k 0) / BB)) = BB ^ k * c + BB ^ k * x.getD k 0 + BB ^ k * y.getD k 0 := by
    rw [← Nat.mul_add, Nat.mod_add_div, Nat.mul_add, Nat.mul_add]
  omega
theorem plus_end {x y out : List Nat} {k c : Nat} (hl : out.length = k) (ho : okL out) (hc : c ≤ 1) (hx : x.length ≤ k) (hy : y.length ≤ k) (h : valL out + BB ^ k * c = valL (x.take k) + valL (y.take k)) :
    okL (out ++ [c]) ∧ valL (out ++ [c]) = valL x + valL y := by
  rw [List.take_of_length_le hx, List.take_of_length_le hy] at h
  exact ⟨okL_snoc.2 ⟨ho, Nat.lt_of_le_of_lt hc (by decide)⟩, by rw [valL_snoc, hl]; exact h⟩
theorem minus_step {x y out : List Nat} {k c : Nat} (hl : out.length = k) (ho : okL out) (hx : okL x) (hy : okL y) (hc : c ≤ 1) (h : valL out + valL (y.take k) = valL (x.take k) + BB ^ k * c) :
    (x.getD k 0 < c + y.getD k 0 → okL (out ++ [x.getD k 0 + BB - (c + y.getD k 0)]) ∧ valL (out ++ [x.getD k 0 + BB - (c + y.getD k 0)]) + valL (y.take (k + 1)) = valL (x.take (k + 1)) + BB ^ (k + 1) * 1) ∧
    (¬ x.getD k 0 < c + y.getD k 0 → okL (out ++ [x.getD k 0 - (c + y.getD k 0)]) ∧ valL (out ++ [x.getD k 0 - (c + y.getD k 0)]) + valL (y.take (k + 1)) = valL (x.take (k + 1)) + BB ^ (k + 1) * 0) := by
  have h1 := okL_getD hx k
  have h2 := okL_getD hy k
  refine ⟨fun hlt => ⟨okL_snoc.2 ⟨ho, by omega⟩, ?_⟩, fun hlt => ⟨okL_snoc.2 ⟨ho, by omega⟩, ?_⟩⟩
  · rw [valL_snoc, hl, valL_take_succ, valL_take_succ, Nat.pow_succ]
    have e : BB ^ k * (x.getD k 0 + BB - (c + y.getD k 0)) + BB ^ k * (c + y.getD k 0) = BB ^ k * x.getD k 0 + BB ^ k * BB := by
      rw [← Nat.mul_add, ← Nat.mul_add]
      congr 1
      omega
    rw [Nat.mul_add] at e
    omega
  · rw [valL_snoc, hl, valL_take_succ, valL_take_succ]
    have e : BB ^ k * (x.getD k 0 - (c + y.getD k 0)) + BB ^ k * (c + y.getD k 0) = BB ^ k * x.getD k 0 := by
      rw [← Nat.mul_add]
      congr 1
      omega
    rw [Nat.mul_add] at e
    omega
theorem minus_end {x y out : List Nat} {c : Nat} (hl : out.length = x.length) (ho : okL out) (hy : y.length ≤ x.length) (hle : valL y ≤ valL x) (h : valL out + valL (y.take x.length) = valL (x.take x.length) + BB ^ x.length * c) : valL out + valL y = valL x := by
  rw [List.take_of_length_le hy, List.take_length] at h
  have h1 := valL_lt ho
  rw [hl] at h1
  have hc : c = 0 := by
    apply Classical.byContradiction
    intro hn
    have : BB ^ x.length * 1 ≤ BB ^ x.length * c := Nat.mul_le_mul_left _ (by omega)
    omega
  rw [hc] at h
  omega

/-! ### Multiplied -/

theorem valL_set (l : List Nat) (i v : Nat) (h : i < l.length) : valL (l.set i v) + BB ^ i * l.getD i 0 = valL l + BB ^ i * v := by
  induction l generalizing i with
  | nil => simp at h
  | cons x l ih =>
    cases i with
    | zero => simp [valL]; omega
    | succ i =>
      simp only [List.length_cons] at h
      have := ih i (by omega)
      have e : BB * valL (l.set i v) + BB * (BB ^ i * l.getD i 0) = BB * valL l + BB * (BB ^ i * v) := by rw [← Nat.mul_add, ← Nat.mul_add, this]
      simp only [List.set_cons_succ, valL, List.getD_cons_succ, Nat.pow_succ]
      rw [Nat.mul_comm (BB ^ i) BB, Nat.mul_assoc, Nat.mul_assoc]
      omega
theorem okL_set {l : List Nat} (h : okL l) (i v : Nat) (hv : v < BB) : okL (l.set i v) := fun x hx => by
  rcases List.mem_or_eq_of_mem_set hx with hx | rfl
  · exact h x hx
  · exact hv
theorem valL_zeros (n : Nat) : valL (List.replicate n 0) = 0 := by
  induction n with
  | zero => rfl
  | succ n ih => rw [List.replicate_succ]; simp [valL, ih]
theorem okL_zeros (n : Nat) : okL (List.replicate n 0) := fun x hx => by rw [List.eq_of_mem_replicate hx]; decide
/-- Above what it is worth all is nought. -/
theorem high_zero {l : List Nat} {k : Nat} (h : valL l < BB ^ k) : l.getD k 0 = 0 := by
  by_cases hk : k < l.length
  · have := valL_split l hk
    apply Classical.byContradiction
    intro hn
    have : BB ^ k * 1 ≤ BB ^ k * (l.getD k 0 + BB * valL (l.drop (k + 1))) := Nat.mul_le_mul_left _ (by omega)
    omega
  · simp [List.getD, List.getElem?_eq_none (Nat.le_of_not_lt hk)]
/-- One limb of a row: s is what lies there, the carry and the product. -/
theorem times_step {y out : List Nat} {p a i k c s : Nat} (hk : i + k < out.length) (ho : okL out) (h : valL out + BB ^ (i + k) * c = p + a * BB ^ i * valL (y.take k)) (hs : s = c + out.getD (i + k) 0 + a * y.getD k 0) :
    okL (out.set (i + k) (s % BB)) ∧ valL (out.set (i + k) (s % BB)) + BB ^ (i + (k + 1)) * (s / BB) = p + a * BB ^ i * valL (y.take (k + 1)) := by
  refine ⟨okL_set ho _ _ (Nat.mod_lt _ (by decide)), ?_⟩
  have h1 := valL_set out (i + k) (s % BB) hk
  rw [valL_take_succ, Nat.mul_add, ← Nat.add_assoc i k 1, Nat.pow_succ, Nat.mul_assoc (BB ^ (i + k))]
  have e : BB ^ (i + k) * (s % BB) + BB ^ (i + k) * (BB * (s / BB)) = BB ^ (i + k) * c + BB ^ (i + k) * out.getD (i + k) 0 + a * BB ^ i * (BB ^ k * y.getD k 0) := by
    rw [← Nat.mul_add, Nat.mod_add_div, hs, Nat.mul_add, Nat.mul_add]
    congr 1
    rw [Nat.pow_add, Nat.mul_assoc, Nat.mul_assoc, Nat.mul_left_comm (BB ^ k) a, Nat.mul_left_comm (BB ^ i) a]
  omega
theorem row_next (x : List Nat) (yv i : Nat) : valL (x.take i) * yv + x.getD i 0 * BB ^ i * yv = valL (x.take (i + 1)) * yv := by
  rw [valL_take_succ, Nat.add_mul, Nat.mul_comm (x.getD i 0)]
theorem row_lt {x y : List Nat} (hx : okL x) (hy : okL y) (i : Nat) (hi : i ≤ x.length) : valL (x.take i) * valL y < BB ^ (i + y.length) ∨ valL (x.take i) * valL y = 0 := by
  have h1 := valL_lt (okL_take hx i)
  rw [List.length_take, Nat.min_eq_left hi] at h1
  have h2 := valL_lt hy
  left
  rw [Nat.pow_add]
  exact Nat.mul_lt_mul_of_lt_of_le h1 (Nat.le_of_lt h2) (BB_pos _)

/-! ### Written, and read -/

def pad9 (n : Nat) : List UInt8 := List.replicate (9 - (Lib.decDigits n).length) 48 ++ Lib.decDigits n
theorem dec_len9 {n : Nat} (h : n < BB) : (Lib.decDigits n).length ≤ 9 := by
  rw [Lib.decDigits_length]
  exact (nDigits_le (by decide)).2 h
theorem pad9_len {n : Nat} (h : n < BB) : (pad9 n).length = 9 := by
  have := dec_len9 h
  unfold pad9
  rw [List.length_append, List.length_replicate]
  omega
theorem pad9_val (n : Nat) : valD (pad9 n) = n := by
  unfold pad9
  rw [valD_zeros_ahead, valD_dec]
theorem pad9_all (n : Nat) : allD (pad9 n) = true := by
  unfold pad9
  rw [allD_append]
  exact ⟨allD_zeros _, allD_dec _⟩
theorem dec_pad {v n : Nat} (hv : 0 < v) (hn : n < BB) : Lib.decDigits v ++ pad9 n = Lib.decDigits (v * BB + n) := by
  have h1 : valD (Lib.decDigits v ++ pad9 n) = v * BB + n := by
    rw [valD_append, valD_dec, pad9_val, pad9_len hn]
  rw [← h1]
  refine (dec_of (by simp [dec_ne_nil]) (allD_append.2 ⟨allD_dec _, pad9_all _⟩) (Or.inl ?_)).symm
  rw [List.head?_append]
  have := dec_head v hv
  cases hd : (Lib.decDigits v).head? with
  | none => exact absurd (List.head?_eq_none_iff.1 hd) (dec_ne_nil _)
  | some c => rw [hd] at this; simpa using this
/-- The limbs from the k-th on, written. -/
theorem text_step {l : List Nat} (h : okL l) (ht : isTrim l) {k : Nat} (hk : k + 1 < l.length) : Lib.decDigits (valL (l.drop (k + 1))) ++ pad9 (l.getD k 0) = Lib.decDigits (valL (l.drop k)) := by
  have hp : 0 < valL (l.drop (k + 1)) := by
    have h1 : isTrim (l.drop (k + 1)) := by
      unfold isTrim at ht ⊢
      rw [List.getLast?_drop, if_neg (by omega)]
      exact ht
    have h2 : l.drop (k + 1) ≠ [] := by
      intro e
      have := congrArg List.length e
      rw [List.length_drop] at this
      simp at this
      omega
    apply Nat.pos_of_ne_zero
    intro e
    exact h2 ((trim_nil h1).2 e)
  rw [dec_pad hp (okL_getD h k), drop_cons (show k < l.length by omega)]
  simp only [valL]
  rw [Nat.mul_comm, Nat.add_comm]
theorem read_step {d : List UInt8} (hd : allD d = true) {limbs : List Nat} {e : Nat} (he : e ≤ d.length) (h0 : 0 < e) (hl : d.length - e = 9 * limbs.length) (ho : okL limbs) (h : valL limbs = valD (d.drop e)) :
    okL (limbs ++ [valD ((d.take e).drop (e - 9))]) ∧ valL (limbs ++ [valD ((d.take e).drop (e - 9))]) = valD (d.drop (e - 9)) := by
  have hlen : ((d.take e).drop (e - 9)).length ≤ 9 := by rw [List.length_drop, List.length_take]; omega
  have ha : allD ((d.take e).drop (e - 9)) = true := by
    unfold allD at hd ⊢
    rw [List.all_eq_true] at hd ⊢
    exact fun c hc => hd c (List.mem_of_mem_take (List.mem_of_mem_drop hc))
  refine ⟨okL_snoc.2 ⟨ho, Nat.lt_of_lt_of_le (valD_lt ha) (Nat.pow_le_pow_right (by decide) hlen)⟩, ?_⟩
  have e1 : d.drop (e - 9) = (d.take e).drop (e - 9) ++ d.drop e := by
    rw [List.drop_take]
    conv => lhs; rw [← List.take_append_drop (e - (e - 9)) (d.drop (e - 9)), List.drop_drop]
    congr 2
    omega
  rw [valL_snoc, e1, valD_append, h, List.length_drop, hl, Nat.pow_mul]
  rw [show (10 : Nat) ^ 9 = BB from rfl, Nat.mul_comm]
  omega

end Go.Proofs.YtpbipngnoklmcaaDoor
namespace Go.Proofs.YtpbipngnoklmcaaDoor

/-- A number's text, or 'too long' (3). -/
def capR (z : Int) : List UInt8 × Int := if z.natAbs < 10 ^ 100 then (Lib.itoa z, 0) else ([], 3)
def addR (a b : List UInt8) : List UInt8 × Int := if goodS a = true ∧ goodS b = true then capR (valS a + valS b) else ([], 6)
def subR (a b : List UInt8) : List UInt8 × Int := if goodS a = true ∧ goodS b = true then capR (valS a - valS b) else ([], 6)
def mulR (a b : List UInt8) : List UInt8 × Int := if goodS a = true ∧ goodS b = true then capR (valS a * valS b) else ([], 6)
/-- Quotient, rest, error. -/
def divR (a b : List UInt8) : List UInt8 × List UInt8 × Int :=
  if goodS a = true ∧ goodS b = true then (if b = [48] then ([], [], 10) else (Lib.itoa ((valS a).tdiv (valS b)), Lib.itoa ((valS a).tmod (valS b)), 0)) else ([], [], 6)
def sgn (z : Int) : Int := if z < 0 then -1 else if z = 0 then 0 else 1
def cmpR (a b : List UInt8) : Int := if goodS a = true ∧ goodS b = true then sgn (valS a - valS b) else 0

theorem capR_ok {z : Int} (h : z.natAbs < 10 ^ 100) : capR z = (Lib.itoa z, 0) := by unfold capR; rw [if_pos h]
theorem capR_long {z : Int} (h : ¬ z.natAbs < 10 ^ 100) : capR z = ([], 3) := by unfold capR; rw [if_neg h]
theorem good_abs {a : List UInt8} (h : goodS a = true) : (valS a).natAbs < 10 ^ 100 := (itoa_good h).2
theorem good_text {a : List UInt8} (h : goodS a = true) : Lib.itoa (valS a) = a := (itoa_good h).1.symm
theorem itoa_inj {m n : Int} (h : Lib.itoa m = Lib.itoa n) : m = n := by rw [← valS_itoa m, h, valS_itoa]
theorem itoa_zero : Lib.itoa 0 = [48] := by rw [itoa_pos (by decide)]; exact dec_zero
theorem good_zero_iff {a : List UInt8} (h : goodS a = true) : a = [48] ↔ valS a = 0 := by
  constructor
  · rintro rfl; rfl
  · intro e
    rw [← good_text h, e, itoa_zero]
theorem addR_itoa {m n : Int} (hm : m.natAbs < 10 ^ 100) (hn : n.natAbs < 10 ^ 100) : addR (Lib.itoa m) (Lib.itoa n) = capR (m + n) := by
  unfold addR; rw [if_pos ⟨good_itoa hm, good_itoa hn⟩, valS_itoa, valS_itoa]
theorem subR_itoa {m n : Int} (hm : m.natAbs < 10 ^ 100) (hn : n.natAbs < 10 ^ 100) : subR (Lib.itoa m) (Lib.itoa n) = capR (m - n) := by
  unfold subR; rw [if_pos ⟨good_itoa hm, good_itoa hn⟩, valS_itoa, valS_itoa]
theorem mulR_itoa {m n : Int} (hm : m.natAbs < 10 ^ 100) (hn : n.natAbs < 10 ^ 100) : mulR (Lib.itoa m) (Lib.itoa n) = capR (m * n) := by
  unfold mulR; rw [if_pos ⟨good_itoa hm, good_itoa hn⟩, valS_itoa, valS_itoa]
theorem divR_itoa {m n : Int} (hm : m.natAbs < 10 ^ 100) (hn : n.natAbs < 10 ^ 100) (h0 : n ≠ 0) : divR (Lib.itoa m) (Lib.itoa n) = (Lib.itoa (m.tdiv n), Lib.itoa (m.tmod n), 0) := by
  unfold divR
  rw [if_pos ⟨good_itoa hm, good_itoa hn⟩, if_neg, valS_itoa, valS_itoa]
  intro e
  rw [good_zero_iff (good_itoa hn), valS_itoa] at e
  exact h0 e
theorem cmpR_itoa {m n : Int} (hm : m.natAbs < 10 ^ 100) (hn : n.natAbs < 10 ^ 100) : cmpR (Lib.itoa m) (Lib.itoa n) = sgn (m - n) := by
  unfold cmpR; rw [if_pos ⟨good_itoa hm, good_itoa hn⟩, valS_itoa, valS_itoa]
theorem tdiv_abs (m n : Int) : (m.tdiv n).natAbs ≤ m.natAbs := by
  rw [Int.natAbs_tdiv]
  exact Nat.div_le_self _ _
theorem tmod_abs (m n : Int) : (m.tmod n).natAbs ≤ m.natAbs := by
  rw [Int.natAbs_tmod]
  exact Nat.mod_le _ _
theorem tdiv_mul (m n : Int) : m.tdiv n * n + m.tmod n = m := by
  have := Int.mul_tdiv_add_tmod m n
  rw [Int.mul_comm] at this
  exact this
theorem tdiv_mul_abs (m n : Int) : (m.tdiv n * n).natAbs ≤ m.natAbs := by
  rw [Int.natAbs_mul, Int.natAbs_tdiv]
  exact Nat.div_mul_le_self _ _
theorem sgn_neg (z : Int) : sgn (-z) = -sgn z := by
  unfold sgn
  split <;> split <;> (try split) <;> omega
theorem sgn_tmod (m n : Int) : 0 ≤ sgn (m.tmod n - 0) * sgn (m - 0) := by
  rw [Int.sub_zero, Int.sub_zero]
  by_cases h : 0 ≤ m
  · have := Int.tmod_nonneg n h
    unfold sgn
    split <;> split <;> (try split) <;> (try split) <;> first | omega | decide
  · have h2 := Int.tmod_nonneg n (show 0 ≤ -m by omega)
    rw [Int.neg_tmod] at h2
    unfold sgn
    split <;> split <;> (try split) <;> (try split) <;> first | omega | decide

theorem tdiv_signs (m n : Int) : m.tdiv n = if (!(decide (m < 0) == decide (n < 0))) = true then -((m.natAbs / n.natAbs : Nat) : Int) else ((m.natAbs / n.natAbs : Nat) : Int) := by
  rcases Int.lt_or_le m 0 with h1 | h1 <;> rcases Int.lt_or_le n 0 with h2 | h2
  · rw [decide_eq_true h1, decide_eq_true h2, if_neg (by decide)]
    obtain ⟨x, rfl⟩ : ∃ x : Nat, m = -(x : Int) := ⟨m.natAbs, by omega⟩
    obtain ⟨y, rfl⟩ : ∃ y : Nat, n = -(y : Int) := ⟨n.natAbs, by omega⟩
    rw [Int.neg_tdiv, Int.tdiv_neg, Int.neg_neg, ← Int.ofNat_tdiv, Int.natAbs_neg, Int.natAbs_neg, Int.natAbs_natCast, Int.natAbs_natCast]
  · rw [decide_eq_true h1, decide_eq_false (Int.not_lt.2 h2), if_pos (by decide)]
    obtain ⟨x, rfl⟩ : ∃ x : Nat, m = -(x : Int) := ⟨m.natAbs, by omega⟩
    obtain ⟨y, rfl⟩ : ∃ y : Nat, n = (y : Int) := ⟨n.natAbs, by omega⟩
    rw [Int.neg_tdiv, ← Int.ofNat_tdiv, Int.natAbs_neg, Int.natAbs_natCast, Int.natAbs_natCast]
  · rw [decide_eq_false (Int.not_lt.2 h1), decide_eq_true h2, if_pos (by decide)]
    obtain ⟨x, rfl⟩ : ∃ x : Nat, m = (x : Int) := ⟨m.natAbs, by omega⟩
    obtain ⟨y, rfl⟩ : ∃ y : Nat, n = -(y : Int) := ⟨n.natAbs, by omega⟩
    rw [Int.tdiv_neg, ← Int.ofNat_tdiv, Int.natAbs_neg, Int.natAbs_natCast, Int.natAbs_natCast]
  · rw [decide_eq_false (Int.not_lt.2 h1), decide_eq_false (Int.not_lt.2 h2), if_neg (by decide)]
    obtain ⟨x, rfl⟩ : ∃ x : Nat, m = (x : Int) := ⟨m.natAbs, by omega⟩
    obtain ⟨y, rfl⟩ : ∃ y : Nat, n = (y : Int) := ⟨n.natAbs, by omega⟩
    rw [← Int.ofNat_tdiv, Int.natAbs_natCast, Int.natAbs_natCast]
theorem tmod_signs (m n : Int) : m.tmod n = if decide (m < 0) = true then -((m.natAbs % n.natAbs : Nat) : Int) else ((m.natAbs % n.natAbs : Nat) : Int) := by
  have e : ∀ (x : Nat), (x : Int).tmod n = ((x % n.natAbs : Nat) : Int) := fun x => by
    rcases Int.lt_or_le n 0 with h2 | h2
    · obtain ⟨y, rfl⟩ : ∃ y : Nat, n = -(y : Int) := ⟨n.natAbs, by omega⟩
      rw [Int.tmod_neg, ← Int.ofNat_tmod, Int.natAbs_neg, Int.natAbs_natCast]
    · obtain ⟨y, rfl⟩ : ∃ y : Nat, n = (y : Int) := ⟨n.natAbs, by omega⟩
      rw [← Int.ofNat_tmod, Int.natAbs_natCast]
  rcases Int.lt_or_le m 0 with h1 | h1
  · rw [decide_eq_true h1, if_pos rfl]
    obtain ⟨x, rfl⟩ : ∃ x : Nat, m = -(x : Int) := ⟨m.natAbs, by omega⟩
    rw [Int.neg_tmod, e, Int.natAbs_neg, Int.natAbs_natCast]
  · rw [decide_eq_false (Int.not_lt.2 h1), if_neg (by decide)]
    obtain ⟨x, rfl⟩ : ∃ x : Nat, m = (x : Int) := ⟨m.natAbs, by omega⟩
    rw [e, Int.natAbs_natCast]

end Go.Proofs.YtpbipngnoklmcaaDoor
namespace Go.Proofs.YtpbipngnoklmcaaDoor

/-- The i-th digit from the right; 0 beyond the text. -/
def dgR (s : List UInt8) (i : Nat) : Nat := if i < s.length then dv (s.getD (s.length - 1 - i) 0) else 0
/-- What the last i digits are worth. -/
def lowR (s : List UInt8) (i : Nat) : Nat := valD (s.drop (s.length - i))
theorem lowR_zero (s : List UInt8) : lowR s 0 = 0 := by unfold lowR; rw [Nat.sub_zero, List.drop_length]; rfl
theorem lowR_all {s : List UInt8} {i : Nat} (h : s.length ≤ i) : lowR s i = valD s := by
  unfold lowR
  rw [show s.length - i = 0 by omega, List.drop_zero]
theorem lowR_succ (s : List UInt8) (i : Nat) : lowR s (i + 1) = lowR s i + 10 ^ i * dgR s i := by
  by_cases h : i < s.length
  · unfold lowR dgR
    rw [if_pos h]
    have e : s.drop (s.length - (i + 1)) = s.getD (s.length - 1 - i) 0 :: s.drop (s.length - i) := by
      rw [show s.length - (i + 1) = s.length - 1 - i by omega, List.drop_eq_getElem_cons (show s.length - 1 - i < s.length by omega)]
      congr 1
      · simp [List.getD, show s.length - 1 - i < s.length by omega]
      · congr 1; omega
    rw [e, valD_cons, List.length_drop, show s.length - (s.length - i) = i by omega, Nat.mul_comm]
    omega
  · rw [lowR_all (by omega), lowR_all (by omega)]
    unfold dgR
    rw [if_neg h]
    omega
theorem dgR_lt {s : List UInt8} (h : allD s = true) (i : Nat) : dgR s i < 10 := by
  unfold dgR
  split
  · rename_i hi
    have : s.getD (s.length - 1 - i) 0 ∈ s := by
      simp only [List.getD, List.getElem?_eq_getElem (show s.length - 1 - i < s.length by omega), Option.getD_some]
      exact List.getElem_mem _
    exact dv_lt (List.all_eq_true.1 h _ this)
  · decide

theorem rplus_step {a b out : List UInt8} {i c : Nat} (ha : allD a = true) (hb : allD b = true) (hl : out.length = i) (ho : allD out = true) (hc : c ≤ 1) (h : valD out + 10 ^ i * c = lowR a i + lowR b i) :
    allD (UInt8.ofNat (48 + (dgR a i + dgR b i + c) % 10) :: out) = true ∧ (dgR a i + dgR b i + c) / 10 ≤ 1 ∧ valD (UInt8.ofNat (48 + (dgR a i + dgR b i + c) % 10) :: out) + 10 ^ (i + 1) * ((dgR a i + dgR b i + c) / 10) = lowR a (i + 1) + lowR b (i + 1) := by
  have h1 := dgR_lt ha i
  have h2 := dgR_lt hb i
  have h3 : (dgR a i + dgR b i + c) % 10 < 10 := Nat.mod_lt _ (by decide)
  refine ⟨?_, by omega, ?_⟩
  · unfold allD
    rw [List.all_cons, isD_ofNat h3, Bool.true_and]
    exact ho
  · rw [valD_cons, dv_ofNat h3, hl, lowR_succ, lowR_succ, Nat.pow_succ, Nat.mul_assoc]
    have e : 10 ^ i * ((dgR a i + dgR b i + c) % 10) + 10 ^ i * (10 * ((dgR a i + dgR b i + c) / 10)) = 10 ^ i * dgR a i + 10 ^ i * dgR b i + 10 ^ i * c := by
      rw [← Nat.mul_add, Nat.mod_add_div, Nat.mul_add, Nat.mul_add]
    rw [Nat.mul_comm ((dgR a i + dgR b i + c) % 10)]
    omega
theorem rplus_end {a b out : List UInt8} {i : Nat} (hl : out.length = i) (ho : allD out = true) (ha : a.length ≤ i) (hb : b.length ≤ i) (hn : 0 < i) (h : valD out + 10 ^ i * 0 = lowR a i + lowR b i) : bareL out = Lib.decDigits (valD a + valD b) := by
  rw [lowR_all ha, lowR_all hb] at h
  rw [bareL_dec (by rintro rfl; simp at hl; omega) ho]
  congr 1
theorem rminus_step {a b out : List UInt8} {i c : Nat} (ha : allD a = true) (hb : allD b = true) (hl : out.length = i) (ho : allD out = true) (hc : c ≤ 1) (h : valD out + lowR b i = lowR a i + 10 ^ i * c) :
    (dgR a i < dgR b i + c → allD (UInt8.ofNat (48 + (dgR a i + 10 - (dgR b i + c))) :: out) = true ∧ valD (UInt8.ofNat (48 + (dgR a i + 10 - (dgR b i + c))) :: out) + lowR b (i + 1) = lowR a (i + 1) + 10 ^ (i + 1) * 1) ∧
    (¬ dgR a i < dgR b i + c → allD (UInt8.ofNat (48 + (dgR a i - (dgR b i + c))) :: out) = true ∧ valD (UInt8.ofNat (48 + (dgR a i - (dgR b i + c))) :: out) + lowR b (i + 1) = lowR a (i + 1) + 10 ^ (i + 1) * 0) := by
  have h1 := dgR_lt ha i
  have h2 := dgR_lt hb i
  refine ⟨fun hlt => ?_, fun hlt => ?_⟩
  · have h3 : dgR a i + 10 - (dgR b i + c) < 10 := by omega
    refine ⟨by unfold allD; rw [List.all_cons, isD_ofNat h3, Bool.true_and]; exact ho, ?_⟩
    rw [valD_cons, dv_ofNat h3, hl, lowR_succ, lowR_succ, Nat.pow_succ]
    have e : 10 ^ i * (dgR a i + 10 - (dgR b i + c)) + 10 ^ i * (dgR b i + c) = 10 ^ i * dgR a i + 10 ^ i * 10 := by
      rw [← Nat.mul_add, ← Nat.mul_add]
      congr 1
      omega
    rw [Nat.mul_add] at e
    rw [Nat.mul_comm (dgR a i + 10 - (dgR b i + c))]
    omega
  · have h3 : dgR a i - (dgR b i + c) < 10 := by omega
    refine ⟨by unfold allD; rw [List.all_cons, isD_ofNat h3, Bool.true_and]; exact ho, ?_⟩
    rw [valD_cons, dv_ofNat h3, hl, lowR_succ, lowR_succ]
    have e : 10 ^ i * (dgR a i - (dgR b i + c)) + 10 ^ i * (dgR b i + c) = 10 ^ i * dgR a i := by
      rw [← Nat.mul_add]
      congr 1
      omega
    rw [Nat.mul_add] at e
    rw [Nat.mul_comm (dgR a i - (dgR b i + c))]
    omega
theorem rminus_end {a b out : List UInt8} {c : Nat} (hl : out.length = a.length) (ho : allD out = true) (hb : b.length ≤ a.length) (hn : a ≠ []) (hle : valD b ≤ valD a) (h : valD out + lowR b a.length = lowR a a.length + 10 ^ a.length * c) : bareL out = Lib.decDigits (valD a - valD b) := by
  rw [lowR_all (Nat.le_refl _), lowR_all hb] at h
  have h1 := valD_lt ho
  rw [hl] at h1
  have hc : c = 0 := by
    apply Classical.byContradiction
    intro hh
    have : 10 ^ a.length * 1 ≤ 10 ^ a.length * c := Nat.mul_le_mul_left _ (by omega)
    omega
  rw [hc] at h
  rw [bareL_dec (by rintro rfl; simp at hl; exact hn (List.eq_nil_of_length_eq_zero hl.symm)) ho]
  congr 1
  omega

/-- A digit more. -/
theorem bare_digit (n d : Nat) (hd : d < 10) : bareL (Lib.decDigits n ++ [UInt8.ofNat (48 + d)]) = Lib.decDigits (10 * n + d) := by
  rw [bareL_dec (by simp) (by rw [allD_append]; exact ⟨allD_dec n, by unfold allD; rw [List.all_cons, isD_ofNat hd]; rfl⟩), valD_snoc, valD_dec, dv_ofNat hd]

/-- Of two texts of numbers the shorter one is worth less; of as many digits the one that comes first. -/
theorem dec_len_le {m n : Nat} (h : m ≤ n) : (Lib.decDigits m).length ≤ (Lib.decDigits n).length := by
  rw [Lib.decDigits_length, Lib.decDigits_length]
  exact (nDigits_le (Lib.nDigits_pos n)).2 (Nat.lt_of_le_of_lt h (Lib.lt_pow_nDigits n))
theorem dec_len_lt {m n : Nat} (h : (Lib.decDigits m).length < (Lib.decDigits n).length) : m < n := by
  apply Classical.byContradiction
  intro hh
  have := dec_len_le (show n ≤ m by omega)
  omega
/-- Which of two texts comes first. -/
def ltS : List UInt8 → List UInt8 → Bool
  | [], [] => false
  | [], _ :: _ => true
  | _ :: _, [] => false
  | c :: l, d :: m => if c = d then ltS l m else decide (c < d)
theorem ltS_val : ∀ {l m : List UInt8}, l.length = m.length → allD l = true → allD m = true → (ltS l m = true ↔ valD l < valD m)
  | [], [], _, _, _ => by simp [ltS, valD]
  | c :: l, d :: m, hl, h1, h2 => by
    simp only [allD, List.all_cons, Bool.and_eq_true] at h1 h2
    have hl' : l.length = m.length := by simpa using hl
    have v1 := valD_lt h1.2
    have v2 := valD_lt h2.2
    rw [hl'] at v1
    have i1 := isD_iff.1 h1.1
    have i2 := isD_iff.1 h2.1
    unfold ltS
    rw [valD_cons, valD_cons, hl']
    by_cases hcd : c = d
    · rw [if_pos hcd, ltS_val hl' h1.2 h2.2, hcd]
      omega
    · rw [if_neg hcd, decide_eq_true_eq, UInt8.lt_iff_toNat_lt]
      have hne : c.toNat ≠ d.toNat := fun e => hcd (UInt8.toNat_inj.1 e)
      constructor
      · intro hlt
        have : (dv c + 1) * 10 ^ m.length ≤ dv d * 10 ^ m.length := Nat.mul_le_mul_right _ (by unfold dv; omega)
        rw [Nat.add_mul, Nat.one_mul] at this
        omega
      · intro hv
        apply Classical.byContradiction
        intro hge
        have : (dv d + 1) * 10 ^ m.length ≤ dv c * 10 ^ m.length := Nat.mul_le_mul_right _ (by unfold dv; omega)
        rw [Nat.add_mul, Nat.one_mul] at this
        omega
  | [], _ :: _, hl, _, _ => by simp at hl
  | _ :: _, [], hl, _, _ => by simp at hl
/-- The document's Less. -/
def lessS (a b : List UInt8) : Bool := if a.length ≠ b.length then decide (a.length < b.length) else ltS a b
theorem lessS_dec (m n : Nat) : lessS (Lib.decDigits m) (Lib.decDigits n) = decide (m < n) := by
  unfold lessS
  by_cases h : (Lib.decDigits m).length = (Lib.decDigits n).length
  · rw [if_neg (by simp [h])]
    have := ltS_val h (allD_dec m) (allD_dec n)
    rw [valD_dec, valD_dec] at this
    rw [Bool.eq_iff_iff, this]
    simp
  · rw [if_pos h, Bool.eq_iff_iff, decide_eq_true_eq, decide_eq_true_eq]
    constructor
    · exact dec_len_lt
    · intro hlt
      have := dec_len_le (Nat.le_of_lt hlt)
      omega

/-! ### Signs -/

def signedS (below : Bool) (s : List UInt8) : List UInt8 := if below = true ∧ s ≠ [48] then 45 :: s else s
theorem dec_48 (n : Nat) : Lib.decDigits n = [48] ↔ n = 0 := by
  constructor
  · intro h
    have := congrArg valD h
    rw [valD_dec] at this
    rw [this]; rfl
  · rintro rfl; exact dec_zero
theorem signed_dec (below : Bool) (n : Nat) : signedS below (Lib.decDigits n) = Lib.itoa (if below = true then -(n : Int) else n) := by
  unfold signedS
  cases below with
  | false =>
    rw [if_neg (by simp), if_neg (by simp), itoa_pos (by omega), Int.toNat_natCast]
  | true =>
    by_cases h : n = 0
    · subst h
      rw [if_neg (by rw [dec_zero]; simp), if_pos rfl, itoa_pos (by decide)]
      rfl
    · rw [if_pos ⟨rfl, fun e => h ((dec_48 n).1 e)⟩, if_pos rfl, itoa_neg (by omega), show (-(n : Int)).natAbs = n by omega]

/-- The rest and the next digit: what is taken away how often. -/
theorem part_step {X Y r d : Nat} (hY : 0 < Y) (hr : r = X % Y) : (10 * r + d) / Y < 10 ∨ 10 ≤ d := by
  have h : r < Y := by rw [hr]; exact Nat.mod_lt _ hY
  by_cases hd : d < 10
  · left
    rw [Nat.div_lt_iff_lt_mul hY]
    omega
  · right; omega
theorem part_next {X Y d : Nat} (hY : 0 < Y) : (10 * X + d) / Y = 10 * (X / Y) + (10 * (X % Y) + d) / Y ∧ (10 * X + d) % Y = (10 * (X % Y) + d) % Y := by
  have h := Nat.div_add_mod X Y
  have e : 10 * X + d = Y * (10 * (X / Y)) + (10 * (X % Y) + d) := by
    conv => lhs; rw [← h]
    rw [Nat.mul_add, Nat.mul_left_comm]
    omega
  rw [e]
  constructor
  · rw [Nat.mul_add_div hY]
  · rw [Nat.mul_add_mod]

end Go.Proofs.YtpbipngnoklmcaaDoor
namespace Go.Proofs.YtpbipngnoklmcaaDoor
set_option maxRecDepth 100000

/-- A value: kind, truth, text, items, keys. -/
inductive VT where
  | mk (kind : Int) (b : Bool) (text : List UInt8) (items : List VT) (keys : List (List UInt8))

theorem VT.ind {P : VT → Prop} (h : ∀ k b t its ks, (∀ x ∈ its, P x) → P (.mk k b t its ks)) (v : VT) : P v :=
  VT.rec (motive_1 := P) (motive_2 := fun l => ∀ x ∈ l, P x) (fun k b t its ks ih => h k b t its ks ih) (fun x hx => by cases hx)
    (fun y r hy hr x hx => by rcases List.mem_cons.1 hx with rfl | h'; exact hy; exact hr x h') v

def VT.kind : VT → Int | .mk k _ _ _ _ => k
def VT.flag : VT → Bool | .mk _ b _ _ _ => b
def VT.text : VT → List UInt8 | .mk _ _ t _ _ => t
def VT.items : VT → List VT | .mk _ _ _ i _ => i
def VT.keys : VT → List (List UInt8) | .mk _ _ _ _ k => k
def VT.none : VT := .mk 0 false [] [] []
instance : Inhabited VT := ⟨VT.none⟩

mutual
def sizeV : VT → Nat | .mk _ _ _ its _ => 1 + sizeL its
def sizeL : List VT → Nat | [] => 0 | x :: r => sizeV x + sizeL r
end
def deepV : Nat → VT → Bool
  | 0, _ => false
  | n + 1, .mk _ _ _ its _ => its.all (deepV n)
/-- Texts that rise. -/
def rising : List (List UInt8) → Bool
  | a :: b :: r => ltS a b && rising (b :: r)
  | _ => true
/-- Has a value just what its kind needs? (its own fields: two lots of questions, and its keys) -/
def aOk (k : Int) (b : Bool) (t : List UInt8) (n m : Nat) : Bool :=
  decide (0 ≤ k) && decide (k ≤ 6) && (!b || k == 2) && (t.isEmpty || k == 3 || k == 4) && (n == 0 || decide (5 ≤ k)) && (k == 6 || m == 0)
def bOk (k : Int) (t : List UInt8) (n m : Nat) : Bool := (!(k == 3) || goodS t) && (!(k == 4) || decide (t.length ≤ 16384)) && (!(k == 6) || m == n)
def keysOk (ks : List (List UInt8)) : Bool := ks.all (fun s => decide (s.length ≤ 16384)) && rising ks
def nodeOk (k : Int) (b : Bool) (t : List UInt8) (n : Nat) (ks : List (List UInt8)) : Bool := aOk k b t n ks.length && bOk k t n ks.length && keysOk ks
theorem rising_snoc : ∀ (l : List (List UInt8)) (p x : List UInt8), rising (l ++ [p, x]) = (rising (l ++ [p]) && ltS p x)
  | [], p, x => by simp [rising]
  | [a], p, x => by simp [rising]
  | a :: b :: r, p, x => by
    have := rising_snoc (b :: r) p x
    simp only [List.cons_append] at this ⊢
    rw [rising, rising, this, Bool.and_assoc]
theorem keysOk_zero : keysOk [] = true := rfl
theorem keysOk_one {ks : List (List UInt8)} (h : 0 < ks.length) : keysOk (ks.take 1) = decide (ks[0].length ≤ 16384) := by
  cases ks with
  | nil => simp at h
  | cons x r => simp [keysOk, rising]
theorem keysOk_succ {ks : List (List UInt8)} {i : Nat} (h : i + 1 < ks.length) : keysOk (ks.take (i + 2)) = (keysOk (ks.take (i + 1)) && (decide (ks[i + 1].length ≤ 16384) && ltS ks[i] ks[i + 1])) := by
  have e1 : ks.take (i + 1) = ks.take i ++ [ks[i]] := List.take_succ_eq_append_getElem (by omega)
  have e2 : ks.take (i + 2) = ks.take i ++ [ks[i], ks[i + 1]] := by
    rw [List.take_succ_eq_append_getElem (show i + 1 < ks.length from h), e1, List.append_assoc]
    rfl
  unfold keysOk
  rw [e2, rising_snoc, e1, List.all_append, List.all_append]
  simp only [List.all_cons, List.all_nil, Bool.and_true]
  cases (ks.take i).all (fun s => decide (s.length ≤ 16384)) <;> cases decide (ks[i].length ≤ 16384) <;> cases decide (ks[i + 1].length ≤ 16384) <;> cases rising (ks.take i ++ [ks[i]]) <;> simp
theorem keysOk_take {ks : List (List UInt8)} {i j : Nat} (hij : i ≤ j) (h : keysOk (ks.take j) = true) : keysOk (ks.take i) = true := by
  have hr : ∀ (l m : List (List UInt8)), rising (l ++ m) = true → rising l = true := by
    intro l
    induction l with
    | nil => intro _ _; rfl
    | cons a l ih =>
      intro m h
      cases l with
      | nil => rfl
      | cons b r =>
        simp only [List.cons_append, rising, Bool.and_eq_true] at h ⊢
        exact ⟨h.1, ih m h.2⟩
  have e : ks.take j = ks.take i ++ (ks.take j).drop i := by
    conv => lhs; rw [← List.take_append_drop i (ks.take j), List.take_take, Nat.min_eq_left hij]
  unfold keysOk at h ⊢
  rw [Bool.and_eq_true] at h ⊢
  rw [e] at h
  rw [List.all_append, Bool.and_eq_true] at h
  exact ⟨h.1.1, hr _ _ h.2⟩
mutual
def plainV : VT → Bool | .mk k b t its ks => nodeOk k b t its.length ks && plainL its
def plainL : List VT → Bool | [] => true | x :: r => plainV x && plainL r
end
mutual
def knownV : VT → Bool | .mk k _ _ its _ => !(k == 1) && knownL its
def knownL : List VT → Bool | [] => true | x :: r => knownV x && knownL r
end
mutual
/-- No more keys than items, at whatever depth. -/
def fitV : VT → Bool | .mk _ _ _ its ks => decide (ks.length ≤ its.length) && fitL its
def fitL : List VT → Bool | [] => true | x :: r => fitV x && fitL r
end
def goodV (v : VT) : Bool := decide (sizeV v ≤ 2000) && deepV 24 v && plainV v

theorem plainL_all : ∀ (l : List VT), plainL l = l.all plainV
  | [] => rfl
  | x :: r => by rw [plainL, List.all_cons, plainL_all r]
theorem knownL_all : ∀ (l : List VT), knownL l = l.all knownV
  | [] => rfl
  | x :: r => by rw [knownL, List.all_cons, knownL_all r]
theorem fitL_all : ∀ (l : List VT), fitL l = l.all fitV
  | [] => rfl
  | x :: r => by rw [fitL, List.all_cons, fitL_all r]
theorem nodeOk_len {k : Int} {b : Bool} {t : List UInt8} {n : Nat} {ks : List (List UInt8)} (h : nodeOk k b t n ks = true) : ks.length ≤ n := by
  simp only [nodeOk, aOk, bOk, Bool.and_eq_true, Bool.or_eq_true, beq_iff_eq, Bool.not_eq_true', beq_eq_false_iff_ne, ne_eq] at h
  obtain ⟨⟨⟨_, h1⟩, ⟨_, h2⟩⟩, _⟩ := h
  omega
theorem plain_fit (t : VT) : plainV t = true → fitV t = true := by
  induction t using VT.ind with
  | h k b tx its ks ih =>
    intro h
    rw [plainV, Bool.and_eq_true, plainL_all, List.all_eq_true] at h
    rw [fitV, Bool.and_eq_true, fitL_all, List.all_eq_true]
    exact ⟨decide_eq_true (nodeOk_len h.1), fun x hx => ih x hx (h.2 x hx)⟩
theorem fitV_mk {k : Int} {b : Bool} {t : List UInt8} {its : List VT} {ks : List (List UInt8)} : fitV (.mk k b t its ks) = true ↔ ks.length ≤ its.length ∧ ∀ x ∈ its, fitV x = true := by
  rw [fitV, Bool.and_eq_true, fitL_all, List.all_eq_true, decide_eq_true_eq]
theorem sizeV_pos (v : VT) : 1 ≤ sizeV v := by cases v; rw [sizeV]; omega
theorem sizeL_append : ∀ (l m : List VT), sizeL (l ++ m) = sizeL l + sizeL m
  | [], m => by rw [List.nil_append, sizeL, Nat.zero_add]
  | x :: r, m => by rw [List.cons_append, sizeL, sizeL, sizeL_append r m]; omega
theorem sizeL_len : ∀ (l : List VT), l.length ≤ sizeL l
  | [] => Nat.zero_le _
  | x :: r => by
    rw [sizeL, List.length_cons]
    have := sizeV_pos x
    have := sizeL_len r
    omega
theorem sizeL_take_succ {l : List VT} {i : Nat} (h : i < l.length) : sizeL (l.take (i + 1)) = sizeL (l.take i) + sizeV l[i] := by
  rw [List.take_succ_eq_append_getElem h, sizeL_append, sizeL, sizeL]
  omega
theorem sizeL_take_le (l : List VT) (i : Nat) : sizeL (l.take i) ≤ sizeL l := by
  conv => rhs; rw [← List.take_append_drop i l, sizeL_append]
  omega

mutual
def sameV : VT → VT → Bool
  | .mk k b t its ks, w => k == w.kind && b == w.flag && t == w.text && ks == w.keys && sameL its w.items
def sameL : List VT → List VT → Bool
  | [], [] => true
  | x :: r, y :: s => sameV x y && sameL r s
  | _, _ => false
end
theorem sameV_iff (a : VT) : ∀ b, sameV a b = true ↔ a = b := by
  induction a using VT.ind with
  | h k b t its ks ih =>
    have hL : ∀ (l m : List VT), (∀ x ∈ l, ∀ y, sameV x y = true ↔ x = y) → (sameL l m = true ↔ l = m) := by
      intro l
      induction l with
      | nil => intro m _; cases m <;> simp [sameL]
      | cons x r ihr =>
        intro m hx
        cases m with
        | nil => simp [sameL]
        | cons y s =>
          rw [sameL, Bool.and_eq_true, hx x (by simp) y, ihr s (fun z hz => hx z (by simp [hz]))]
          simp
    intro c
    cases c with
    | mk k' b' t' its' ks' =>
      rw [sameV]
      simp only [VT.kind, VT.flag, VT.text, VT.keys, VT.items, Bool.and_eq_true, beq_iff_eq, hL its its' ih, VT.mk.injEq]
      constructor
      · rintro ⟨⟨⟨⟨h1, h2⟩, h3⟩, h4⟩, h5⟩; exact ⟨h1, h2, h3, h5, h4⟩
      · rintro ⟨h1, h2, h3, h5, h4⟩; exact ⟨⟨⟨⟨h1, h2⟩, h3⟩, h4⟩, h5⟩

/-- -1, 0, 1 of two texts. -/
def ordS (a b : List UInt8) : Int := if ltS a b = true then -1 else if ltS b a = true then 1 else 0
/-- .. of two lists, by what their elements are to one another; the shorter first. -/
def ordL {α : Type} (f : α → α → Int) : List α → List α → Int
  | [], [] => 0
  | [], _ :: _ => -1
  | _ :: _, [] => 1
  | x :: r, y :: s => if f x y = 0 then ordL f r s else f x y
def orB (a b : Bool) : Int := if a = b then 0 else if b = true then -1 else 1
mutual
def cmpV : VT → VT → Int
  | .mk k b t its ks, w =>
    if k = w.kind then
      if k = 2 then orB b w.flag
      else if k = 3 then cmpR t w.text
      else if k = 4 then ordS t w.text
      else if ordL ordS ks w.keys = 0 then cmpLs its w.items else ordL ordS ks w.keys
    else if k < w.kind then -1 else 1
def cmpLs : List VT → List VT → Int
  | [], [] => 0
  | [], _ :: _ => -1
  | _ :: _, [] => 1
  | x :: r, y :: s => if cmpV x y = 0 then cmpLs r s else cmpV x y
end
theorem cmpLs_ord : ∀ (l m : List VT), cmpLs l m = ordL cmpV l m
  | [], [] => by rw [cmpLs, ordL]
  | [], _ :: _ => by rw [cmpLs, ordL]
  | _ :: _, [] => by rw [cmpLs, ordL]
  | x :: r, y :: s => by rw [cmpLs, ordL, cmpLs_ord r s]

end Go.Proofs.YtpbipngnoklmcaaDoor
namespace Go.Proofs.YtpbipngnoklmcaaDoor
set_option maxRecDepth 100000

theorem ltS_irr : ∀ a, ltS a a = false
  | [] => rfl
  | x :: r => by simp [ltS, ltS_irr r]
theorem ltS_cons {x y : UInt8} {r s : List UInt8} : ltS (x :: r) (y :: s) = true ↔ x < y ∨ (x = y ∧ ltS r s = true) := by
  rw [ltS]
  by_cases h : x = y
  · subst h
    rw [if_pos rfl]
    constructor
    · exact fun h => .inr ⟨rfl, h⟩
    · rintro (h | h)
      · exact absurd h (UInt8.lt_irrefl x)
      · exact h.2
  · rw [if_neg h]
    constructor
    · exact fun h => .inl (by simpa using h)
    · rintro (h1 | h1)
      · simpa using h1
      · exact absurd h1.1 h
theorem ltS_trans : ∀ {a b c : List UInt8}, ltS a b = true → ltS b c = true → ltS a c = true
  | [], [], _, h, _ => by simp [ltS] at h
  | _ :: _, [], _, h, _ => by simp [ltS] at h
  | [], y :: s, [], _, k => by simp [ltS] at k
  | [], y :: s, z :: t, _, _ => rfl
  | x :: r, y :: s, [], _, k => by simp [ltS] at k
  | x :: r, y :: s, z :: t, h, k => by
    rw [ltS_cons] at h k ⊢
    rcases h with h | ⟨rfl, h⟩ <;> rcases k with k | ⟨rfl, k⟩
    · left; exact UInt8.lt_trans h k
    · left; exact h
    · left; exact k
    · right; exact ⟨rfl, ltS_trans h k⟩
theorem ltS_tri : ∀ {a b : List UInt8}, ltS a b = false → ltS b a = false → a = b
  | [], [], _, _ => rfl
  | [], y :: s, h, _ => by simp [ltS] at h
  | x :: r, [], _, k => by simp [ltS] at k
  | x :: r, y :: s, h, k => by
    have h' : ¬ (x < y ∨ (x = y ∧ ltS r s = true)) := fun hh => by rw [ltS_cons.2 hh] at h; cases h
    have k' : ¬ (y < x ∨ (y = x ∧ ltS s r = true)) := fun hh => by rw [ltS_cons.2 hh] at k; cases k
    have e : x = y := UInt8.le_antisymm (UInt8.not_lt.1 fun hh => k' (.inl hh)) (UInt8.not_lt.1 fun hh => h' (.inl hh))
    subst e
    have h2 : ltS r s = false := by
      cases hh : ltS r s with
      | false => rfl
      | true => exact absurd (.inr ⟨rfl, hh⟩) h'
    have k2 : ltS s r = false := by
      cases hh : ltS s r with
      | false => rfl
      | true => exact absurd (.inr ⟨rfl, hh⟩) k'
    rw [ltS_tri h2 k2]
theorem ltS_asymm {a b : List UInt8} (h : ltS a b = true) : ltS b a = false := by
  cases k : ltS b a with
  | false => rfl
  | true => have := ltS_trans h k; rw [ltS_irr] at this; cases this

/-- Where a key stands, or would stand, in texts that rise. -/
def posK (ks : List (List UInt8)) (key : List UInt8) : Nat := (ks.takeWhile (fun s => ltS s key)).length
def hasK (ks : List (List UInt8)) (key : List UInt8) : Bool := ks[posK ks key]? == some key
theorem posK_le (ks : List (List UInt8)) (key : List UInt8) : posK ks key ≤ ks.length := (List.takeWhile_sublist _).length_le
theorem rising_cons {a : List UInt8} {l : List (List UInt8)} : rising (a :: l) = true ↔ (∀ x ∈ l, ltS a x = true) ∧ rising l = true := by
  induction l generalizing a with
  | nil => simp [rising]
  | cons b r ih =>
    rw [rising, Bool.and_eq_true]
    constructor
    · rintro ⟨h, k⟩
      refine ⟨fun x hx => ?_, k⟩
      rcases List.mem_cons.1 hx with rfl | hx
      · exact h
      · exact ltS_trans h ((ih.1 k).1 x hx)
    · rintro ⟨h, k⟩
      exact ⟨h b (by simp), k⟩
theorem posK_less {ks : List (List UInt8)} {key : List UInt8} {t : Nat} (h : t < posK ks key) : ltS (ks.getD t key) key = true := by
  induction ks generalizing t with
  | nil => simp [posK] at h
  | cons a r ih =>
    unfold posK at h
    rw [List.takeWhile_cons] at h
    split at h
    · next hc =>
      cases t with
      | zero => simpa using hc
      | succ t => simpa using ih (t := t) (by simpa [posK] using h)
    · simp at h
theorem posK_more {ks : List (List UInt8)} (hr : rising ks = true) {key : List UInt8} {t : Nat} (h : posK ks key ≤ t) : ltS (ks.getD t key) key = false := by
  induction ks generalizing t with
  | nil => simp [ltS_irr]
  | cons a r ih =>
    unfold posK at h
    rw [List.takeWhile_cons] at h
    rw [rising_cons] at hr
    split at h
    · next hc =>
      cases t with
      | zero => simp at h
      | succ t => simpa using ih hr.2 (t := t) (by simpa [posK] using h)
    · next hc =>
      have hc' : ltS a key = false := by simpa using hc
      cases t with
      | zero => simpa using hc'
      | succ t =>
        rw [List.getD_cons_succ]
        by_cases ht : t < r.length
        · have := hr.1 r[t] (List.getElem_mem ht)
          rw [show r.getD t key = r[t] by simp [List.getD, ht]]
          cases k : ltS r[t] key with
          | false => rfl
          | true => rw [ltS_trans this k] at hc'; cases hc'
        · rw [show r.getD t key = key by simp [List.getD, Nat.le_of_not_lt ht]]
          exact ltS_irr key
theorem hasK_iff {ks : List (List UInt8)} {key : List UInt8} : hasK ks key = true ↔ posK ks key < ks.length ∧ ks.getD (posK ks key) key = key := by
  unfold hasK
  rw [beq_iff_eq]
  constructor
  · intro h
    have hl := (List.getElem?_eq_some_iff.1 h).1
    exact ⟨hl, by simp [List.getD, h]⟩
  · rintro ⟨h, k⟩
    rw [List.getElem?_eq_getElem h]
    simpa [List.getD, h] using k
/-- A key that is there stands where it would stand. -/
theorem hasK_mem {ks : List (List UInt8)} (hr : rising ks = true) {key : List UInt8} : hasK ks key = true ↔ key ∈ ks := by
  constructor
  · intro h
    have h := hasK_iff.1 h
    have hm := List.getElem_mem h.1
    have e : ks[posK ks key] = key := by simpa [List.getD, h.1] using h.2
    rw [e] at hm
    exact hm
  · intro h
    obtain ⟨i, hi, e⟩ := List.getElem_of_mem h
    have e2 : ks.getD i key = key := by simp [List.getD, hi, e]
    have hge : posK ks key ≤ i := by
      by_cases hlt : i < posK ks key
      · have := posK_less hlt
        rw [e2, ltS_irr] at this
        cases this
      · omega
    rw [hasK_iff]
    refine ⟨by omega, ?_⟩
    have hp := posK_more hr (Nat.le_refl (posK ks key))
    have hlt : posK ks key < ks.length := by omega
    rw [show ks.getD (posK ks key) key = ks[posK ks key] by simp [List.getD, hlt]] at hp ⊢
    by_cases hee : posK ks key = i
    · subst hee; exact e
    · have hl2 : ltS ks[posK ks key] ks[i] = true := by
        have hs : ∀ (l : List (List UInt8)), rising l = true → ∀ a b (ha : a < b) (hb : b < l.length), ltS (l[a]'(by omega)) l[b] = true := by
          intro l
          induction l with
          | nil => intro _ a b _ hb; cases hb
          | cons x r ih =>
            intro hr a b ha hb
            rw [rising_cons] at hr
            cases b with
            | zero => omega
            | succ b =>
              cases a with
              | zero => exact hr.1 _ (List.getElem_mem (by simpa using hb))
              | succ a => exact ih hr.2 a b (by omega) (by simpa using hb)
        exact hs ks hr _ _ (by omega) hi
      rw [e] at hl2
      rw [hl2] at hp
      cases hp

/-- The item of a key. -/
def getT (t : VT) (key : List UInt8) : VT × Bool := if hasK t.keys key = true ∧ t.kind = 6 then (t.items.getD (posK t.keys key) VT.none, true) else (VT.none, false)
/-- A key put into an object. -/
def putT : VT → List UInt8 → VT → VT
  | .mk k b t its ks, key, x =>
    if hasK ks key = true then .mk k b t (its.set (posK ks key) x) ks
    else .mk k b t (its.take (posK ks key) ++ x :: its.drop (posK ks key)) (ks.take (posK ks key) ++ key :: ks.drop (posK ks key))
def putO (t : VT) (key : List UInt8) (x : VT) : VT := putT (if t.kind = 6 then t else .mk 6 false [] [] []) key x
/-- .. and dropped. -/
def dropT : VT → List UInt8 → VT
  | .mk k b t its ks, key =>
    if hasK ks key = true ∧ k = 6 then .mk k b t (its.take (posK ks key) ++ its.drop (posK ks key + 1)) (ks.take (posK ks key) ++ ks.drop (posK ks key + 1))
    else .mk k b t its ks
/-- An object of keys and items; the error. -/
def objT : VT → List (List UInt8) → List VT → VT × Int
  | t, k :: ks, x :: xs => if (getT t k).2 = true then (VT.none, 2) else objT (putT t k x) ks xs
  | t, _, _ => (t, 0)
theorem take_posK {ks : List (List UInt8)} {key : List UInt8} : ks.take (posK ks key) = ks.takeWhile (fun s => ltS s key) := by
  induction ks with
  | nil => rfl
  | cons a r ih =>
    unfold posK at ih ⊢
    rw [List.takeWhile_cons]
    split
    · simp [ih]
    · rfl
theorem rising_append {a b : List (List UInt8)} : rising (a ++ b) = true ↔ rising a = true ∧ rising b = true ∧ ∀ x ∈ a, ∀ y ∈ b, ltS x y = true := by
  induction a with
  | nil => simp [rising]
  | cons x r ih =>
    rw [List.cons_append, rising_cons, rising_cons, ih]
    constructor
    · rintro ⟨h1, h2, h3, h4⟩
      refine ⟨⟨fun y hy => h1 y (by simp [hy]), h2⟩, h3, fun y hy z hz => ?_⟩
      rcases List.mem_cons.1 hy with rfl | hy
      · exact h1 z (by simp [hz])
      · exact h4 y hy z hz
    · rintro ⟨⟨h1, h2⟩, h3, h4⟩
      refine ⟨fun y hy => ?_, h2, h3, fun y hy z hz => h4 y (by simp [hy]) z hz⟩
      rcases List.mem_append.1 hy with hy | hy
      · exact h1 y hy
      · exact h4 x (by simp) y hy
/-- What rises rises with one key more. -/
theorem rising_put {ks : List (List UInt8)} (hr : rising ks = true) {key : List UInt8} (hk : hasK ks key = false) : rising (ks.take (posK ks key) ++ key :: ks.drop (posK ks key)) = true := by
  have hr0 := hr
  rw [← List.take_append_drop (posK ks key) ks, rising_append] at hr
  obtain ⟨h1, h2, h3⟩ := hr
  have ha : ∀ x ∈ ks.take (posK ks key), ltS x key = true := fun x hx => by
    rw [take_posK] at hx
    exact List.all_eq_true.1 (List.all_takeWhile (l := ks) (p := fun s => ltS s key)) x hx
  have hb : ∀ x ∈ ks.drop (posK ks key), ltS key x = true := fun x hx => by
    obtain ⟨i, hi, e⟩ := List.getElem_of_mem hx
    rw [List.length_drop] at hi
    rw [List.getElem_drop] at e
    have hp := posK_more hr0 (key := key) (t := posK ks key + i) (by omega)
    rw [show ks.getD (posK ks key + i) key = ks[posK ks key + i] by simp [List.getD, show posK ks key + i < ks.length by omega], e] at hp
    cases hc : ltS key x with
    | true => rfl
    | false =>
      have he := ltS_tri hp hc
      have hm : key ∈ ks := by rw [← he]; exact List.mem_of_mem_drop hx
      rw [(hasK_mem hr0).2 hm] at hk
      cases hk
  rw [rising_append, rising_cons]
  refine ⟨h1, ⟨hb, h2⟩, fun x hx y hy => ?_⟩
  rcases List.mem_cons.1 hy with rfl | hy
  · exact ha x hx
  · exact ltS_trans (ha x hx) (hb y hy)

end Go.Proofs.YtpbipngnoklmcaaDoor
