/- Plain: numbers in limbs of nine digits: what they are worth, without noughts on top, compared, added, taken away, multiplied, read and written. No program in sight. -/
import Derived.Test.YtpbipngnoklmcaaGreatDoorDigP
namespace Go.Proofs.YtpbipngnoklmcaaGreatDoor

abbrev BB : Nat := 1000000000
def valL : List Nat → Nat
  | [] => 0
  | x :: l => x + BB * valL l
def okL (l : List Nat) : Prop := ∀ x ∈ l, x < BB

theorem BB_pos (k : Nat) : 0 < BB ^ k := Nat.pow_pos (by decide)
theorem valL_append (l m : List Nat) : valL (l ++ m) = valL l + BB ^ l.length * valL m := by
  induction l with
  | nil => simp [valL]
  | cons x l ih =>
    simp only [List.cons_append, valL, List.length_cons, ih, Nat.pow_succ]
    rw [Nat.mul_add, Nat.mul_comm (BB ^ l.length) BB, Nat.mul_assoc]
    omega
theorem valL_snoc (l : List Nat) (x : Nat) : valL (l ++ [x]) = valL l + BB ^ l.length * x := by
  rw [valL_append]; simp [valL]
theorem okL_append {l m : List Nat} : okL (l ++ m) ↔ okL l ∧ okL m := by
  unfold okL
  simp only [List.mem_append]
  exact ⟨fun h => ⟨fun x hx => h x (Or.inl hx), fun x hx => h x (Or.inr hx)⟩, fun h x hx => hx.elim (h.1 x) (h.2 x)⟩
theorem okL_snoc {l : List Nat} {x : Nat} : okL (l ++ [x]) ↔ okL l ∧ x < BB := by
  rw [okL_append]
  simp [okL]
theorem okL_nil : okL [] := fun x hx => by cases hx
theorem valL_lt {l : List Nat} (h : okL l) : valL l < BB ^ l.length := by
  induction l with
  | nil => simp [valL]
  | cons x l ih =>
    have h1 := h x (by simp)
    have h2 := ih fun y hy => h y (by simp [hy])
    simp only [valL, List.length_cons, Nat.pow_succ]
    have : BB * (valL l + 1) ≤ BB * BB ^ l.length := Nat.mul_le_mul_left _ h2
    rw [Nat.mul_add, Nat.mul_one] at this
    rw [Nat.mul_comm (BB ^ l.length)]
    omega
theorem okL_take {l : List Nat} (h : okL l) (k : Nat) : okL (l.take k) := fun x hx => h x (List.mem_of_mem_take hx)
theorem okL_getD {l : List Nat} (h : okL l) (k : Nat) : l.getD k 0 < BB := by
  by_cases hk : k < l.length
  · simp only [List.getD, List.getElem?_eq_getElem hk, Option.getD_some]
    exact h _ (List.getElem_mem hk)
  · simp only [List.getD, List.getElem?_eq_none (Nat.le_of_not_lt hk), Option.getD_none]
    decide
theorem valL_take_succ (l : List Nat) (k : Nat) : valL (l.take (k + 1)) = valL (l.take k) + BB ^ k * l.getD k 0 := by
  by_cases hk : k < l.length
  · rw [List.take_succ_eq_append_getElem hk, valL_snoc, List.length_take, Nat.min_eq_left (by omega)]
    simp [List.getD, hk]
  · rw [List.take_of_length_le (by omega), List.take_of_length_le (by omega)]
    simp [List.getD, List.getElem?_eq_none (Nat.le_of_not_lt hk)]

/-! ### No noughts on top -/

def trimL (l : List Nat) : List Nat := (l.reverse.dropWhile (· == 0)).reverse
def isTrim (l : List Nat) : Prop := l.getLast? ≠ some 0
theorem trimL_nil : trimL [] = [] := rfl
theorem trimL_snoc (l : List Nat) (x : Nat) : trimL (l ++ [x]) = if x = 0 then trimL l else l ++ [x] := by
  unfold trimL
  rw [List.reverse_append, List.reverse_singleton, List.singleton_append, List.dropWhile_cons]
  by_cases h : x = 0
  · simp [h]
  · simp [h]
theorem snoc_cases (l : List Nat) : l = [] ∨ ∃ m x, l = m ++ [x] := by
  by_cases h : l = []
  · exact Or.inl h
  · exact Or.inr ⟨l.dropLast, l.getLast h, (List.dropLast_concat_getLast h).symm⟩
theorem snoc_ind {P : List Nat → Prop} (h0 : P []) (h1 : ∀ l x, P l → P (l ++ [x])) : ∀ l, P l := by
  intro l
  obtain ⟨k, hk⟩ : ∃ k, k = l.length := ⟨_, rfl⟩
  induction k generalizing l with
  | zero => rw [List.eq_nil_of_length_eq_zero hk.symm]; exact h0
  | succ k ih =>
    rcases snoc_cases l with rfl | ⟨m, x, rfl⟩
    · exact h0
    · exact h1 m x (ih m (by simpa using hk))
theorem valL_trim (l : List Nat) : valL (trimL l) = valL l := by
  induction l using snoc_ind with
  | h0 => rfl
  | h1 l x ih =>
    rw [trimL_snoc]
    by_cases h : x = 0
    · rw [if_pos h, ih, h, valL_snoc]; omega
    · rw [if_neg h]
theorem okL_trim {l : List Nat} (h : okL l) : okL (trimL l) := by
  induction l using snoc_ind with
  | h0 => exact h
  | h1 l x ih =>
    rw [trimL_snoc]
    by_cases hx : x = 0
    · rw [if_pos hx]; exact ih (okL_snoc.1 h).1
    · rw [if_neg hx]; exact h
theorem trim_is (l : List Nat) : isTrim (trimL l) := by
  induction l using snoc_ind with
  | h0 => simp [isTrim, trimL]
  | h1 l x ih =>
    rw [trimL_snoc]
    by_cases hx : x = 0
    · rw [if_pos hx]; exact ih
    · rw [if_neg hx]; simp [isTrim, hx]
theorem trim_of {l : List Nat} (h : isTrim l) : trimL l = l := by
  rcases snoc_cases l with rfl | ⟨m, x, rfl⟩
  · rfl
  · rw [trimL_snoc, if_neg]
    intro hx
    apply h
    simp [hx]
theorem trimL_take (l : List Nat) : ∃ k, k ≤ l.length ∧ trimL l = l.take k := by
  induction l using snoc_ind with
  | h0 => exact ⟨0, by simp, rfl⟩
  | h1 l x ih =>
    rw [trimL_snoc]
    by_cases hx : x = 0
    · obtain ⟨k, hk, e⟩ := ih
      exact ⟨k, by simp; omega, by rw [if_pos hx, e, List.take_append_of_le_length hk]⟩
    · exact ⟨(l ++ [x]).length, Nat.le_refl _, by rw [if_neg hx, List.take_length]⟩
theorem top_le {l : List Nat} (h : isTrim l) (hn : l ≠ []) : BB ^ (l.length - 1) ≤ valL l := by
  rcases snoc_cases l with rfl | ⟨m, x, rfl⟩
  · exact absurd rfl hn
  · rw [valL_snoc]
    have hx : 0 < x := by
      apply Nat.pos_of_ne_zero
      intro e
      apply h
      simp [e]
    have : BB ^ m.length * 1 ≤ BB ^ m.length * x := Nat.mul_le_mul_left _ hx
    simp only [List.length_append, List.length_singleton, Nat.add_sub_cancel]
    omega
theorem trim_nil {l : List Nat} (h : isTrim l) : l = [] ↔ valL l = 0 := by
  constructor
  · rintro rfl; rfl
  · intro e
    apply Classical.byContradiction
    intro hn
    have := top_le h hn
    have := BB_pos (l.length - 1)
    omega

/-! ### Compared -/

theorem len_lt {x y : List Nat} (hx : okL x) (hy : isTrim y) (h : x.length < y.length) : valL x < valL y := by
  have h1 := valL_lt hx
  have h2 := top_le hy (by rintro rfl; simp at h)
  have h3 : BB ^ x.length ≤ BB ^ (y.length - 1) := Nat.pow_le_pow_right (by decide) (by omega)
  omega
theorem drop_cons {l : List Nat} {i : Nat} (h : i < l.length) : l.drop i = l.getD i 0 :: l.drop (i + 1) := by
  rw [List.drop_eq_getElem_cons h]
  simp [List.getD, h]
theorem valL_split (l : List Nat) {i : Nat} (h : i < l.length) : valL l = valL (l.take i) + BB ^ i * (l.getD i 0 + BB * valL (l.drop (i + 1))) := by
  conv => lhs; rw [← List.take_append_drop i l, valL_append, List.length_take, Nat.min_eq_left (Nat.le_of_lt h), drop_cons h]
  rfl
theorem limb_lt {x y : List Nat} (hx : okL x) {i : Nat} (hl : x.length = y.length) (hi : i < x.length) (hd : x.drop (i + 1) = y.drop (i + 1)) (h : x.getD i 0 < y.getD i 0) : valL x < valL y := by
  rw [valL_split x hi, valL_split y (hl ▸ hi), hd]
  have h1 := valL_lt (okL_take hx i)
  rw [List.length_take, Nat.min_eq_left (Nat.le_of_lt hi)] at h1
  have : BB ^ i * (x.getD i 0 + BB * valL (y.drop (i + 1)) + 1) ≤ BB ^ i * (y.getD i 0 + BB * valL (y.drop (i + 1))) := Nat.mul_le_mul_left _ (by omega)
  rw [Nat.mul_add, Nat.mul_one] at this
  omega
def cmpN (a b : Nat) : Int := if a < b then -1 else if a = b then 0 else 1

/-! ### Added, taken away -/

theorem plus_step {x y out : List Nat} {k c : Nat} (hl : out.length = k) (ho : okL out) (hx : okL x) (hy : okL y) (hc : c ≤ 1) (h : valL out + BB ^ k * c = valL (x.take k) + valL (y.take k)) :
    okL (out ++ [(c + x.getD k 0 + y.getD k 0) % BB]) ∧ (c + x.getD k 0 + y.getD k 0) / BB ≤ 1 ∧ valL (out ++ [(c + x.getD k 0 + y.getD k 0) % BB]) + BB ^ (k + 1) * ((c + x.getD k 0 + y.getD k 0) / BB) = valL (x.take (k + 1)) + valL (y.take (k + 1)) := by
  have h1 := okL_getD hx k
  have h2 := okL_getD hy k
  have h3 : (c + x.getD k 0 + y.getD k 0) / BB < 2 := (Nat.div_lt_iff_lt_mul (by decide)).2 (by omega)
  refine ⟨okL_snoc.2 ⟨ho, Nat.mod_lt _ (by decide)⟩, by omega, ?_⟩
  rw [valL_snoc, hl, valL_take_succ, valL_take_succ, Nat.pow_succ, Nat.mul_assoc]
  have e : BB ^ k * ((c + x.getD k 0 + y.getD k 0) % BB) + BB ^ k * (BB * ((c + x.getD k 0 + y.getD k 0) / BB)) = BB ^ k * c + BB ^ k * x.getD k 0 + BB ^ k * y.getD k 0 := by
    rw [← Nat.mul_add, Nat.mod_add_div, Nat.mul_add, Nat.mul_add]
  omega
theorem plus_end {x y out : List Nat} {k c : Nat} (hl : out.length = k) (ho : okL out) (hc : c ≤ 1) (hx : x.length ≤ k) (hy : y.length ≤ k) (h : valL out + BB ^ k * c = valL (x.take k) + valL (y.take k)) :
    okL (out ++ [c]) ∧ valL (out ++ [c]) = valL x + valL y := by
  rw [List.take_of_length_le hx, List.take_of_length_le hy] at h
  exact ⟨okL_snoc.2 ⟨ho, Nat.lt_of_le_of_lt hc (by decide)⟩, by rw [valL_snoc, hl]; exact h⟩
theorem minus_step {x y out : List Nat} {k c : Nat} (hl : out.length = k) (ho : okL out) (hx : okL x) (hy : okL y) (hc : c ≤ 1) (h : valL out + valL (y.take k) = valL (x.take k) + BB ^ k * c) :
    (x.getD k 0 < c + y.getD k 0 → okL (out ++ [x.getD k 0 + BB - (c + y.getD k 0)]) ∧ valL (out ++ [x.getD k 0 + BB - (c + y.getD k 0)]) + valL (y.take (k + 1)) = valL (x.take (k + 1)) + BB ^ (k + 1) * 1) ∧
    (¬ x.getD k 0 < c + y.getD k 0 → okL (out ++ [x.getD k 0 - (c + y.getD k 0)]) ∧ valL (out ++ [x.getD k 0 - (c + y.getD k 0)]) + valL (y.take (k + 1)) = valL (x.take (k + 1)) + BB ^ (k + 1) * 0) := by
  have h1 := okL_getD hx k
  have h2 := okL_getD hy k
  refine ⟨fun hlt => ⟨okL_snoc.2 ⟨ho, by omega⟩, ?_⟩, fun hlt => ⟨okL_snoc.2 ⟨ho, by omega⟩, ?_⟩⟩
  · rw [valL_snoc, hl, valL_take_succ, valL_take_succ, Nat.pow_succ]
    have e : BB ^ k * (x.getD k 0 + BB - (c + y.getD k 0)) + BB ^ k * (c + y.getD k 0) = BB ^ k * x.getD k 0 + BB ^ k * BB := by
      rw [← Nat.mul_add, ← Nat.mul_add]
      congr 1
      omega
    rw [Nat.mul_add] at e
    omega
  · rw [valL_snoc, hl, valL_take_succ, valL_take_succ]
    have e : BB ^ k * (x.getD k 0 - (c + y.getD k 0)) + BB ^ k * (c + y.getD k 0) = BB ^ k * x.getD k 0 := by
      rw [← Nat.mul_add]
      congr 1
      omega
    rw [Nat.mul_add] at e
    omega
theorem minus_end {x y out : List Nat} {c : Nat} (hl : out.length = x.length) (ho : okL out) (hy : y.length ≤ x.length) (hle : valL y ≤ valL x) (h : valL out + valL (y.take x.length) = valL (x.take x.length) + BB ^ x.length * c) : valL out + valL y = valL x := by
  rw [List.take_of_length_le hy, List.take_length] at h
  have h1 := valL_lt ho
  rw [hl] at h1
  have hc : c = 0 := by
    apply Classical.byContradiction
    intro hn
    have : BB ^ x.length * 1 ≤ BB ^ x.length * c := Nat.mul_le_mul_left _ (by omega)
    omega
  rw [hc] at h
  omega

/-! ### Multiplied -/

theorem valL_set (l : List Nat) (i v : Nat) (h : i < l.length) : valL (l.set i v) + BB ^ i * l.getD i 0 = valL l + BB ^ i * v := by
  induction l generalizing i with
  | nil => simp at h
  | cons x l ih =>
    cases i with
    | zero => simp [valL]; omega
    | succ i =>
      simp only [List.length_cons] at h
      have := ih i (by omega)
      have e : BB * valL (l.set i v) + BB * (BB ^ i * l.getD i 0) = BB * valL l + BB * (BB ^ i * v) := by rw [← Nat.mul_add, ← Nat.mul_add, this]
      simp only [List.set_cons_succ, valL, List.getD_cons_succ, Nat.pow_succ]
      rw [Nat.mul_comm (BB ^ i) BB, Nat.mul_assoc, Nat.mul_assoc]
      omega
theorem okL_set {l : List Nat} (h : okL l) (i v : Nat) (hv : v < BB) : okL (l.set i v) := fun x hx => by
  rcases List.mem_or_eq_of_mem_set hx with hx | rfl
  · exact h x hx
  · exact hv
theorem valL_zeros (n : Nat) : valL (List.replicate n 0) = 0 := by
  induction n with
  | zero => rfl
  | succ n ih => rw [List.replicate_succ]; simp [valL, ih]
theorem okL_zeros (n : Nat) : okL (List.replicate n 0) := fun x hx => by rw [List.eq_of_mem_replicate hx]; decide
/-- Above what it is worth all is nought. -/
theorem high_zero {l : List Nat} {k : Nat} (h : valL l < BB ^ k) : l.getD k 0 = 0 := by
  by_cases hk : k < l.length
  · have := valL_split l hk
    apply Classical.byContradiction
    intro hn
    have : BB ^ k * 1 ≤ BB ^ k * (l.getD k 0 + BB * valL (l.drop (k + 1))) := Nat.mul_le_mul_left _ (by omega)
    omega
  · simp [List.getD, List.getElem?_eq_none (Nat.le_of_not_lt hk)]
/-- One limb of a row: s is what lies there, the carry and the product. -/
theorem times_step {y out : List Nat} {p a i k c s : Nat} (hk : i + k < out.length) (ho : okL out) (h : valL out + BB ^ (i + k) * c = p + a * BB ^ i * valL (y.take k)) (hs : s = c + out.getD (i + k) 0 + a * y.getD k 0) :
    okL (out.set (i + k) (s % BB)) ∧ valL (out.set (i + k) (s % BB)) + BB ^ (i + (k + 1)) * (s / BB) = p + a * BB ^ i * valL (y.take (k + 1)) := by
  refine ⟨okL_set ho _ _ (Nat.mod_lt _ (by decide)), ?_⟩
  have h1 := valL_set out (i + k) (s % BB) hk
  rw [valL_take_succ, Nat.mul_add, ← Nat.add_assoc i k 1, Nat.pow_succ, Nat.mul_assoc (BB ^ (i + k))]
  have e : BB ^ (i + k) * (s % BB) + BB ^ (i + k) * (BB * (s / BB)) = BB ^ (i + k) * c + BB ^ (i + k) * out.getD (i + k) 0 + a * BB ^ i * (BB ^ k * y.getD k 0) := by
    rw [← Nat.mul_add, Nat.mod_add_div, hs, Nat.mul_add, Nat.mul_add]
    congr 1
    rw [Nat.pow_add, Nat.mul_assoc, Nat.mul_assoc, Nat.mul_left_comm (BB ^ k) a, Nat.mul_left_comm (BB ^ i) a]
  omega
theorem row_next (x : List Nat) (yv i : Nat) : valL (x.take i) * yv + x.getD i 0 * BB ^ i * yv = valL (x.take (i + 1)) * yv := by
  rw [valL_take_succ, Nat.add_mul, Nat.mul_comm (x.getD i 0)]
theorem row_lt {x y : List Nat} (hx : okL x) (hy : okL y) (i : Nat) (hi : i ≤ x.length) : valL (x.take i) * valL y < BB ^ (i + y.length) ∨ valL (x.take i) * valL y = 0 := by
  have h1 := valL_lt (okL_take hx i)
  rw [List.length_take, Nat.min_eq_left hi] at h1
  have h2 := valL_lt hy
  left
  rw [Nat.pow_add]
  exact Nat.mul_lt_mul_of_lt_of_le h1 (Nat.le_of_lt h2) (BB_pos _)

/-! ### Written, and read -/

def pad9 (n : Nat) : List UInt8 := List.replicate (9 - (Lib.decDigits n).length) 48 ++ Lib.decDigits n
theorem dec_len9 {n : Nat} (h : n < BB) : (Lib.decDigits n).length ≤ 9 := by
  rw [Lib.decDigits_length]
  exact (nDigits_le (by decide)).2 h
theorem pad9_len {n : Nat} (h : n < BB) : (pad9 n).length = 9 := by
  have := dec_len9 h
  unfold pad9
  rw [List.length_append, List.length_replicate]
  omega
theorem pad9_val (n : Nat) : valD (pad9 n) = n := by
  unfold pad9
  rw [valD_zeros_ahead, valD_dec]
theorem pad9_all (n : Nat) : allD (pad9 n) = true := by
  unfold pad9
  rw [allD_append]
  exact ⟨allD_zeros _, allD_dec _⟩
theorem dec_pad {v n : Nat} (hv : 0 < v) (hn : n < BB) : Lib.decDigits v ++ pad9 n = Lib.decDigits (v * BB + n) := by
  have h1 : valD (Lib.decDigits v ++ pad9 n) = v * BB + n := by
    rw [valD_append, valD_dec, pad9_val, pad9_len hn]
  rw [← h1]
  refine (dec_of (by simp [dec_ne_nil]) (allD_append.2 ⟨allD_dec _, pad9_all _⟩) (Or.inl ?_)).symm
  rw [List.head?_append]
  have := dec_head v hv
  cases hd : (Lib.decDigits v).head? with
  | none => exact absurd (List.head?_eq_none_iff.1 hd) (dec_ne_nil _)
  | some c => rw [hd] at this; simpa using this
/-- The limbs from the k-th on, written. -/
theorem text_step {l : List Nat} (h : okL l) (ht : isTrim l) {k : Nat} (hk : k + 1 < l.length) : Lib.decDigits (valL (l.drop (k + 1))) ++ pad9 (l.getD k 0) = Lib.decDigits (valL (l.drop k)) := by
  have hp : 0 < valL (l.drop (k + 1)) := by
    have h1 : isTrim (l.drop (k + 1)) := by
      unfold isTrim at ht ⊢
      rw [List.getLast?_drop, if_neg (by omega)]
      exact ht
    have h2 : l.drop (k + 1) ≠ [] := by
      intro e
      have := congrArg List.length e
      rw [List.length_drop] at this
      simp at this
      omega
    apply Nat.pos_of_ne_zero
    intro e
    exact h2 ((trim_nil h1).2 e)
  rw [dec_pad hp (okL_getD h k), drop_cons (show k < l.length by omega)]
  simp only [valL]
  rw [Nat.mul_comm, Nat.add_comm]
theorem read_step {d : List UInt8} (hd : allD d = true) {limbs : List Nat} {e : Nat} (he : e ≤ d.length) (h0 : 0 < e) (hl : d.length - e = 9 * limbs.length) (ho : okL limbs) (h : valL limbs = valD (d.drop e)) :
    okL (limbs ++ [valD ((d.take e).drop (e - 9))]) ∧ valL (limbs ++ [valD ((d.take e).drop (e - 9))]) = valD (d.drop (e - 9)) := by
  have hlen : ((d.take e).drop (e - 9)).length ≤ 9 := by rw [List.length_drop, List.length_take]; omega
  have ha : allD ((d.take e).drop (e - 9)) = true := by
    unfold allD at hd ⊢
    rw [List.all_eq_true] at hd ⊢
    exact fun c hc => hd c (List.mem_of_mem_take (List.mem_of_mem_drop hc))
  refine ⟨okL_snoc.2 ⟨ho, Nat.lt_of_lt_of_le (valD_lt ha) (Nat.pow_le_pow_right (by decide) hlen)⟩, ?_⟩
  have e1 : d.drop (e - 9) = (d.take e).drop (e - 9) ++ d.drop e := by
    rw [List.drop_take]
    conv => lhs; rw [← List.take_append_drop (e - (e - 9)) (d.drop (e - 9)), List.drop_drop]
    congr 2
    omega
  rw [valL_snoc, e1, valD_append, h, List.length_drop, hl, Nat.pow_mul]
  rw [show (10 : Nat) ^ 9 = BB from rfl, Nat.mul_comm]
  omega

end Go.Proofs.YtpbipngnoklmcaaGreatDoor
