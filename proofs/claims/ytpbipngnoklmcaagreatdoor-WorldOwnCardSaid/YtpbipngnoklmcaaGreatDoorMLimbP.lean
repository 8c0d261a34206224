/- Plain: numbers in limbs of nine digits: what they are worth, without noughts on top, compared, added, taken away, multiplied, read and written. No program in sight. Predicates on memory for the walks over numbers: slices of limbs, read in a world; big numbers. No condition. Texts in walks: their bytes, cut and joined; the table of powers of ten. No condition. -/
import Derived.Test.YtpbipngnoklmcaaGreatDoorDigP
import Derived.Test.YtpbipngnoklmcaaGreatDoorProg
import Derived.WalkKit
import Derived.WalkSpells
import Derived.WalkLawsBesides
import Derived.BigQuiet
import Derived.Deep.QuietTactic
import Derived.Deep.LoopGhost
import Derived.Deep.Cut
import Derived.Deep.CutRange
import Derived.Lib.Hide
import Derived.Laws.AppendOwnNone
import Derived.Laws.MakeOwn
import Derived.StillTailTactics
import Derived.Laws.Concat
import Derived.Laws.Strings2
import Derived.Laws.Strings3
import Derived.Laws.IdiomStrings
import Derived.Lib.Strings
import Derived.Lib.LaidTab
import Derived.Lib.ItoaMem
namespace Go.Proofs.YtpbipngnoklmcaaGreatDoor

abbrev BB : Nat := 1000000000
def valL : List Nat → Nat
  | [] => 0
  | x :: l => x + BB * valL l
def okL (l : List Nat) : Prop := ∀ x ∈ l, x < BB

theorem BB_pos (k : Nat) : 0 < BB ^ k := Nat.pow_pos (by decide)
theorem valL_append (l m : List Nat) : valL (l ++ m) = valL l + BB ^ l.length * valL m := by
  induction l with
  | nil => simp [valL]
  | cons x l ih =>
    simp only [List.cons_append, valL, List.length_cons, ih, Nat.pow_succ]
    rw [Nat.mul_add, Nat.mul_comm (BB ^ l.length) BB, Nat.mul_assoc]
    omega
theorem valL_snoc (l : List Nat) (x : Nat) : valL (l ++ [x]) = valL l + BB ^ l.length * x := by
  rw [valL_append]; simp [valL]
theorem okL_append {l m : List Nat} : okL (l ++ m) ↔ okL l ∧ okL m := by
  unfold okL
  simp only [List.mem_append]
  exact ⟨fun h => ⟨fun x hx => h x (Or.inl hx), fun x hx => h x (Or.inr hx)⟩, fun h x hx => hx.elim (h.1 x) (h.2 x)⟩
theorem okL_snoc {l : List Nat} {x : Nat} : okL (l ++ [x]) ↔ okL l ∧ x < BB := by
  rw [okL_append]
  simp [okL]
theorem okL_nil : okL [] := fun x hx => by cases hx
theorem valL_lt {l : List Nat} (h : okL l) : valL l < BB ^ l.length := by
  induction l with
  | nil => simp [valL]
  | cons x l ih =>
    have h1 := h x (by simp)
    have h2 := ih fun y hy => h y (by simp [hy])
    simp only [valL, List.length_cons, Nat.pow_succ]
    have : BB * (valL l + 1) ≤ BB * BB ^ l.length := Nat.mul_le_mul_left _ h2
    rw [Nat.mul_add, Nat.mul_one] at this
    rw [Nat.mul_comm (BB ^ l.length)]
    omega
theorem okL_take {l : List Nat} (h : okL l) (k : Nat) : okL (l.take k) := fun x hx => h x (List.mem_of_mem_take hx)
theorem okL_getD {l : List Nat} (h : okL l) (k : Nat) : l.getD k 0 < BB := by
  by_cases hk : k < l.length
  · simp only [List.getD, List.getElem?_eq_getElem hk, Option.getD_some]
    exact h _ (List.getElem_mem hk)
  · simp only [List.getD, List.getElem?_eq_none (Nat.le_of_not_lt hk), Option.getD_none]
    decide
theorem valL_take_succ (l : List Nat) (k : Nat) : valL (l.take (k + 1)) = valL (l.take k) + BB ^ k * l.getD k 0 := by
  by_cases hk : k < l.length
  · rw [List.take_succ_eq_append_getElem hk, valL_snoc, List.length_take, Nat.min_eq_left (by omega)]
    simp [List.getD, hk]
  · rw [List.take_of_length_le (by omega), List.take_of_length_le (by omega)]
    simp [List.getD, List.getElem?_eq_none (Nat.le_of_not_lt hk)]

/-! ### No noughts on top -/

def trimL (l : List Nat) : List Nat := (l.reverse.dropWhile (· == 0)).reverse
def isTrim (l : List Nat) : Prop := l.getLast? ≠ some 0
theorem trimL_nil : trimL [] = [] := rfl
theorem trimL_snoc (l : List Nat) (x : Nat) : trimL (l ++ [x]) = if x = 0 then trimL l else l ++ [x] := by
  unfold trimL
  rw [List.reverse_append, List.reverse_singleton, List.singleton_append, List.dropWhile_cons]
  by_cases h : x = 0
  · simp [h]
  · simp [h]
theorem snoc_cases (l : List Nat) : l = [] ∨ ∃ m x, l = m ++ [x] := by
  by_cases h : l = []
  · exact Or.inl h
  · exact Or.inr ⟨l.dropLast, l.getLast h, (List.dropLast_concat_getLast h).symm⟩
theorem snoc_ind {P : List Nat → Prop} (h0 : P []) (h1 : ∀ l x, P l → P (l ++ [x])) : ∀ l, P l := by
  intro l
  obtain ⟨k, hk⟩ : ∃ k, k = l.length := ⟨_, rfl⟩
  induction k generalizing l with
  | zero => rw [List.eq_nil_of_length_eq_zero hk.symm]; exact h0
  | succ k ih =>
    rcases snoc_cases l with rfl | ⟨m, x, rfl⟩
    · exact h0
    · exact h1 m x (ih m (by simpa using hk))
theorem valL_trim (l : List Nat) : valL (trimL l) = valL l := by
  induction l using snoc_ind with
  | h0 => rfl
  | h1 l x ih =>
    rw [trimL_snoc]
    by_cases h : x = 0
    · rw [if_pos h, ih, h, valL_snoc]; omega
    · rw [if_neg h]
theorem okL_trim {l : List Nat} (h : okL l) : okL (trimL l) := by
  induction l using snoc_ind with
  | h0 => exact h
  | h1 l x ih =>
    rw [trimL_snoc]
    by_cases hx : x = 0
    · rw [if_pos hx]; exact ih (okL_snoc.1 h).1
    · rw [if_neg hx]; exact h
theorem trim_is (l : List Nat) : isTrim (trimL l) := by
  induction l using snoc_ind with
  | h0 => simp [isTrim, trimL]
  | h1 l x ih =>
    rw [trimL_snoc]
    by_cases hx : x = 0
    · rw [if_pos hx]; exact ih
    · rw [if_neg hx]; simp [isTrim, hx]
theorem trim_of {l : List Nat} (h : isTrim l) : trimL l = l := by
  rcases snoc_cases l with rfl | ⟨m, x, rfl⟩
  · rfl
  · rw [trimL_snoc, if_neg]
    intro hx
    apply h
    simp [hx]
theorem trimL_take (l : List Nat) : ∃ k, k ≤ l.length ∧ trimL l = l.take k := by
  induction l using snoc_ind with
  | h0 => exact ⟨0, by simp, rfl⟩
  | h1 l x ih =>
    rw [trimL_snoc]
    by_cases hx : x = 0
    · obtain ⟨k, hk, e⟩ := ih
      exact ⟨k, by simp; omega, by rw [if_pos hx, e, List.take_append_of_le_length hk]⟩
    · exact ⟨(l ++ [x]).length, Nat.le_refl _, by rw [if_neg hx, List.take_length]⟩
theorem top_le {l : List Nat} (h : isTrim l) (hn : l ≠ []) : BB ^ (l.length - 1) ≤ valL l := by
  rcases snoc_cases l with rfl | ⟨m, x, rfl⟩
  · exact absurd rfl hn
  · rw [valL_snoc]
    have hx : 0 < x := by
      apply Nat.pos_of_ne_zero
      intro e
      apply h
      simp [e]
    have : BB ^ m.length * 1 ≤ BB ^ m.length * x := Nat.mul_le_mul_left _ hx
    simp only [List.length_append, List.length_singleton, Nat.add_sub_cancel]
    omega
theorem trim_nil {l : List Nat} (h : isTrim l) : l = [] ↔ valL l = 0 := by
  constructor
  · rintro rfl; rfl
  · intro e
    apply Classical.byContradiction
    intro hn
    have := top_le h hn
    have := BB_pos (l.length - 1)
    omega

/-! ### Compared -/

theorem len_lt {x y : List Nat} (hx : okL x) (hy : isTrim y) (h : x.length < y.length) : valL x < valL y := by
  have h1 := valL_lt hx
  have h2 := top_le hy (by rintro rfl; simp at h)
  have h3 : BB ^ x.length ≤ BB ^ (y.length - 1) := Nat.pow_le_pow_right (by decide) (by omega)
  omega
theorem drop_cons {l : List Nat} {i : Nat} (h : i < l.length) : l.drop i = l.getD i 0 :: l.drop (i + 1) := by
  rw [List.drop_eq_getElem_cons h]
  simp [List.getD, h]
theorem valL_split (l : List Nat) {i : Nat} (h : i < l.length) : valL l = valL (l.take i) + BB ^ i * (l.getD i 0 + BB * valL (l.drop (i + 1))) := by
  conv => lhs; rw [← List.take_append_drop i l, valL_append, List.length_take, Nat.min_eq_left (Nat.le_of_lt h), drop_cons h]
  rfl
theorem limb_lt {x y : List Nat} (hx : okL x) {i : Nat} (hl : x.length = y.length) (hi : i < x.length) (hd : x.drop (i + 1) = y.drop (i + 1)) (h : x.getD i 0 < y.getD i 0) : valL x < valL y := by
  rw [valL_split x hi, valL_split y (hl ▸ hi), hd]
  have h1 := valL_lt (okL_take hx i)
  rw [List.length_take, Nat.min_eq_left (Nat.le_of_lt hi)] at h1
  have : BB ^ i * (x.getD i 0 + BB * valL (y.drop (i + 1)) + 1) ≤ BB ^ i * (y.getD i 0 + BB * valL (y.drop (i + 1))) := Nat.mul_le_mul_left _ (by omega)
  rw [Nat.mul_add, Nat.mul_one] at this
  omega
def cmpN (a b : Nat) : Int := if a < b then -1 else if a = b then 0 else 1

/-! ### Added, taken away -/

theorem plus_step {x y out : List Nat} {k c : Nat} (hl : out.length = k) (ho : okL out) (hx : okL x) (hy : okL y) (hc : c ≤ 1) (h : valL out + BB ^ k * c = valL (x.take k) + valL (y.take k)) :
    okL (out ++ [(c + x.getD k 0 + y.getD k 0) % BB]) ∧ (c + x.getD k 0 + y.getD k 0) / BB ≤ 1 ∧ valL (out ++ [(c + x.getD k 0 + y.getD k 0) % BB]) + BB ^ (k + 1) * ((c + x.getD k 0 + y.getD k 0) / BB) = valL (x.take (k + 1)) + valL (y.take (k + 1)) := by
  have h1 := okL_getD hx k
  have h2 := okL_getD hy k
  have h3 : (c + x.getD k 0 + y.getD k 0) / BB < 2 := (Nat.div_lt_iff_lt_mul (by decide)).2 (by omega)
  refine ⟨okL_snoc.2 ⟨ho, Nat.mod_lt _ (by decide)⟩, by omega, ?_⟩
  rw [valL_snoc, hl, valL_take_succ, valL_take_succ, Nat.pow_succ, Nat.mul_assoc]
  have e : BB ^ k * ((c + x.getD k 0 + y.getD k 0) % BB) + BB ^ k * (BB * ((c + x.getD k 0 + y.getD k 0) / BB)) = BB ^ k * c + BB ^ k * x.getD k 0 + BB ^ k * y.getD k 0 := by
    rw [← Nat.mul_add, Nat.mod_add_div, Nat.mul_add, Nat.mul_add]
  omega
theorem plus_end {x y out : List Nat} {k c : Nat} (hl : out.length = k) (ho : okL out) (hc : c ≤ 1) (hx : x.length ≤ k) (hy : y.length ≤ k) (h : valL out + BB ^ k * c = valL (x.take k) + valL (y.take k)) :
    okL (out ++ [c]) ∧ valL (out ++ [c]) = valL x + valL y := by
  rw [List.take_of_length_le hx, List.take_of_length_le hy] at h
  exact ⟨okL_snoc.2 ⟨ho, Nat.lt_of_le_of_lt hc (by decide)⟩, by rw [valL_snoc, hl]; exact h⟩
theorem minus_step {x y out : List Nat} {k c : Nat} (hl : out.length = k) (ho : okL out) (hx : okL x) (hy : okL y) (hc : c ≤ 1) (h : valL out + valL (y.take k) = valL (x.take k) + BB ^ k * c) :
    (x.getD k 0 < c + y.getD k 0 → okL (out ++ [x.getD k 0 + BB - (c + y.getD k 0)]) ∧ valL (out ++ [x.getD k 0 + BB - (c + y.getD k 0)]) + valL (y.take (k + 1)) = valL (x.take (k + 1)) + BB ^ (k + 1) * 1) ∧
    (¬ x.getD k 0 < c + y.getD k 0 → okL (out ++ [x.getD k 0 - (c + y.getD k 0)]) ∧ valL (out ++ [x.getD k 0 - (c + y.getD k 0)]) + valL (y.take (k + 1)) = valL (x.take (k + 1)) + BB ^ (k + 1) * 0) := by
  have h1 := okL_getD hx k
  have h2 := okL_getD hy k
  refine ⟨fun hlt => ⟨okL_snoc.2 ⟨ho, by omega⟩, ?_⟩, fun hlt => ⟨okL_snoc.2 ⟨ho, by omega⟩, ?_⟩⟩
  · rw [valL_snoc, hl, valL_take_succ, valL_take_succ, Nat.pow_succ]
    have e : BB ^ k * (x.getD k 0 + BB - (c + y.getD k 0)) + BB ^ k * (c + y.getD k 0) = BB ^ k * x.getD k 0 + BB ^ k * BB := by
      rw [← Nat.mul_add, ← Nat.mul_add]
      congr 1
      omega
    rw [Nat.mul_add] at e
    omega
  · rw [valL_snoc, hl, valL_take_succ, valL_take_succ]
    have e : BB ^ k * (x.getD k 0 - (c + y.getD k 0)) + BB ^ k * (c + y.getD k 0) = BB ^ k * x.getD k 0 := by
      rw [← Nat.mul_add]
      congr 1
      omega
    rw [Nat.mul_add] at e
    omega
theorem minus_end {x y out : List Nat} {c : Nat} (hl : out.length = x.length) (ho : okL out) (hy : y.length ≤ x.length) (hle : valL y ≤ valL x) (h : valL out + valL (y.take x.length) = valL (x.take x.length) + BB ^ x.length * c) : valL out + valL y = valL x := by
  rw [List.take_of_length_le hy, List.take_length] at h
  have h1 := valL_lt ho
  rw [hl] at h1
  have hc : c = 0 := by
    apply Classical.byContradiction
    intro hn
    have : BB ^ x.length * 1 ≤ BB ^ x.length * c := Nat.mul_le_mul_left _ (by omega)
    omega
  rw [hc] at h
  omega

/-! ### Multiplied -/

theorem valL_set (l : List Nat) (i v : Nat) (h : i < l.length) : valL (l.set i v) + BB ^ i * l.getD i 0 = valL l + BB ^ i * v := by
  induction l generalizing i with
  | nil => simp at h
  | cons x l ih =>
    cases i with
    | zero => simp [valL]; omega
    | succ i =>
      simp only [List.length_cons] at h
      have := ih i (by omega)
      have e : BB * valL (l.set i v) + BB * (BB ^ i * l.getD i 0) = BB * valL l + BB * (BB ^ i * v) := by rw [← Nat.mul_add, ← Nat.mul_add, this]
      simp only [List.set_cons_succ, valL, List.getD_cons_succ, Nat.pow_succ]
      rw [Nat.mul_comm (BB ^ i) BB, Nat.mul_assoc, Nat.mul_assoc]
      omega
theorem okL_set {l : List Nat} (h : okL l) (i v : Nat) (hv : v < BB) : okL (l.set i v) := fun x hx => by
  rcases List.mem_or_eq_of_mem_set hx with hx | rfl
  · exact h x hx
  · exact hv
theorem valL_zeros (n : Nat) : valL (List.replicate n 0) = 0 := by
  induction n with
  | zero => rfl
  | succ n ih => rw [List.replicate_succ]; simp [valL, ih]
theorem okL_zeros (n : Nat) : okL (List.replicate n 0) := fun x hx => by rw [List.eq_of_mem_replicate hx]; decide
/-- Above what it is worth all is nought. -/
theorem high_zero {l : List Nat} {k : Nat} (h : valL l < BB ^ k) : l.getD k 0 = 0 := by
  by_cases hk : k < l.length
  · have := valL_split l hk
    apply Classical.byContradiction
    intro hn
    have : BB ^ k * 1 ≤ BB ^ k * (l.getD k 0 + BB * valL (l.drop (k + 1))) := Nat.mul_le_mul_left _ (by omega)
    omega
  · simp [List.getD, List.getElem?_eq_none (Nat.le_of_not_lt hk)]
/-- One limb of a row: s is what lies there, the carry and the product. -/
theorem times_step {y out : List Nat} {p a i k c s : Nat} (hk : i + k < out.length) (ho : okL out) (h : valL out + BB ^ (i + k) * c = p + a * BB ^ i * valL (y.take k)) (hs : s = c + out.getD (i + k) 0 + a * y.getD k 0) :
    okL (out.set (i + k) (s % BB)) ∧ valL (out.set (i + k) (s % BB)) + BB ^ (i + (k + 1)) * (s / BB) = p + a * BB ^ i * valL (y.take (k + 1)) := by
  refine ⟨okL_set ho _ _ (Nat.mod_lt _ (by decide)), ?_⟩
  have h1 := valL_set out (i + k) (s % BB) hk
  rw [valL_take_succ, Nat.mul_add, ← Nat.add_assoc i k 1, Nat.pow_succ, Nat.mul_assoc (BB ^ (i + k))]
  have e : BB ^ (i + k) * (s % BB) + BB ^ (i + k) * (BB * (s / BB)) = BB ^ (i + k) * c + BB ^ (i + k) * out.getD (i + k) 0 + a * BB ^ i * (BB ^ k * y.getD k 0) := by
    rw [← Nat.mul_add, Nat.mod_add_div, hs, Nat.mul_add, Nat.mul_add]
    congr 1
    rw [Nat.pow_add, Nat.mul_assoc, Nat.mul_assoc, Nat.mul_left_comm (BB ^ k) a, Nat.mul_left_comm (BB ^ i) a]
  omega
theorem row_next (x : List Nat) (yv i : Nat) : valL (x.take i) * yv + x.getD i 0 * BB ^ i * yv = valL (x.take (i + 1)) * yv := by
  rw [valL_take_succ, Nat.add_mul, Nat.mul_comm (x.getD i 0)]
theorem row_lt {x y : List Nat} (hx : okL x) (hy : okL y) (i : Nat) (hi : i ≤ x.length) : valL (x.take i) * valL y < BB ^ (i + y.length) ∨ valL (x.take i) * valL y = 0 := by
  have h1 := valL_lt (okL_take hx i)
  rw [List.length_take, Nat.min_eq_left hi] at h1
  have h2 := valL_lt hy
  left
  rw [Nat.pow_add]
  exact Nat.mul_lt_mul_of_lt_of_le h1 (Nat.le_of_lt h2) (BB_pos _)

/-! ### Written, and read -/

def pad9 (n : Nat) : List UInt8 := List.replicate (9 - (Lib.decDigits n).length) 48 ++ Lib.decDigits n
theorem dec_len9 {n : Nat} (h : n < BB) : (Lib.decDigits n).length ≤ 9 := by
  rw [Lib.decDigits_length]
  exact (nDigits_le (by decide)).2 h
theorem pad9_len {n : Nat} (h : n < BB) : (pad9 n).length = 9 := by
  have := dec_len9 h
  unfold pad9
  rw [List.length_append, List.length_replicate]
  omega
theorem pad9_val (n : Nat) : valD (pad9 n) = n := by
  unfold pad9
  rw [valD_zeros_ahead, valD_dec]
theorem pad9_all (n : Nat) : allD (pad9 n) = true := by
  unfold pad9
  rw [allD_append]
  exact ⟨allD_zeros _, allD_dec _⟩
theorem dec_pad {v n : Nat} (hv : 0 < v) (hn : n < BB) : Lib.decDigits v ++ pad9 n = Lib.decDigits (v * BB + n) := by
  have h1 : valD (Lib.decDigits v ++ pad9 n) = v * BB + n := by
    rw [valD_append, valD_dec, pad9_val, pad9_len hn]
  rw [← h1]
  refine (dec_of (by simp [dec_ne_nil]) (allD_append.2 ⟨allD_dec _, pad9_all _⟩) (Or.inl ?_)).symm
  rw [List.head?_append]
  have := dec_head v hv
  cases hd : (Lib.decDigits v).head? with
  | none => exact absurd (List.head?_eq_none_iff.1 hd) (dec_ne_nil _)
  | some c => rw [hd] at this; simpa using this
/-- The limbs from the k-th on, written. -/
theorem text_step {l : List Nat} (h : okL l) (ht : isTrim l) {k : Nat} (hk : k + 1 < l.length) : Lib.decDigits (valL (l.drop (k + 1))) ++ pad9 (l.getD k 0) = Lib.decDigits (valL (l.drop k)) := by
  have hp : 0 < valL (l.drop (k + 1)) := by
    have h1 : isTrim (l.drop (k + 1)) := by
      unfold isTrim at ht ⊢
      rw [List.getLast?_drop, if_neg (by omega)]
      exact ht
    have h2 : l.drop (k + 1) ≠ [] := by
      intro e
      have := congrArg List.length e
      rw [List.length_drop] at this
      simp at this
      omega
    apply Nat.pos_of_ne_zero
    intro e
    exact h2 ((trim_nil h1).2 e)
  rw [dec_pad hp (okL_getD h k), drop_cons (show k < l.length by omega)]
  simp only [valL]
  rw [Nat.mul_comm, Nat.add_comm]
theorem read_step {d : List UInt8} (hd : allD d = true) {limbs : List Nat} {e : Nat} (he : e ≤ d.length) (h0 : 0 < e) (hl : d.length - e = 9 * limbs.length) (ho : okL limbs) (h : valL limbs = valD (d.drop e)) :
    okL (limbs ++ [valD ((d.take e).drop (e - 9))]) ∧ valL (limbs ++ [valD ((d.take e).drop (e - 9))]) = valD (d.drop (e - 9)) := by
  have hlen : ((d.take e).drop (e - 9)).length ≤ 9 := by rw [List.length_drop, List.length_take]; omega
  have ha : allD ((d.take e).drop (e - 9)) = true := by
    unfold allD at hd ⊢
    rw [List.all_eq_true] at hd ⊢
    exact fun c hc => hd c (List.mem_of_mem_take (List.mem_of_mem_drop hc))
  refine ⟨okL_snoc.2 ⟨ho, Nat.lt_of_lt_of_le (valD_lt ha) (Nat.pow_le_pow_right (by decide) hlen)⟩, ?_⟩
  have e1 : d.drop (e - 9) = (d.take e).drop (e - 9) ++ d.drop e := by
    rw [List.drop_take]
    conv => lhs; rw [← List.take_append_drop (e - (e - 9)) (d.drop (e - 9)), List.drop_drop]
    congr 2
    omega
  rw [valL_snoc, e1, valD_append, h, List.length_drop, hl, Nat.pow_mul]
  rw [show (10 : Nat) ^ 9 = BB from rfl, Nat.mul_comm]
  omega

end Go.Proofs.YtpbipngnoklmcaaGreatDoor
namespace Go.Proofs.YtpbipngnoklmcaaGreatDoor
open Go.RowKit

/-- v is a slice (perhaps nil) of limbs xs. -/
def LimbsAt (w : World) (v : Value) (xs : List Nat) : Prop :=
  ∃ (ao : Option Addr) (cap : Nat), v = .slice ao xs.length cap ∧ xs.length ≤ 4096 ∧ (xs.length ≤ cap ∧ cap ≤ 9223372036854775807 ∧ (ao = none → cap = 0)) ∧
    (xs ≠ [] → ∃ b off, ao = some ⟨b, off, none⟩ ∧ (b < w.heap.size ∧ ∃ cs fz, w.heap[b]? = some (.cells cs 139 fz)) ∧ ∀ i, i < xs.length → w.cell? ⟨b, off + i, none⟩ = some (.int .u64 ((xs.getD i 0 : Nat) : Int)))

theorem LimbsAt.mono {w w' : World} {v : Value} {xs : List Nat} (h : LimbsAt w v xs) (hb : Below w.heap.size w w') : LimbsAt w' v xs := by
  obtain ⟨ao, cap, hv, hl, hm, hc⟩ := h
  refine ⟨ao, cap, hv, hl, hm, fun hne => ?_⟩
  obtain ⟨b, off, ha, hlt, hcell⟩ := hc hne
  obtain ⟨hlt, cs, fz, ht⟩ := hlt
  exact ⟨b, off, ha, ⟨Nat.lt_of_lt_of_le hlt hb.size, cs, fz, (hb.block b hlt).trans ht⟩, fun i hi => (hb.cell (p := ⟨b, off + i, none⟩) hlt).trans (hcell i hi)⟩
theorem LimbsAt.get {w : World} {ao : Option Addr} {n cap : Nat} {xs : List Nat} (h : LimbsAt w (.slice ao n cap) xs) {i : Nat} (hi : i < xs.length) : ∃ b off, ao = some ⟨b, off, none⟩ ∧ b < w.heap.size ∧ w.cell? ⟨b, off + i, none⟩ = some (.int .u64 ((xs.getD i 0 : Nat) : Int)) := by
  obtain ⟨ao', cap', hv, hl, hm, hc⟩ := h
  cases hv
  obtain ⟨b, off, ha, hb, hcell⟩ := hc (by intro e; simp [e] at hi)
  exact ⟨b, off, ha, hb.1, hcell i hi⟩
theorem LimbsAt.val {w : World} {v : Value} {xs : List Nat} (h : LimbsAt w v xs) : ∃ ao cap, v = .slice ao xs.length cap ∧ xs.length ≤ 4096 ∧ xs.length ≤ cap ∧ cap ≤ 9223372036854775807 := by
  obtain ⟨ao, cap, hv, hl, hm, _⟩ := h
  exact ⟨ao, cap, hv, hl, hm.1, hm.2.1⟩
theorem LimbsAt.nil (w : World) : LimbsAt w (.slice none 0 0) [] := ⟨none, 0, rfl, by simp, by simp, fun h => absurd rfl h⟩
theorem LimbsAt.cut {w : World} {ao : Option Addr} {n cap : Nat} {xs : List Nat} (h : LimbsAt w (.slice ao n cap) xs) (k : Nat) (hk : k ≤ xs.length) : LimbsAt w (.slice ao k cap) (xs.take k) := by
  obtain ⟨ao', cap', hv, hl, hm, hc⟩ := h
  cases hv
  have e : (xs.take k).length = k := by rw [List.length_take, Nat.min_eq_left hk]
  refine ⟨ao, cap, by rw [e], by omega, ⟨by omega, hm.2⟩, fun hne => ?_⟩
  obtain ⟨b, off, ha, hb, hcell⟩ := hc (by intro h0; subst h0; simp at hne)
  refine ⟨b, off, ha, hb, fun i hi => ?_⟩
  have hik : i < k := by omega
  have e2 : (xs.take k).getD i 0 = xs.getD i 0 := by simp [List.getD, hik]
  rw [e2]
  exact hcell i (by omega)
def limbs (xs : List Nat) : List Value := xs.map fun n : Nat => Value.int .u64 (n : Int)
theorem limbs_len (xs : List Nat) : (limbs xs).length = xs.length := by simp [limbs]
theorem limbs_snoc (xs : List Nat) (x : Nat) : limbs (xs ++ [x]) = limbs xs ++ [.int .u64 (x : Int)] := by simp [limbs]
/-- What the call owns reads as limbs. -/
theorem limbs_of_own {w : World} {base : Nat} {v : Value} {xs : List Nat} (h : w.ownsRow base 139 1 v xs.length (limbs xs)) (hl : xs.length ≤ 4096) : LimbsAt w v xs := by
  obtain ⟨_, h2⟩ := h
  rcases h2 with ⟨rfl, h0⟩ | ⟨g, cap, cur, rfl, _, hh, hn, hcap, hs, ht⟩
  · have : xs = [] := List.eq_nil_of_length_eq_zero h0
    subst this
    exact LimbsAt.nil w
  · refine ⟨_, cap, rfl, hl, ⟨hn, by unfold maxLen at hcap; omega, fun e => by cases e⟩, fun _ => ⟨g, 0, rfl, ⟨(Array.getElem?_eq_some_iff.1 hh).1, _, _, hh⟩, fun i hi => ?_⟩⟩
    rw [Nat.zero_add, cell_of_row w g i cur _ (0, 0) hh]
    have h3 : (cur.toList.take (xs.length * 1))[i]? = (limbs xs)[i]? := by rw [ht]
    rw [List.getElem?_take, if_pos (by omega)] at h3
    simpa [limbs, List.getD, hi] using h3

/-- Limbs lie in no variable that holds a big number. -/
theorem LimbsAt.box {w w' : World} {v : Value} {xs : List Nat} {ty q n c : Nat} {b : Bool} {ao : Option Addr} (h : LimbsAt w v xs) (hq : w.heap[q]? = some (.cells #[.bool b, .slice ao n c] ty (0, 0))) (hs : w.heap.size ≤ w'.heap.size) (hk : ∀ k, k ≠ q → w'.heap[k]? = w.heap[k]?) : LimbsAt w' v xs := by
  obtain ⟨a, cap, hv, hl, hm, hc⟩ := h
  refine ⟨a, cap, hv, hl, hm, fun hne => ?_⟩
  obtain ⟨bk, off, ha, ⟨hlt, cs, fz, ht⟩, hcell⟩ := hc hne
  have hne2 : bk ≠ q := by
    rintro rfl
    have h0 := hcell 0 (by cases xs with | nil => exact absurd rfl hne | cons _ _ => simp)
    unfold World.cell? at h0
    simp only [hq, Nat.add_zero] at h0
    rcases off with _ | _ | off
    · simp at h0
    · simp at h0
    · simp at h0
  refine ⟨bk, off, ha, ⟨Nat.lt_of_lt_of_le hlt hs, cs, fz, (hk bk hne2).trans ht⟩, fun i hi => ?_⟩
  rw [World.cell?_of_block (w := w) (a := ⟨bk, off + i, none⟩) (hk bk hne2)]
  exact hcell i hi
/-- Limbs lie in no row of bytes. -/
theorem LimbsAt.grown {w w' : World} {v : Value} {xs : List Nat} {row : Option Nat} (h : LimbsAt w v xs) (hg : w.grownBy w' row) (hr : ∀ g, row = some g → ∃ cs fz, w.heap[g]? = some (.cells cs 5 fz)) : LimbsAt w' v xs := by
  obtain ⟨a, cap, hv, hl, hm, hc⟩ := h
  refine ⟨a, cap, hv, hl, hm, fun hne => ?_⟩
  obtain ⟨bk, off, ha, ⟨hlt, cs, fz, ht⟩, hcell⟩ := hc hne
  have hk := hg.block bk hlt (fun e => by
    obtain ⟨cs2, fz2, h2⟩ := hr bk e.symm
    rw [ht] at h2
    injection h2 with h2
    injection h2 with _ h3
    revert h3
    decide)
  refine ⟨bk, off, ha, ⟨Nat.lt_of_lt_of_le hlt hg.size, cs, fz, hk.trans ht⟩, fun i hi => ?_⟩
  rw [World.cell?_of_block (w := w) (a := ⟨bk, off + i, none⟩) hk]
  exact hcell i hi
theorem limbs_one (w : World) (n : Nat) : LimbsAt (w.alloc (.cells #[.int .u64 (n : Int)] 139)) (.slice (some ⟨w.heap.size, 0, none⟩) 1 1) [n] := by
  have hh := heap_alloc_new w (.cells #[.int .u64 (n : Int)] 139)
  refine ⟨_, 1, rfl, by simp, ⟨by simp, by omega, fun e => by cases e⟩, fun _ => ⟨_, 0, rfl, ⟨by simp, _, _, hh⟩, fun i hi => ?_⟩⟩
  have : i = 0 := by simpa using hi
  subst this
  simp only [World.cell?, hh]
  rfl

/-- A big number: its sign, its limbs. -/
def BigAt (w : World) (v : Value) (below : Bool) (xs : List Nat) : Prop := ∃ u, v = .agg #[.bool below, u] ∧ LimbsAt w u xs
theorem BigAt.mono {w w' : World} {v : Value} {below : Bool} {xs : List Nat} (h : BigAt w v below xs) (hb : Below w.heap.size w w') : BigAt w' v below xs := by
  obtain ⟨u, rfl, hu⟩ := h
  exact ⟨u, rfl, hu.mono hb⟩
/-- A variable of two cells. -/
theorem cell_box2 {w : World} {ty q : Nat} {x0 x1 : Value} (h : w.heap[q]? = some (.cells #[x0, x1] ty (0, 0))) :
    w.cell? ⟨q, 0, none⟩ = some x0 ∧ w.cell? ⟨q, 1, none⟩ = some x1 ∧ w.frozen? ⟨q, 0, none⟩ = false ∧ w.frozen? ⟨q, 1, none⟩ = false := by
  simp [World.cell?, World.frozen?, h]

/-- A region that draws its order, all but its last operations being still: the draw under its own name. -/
theorem still_drew {P : Program} {id : Nat} {Q : Exit → Act → World → Prop} {a : Act} {w : World} {l : List Oper} (n : Nat) (hm : P.follows .mixedOrders = true) (hB : Region.lexTailB .any l.toArray n = true)
    (h : wpStill P l.toArray w.drew (fun a' => wpList P l.toArray Q (l.drop n) a' w.drew) (l.take n) a) : (Code.region id l.toArray true).wp P Q a w := wp_region_still_tail n hm hB h
theorem ret_bool {a b : Bool} (h : a = b) : Ending.returned (.bool a) = .returned (.bool b) := by rw [h]
theorem ret_int {a b : Int} (h : a = b) : Ending.returned (.int .i64 a) = .returned (.int .i64 b) := by rw [h]
theorem own_keep {w w' : World} {base e size n : Nat} {v : Value} {xs : List Value} (h : w.ownsRow base e size v n xs) (hk : ∀ k, base ≤ k → k < w.heap.size → w'.heap[k]? = w.heap[k]?) : w'.ownsRow base e size v n xs := by
  refine ⟨h.1, ?_⟩
  rcases h.2 with h2 | ⟨g, cap, cur, hv, hg, hh, r⟩
  · exact .inl h2
  · exact .inr ⟨g, cap, cur, hv, hg, (hk g hg (Array.getElem?_eq_some_iff.1 hh).1).trans hh, r⟩
theorem own_below {w w' : World} {base e size n : Nat} {v : Value} {xs : List Value} (h : w.ownsRow base e size v n xs) (hb : Below w.heap.size w w') : w'.ownsRow base e size v n xs :=
  own_keep h fun k _ hk => hb.block k hk
theorem ownsRow_block {w : World} {base e size g n : Nat} {xs : List Value} (h : w.ownsRow base e size (.slice (some ⟨g, 0, none⟩) n n) n xs) : w.heap[g]? = some (.cells xs.toArray e (0, 0)) := by
  obtain ⟨_, h2⟩ := h
  rcases h2 with ⟨h0, _⟩ | ⟨g', cap, cur, hv, _, hh, _, _, hs, ht⟩
  · cases h0
  · cases hv
    rw [hh]
    congr 2
    rw [← ht, ← hs, ← Array.length_toList, List.take_length]
theorem Tryz.info139 : (Tryz.prog.info? 139).map (fun i => (i.zero, i.size, i.bytes)) = some (some (.int .u64 0), 1, 8) := by kernel_rfl
/-- A text. -/
abbrev str (l : List UInt8) : Value := .string ⟨l.toArray⟩

end Go.Proofs.YtpbipngnoklmcaaGreatDoor
namespace Go.Proofs.YtpbipngnoklmcaaGreatDoor
open Go.RowKit

theorem str_size (l : List UInt8) : (ByteArray.mk l.toArray).size = l.length := by show l.toArray.size = _; simp
theorem str_toList (l : List UInt8) : (ByteArray.mk l.toArray).toList = l := by rw [Lib.toList_data]
theorem str_get (l : List UInt8) (i : Nat) (h : i < (ByteArray.mk l.toArray).size) : (ByteArray.mk l.toArray)[i]'h = l[i]?.getD 0 := by
  have hl : i < l.length := by rw [← str_size]; exact h
  simp only [List.getElem?_eq_getElem hl, Option.getD_some]
  rfl
theorem str_add {P : Program} {w : World} (x y : List UInt8) (h : x.length + y.length ≤ 9223372036854775807) : (Op.stringOp .add (ByteArray.mk x.toArray) (ByteArray.mk y.toArray)).run P w = .ok (.string ⟨(x ++ y).toArray⟩) w := by
  rw [run_string_add_sum w _ _ (by rw [str_size, str_size]; exact h), ByteArray.mk_append_mk]

def TabW (w : World) : Prop := Lib.TabIs Tryz.prog w "internal/strconv.uint64pow10" .u64 Lib.pow10Tab
theorem TabW.mono {w w' : World} (h : TabW w) (hb : Below w.heap.size w w') : TabW w' := by
  unfold TabW Lib.TabIs World.var? at h ⊢
  cases hg : Tryz.prog.globalNamed "internal/strconv.uint64pow10" with
  | none => simp [hg] at h
  | some g =>
    simp only [hg, Option.bind_some] at h ⊢
    have hlt : g < w.heap.size := by
      rcases Nat.lt_or_ge g w.heap.size with h' | h'
      · exact h'
      · simp [Array.getElem?_eq_none h'] at h
    rw [hb.block g hlt]
    exact h

end Go.Proofs.YtpbipngnoklmcaaGreatDoor
