/- Plain: sets of nodes as a number's bits, eight words of 64; the list of a set's nodes. No program in sight. -/
import Derived.Lib.TrailingZeros
namespace Go.Proofs.YtnjbdedmalpccaaDoor

/-- Word j of a set. -/
def wd (S j : Nat) : Nat := (S >>> (64 * j)) % 2 ^ 64

theorem wd_lt (S j : Nat) : wd S j < 2 ^ 64 := Nat.mod_lt _ (by decide)
theorem wd_bit (S j k : Nat) (hk : k < 64) : (wd S j).testBit k = S.testBit (64 * j + k) := by
  unfold wd; rw [Nat.testBit_mod_two_pow, Nat.testBit_shiftRight]; simp [hk]
theorem wd_bit_ge (S j k : Nat) (hk : 64 ≤ k) : (wd S j).testBit k = false :=
  Nat.testBit_lt_two_pow (Nat.lt_of_lt_of_le (wd_lt S j) (Nat.pow_le_pow_right (by decide) hk))
theorem wd_or (S T j : Nat) : wd (S ||| T) j = wd S j ||| wd T j := by
  apply Nat.eq_of_testBit_eq
  intro k
  rw [Nat.testBit_or]
  by_cases hk : k < 64
  · rw [wd_bit _ _ _ hk, wd_bit _ _ _ hk, wd_bit _ _ _ hk, Nat.testBit_or]
  · rw [wd_bit_ge _ _ _ (by omega), wd_bit_ge _ _ _ (by omega), wd_bit_ge _ _ _ (by omega)]; rfl
theorem wd_put (S i j : Nat) : wd (S ||| 2 ^ i) j = if j = i / 64 then wd S j ||| 2 ^ (i % 64) else wd S j := by
  apply Nat.eq_of_testBit_eq
  intro k
  by_cases hk : k < 64
  · rw [wd_bit _ _ _ hk, Nat.testBit_or, Nat.testBit_two_pow]
    by_cases e : j = i / 64
    · rw [if_pos e, Nat.testBit_or, wd_bit _ _ _ hk, Nat.testBit_two_pow]
      congr 1
      apply decide_eq_decide.2
      omega
    · rw [if_neg e, wd_bit _ _ _ hk]
      have : ¬ i = 64 * j + k := by omega
      simp [this]
  · rw [wd_bit_ge _ _ _ (by omega)]
    by_cases e : j = i / 64
    · rw [if_pos e, Nat.testBit_or, wd_bit_ge _ _ _ (by omega), Nat.testBit_two_pow]
      have : ¬ i % 64 = k := by omega
      simp [this]
    · rw [if_neg e, wd_bit_ge _ _ _ (by omega)]
theorem wd_zero (j : Nat) : wd 0 j = 0 := by simp [wd]

/-- The bits of a word, rising. -/
def bitsOf (x : Nat) : List Nat := (List.range 64).filter fun k => x.testBit k
/-- The nodes of a set, rising, below m. -/
def below (S m : Nat) : List Nat := (List.range m).filter fun k => S.testBit k

theorem below_zero (S : Nat) : below S 0 = [] := by simp [below]
theorem below_word (S i : Nat) : below S (64 * (i + 1)) = below S (64 * i) ++ (bitsOf (wd S i)).map (64 * i + ·) := by
  unfold below bitsOf
  rw [Nat.mul_add, Nat.mul_one, List.range_add, List.filter_append, List.filter_map]
  congr 2
  apply List.filter_congr
  intro k hk
  simp only [List.mem_range] at hk
  simp [wd_bit _ _ _ hk]

/-- The least that a test finds, ahead of the others. -/
theorem filter_least (p : Nat → Bool) (n t : Nat) (ht : t < n) (hp : p t = true) (hl : ∀ j, j < t → p j = false) :
    (List.range n).filter p = t :: (List.range n).filter (fun j => p j && decide (j ≠ t)) := by
  obtain ⟨d, rfl⟩ : ∃ d, n = t + (1 + d) := ⟨n - t - 1, by omega⟩
  rw [List.range_add, List.range_add]
  simp only [List.filter_append, List.map_append, List.filter_map]
  have h1 : (List.range t).filter p = [] := by
    rw [List.filter_eq_nil_iff]; intro j hj; simp only [List.mem_range] at hj; simp [hl j hj]
  have h2 : (List.range t).filter (fun j => p j && decide (j ≠ t)) = [] := by
    rw [List.filter_eq_nil_iff]; intro j hj; simp only [List.mem_range] at hj; simp [hl j hj]
  rw [h1, h2]
  have h3 : List.range 1 = [0] := rfl
  rw [h3]
  simp only [List.nil_append, List.filter_cons, List.filter_nil, Function.comp, Nat.add_zero, hp, if_true, List.map_cons, List.map_nil, ne_eq, not_true_eq_false, decide_false, Bool.and_false, Bool.false_eq_true, if_false, List.cons_append]
  congr 2
  apply congrArg
  apply List.filter_congr
  intro k _
  simp

theorem low_bit (x : Nat) (h0 : x ≠ 0) (hx : x < 2 ^ 64) :
    Lib.ctz 64 x < 64 ∧ x.testBit (Lib.ctz 64 x) = true ∧ (∀ j, j < Lib.ctz 64 x → x.testBit j = false) ∧ ∀ j, (x &&& (x - 1)).testBit j = (x.testBit j && decide (j ≠ Lib.ctz 64 x)) := by
  obtain ⟨m, hm, hk⟩ := Lib.ctzFrom_spec 64 x (by omega) hx
  have e : Lib.ctz 64 x = Lib.ctzFrom 64 x := by simp [Lib.ctz, h0]
  rw [e]
  generalize Lib.ctzFrom 64 x = t at hm hk ⊢
  subst hm
  have hb : ∀ j, (2 ^ t * (2 * m + 1)).testBit j = (decide (t ≤ j) && (2 * m + 1).testBit (j - t)) := fun j => by
    rw [Nat.mul_comm, Nat.testBit_mul_two_pow]
  have hsub : 2 ^ t * (2 * m + 1) - 1 = 2 ^ t * (2 * m) + (2 ^ t - 1) := by
    have : 0 < 2 ^ t := Nat.pow_pos (by decide)
    rw [Nat.mul_add, Nat.mul_one]; omega
  have hb' : ∀ j, (2 ^ t * (2 * m + 1) - 1).testBit j = if j < t then true else (2 * m).testBit (j - t) := fun j => by
    rw [hsub]
    have hlt : 2 ^ t - 1 < 2 ^ t := Nat.sub_lt (Nat.pow_pos (by decide)) (by decide)
    rw [Nat.testBit_two_pow_mul_add _ hlt]
    split
    · rename_i h; simp [Nat.testBit_two_pow_sub_one, h]
    · rfl
  refine ⟨hk, by rw [hb]; simp, fun j hj => by rw [hb]; simp; omega, fun j => ?_⟩
  rw [Nat.testBit_and, hb, hb']
  by_cases h1 : j < t
  · have : ¬ t ≤ j := by omega
    simp [h1, this]
  · by_cases h2 : j = t
    · subst h2; simp
    · obtain ⟨d, rfl⟩ : ∃ d, j = t + (d + 1) := ⟨j - t - 1, by omega⟩
      have e1 : t + (d + 1) - t = d + 1 := by omega
      have e2 : (2 * m + 1) / 2 = m := by omega
      have e3 : 2 * m / 2 = m := by omega
      rw [if_neg h1, e1, Nat.testBit_succ, Nat.testBit_succ, e2, e3]
      simp

theorem bitsOf_zero : bitsOf 0 = [] := by simp [bitsOf]
theorem bitsOf_step (x : Nat) (h0 : x ≠ 0) (hx : x < 2 ^ 64) : bitsOf x = Lib.ctz 64 x :: bitsOf (x &&& (x - 1)) := by
  obtain ⟨h1, h2, h3, h4⟩ := low_bit x h0 hx
  unfold bitsOf
  rw [filter_least _ 64 _ h1 h2 h3]
  congr 1
  apply List.filter_congr
  intro k _
  rw [h4]
theorem and_pred_lt (x : Nat) (h0 : x ≠ 0) : x &&& (x - 1) < x := Nat.lt_of_le_of_lt (Nat.and_le_right) (by omega)
theorem below_len (S m : Nat) : (below S m).length ≤ m := by
  have := List.length_filter_le (fun k => S.testBit k) (List.range m)
  simpa [below] using this

/-- A set's nodes. -/
def nodes (S : Nat) : List Nat := below S 512
theorem mem_nodes (S k : Nat) : k ∈ nodes S ↔ k < 512 ∧ S.testBit k = true := by simp [nodes, below]

end Go.Proofs.YtnjbdedmalpccaaDoor
