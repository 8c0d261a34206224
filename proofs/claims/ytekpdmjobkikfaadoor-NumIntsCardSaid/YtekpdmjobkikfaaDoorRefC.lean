/- The walks of the document's sum, turned number and comparing, in terms of whole numbers. -/
import Derived.Test.YtekpdmjobkikfaaDoorRefB
import Derived.Test.YtekpdmjobkikfaaDoorNumP
namespace Go.Proofs.YtekpdmjobkikfaaDoor
open Go.RowKit
set_option maxRecDepth 100000
attribute [local go_sem] str_size str_toList str_get

/-- So many digits has a number. -/
abbrev dl (n : Int) : Nat := (Lib.decDigits n.natAbs).length
theorem dec_len_iff {u k : Nat} (hk : 1 ≤ k) : (Lib.decDigits u).length ≤ k ↔ u < 10 ^ k := by rw [Lib.decDigits_length]; exact nDigits_le hk
theorem dec_len_add {x y k : Nat} (hk : 1 ≤ k) (hx : (Lib.decDigits x).length ≤ k) (hy : (Lib.decDigits y).length ≤ k) : (Lib.decDigits (x + y)).length ≤ k + 1 := by
  rw [dec_len_iff hk] at hx hy
  rw [dec_len_iff (by omega), Nat.pow_succ]
  omega
theorem itoa_ne (n : Int) : Lib.itoa n ≠ [] := by
  by_cases h : n < 0
  · rw [itoa_neg h]; simp
  · rw [itoa_pos h]; exact dec_ne_nil _

theorem below_num (n : Int) (w : World) : Calls Tryd.prog 39 #[str (Lib.itoa n)] w fun e w' => e = .returned (.bool (decide (n < 0))) ∧ w' = w := by
  rw [← belowS_itoa]
  have := itoa_ne n
  cases h : Lib.itoa n with
  | nil => exact absurd h this
  | cons c l => exact below_ref c l w
theorem size_num (n : Int) (w : World) : Calls Tryd.prog 38 #[str (Lib.itoa n)] w fun e w' => e = .returned (str (Lib.decDigits n.natAbs)) ∧ w' = w := by
  rw [← sizeS_itoa]
  have := itoa_ne n
  cases h : Lib.itoa n with
  | nil => exact absurd h this
  | cons c l => exact size_ref c l w
theorem signed_num (b : Bool) (u : Nat) (z : Int) (hz : z = if b = true then -(u : Int) else u) (hl : (Lib.decDigits u).length ≤ 10000) (w : World) : Calls Tryd.prog 40 #[.bool b, str (Lib.decDigits u)] w fun e w' => e = .returned (str (Lib.itoa z)) ∧ w' = w := by
  rw [hz, ← signed_dec]
  exact signed_ref b _ hl w
theorem turned_num (n : Int) (hl : dl n ≤ 1000) (w : World) : Calls Tryd.prog 20 #[str (Lib.itoa n)] w fun e w' => e = .returned (str (Lib.itoa (-n))) ∧ w' = w := by
  have BN := below_num n w
  have SN := size_num n w
  have SG := signed_num (!decide (n < 0)) n.natAbs (-n) (by by_cases h : n < 0 <;> simp [h] <;> omega) (by unfold dl at hl; omega) w
  generalize Lib.itoa (-n) = R at SG ⊢
  generalize Lib.itoa n = a at BN SN ⊢
  generalize Lib.decDigits n.natAbs = s at SN SG
  generalize decide (n < 0) = b at BN SG
  clear hl
  go_enter Tryd.func20, Tryd.ntmps20
  go_wp2_with fail
  refine BN.mono ?_
  rintro e w' ⟨rfl, rfl⟩
  go_wp2_with fail
  refine SN.mono ?_
  rintro e w' ⟨rfl, rfl⟩
  go_wp2_with fail
  refine SG.mono ?_
  rintro e w' ⟨rfl, rfl⟩
  go_wp2
  go_ret
  exact ⟨rfl, rfl⟩

set_option maxHeartbeats 4000000 in
theorem plus_num (m n : Int) (hm : dl m ≤ 1000) (hn : dl n ≤ 1000) (w : World) : Calls Tryd.prog 19 #[str (Lib.itoa m), str (Lib.itoa n)] w fun e w' => e = .returned (str (Lib.itoa (m + n))) ∧ Below w.heap.size w w' := by
  have BM := below_num m
  have BN := below_num n
  have SM := size_num m
  have SN := size_num n
  have PL := fun w => plus_ref (Lib.decDigits m.natAbs) (Lib.decDigits n.natAbs) (allD_dec _) (allD_dec _) (dec_ne_nil _) (Nat.le_trans hm (by decide)) (Nat.le_trans hn (by decide)) w
  have LE := less_ref (Lib.decDigits m.natAbs) (Lib.decDigits n.natAbs)
  rw [lessS_dec] at LE
  have M1 := fun (h : n.natAbs ≤ m.natAbs) w => minus_ref (Lib.decDigits m.natAbs) (Lib.decDigits n.natAbs) (allD_dec _) (allD_dec _) (dec_ne_nil _) (Nat.le_trans hm (by decide)) (dec_len_le h) (by rw [valD_dec, valD_dec]; exact h) w
  have M2 := fun (h : m.natAbs ≤ n.natAbs) w => minus_ref (Lib.decDigits n.natAbs) (Lib.decDigits m.natAbs) (allD_dec _) (allD_dec _) (dec_ne_nil _) (Nat.le_trans hn (by decide)) (dec_len_le h) (by rw [valD_dec, valD_dec]; exact h) w
  simp only [valD_dec] at PL M1 M2
  by_cases hs : decide (m < 0) = decide (n < 0)
  · have SG := signed_num (decide (m < 0)) (m.natAbs + n.natAbs) (m + n) (by by_cases h : m < 0 <;> simp [h] at hs ⊢ <;> omega) (Nat.le_trans (dec_len_add (k := 1000) (by decide) hm hn) (by decide))
    rw [← hs] at BN
    generalize Lib.itoa (m + n) = R at SG ⊢
    generalize Lib.itoa n = b at BN SN ⊢
    generalize Lib.itoa m = a at BM SM ⊢
    generalize Lib.decDigits (m.natAbs + n.natAbs) = u at PL SG
    generalize Lib.decDigits n.natAbs = y at PL SN
    generalize Lib.decDigits m.natAbs = x at PL SM
    generalize decide (m < 0) = q at BM BN SG
    clear hs M1 M2 LE hm hn
    go_enter Tryd.func19, Tryd.ntmps19
    go_wp2_with (first
      | (go_at_call 39; refine (BM _).mono ?_; rintro e w' ⟨rfl, rfl⟩)
      | (go_at_call 39; refine (BN _).mono ?_; rintro e w' ⟨rfl, rfl⟩)
      | (go_at_call 38; refine (SM _).mono ?_; rintro e w' ⟨rfl, rfl⟩)
      | (go_at_call 38; refine (SN _).mono ?_; rintro e w' ⟨rfl, rfl⟩)
      | (go_at_call 41; refine (PL _).mono ?_; rintro e w1 ⟨rfl, hb1⟩)
      | (go_at_call 40; refine (SG _).mono ?_; rintro e w' ⟨rfl, rfl⟩))
    go_ret
    exact ⟨rfl, hb1⟩
  · by_cases hlt : m.natAbs < n.natAbs
    · have SG := signed_num (decide (n < 0)) (n.natAbs - m.natAbs) (m + n) (by by_cases h : m < 0 <;> by_cases h2 : n < 0 <;> simp [h, h2] at hs ⊢ <;> omega) (by
        have := dec_len_le (show n.natAbs - m.natAbs ≤ n.natAbs by omega)
        have h3 : dl n ≤ 1000 := by assumption
        unfold dl at h3
        omega)
      have MM := M2 (Nat.le_of_lt hlt)
      rw [decide_eq_true hlt] at LE
      have hne : (decide (m < 0) == decide (n < 0)) = false := by simpa using hs
      generalize Lib.itoa (m + n) = R at SG ⊢
      generalize Lib.itoa n = b at BN SN ⊢
      generalize Lib.itoa m = a at BM SM ⊢
      generalize Lib.decDigits (n.natAbs - m.natAbs) = u at MM SG
      generalize Lib.decDigits n.natAbs = y at MM SN LE
      generalize Lib.decDigits m.natAbs = x at MM SM LE
      generalize decide (m < 0) = q at BM hne
      generalize decide (n < 0) = q' at BN hne SG
      clear hs M1 M2 PL hm hn hlt
      go_enter Tryd.func19, Tryd.ntmps19
      go_wp2_with (first
        | (go_at_call 39; refine (BM _).mono ?_; rintro e w' ⟨rfl, rfl⟩)
        | (go_at_call 39; refine (BN _).mono ?_; rintro e w' ⟨rfl, rfl⟩)
        | (go_at_call 38; refine (SM _).mono ?_; rintro e w' ⟨rfl, rfl⟩)
        | (go_at_call 38; refine (SN _).mono ?_; rintro e w' ⟨rfl, rfl⟩)
        | (go_at_call 42; refine (LE _).mono ?_; rintro e w' ⟨rfl, rfl⟩)
        | (go_at_call 43; refine (MM _).mono ?_; rintro e w1 ⟨rfl, hb1⟩)
        | (go_at_call 40; refine (SG _).mono ?_; rintro e w' ⟨rfl, rfl⟩))
      go_ret
      exact ⟨rfl, hb1⟩
    · have SG := signed_num (decide (m < 0)) (m.natAbs - n.natAbs) (m + n) (by by_cases h : m < 0 <;> by_cases h2 : n < 0 <;> simp [h, h2] at hs ⊢ <;> omega) (by
        have := dec_len_le (show m.natAbs - n.natAbs ≤ m.natAbs by omega)
        have h3 : dl m ≤ 1000 := by assumption
        unfold dl at h3
        omega)
      have MM := M1 (Nat.le_of_not_lt hlt)
      rw [decide_eq_false hlt] at LE
      have hne : (decide (m < 0) == decide (n < 0)) = false := by simpa using hs
      generalize Lib.itoa (m + n) = R at SG ⊢
      generalize Lib.itoa n = b at BN SN ⊢
      generalize Lib.itoa m = a at BM SM ⊢
      generalize Lib.decDigits (m.natAbs - n.natAbs) = u at MM SG
      generalize Lib.decDigits n.natAbs = y at MM SN LE
      generalize Lib.decDigits m.natAbs = x at MM SM LE
      generalize decide (m < 0) = q at BM hne SG
      generalize decide (n < 0) = q' at BN hne
      clear hs M1 M2 PL hm hn hlt
      go_enter Tryd.func19, Tryd.ntmps19
      go_wp2_with (first
        | (go_at_call 39; refine (BM _).mono ?_; rintro e w' ⟨rfl, rfl⟩)
        | (go_at_call 39; refine (BN _).mono ?_; rintro e w' ⟨rfl, rfl⟩)
        | (go_at_call 38; refine (SM _).mono ?_; rintro e w' ⟨rfl, rfl⟩)
        | (go_at_call 38; refine (SN _).mono ?_; rintro e w' ⟨rfl, rfl⟩)
        | (go_at_call 42; refine (LE _).mono ?_; rintro e w' ⟨rfl, rfl⟩)
        | (go_at_call 43; refine (MM _).mono ?_; rintro e w1 ⟨rfl, hb1⟩)
        | (go_at_call 40; refine (SG _).mono ?_; rintro e w' ⟨rfl, rfl⟩))
      go_ret
      exact ⟨rfl, hb1⟩

theorem cmp_num (m n : Int) (hm : dl m ≤ 1000) (hn : dl n ≤ 1000) (w : World) : Calls Tryd.prog 23 #[str (Lib.itoa m), str (Lib.itoa n)] w fun e w' => e = .returned (.int .i64 (sgn (m - n))) ∧ Below w.heap.size w w' := by
  have TN := turned_num n hn w
  have PL := plus_num m (-n) hm (by unfold dl; rw [Int.natAbs_neg]; exact hn) w
  rw [← Int.sub_eq_add_neg] at PL
  have BL := below_num (m - n)
  have h0 : (Lib.itoa (m - n) == [48]) = decide (m - n = 0) := by
    rw [Bool.eq_iff_iff, beq_iff_eq, decide_eq_true_eq, ← itoa_zero]
    exact ⟨itoa_inj, fun h => by rw [h]⟩
  obtain ⟨z, hz⟩ : ∃ z, z = m - n := ⟨_, rfl⟩
  rw [← hz] at PL BL h0 ⊢
  generalize Lib.itoa (-n) = t at TN PL
  generalize Lib.itoa n = b at TN ⊢
  generalize Lib.itoa m = a at PL ⊢
  generalize Lib.itoa z = r at PL BL h0
  clear hz hm hn
  rcases Int.lt_trichotomy z 0 with h | h | h
  · have hs : sgn z = -1 := by unfold sgn; rw [if_pos h]
    have h0' : (r == [48]) = false := by rw [h0, decide_eq_false_iff_not]; omega
    rw [decide_eq_true h] at BL
    rw [hs]
    clear h0 hs
    go_enter Tryd.func23, Tryd.ntmps23
    go_wp2_with (first
      | (go_at_call 20; refine TN.mono ?_; rintro e w' ⟨rfl, rfl⟩)
      | (go_at_call 19; refine PL.mono ?_; rintro e w1 ⟨rfl, hb1⟩)
      | (go_at_call 39; refine (BL _).mono ?_; rintro e w' ⟨rfl, rfl⟩))
    go_ret
    exact ⟨rfl, hb1⟩
  · have hs : sgn z = 0 := by rw [h]; rfl
    have h0' : (r == [48]) = true := by rw [h0, decide_eq_true h]
    rw [hs]
    clear h0 hs
    go_enter Tryd.func23, Tryd.ntmps23
    go_wp2_with (first
      | (go_at_call 20; refine TN.mono ?_; rintro e w' ⟨rfl, rfl⟩)
      | (go_at_call 19; refine PL.mono ?_; rintro e w1 ⟨rfl, hb1⟩)
      | (go_at_call 39; refine (BL _).mono ?_; rintro e w' ⟨rfl, rfl⟩))
    go_ret
    exact ⟨rfl, hb1⟩
  · have hs : sgn z = 1 := by unfold sgn; rw [if_neg (by omega), if_neg (by omega)]
    have h0' : (r == [48]) = false := by rw [h0, decide_eq_false_iff_not]; omega
    rw [decide_eq_false (show ¬ z < 0 by omega)] at BL
    rw [hs]
    clear h0 hs
    go_enter Tryd.func23, Tryd.ntmps23
    go_wp2_with (first
      | (go_at_call 20; refine TN.mono ?_; rintro e w' ⟨rfl, rfl⟩)
      | (go_at_call 19; refine PL.mono ?_; rintro e w1 ⟨rfl, hb1⟩)
      | (go_at_call 39; refine (BL _).mono ?_; rintro e w' ⟨rfl, rfl⟩))
    go_ret
    exact ⟨rfl, hb1⟩

end Go.Proofs.YtekpdmjobkikfaaDoor
