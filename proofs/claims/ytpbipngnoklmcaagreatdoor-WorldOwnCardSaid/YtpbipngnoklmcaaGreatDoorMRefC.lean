/- The walks of the document's sum, turned number and comparing, in terms of whole numbers. The walk of the document's Digits. -/
import Derived.Test.YtpbipngnoklmcaaGreatDoorMRefS
import Derived.Test.YtpbipngnoklmcaaGreatDoorMNumP
import Derived.Test.YtpbipngnoklmcaaGreatDoorMValK
import Derived.Test.YtpbipngnoklmcaaGreatDoorMWldM
import Derived.Test.YtpbipngnoklmcaaGreatDoorMLimbP
import Derived.Lib.SmallJoins
namespace Go.Proofs.YtpbipngnoklmcaaGreatDoor
open Go.RowKit
set_option maxRecDepth 100000
attribute [local go_sem] str_size str_toList str_get

/-- So many digits has a number. -/
abbrev dl (n : Int) : Nat := (Lib.decDigits n.natAbs).length
theorem dec_len_iff {u k : Nat} (hk : 1 ≤ k) : (Lib.decDigits u).length ≤ k ↔ u < 10 ^ k := by rw [Lib.decDigits_length]; exact nDigits_le hk
theorem dec_len_add {x y k : Nat} (hk : 1 ≤ k) (hx : (Lib.decDigits x).length ≤ k) (hy : (Lib.decDigits y).length ≤ k) : (Lib.decDigits (x + y)).length ≤ k + 1 := by
  rw [dec_len_iff hk] at hx hy
  rw [dec_len_iff (by omega), Nat.pow_succ]
  omega
theorem itoa_ne (n : Int) : Lib.itoa n ≠ [] := by
  by_cases h : n < 0
  · rw [itoa_neg h]; simp
  · rw [itoa_pos h]; exact dec_ne_nil _

theorem below_num (n : Int) (w : World) : Calls Tryz.prog 100 #[str (Lib.itoa n)] w fun e w' => e = .returned (.bool (decide (n < 0))) ∧ w' = w := by
  rw [← belowS_itoa]
  have := itoa_ne n
  cases h : Lib.itoa n with
  | nil => exact absurd h this
  | cons c l => exact below_ref c l w
theorem size_num (n : Int) (w : World) : Calls Tryz.prog 129 #[str (Lib.itoa n)] w fun e w' => e = .returned (str (Lib.decDigits n.natAbs)) ∧ w' = w := by
  rw [← sizeS_itoa]
  have := itoa_ne n
  cases h : Lib.itoa n with
  | nil => exact absurd h this
  | cons c l => exact size_ref c l w
theorem signed_num (b : Bool) (u : Nat) (z : Int) (hz : z = if b = true then -(u : Int) else u) (hl : (Lib.decDigits u).length ≤ 10000) (w : World) : Calls Tryz.prog 76 #[.bool b, str (Lib.decDigits u)] w fun e w' => e = .returned (str (Lib.itoa z)) ∧ w' = w := by
  rw [hz, ← signed_dec]
  exact signed_ref b _ hl w
theorem turned_num (n : Int) (hl : dl n ≤ 1000) (w : World) : Calls Tryz.prog 118 #[str (Lib.itoa n)] w fun e w' => e = .returned (str (Lib.itoa (-n))) ∧ w' = w := by
  have BN := below_num n w
  have SN := size_num n w
  have SG := signed_num (!decide (n < 0)) n.natAbs (-n) (by by_cases h : n < 0 <;> simp [h] <;> omega) (by unfold dl at hl; omega) w
  generalize Lib.itoa (-n) = R at SG ⊢
  generalize Lib.itoa n = a at BN SN ⊢
  generalize Lib.decDigits n.natAbs = s at SN SG
  generalize decide (n < 0) = b at BN SG
  clear hl
  go_enter Tryz.func118, Tryz.ntmps118
  go_wp2_with fail
  refine BN.mono ?_
  rintro e w' ⟨rfl, rfl⟩
  go_wp2_with fail
  refine SN.mono ?_
  rintro e w' ⟨rfl, rfl⟩
  go_wp2_with fail
  refine SG.mono ?_
  rintro e w' ⟨rfl, rfl⟩
  go_wp2
  go_ret
  exact ⟨rfl, rfl⟩

set_option maxHeartbeats 4000000 in
theorem plus_num (m n : Int) (hm : dl m ≤ 1000) (hn : dl n ≤ 1000) (w : World) : Calls Tryz.prog 117 #[str (Lib.itoa m), str (Lib.itoa n)] w fun e w' => e = .returned (str (Lib.itoa (m + n))) ∧ Below w.heap.size w w' := by
  have BM := below_num m
  have BN := below_num n
  have SM := size_num m
  have SN := size_num n
  have PL := fun w => plus_ref (Lib.decDigits m.natAbs) (Lib.decDigits n.natAbs) (allD_dec _) (allD_dec _) (dec_ne_nil _) (Nat.le_trans hm (by decide)) (Nat.le_trans hn (by decide)) w
  have LE := less_ref (Lib.decDigits m.natAbs) (Lib.decDigits n.natAbs)
  rw [lessS_dec] at LE
  have M1 := fun (h : n.natAbs ≤ m.natAbs) w => minus_ref (Lib.decDigits m.natAbs) (Lib.decDigits n.natAbs) (allD_dec _) (allD_dec _) (dec_ne_nil _) (Nat.le_trans hm (by decide)) (dec_len_le h) (by rw [valD_dec, valD_dec]; exact h) w
  have M2 := fun (h : m.natAbs ≤ n.natAbs) w => minus_ref (Lib.decDigits n.natAbs) (Lib.decDigits m.natAbs) (allD_dec _) (allD_dec _) (dec_ne_nil _) (Nat.le_trans hn (by decide)) (dec_len_le h) (by rw [valD_dec, valD_dec]; exact h) w
  simp only [valD_dec] at PL M1 M2
  by_cases hs : decide (m < 0) = decide (n < 0)
  · have SG := signed_num (decide (m < 0)) (m.natAbs + n.natAbs) (m + n) (by by_cases h : m < 0 <;> simp [h] at hs ⊢ <;> omega) (Nat.le_trans (dec_len_add (k := 1000) (by decide) hm hn) (by decide))
    rw [← hs] at BN
    generalize Lib.itoa (m + n) = R at SG ⊢
    generalize Lib.itoa n = b at BN SN ⊢
    generalize Lib.itoa m = a at BM SM ⊢
    generalize Lib.decDigits (m.natAbs + n.natAbs) = u at PL SG
    generalize Lib.decDigits n.natAbs = y at PL SN
    generalize Lib.decDigits m.natAbs = x at PL SM
    generalize decide (m < 0) = q at BM BN SG
    clear hs M1 M2 LE hm hn
    go_enter Tryz.func117, Tryz.ntmps117
    go_wp2_with (first
      | (go_at_call 100; refine (BM _).mono ?_; rintro e w' ⟨rfl, rfl⟩)
      | (go_at_call 100; refine (BN _).mono ?_; rintro e w' ⟨rfl, rfl⟩)
      | (go_at_call 129; refine (SM _).mono ?_; rintro e w' ⟨rfl, rfl⟩)
      | (go_at_call 129; refine (SN _).mono ?_; rintro e w' ⟨rfl, rfl⟩)
      | (go_at_call 128; refine (PL _).mono ?_; rintro e w1 ⟨rfl, hb1⟩)
      | (go_at_call 76; refine (SG _).mono ?_; rintro e w' ⟨rfl, rfl⟩))
    go_ret
    exact ⟨rfl, hb1⟩
  · by_cases hlt : m.natAbs < n.natAbs
    · have SG := signed_num (decide (n < 0)) (n.natAbs - m.natAbs) (m + n) (by by_cases h : m < 0 <;> by_cases h2 : n < 0 <;> simp [h, h2] at hs ⊢ <;> omega) (by
        have := dec_len_le (show n.natAbs - m.natAbs ≤ n.natAbs by omega)
        have h3 : dl n ≤ 1000 := by assumption
        unfold dl at h3
        omega)
      have MM := M2 (Nat.le_of_lt hlt)
      rw [decide_eq_true hlt] at LE
      have hne : (decide (m < 0) == decide (n < 0)) = false := by simpa using hs
      generalize Lib.itoa (m + n) = R at SG ⊢
      generalize Lib.itoa n = b at BN SN ⊢
      generalize Lib.itoa m = a at BM SM ⊢
      generalize Lib.decDigits (n.natAbs - m.natAbs) = u at MM SG
      generalize Lib.decDigits n.natAbs = y at MM SN LE
      generalize Lib.decDigits m.natAbs = x at MM SM LE
      generalize decide (m < 0) = q at BM hne
      generalize decide (n < 0) = q' at BN hne SG
      clear hs M1 M2 PL hm hn hlt
      go_enter Tryz.func117, Tryz.ntmps117
      go_wp2_with (first
        | (go_at_call 100; refine (BM _).mono ?_; rintro e w' ⟨rfl, rfl⟩)
        | (go_at_call 100; refine (BN _).mono ?_; rintro e w' ⟨rfl, rfl⟩)
        | (go_at_call 129; refine (SM _).mono ?_; rintro e w' ⟨rfl, rfl⟩)
        | (go_at_call 129; refine (SN _).mono ?_; rintro e w' ⟨rfl, rfl⟩)
        | (go_at_call 130; refine (LE _).mono ?_; rintro e w' ⟨rfl, rfl⟩)
        | (go_at_call 131; refine (MM _).mono ?_; rintro e w1 ⟨rfl, hb1⟩)
        | (go_at_call 76; refine (SG _).mono ?_; rintro e w' ⟨rfl, rfl⟩))
      go_ret
      exact ⟨rfl, hb1⟩
    · have SG := signed_num (decide (m < 0)) (m.natAbs - n.natAbs) (m + n) (by by_cases h : m < 0 <;> by_cases h2 : n < 0 <;> simp [h, h2] at hs ⊢ <;> omega) (by
        have := dec_len_le (show m.natAbs - n.natAbs ≤ m.natAbs by omega)
        have h3 : dl m ≤ 1000 := by assumption
        unfold dl at h3
        omega)
      have MM := M1 (Nat.le_of_not_lt hlt)
      rw [decide_eq_false hlt] at LE
      have hne : (decide (m < 0) == decide (n < 0)) = false := by simpa using hs
      generalize Lib.itoa (m + n) = R at SG ⊢
      generalize Lib.itoa n = b at BN SN ⊢
      generalize Lib.itoa m = a at BM SM ⊢
      generalize Lib.decDigits (m.natAbs - n.natAbs) = u at MM SG
      generalize Lib.decDigits n.natAbs = y at MM SN LE
      generalize Lib.decDigits m.natAbs = x at MM SM LE
      generalize decide (m < 0) = q at BM hne SG
      generalize decide (n < 0) = q' at BN hne
      clear hs M1 M2 PL hm hn hlt
      go_enter Tryz.func117, Tryz.ntmps117
      go_wp2_with (first
        | (go_at_call 100; refine (BM _).mono ?_; rintro e w' ⟨rfl, rfl⟩)
        | (go_at_call 100; refine (BN _).mono ?_; rintro e w' ⟨rfl, rfl⟩)
        | (go_at_call 129; refine (SM _).mono ?_; rintro e w' ⟨rfl, rfl⟩)
        | (go_at_call 129; refine (SN _).mono ?_; rintro e w' ⟨rfl, rfl⟩)
        | (go_at_call 130; refine (LE _).mono ?_; rintro e w' ⟨rfl, rfl⟩)
        | (go_at_call 131; refine (MM _).mono ?_; rintro e w1 ⟨rfl, hb1⟩)
        | (go_at_call 76; refine (SG _).mono ?_; rintro e w' ⟨rfl, rfl⟩))
      go_ret
      exact ⟨rfl, hb1⟩

theorem cmp_num (m n : Int) (hm : dl m ≤ 1000) (hn : dl n ≤ 1000) (w : World) : Calls Tryz.prog 99 #[str (Lib.itoa m), str (Lib.itoa n)] w fun e w' => e = .returned (.int .i64 (sgn (m - n))) ∧ Below w.heap.size w w' := by
  have TN := turned_num n hn w
  have PL := plus_num m (-n) hm (by unfold dl; rw [Int.natAbs_neg]; exact hn) w
  rw [← Int.sub_eq_add_neg] at PL
  have BL := below_num (m - n)
  have h0 : (Lib.itoa (m - n) == [48]) = decide (m - n = 0) := by
    rw [Bool.eq_iff_iff, beq_iff_eq, decide_eq_true_eq, ← itoa_zero]
    exact ⟨itoa_inj, fun h => by rw [h]⟩
  obtain ⟨z, hz⟩ : ∃ z, z = m - n := ⟨_, rfl⟩
  rw [← hz] at PL BL h0 ⊢
  generalize Lib.itoa (-n) = t at TN PL
  generalize Lib.itoa n = b at TN ⊢
  generalize Lib.itoa m = a at PL ⊢
  generalize Lib.itoa z = r at PL BL h0
  clear hz hm hn
  rcases Int.lt_trichotomy z 0 with h | h | h
  · have hs : sgn z = -1 := by unfold sgn; rw [if_pos h]
    have h0' : (r == [48]) = false := by rw [h0, decide_eq_false_iff_not]; omega
    rw [decide_eq_true h] at BL
    rw [hs]
    clear h0 hs
    go_enter Tryz.func99, Tryz.ntmps99
    go_wp2_with (first
      | (go_at_call 118; refine TN.mono ?_; rintro e w' ⟨rfl, rfl⟩)
      | (go_at_call 117; refine PL.mono ?_; rintro e w1 ⟨rfl, hb1⟩)
      | (go_at_call 100; refine (BL _).mono ?_; rintro e w' ⟨rfl, rfl⟩))
    go_ret
    exact ⟨rfl, hb1⟩
  · have hs : sgn z = 0 := by rw [h]; rfl
    have h0' : (r == [48]) = true := by rw [h0, decide_eq_true h]
    rw [hs]
    clear h0 hs
    go_enter Tryz.func99, Tryz.ntmps99
    go_wp2_with (first
      | (go_at_call 118; refine TN.mono ?_; rintro e w' ⟨rfl, rfl⟩)
      | (go_at_call 117; refine PL.mono ?_; rintro e w1 ⟨rfl, hb1⟩)
      | (go_at_call 100; refine (BL _).mono ?_; rintro e w' ⟨rfl, rfl⟩))
    go_ret
    exact ⟨rfl, hb1⟩
  · have hs : sgn z = 1 := by unfold sgn; rw [if_neg (by omega), if_neg (by omega)]
    have h0' : (r == [48]) = false := by rw [h0, decide_eq_false_iff_not]; omega
    rw [decide_eq_false (show ¬ z < 0 by omega)] at BL
    rw [hs]
    clear h0 hs
    go_enter Tryz.func99, Tryz.ntmps99
    go_wp2_with (first
      | (go_at_call 118; refine TN.mono ?_; rintro e w' ⟨rfl, rfl⟩)
      | (go_at_call 117; refine PL.mono ?_; rintro e w1 ⟨rfl, hb1⟩)
      | (go_at_call 100; refine (BL _).mono ?_; rintro e w' ⟨rfl, rfl⟩))
    go_ret
    exact ⟨rfl, hb1⟩

end Go.Proofs.YtpbipngnoklmcaaGreatDoor
namespace Go.Proofs.YtpbipngnoklmcaaGreatDoor
open Go.RowKit
set_option maxRecDepth 100000
attribute [local go_sem] str_size str_toList str_get

set_option maxHeartbeats 1600000 in
theorem digits_ref (n : Int) (h0 : -9223372036854775808 ≤ n) (h1 : n ≤ 9223372036854775807) (w : World) : Calls Tryz.prog 57 #[.int .i64 n] w fun e w' => e = .returned (str (Lib.itoa n)) ∧ Below w.heap.size w w' := by
  by_cases hn : n = 0
  · subst hn
    have hz : str (Lib.itoa 0) = .string ⟨#[48]⟩ := by rw [itoa_zero]
    rw [hz]
    clear hz
    go_enter Tryz.func57, Tryz.ntmps57
    go_wp2
    go_ret
    exact ⟨rfl, Below.refl _ _⟩
  · have hlen : (Lib.decDigits n.natAbs).length ≤ 20 := (dec_len_iff (by decide)).2 (by
      have : n.natAbs ≤ 9223372036854775808 := by omega
      exact Nat.lt_of_le_of_lt this (by decide))
    have SG := fun W => signed_num (decide (n < 0)) n.natAbs n (by by_cases h : n < 0 <;> simp [h] <;> omega) (by omega) W
    obtain ⟨R, hR⟩ : ∃ R, Lib.itoa n = R := ⟨_, rfl⟩
    obtain ⟨D, hD⟩ : ∃ D, Lib.decDigits n.natAbs = D := ⟨_, rfl⟩
    rw [hR, hD] at SG
    rw [hR]
    have HD := Lib.hid hD
    have hDl : D.length ≤ 20 := by rw [← hD]; exact hlen
    clear hR hD hlen
    have hn0 : (n == 0) = false := by simpa using hn
    go_enter Tryz.func57, Tryz.ntmps57
    go_wp2
    go_loopg [3, 4] n.natAbs (fun g v3 v4 wr => ∃ (k : Int) (s : List UInt8), v4 = .int .i64 k ∧ v3 = str s ∧ k.natAbs ≤ g ∧ k.natAbs ≤ n.natAbs ∧ joinD k.natAbs s = D ∧ Below w.heap.size w wr)
    case atStart => exact ⟨n, [], rfl, rfl, Nat.le_refl _, Nat.le_refl _, by unfold joinD; rw [if_neg (by omega), HD.out, List.append_nil], Below.refl _ _⟩
    case round =>
      obtain ⟨k, s, rfl, rfl, hkg, hkn, hj, hbl⟩ := hrel
      by_cases hk : k = 0
      · subst hk
        obtain rfl : s = D := hj
        clear hkg hkn HD
        go_wp2_with fail
        refine (SG _).mono ?_
        rintro e w' ⟨rfl, hw'⟩
        rw [hw']
        clear hw' w'
        go_wp2
        go_ret
        exact ⟨rfl, hbl⟩
      · have hk0 : (k == 0) = false := by simpa using hk
        obtain ⟨g, rfl⟩ : ∃ g', gk = g' + 1 := ⟨gk - 1, by omega⟩
        obtain ⟨u, hu⟩ : ∃ u, k.natAbs = u := ⟨_, rfl⟩
        rw [hu] at hj hkg hkn
        have hst := joinD_step (u := u) (by omega) s
        rw [hj] at hst
        have hsl : s.length ≤ D.length := by rw [← hj]; exact joinD_len u s
        obtain ⟨r, hr⟩ : ∃ r, u % 10 = r := ⟨_, rfl⟩
        obtain ⟨q, hq⟩ : ∃ q : Int, k.tdiv 10 = q := ⟨_, rfl⟩
        obtain ⟨m, hm⟩ : ∃ m : Int, k.tmod 10 = m := ⟨_, rfl⟩
        have hrb : r < 10 := by omega
        have hqu : q.natAbs = u / 10 := by rw [← hq, Int.natAbs_tdiv, hu]; rfl
        have hqm : q * 10 + m = k := by rw [← hq, ← hm]; exact tdiv_mul k 10
        have hmb : m.natAbs = r := by rw [← hm, Int.natAbs_tmod, hu, ← hr]; rfl
        rw [hr, ← hqu] at hst
        have HST := Lib.hid hst
        have hqg : q.natAbs ≤ g := by omega
        have hqn : q.natAbs ≤ n.natAbs := by omega
        have hmlo : -10 < m := by omega
        have hmhi : m < 10 := by omega
        have hklo : -9223372036854775808 ≤ k := by omega
        have hkhi : k ≤ 9223372036854775808 := by omega
        obtain ⟨ch, hch⟩ : ∃ ch, UInt8.ofNat (48 + r) = ch := ⟨_, rfl⟩
        have hcv := fun (W : World) => str_dig (w := W) r hrb (48 + (r : Int)) rfl
        rw [hch] at hcv HST
        have hqlo : -9223372036854775808 ≤ q := by omega
        have hqhi : q ≤ 922337203685477580 := by omega
        have hadd : ∀ W : World, (Op.stringOp .add (ByteArray.mk #[ch]) (ByteArray.mk s.toArray)).run Tryz.prog W = .ok (.string ⟨(ch :: s).toArray⟩) W := fun W => str_add [ch] s (by simp; omega)
        by_cases hm0 : m < 0
        · have hneg : -m = (r : Int) := by omega
          clear hst hj hr hch hmb hqm hqu hu hsl
          go_wp2
          go_roundg g
          case measure => omega
          case rel => exact ⟨q, ch :: s, by go_num, rfl, hqg, hqn, HST.out, hbl.alloc hbl.size _⟩
        · obtain rfl : m = (r : Int) := by omega
          clear hst hj hr hch hmb hqm hqu hu hsl
          go_wp2
          go_roundg g
          case measure => omega
          case rel => exact ⟨q, ch :: s, by go_num, rfl, hqg, hqn, HST.out, hbl.alloc hbl.size _⟩

end Go.Proofs.YtpbipngnoklmcaaGreatDoor
