/- The walk of the document's product. -/
import Derived.Test.YtekpdmjobkikfaaDoorRefC
namespace Go.Proofs.YtekpdmjobkikfaaDoor
open Go.RowKit
set_option maxRecDepth 100000
attribute [local go_sem] str_size str_toList str_get

theorem valD_take_succ {y : List UInt8} {i : Nat} (h : i < y.length) : valD (y.take (i + 1)) = 10 * valD (y.take i) + dv (y[i]?.getD 0) := by
  rw [List.take_succ_eq_append_getElem h, valD_snoc]
  simp [h]
theorem allD_at {y : List UInt8} (h : allD y = true) {i : Nat} (hi : i < y.length) : isD (y[i]?.getD 0) = true := by
  simp only [List.getElem?_eq_getElem hi, Option.getD_some]
  exact List.all_eq_true.1 h _ (List.getElem_mem hi)
theorem allD_take {y : List UInt8} (h : allD y = true) (i : Nat) : allD (y.take i) = true := by
  unfold allD at h ⊢
  rw [List.all_eq_true] at h ⊢
  exact fun c hc => h c (List.mem_of_mem_take hc)
theorem valD_take_lt {y : List UInt8} (h : allD y = true) (i : Nat) : valD (y.take i) < 10 ^ i := by
  refine Nat.lt_of_lt_of_le (valD_lt (allD_take h i)) (Nat.pow_le_pow_right (by decide) ?_)
  rw [List.length_take]
  omega
/-- How long a part of a product may be. -/
theorem part_len {P X i k : Nat} (hP : P < 10 ^ i) (hi : i ≤ 100) (hk : k ≤ 9) (hX : X < 10 ^ 100) : (Lib.decDigits ((10 * P + k) * X)).length ≤ 250 := by
  rw [dec_len_iff (by decide)]
  have h1 : 10 * P + k < 10 ^ (i + 1) := by rw [Nat.pow_succ]; omega
  have h2 : (10 * P + k) * X < 10 ^ (i + 1) * 10 ^ 100 := Nat.mul_lt_mul'' h1 hX
  rw [← Nat.pow_add] at h2
  exact Nat.lt_of_lt_of_le h2 (Nat.pow_le_pow_right (by decide) (by omega))

set_option maxHeartbeats 4000000 in
theorem times_num (m n : Int) (hm : dl m ≤ 100) (hn : dl n ≤ 100) (w : World) : Calls Tryd.prog 22 #[str (Lib.itoa m), str (Lib.itoa n)] w fun e w' => e = .returned (str (Lib.itoa (m * n))) ∧ Below w.heap.size w w' := by
  have BM := below_num m
  have BN := below_num n
  have SM := size_num m
  have SN := size_num n
  have SG := signed_num (!(decide (m < 0) == decide (n < 0))) (n.natAbs * m.natAbs) (m * n) (by
    have h := Int.natAbs_mul m n
    rw [Nat.mul_comm] at h
    rw [← h]
    rcases Int.lt_or_le m 0 with h1 | h1 <;> rcases Int.lt_or_le n 0 with h2 | h2
    · have := Int.mul_pos_of_neg_of_neg h1 h2
      simp [h1, h2]; omega
    · have := Int.mul_nonpos_of_nonpos_of_nonneg (Int.le_of_lt h1) h2
      simp [h1, Int.not_lt.2 h2]; omega
    · have := Int.mul_nonpos_of_nonneg_of_nonpos h1 (Int.le_of_lt h2)
      simp [h2, Int.not_lt.2 h1]; omega
    · have := Int.mul_nonneg h1 h2
      simp [Int.not_lt.2 h1, Int.not_lt.2 h2]; omega) (by
    have h1 := (dec_len_iff (k := 100) (by decide)).1 hm
    have h2 := (dec_len_iff (k := 100) (by decide)).1 hn
    refine Nat.le_trans ((dec_len_iff (k := 200) (by decide)).2 ?_) (by decide)
    have := Nat.mul_lt_mul'' h2 h1
    rwa [← Nat.pow_add] at this)
  have hX := (dec_len_iff (k := 100) (by decide)).1 hm
  have PL := fun u (hu : (Lib.decDigits u).length ≤ 250) w => plus_ref (Lib.decDigits u) (Lib.decDigits m.natAbs) (allD_dec _) (allD_dec _) (dec_ne_nil _) (Nat.le_trans hu (by decide)) (Nat.le_trans hm (by decide)) w
  simp only [valD_dec] at PL
  have hy := allD_dec n.natAbs
  have hvy := valD_dec n.natAbs
  have hly : (Lib.decDigits n.natAbs).length ≤ 100 := hn
  generalize Lib.itoa (m * n) = R at SG ⊢
  generalize Lib.itoa n = b at BN SN ⊢
  generalize Lib.itoa m = a at BM SM ⊢
  generalize Lib.decDigits n.natAbs = y at SN hy hvy hly
  rw [← hvy] at SG
  generalize decide (m < 0) = q at BM SG
  generalize decide (n < 0) = q' at BN SG
  clear hm hn hvy
  obtain ⟨xs, hxs⟩ : ∃ xs, xs = Lib.decDigits m.natAbs := ⟨_, rfl⟩
  rw [← hxs] at SM PL
  clear hxs
  generalize m.natAbs = X at SG PL hX
  have HY := Lib.hid hy
  clear hy
  go_enter Tryd.func22, Tryd.ntmps22
  go_upto_region 3 with (first
    | (go_at_call 38; refine (SM _).mono ?_; rintro e wS ⟨rfl, rfl⟩)
    | (go_at_call 38; refine (SN _).mono ?_; rintro e wS ⟨rfl, rfl⟩))
  clear SM SN
  have h0 : (Lib.decDigits 0) = [48] := dec_zero
  have HH0 := Lib.hid h0
  clear h0
  go_wp2
  go_loopg [5, 8] y.length (fun g v5 v8 wr => ∃ i : Nat, i + g = y.length ∧ v8 = .int .i64 i ∧ v5 = str (Lib.decDigits (valD (y.take i) * X)) ∧ Below wS.heap.size wS wr)
  case atStart => exact ⟨0, by omega, rfl, by rw [List.take_zero, valD_nil, Nat.zero_mul, HH0.out], Below.refl _ _⟩
  case round =>
    obtain ⟨i, hig, rfl, rfl, hbl⟩ := hrel
    cases gk with
    | zero =>
      have hie : ¬ (i : Int) < (y.length : Int) := by omega
      obtain rfl : i = y.length := by omega
      rw [List.take_length]
      generalize Lib.decDigits (valD y * X) = u at SG
      go_wp2_with (first
        | (go_at_call 39; refine (BM _).mono ?_; rintro e w' ⟨rfl, rfl⟩)
        | (go_at_call 39; refine (BN _).mono ?_; rintro e w' ⟨rfl, rfl⟩)
        | (go_at_call 40; refine (SG _).mono ?_; rintro e w' ⟨rfl, rfl⟩))
      go_ret
      exact ⟨rfl, hbl⟩
    | succ g =>
      have hie : (i : Int) < (y.length : Int) := by omega
      have hP := valD_take_lt HY.out i
      have hnx := valD_take_succ (y := y) (i := i) (by omega)
      have hdg := allD_at HY.out (i := i) (by omega)
      obtain ⟨C, hC⟩ : ∃ C, y[i]?.getD 0 = C := ⟨_, rfl⟩
      obtain ⟨D, hD⟩ : ∃ D, dv C = D := ⟨_, rfl⟩
      rw [hC] at hdg
      rw [hC, hD] at hnx
      rw [isD_iff] at hdg
      have hc1 := hdg.1
      have hc2 := hdg.2
      have hCD : (C.toNat : Int) - 48 = (D : Int) := by rw [← hD]; unfold dv; omega
      have hD9 : D ≤ 9 := by rw [← hD]; unfold dv; omega
      obtain ⟨P, hPp⟩ : ∃ P, valD (y.take i) = P := ⟨_, rfl⟩
      rw [hPp] at hP hnx ⊢
      have hu0 : (Lib.decDigits (P * X)).length ≤ 250 := by
        refine Nat.le_trans (dec_len_le ?_) (part_len (k := 0) hP (by omega) (by omega) hX)
        exact Nat.mul_le_mul_right _ (by omega)
      have hb0 : bareL (Lib.decDigits (P * X) ++ [48]) = Lib.decDigits ((10 * P + 0) * X) := by
        have := bare_digit (P * X) 0 (by decide)
        rw [show UInt8.ofNat (48 + 0) = 48 from rfl] at this
        rw [this]
        congr 1
        rw [Nat.add_zero, Nat.add_zero, Nat.mul_assoc]
      have hadd : ∀ W : World, (Op.stringOp .add (ByteArray.mk (Lib.decDigits (P * X)).toArray) (ByteArray.mk #[48])).run Tryd.prog W = .ok (.string ⟨(Lib.decDigits (P * X) ++ [48]).toArray⟩) W := fun W => str_add (Lib.decDigits (P * X)) [48] (by simp; omega)
      have BR := bare_ref (Lib.decDigits (P * X) ++ [48]) (by simp; omega)
      rw [hb0] at BR
      obtain ⟨s0, hs0⟩ : ∃ s0, s0 = Lib.decDigits (P * X) := ⟨_, rfl⟩
      obtain ⟨s1, hs1⟩ : ∃ s1, s1 = s0 ++ [48] := ⟨_, rfl⟩
      rw [← hs0] at hadd BR
      rw [← hs1] at hadd BR
      rw [← hs0]
      have HNX := Lib.hid hnx
      have HP := Lib.hid hP
      have HX := Lib.hid hX
      have HPP := Lib.hid hPp
      have PLL : Hid (∀ k, k ≤ 9 → ∀ W : World, Calls Tryd.prog 41 #[str (Lib.decDigits ((10 * P + k) * X)), str xs] W fun e W' => e = .returned (str (Lib.decDigits ((10 * P + (k + 1)) * X))) ∧ Below W.heap.size W W') := fun k hk W => by
        have := PL ((10 * P + k) * X) (part_len hP (by omega) hk hX) W
        rw [show (10 * P + k) * X + X = (10 * P + (k + 1)) * X by rw [← Nat.add_assoc, Nat.add_mul (10 * P + k) 1 X, Nat.one_mul]] at this
        exact this
      clear hb0 hu0 hs0 hs1 hnx hP hPp hD hdg PL hX
      have hgo : decide ((i : Int) < (y.length : Int)) = true := decide_eq_true hie
      go_upto_region 7 with (go_at_call 44; refine (BR _).mono ?_; rintro e w' ⟨rfl, rfl⟩)
      go_wp2
      go_loopg [5, 9] D (fun gq v5 v9 wq => ∃ k : Nat, k + gq = D ∧ v9 = .int .i64 k ∧ v5 = str (Lib.decDigits ((10 * P + k) * X)) ∧ Below wS.heap.size wS wq)
      case atStart => exact ⟨0, by omega, rfl, by simp, hbl⟩
      case round =>
        obtain ⟨k, hkD, rfl, rfl, hbq⟩ := hrel
        cases gk with
        | zero =>
          have hke : ¬ (k : Int) < (D : Int) := by omega
          obtain rfl : k = D := by omega
          go_wp2
          go_roundg g
          case measure => omega
          case rel => exact ⟨i + 1, by omega, by go_num, by rw [HNX.out], hbq⟩
        | succ gq =>
          have hke : (k : Int) < (D : Int) := by omega
          have PLk := PLL.out k (by omega) wr
          go_wp2_with (go_at_call 41; refine PLk.mono ?_; rintro e wT ⟨rfl, hbT⟩)
          go_roundg gq
          case measure => omega
          case rel => exact ⟨k + 1, by omega, by go_num, rfl, hbq.trans (hbT.mono hbq.size)⟩

end Go.Proofs.YtekpdmjobkikfaaDoor
