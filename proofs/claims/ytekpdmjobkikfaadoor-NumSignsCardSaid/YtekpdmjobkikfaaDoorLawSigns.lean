/- The walk of the law on signs: it answers true of any two texts. -/
import Derived.Test.YtekpdmjobkikfaaDoorLawRules
namespace Go.Proofs.YtekpdmjobkikfaaDoor
open Go.RowKit
set_option maxRecDepth 100000
attribute [local go_sem] str_size str_toList str_get

set_option maxHeartbeats 16000000 in
theorem signs_true (a b : List UInt8) (_la : a.length ≤ 9223372036854775807) (_lb : b.length ≤ 9223372036854775807) (w : World) (hT : TabW w) : Calls Tryd.prog 8 #[str a, str b] w fun e w' => e = .returned (.bool true) ∧ Below w.heap.size w w' := by
  have AW := awake_any w hT
  have HT := Lib.hid hT
  have G1 := fun W => good_any a W
  have G2 := fun W => good_any b W
  clear hT
  obtain ⟨ga, hga⟩ : ∃ g, goodS a = g := ⟨_, rfl⟩
  obtain ⟨gb, hgb⟩ : ∃ g, goodS b = g := ⟨_, rfl⟩
  rw [hga] at G1
  rw [hgb] at G2
  cases ga with
  | false =>
    clear hga hgb G2
    go_enter Tryd.func8, Tryd.ntmps8
    go_wp2_with fail
    refine AW.mono ?_
    rintro e w1 ⟨rfl, hb1⟩
    go_wp2_with fail
    refine (G1 _).mono ?_
    rintro e w2 ⟨rfl, hq2⟩
    have hb2 := hb1.trans (hq2.mono hb1.size)
    clear hq2 hb1
    go_wp2
    go_ret
    exact ⟨rfl, hb2⟩
  | true =>
    cases gb with
    | false =>
      clear hga hgb
      go_enter Tryd.func8, Tryd.ntmps8
      go_wp2_with fail
      refine AW.mono ?_
      rintro e w1 ⟨rfl, hb1⟩
      go_wp2_with fail
      refine (G1 _).mono ?_
      rintro e w2 ⟨rfl, hq2⟩
      have hb2 := hb1.trans (hq2.mono hb1.size)
      clear hq2 hb1
      go_wp2_with fail
      refine (G2 _).mono ?_
      rintro e w3 ⟨rfl, hq3⟩
      have hb3 := hb2.trans (hq3.mono hb2.size)
      clear hq3 hb2
      go_wp2
      go_ret
      exact ⟨rfl, hb3⟩
    | true =>
      obtain ⟨m, hm, rfl⟩ := (goodS_iff a).1 hga
      obtain ⟨n, hn, rfl⟩ := (goodS_iff b).1 hgb
      have hm' : (-m).natAbs < 10 ^ 100 := by rw [Int.natAbs_neg]; exact hm
      have SX := fun W (h : TabW W) => sub_any [48] (Lib.itoa m) W h
      rw [← itoa_zero, subR_itoa (by decide) hm, Int.zero_sub, capR_ok hm', itoa_zero] at SX
      have MP := fun W (h : TabW W) => mul_any (Lib.itoa m) (Lib.itoa n) W h
      rw [mulR_itoa hm hn] at MP
      have MX := fun W (h : TabW W) => mul_any (Lib.itoa (-m)) (Lib.itoa n) W h
      rw [mulR_itoa hm' hn, Int.neg_mul] at MX
      have AP1 := fun W (h : TabW W) => add_any (Lib.itoa (m * n)) (Lib.itoa (-(m * n))) W h
      have AP2 := fun W (h : TabW W) => add_any [] [] W h
      rw [show addR [] [] = ([], 6) from by unfold addR; rw [if_neg (by decide)]] at AP2
      have hAP1 : (m * n).natAbs < 10 ^ 100 → addR (Lib.itoa (m * n)) (Lib.itoa (-(m * n))) = ([48], 0) := fun h => by
        rw [addR_itoa h (by rw [Int.natAbs_neg]; exact h), Int.add_right_neg, capR_ok (by decide), itoa_zero]
      have hneg : ∀ z : Int, (-z).natAbs < 10 ^ 100 ↔ z.natAbs < 10 ^ 100 := fun z => by rw [Int.natAbs_neg]
      have SD := fun W (h : TabW W) => sub_any (Lib.itoa m) (Lib.itoa n) W h
      rw [subR_itoa hm hn] at SD
      have CD := fun W (h : TabW W) => cmp_any (Lib.itoa (m - n)) [48] W h
      have hCD : (m - n).natAbs < 10 ^ 100 → cmpR (Lib.itoa (m - n)) [48] = sgn (m - n) := fun h => by
        rw [← itoa_zero, cmpR_itoa h (by decide), Int.sub_zero]
      have CC := fun W (h : TabW W) => cmp_any (Lib.itoa m) (Lib.itoa n) W h
      rw [cmpR_itoa hm hn] at CC
      have D1 := fun W (h : TabW W) => div_any (Lib.itoa m) (Lib.itoa n) W h
      have D2 := fun W (h : TabW W) => div_any (Lib.itoa (-m)) (Lib.itoa n) W h
      have hD1 : n ≠ 0 → divR (Lib.itoa m) (Lib.itoa n) = (Lib.itoa (m.tdiv n), Lib.itoa (m.tmod n), 0) := fun h => divR_itoa hm hn h
      have hD2 : n ≠ 0 → divR (Lib.itoa (-m)) (Lib.itoa n) = (Lib.itoa (-(m.tdiv n)), Lib.itoa (-(m.tmod n)), 0) := fun h => by
        rw [divR_itoa hm' hn h, Int.neg_tdiv, Int.neg_tmod]
      have ht1 : (m.tdiv n).natAbs < 10 ^ 100 := Nat.lt_of_le_of_lt (tdiv_abs m n) hm
      have ht2 : (m.tmod n).natAbs < 10 ^ 100 := Nat.lt_of_le_of_lt (tmod_abs m n) hm
      have A1 := fun W (h : TabW W) => add_any (Lib.itoa (m.tdiv n)) (Lib.itoa (-(m.tdiv n))) W h
      have A2 := fun W (h : TabW W) => add_any (Lib.itoa (m.tmod n)) (Lib.itoa (-(m.tmod n))) W h
      rw [addR_itoa ht1 ((hneg _).2 ht1), Int.add_right_neg, capR_ok (by decide), itoa_zero] at A1
      rw [addR_itoa ht2 ((hneg _).2 ht2), Int.add_right_neg, capR_ok (by decide), itoa_zero] at A2
      have hn0 : n ≠ 0 → (Lib.itoa n == [48]) = false := fun h => by
        rw [beq_eq_false_iff_ne, ← itoa_zero]
        exact fun e => h (itoa_inj e)
      have hz : n = 0 → (Lib.itoa n == [48]) = true := fun h => by rw [h, itoa_zero]; rfl
      generalize sgn (m - n) = cc at CC hCD
      have CP := capR_cases (m * n)
      have CQ := capR_cases (-(m * n))
      have CS := capR_cases (m - n)
      clear hga hgb _la _lb hm hn hm' ht1 ht2
      by_cases hz0 : n = 0
      · have hzz := hz hz0
        clear hz hn0 hz0 hD1 hD2 D1 D2 A1 A2
        rcases CP with ⟨hP, eP⟩ | ⟨hP, eP⟩
        · have eN : capR (-(m * n)) = (Lib.itoa (-(m * n)), 0) := capR_ok ((hneg _).2 hP)
          rw [hAP1 hP] at AP1
          clear hAP1 hneg CQ
          rcases CS with ⟨hD, eD⟩ | ⟨hD, eD⟩
          · rw [hCD hD] at CD
            clear hCD
            rw [eP] at MP
            rw [eN] at MX
            have AP := AP1
            rw [eD] at SD
            clear AP1 AP2 hP eP eN hD eD
            go_enter Tryd.func8, Tryd.ntmps8
            go_wp2_with fail
            refine AW.mono ?_
            rintro e w1 ⟨rfl, hb1⟩
            go_wp2_with fail
            refine (G1 _).mono ?_
            rintro e w2 ⟨rfl, hq2⟩
            have hb2 := hb1.trans (hq2.mono hb1.size)
            clear hq2 hb1
            go_wp2_with fail
            refine (G2 _).mono ?_
            rintro e w3 ⟨rfl, hq3⟩
            have hb3 := hb2.trans (hq3.mono hb2.size)
            clear hq3 hb2
            go_wp2_with fail
            refine (SX _ (HT.out.mono hb3)).mono ?_
            rintro e w4 ⟨rfl, hq4⟩
            have hb4 := hb3.trans (hq4.mono hb3.size)
            clear hq4 hb3
            go_wp2_with fail
            refine (MP _ (HT.out.mono hb4)).mono ?_
            rintro e w5 ⟨rfl, hq5⟩
            have hb5 := hb4.trans (hq5.mono hb4.size)
            clear hq5 hb4
            go_wp2_with fail
            refine (MX _ (HT.out.mono hb5)).mono ?_
            rintro e w6 ⟨rfl, hq6⟩
            have hb6 := hb5.trans (hq6.mono hb5.size)
            clear hq6 hb5
            go_wp2_with fail
            refine (AP _ (HT.out.mono hb6)).mono ?_
            rintro e w7 ⟨rfl, hq7⟩
            have hb7 := hb6.trans (hq7.mono hb6.size)
            clear hq7 hb6
            go_wp2_with fail
            refine (SD _ (HT.out.mono hb7)).mono ?_
            rintro e w8 ⟨rfl, hq8⟩
            have hb8 := hb7.trans (hq8.mono hb7.size)
            clear hq8 hb7
            go_wp2_with fail
            refine (CD _ (HT.out.mono hb8)).mono ?_
            rintro e w9 ⟨rfl, hq9⟩
            have hb9 := hb8.trans (hq9.mono hb8.size)
            clear hq9 hb8
            go_wp2_with fail
            refine (CC _ (HT.out.mono hb9)).mono ?_
            rintro e w10 ⟨rfl, hq10⟩
            have hb10 := hb9.trans (hq10.mono hb9.size)
            clear hq10 hb9
            go_wp2
            go_ret
            exact ⟨rfl, hb10⟩
          · clear hCD CD CC
            rw [eP] at MP
            rw [eN] at MX
            have AP := AP1
            rw [eD] at SD
            clear AP1 AP2 hP eP eN hD eD
            go_enter Tryd.func8, Tryd.ntmps8
            go_wp2_with fail
            refine AW.mono ?_
            rintro e w1 ⟨rfl, hb1⟩
            go_wp2_with fail
            refine (G1 _).mono ?_
            rintro e w2 ⟨rfl, hq2⟩
            have hb2 := hb1.trans (hq2.mono hb1.size)
            clear hq2 hb1
            go_wp2_with fail
            refine (G2 _).mono ?_
            rintro e w3 ⟨rfl, hq3⟩
            have hb3 := hb2.trans (hq3.mono hb2.size)
            clear hq3 hb2
            go_wp2_with fail
            refine (SX _ (HT.out.mono hb3)).mono ?_
            rintro e w4 ⟨rfl, hq4⟩
            have hb4 := hb3.trans (hq4.mono hb3.size)
            clear hq4 hb3
            go_wp2_with fail
            refine (MP _ (HT.out.mono hb4)).mono ?_
            rintro e w5 ⟨rfl, hq5⟩
            have hb5 := hb4.trans (hq5.mono hb4.size)
            clear hq5 hb4
            go_wp2_with fail
            refine (MX _ (HT.out.mono hb5)).mono ?_
            rintro e w6 ⟨rfl, hq6⟩
            have hb6 := hb5.trans (hq6.mono hb5.size)
            clear hq6 hb5
            go_wp2_with fail
            refine (AP _ (HT.out.mono hb6)).mono ?_
            rintro e w7 ⟨rfl, hq7⟩
            have hb7 := hb6.trans (hq7.mono hb6.size)
            clear hq7 hb6
            go_wp2_with fail
            refine (SD _ (HT.out.mono hb7)).mono ?_
            rintro e w8 ⟨rfl, hq8⟩
            have hb8 := hb7.trans (hq8.mono hb7.size)
            clear hq8 hb7
            go_wp2
            go_ret
            exact ⟨rfl, hb8⟩
        · have eN : capR (-(m * n)) = ([], 3) := capR_long fun h => hP ((hneg _).1 h)
          clear hAP1 hneg CQ
          rcases CS with ⟨hD, eD⟩ | ⟨hD, eD⟩
          · rw [hCD hD] at CD
            clear hCD
            rw [eP] at MP
            rw [eN] at MX
            have AP := AP2
            rw [eD] at SD
            clear AP1 AP2 hP eP eN hD eD
            go_enter Tryd.func8, Tryd.ntmps8
            go_wp2_with fail
            refine AW.mono ?_
            rintro e w1 ⟨rfl, hb1⟩
            go_wp2_with fail
            refine (G1 _).mono ?_
            rintro e w2 ⟨rfl, hq2⟩
            have hb2 := hb1.trans (hq2.mono hb1.size)
            clear hq2 hb1
            go_wp2_with fail
            refine (G2 _).mono ?_
            rintro e w3 ⟨rfl, hq3⟩
            have hb3 := hb2.trans (hq3.mono hb2.size)
            clear hq3 hb2
            go_wp2_with fail
            refine (SX _ (HT.out.mono hb3)).mono ?_
            rintro e w4 ⟨rfl, hq4⟩
            have hb4 := hb3.trans (hq4.mono hb3.size)
            clear hq4 hb3
            go_wp2_with fail
            refine (MP _ (HT.out.mono hb4)).mono ?_
            rintro e w5 ⟨rfl, hq5⟩
            have hb5 := hb4.trans (hq5.mono hb4.size)
            clear hq5 hb4
            go_wp2_with fail
            refine (MX _ (HT.out.mono hb5)).mono ?_
            rintro e w6 ⟨rfl, hq6⟩
            have hb6 := hb5.trans (hq6.mono hb5.size)
            clear hq6 hb5
            go_wp2_with fail
            refine (AP _ (HT.out.mono hb6)).mono ?_
            rintro e w7 ⟨rfl, hq7⟩
            have hb7 := hb6.trans (hq7.mono hb6.size)
            clear hq7 hb6
            go_wp2_with fail
            refine (SD _ (HT.out.mono hb7)).mono ?_
            rintro e w8 ⟨rfl, hq8⟩
            have hb8 := hb7.trans (hq8.mono hb7.size)
            clear hq8 hb7
            go_wp2_with fail
            refine (CD _ (HT.out.mono hb8)).mono ?_
            rintro e w9 ⟨rfl, hq9⟩
            have hb9 := hb8.trans (hq9.mono hb8.size)
            clear hq9 hb8
            go_wp2_with fail
            refine (CC _ (HT.out.mono hb9)).mono ?_
            rintro e w10 ⟨rfl, hq10⟩
            have hb10 := hb9.trans (hq10.mono hb9.size)
            clear hq10 hb9
            go_wp2
            go_ret
            exact ⟨rfl, hb10⟩
          · clear hCD CD CC
            rw [eP] at MP
            rw [eN] at MX
            have AP := AP2
            rw [eD] at SD
            clear AP1 AP2 hP eP eN hD eD
            go_enter Tryd.func8, Tryd.ntmps8
            go_wp2_with fail
            refine AW.mono ?_
            rintro e w1 ⟨rfl, hb1⟩
            go_wp2_with fail
            refine (G1 _).mono ?_
            rintro e w2 ⟨rfl, hq2⟩
            have hb2 := hb1.trans (hq2.mono hb1.size)
            clear hq2 hb1
            go_wp2_with fail
            refine (G2 _).mono ?_
            rintro e w3 ⟨rfl, hq3⟩
            have hb3 := hb2.trans (hq3.mono hb2.size)
            clear hq3 hb2
            go_wp2_with fail
            refine (SX _ (HT.out.mono hb3)).mono ?_
            rintro e w4 ⟨rfl, hq4⟩
            have hb4 := hb3.trans (hq4.mono hb3.size)
            clear hq4 hb3
            go_wp2_with fail
            refine (MP _ (HT.out.mono hb4)).mono ?_
            rintro e w5 ⟨rfl, hq5⟩
            have hb5 := hb4.trans (hq5.mono hb4.size)
            clear hq5 hb4
            go_wp2_with fail
            refine (MX _ (HT.out.mono hb5)).mono ?_
            rintro e w6 ⟨rfl, hq6⟩
            have hb6 := hb5.trans (hq6.mono hb5.size)
            clear hq6 hb5
            go_wp2_with fail
            refine (AP _ (HT.out.mono hb6)).mono ?_
            rintro e w7 ⟨rfl, hq7⟩
            have hb7 := hb6.trans (hq7.mono hb6.size)
            clear hq7 hb6
            go_wp2_with fail
            refine (SD _ (HT.out.mono hb7)).mono ?_
            rintro e w8 ⟨rfl, hq8⟩
            have hb8 := hb7.trans (hq8.mono hb7.size)
            clear hq8 hb7
            go_wp2
            go_ret
            exact ⟨rfl, hb8⟩
      · have hzz := hn0 hz0
        rw [hD1 hz0] at D1
        rw [hD2 hz0] at D2
        clear hz hn0 hz0 hD1 hD2
        rcases CP with ⟨hP, eP⟩ | ⟨hP, eP⟩
        · have eN : capR (-(m * n)) = (Lib.itoa (-(m * n)), 0) := capR_ok ((hneg _).2 hP)
          rw [hAP1 hP] at AP1
          clear hAP1 hneg CQ
          rcases CS with ⟨hD, eD⟩ | ⟨hD, eD⟩
          · rw [hCD hD] at CD
            clear hCD
            rw [eP] at MP
            rw [eN] at MX
            have AP := AP1
            rw [eD] at SD
            clear AP1 AP2 hP eP eN hD eD
            go_enter Tryd.func8, Tryd.ntmps8
            go_wp2_with fail
            refine AW.mono ?_
            rintro e w1 ⟨rfl, hb1⟩
            go_wp2_with fail
            refine (G1 _).mono ?_
            rintro e w2 ⟨rfl, hq2⟩
            have hb2 := hb1.trans (hq2.mono hb1.size)
            clear hq2 hb1
            go_wp2_with fail
            refine (G2 _).mono ?_
            rintro e w3 ⟨rfl, hq3⟩
            have hb3 := hb2.trans (hq3.mono hb2.size)
            clear hq3 hb2
            go_wp2_with fail
            refine (SX _ (HT.out.mono hb3)).mono ?_
            rintro e w4 ⟨rfl, hq4⟩
            have hb4 := hb3.trans (hq4.mono hb3.size)
            clear hq4 hb3
            go_wp2_with fail
            refine (MP _ (HT.out.mono hb4)).mono ?_
            rintro e w5 ⟨rfl, hq5⟩
            have hb5 := hb4.trans (hq5.mono hb4.size)
            clear hq5 hb4
            go_wp2_with fail
            refine (MX _ (HT.out.mono hb5)).mono ?_
            rintro e w6 ⟨rfl, hq6⟩
            have hb6 := hb5.trans (hq6.mono hb5.size)
            clear hq6 hb5
            go_wp2_with fail
            refine (AP _ (HT.out.mono hb6)).mono ?_
            rintro e w7 ⟨rfl, hq7⟩
            have hb7 := hb6.trans (hq7.mono hb6.size)
            clear hq7 hb6
            go_wp2_with fail
            refine (SD _ (HT.out.mono hb7)).mono ?_
            rintro e w8 ⟨rfl, hq8⟩
            have hb8 := hb7.trans (hq8.mono hb7.size)
            clear hq8 hb7
            go_wp2_with fail
            refine (CD _ (HT.out.mono hb8)).mono ?_
            rintro e w9 ⟨rfl, hq9⟩
            have hb9 := hb8.trans (hq9.mono hb8.size)
            clear hq9 hb8
            go_wp2_with fail
            refine (CC _ (HT.out.mono hb9)).mono ?_
            rintro e w10 ⟨rfl, hq10⟩
            have hb10 := hb9.trans (hq10.mono hb9.size)
            clear hq10 hb9
            go_wp2_with fail
            refine (D1 _ (HT.out.mono hb10)).mono ?_
            rintro e w11 ⟨rfl, hq11⟩
            have hb11 := hb10.trans (hq11.mono hb10.size)
            clear hq11 hb10
            go_wp2_with fail
            refine (D2 _ (HT.out.mono hb11)).mono ?_
            rintro e w12 ⟨rfl, hq12⟩
            have hb12 := hb11.trans (hq12.mono hb11.size)
            clear hq12 hb11
            go_wp2_with fail
            refine (A1 _ (HT.out.mono hb12)).mono ?_
            rintro e w13 ⟨rfl, hq13⟩
            have hb13 := hb12.trans (hq13.mono hb12.size)
            clear hq13 hb12
            go_wp2_with fail
            refine (A2 _ (HT.out.mono hb13)).mono ?_
            rintro e w14 ⟨rfl, hq14⟩
            have hb14 := hb13.trans (hq14.mono hb13.size)
            clear hq14 hb13
            go_wp2
            go_ret
            exact ⟨rfl, hb14⟩
          · clear hCD CD CC
            rw [eP] at MP
            rw [eN] at MX
            have AP := AP1
            rw [eD] at SD
            clear AP1 AP2 hP eP eN hD eD
            go_enter Tryd.func8, Tryd.ntmps8
            go_wp2_with fail
            refine AW.mono ?_
            rintro e w1 ⟨rfl, hb1⟩
            go_wp2_with fail
            refine (G1 _).mono ?_
            rintro e w2 ⟨rfl, hq2⟩
            have hb2 := hb1.trans (hq2.mono hb1.size)
            clear hq2 hb1
            go_wp2_with fail
            refine (G2 _).mono ?_
            rintro e w3 ⟨rfl, hq3⟩
            have hb3 := hb2.trans (hq3.mono hb2.size)
            clear hq3 hb2
            go_wp2_with fail
            refine (SX _ (HT.out.mono hb3)).mono ?_
            rintro e w4 ⟨rfl, hq4⟩
            have hb4 := hb3.trans (hq4.mono hb3.size)
            clear hq4 hb3
            go_wp2_with fail
            refine (MP _ (HT.out.mono hb4)).mono ?_
            rintro e w5 ⟨rfl, hq5⟩
            have hb5 := hb4.trans (hq5.mono hb4.size)
            clear hq5 hb4
            go_wp2_with fail
            refine (MX _ (HT.out.mono hb5)).mono ?_
            rintro e w6 ⟨rfl, hq6⟩
            have hb6 := hb5.trans (hq6.mono hb5.size)
            clear hq6 hb5
            go_wp2_with fail
            refine (AP _ (HT.out.mono hb6)).mono ?_
            rintro e w7 ⟨rfl, hq7⟩
            have hb7 := hb6.trans (hq7.mono hb6.size)
            clear hq7 hb6
            go_wp2_with fail
            refine (SD _ (HT.out.mono hb7)).mono ?_
            rintro e w8 ⟨rfl, hq8⟩
            have hb8 := hb7.trans (hq8.mono hb7.size)
            clear hq8 hb7
            go_wp2_with fail
            refine (D1 _ (HT.out.mono hb8)).mono ?_
            rintro e w9 ⟨rfl, hq9⟩
            have hb9 := hb8.trans (hq9.mono hb8.size)
            clear hq9 hb8
            go_wp2_with fail
            refine (D2 _ (HT.out.mono hb9)).mono ?_
            rintro e w10 ⟨rfl, hq10⟩
            have hb10 := hb9.trans (hq10.mono hb9.size)
            clear hq10 hb9
            go_wp2_with fail
            refine (A1 _ (HT.out.mono hb10)).mono ?_
            rintro e w11 ⟨rfl, hq11⟩
            have hb11 := hb10.trans (hq11.mono hb10.size)
            clear hq11 hb10
            go_wp2_with fail
            refine (A2 _ (HT.out.mono hb11)).mono ?_
            rintro e w12 ⟨rfl, hq12⟩
            have hb12 := hb11.trans (hq12.mono hb11.size)
            clear hq12 hb11
            go_wp2
            go_ret
            exact ⟨rfl, hb12⟩
        · have eN : capR (-(m * n)) = ([], 3) := capR_long fun h => hP ((hneg _).1 h)
          clear hAP1 hneg CQ
          rcases CS with ⟨hD, eD⟩ | ⟨hD, eD⟩
          · rw [hCD hD] at CD
            clear hCD
            rw [eP] at MP
            rw [eN] at MX
            have AP := AP2
            rw [eD] at SD
            clear AP1 AP2 hP eP eN hD eD
            go_enter Tryd.func8, Tryd.ntmps8
            go_wp2_with fail
            refine AW.mono ?_
            rintro e w1 ⟨rfl, hb1⟩
            go_wp2_with fail
            refine (G1 _).mono ?_
            rintro e w2 ⟨rfl, hq2⟩
            have hb2 := hb1.trans (hq2.mono hb1.size)
            clear hq2 hb1
            go_wp2_with fail
            refine (G2 _).mono ?_
            rintro e w3 ⟨rfl, hq3⟩
            have hb3 := hb2.trans (hq3.mono hb2.size)
            clear hq3 hb2
            go_wp2_with fail
            refine (SX _ (HT.out.mono hb3)).mono ?_
            rintro e w4 ⟨rfl, hq4⟩
            have hb4 := hb3.trans (hq4.mono hb3.size)
            clear hq4 hb3
            go_wp2_with fail
            refine (MP _ (HT.out.mono hb4)).mono ?_
            rintro e w5 ⟨rfl, hq5⟩
            have hb5 := hb4.trans (hq5.mono hb4.size)
            clear hq5 hb4
            go_wp2_with fail
            refine (MX _ (HT.out.mono hb5)).mono ?_
            rintro e w6 ⟨rfl, hq6⟩
            have hb6 := hb5.trans (hq6.mono hb5.size)
            clear hq6 hb5
            go_wp2_with fail
            refine (AP _ (HT.out.mono hb6)).mono ?_
            rintro e w7 ⟨rfl, hq7⟩
            have hb7 := hb6.trans (hq7.mono hb6.size)
            clear hq7 hb6
            go_wp2_with fail
            refine (SD _ (HT.out.mono hb7)).mono ?_
            rintro e w8 ⟨rfl, hq8⟩
            have hb8 := hb7.trans (hq8.mono hb7.size)
            clear hq8 hb7
            go_wp2_with fail
            refine (CD _ (HT.out.mono hb8)).mono ?_
            rintro e w9 ⟨rfl, hq9⟩
            have hb9 := hb8.trans (hq9.mono hb8.size)
            clear hq9 hb8
            go_wp2_with fail
            refine (CC _ (HT.out.mono hb9)).mono ?_
            rintro e w10 ⟨rfl, hq10⟩
            have hb10 := hb9.trans (hq10.mono hb9.size)
            clear hq10 hb9
            go_wp2_with fail
            refine (D1 _ (HT.out.mono hb10)).mono ?_
            rintro e w11 ⟨rfl, hq11⟩
            have hb11 := hb10.trans (hq11.mono hb10.size)
            clear hq11 hb10
            go_wp2_with fail
            refine (D2 _ (HT.out.mono hb11)).mono ?_
            rintro e w12 ⟨rfl, hq12⟩
            have hb12 := hb11.trans (hq12.mono hb11.size)
            clear hq12 hb11
            go_wp2_with fail
            refine (A1 _ (HT.out.mono hb12)).mono ?_
            rintro e w13 ⟨rfl, hq13⟩
            have hb13 := hb12.trans (hq13.mono hb12.size)
            clear hq13 hb12
            go_wp2_with fail
            refine (A2 _ (HT.out.mono hb13)).mono ?_
            rintro e w14 ⟨rfl, hq14⟩
            have hb14 := hb13.trans (hq14.mono hb13.size)
            clear hq14 hb13
            go_wp2
            go_ret
            exact ⟨rfl, hb14⟩
          · clear hCD CD CC
            rw [eP] at MP
            rw [eN] at MX
            have AP := AP2
            rw [eD] at SD
            clear AP1 AP2 hP eP eN hD eD
            go_enter Tryd.func8, Tryd.ntmps8
            go_wp2_with fail
            refine AW.mono ?_
            rintro e w1 ⟨rfl, hb1⟩
            go_wp2_with fail
            refine (G1 _).mono ?_
            rintro e w2 ⟨rfl, hq2⟩
            have hb2 := hb1.trans (hq2.mono hb1.size)
            clear hq2 hb1
            go_wp2_with fail
            refine (G2 _).mono ?_
            rintro e w3 ⟨rfl, hq3⟩
            have hb3 := hb2.trans (hq3.mono hb2.size)
            clear hq3 hb2
            go_wp2_with fail
            refine (SX _ (HT.out.mono hb3)).mono ?_
            rintro e w4 ⟨rfl, hq4⟩
            have hb4 := hb3.trans (hq4.mono hb3.size)
            clear hq4 hb3
            go_wp2_with fail
            refine (MP _ (HT.out.mono hb4)).mono ?_
            rintro e w5 ⟨rfl, hq5⟩
            have hb5 := hb4.trans (hq5.mono hb4.size)
            clear hq5 hb4
            go_wp2_with fail
            refine (MX _ (HT.out.mono hb5)).mono ?_
            rintro e w6 ⟨rfl, hq6⟩
            have hb6 := hb5.trans (hq6.mono hb5.size)
            clear hq6 hb5
            go_wp2_with fail
            refine (AP _ (HT.out.mono hb6)).mono ?_
            rintro e w7 ⟨rfl, hq7⟩
            have hb7 := hb6.trans (hq7.mono hb6.size)
            clear hq7 hb6
            go_wp2_with fail
            refine (SD _ (HT.out.mono hb7)).mono ?_
            rintro e w8 ⟨rfl, hq8⟩
            have hb8 := hb7.trans (hq8.mono hb7.size)
            clear hq8 hb7
            go_wp2_with fail
            refine (D1 _ (HT.out.mono hb8)).mono ?_
            rintro e w9 ⟨rfl, hq9⟩
            have hb9 := hb8.trans (hq9.mono hb8.size)
            clear hq9 hb8
            go_wp2_with fail
            refine (D2 _ (HT.out.mono hb9)).mono ?_
            rintro e w10 ⟨rfl, hq10⟩
            have hb10 := hb9.trans (hq10.mono hb9.size)
            clear hq10 hb9
            go_wp2_with fail
            refine (A1 _ (HT.out.mono hb10)).mono ?_
            rintro e w11 ⟨rfl, hq11⟩
            have hb11 := hb10.trans (hq11.mono hb10.size)
            clear hq11 hb10
            go_wp2_with fail
            refine (A2 _ (HT.out.mono hb11)).mono ?_
            rintro e w12 ⟨rfl, hq12⟩
            have hb12 := hb11.trans (hq12.mono hb11.size)
            clear hq12 hb11
            go_wp2
            go_ret
            exact ⟨rfl, hb12⟩

end Go.Proofs.YtekpdmjobkikfaaDoor
