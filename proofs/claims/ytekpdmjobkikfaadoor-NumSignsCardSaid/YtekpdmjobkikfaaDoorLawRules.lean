/- The walk of the law on orders, differences and products: it answers true of any three texts. -/
import Derived.Test.YtekpdmjobkikfaaDoorAwake
namespace Go.Proofs.YtekpdmjobkikfaaDoor
open Go.RowKit
set_option maxRecDepth 100000
attribute [local go_sem] str_size str_toList str_get

theorem capR_cases (z : Int) : (z.natAbs < 10 ^ 100 ∧ capR z = (Lib.itoa z, 0)) ∨ (¬ z.natAbs < 10 ^ 100 ∧ capR z = ([], 3)) := by
  by_cases h : z.natAbs < 10 ^ 100
  · exact .inl ⟨h, capR_ok h⟩
  · exact .inr ⟨h, capR_long h⟩
theorem sgn_bounds (z : Int) : -1 ≤ sgn z ∧ sgn z ≤ 1 := by
  unfold sgn
  split
  · omega
  · split <;> omega

set_option maxHeartbeats 16000000 in
theorem rules_true (a b c : List UInt8) (_la : a.length ≤ 9223372036854775807) (_lb : b.length ≤ 9223372036854775807) (_lc : c.length ≤ 9223372036854775807) (w : World) (hT : TabW w) : Calls Tryd.prog 7 #[str a, str b, str c] w fun e w' => e = .returned (.bool true) ∧ Below w.heap.size w w' := by
  have AW := awake_any w hT
  have HT := Lib.hid hT
  have G1 := fun W => good_any a W
  have G2 := fun W => good_any b W
  have G3 := fun W => good_any c W
  clear hT
  obtain ⟨ga, hga⟩ : ∃ g, goodS a = g := ⟨_, rfl⟩
  obtain ⟨gb, hgb⟩ : ∃ g, goodS b = g := ⟨_, rfl⟩
  obtain ⟨gc, hgc⟩ : ∃ g, goodS c = g := ⟨_, rfl⟩
  rw [hga] at G1
  rw [hgb] at G2
  rw [hgc] at G3
  cases ga with
  | false =>
    clear hga hgb hgc G2 G3
    go_enter Tryd.func7, Tryd.ntmps7
    go_wp2_with fail
    refine AW.mono ?_
    rintro e w1 ⟨rfl, hb1⟩
    go_wp2_with fail
    refine (G1 _).mono ?_
    rintro e w2 ⟨rfl, hq2⟩
    have hb2 := hb1.trans (hq2.mono hb1.size)
    clear hq2 hb1
    go_wp2
    go_ret
    exact ⟨rfl, hb2⟩
  | true =>
    cases gb with
    | false =>
      clear hga hgb hgc G3
      go_enter Tryd.func7, Tryd.ntmps7
      go_wp2_with fail
      refine AW.mono ?_
      rintro e w1 ⟨rfl, hb1⟩
      go_wp2_with fail
      refine (G1 _).mono ?_
      rintro e w2 ⟨rfl, hq2⟩
      have hb2 := hb1.trans (hq2.mono hb1.size)
      clear hq2 hb1
      go_wp2_with fail
      refine (G2 _).mono ?_
      rintro e w3 ⟨rfl, hq3⟩
      have hb3 := hb2.trans (hq3.mono hb2.size)
      clear hq3 hb2
      go_wp2
      go_ret
      exact ⟨rfl, hb3⟩
    | true =>
      cases gc with
      | false =>
        clear hga hgb hgc
        go_enter Tryd.func7, Tryd.ntmps7
        go_wp2_with fail
        refine AW.mono ?_
        rintro e w1 ⟨rfl, hb1⟩
        go_wp2_with fail
        refine (G1 _).mono ?_
        rintro e w2 ⟨rfl, hq2⟩
        have hb2 := hb1.trans (hq2.mono hb1.size)
        clear hq2 hb1
        go_wp2_with fail
        refine (G2 _).mono ?_
        rintro e w3 ⟨rfl, hq3⟩
        have hb3 := hb2.trans (hq3.mono hb2.size)
        clear hq3 hb2
        go_wp2_with fail
        refine (G3 _).mono ?_
        rintro e w4 ⟨rfl, hq4⟩
        have hb4 := hb3.trans (hq4.mono hb3.size)
        clear hq4 hb3
        go_wp2
        go_ret
        exact ⟨rfl, hb4⟩
      | true =>
        obtain ⟨m, hm, rfl⟩ := (goodS_iff a).1 hga
        obtain ⟨n, hn, rfl⟩ := (goodS_iff b).1 hgb
        obtain ⟨k, hk, rfl⟩ := (goodS_iff c).1 hgc
        have AD1 := fun W (h : TabW W) => add_any (Lib.itoa m) (Lib.itoa n) W h
        have AD2 := fun W (h : TabW W) => add_any (Lib.itoa n) (Lib.itoa m) W h
        rw [addR_itoa hm hn] at AD1
        rw [addR_itoa hn hm, Int.add_comm] at AD2
        have MA := fun W (h : TabW W) => mul_any (Lib.itoa m) (Lib.itoa k) W h
        have MB := fun W (h : TabW W) => mul_any (Lib.itoa n) (Lib.itoa k) W h
        rw [mulR_itoa hm hk] at MA
        rw [mulR_itoa hn hk] at MB
        have MP := fun W (h : TabW W) => mul_any (Lib.itoa m) (Lib.itoa n) W h
        have MO := fun W (h : TabW W) => mul_any (Lib.itoa n) (Lib.itoa m) W h
        rw [mulR_itoa hm hn] at MP
        rw [mulR_itoa hn hm, Int.mul_comm] at MO
        have SB := fun (h0 : (m + n).natAbs < 10 ^ 100) W (h : TabW W) => sub_any (Lib.itoa (m + n)) (Lib.itoa n) W h
        have MC := fun (h0 : (m + n).natAbs < 10 ^ 100) W (h : TabW W) => mul_any (Lib.itoa (m + n)) (Lib.itoa k) W h
        have hSB : (m + n).natAbs < 10 ^ 100 → subR (Lib.itoa (m + n)) (Lib.itoa n) = (Lib.itoa m, 0) := fun h0 => by rw [subR_itoa h0 hn, show m + n - n = m by omega, capR_ok hm]
        have hMC : (m + n).natAbs < 10 ^ 100 → mulR (Lib.itoa (m + n)) (Lib.itoa k) = capR (m * k + n * k) := fun h0 => by rw [mulR_itoa h0 hk, Int.add_mul]
        have AD3 := fun W (h : TabW W) => add_any (Lib.itoa (m * k)) (Lib.itoa (n * k)) W h
        have hAD3 : (m * k).natAbs < 10 ^ 100 → (n * k).natAbs < 10 ^ 100 → addR (Lib.itoa (m * k)) (Lib.itoa (n * k)) = capR (m * k + n * k) := fun h1 h2 => addR_itoa h1 h2
        have DV := fun W (h : TabW W) => div_any (Lib.itoa m) (Lib.itoa n) W h
        have ht1 : (m.tdiv n).natAbs < 10 ^ 100 := Nat.lt_of_le_of_lt (tdiv_abs m n) hm
        have ht2 : (m.tmod n).natAbs < 10 ^ 100 := Nat.lt_of_le_of_lt (tmod_abs m n) hm
        have ht3 : (m.tdiv n * n).natAbs < 10 ^ 100 := Nat.lt_of_le_of_lt (tdiv_mul_abs m n) hm
        have MQ := fun W (h : TabW W) => mul_any (Lib.itoa (m.tdiv n)) (Lib.itoa n) W h
        rw [mulR_itoa ht1 hn, capR_ok ht3] at MQ
        have AR := fun W (h : TabW W) => add_any (Lib.itoa (m.tdiv n * n)) (Lib.itoa (m.tmod n)) W h
        rw [addR_itoa ht3 ht2, tdiv_mul, capR_ok hm] at AR
        have C1 := fun W (h : TabW W) => cmp_any (Lib.itoa (m.tmod n)) [48] W h
        have C2 := fun W (h : TabW W) => cmp_any (Lib.itoa m) [48] W h
        have C3 := fun W (h : TabW W) => cmp_any (Lib.itoa m) (Lib.itoa n) W h
        have C4 := fun W (h : TabW W) => cmp_any (Lib.itoa n) (Lib.itoa m) W h
        rw [← itoa_zero, cmpR_itoa ht2 (by decide)] at C1
        rw [← itoa_zero, cmpR_itoa hm (by decide)] at C2
        rw [itoa_zero] at C1 C2
        rw [cmpR_itoa hm hn] at C3
        rw [cmpR_itoa hn hm] at C4
        have hs34 : sgn (m - n) = -sgn (n - m) := by rw [← sgn_neg]; congr 1; omega
        rw [hs34] at C3
        have hs12 := sgn_tmod m n
        have hb1 := sgn_bounds (m.tmod n - 0)
        have hb2 := sgn_bounds (m - 0)
        have hb4 := sgn_bounds (n - m)
        have hdv : n = 0 → Lib.itoa n = [48] := fun h => by rw [h, itoa_zero]
        have hdv2 : n ≠ 0 → divR (Lib.itoa m) (Lib.itoa n) = (Lib.itoa (m.tdiv n), Lib.itoa (m.tmod n), 0) := fun h => divR_itoa hm hn h
        have hn0 : n ≠ 0 → (Lib.itoa n == [48]) = false := fun h => by
          rw [beq_eq_false_iff_ne, ← itoa_zero]
          exact fun e => h (itoa_inj e)
        generalize sgn (m.tmod n - 0) = s1 at C1 hs12 hb1
        generalize sgn (m - 0) = s2 at C2 hs12 hb2
        generalize sgn (n - m) = s4 at C3 C4 hb4
        obtain ⟨pp, hpp⟩ : ∃ pp, s1 * s2 = pp := ⟨_, rfl⟩
        have hppb : 0 ≤ pp ∧ pp ≤ 1 := by
          rw [← hpp]
          refine ⟨hs12, ?_⟩
          rcases (show s1 = -1 ∨ s1 = 0 ∨ s1 = 1 by omega) with h | h | h <;> subst h <;> omega
        have hpp0 := hppb.1
        have hpp1 := hppb.2
        have hb41 := hb4.1
        have hb42 := hb4.2
        have CA := capR_cases (m + n)
        have CX := capR_cases (m * k + n * k)
        have CY := capR_cases (m * k)
        have CZ := capR_cases (n * k)
        have CP := capR_cases (m * n)
        generalize capR (m * n) = cp at MP MO
        obtain ⟨p0, p1⟩ := cp
        clear hs12 hb1 hb2 hb4 hppb hs34 hga hgb hgc ht1 ht2 ht3 CP _la _lb _lc hm hn hk
        rcases CA with ⟨hA, eA⟩ | ⟨hA, eA⟩
        · rcases CX with ⟨hX, eX⟩ | ⟨hX, eX⟩
          · rcases CY with ⟨hY, eY⟩ | ⟨hY, eY⟩
            · rcases CZ with ⟨hZ, eZ⟩ | ⟨hZ, eZ⟩
              · have SB := SB hA
                have MC := MC hA
                rw [hSB hA] at SB
                rw [hMC hA] at MC
                rw [eA] at AD1 AD2
                rw [eX] at MC
                rw [eY] at MA
                rw [eZ] at MB
                rw [hAD3 hY hZ, eX] at AD3
                clear hSB hMC hAD3 hA eA hX eX hY eY hZ eZ
                go_enter Tryd.func7, Tryd.ntmps7
                go_wp2_with fail
                refine AW.mono ?_
                rintro e w1 ⟨rfl, hb1⟩
                go_wp2_with fail
                refine (G1 _).mono ?_
                rintro e w2 ⟨rfl, hq2⟩
                have hb2 := hb1.trans (hq2.mono hb1.size)
                clear hq2 hb1
                go_wp2_with fail
                refine (G2 _).mono ?_
                rintro e w3 ⟨rfl, hq3⟩
                have hb3 := hb2.trans (hq3.mono hb2.size)
                clear hq3 hb2
                go_wp2_with fail
                refine (G3 _).mono ?_
                rintro e w4 ⟨rfl, hq4⟩
                have hb4 := hb3.trans (hq4.mono hb3.size)
                clear hq4 hb3
                go_wp2_with fail
                refine (AD1 _ (HT.out.mono hb4)).mono ?_
                rintro e w5 ⟨rfl, hq5⟩
                have hb5 := hb4.trans (hq5.mono hb4.size)
                clear hq5 hb4
                go_wp2_with fail
                refine (AD2 _ (HT.out.mono hb5)).mono ?_
                rintro e w6 ⟨rfl, hq6⟩
                have hb6 := hb5.trans (hq6.mono hb5.size)
                clear hq6 hb5
                go_upto_if 56 with fail
                go_cut [7] from 7 (fun _ wx => Below w.heap.size w wx)
                case first =>
                  clear MP MO DV MQ AR C1 C2 C3 C4 hpp
                  go_wp2_with fail
                  refine (SB _ (HT.out.mono hb6)).mono ?_
                  rintro e w7 ⟨rfl, hq7⟩
                  have hb7 := hb6.trans (hq7.mono hb6.size)
                  clear hq7 hb6
                  go_wp2_with fail
                  refine (MC _ (HT.out.mono hb7)).mono ?_
                  rintro e w8 ⟨rfl, hq8⟩
                  have hb8 := hb7.trans (hq8.mono hb7.size)
                  clear hq8 hb7
                  go_wp2_with fail
                  refine (MA _ (HT.out.mono hb8)).mono ?_
                  rintro e w9 ⟨rfl, hq9⟩
                  have hb9 := hb8.trans (hq9.mono hb8.size)
                  clear hq9 hb8
                  go_wp2_with fail
                  refine (MB _ (HT.out.mono hb9)).mono ?_
                  rintro e w10 ⟨rfl, hq10⟩
                  have hb10 := hb9.trans (hq10.mono hb9.size)
                  clear hq10 hb9
                  go_wp2_with fail
                  refine (AD3 _ (HT.out.mono hb10)).mono ?_
                  rintro e w11 ⟨rfl, hq11⟩
                  have hb11 := hb10.trans (hq11.mono hb10.size)
                  clear hq11 hb10
                  go_wp2
                  go_meet
                  exact hb11
                case rest =>
                  have hbc := hcut
                  clear AD1 AD2 MA MB SB MC AD3
                  by_cases hz0 : n = 0
                  · have hzz : (Lib.itoa n == [48]) = true := by rw [hdv hz0]; rfl
                    clear hdv hdv2 hn0 hz0 DV MQ AR C1 C2 C3 C4 hpp
                    go_wp2_with fail
                    refine (MP _ (HT.out.mono hbc)).mono ?_
                    rintro e w1 ⟨rfl, hq1⟩
                    have hb1 := hbc.trans (hq1.mono hbc.size)
                    clear hq1 hbc
                    go_wp2_with fail
                    refine (MO _ (HT.out.mono hb1)).mono ?_
                    rintro e w2 ⟨rfl, hq2⟩
                    have hb2 := hb1.trans (hq2.mono hb1.size)
                    clear hq2 hb1
                    go_wp2
                    go_ret
                    exact ⟨rfl, hb2⟩
                  · have hzz := hn0 hz0
                    have e3 := hdv2 hz0
                    rw [e3] at DV
                    clear hdv hdv2 hn0 hz0 e3
                    go_wp2_with fail
                    refine (MP _ (HT.out.mono hbc)).mono ?_
                    rintro e w1 ⟨rfl, hq1⟩
                    have hb1 := hbc.trans (hq1.mono hbc.size)
                    clear hq1 hbc
                    go_wp2_with fail
                    refine (MO _ (HT.out.mono hb1)).mono ?_
                    rintro e w2 ⟨rfl, hq2⟩
                    have hb2 := hb1.trans (hq2.mono hb1.size)
                    clear hq2 hb1
                    go_wp2_with fail
                    refine (DV _ (HT.out.mono hb2)).mono ?_
                    rintro e w3 ⟨rfl, hq3⟩
                    have hb3 := hb2.trans (hq3.mono hb2.size)
                    clear hq3 hb2
                    go_wp2_with fail
                    refine (MQ _ (HT.out.mono hb3)).mono ?_
                    rintro e w4 ⟨rfl, hq4⟩
                    have hb4 := hb3.trans (hq4.mono hb3.size)
                    clear hq4 hb3
                    go_wp2_with fail
                    refine (AR _ (HT.out.mono hb4)).mono ?_
                    rintro e w5 ⟨rfl, hq5⟩
                    have hb5 := hb4.trans (hq5.mono hb4.size)
                    clear hq5 hb4
                    go_wp2_with fail
                    refine (C1 _ (HT.out.mono hb5)).mono ?_
                    rintro e w6 ⟨rfl, hq6⟩
                    have hb6 := hb5.trans (hq6.mono hb5.size)
                    clear hq6 hb5
                    go_wp2_with fail
                    refine (C2 _ (HT.out.mono hb6)).mono ?_
                    rintro e w7 ⟨rfl, hq7⟩
                    have hb7 := hb6.trans (hq7.mono hb6.size)
                    clear hq7 hb6
                    go_wp2_with fail
                    refine (C3 _ (HT.out.mono hb7)).mono ?_
                    rintro e w8 ⟨rfl, hq8⟩
                    have hb8 := hb7.trans (hq8.mono hb7.size)
                    clear hq8 hb7
                    go_wp2_with fail
                    refine (C4 _ (HT.out.mono hb8)).mono ?_
                    rintro e w9 ⟨rfl, hq9⟩
                    have hb9 := hb8.trans (hq9.mono hb8.size)
                    clear hq9 hb8
                    go_wp2
                    go_ret
                    exact ⟨rfl, hb9⟩
              · have SB := SB hA
                have MC := MC hA
                rw [hSB hA] at SB
                rw [hMC hA] at MC
                rw [eA] at AD1 AD2
                rw [eX] at MC
                rw [eY] at MA
                rw [eZ] at MB
                clear hSB hMC hAD3 hA eA hX eX hY eY hZ eZ
                go_enter Tryd.func7, Tryd.ntmps7
                go_wp2_with fail
                refine AW.mono ?_
                rintro e w1 ⟨rfl, hb1⟩
                go_wp2_with fail
                refine (G1 _).mono ?_
                rintro e w2 ⟨rfl, hq2⟩
                have hb2 := hb1.trans (hq2.mono hb1.size)
                clear hq2 hb1
                go_wp2_with fail
                refine (G2 _).mono ?_
                rintro e w3 ⟨rfl, hq3⟩
                have hb3 := hb2.trans (hq3.mono hb2.size)
                clear hq3 hb2
                go_wp2_with fail
                refine (G3 _).mono ?_
                rintro e w4 ⟨rfl, hq4⟩
                have hb4 := hb3.trans (hq4.mono hb3.size)
                clear hq4 hb3
                go_wp2_with fail
                refine (AD1 _ (HT.out.mono hb4)).mono ?_
                rintro e w5 ⟨rfl, hq5⟩
                have hb5 := hb4.trans (hq5.mono hb4.size)
                clear hq5 hb4
                go_wp2_with fail
                refine (AD2 _ (HT.out.mono hb5)).mono ?_
                rintro e w6 ⟨rfl, hq6⟩
                have hb6 := hb5.trans (hq6.mono hb5.size)
                clear hq6 hb5
                go_upto_if 56 with fail
                go_cut [7] from 7 (fun _ wx => Below w.heap.size w wx)
                case first =>
                  clear MP MO DV MQ AR C1 C2 C3 C4 hpp
                  go_wp2_with fail
                  refine (SB _ (HT.out.mono hb6)).mono ?_
                  rintro e w7 ⟨rfl, hq7⟩
                  have hb7 := hb6.trans (hq7.mono hb6.size)
                  clear hq7 hb6
                  go_wp2_with fail
                  refine (MC _ (HT.out.mono hb7)).mono ?_
                  rintro e w8 ⟨rfl, hq8⟩
                  have hb8 := hb7.trans (hq8.mono hb7.size)
                  clear hq8 hb7
                  go_wp2_with fail
                  refine (MA _ (HT.out.mono hb8)).mono ?_
                  rintro e w9 ⟨rfl, hq9⟩
                  have hb9 := hb8.trans (hq9.mono hb8.size)
                  clear hq9 hb8
                  go_wp2_with fail
                  refine (MB _ (HT.out.mono hb9)).mono ?_
                  rintro e w10 ⟨rfl, hq10⟩
                  have hb10 := hb9.trans (hq10.mono hb9.size)
                  clear hq10 hb9
                  go_wp2
                  go_meet
                  exact hb10
                case rest =>
                  have hbc := hcut
                  clear AD1 AD2 MA MB SB MC AD3
                  by_cases hz0 : n = 0
                  · have hzz : (Lib.itoa n == [48]) = true := by rw [hdv hz0]; rfl
                    clear hdv hdv2 hn0 hz0 DV MQ AR C1 C2 C3 C4 hpp
                    go_wp2_with fail
                    refine (MP _ (HT.out.mono hbc)).mono ?_
                    rintro e w1 ⟨rfl, hq1⟩
                    have hb1 := hbc.trans (hq1.mono hbc.size)
                    clear hq1 hbc
                    go_wp2_with fail
                    refine (MO _ (HT.out.mono hb1)).mono ?_
                    rintro e w2 ⟨rfl, hq2⟩
                    have hb2 := hb1.trans (hq2.mono hb1.size)
                    clear hq2 hb1
                    go_wp2
                    go_ret
                    exact ⟨rfl, hb2⟩
                  · have hzz := hn0 hz0
                    have e3 := hdv2 hz0
                    rw [e3] at DV
                    clear hdv hdv2 hn0 hz0 e3
                    go_wp2_with fail
                    refine (MP _ (HT.out.mono hbc)).mono ?_
                    rintro e w1 ⟨rfl, hq1⟩
                    have hb1 := hbc.trans (hq1.mono hbc.size)
                    clear hq1 hbc
                    go_wp2_with fail
                    refine (MO _ (HT.out.mono hb1)).mono ?_
                    rintro e w2 ⟨rfl, hq2⟩
                    have hb2 := hb1.trans (hq2.mono hb1.size)
                    clear hq2 hb1
                    go_wp2_with fail
                    refine (DV _ (HT.out.mono hb2)).mono ?_
                    rintro e w3 ⟨rfl, hq3⟩
                    have hb3 := hb2.trans (hq3.mono hb2.size)
                    clear hq3 hb2
                    go_wp2_with fail
                    refine (MQ _ (HT.out.mono hb3)).mono ?_
                    rintro e w4 ⟨rfl, hq4⟩
                    have hb4 := hb3.trans (hq4.mono hb3.size)
                    clear hq4 hb3
                    go_wp2_with fail
                    refine (AR _ (HT.out.mono hb4)).mono ?_
                    rintro e w5 ⟨rfl, hq5⟩
                    have hb5 := hb4.trans (hq5.mono hb4.size)
                    clear hq5 hb4
                    go_wp2_with fail
                    refine (C1 _ (HT.out.mono hb5)).mono ?_
                    rintro e w6 ⟨rfl, hq6⟩
                    have hb6 := hb5.trans (hq6.mono hb5.size)
                    clear hq6 hb5
                    go_wp2_with fail
                    refine (C2 _ (HT.out.mono hb6)).mono ?_
                    rintro e w7 ⟨rfl, hq7⟩
                    have hb7 := hb6.trans (hq7.mono hb6.size)
                    clear hq7 hb6
                    go_wp2_with fail
                    refine (C3 _ (HT.out.mono hb7)).mono ?_
                    rintro e w8 ⟨rfl, hq8⟩
                    have hb8 := hb7.trans (hq8.mono hb7.size)
                    clear hq8 hb7
                    go_wp2_with fail
                    refine (C4 _ (HT.out.mono hb8)).mono ?_
                    rintro e w9 ⟨rfl, hq9⟩
                    have hb9 := hb8.trans (hq9.mono hb8.size)
                    clear hq9 hb8
                    go_wp2
                    go_ret
                    exact ⟨rfl, hb9⟩
            · rcases CZ with ⟨hZ, eZ⟩ | ⟨hZ, eZ⟩
              · have SB := SB hA
                have MC := MC hA
                rw [hSB hA] at SB
                rw [hMC hA] at MC
                rw [eA] at AD1 AD2
                rw [eX] at MC
                rw [eY] at MA
                rw [eZ] at MB
                clear hSB hMC hAD3 hA eA hX eX hY eY hZ eZ
                go_enter Tryd.func7, Tryd.ntmps7
                go_wp2_with fail
                refine AW.mono ?_
                rintro e w1 ⟨rfl, hb1⟩
                go_wp2_with fail
                refine (G1 _).mono ?_
                rintro e w2 ⟨rfl, hq2⟩
                have hb2 := hb1.trans (hq2.mono hb1.size)
                clear hq2 hb1
                go_wp2_with fail
                refine (G2 _).mono ?_
                rintro e w3 ⟨rfl, hq3⟩
                have hb3 := hb2.trans (hq3.mono hb2.size)
                clear hq3 hb2
                go_wp2_with fail
                refine (G3 _).mono ?_
                rintro e w4 ⟨rfl, hq4⟩
                have hb4 := hb3.trans (hq4.mono hb3.size)
                clear hq4 hb3
                go_wp2_with fail
                refine (AD1 _ (HT.out.mono hb4)).mono ?_
                rintro e w5 ⟨rfl, hq5⟩
                have hb5 := hb4.trans (hq5.mono hb4.size)
                clear hq5 hb4
                go_wp2_with fail
                refine (AD2 _ (HT.out.mono hb5)).mono ?_
                rintro e w6 ⟨rfl, hq6⟩
                have hb6 := hb5.trans (hq6.mono hb5.size)
                clear hq6 hb5
                go_upto_if 56 with fail
                go_cut [7] from 7 (fun _ wx => Below w.heap.size w wx)
                case first =>
                  clear MP MO DV MQ AR C1 C2 C3 C4 hpp
                  go_wp2_with fail
                  refine (SB _ (HT.out.mono hb6)).mono ?_
                  rintro e w7 ⟨rfl, hq7⟩
                  have hb7 := hb6.trans (hq7.mono hb6.size)
                  clear hq7 hb6
                  go_wp2_with fail
                  refine (MC _ (HT.out.mono hb7)).mono ?_
                  rintro e w8 ⟨rfl, hq8⟩
                  have hb8 := hb7.trans (hq8.mono hb7.size)
                  clear hq8 hb7
                  go_wp2_with fail
                  refine (MA _ (HT.out.mono hb8)).mono ?_
                  rintro e w9 ⟨rfl, hq9⟩
                  have hb9 := hb8.trans (hq9.mono hb8.size)
                  clear hq9 hb8
                  go_wp2_with fail
                  refine (MB _ (HT.out.mono hb9)).mono ?_
                  rintro e w10 ⟨rfl, hq10⟩
                  have hb10 := hb9.trans (hq10.mono hb9.size)
                  clear hq10 hb9
                  go_wp2
                  go_meet
                  exact hb10
                case rest =>
                  have hbc := hcut
                  clear AD1 AD2 MA MB SB MC AD3
                  by_cases hz0 : n = 0
                  · have hzz : (Lib.itoa n == [48]) = true := by rw [hdv hz0]; rfl
                    clear hdv hdv2 hn0 hz0 DV MQ AR C1 C2 C3 C4 hpp
                    go_wp2_with fail
                    refine (MP _ (HT.out.mono hbc)).mono ?_
                    rintro e w1 ⟨rfl, hq1⟩
                    have hb1 := hbc.trans (hq1.mono hbc.size)
                    clear hq1 hbc
                    go_wp2_with fail
                    refine (MO _ (HT.out.mono hb1)).mono ?_
                    rintro e w2 ⟨rfl, hq2⟩
                    have hb2 := hb1.trans (hq2.mono hb1.size)
                    clear hq2 hb1
                    go_wp2
                    go_ret
                    exact ⟨rfl, hb2⟩
                  · have hzz := hn0 hz0
                    have e3 := hdv2 hz0
                    rw [e3] at DV
                    clear hdv hdv2 hn0 hz0 e3
                    go_wp2_with fail
                    refine (MP _ (HT.out.mono hbc)).mono ?_
                    rintro e w1 ⟨rfl, hq1⟩
                    have hb1 := hbc.trans (hq1.mono hbc.size)
                    clear hq1 hbc
                    go_wp2_with fail
                    refine (MO _ (HT.out.mono hb1)).mono ?_
                    rintro e w2 ⟨rfl, hq2⟩
                    have hb2 := hb1.trans (hq2.mono hb1.size)
                    clear hq2 hb1
                    go_wp2_with fail
                    refine (DV _ (HT.out.mono hb2)).mono ?_
                    rintro e w3 ⟨rfl, hq3⟩
                    have hb3 := hb2.trans (hq3.mono hb2.size)
                    clear hq3 hb2
                    go_wp2_with fail
                    refine (MQ _ (HT.out.mono hb3)).mono ?_
                    rintro e w4 ⟨rfl, hq4⟩
                    have hb4 := hb3.trans (hq4.mono hb3.size)
                    clear hq4 hb3
                    go_wp2_with fail
                    refine (AR _ (HT.out.mono hb4)).mono ?_
                    rintro e w5 ⟨rfl, hq5⟩
                    have hb5 := hb4.trans (hq5.mono hb4.size)
                    clear hq5 hb4
                    go_wp2_with fail
                    refine (C1 _ (HT.out.mono hb5)).mono ?_
                    rintro e w6 ⟨rfl, hq6⟩
                    have hb6 := hb5.trans (hq6.mono hb5.size)
                    clear hq6 hb5
                    go_wp2_with fail
                    refine (C2 _ (HT.out.mono hb6)).mono ?_
                    rintro e w7 ⟨rfl, hq7⟩
                    have hb7 := hb6.trans (hq7.mono hb6.size)
                    clear hq7 hb6
                    go_wp2_with fail
                    refine (C3 _ (HT.out.mono hb7)).mono ?_
                    rintro e w8 ⟨rfl, hq8⟩
                    have hb8 := hb7.trans (hq8.mono hb7.size)
                    clear hq8 hb7
                    go_wp2_with fail
                    refine (C4 _ (HT.out.mono hb8)).mono ?_
                    rintro e w9 ⟨rfl, hq9⟩
                    have hb9 := hb8.trans (hq9.mono hb8.size)
                    clear hq9 hb8
                    go_wp2
                    go_ret
                    exact ⟨rfl, hb9⟩
              · have SB := SB hA
                have MC := MC hA
                rw [hSB hA] at SB
                rw [hMC hA] at MC
                rw [eA] at AD1 AD2
                rw [eX] at MC
                rw [eY] at MA
                rw [eZ] at MB
                clear hSB hMC hAD3 hA eA hX eX hY eY hZ eZ
                go_enter Tryd.func7, Tryd.ntmps7
                go_wp2_with fail
                refine AW.mono ?_
                rintro e w1 ⟨rfl, hb1⟩
                go_wp2_with fail
                refine (G1 _).mono ?_
                rintro e w2 ⟨rfl, hq2⟩
                have hb2 := hb1.trans (hq2.mono hb1.size)
                clear hq2 hb1
                go_wp2_with fail
                refine (G2 _).mono ?_
                rintro e w3 ⟨rfl, hq3⟩
                have hb3 := hb2.trans (hq3.mono hb2.size)
                clear hq3 hb2
                go_wp2_with fail
                refine (G3 _).mono ?_
                rintro e w4 ⟨rfl, hq4⟩
                have hb4 := hb3.trans (hq4.mono hb3.size)
                clear hq4 hb3
                go_wp2_with fail
                refine (AD1 _ (HT.out.mono hb4)).mono ?_
                rintro e w5 ⟨rfl, hq5⟩
                have hb5 := hb4.trans (hq5.mono hb4.size)
                clear hq5 hb4
                go_wp2_with fail
                refine (AD2 _ (HT.out.mono hb5)).mono ?_
                rintro e w6 ⟨rfl, hq6⟩
                have hb6 := hb5.trans (hq6.mono hb5.size)
                clear hq6 hb5
                go_upto_if 56 with fail
                go_cut [7] from 7 (fun _ wx => Below w.heap.size w wx)
                case first =>
                  clear MP MO DV MQ AR C1 C2 C3 C4 hpp
                  go_wp2_with fail
                  refine (SB _ (HT.out.mono hb6)).mono ?_
                  rintro e w7 ⟨rfl, hq7⟩
                  have hb7 := hb6.trans (hq7.mono hb6.size)
                  clear hq7 hb6
                  go_wp2_with fail
                  refine (MC _ (HT.out.mono hb7)).mono ?_
                  rintro e w8 ⟨rfl, hq8⟩
                  have hb8 := hb7.trans (hq8.mono hb7.size)
                  clear hq8 hb7
                  go_wp2_with fail
                  refine (MA _ (HT.out.mono hb8)).mono ?_
                  rintro e w9 ⟨rfl, hq9⟩
                  have hb9 := hb8.trans (hq9.mono hb8.size)
                  clear hq9 hb8
                  go_wp2_with fail
                  refine (MB _ (HT.out.mono hb9)).mono ?_
                  rintro e w10 ⟨rfl, hq10⟩
                  have hb10 := hb9.trans (hq10.mono hb9.size)
                  clear hq10 hb9
                  go_wp2
                  go_meet
                  exact hb10
                case rest =>
                  have hbc := hcut
                  clear AD1 AD2 MA MB SB MC AD3
                  by_cases hz0 : n = 0
                  · have hzz : (Lib.itoa n == [48]) = true := by rw [hdv hz0]; rfl
                    clear hdv hdv2 hn0 hz0 DV MQ AR C1 C2 C3 C4 hpp
                    go_wp2_with fail
                    refine (MP _ (HT.out.mono hbc)).mono ?_
                    rintro e w1 ⟨rfl, hq1⟩
                    have hb1 := hbc.trans (hq1.mono hbc.size)
                    clear hq1 hbc
                    go_wp2_with fail
                    refine (MO _ (HT.out.mono hb1)).mono ?_
                    rintro e w2 ⟨rfl, hq2⟩
                    have hb2 := hb1.trans (hq2.mono hb1.size)
                    clear hq2 hb1
                    go_wp2
                    go_ret
                    exact ⟨rfl, hb2⟩
                  · have hzz := hn0 hz0
                    have e3 := hdv2 hz0
                    rw [e3] at DV
                    clear hdv hdv2 hn0 hz0 e3
                    go_wp2_with fail
                    refine (MP _ (HT.out.mono hbc)).mono ?_
                    rintro e w1 ⟨rfl, hq1⟩
                    have hb1 := hbc.trans (hq1.mono hbc.size)
                    clear hq1 hbc
                    go_wp2_with fail
                    refine (MO _ (HT.out.mono hb1)).mono ?_
                    rintro e w2 ⟨rfl, hq2⟩
                    have hb2 := hb1.trans (hq2.mono hb1.size)
                    clear hq2 hb1
                    go_wp2_with fail
                    refine (DV _ (HT.out.mono hb2)).mono ?_
                    rintro e w3 ⟨rfl, hq3⟩
                    have hb3 := hb2.trans (hq3.mono hb2.size)
                    clear hq3 hb2
                    go_wp2_with fail
                    refine (MQ _ (HT.out.mono hb3)).mono ?_
                    rintro e w4 ⟨rfl, hq4⟩
                    have hb4 := hb3.trans (hq4.mono hb3.size)
                    clear hq4 hb3
                    go_wp2_with fail
                    refine (AR _ (HT.out.mono hb4)).mono ?_
                    rintro e w5 ⟨rfl, hq5⟩
                    have hb5 := hb4.trans (hq5.mono hb4.size)
                    clear hq5 hb4
                    go_wp2_with fail
                    refine (C1 _ (HT.out.mono hb5)).mono ?_
                    rintro e w6 ⟨rfl, hq6⟩
                    have hb6 := hb5.trans (hq6.mono hb5.size)
                    clear hq6 hb5
                    go_wp2_with fail
                    refine (C2 _ (HT.out.mono hb6)).mono ?_
                    rintro e w7 ⟨rfl, hq7⟩
                    have hb7 := hb6.trans (hq7.mono hb6.size)
                    clear hq7 hb6
                    go_wp2_with fail
                    refine (C3 _ (HT.out.mono hb7)).mono ?_
                    rintro e w8 ⟨rfl, hq8⟩
                    have hb8 := hb7.trans (hq8.mono hb7.size)
                    clear hq8 hb7
                    go_wp2_with fail
                    refine (C4 _ (HT.out.mono hb8)).mono ?_
                    rintro e w9 ⟨rfl, hq9⟩
                    have hb9 := hb8.trans (hq9.mono hb8.size)
                    clear hq9 hb8
                    go_wp2
                    go_ret
                    exact ⟨rfl, hb9⟩
          · obtain ⟨yy, yc, ey⟩ : ∃ yy yc, capR (m * k) = (yy, yc) := ⟨_, _, rfl⟩
            obtain ⟨zz, zc, ez⟩ : ∃ zz zc, capR (n * k) = (zz, zc) := ⟨_, _, rfl⟩
            rw [ey] at MA
            rw [ez] at MB
            have SB := SB hA
            have MC := MC hA
            rw [hSB hA] at SB
            rw [hMC hA] at MC
            rw [eA] at AD1 AD2
            rw [eX] at MC
            clear hSB hMC hAD3 hA eA hX eX CY CZ ey ez
            go_enter Tryd.func7, Tryd.ntmps7
            go_wp2_with fail
            refine AW.mono ?_
            rintro e w1 ⟨rfl, hb1⟩
            go_wp2_with fail
            refine (G1 _).mono ?_
            rintro e w2 ⟨rfl, hq2⟩
            have hb2 := hb1.trans (hq2.mono hb1.size)
            clear hq2 hb1
            go_wp2_with fail
            refine (G2 _).mono ?_
            rintro e w3 ⟨rfl, hq3⟩
            have hb3 := hb2.trans (hq3.mono hb2.size)
            clear hq3 hb2
            go_wp2_with fail
            refine (G3 _).mono ?_
            rintro e w4 ⟨rfl, hq4⟩
            have hb4 := hb3.trans (hq4.mono hb3.size)
            clear hq4 hb3
            go_wp2_with fail
            refine (AD1 _ (HT.out.mono hb4)).mono ?_
            rintro e w5 ⟨rfl, hq5⟩
            have hb5 := hb4.trans (hq5.mono hb4.size)
            clear hq5 hb4
            go_wp2_with fail
            refine (AD2 _ (HT.out.mono hb5)).mono ?_
            rintro e w6 ⟨rfl, hq6⟩
            have hb6 := hb5.trans (hq6.mono hb5.size)
            clear hq6 hb5
            go_upto_if 56 with fail
            go_cut [7] from 7 (fun _ wx => Below w.heap.size w wx)
            case first =>
              clear MP MO DV MQ AR C1 C2 C3 C4 hpp
              go_wp2_with fail
              refine (SB _ (HT.out.mono hb6)).mono ?_
              rintro e w7 ⟨rfl, hq7⟩
              have hb7 := hb6.trans (hq7.mono hb6.size)
              clear hq7 hb6
              go_wp2_with fail
              refine (MC _ (HT.out.mono hb7)).mono ?_
              rintro e w8 ⟨rfl, hq8⟩
              have hb8 := hb7.trans (hq8.mono hb7.size)
              clear hq8 hb7
              go_wp2_with fail
              refine (MA _ (HT.out.mono hb8)).mono ?_
              rintro e w9 ⟨rfl, hq9⟩
              have hb9 := hb8.trans (hq9.mono hb8.size)
              clear hq9 hb8
              go_wp2_with fail
              refine (MB _ (HT.out.mono hb9)).mono ?_
              rintro e w10 ⟨rfl, hq10⟩
              have hb10 := hb9.trans (hq10.mono hb9.size)
              clear hq10 hb9
              go_wp2
              go_meet
              exact hb10
            case rest =>
              have hbc := hcut
              clear AD1 AD2 MA MB SB MC AD3
              by_cases hz0 : n = 0
              · have hzz : (Lib.itoa n == [48]) = true := by rw [hdv hz0]; rfl
                clear hdv hdv2 hn0 hz0 DV MQ AR C1 C2 C3 C4 hpp
                go_wp2_with fail
                refine (MP _ (HT.out.mono hbc)).mono ?_
                rintro e w1 ⟨rfl, hq1⟩
                have hb1 := hbc.trans (hq1.mono hbc.size)
                clear hq1 hbc
                go_wp2_with fail
                refine (MO _ (HT.out.mono hb1)).mono ?_
                rintro e w2 ⟨rfl, hq2⟩
                have hb2 := hb1.trans (hq2.mono hb1.size)
                clear hq2 hb1
                go_wp2
                go_ret
                exact ⟨rfl, hb2⟩
              · have hzz := hn0 hz0
                have e3 := hdv2 hz0
                rw [e3] at DV
                clear hdv hdv2 hn0 hz0 e3
                go_wp2_with fail
                refine (MP _ (HT.out.mono hbc)).mono ?_
                rintro e w1 ⟨rfl, hq1⟩
                have hb1 := hbc.trans (hq1.mono hbc.size)
                clear hq1 hbc
                go_wp2_with fail
                refine (MO _ (HT.out.mono hb1)).mono ?_
                rintro e w2 ⟨rfl, hq2⟩
                have hb2 := hb1.trans (hq2.mono hb1.size)
                clear hq2 hb1
                go_wp2_with fail
                refine (DV _ (HT.out.mono hb2)).mono ?_
                rintro e w3 ⟨rfl, hq3⟩
                have hb3 := hb2.trans (hq3.mono hb2.size)
                clear hq3 hb2
                go_wp2_with fail
                refine (MQ _ (HT.out.mono hb3)).mono ?_
                rintro e w4 ⟨rfl, hq4⟩
                have hb4 := hb3.trans (hq4.mono hb3.size)
                clear hq4 hb3
                go_wp2_with fail
                refine (AR _ (HT.out.mono hb4)).mono ?_
                rintro e w5 ⟨rfl, hq5⟩
                have hb5 := hb4.trans (hq5.mono hb4.size)
                clear hq5 hb4
                go_wp2_with fail
                refine (C1 _ (HT.out.mono hb5)).mono ?_
                rintro e w6 ⟨rfl, hq6⟩
                have hb6 := hb5.trans (hq6.mono hb5.size)
                clear hq6 hb5
                go_wp2_with fail
                refine (C2 _ (HT.out.mono hb6)).mono ?_
                rintro e w7 ⟨rfl, hq7⟩
                have hb7 := hb6.trans (hq7.mono hb6.size)
                clear hq7 hb6
                go_wp2_with fail
                refine (C3 _ (HT.out.mono hb7)).mono ?_
                rintro e w8 ⟨rfl, hq8⟩
                have hb8 := hb7.trans (hq8.mono hb7.size)
                clear hq8 hb7
                go_wp2_with fail
                refine (C4 _ (HT.out.mono hb8)).mono ?_
                rintro e w9 ⟨rfl, hq9⟩
                have hb9 := hb8.trans (hq9.mono hb8.size)
                clear hq9 hb8
                go_wp2
                go_ret
                exact ⟨rfl, hb9⟩
        · rw [eA] at AD1 AD2
          clear hSB hMC hAD3 hA eA CX CY CZ
          go_enter Tryd.func7, Tryd.ntmps7
          go_wp2_with fail
          refine AW.mono ?_
          rintro e w1 ⟨rfl, hb1⟩
          go_wp2_with fail
          refine (G1 _).mono ?_
          rintro e w2 ⟨rfl, hq2⟩
          have hb2 := hb1.trans (hq2.mono hb1.size)
          clear hq2 hb1
          go_wp2_with fail
          refine (G2 _).mono ?_
          rintro e w3 ⟨rfl, hq3⟩
          have hb3 := hb2.trans (hq3.mono hb2.size)
          clear hq3 hb2
          go_wp2_with fail
          refine (G3 _).mono ?_
          rintro e w4 ⟨rfl, hq4⟩
          have hb4 := hb3.trans (hq4.mono hb3.size)
          clear hq4 hb3
          go_wp2_with fail
          refine (AD1 _ (HT.out.mono hb4)).mono ?_
          rintro e w5 ⟨rfl, hq5⟩
          have hb5 := hb4.trans (hq5.mono hb4.size)
          clear hq5 hb4
          go_wp2_with fail
          refine (AD2 _ (HT.out.mono hb5)).mono ?_
          rintro e w6 ⟨rfl, hq6⟩
          have hb6 := hb5.trans (hq6.mono hb5.size)
          clear hq6 hb5
          go_upto_if 56 with fail
          go_cut [7] from 7 (fun _ wx => Below w.heap.size w wx)
          case first =>
            clear MP MO DV MQ AR C1 C2 C3 C4 hpp
            go_wp2
            go_meet
            exact hb6
          case rest =>
            have hbc := hcut
            clear AD1 AD2 MA MB SB MC AD3
            by_cases hz0 : n = 0
            · have hzz : (Lib.itoa n == [48]) = true := by rw [hdv hz0]; rfl
              clear hdv hdv2 hn0 hz0 DV MQ AR C1 C2 C3 C4 hpp
              go_wp2_with fail
              refine (MP _ (HT.out.mono hbc)).mono ?_
              rintro e w1 ⟨rfl, hq1⟩
              have hb1 := hbc.trans (hq1.mono hbc.size)
              clear hq1 hbc
              go_wp2_with fail
              refine (MO _ (HT.out.mono hb1)).mono ?_
              rintro e w2 ⟨rfl, hq2⟩
              have hb2 := hb1.trans (hq2.mono hb1.size)
              clear hq2 hb1
              go_wp2
              go_ret
              exact ⟨rfl, hb2⟩
            · have hzz := hn0 hz0
              have e3 := hdv2 hz0
              rw [e3] at DV
              clear hdv hdv2 hn0 hz0 e3
              go_wp2_with fail
              refine (MP _ (HT.out.mono hbc)).mono ?_
              rintro e w1 ⟨rfl, hq1⟩
              have hb1 := hbc.trans (hq1.mono hbc.size)
              clear hq1 hbc
              go_wp2_with fail
              refine (MO _ (HT.out.mono hb1)).mono ?_
              rintro e w2 ⟨rfl, hq2⟩
              have hb2 := hb1.trans (hq2.mono hb1.size)
              clear hq2 hb1
              go_wp2_with fail
              refine (DV _ (HT.out.mono hb2)).mono ?_
              rintro e w3 ⟨rfl, hq3⟩
              have hb3 := hb2.trans (hq3.mono hb2.size)
              clear hq3 hb2
              go_wp2_with fail
              refine (MQ _ (HT.out.mono hb3)).mono ?_
              rintro e w4 ⟨rfl, hq4⟩
              have hb4 := hb3.trans (hq4.mono hb3.size)
              clear hq4 hb3
              go_wp2_with fail
              refine (AR _ (HT.out.mono hb4)).mono ?_
              rintro e w5 ⟨rfl, hq5⟩
              have hb5 := hb4.trans (hq5.mono hb4.size)
              clear hq5 hb4
              go_wp2_with fail
              refine (C1 _ (HT.out.mono hb5)).mono ?_
              rintro e w6 ⟨rfl, hq6⟩
              have hb6 := hb5.trans (hq6.mono hb5.size)
              clear hq6 hb5
              go_wp2_with fail
              refine (C2 _ (HT.out.mono hb6)).mono ?_
              rintro e w7 ⟨rfl, hq7⟩
              have hb7 := hb6.trans (hq7.mono hb6.size)
              clear hq7 hb6
              go_wp2_with fail
              refine (C3 _ (HT.out.mono hb7)).mono ?_
              rintro e w8 ⟨rfl, hq8⟩
              have hb8 := hb7.trans (hq8.mono hb7.size)
              clear hq8 hb7
              go_wp2_with fail
              refine (C4 _ (HT.out.mono hb8)).mono ?_
              rintro e w9 ⟨rfl, hq9⟩
              have hb9 := hb8.trans (hq9.mono hb8.size)
              clear hq9 hb8
              go_wp2
              go_ret
              exact ⟨rfl, hb9⟩

end Go.Proofs.YtekpdmjobkikfaaDoor
