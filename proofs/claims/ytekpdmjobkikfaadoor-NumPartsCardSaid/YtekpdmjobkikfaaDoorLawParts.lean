/- The walk of the law on a number cut in two: it answers true of any text and any place. -/
import Derived.Test.YtekpdmjobkikfaaDoorAwake
import Derived.Test.YtekpdmjobkikfaaDoorRefP
namespace Go.Proofs.YtekpdmjobkikfaaDoor
open Go.RowKit
set_option maxRecDepth 100000
attribute [local go_sem] str_size str_toList str_get

theorem bareL_len : ∀ l : List UInt8, (bareL l).length ≤ l.length
  | [] => Nat.le_refl _
  | [_] => Nat.le_refl _
  | c :: d :: l => by
    unfold bareL
    split
    · exact Nat.le_trans (bareL_len (d :: l)) (by simp)
    · exact Nat.le_refl _
theorem u8_eq' (c d : UInt8) : ((c.toNat : Int) == (d.toNat : Int)) = (c == d) := by
  rw [Bool.eq_iff_iff, beq_iff_eq, beq_iff_eq]
  constructor
  · intro h; exact UInt8.toNat_inj.1 (by omega)
  · rintro rfl; rfl
/-- What the law asks of a number that is cut in two. -/
theorem parts_plain {a : List UInt8} (hg : goodS a = true) (h45 : a.head? ≠ some 45) {p : Nat} (hp1 : 1 ≤ p) (hp : p < a.length) :
    mulR (a.take p) (49 :: List.replicate (a.length - p) 48) = (Lib.itoa (valD (a.take p) * 10 ^ (a.length - p) : Nat), 0) ∧
    addR (Lib.itoa (valD (a.take p) * 10 ^ (a.length - p) : Nat)) (bareL (a.drop p)) = (a, 0) ∧
    divR a (49 :: List.replicate (a.length - p) 48) = (a.take p, bareL (a.drop p), 0) := by
  have hs : sizeS a = a := by unfold sizeS; rw [if_neg h45]
  have hgg := hg
  unfold goodS at hgg
  simp only [hs, Bool.and_eq_true, Bool.not_eq_true', List.isEmpty_eq_false_iff, decide_eq_true_eq, Bool.or_eq_true, beq_eq_false_iff_ne, beq_iff_eq] at hgg
  obtain ⟨⟨⟨hn, h100⟩, h48⟩, hd⟩ := hgg
  have h48' : a.head? ≠ some 48 := by
    rcases h48 with h | h
    · exact h
    · have : a.length = 1 := by rw [h]; rfl
      omega
  have hdt : allD (a.take p) = true := by
    unfold allD at hd ⊢
    rw [List.all_eq_true] at hd ⊢
    exact fun c hc => hd c (List.mem_of_mem_take hc)
  have hdd : allD (a.drop p) = true := by
    unfold allD at hd ⊢
    rw [List.all_eq_true] at hd ⊢
    exact fun c hc => hd c (List.mem_of_mem_drop hc)
  have htn : a.take p ≠ [] := by
    intro e
    have := congrArg List.length e
    rw [List.length_take, Nat.min_eq_left (by omega)] at this
    simp at this
    omega
  have hdn : a.drop p ≠ [] := by
    intro e
    have := congrArg List.length e
    rw [List.length_drop] at this
    simp at this
    omega
  have hth : (a.take p).head? ≠ some 48 := by
    rw [List.head?_take, if_neg (by omega)]
    exact h48'
  have eH : a.take p = Lib.itoa (valD (a.take p) : Nat) := by
    rw [itoa_pos (by omega), Int.toNat_natCast]
    exact (dec_of htn hdt (Or.inl hth)).symm
  have eL : bareL (a.drop p) = Lib.itoa (valD (a.drop p) : Nat) := by
    rw [itoa_pos (by omega), Int.toNat_natCast]
    exact bareL_dec hdn hdd
  have eT : (49 :: List.replicate (a.length - p) 48 : List UInt8) = Lib.itoa (10 ^ (a.length - p) : Nat) := by
    have h1 : allD (49 :: List.replicate (a.length - p) 48) = true := by
      unfold allD
      rw [List.all_cons]
      have := allD_zeros (a.length - p)
      unfold allD at this
      rw [this]
      rfl
    have h2 : valD (49 :: List.replicate (a.length - p) 48) = 10 ^ (a.length - p) := by
      rw [valD_cons, valD_zeros, List.length_replicate]
      simp [dv]
    rw [itoa_pos (by omega), Int.toNat_natCast, ← h2]
    exact (dec_of (by simp) h1 (Or.inl (by simp))).symm
  have hv : valD a = valD (a.take p) * 10 ^ (a.length - p) + valD (a.drop p) := by
    conv => lhs; rw [← List.take_append_drop p a]
    rw [valD_append, List.length_drop]
  have hlt : valD (a.drop p) < 10 ^ (a.length - p) := by
    have := valD_lt hdd
    rwa [List.length_drop] at this
  have hva : valS a = (valD a : Int) := by
    unfold valS belowS
    rw [if_neg (by simpa using h45), hs]
  have hab : valD a < 10 ^ 100 := Nat.lt_of_lt_of_le (valD_lt hd) (Nat.pow_le_pow_right (by decide) h100)
  have ea : a = Lib.itoa (valD a : Nat) := by
    have := good_text hg
    rw [hva] at this
    exact this.symm
  have hj : (10 : Nat) ^ (a.length - p) < 10 ^ 100 := Nat.pow_lt_pow_right (by decide) (by omega)
  have hpos : 0 < (10 : Nat) ^ (a.length - p) := Nat.pow_pos (by decide)
  have hle : valD (a.take p) ≤ valD (a.take p) * 10 ^ (a.length - p) := Nat.le_mul_of_pos_right _ hpos
  generalize hH : valD (a.take p) = H at *
  generalize hLL : valD (a.drop p) = L at *
  generalize (10 : Nat) ^ (a.length - p) = J at *
  refine ⟨?_, ?_, ?_⟩
  · rw [eT, eH, mulR_itoa (by omega) (by omega), ← Int.natCast_mul, capR_ok (by rw [Int.natAbs_natCast]; omega)]
  · rw [eL, addR_itoa (by rw [Int.natAbs_natCast]; omega) (by rw [Int.natAbs_natCast]; omega), ← Int.natCast_add, ← hv]
    exact capR_text hg hva
  · have h1 : divR a (Lib.itoa (J : Nat)) = (Lib.itoa ((valD a : Int).tdiv (J : Nat)), Lib.itoa ((valD a : Int).tmod (J : Nat)), 0) := by
      conv => lhs; rw [ea]
      exact divR_itoa (by rw [Int.natAbs_natCast]; omega) (by rw [Int.natAbs_natCast]; omega) (by omega)
    rw [eT, h1, ← Int.ofNat_tdiv, ← Int.ofNat_tmod, hv]
    have e1 : (H * J + L) / J = H := by
      rw [Nat.mul_comm, Nat.mul_add_div hpos, Nat.div_eq_of_lt hlt, Nat.add_zero]
    have e2 : (H * J + L) % J = L := by
      rw [Nat.mul_comm, Nat.mul_add_mod, Nat.mod_eq_of_lt hlt]
    rw [e1, e2, ← eH, ← eL]

set_option maxHeartbeats 8000000 in
theorem parts_true (a : List UInt8) (n : Int) (_la : a.length ≤ 9223372036854775807) (_bn : -9223372036854775808 ≤ n ∧ n ≤ 9223372036854775807) (w : World) (hT : TabW w) : Calls Tryd.prog 3 #[str a, .int .i64 n] w fun e w' => e = .returned (.bool true) ∧ Below w.heap.size w w' := by
  have AW := awake_any w hT
  have HT := Lib.hid hT
  have G1 := fun W => good_any a W
  clear hT
  obtain ⟨ga, hga⟩ : ∃ g, goodS a = g := ⟨_, rfl⟩
  rw [hga] at G1
  cases ga with
  | false =>
    clear hga
    go_enter Tryd.func3, Tryd.ntmps3
    go_wp2_with fail
    refine AW.mono ?_
    rintro e w1 ⟨rfl, hb1⟩
    go_wp2_with fail
    refine (G1 _).mono ?_
    rintro e w2 ⟨rfl, hq2⟩
    have hb2 := hb1.trans (hq2.mono hb1.size)
    clear hq2 hb1
    go_wp2
    go_ret
    exact ⟨rfl, hb2⟩
  | true =>
    cases a with
    | nil => cases hga
    | cons c l =>
      by_cases hc : c = 45
      · have hcn : ((c.toNat : Int) == 45) = true := by rw [hc]; rfl
        clear hga hc
        go_enter Tryd.func3, Tryd.ntmps3
        go_wp2_with fail
        refine AW.mono ?_
        rintro e w1 ⟨rfl, hb1⟩
        go_wp2_with fail
        refine (G1 _).mono ?_
        rintro e w2 ⟨rfl, hq2⟩
        have hb2 := hb1.trans (hq2.mono hb1.size)
        clear hq2 hb1
        go_wp2
        go_ret
        exact ⟨rfl, hb2⟩
      · have hcn : ((c.toNat : Int) == 45) = false := (u8_eq' c 45).trans (by simpa using hc)
        by_cases hl : l.length = 0
        · have hl1 : (l.length : Int) + 1 < 2 := by omega
          have hl2 : (l.length : Int) < 1 := by omega
          have hl3 : l.length < 1 := by omega
          clear hga hc hl
          go_enter Tryd.func3, Tryd.ntmps3
          go_wp2_with fail
          refine AW.mono ?_
          rintro e w1 ⟨rfl, hb1⟩
          go_wp2_with fail
          refine (G1 _).mono ?_
          rintro e w2 ⟨rfl, hq2⟩
          have hb2 := hb1.trans (hq2.mono hb1.size)
          clear hq2 hb1
          go_wp2
          go_ret
          exact ⟨rfl, hb2⟩
        · have hl1 : ¬ (l.length : Int) + 1 < 2 := by omega
          have hl2 : ¬ (l.length : Int) < 1 := by omega
          have hlp : 0 < l.length := by omega
          have hg100 := (good_parts hga).2.2
          have hll : l.length ≤ 100 := by simpa using hg100
          have PP := fun p (h1 : 1 ≤ p) (h2 : p < (c :: l).length) => parts_plain hga (by simpa using hc) h1 h2
          obtain ⟨U, hU⟩ : ∃ U : Nat, IntKind.u64.wrap n = (U : Int) := ⟨(n % 18446744073709551616).toNat, by rw [IntKind.wrap_u64]; omega⟩
          have hUb : U < 18446744073709551616 := by rw [IntKind.wrap_u64] at hU; omega
          obtain ⟨R, hR⟩ : ∃ R : Nat, U % l.length = R := ⟨_, rfl⟩
          have hRl : R < l.length := by rw [← hR]; exact Nat.mod_lt _ hlp
          have hrem : (U : Int).tmod (l.length : Int) = (R : Int) := by rw [← hR, Int.tmod_eq_emod_of_nonneg (by omega)]; rfl
          clear hga hc hl hR hg100
          go_enter Tryd.func3, Tryd.ntmps3
          go_wp2_with fail
          refine AW.mono ?_
          rintro e w1 ⟨rfl, hb1⟩
          go_wp2_with fail
          refine (G1 _).mono ?_
          rintro e w2 ⟨rfl, hq2⟩
          have hb2 := hb1.trans (hq2.mono hb1.size)
          clear hq2 hb1
          go_upto_region 6 with fail
          obtain ⟨p, hp⟩ : ∃ p, p = R + 1 := ⟨_, rfl⟩
          have hp1 : 1 ≤ p := by omega
          have hpl : p ≤ l.length := by omega
          have hpi : (1 : Int) + (R : Int) = (p : Int) := by omega
          rw [hpi]
          obtain ⟨hm1, hm2, hm3⟩ := PP p hp1 (by simp; omega)
          have MH := fun W (h : TabW W) => mul_any ((c :: l).take p) (49 :: List.replicate ((c :: l).length - p) 48) W h
          have AW2 := fun W (h : TabW W) => add_any (Lib.itoa (valD ((c :: l).take p) * 10 ^ ((c :: l).length - p) : Nat)) (bareL ((c :: l).drop p)) W h
          have DV := fun W (h : TabW W) => div_any (c :: l) (49 :: List.replicate ((c :: l).length - p) 48) W h
          rw [hm1] at MH
          rw [hm2] at AW2
          rw [hm3] at DV
          have hc1 : (ByteArray.mk (c :: l).toArray).extract p (l.length + 1) = ⟨((c :: l).drop p).toArray⟩ := by
            rw [ByteArray.extract_mk]
            congr 2
            rw [List.take_of_length_le (by simp)]
          have hc2 : (ByteArray.mk (c :: l).toArray).extract 0 p = ⟨((c :: l).take p).toArray⟩ := by
            rw [ByteArray.extract_mk, List.drop_zero, Nat.sub_zero]
          have hlen : (c :: l).length = l.length + 1 := rfl
          rw [hlen] at MH AW2 DV
          have hblen := bareL_len ((c :: l).drop p)
          rw [List.length_drop, hlen] at hblen
          have hdl : ((c :: l).drop p).length ≤ 101 := by rw [List.length_drop, hlen]; omega
          obtain ⟨D, hD⟩ : ∃ D, (c :: l).drop p = D := ⟨_, rfl⟩
          obtain ⟨Tk, hT⟩ : ∃ Tk, (c :: l).take p = Tk := ⟨_, rfl⟩
          rw [hD] at hc1 AW2 DV hdl hblen
          rw [hT] at hc2 MH AW2 DV
          obtain ⟨Bd, hBd⟩ : ∃ Bd, bareL D = Bd := ⟨_, rfl⟩
          rw [hBd] at AW2 DV hblen
          obtain ⟨Hi, hHi⟩ : ∃ Hi, Lib.itoa (valD Tk * 10 ^ (l.length + 1 - p) : Nat) = Hi := ⟨_, rfl⟩
          rw [hHi] at MH AW2
          have HBD := Lib.hid hBd
          have HDN : Hid (D ≠ []) := by
            rw [Hid, ← hD]
            intro e
            have := congrArg List.length e
            rw [List.length_drop] at this
            simp at this
            omega
          obtain ⟨A, hA⟩ : ∃ A, A = c :: l := ⟨_, rfl⟩
          have hAl : A.length = l.length + 1 := by rw [hA]; rfl
          rw [← hA] at AW2 DV hc1 hc2 ⊢
          have HAL := Lib.hid hAl
          have hALi : (A.length : Int) = (l.length : Int) + 1 := by omega
          obtain ⟨LL, hLL⟩ : ∃ LL, A.length = LL := ⟨_, rfl⟩
          have hLp : p < LL := by omega
          have hLL1 : l.length + 1 = LL := by omega
          rw [hLL1] at MH DV hc1 hblen
          have hLL100 : LL ≤ 101 := by omega
          clear hp hm1 hm2 hm3 PP hU hUb hRl hrem hpi hlen hD hT hBd hHi hA hcn hl1 hl2 hlp hll HAL hALi hAl hLL1 hpl
          obtain ⟨ten, hten⟩ : ∃ ten, (49 :: List.replicate (LL - p) 48 : List UInt8) = ten := ⟨_, rfl⟩
          rw [hten] at MH DV
          have HTEN := Lib.hid hten
          have HDNE : Hid (D ≠ []) := HDN
          clear hten
          go_wp2
          go_loopg [5, 6] (LL - p) (fun g v5 v6 wr => ∃ i : Nat, p ≤ i ∧ i + g = LL ∧ v6 = .int .i64 i ∧ v5 = str (49 :: List.replicate (i - p) 48) ∧ wr = w2)
          case atStart => exact ⟨p, Nat.le_refl _, by omega, rfl, by rw [Nat.sub_self]; rfl, rfl⟩
          case round =>
            obtain ⟨i, hpi, hig, rfl, rfl, rfl⟩ := hrel
            cases gk with
            | succ g =>
              have hie : (i : Int) < (LL : Int) := by omega
              obtain ⟨t, ht⟩ : ∃ t, (49 :: List.replicate (i - p) 48 : List UInt8) = t := ⟨_, rfl⟩
              have hadd : ∀ W : World, (Op.stringOp .add (ByteArray.mk t.toArray) (ByteArray.mk #[48])).run Tryd.prog W = .ok (.string ⟨(t ++ [48]).toArray⟩) W := fun W => str_add t [48] (by rw [← ht]; simp; omega)
              have hnx : t ++ [48] = 49 :: List.replicate (i + 1 - p) 48 := by
                rw [← ht, show i + 1 - p = (i - p) + 1 by omega, List.replicate_succ']
                rfl
              have HNX := Lib.hid hnx
              rw [ht]
              clear hnx ht
              go_wp2
              go_roundg g
              case measure => omega
              case rel => exact ⟨i + 1, by omega, by omega, by go_num, by rw [HNX.out], rfl⟩
            | zero =>
              obtain rfl : i = LL := by omega
              have hie : ¬ (i : Int) < (i : Int) := by omega
              rw [HTEN.out]
              have hpl : (p : Int) ≤ (i : Int) := by omega
              go_upto_region 11 with fail
              go_wp2
              go_loopg [7] D.length (fun g v7 wr' => ∃ q : List UInt8, q.length ≤ g ∧ v7 = str q ∧ bareL q = Bd ∧ q ≠ [] ∧ q.length ≤ 101 ∧ wr' = wr)
              case atStart => exact ⟨D, Nat.le_refl _, rfl, HBD.out, HDNE.out, hdl, rfl⟩
              case round =>
                obtain ⟨q, hqg, rfl, hqb, hqn, hql, rfl⟩ := hrel
                have hbc := hb2
                cases q with
                | nil => exact absurd rfl hqn
                | cons x q =>
                  cases q with
                  | nil =>
                    obtain rfl : [x] = Bd := hqb
                    go_wp2_with fail
                    refine (MH _ (HT.out.mono hbc)).mono ?_
                    rintro e w1 ⟨rfl, hq1⟩
                    have hb1 := hbc.trans (hq1.mono hbc.size)
                    clear hq1 hbc
                    go_wp2_with fail
                    refine (AW2 _ (HT.out.mono hb1)).mono ?_
                    rintro e w2 ⟨rfl, hq2⟩
                    have hb2 := hb1.trans (hq2.mono hb1.size)
                    clear hq2 hb1
                    go_wp2_with fail
                    refine (DV _ (HT.out.mono hb2)).mono ?_
                    rintro e w3 ⟨rfl, hq3⟩
                    have hb3 := hb2.trans (hq3.mono hb2.size)
                    clear hq3 hb2
                    go_wp2
                    go_ret
                    exact ⟨rfl, hb3⟩
                  | cons y q =>
                    by_cases hx : x = 48
                    · subst hx
                      have e : bareL (48 :: y :: q) = bareL (y :: q) := by conv => lhs; unfold bareL; rw [if_pos rfl]
                      have hs : (ByteArray.mk (48 :: y :: q).toArray).extract 1 (q.length + 1 + 1) = ⟨(y :: q).toArray⟩ := by
                        rw [ByteArray.extract_mk]
                        simp
                      obtain ⟨g, rfl⟩ : ∃ g', gk = g' + 1 := ⟨gk - 1, by simp at hqg; omega⟩
                      have HB := Lib.hid hqb
                      have HE := Lib.hid e
                      clear hqb e hqn
                      go_wp2
                      go_roundg g
                      case measure => omega
                      case rel => exact ⟨y :: q, by simp at hqg ⊢; omega, rfl, by rw [← HE.out]; exact HB.out, by simp, by simp at hql ⊢; omega, rfl⟩
                    · have hxn : ((x.toNat : Int) == 48) = false := (u8_eq' x 48).trans (by simpa using hx)
                      have e : bareL (x :: y :: q) = x :: y :: q := by unfold bareL; rw [if_neg hx]
                      rw [e] at hqb
                      obtain rfl : x :: y :: q = Bd := hqb
                      clear e hx hqn
                      go_wp2_with fail
                      refine (MH _ (HT.out.mono hbc)).mono ?_
                      rintro e w1 ⟨rfl, hq1⟩
                      have hb1 := hbc.trans (hq1.mono hbc.size)
                      clear hq1 hbc
                      go_wp2_with fail
                      refine (AW2 _ (HT.out.mono hb1)).mono ?_
                      rintro e w2 ⟨rfl, hq2⟩
                      have hb2 := hb1.trans (hq2.mono hb1.size)
                      clear hq2 hb1
                      go_wp2_with fail
                      refine (DV _ (HT.out.mono hb2)).mono ?_
                      rintro e w3 ⟨rfl, hq3⟩
                      have hb3 := hb2.trans (hq3.mono hb2.size)
                      clear hq3 hb2
                      go_wp2
                      go_ret
                      exact ⟨rfl, hb3⟩
end Go.Proofs.YtekpdmjobkikfaaDoor
