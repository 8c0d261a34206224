/- The walk of the document's Int, for a seat that lacks num.Int. Cut of IntN. The document's world: From. -/
import Derived.Test.YtpbipngnoklmcaaGreatDoorMValK
import Derived.Test.YtpbipngnoklmcaaGreatDoorMRefC
import Derived.Test.YtpbipngnoklmcaaGreatDoorMWldM
import Derived.Lib.SmallJoins
import Derived.Test.YtpbipngnoklmcaaGreatDoorMWldP
import Derived.Test.YtpbipngnoklmcaaGreatDoorMStepA
namespace Go.Proofs.YtpbipngnoklmcaaGreatDoor
open Go.RowKit
set_option maxRecDepth 100000
attribute [local go_sem] str_size str_toList str_get

set_option maxHeartbeats 1600000 in
theorem int_ref (a : List UInt8) (hl : a.length ≤ 9223372036854775807) (w : World) : Calls Tryz.prog 80 #[str a] w fun e w' => e = .returned (.tuple #[.int .i64 (intR a).1, .bool (intR a).2]) ∧ Below w.heap.size w w' := by
  obtain ⟨R, hR⟩ : ∃ R, intR a = R := ⟨_, rfl⟩
  have HR := Lib.hid hR
  rw [hR]
  clear hR
  have GA := fun W => good_ref a hl W
  by_cases hg : goodS a = true
  · rw [hg] at GA
    have ea : a = Lib.itoa (valS a) := (good_text hg).symm
    have hab := good_abs hg
    have hdl : dl (valS a) ≤ 1000 := by
      have : dl (valS a) ≤ 100 := (dec_len_iff (by decide)).2 hab
      omega
    have e1 : ([57, 50, 50, 51, 51, 55, 50, 48, 51, 54, 56, 53, 52, 55, 55, 53, 56, 48, 55] : List UInt8) = Lib.itoa 9223372036854775807 := by
      rw [← good_text (a := [57, 50, 50, 51, 51, 55, 50, 48, 51, 54, 56, 53, 52, 55, 55, 53, 56, 48, 55]) (by decide)]
      rfl
    have e2 : ([45, 57, 50, 50, 51, 51, 55, 50, 48, 51, 54, 56, 53, 52, 55, 55, 53, 56, 48, 56] : List UInt8) = Lib.itoa (-9223372036854775808) := by
      rw [← good_text (a := [45, 57, 50, 50, 51, 51, 55, 50, 48, 51, 54, 56, 53, 52, 55, 55, 53, 56, 48, 56]) (by decide)]
      rfl
    have hl1 : dl 9223372036854775807 ≤ 100 := (dec_len_iff (by decide)).2 (by decide)
    have hl2 : dl (-9223372036854775808) ≤ 100 := (dec_len_iff (by decide)).2 (by decide)
    have C1 := fun W => cmp_num (valS a) 9223372036854775807 hdl (by omega) W
    have C2 := fun W => cmp_num (valS a) (-9223372036854775808) hdl (by omega) W
    rw [← ea, ← e1] at C1
    rw [← ea, ← e2] at C2
    have hBL : ∀ W, Calls Tryz.prog 100 #[str a] W fun e w' => e = .returned (.bool (belowS a)) ∧ w' = W := by
      cases a with
      | nil => cases hg
      | cons c l => exact fun W => below_ref c l W
    clear ea hab hdl e1 e2 hl1 hl2
    have hgo := hg
    by_cases hz1 : 9223372036854775807 < valS a
    · have hs1 : sgn (valS a - 9223372036854775807) = 1 := by
        unfold sgn
        rw [if_neg (by omega), if_neg (by omega)]
      rw [hs1] at C1
      have hRe : R = (0, false) := by
        rw [← HR.out]
        unfold intR
        rw [if_neg (by omega)]
      subst hRe
      clear HR hg hgo hs1
      go_enter Tryz.func80, Tryz.ntmps80
      go_wp2_with fail
      refine (GA _).mono ?_
      rintro e w' ⟨rfl, hw'⟩
      rw [hw']
      clear hw' w'
      go_wp2_with fail
      refine (C1 _).mono ?_
      rintro e w1 ⟨rfl, hb1⟩
      go_wp2
      go_ret2
      exact ⟨rfl, hb1⟩
    · have hs1 : ∃ s1, sgn (valS a - 9223372036854775807) = s1 ∧ ¬ 0 < s1 := ⟨_, rfl, by unfold sgn; split <;> (try split) <;> omega⟩
      obtain ⟨s1, hs1, hs1n⟩ := hs1
      rw [hs1] at C1
      by_cases hz2 : valS a < -9223372036854775808
      · have hs2 : sgn (valS a - -9223372036854775808) = -1 := by
          unfold sgn
          rw [if_pos (by omega)]
        rw [hs2] at C2
        have hRe : R = (0, false) := by
          rw [← HR.out]
          unfold intR
          rw [if_neg (by omega)]
        subst hRe
        clear HR hg hgo hs1 hs2
        go_enter Tryz.func80, Tryz.ntmps80
        go_wp2_with fail
        refine (GA _).mono ?_
        rintro e w' ⟨rfl, hw'⟩
        rw [hw']
        clear hw' w'
        go_wp2_with fail
        refine (C1 _).mono ?_
        rintro e w1 ⟨rfl, hb1⟩
        go_wp2_with fail
        refine (C2 _).mono ?_
        rintro e w2 ⟨rfl, hq⟩
        have hb2 := hb1.trans (hq.mono hb1.size)
        go_wp2
        go_ret2
        exact ⟨rfl, hb2⟩
      · have hs2 : ∃ s2, sgn (valS a - -9223372036854775808) = s2 ∧ ¬ s2 < 0 := ⟨_, rfl, by unfold sgn; split <;> (try split) <;> omega⟩
        obtain ⟨s2, hs2, hs2n⟩ := hs2
        rw [hs2] at C2
        have hRe : R = (valS a, true) := by
          rw [← HR.out]
          unfold intR
          rw [if_pos ⟨hg, by omega, by omega⟩]
        subst hRe
        have hvx := valX_good hg
        have hgr := fun l m => valX_grows (belowS a) l m
        have hsg := fun l => valX_sign (belowS a) l
        obtain ⟨b, hb⟩ : ∃ b, belowS a = b := ⟨_, rfl⟩
        rw [hb] at hBL hvx hgr hsg
        obtain ⟨z, hz⟩ : ∃ z, valS a = z := ⟨_, rfl⟩
        rw [hz] at hvx hz1 hz2 ⊢
        have hall : ∀ c ∈ a, c = 45 ∨ isD c = true := by
          have h' := hg
          unfold goodS at h'
          simp only [Bool.and_eq_true] at h'
          have hd := h'.2
          intro c hc
          by_cases h45 : a.head? = some 45
          · obtain ⟨r, rfl⟩ : ∃ r, a = 45 :: r := by
              cases a with
              | nil => simp at h45
              | cons c r => exact ⟨r, by simp at h45; rw [h45]⟩
            rcases List.mem_cons.1 hc with h | h
            · exact Or.inl h
            · exact Or.inr (List.all_eq_true.1 hd c h)
          · have hs : sizeS a = a := by unfold sizeS; rw [if_neg h45]
            rw [hs] at hd
            exact Or.inr (List.all_eq_true.1 hd c hc)
        have hal : a.length ≤ 101 := by
          have h' := hg
          unfold goodS at h'
          simp only [Bool.and_eq_true, decide_eq_true_eq] at h'
          have h2 := h'.1.1.2
          unfold sizeS at h2
          split at h2
          · rw [List.length_tail] at h2; omega
          · omega
        clear HR hg hgo hs1 hs2 hb hz
        go_enter Tryz.func80, Tryz.ntmps80
        go_wp2_with fail
        refine (GA _).mono ?_
        rintro e w' ⟨rfl, hw'⟩
        rw [hw']
        clear hw' w'
        go_wp2_with fail
        refine (C1 _).mono ?_
        rintro e w1 ⟨rfl, hb1⟩
        go_wp2_with fail
        refine (C2 _).mono ?_
        rintro e w2 ⟨rfl, hq⟩
        have hb2 := hb1.trans (hq.mono hb1.size)
        clear hq hb1 C1 C2 GA
        go_wp2
        go_loopg [4, 5] a.length (fun g v4 v5 wr => ∃ i : Nat, i + g = a.length ∧ v5 = .int .i64 i ∧ v4 = .int .i64 (valX b (a.take i)) ∧ wr = w2)
        case atStart => exact ⟨0, by omega, rfl, rfl, rfl⟩
        case round =>
          obtain ⟨i, hig, rfl, rfl, rfl⟩ := hrel
          cases gk with
          | zero =>
            obtain rfl : i = a.length := by omega
            rw [List.take_length, hvx]
            go_wp2
            go_ret2
            exact ⟨rfl, hb2⟩
          | succ g =>
            have hil : i < a.length := by omega
            have hie : (i : Int) < (a.length : Int) := by omega
            have hcm : a[i] = 45 ∨ isD a[i] = true := hall _ (List.getElem_mem hil)
            have hnx := valX_snoc b (a.take i) a[i]
            rw [← List.take_succ_eq_append_getElem hil] at hnx
            have hsplit : a.take (i + 1) ++ a.drop (i + 1) = a := List.take_append_drop _ _
            have hg1 := hgr (a.take (i + 1)) (a.drop (i + 1)) (fun c hc => hall c (List.mem_of_mem_drop hc))
            rw [hsplit, hvx] at hg1
            have hg2 := hsg (a.take (i + 1))
            have hg3 := hsg (a.take i)
            obtain ⟨c, hc⟩ : ∃ c, a[i] = c := ⟨_, rfl⟩
            have hgc : a[i]?.getD 0 = c := by rw [List.getElem?_eq_getElem hil, hc]; rfl
            rw [hc] at hcm hnx
            obtain ⟨X, hX⟩ : ∃ X, valX b (a.take i) = X := ⟨_, rfl⟩
            obtain ⟨Y, hY⟩ : ∃ Y, valX b (a.take (i + 1)) = Y := ⟨_, rfl⟩
            rw [hX] at hnx hg3 ⊢
            rw [hY] at hnx hg1 hg2
            have HY := Lib.hid hY
            have HVX := Lib.hid hvx
            have HGR := Lib.hid hgr
            have HSG := Lib.hid hsg
            have HALL := Lib.hid hall
            clear hY hX hsplit hvx hgr hsg hall
            by_cases h45 : c = 45
            · have hcn : ((c.toNat : Int) == 45) = true := by rw [h45]; rfl
              rw [if_pos h45] at hnx
              subst hnx
              clear h45 hcm hg1 hg2 hg3
              go_wp2
              go_roundg g
              case measure => omega
              case rel => exact ⟨i + 1, by omega, by go_num, by rw [HY.out], rfl⟩
            · have hcd : isD c = true := by
                rcases hcm with h | h
                · exact absurd h h45
                · exact h
              have hcn : ((c.toNat : Int) == 45) = false := by
                have := u8_eq c 45
                rw [show ((45 : UInt8).toNat : Int) = 45 from rfl] at this
                rw [this]
                simpa using h45
              rw [if_neg h45] at hnx
              have hc1 := (isD_iff.1 hcd).1
              have hc2 := (isD_iff.1 hcd).2
              obtain ⟨k, hk⟩ : ∃ k, dv c = k := ⟨_, rfl⟩
              rw [hk] at hnx
              have hk9 : k < 10 := by rw [← hk]; exact dv_lt hcd
              have hck : (c.toNat : Int) - 48 = (k : Int) := by unfold dv at hk; omega
              cases b with
              | true =>
                have h1 := hg1.1 rfl
                have h2 := hg2.1 rfl
                have h3 := hg3.1 rfl
                rw [if_pos rfl] at hnx
                have hYl : -9223372036854775808 ≤ 10 * X + -(k : Int) := by omega
                have hYh : 10 * X + -(k : Int) ≤ 9223372036854775807 := by omega
                have hXl : -922337203685477580 ≤ X := by omega
                have hXh : X ≤ 922337203685477580 := by omega
                have HNX := Lib.hid hnx
                clear h45 hcm hg1 hg2 hg3 hnx h1 h2 h3 hk hcd
                go_wp2_with fail
                refine (hBL _).mono ?_
                rintro e w' ⟨rfl, hw'⟩
                rw [hw']
                clear hw' w'
                go_wp2
                go_roundg g
                case measure => omega
                case rel => exact ⟨i + 1, by omega, by go_num, by rw [HY.out, HNX.out], rfl⟩
              | false =>
                have h1 := hg1.2 rfl
                have h2 := hg2.2 rfl
                have h3 := hg3.2 rfl
                rw [if_neg (by decide)] at hnx
                have hYl : -9223372036854775808 ≤ 10 * X + (k : Int) := by omega
                have hYh : 10 * X + (k : Int) ≤ 9223372036854775807 := by omega
                have hXl : -922337203685477580 ≤ X := by omega
                have hXh : X ≤ 922337203685477580 := by omega
                have HNX := Lib.hid hnx
                clear h45 hcm hg1 hg2 hg3 hnx h1 h2 h3 hk hcd
                go_wp2_with fail
                refine (hBL _).mono ?_
                rintro e w' ⟨rfl, hw'⟩
                rw [hw']
                clear hw' w'
                go_wp2
                go_roundg g
                case measure => omega
                case rel => exact ⟨i + 1, by omega, by go_num, by rw [HY.out, HNX.out], rfl⟩
  · have hgf : goodS a = false := by simpa using hg
    rw [hgf] at GA
    have hRe : R = (0, false) := by
      rw [← HR.out]
      unfold intR
      rw [if_neg (by rw [hgf]; simp)]
    subst hRe
    clear HR hg hgf
    go_enter Tryz.func80, Tryz.ntmps80
    go_wp2_with fail
    refine (GA _).mono ?_
    rintro e w' ⟨rfl, hw'⟩
    rw [hw']
    clear hw' w'
    go_wp2
    go_ret2
    exact ⟨rfl, Below.refl _ _⟩

end Go.Proofs.YtpbipngnoklmcaaGreatDoor
namespace Go.Proofs.YtpbipngnoklmcaaGreatDoor
open Go.RowKit
set_option maxRecDepth 100000
attribute [local go_sem] str_size str_toList str_get

theorem behind_short {addr after : S8} (h : after.length ≤ addr.length + 1) : behindP addr after = 1 := by
  unfold behindP
  rw [if_neg]
  rintro ⟨_, h2, _⟩
  rw [List.drop_of_length_le h] at h2
  revert h2
  decide
theorem behind_int {addr after : S8} (h : (addr ++ [35]).isPrefixOf after = true) : behindP addr after = if (intR (after.drop (addr.length + 1))).2 = true ∧ 1 ≤ (intR (after.drop (addr.length + 1))).1 ∧ (intR (after.drop (addr.length + 1))).1 ≤ 1000000000 then (intR (after.drop (addr.length + 1))).1 + 1 else 1 := by
  unfold behindP
  by_cases hc : (intR (after.drop (addr.length + 1))).2 = true ∧ 1 ≤ (intR (after.drop (addr.length + 1))).1 ∧ (intR (after.drop (addr.length + 1))).1 ≤ 1000000000
  · rw [if_pos ⟨h, hc⟩, if_pos hc]
  · rw [if_neg (fun e => hc e.2), if_neg hc]

set_option maxHeartbeats 2000000 in
theorem from_r (addr after : S8) (ha : addr.length ≤ 281474976710656) (hl : after.length ≤ 281474976710656) (w : World) :
    Calls Tryz.prog 66 #[str addr, str after] w fun e w' => e = .returned (.int .i64 (behindP addr after)) ∧ Below w.heap.size w w' := by
  obtain ⟨R, hR⟩ : ∃ R, behindP addr after = R := ⟨_, rfl⟩
  rw [hR]
  by_cases hs : after.length ≤ addr.length + 1
  · have hr := behind_short hs
    rw [hR] at hr
    subst hr
    have hsi : (after.length : Int) ≤ (addr.length : Int) + 1 := by omega
    clear hR
    go_enter Tryz.func66, Tryz.ntmps66
    go_wp2
    go_ret
    exact ⟨rfl, Below.refl _ _⟩
  · have hsi : ¬ (after.length : Int) ≤ (addr.length : Int) + 1 := by omega
    have hsl : (addr.length : Int) + 1 ≤ (after.length : Int) := by omega
    obtain ⟨n, hn⟩ : ∃ n, addr.length + 1 = n := ⟨_, rfl⟩
    have hni : (addr.length : Int) + 1 = (n : Int) := by omega
    have hnl : n ≤ after.length := by omega
    have hnl2 : (n : Int) ≤ (after.length : Int) := by omega
    have hns : ¬ (after.length : Int) ≤ (n : Int) := by omega
    have ad : ∀ W, (Op.stringOp .add (ByteArray.mk addr.toArray) (ByteArray.mk ([35] : S8).toArray)).run Tryz.prog W = .ok (str (addr ++ [35])) W := fun W => str_add _ _ (by simp only [List.length_cons, List.length_nil]; omega)
    have c1 : (ByteArray.mk after.toArray).extract 0 n = ByteArray.mk (after.take n).toArray := by
      rw [ByteArray.extract_mk]
      simp
    have c2 : (ByteArray.mk after.toArray).extract n after.length = ByteArray.mk (after.drop n).toArray := by
      rw [ByteArray.extract_mk]
      simp
      rw [List.take_of_length_le (by rw [List.length_drop]; omega)]
    have tk : (after.take n == addr ++ [35]) = (addr ++ [35]).isPrefixOf after := by
      rw [Bool.eq_iff_iff, beq_iff_eq, List.isPrefixOf_iff_prefix]
      have hal : (addr ++ [35]).length = n := by rw [List.length_append, ← hn]; rfl
      constructor
      · intro h
        rw [← h]
        exact List.take_prefix _ _
      · rintro ⟨t, rfl⟩
        exact List.take_left' hal
    have IR := fun W => int_ref (after.drop n) (by rw [List.length_drop]; omega) W
    have hp1 : (addr ++ [35]).isPrefixOf after = false → R = 1 := fun h => by rw [← hR]; exact behind_no h
    have hp2 : (addr ++ [35]).isPrefixOf after = true → R = if (intR (after.drop n)).2 = true ∧ 1 ≤ (intR (after.drop n)).1 ∧ (intR (after.drop n)).1 ≤ 1000000000 then (intR (after.drop n)).1 + 1 else 1 := fun h => by
      rw [← hR, behind_int h, hn]
    obtain ⟨pf, hpf⟩ : ∃ pf, (addr ++ [35]).isPrefixOf after = pf := ⟨_, rfl⟩
    rw [hpf] at tk hp1 hp2
    obtain ⟨AP, hAP⟩ : ∃ x, addr ++ [35] = x := ⟨_, rfl⟩
    rw [hAP] at tk ad
    obtain ⟨T, hT⟩ : ∃ T, after.take n = T := ⟨_, rfl⟩
    obtain ⟨U, hU⟩ : ∃ U, after.drop n = U := ⟨_, rfl⟩
    rw [hT] at c1 tk
    rw [hU] at c2 IR hp2
    obtain ⟨⟨k, ok⟩, hk⟩ : ∃ q, intR U = q := ⟨_, rfl⟩
    rw [hk] at IR hp2
    have HP1 := Lib.hid hp1
    have HP2 := Lib.hid hp2
    clear hR hpf hAP hT hU hk hp1 hp2 hsi hsl hs hn
    cases pf with
    | false =>
      have tk2 : (T != AP) = true := by simp [bne, tk]
      obtain rfl : R = 1 := HP1.out rfl
      clear HP1 HP2 IR c2
      go_enter Tryz.func66, Tryz.ntmps66
      go_wp2
      go_ret
      exact ⟨rfl, Below.refl _ _⟩
    | true =>
      have tk2 : (T != AP) = false := by simp [bne, tk]
      have hr := HP2.out rfl
      clear HP1 HP2
      dsimp only at hr IR
      cases ok with
      | false =>
        rw [if_neg (fun h => by cases h.1)] at hr
        subst hr
        go_enter Tryz.func66, Tryz.ntmps66
        go_wp2_with fail
        refine (IR w).mono ?_
        rintro e w1 ⟨rfl, hb1⟩
        go_wp2
        go_ret
        exact ⟨rfl, hb1⟩
      | true =>
        by_cases h1 : 1 ≤ k
        · have n1 : ¬ k < 1 := by omega
          by_cases h2 : k ≤ 1000000000
          · have n2 : ¬ 1000000000 < k := by omega
            rw [if_pos ⟨rfl, h1, h2⟩] at hr
            have hwk : IntKind.i64.wrap (k + 1) = k + 1 := by rw [IntKind.wrap_i64]; omega
            subst hr
            go_enter Tryz.func66, Tryz.ntmps66
            go_wp2_with fail
            refine (IR w).mono ?_
            rintro e w1 ⟨rfl, hb1⟩
            go_wp2
            go_ret
            exact ⟨rfl, hb1⟩
          · have n2 : 1000000000 < k := by omega
            rw [if_neg (fun h => h2 h.2.2)] at hr
            subst hr
            go_enter Tryz.func66, Tryz.ntmps66
            go_wp2_with fail
            refine (IR w).mono ?_
            rintro e w1 ⟨rfl, hb1⟩
            go_wp2
            go_ret
            exact ⟨rfl, hb1⟩
        · have n1 : k < 1 := by omega
          rw [if_neg (fun h => h1 h.2.1)] at hr
          subst hr
          go_enter Tryz.func66, Tryz.ntmps66
          go_wp2_with fail
          refine (IR w).mono ?_
          rintro e w1 ⟨rfl, hb1⟩
          go_wp2
          go_ret
          exact ⟨rfl, hb1⟩

end Go.Proofs.YtpbipngnoklmcaaGreatDoor
