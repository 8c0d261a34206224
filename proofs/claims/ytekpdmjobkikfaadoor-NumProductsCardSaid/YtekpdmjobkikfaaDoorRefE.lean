/- The walk of the document's quotient and rest. -/
import Derived.Test.YtekpdmjobkikfaaDoorRefD
namespace Go.Proofs.YtekpdmjobkikfaaDoor
open Go.RowKit
set_option maxRecDepth 100000
attribute [local go_sem] str_size str_toList str_get

set_option maxHeartbeats 4000000 in
theorem parted_num (m n : Int) (hm : dl m ≤ 100) (hn : dl n ≤ 100) (h0 : n ≠ 0) (w : World) : Calls Tryd.prog 24 #[str (Lib.itoa m), str (Lib.itoa n)] w fun e w' => e = .returned (.tuple #[str (Lib.itoa (m.tdiv n)), str (Lib.itoa (m.tmod n))]) ∧ Below w.heap.size w w' := by
  have BM := below_num m
  have BN := below_num n
  have SM := size_num m
  have SN := size_num n
  have hqd : (Lib.decDigits (m.natAbs / n.natAbs)).length ≤ 10000 := Nat.le_trans (dec_len_le (Nat.div_le_self _ _)) (Nat.le_trans hm (by decide))
  have hrd : (Lib.decDigits (m.natAbs % n.natAbs)).length ≤ 10000 := Nat.le_trans (dec_len_le (Nat.mod_le _ _)) (Nat.le_trans hm (by decide))
  have SQ := signed_num (!(decide (m < 0) == decide (n < 0))) (m.natAbs / n.natAbs) (m.tdiv n) (tdiv_signs m n) hqd
  have SR := signed_num (decide (m < 0)) (m.natAbs % n.natAbs) (m.tmod n) (tmod_signs m n) hrd
  have hY : 0 < n.natAbs := by omega
  have LE := fun u => less_ref (Lib.decDigits u) (Lib.decDigits n.natAbs)
  simp only [lessS_dec] at LE
  have MI := fun u (h : n.natAbs ≤ u) (hu : (Lib.decDigits u).length ≤ 5000) w => minus_ref (Lib.decDigits u) (Lib.decDigits n.natAbs) (allD_dec _) (allD_dec _) (dec_ne_nil _) hu (dec_len_le h) (by rw [valD_dec, valD_dec]; exact h) w
  simp only [valD_dec] at MI
  have hx := allD_dec m.natAbs
  have hvx := valD_dec m.natAbs
  have hlx : (Lib.decDigits m.natAbs).length ≤ 100 := hm
  have hxn := dec_ne_nil m.natAbs
  have hYl : (Lib.decDigits n.natAbs).length ≤ 100 := hn
  generalize Lib.itoa (m.tdiv n) = RQ at SQ ⊢
  generalize Lib.itoa (m.tmod n) = RR at SR ⊢
  generalize Lib.itoa n = b at BN SN ⊢
  generalize Lib.itoa m = a at BM SM ⊢
  generalize Lib.decDigits m.natAbs = x at SM hx hvx hlx hxn
  rw [← hvx] at SQ SR
  generalize decide (m < 0) = q at BM SQ SR
  generalize decide (n < 0) = q' at BN SQ
  clear hm hn hvx hqd hrd h0
  rw [dec_len_iff (by decide)] at hYl
  obtain ⟨ys, hys⟩ : ∃ ys, ys = Lib.decDigits n.natAbs := ⟨_, rfl⟩
  rw [← hys] at SN LE MI
  clear hys
  generalize n.natAbs = Y at SQ SR hY LE MI hYl
  have HX := Lib.hid hx
  have HXN := Lib.hid hxn
  have HYL := Lib.hid hYl
  clear hx hxn hYl
  go_enter Tryd.func24, Tryd.ntmps24
  go_upto_region 3 with (first
    | (go_at_call 38; refine (SM _).mono ?_; rintro e wS ⟨rfl, rfl⟩)
    | (go_at_call 38; refine (SN _).mono ?_; rintro e wS ⟨rfl, rfl⟩))
  clear SM SN
  have h0 : (Lib.decDigits 0) = [48] := dec_zero
  have HH0 := Lib.hid h0
  clear h0
  go_wp2
  go_loopg [6, 7, 10] x.length (fun g v6 v7 v10 wr => ∃ (i : Nat) (qs : List UInt8), i + g = x.length ∧ v10 = .int .i64 i ∧ v6 = str qs ∧ v7 = str (Lib.decDigits (valD (x.take i) % Y)) ∧ qs.length = i ∧ allD qs = true ∧ valD qs = valD (x.take i) / Y ∧ Below wS.heap.size wS wr)
  case atStart => exact ⟨0, [], by omega, rfl, rfl, by rw [List.take_zero, valD_nil, Nat.zero_mod, HH0.out], rfl, rfl, by rw [List.take_zero, valD_nil, Nat.zero_div], Below.refl _ _⟩
  case round =>
    obtain ⟨i, qs, hig, rfl, rfl, rfl, hql, hqa, hqv, hbl⟩ := hrel
    cases gk with
    | zero =>
      have hie : ¬ (i : Int) < (x.length : Int) := by omega
      obtain rfl : i = x.length := by omega
      rw [List.take_length] at hqv ⊢
      have BR := bare_ref qs (by omega)
      rw [bareL_dec (by rintro rfl; exact HXN.out (List.eq_nil_of_length_eq_zero hql.symm)) hqa, hqv] at BR
      generalize Lib.decDigits (valD x / Y) = u at SQ BR
      generalize Lib.decDigits (valD x % Y) = u2 at SR
      clear hql hqa hqv MI LE
      go_wp2_with fail
      refine (BM _).mono ?_
      rintro e w' ⟨rfl, rfl⟩
      go_wp2_with fail
      refine (BN _).mono ?_
      rintro e w' ⟨rfl, rfl⟩
      go_wp2_with fail
      refine (BR _).mono ?_
      rintro e w' ⟨rfl, rfl⟩
      go_wp2_with fail
      refine (SQ _).mono ?_
      rintro e w' ⟨rfl, rfl⟩
      go_wp2_with fail
      refine (BM _).mono ?_
      rintro e w' ⟨rfl, rfl⟩
      go_wp2_with fail
      refine (SR _).mono ?_
      rintro e w' ⟨rfl, rfl⟩
      go_wp2
      go_ret2
      exact ⟨rfl, hbl⟩
    | succ g =>
      have hie : (i : Int) < (x.length : Int) := by omega
      have hnx := valD_take_succ (y := x) (i := i) (by omega)
      have hdg := allD_at HX.out (i := i) (by omega)
      have hcut0 : (ByteArray.mk x.toArray).extract i (i + 1) = ⟨[x[i]?.getD 0].toArray⟩ := by
        have hi : i < x.length := by omega
        rw [ByteArray.extract_mk, Nat.add_sub_cancel_left, show (x.drop i).take 1 = [x[i]?.getD 0] from ?_]
        rw [List.drop_eq_getElem_cons hi, List.take_succ_cons, List.take_zero, List.getElem?_eq_getElem hi, Option.getD_some]
      obtain ⟨C, hC⟩ : ∃ C, x[i]?.getD 0 = C := ⟨_, rfl⟩
      obtain ⟨D, hD⟩ : ∃ D, dv C = D := ⟨_, rfl⟩
      rw [hC] at hdg hcut0
      rw [hC, hD] at hnx
      have hD9 : D ≤ 9 := by have := dv_lt hdg; omega
      have hCo : UInt8.ofNat (48 + D) = C := by rw [← hD]; exact ofNat_dv hdg
      obtain ⟨P, hPp⟩ : ∃ P, valD (x.take i) = P := ⟨_, rfl⟩
      rw [hPp] at hnx hqv ⊢
      have hpn := part_next (X := P) (d := D) hY
      have hps := part_step (X := P) (Y := Y) (r := P % Y) (d := D) hY rfl
      have hb0 := bare_digit (P % Y) D (by omega)
      rw [hCo] at hb0
      have hrY : P % Y < Y := Nat.mod_lt _ hY
      have hrl : (Lib.decDigits (P % Y)).length ≤ 100 := (dec_len_iff (by decide)).2 (Nat.lt_trans hrY HYL.out)
      generalize P % Y = r at hpn hps hb0 hrY hrl ⊢
      have hT5 : (Lib.decDigits (10 * r + D)).length ≤ 102 := by
        rw [dec_len_iff (by decide)]
        have h1 := HYL.out
        have h2 : (10 : Nat) ^ 102 = 10 ^ 100 * 100 := by rw [show (102 : Nat) = 100 + 2 from rfl, Nat.pow_add]
        rw [h2]
        omega
      obtain ⟨T, hT⟩ : ∃ T, 10 * r + D = T := ⟨_, rfl⟩
      rw [hT] at hpn hps hb0 hT5
      obtain ⟨K, hK⟩ : ∃ K, T / Y = K := ⟨_, rfl⟩
      rw [hK] at hpn hps
      have hK9 : K ≤ 9 := by rcases hps with h | h <;> omega
      have hadd : ∀ W : World, (Op.stringOp .add (ByteArray.mk (Lib.decDigits r).toArray) (ByteArray.mk #[C])).run Tryd.prog W = .ok (.string ⟨(Lib.decDigits r ++ [C]).toArray⟩) W := fun W => str_add (Lib.decDigits r) [C] (by simp; omega)
      have BR := bare_ref (Lib.decDigits r ++ [C]) (by simp; omega)
      rw [hb0] at BR
      have hcut : (ByteArray.mk x.toArray).extract i (i + 1) = ⟨#[C]⟩ := hcut0
      obtain ⟨s0, hs0⟩ : ∃ s0, s0 = Lib.decDigits r := ⟨_, rfl⟩
      obtain ⟨s1, hs1⟩ : ∃ s1, s1 = s0 ++ [C] := ⟨_, rfl⟩
      rw [← hs0] at hadd BR
      rw [← hs1] at hadd BR
      rw [← hs0]
      have MII : Hid (∀ d, d + 1 ≤ K → ∀ W : World, Calls Tryd.prog 43 #[str (Lib.decDigits (T - d * Y)), str ys] W fun e W' => e = .returned (str (Lib.decDigits (T - (d + 1) * Y))) ∧ Below W.heap.size W W') := fun d hd W => by
        have h1 : (d + 1) * Y ≤ T := by rw [← hK] at hd; exact Nat.le_trans (Nat.mul_le_mul_right _ hd) (Nat.div_mul_le_self _ _)
        rw [Nat.add_mul, Nat.one_mul] at h1
        have := MI (T - d * Y) (by omega) (Nat.le_trans (dec_len_le (show T - d * Y ≤ T by omega)) (by omega)) W
        rw [show T - d * Y - Y = T - (d + 1) * Y by rw [Nat.add_mul, Nat.one_mul]; omega] at this
        exact this
      have LEE : Hid (∀ d, d ≤ K → ∀ W : World, Calls Tryd.prog 42 #[str (Lib.decDigits (T - d * Y)), str ys] W fun e W' => e = .returned (.bool (decide (d = K))) ∧ W' = W) := fun d hd W => by
        have := LE (T - d * Y) W
        rw [show decide (T - d * Y < Y) = decide (d = K) from ?_] at this
        · exact this
        · rw [Bool.eq_iff_iff, decide_eq_true_eq, decide_eq_true_eq]
          have h1 : K * Y ≤ T := by rw [← hK]; exact Nat.div_mul_le_self _ _
          have h2 : T < (K + 1) * Y := by rw [← hK]; exact (Nat.div_lt_iff_lt_mul hY).1 (Nat.lt_succ_self _)
          rw [Nat.add_mul, Nat.one_mul] at h2
          constructor
          · intro h3
            apply Classical.byContradiction
            intro hne
            have h4 : (d + 1) * Y ≤ K * Y := Nat.mul_le_mul_right _ (by omega)
            rw [Nat.add_mul, Nat.one_mul] at h4
            omega
          · rintro rfl
            omega
      have hmod : T - K * Y = T % Y := by rw [← hK]; have := Nat.div_add_mod T Y; rw [Nat.mul_comm] at this; omega
      have hqn : Hid (valD (x.take (i + 1)) / Y = 10 * valD qs + K ∧ valD (x.take (i + 1)) % Y = T - K * Y) := by
        rw [Hid, hnx, hmod, hqv]
        exact hpn
      have HQL := Lib.hid hql
      have HQA := Lib.hid hqa
      clear hb0 hs0 hs1 hnx hPp hD hdg hC hcut0 MI LE hmod hK hT hpn hps hrl hrY hqv hql hqa hT5 hCo
      have hgo : decide ((i : Int) < (x.length : Int)) = true := decide_eq_true hie
      go_upto_region 7 with (go_at_call 44; refine (BR _).mono ?_; rintro e wT ⟨rfl, rfl⟩)
      go_wp2
      go_loopg [7, 11] K (fun gq v7 v11 wq => ∃ d : Nat, d + gq = K ∧ v11 = .int .i64 d ∧ v7 = str (Lib.decDigits (T - d * Y)) ∧ Below wS.heap.size wS wq)
      case atStart => exact ⟨0, by omega, rfl, by simp, hbl⟩
      case round =>
        obtain ⟨d, hkD, rfl, rfl, hbq⟩ := hrel
        cases gk with
        | zero =>
          obtain rfl : d = K := by omega
          have LK := LEE.out d (Nat.le_refl _) wr
          rw [decide_eq_true rfl] at LK
          obtain ⟨ch, hch⟩ : ∃ ch, UInt8.ofNat (48 + d) = ch := ⟨_, rfl⟩
          have hcv := fun (W : World) => str_dig (w := W) d (by omega) (48 + (d : Int)) rfl
          rw [hch] at hcv
          have hq2 : ∀ W : World, (Op.stringOp .add (ByteArray.mk qs.toArray) (ByteArray.mk #[ch])).run Tryd.prog W = .ok (.string ⟨(qs ++ [ch]).toArray⟩) W := fun W => str_add qs [ch] (by have := HQL.out; simp; omega)
          have hfin : (qs ++ [ch]).length = i + 1 ∧ allD (qs ++ [ch]) = true ∧ valD (qs ++ [ch]) = valD (x.take (i + 1)) / Y ∧ valD (x.take (i + 1)) % Y = T - d * Y := by
            refine ⟨by rw [List.length_append, HQL.out]; rfl, ?_, ?_, hqn.out.2⟩
            · rw [allD_append]
              refine ⟨HQA.out, ?_⟩
              rw [← hch]
              unfold allD
              rw [List.all_cons, isD_ofNat (show d < 10 by omega)]
              rfl
            · rw [valD_snoc, ← hch, dv_ofNat (show d < 10 by omega), hqn.out.1]
          have HF := Lib.hid hfin
          clear hfin hch
          go_wp2_with fail
          refine LK.mono ?_
          rintro e wT ⟨rfl, rfl⟩
          go_wp2
          go_roundg g
          case measure => omega
          case rel => exact ⟨i + 1, qs ++ [ch], by omega, by go_num, rfl, by rw [HF.out.2.2.2], HF.out.1, HF.out.2.1, HF.out.2.2.1, hbq.alloc hbq.size _⟩
        | succ gq =>
          have LK := LEE.out d (by omega) wr
          rw [decide_eq_false (show ¬ d = K by omega)] at LK
          have MK := MII.out d (by omega) wr
          go_wp2_with fail
          refine LK.mono ?_
          rintro e wT ⟨rfl, rfl⟩
          go_wp2_with fail
          refine MK.mono ?_
          rintro e wU ⟨rfl, hbU⟩
          go_wp2
          go_roundg gq
          case measure => omega
          case rel => exact ⟨d + 1, by omega, by go_num, rfl, hbq.trans (hbU.mono hbq.size)⟩

end Go.Proofs.YtekpdmjobkikfaaDoor
