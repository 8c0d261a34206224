/- The walk of behind: the number from which on an ID is looked for. -/
import Derived.Test.YtpbipngnoklmcaaDoorWldM
import Derived.Test.YtpbipngnoklmcaaDoorAtoi
namespace Go.Proofs.YtpbipngnoklmcaaDoor
open Go.RowKit
set_option maxRecDepth 100000
attribute [local go_sem] str_size str_toList str_get

theorem behind_no {addr after : S8} (h : (addr ++ [35]).isPrefixOf after = false) : behindP addr after = 1 := by
  unfold behindP
  rw [if_neg]
  rintro ⟨h', _⟩
  rw [h] at h'
  cases h'
theorem behind_ok {addr after : S8} (h : (addr ++ [35]).isPrefixOf after = true) {v : Int} (hv : Lib.atoiAll (after.drop (addr.length + 1)) = .ok v) :
    behindP addr after = if (1 ≤ v ∧ v ≤ 1000000000) ∧ Lib.itoa v = after.drop (addr.length + 1) then v + 1 else 1 := by
  unfold behindP
  generalize after.drop (addr.length + 1) = s at *
  by_cases hc : (1 ≤ v ∧ v ≤ 1000000000) ∧ Lib.itoa v = s
  · rw [if_pos hc]
    obtain ⟨⟨h1, h2⟩, rfl⟩ := hc
    have hg : goodS (Lib.itoa v) = true := good_itoa (by
      have : v.natAbs ≤ 1000000000 := by omega
      exact Nat.lt_of_le_of_lt this (by decide))
    have hi : intR (Lib.itoa v) = (v, true) := by
      unfold intR
      rw [valS_itoa, if_pos ⟨hg, by omega, by omega⟩]
    rw [hi, if_pos ⟨h, rfl, h1, h2⟩]
  · rw [if_neg hc, if_neg]
    rintro ⟨_, h2, h3, h4⟩
    unfold intR at h2 h3 h4
    by_cases hg : goodS s = true ∧ -9223372036854775808 ≤ valS s ∧ valS s ≤ 9223372036854775807
    · rw [if_pos hg] at h3 h4
      have := atoi_good hg.1
      rw [if_pos hg.2, hv] at this
      injection this with this
      subst this
      exact hc ⟨⟨h3, h4⟩, good_text hg.1⟩
    · rw [if_neg hg] at h2
      cases h2
theorem behind_err {addr after : S8} (hv : ∀ v, Lib.atoiAll (after.drop (addr.length + 1)) ≠ .ok v) : behindP addr after = 1 := by
  unfold behindP
  generalize after.drop (addr.length + 1) = s at *
  rw [if_neg]
  rintro ⟨_, h2, _⟩
  unfold intR at h2
  by_cases hg : goodS s = true ∧ -9223372036854775808 ≤ valS s ∧ valS s ≤ 9223372036854775807
  · have := atoi_good hg.1
    rw [if_pos hg.2] at this
    exact hv _ this
  · rw [if_neg hg] at h2
    cases h2
theorem behind_bd (addr after : S8) : 1 ≤ behindP addr after ∧ behindP addr after ≤ 1000000001 := by
  unfold behindP
  split
  · next h => omega
  · omega

theorem grow_below (w : World) (k : Nat) (os : Array Obj) : Below w.heap.size w (Sort.grow (w.drewN k) os) :=
  ⟨rfl, rfl, rfl, by simp [Sort.grow], fun j hj => by simp only [Sort.grow]; rw [Array.getElem?_append_left (show j < (w.drewN k).heap.size from hj)]; rfl⟩
theorem cut_lite (s p : S8) (w : World) : Calls Tryd.prog 53 #[str s, str p] w fun e w' => e = .returned (.tuple #[str (if p.isPrefixOf s = true then s.drop p.length else s), .bool (p.isPrefixOf s)]) ∧ w' = w := by
  have HP := fun W => Tryd.stringslite_HasPrefix ⟨s.toArray⟩ ⟨p.toArray⟩ W
  have hpe : Lib.hasPrefix s p = p.isPrefixOf s := rfl
  simp only [hpe] at HP
  cases hq : p.isPrefixOf s with
  | false =>
    rw [if_neg (by simp)]
    simp only [hq] at HP
    go_enter Tryd.func53, Tryd.ntmps53
    go_wp2_with fail
    refine (HP _).mono ?_
    rintro e w1 ⟨rfl, hw1⟩
    rw [hw1]
    go_wp2
    go_ret2
    exact ⟨rfl, rfl⟩
  | true =>
    rw [if_pos rfl]
    simp only [hq] at HP
    have hl : p.length ≤ s.length := (List.isPrefixOf_iff_prefix.1 hq).length_le
    have hli : (p.length : Int) ≤ (s.length : Int) := by omega
    have hcut : (ByteArray.mk s.toArray).extract p.length s.length = ByteArray.mk (s.drop p.length).toArray := by
      rw [ByteArray.extract_mk]
      simp
      rw [List.take_of_length_le (by rw [List.length_drop]; omega)]
    obtain ⟨T, hT⟩ : ∃ T, s.drop p.length = T := ⟨_, rfl⟩
    rw [hT] at hcut ⊢
    clear hq hT hpe
    go_enter Tryd.func53, Tryd.ntmps53
    go_wp2_with fail
    refine (HP _).mono ?_
    rintro e w1 ⟨rfl, hw1⟩
    rw [hw1]
    go_wp2
    go_ret2
    exact ⟨rfl, rfl⟩
theorem cut_prefix (s p : S8) (w : World) : Calls Tryd.prog 41 #[str s, str p] w fun e w' => e = .returned (.tuple #[str (if p.isPrefixOf s = true then s.drop p.length else s), .bool (p.isPrefixOf s)]) ∧ w' = w := by
  have C := fun W => cut_lite s p W
  generalize (if p.isPrefixOf s = true then s.drop p.length else s) = T at C ⊢
  generalize p.isPrefixOf s = B at C ⊢
  go_enter Tryd.func41, Tryd.ntmps41
  go_wp2_with fail
  refine (C _).mono ?_
  rintro e w1 ⟨rfl, hw1⟩
  rw [hw1]
  go_wp2
  go_ret2
  exact ⟨rfl, rfl⟩

set_option maxHeartbeats 2000000 in
theorem behind_w (addr after : S8) (ha : addr.length ≤ 281474976710656) (hl : after.length ≤ 281474976710656) (w : World) (hE : ErrW w) (hT : TabW w) :
    Calls Tryd.prog 23 #[str addr, str after] w fun e w' => e = .returned (.int .i64 (behindP addr after)) ∧ Below w.heap.size w w' := by
  have ad : ∀ W, (Op.stringOp .add (ByteArray.mk addr.toArray) (ByteArray.mk ([35] : S8).toArray)).run Tryd.prog W = .ok (str (addr ++ [35])) W := fun W => str_add _ _ (by simp only [List.length_cons, List.length_nil]; omega)
  have CP := fun W => cut_prefix after (addr ++ [35]) W
  have hpl : (addr ++ [35]).length = addr.length + 1 := by rw [List.length_append]; rfl
  rw [hpl] at CP
  obtain ⟨AP, hAP⟩ : ∃ x, addr ++ [35] = x := ⟨_, rfl⟩
  cases hq : (addr ++ [35]).isPrefixOf after with
  | false =>
    rw [behind_no hq]
    rw [hq, if_neg (by simp)] at CP
    rw [hAP] at CP ad
    have AT := fun W (hW : ErrW W) => atoi_any after hl W hW
    clear hq hAP hpl
    go_enter Tryd.func23, Tryd.ntmps23
    go_wp2_with fail
    refine (CP _).mono ?_
    rintro e w1 ⟨rfl, hw1⟩
    rw [hw1]
    go_wp2_with fail
    refine (AT w hE).mono ?_
    rintro e w2 ⟨hb2, ha2⟩
    rcases ha2 with ⟨v, _, rfl⟩ | ⟨_, v, tp, pp, rfl⟩
    · go_wp2
      go_ret
      exact ⟨rfl, hb2⟩
    · go_wp2
      go_ret
      exact ⟨rfl, hb2⟩
  | true =>
    rw [hq, if_pos rfl] at CP
    have hdl : (after.drop (addr.length + 1)).length ≤ 281474976710656 := by rw [List.length_drop]; omega
    have AT := fun W (hW : ErrW W) => atoi_any (after.drop (addr.length + 1)) hdl W hW
    have BO := fun v hv => behind_ok (addr := addr) (after := after) hq (v := v) hv
    have BE := fun hv => behind_err (addr := addr) (after := after) hv
    obtain ⟨R, hR⟩ : ∃ R, behindP addr after = R := ⟨_, rfl⟩
    rw [hR] at BO BE ⊢
    generalize after.drop (addr.length + 1) = s at CP AT BO BE
    rw [hAP] at CP ad
    have HBO := Lib.hid BO
    have HBE := Lib.hid BE
    clear hq hAP hpl hdl hR BO BE
    go_enter Tryd.func23, Tryd.ntmps23
    go_wp2_with fail
    refine (CP _).mono ?_
    rintro e w1 ⟨rfl, hw1⟩
    rw [hw1]
    go_wp2_with fail
    refine (AT w hE).mono ?_
    rintro e w2 ⟨hb2, ha2⟩
    rcases ha2 with ⟨v, hv, rfl⟩ | ⟨hv, v, tp, pp, rfl⟩
    · have hr := HBO.out v hv
      have HR := Lib.hid hr
      clear hr hv HBO HBE
      by_cases h1 : 1 ≤ v
      · have n1 : ¬ v < 1 := by omega
        by_cases h2 : v ≤ 1000000000
        · have n2 : ¬ 1000000000 < v := by omega
          have IT := Tryd.strconv_Itoa v (by omega) (by omega) w2 (hT.mono hb2)
          obtain ⟨I, hI⟩ : ∃ I, Lib.itoa v = I := ⟨_, rfl⟩
          rw [hI] at IT
          have HI := Lib.hid hI
          clear hI
          have hwv : IntKind.i64.wrap (v + 1) = v + 1 := by rw [IntKind.wrap_i64]; omega
          cases hs : (I == s) with
          | true =>
            have hs2 : (I != s) = false := by simp [bne, hs]
            have HS := Lib.hid hs
            go_wp2_with fail
            refine IT.mono ?_
            rintro e w3 ⟨rfl, kk, os, rfl⟩
            go_wp2
            go_ret
            refine ⟨?_, hb2.trans ((grow_below w2 kk os).mono hb2.size)⟩
            rw [HR.out, if_pos ⟨⟨h1, h2⟩, by rw [HI.out]; simpa using HS.out⟩]
            rfl
          | false =>
            have hs2 : (I != s) = true := by simp [bne, hs]
            have HS := Lib.hid hs
            go_wp2_with fail
            refine IT.mono ?_
            rintro e w3 ⟨rfl, kk, os, rfl⟩
            go_wp2
            go_ret
            refine ⟨?_, hb2.trans ((grow_below w2 kk os).mono hb2.size)⟩
            rw [HR.out, if_neg (fun h => by
              have := h.2
              rw [HI.out] at this
              have hh := HS.out
              rw [this] at hh
              simp at hh)]
            rfl
        · have n2 : 1000000000 < v := by omega
          go_wp2
          go_ret
          refine ⟨?_, hb2⟩
          rw [HR.out, if_neg (fun h => absurd h.1.2 (by omega))]
          rfl
      · have n1 : v < 1 := by omega
        go_wp2
        go_ret
        refine ⟨?_, hb2⟩
        rw [HR.out, if_neg (fun h => absurd h.1.1 (by omega))]
        rfl
    · have hr := HBE.out hv
      have HR := Lib.hid hr
      clear hr hv HBO HBE
      go_wp2
      go_ret
      refine ⟨?_, hb2⟩
      rw [HR.out]
      rfl

end Go.Proofs.YtpbipngnoklmcaaDoor
