/- The walks of the document's small functions on numbers' texts. The walks of the document's sum and difference of two sizes. The walk of the document's difference of two sizes. -/
import Derived.Test.YtpbipngnoklmcaaGreatDoorMWldM
import Derived.Test.YtpbipngnoklmcaaGreatDoorMLimbP
import Derived.Test.YtpbipngnoklmcaaGreatDoorMNumP
namespace Go.Proofs.YtpbipngnoklmcaaGreatDoor
open Go.RowKit
set_option maxRecDepth 100000
attribute [local go_sem] str_size str_toList str_get

theorem below_ref (c : UInt8) (l : List UInt8) (w : World) : Calls Tryz.prog 100 #[str (c :: l)] w fun e w' => e = .returned (.bool (belowS (c :: l))) ∧ w' = w := by
  go_enter Tryz.func100, Tryz.ntmps100
  go_wp2
  go_ret
  refine ⟨?_, rfl⟩
  have := u8_eq c 45
  unfold belowS
  simpa using this
theorem size_ref (c : UInt8) (l : List UInt8) (w : World) : Calls Tryz.prog 129 #[str (c :: l)] w fun e w' => e = .returned (str (sizeS (c :: l))) ∧ w' = w := by
  by_cases hb : belowS (c :: l) = true
  · have hs : (ByteArray.mk (c :: l).toArray).extract 1 (l.length + 1) = ⟨(sizeS (c :: l)).toArray⟩ := by
      rw [ByteArray.extract_mk]
      have : c = 45 := by simpa [belowS] using hb
      simp [sizeS, this]
    go_enter Tryz.func129, Tryz.ntmps129
    go_wp2_with (refine (below_ref _ _ _).mono ?_; rintro e w' ⟨rfl, rfl⟩)
    go_ret
    exact ⟨rfl, rfl⟩
  · have hs : sizeS (c :: l) = c :: l := by
      unfold sizeS
      rw [if_neg]
      simpa [belowS] using hb
    go_enter Tryz.func129, Tryz.ntmps129
    go_wp2_with (refine (below_ref _ _ _).mono ?_; rintro e w' ⟨rfl, rfl⟩)
    go_ret
    exact ⟨by rw [hs]; rfl, rfl⟩
theorem signed_ref (b : Bool) (l : List UInt8) (hl : l.length ≤ 10000) (w : World) : Calls Tryz.prog 76 #[.bool b, str l] w fun e w' => e = .returned (str (signedS b l)) ∧ w' = w := by
  have ha : (Op.stringOp .add (ByteArray.mk #[45]) (ByteArray.mk l.toArray)).run Tryz.prog w = .ok (.string ⟨(45 :: l).toArray⟩) w := str_add [45] l (by simp; omega)
  have h1 : b = true → (!l == [48]) = true → signedS b l = 45 :: l := fun h1 h2 => by unfold signedS; rw [if_pos ⟨h1, by simpa using h2⟩]
  have h2 : (!l == [48]) = false → signedS b l = l := fun h2 => by unfold signedS; rw [if_neg (fun h => h.2 (by simpa using h2))]
  have h3 : ¬ b = true → signedS b l = l := fun h3 => by unfold signedS; rw [if_neg (fun h => h3 h.1)]
  have H1 := Lib.hid h1
  have H2 := Lib.hid h2
  have H3 := Lib.hid h3
  clear h1 h2 h3
  go_enter Tryz.func76, Tryz.ntmps76
  go_wp2
  · go_ret
    refine ⟨?_, rfl⟩
    rw [H1.out (by assumption) (by assumption)]
    rfl
  · go_ret
    refine ⟨?_, rfl⟩
    rw [H2.out (by assumption)]
    rfl
  · go_ret
    refine ⟨?_, rfl⟩
    rw [H3.out (by assumption)]
    rfl
theorem digit_ref (s : List UInt8) (i : Nat) (hd : allD s = true) (hl : s.length ≤ 10000) (w : World) : Calls Tryz.prog 136 #[str s, .int .i64 i] w fun e w' => e = .returned (.int .i64 (dgR s i)) ∧ w' = w := by
  by_cases h : i < s.length
  · have h' : (i : Int) < (s.length : Int) := by omega
    have hr : dgR s i = dv (s.getD (s.length - 1 - i) 0) := by unfold dgR; rw [if_pos h]
    have hc : isD (s.getD (s.length - 1 - i) 0) = true := by
      refine List.all_eq_true.1 hd _ ?_
      simp only [List.getD, List.getElem?_eq_getElem (show s.length - 1 - i < s.length by omega), Option.getD_some]
      exact List.getElem_mem _
    rw [isD_iff] at hc
    have hx : ((s.length : Int) - 1 - (i : Int)).toNat = s.length - 1 - i := by omega
    have h0 : (0 : Int) ≤ (s.length : Int) - 1 - (i : Int) := by omega
    have h1 : (s.length : Int) - 1 - (i : Int) < (s.length : Int) := by omega
    rw [hr]
    unfold dv
    obtain ⟨C, hg0⟩ : ∃ C, s.getD (s.length - 1 - i) 0 = C := ⟨_, rfl⟩
    rw [hg0] at hc ⊢
    have hg : s[s.length - 1 - i]?.getD 0 = C := hg0
    clear hg0
    have hc1 := hc.1
    have hc2 := hc.2
    clear hr hc
    go_enter Tryz.func136, Tryz.ntmps136
    go_wp2
    go_ret
    refine ⟨?_, rfl⟩
    show Ending.returned (Value.int IntKind.i64 ((C.toNat : Int) - 48)) = _
    rw [show (C.toNat : Int) - 48 = ((C.toNat - 48 : Nat) : Int) by omega]
  · have h' : ¬ (i : Int) < (s.length : Int) := by omega
    have hr : dgR s i = 0 := by unfold dgR; rw [if_neg h]
    rw [hr]
    go_enter Tryz.func136, Tryz.ntmps136
    go_wp2
    go_ret
    exact ⟨rfl, rfl⟩
theorem less_ref (a b : List UInt8) (w : World) : Calls Tryz.prog 130 #[str a, str b] w fun e w' => e = .returned (.bool (lessS a b)) ∧ w' = w := by
  by_cases h : a.length = b.length
  · have hs : lessS a b = Op.bytesLess a b := by unfold lessS; rw [if_neg (by simpa using h), bytesLess_eq]
    rw [hs]
    clear hs
    go_enter Tryz.func130, Tryz.ntmps130
    go_wp2
    all_goals first | (exfalso; simp_all; done) | (go_ret; exact ⟨rfl, rfl⟩)
  · have hs : lessS a b = decide (a.length < b.length) := by unfold lessS; rw [if_pos h]
    rw [hs]
    clear hs
    go_enter Tryz.func130, Tryz.ntmps130
    go_wp2
    all_goals first | (exfalso; rename_i hq; simp at hq; omega) | (go_ret; exact ⟨rfl, rfl⟩)
theorem bare_ref (a : List UInt8) (hl : a.length ≤ 10000) (w : World) : Calls Tryz.prog 137 #[str a] w fun e w' => e = .returned (str (bareL a)) ∧ w' = w := by
  go_enter Tryz.func137, Tryz.ntmps137
  obtain ⟨b0, hb0⟩ : ∃ b0, bareL a = b0 := ⟨_, rfl⟩
  rw [hb0]
  have HB0 := Lib.hid hb0
  clear hb0
  go_wp2
  go_loopg [0] a.length (fun g v0 wr => ∃ l, l.length ≤ g ∧ v0 = str l ∧ bareL l = b0 ∧ l.length ≤ 10000 ∧ wr = w)
  case atStart => exact ⟨a, Nat.le_refl _, rfl, HB0.out, hl, rfl⟩
  case round =>
    obtain ⟨l, hlg, rfl, hb, hl', rfl⟩ := hrel
    have HB := Lib.hid hb
    clear hb
    cases l with
    | nil =>
      go_wp2
      go_ret
      exact ⟨by rw [← HB.out]; rfl, rfl⟩
    | cons c l =>
      cases l with
      | nil =>
        go_wp2
        go_ret
        exact ⟨by rw [← HB.out]; rfl, rfl⟩
      | cons d l =>
        by_cases hc : c = 48
        · subst hc
          have e : bareL (48 :: d :: l) = bareL (d :: l) := by conv => lhs; unfold bareL; rw [if_pos rfl]
          have hs : (ByteArray.mk (48 :: d :: l).toArray).extract 1 (l.length + 1 + 1) = ⟨(d :: l).toArray⟩ := by
            rw [ByteArray.extract_mk]
            simp
          obtain ⟨g, rfl⟩ : ∃ g', gk = g' + 1 := ⟨gk - 1, by simp at hlg; omega⟩
          have HE := Lib.hid e
          clear e
          go_wp2
          go_roundg g
          case measure => omega
          case rel => exact ⟨d :: l, by simp at hlg ⊢; omega, rfl, by rw [← HE.out]; exact HB.out, by simp at hl' ⊢; omega, rfl⟩
        · have e : bareL (c :: d :: l) = c :: d :: l := by unfold bareL; rw [if_neg hc]
          have hcn : ((c.toNat : Int) == 48) = false := by
            exact (u8_eq c 48).trans (by simpa using hc)
          have HE := Lib.hid e
          clear e hc
          go_wp2
          go_ret
          exact ⟨by rw [← HB.out, HE.out]; rfl, rfl⟩

end Go.Proofs.YtpbipngnoklmcaaGreatDoor
namespace Go.Proofs.YtpbipngnoklmcaaGreatDoor
open Go.RowKit
set_option maxRecDepth 100000
attribute [local go_sem] str_size str_toList str_get

set_option maxHeartbeats 1600000 in
theorem plus_ref (a b : List UInt8) (ha : allD a = true) (hb : allD b = true) (hn : a ≠ []) (la : a.length ≤ 5000) (lb : b.length ≤ 5000) (w : World) :
    Calls Tryz.prog 128 #[str a, str b] w fun e w' => e = .returned (str (Lib.decDigits (valD a + valD b))) ∧ Below w.heap.size w w' := by
  obtain ⟨M, hM⟩ : ∃ M, M = max a.length b.length := ⟨_, rfl⟩
  have hMa : a.length ≤ M := by omega
  have hMb : b.length ≤ M := by omega
  have hM5 : M ≤ 5000 := by omega
  have ha1 : 0 < a.length := List.length_pos_iff.2 hn
  obtain ⟨R, hR⟩ : ∃ R, Lib.decDigits (valD a + valD b) = R := ⟨_, rfl⟩
  rw [hR]
  have HR := Lib.hid hR
  have HM := Lib.hid hM
  clear hR hM hn
  go_enter Tryz.func128, Tryz.ntmps128
  go_wp2
  go_loopg [5, 6, 7] (M + 1) (fun g v5 v6 v7 wr => ∃ (i c : Nat) (out : List UInt8), i + g = M + 1 ∧ v7 = .int .i64 i ∧ v6 = .int .i64 c ∧ v5 = str out ∧ c ≤ 1 ∧ out.length = i ∧ allD out = true ∧ valD out + 10 ^ i * c = lowR a i + lowR b i ∧ Below w.heap.size w wr)
  case atStart => exact ⟨0, 0, [], by omega, rfl, rfl, rfl, by omega, rfl, rfl, by rw [lowR_zero, lowR_zero]; rfl, Below.refl _ _⟩
  case round =>
    obtain ⟨i, c, out, hig, rfl, rfl, rfl, hc, hl, ho, hv, hbl⟩ := hrel
    by_cases hend : a.length ≤ i ∧ b.length ≤ i ∧ c = 0
    · obtain ⟨h1, h2, rfl⟩ := hend
      have h1' : ¬ (i : Int) < (a.length : Int) := by omega
      have h2' : ¬ (i : Int) < (b.length : Int) := by omega
      have BR := bare_ref out (by omega) wr
      have hend := rplus_end hl ho h1 h2 (by omega) hv
      rw [HR.out] at hend
      rw [hend] at BR
      clear hend hv ho
      go_wp2_with fail
      refine BR.mono ?_
      rintro e w' ⟨rfl, rfl⟩
      go_wp2
      go_ret
      exact ⟨rfl, hbl⟩
    · obtain ⟨g, rfl⟩ : ∃ g', gk = g' + 1 := by
        refine ⟨gk - 1, ?_⟩
        have : gk ≠ 0 := by
          rintro rfl
          apply hend
          refine ⟨by omega, by omega, ?_⟩
          rw [lowR_all (by omega), lowR_all (by omega), show i = M + 1 by omega] at hv
          have h1 := valD_lt ha
          have h2 := valD_lt hb
          have h3 : 10 ^ a.length ≤ 10 ^ M := Nat.pow_le_pow_right (by decide) hMa
          have h4 : 10 ^ b.length ≤ 10 ^ M := Nat.pow_le_pow_right (by decide) hMb
          apply Classical.byContradiction
          intro h0
          have h5 : 10 ^ (M + 1) * 1 ≤ 10 ^ (M + 1) * c := Nat.mul_le_mul_left _ (by omega)
          rw [Nat.pow_succ] at h5 hv
          omega
        omega
      have hst := rplus_step ha hb hl ho hc hv
      have DA := digit_ref a i ha (by omega) wr
      have DB := digit_ref b i hb (by omega) wr
      have hA := dgR_lt ha i
      have hB := dgR_lt hb i
      generalize dgR a i = A at DA hA hst
      generalize dgR b i = B at DB hB hst
      have hsb : A + B + c < 20 := by omega
      obtain ⟨s, hs⟩ : ∃ s, A + B + c = s := ⟨_, rfl⟩
      have hsum : (A : Int) + (B : Int) + (c : Int) = (s : Int) := by omega
      rw [hs] at hst
      have hsb : s < 20 := by omega
      obtain ⟨r, hr⟩ : ∃ r, s % 10 = r := ⟨_, rfl⟩
      obtain ⟨d, hd⟩ : ∃ d, s / 10 = d := ⟨_, rfl⟩
      have hmod : ((s : Nat) : Int).tmod 10 = (r : Int) := by rw [← hr, Int.tmod_eq_emod_of_nonneg (by omega)]; rfl
      have hquo : ((s : Nat) : Int).tdiv 10 = (d : Int) := by rw [← hd, Int.tdiv_eq_ediv_of_nonneg (by omega)]; rfl
      rw [hr, hd] at hst
      have hrb : r < 10 := by omega
      have hdb : d ≤ 1 := by omega
      obtain ⟨ch, hch⟩ : ∃ ch, UInt8.ofNat (48 + r) = ch := ⟨_, rfl⟩
      have hcv := fun (W : World) => str_dig (w := W) r hrb (48 + (r : Int)) rfl
      rw [hch] at hcv hst
      have hadd : ∀ W : World, (Op.stringOp .add (ByteArray.mk #[ch]) (ByteArray.mk out.toArray)).run Tryz.prog W = .ok (.string ⟨(ch :: out).toArray⟩) W := fun W => str_add [ch] out (by simp; omega)
      have HST := Lib.hid hst
      have HL := Lib.hid hl
      clear hst hv ho hr hd hs hl hch
      have fin : ∀ W : World, Below w.heap.size w W → ∃ (i' c' : Nat) (out' : List UInt8), i' + g = M + 1 ∧ Value.int .i64 ((i : Int) + 1) = .int .i64 i' ∧ Value.int .i64 (d : Int) = .int .i64 c' ∧ str (ch :: out) = str out' ∧ c' ≤ 1 ∧ out'.length = i' ∧ allD out' = true ∧ valD out' + 10 ^ i' * c' = lowR a i' + lowR b i' ∧ Below w.heap.size w W :=
        fun W hW => ⟨i + 1, d, _, by omega, by go_num, rfl, rfl, hdb, by rw [List.length_cons, HL.out], HST.out.1, HST.out.2.2, hW⟩
      have FIN := Lib.hid fin
      clear fin
      by_cases hia : (i : Int) < (a.length : Int)
      · go_wp2_with fail
        refine DA.mono ?_
        rintro e w' ⟨rfl, rfl⟩
        go_wp2_with fail
        refine DB.mono ?_
        rintro e w' ⟨rfl, rfl⟩
        go_wp2
        go_roundg g
        case measure => omega
        case rel => exact FIN.out _ (hbl.alloc hbl.size _)
      · by_cases hib : (i : Int) < (b.length : Int)
        · go_wp2_with fail
          refine DA.mono ?_
          rintro e w' ⟨rfl, rfl⟩
          go_wp2_with fail
          refine DB.mono ?_
          rintro e w' ⟨rfl, rfl⟩
          go_wp2
          go_roundg g
          case measure => omega
          case rel => exact FIN.out _ (hbl.alloc hbl.size _)
        · have hc0 : (0 : Int) < (c : Int) := by omega
          go_wp2_with fail
          refine DA.mono ?_
          rintro e w' ⟨rfl, rfl⟩
          go_wp2_with fail
          refine DB.mono ?_
          rintro e w' ⟨rfl, rfl⟩
          go_wp2
          go_roundg g
          case measure => omega
          case rel => exact FIN.out _ (hbl.alloc hbl.size _)

end Go.Proofs.YtpbipngnoklmcaaGreatDoor
namespace Go.Proofs.YtpbipngnoklmcaaGreatDoor
open Go.RowKit
set_option maxRecDepth 100000
attribute [local go_sem] str_size str_toList str_get

set_option maxHeartbeats 1600000 in
theorem minus_ref (a b : List UInt8) (ha : allD a = true) (hb : allD b = true) (hn : a ≠ []) (la : a.length ≤ 5000) (lba : b.length ≤ a.length) (hle : valD b ≤ valD a) (w : World) :
    Calls Tryz.prog 131 #[str a, str b] w fun e w' => e = .returned (str (Lib.decDigits (valD a - valD b))) ∧ Below w.heap.size w w' := by
  obtain ⟨R, hR⟩ : ∃ R, Lib.decDigits (valD a - valD b) = R := ⟨_, rfl⟩
  rw [hR]
  have HR := Lib.hid hR
  have HN := Lib.hid hn
  have HLE := Lib.hid hle
  clear hR hn hle
  go_enter Tryz.func131, Tryz.ntmps131
  go_wp2
  go_loopg [5, 6, 7] a.length (fun g v5 v6 v7 wr => ∃ (i c : Nat) (out : List UInt8), i + g = a.length ∧ v7 = .int .i64 i ∧ v6 = .int .i64 c ∧ v5 = str out ∧ c ≤ 1 ∧ out.length = i ∧ allD out = true ∧ valD out + lowR b i = lowR a i + 10 ^ i * c ∧ Below w.heap.size w wr)
  case atStart => exact ⟨0, 0, [], by omega, rfl, rfl, rfl, by omega, rfl, rfl, by rw [lowR_zero, lowR_zero]; rfl, Below.refl _ _⟩
  case round =>
    obtain ⟨i, c, out, hig, rfl, rfl, rfl, hc, hl, ho, hv, hbl⟩ := hrel
    cases gk with
    | zero =>
      have hie : ¬ (i : Int) < (a.length : Int) := by omega
      obtain rfl : i = a.length := by omega
      have BR := bare_ref out (by omega) wr
      have hend := rminus_end hl ho lba HN.out HLE.out hv
      rw [HR.out] at hend
      rw [hend] at BR
      clear hend hv ho hl
      go_wp2_with fail
      refine BR.mono ?_
      rintro e w' ⟨rfl, rfl⟩
      go_wp2
      go_ret
      exact ⟨rfl, hbl⟩
    | succ g =>
      have hie : (i : Int) < (a.length : Int) := by omega
      have hst := rminus_step ha hb hl ho hc hv
      have DA := digit_ref a i ha (by omega) wr
      have DB := digit_ref b i hb (by omega) wr
      have hA := dgR_lt ha i
      have hB := dgR_lt hb i
      generalize dgR a i = A at DA hA hst
      generalize dgR b i = B at DB hB hst
      by_cases hlt : A < B + c
      · have hst := hst.1 hlt
        have hneg : (A : Int) - (B : Int) - (c : Int) < 0 := by omega
        obtain ⟨ch, hch⟩ : ∃ ch, UInt8.ofNat (48 + (A + 10 - (B + c))) = ch := ⟨_, rfl⟩
        obtain ⟨r, hr⟩ : ∃ r, r = A + 10 - (B + c) := ⟨_, rfl⟩
        have hrb : r < 10 := by omega
        rw [← hr] at hch
        have hcv := fun (W : World) => str_dig (w := W) r hrb (48 + (r : Int)) rfl
        rw [← hr, hch] at hst
        rw [hch] at hcv
        have hadd : ∀ W : World, (Op.stringOp .add (ByteArray.mk #[ch]) (ByteArray.mk out.toArray)).run Tryz.prog W = .ok (.string ⟨(ch :: out).toArray⟩) W := fun W => str_add [ch] out (by simp; omega)
        have HST := Lib.hid hst
        have HL := Lib.hid hl
        have hsum : 48 + ((A : Int) - (B : Int) - (c : Int) + 10) = 48 + (r : Int) := by omega
        have hsum' : (A : Int) - (B : Int) - (c : Int) + 10 = (r : Int) := by omega
        clear hr hlt
        clear hst hv ho hl hch
        have fin : ∀ W : World, Below w.heap.size w W → ∃ (i' c' : Nat) (out' : List UInt8), i' + g = a.length ∧ Value.int .i64 ((i : Int) + 1) = .int .i64 i' ∧ Value.int .i64 1 = .int .i64 c' ∧ str (ch :: out) = str out' ∧ c' ≤ 1 ∧ out'.length = i' ∧ allD out' = true ∧ valD out' + lowR b i' = lowR a i' + 10 ^ i' * c' ∧ Below w.heap.size w W :=
          fun W hW => ⟨i + 1, 1, _, by omega, by go_num, rfl, rfl, by omega, by rw [List.length_cons, HL.out], HST.out.1, HST.out.2, hW⟩
        have FIN := Lib.hid fin
        clear fin
        go_wp2_with fail
        refine DA.mono ?_
        rintro e w' ⟨rfl, rfl⟩
        go_wp2_with fail
        refine DB.mono ?_
        rintro e w' ⟨rfl, rfl⟩
        go_wp2
        go_roundg g
        case measure => omega
        case rel => exact FIN.out _ (hbl.alloc hbl.size _)
      · have hst := hst.2 hlt
        have hneg : ¬ (A : Int) - (B : Int) - (c : Int) < 0 := by omega
        obtain ⟨ch, hch⟩ : ∃ ch, UInt8.ofNat (48 + (A - (B + c))) = ch := ⟨_, rfl⟩
        obtain ⟨r, hr⟩ : ∃ r, r = A - (B + c) := ⟨_, rfl⟩
        have hrb : r < 10 := by omega
        rw [← hr] at hch
        have hcv := fun (W : World) => str_dig (w := W) r hrb (48 + (r : Int)) rfl
        rw [← hr, hch] at hst
        rw [hch] at hcv
        have hadd : ∀ W : World, (Op.stringOp .add (ByteArray.mk #[ch]) (ByteArray.mk out.toArray)).run Tryz.prog W = .ok (.string ⟨(ch :: out).toArray⟩) W := fun W => str_add [ch] out (by simp; omega)
        have HST := Lib.hid hst
        have HL := Lib.hid hl
        have hsum : (A : Int) - (B : Int) - (c : Int) = (r : Int) := by omega
        clear hr hlt
        clear hst hv ho hl hch
        have fin : ∀ W : World, Below w.heap.size w W → ∃ (i' c' : Nat) (out' : List UInt8), i' + g = a.length ∧ Value.int .i64 ((i : Int) + 1) = .int .i64 i' ∧ Value.int .i64 0 = .int .i64 c' ∧ str (ch :: out) = str out' ∧ c' ≤ 1 ∧ out'.length = i' ∧ allD out' = true ∧ valD out' + lowR b i' = lowR a i' + 10 ^ i' * c' ∧ Below w.heap.size w W :=
          fun W hW => ⟨i + 1, 0, _, by omega, by go_num, rfl, rfl, by omega, by rw [List.length_cons, HL.out], HST.out.1, HST.out.2, hW⟩
        have FIN := Lib.hid fin
        clear fin
        go_wp2_with fail
        refine DA.mono ?_
        rintro e w' ⟨rfl, rfl⟩
        go_wp2_with fail
        refine DB.mono ?_
        rintro e w' ⟨rfl, rfl⟩
        go_wp2
        go_roundg g
        case measure => omega
        case rel => exact FIN.out _ (hbl.alloc hbl.size _)

end Go.Proofs.YtpbipngnoklmcaaGreatDoor
