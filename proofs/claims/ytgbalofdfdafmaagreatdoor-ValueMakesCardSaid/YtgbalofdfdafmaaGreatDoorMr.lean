/- The walks of the document's small functions on numbers' texts. The walks of the document's sum and difference of two sizes. The walk of the document's difference of two sizes. The walks of the document's sum, turned number and comparing, in terms of whole numbers. -/
import Derived.Test.YtgbalofdfdafmaaGreatDoorChars
import Derived.Test.YtgbalofdfdafmaaGreatDoorStr
import Derived.Test.YtgbalofdfdafmaaGreatDoorMp
namespace Go.Proofs.YtgbalofdfdafmaaGreatDoor
open Go.RowKit
set_option maxRecDepth 100000
attribute [local go_sem] str_size str_toList str_get

theorem below_ref (c : UInt8) (l : List UInt8) (w : World) : Calls Tryz.prog 55 #[str (c :: l)] w fun e w' => e = .returned (.bool (belowS (c :: l))) ∧ w' = w := by
  go_enter Tryz.func55, Tryz.ntmps55
  go_wp2
  go_ret
  refine ⟨?_, rfl⟩
  have := u8_eq c 45
  unfold belowS
  simpa using this
theorem size_ref (c : UInt8) (l : List UInt8) (w : World) : Calls Tryz.prog 75 #[str (c :: l)] w fun e w' => e = .returned (str (sizeS (c :: l))) ∧ w' = w := by
  by_cases hb : belowS (c :: l) = true
  · have hs : (ByteArray.mk (c :: l).toArray).extract 1 (l.length + 1) = ⟨(sizeS (c :: l)).toArray⟩ := by
      rw [ByteArray.extract_mk]
      have : c = 45 := by simpa [belowS] using hb
      simp [sizeS, this]
    go_enter Tryz.func75, Tryz.ntmps75
    go_wp2_with (refine (below_ref _ _ _).mono ?_; rintro e w' ⟨rfl, rfl⟩)
    go_ret
    exact ⟨rfl, rfl⟩
  · have hs : sizeS (c :: l) = c :: l := by
      unfold sizeS
      rw [if_neg]
      simpa [belowS] using hb
    go_enter Tryz.func75, Tryz.ntmps75
    go_wp2_with (refine (below_ref _ _ _).mono ?_; rintro e w' ⟨rfl, rfl⟩)
    go_ret
    exact ⟨by rw [hs]; rfl, rfl⟩
theorem signed_ref (b : Bool) (l : List UInt8) (hl : l.length ≤ 10000) (w : World) : Calls Tryz.prog 40 #[.bool b, str l] w fun e w' => e = .returned (str (signedS b l)) ∧ w' = w := by
  have ha : (Op.stringOp .add (ByteArray.mk #[45]) (ByteArray.mk l.toArray)).run Tryz.prog w = .ok (.string ⟨(45 :: l).toArray⟩) w := str_add [45] l (by simp; omega)
  have h1 : b = true → (!l == [48]) = true → signedS b l = 45 :: l := fun h1 h2 => by unfold signedS; rw [if_pos ⟨h1, by simpa using h2⟩]
  have h2 : (!l == [48]) = false → signedS b l = l := fun h2 => by unfold signedS; rw [if_neg (fun h => h.2 (by simpa using h2))]
  have h3 : ¬ b = true → signedS b l = l := fun h3 => by unfold signedS; rw [if_neg (fun h => h3 h.1)]
  have H1 := Lib.hid h1
  have H2 := Lib.hid h2
  have H3 := Lib.hid h3
  clear h1 h2 h3
  go_enter Tryz.func40, Tryz.ntmps40
  go_wp2
  · go_ret
    refine ⟨?_, rfl⟩
    rw [H1.out (by assumption) (by assumption)]
    rfl
  · go_ret
    refine ⟨?_, rfl⟩
    rw [H2.out (by assumption)]
    rfl
  · go_ret
    refine ⟨?_, rfl⟩
    rw [H3.out (by assumption)]
    rfl
theorem digit_ref (s : List UInt8) (i : Nat) (hd : allD s = true) (hl : s.length ≤ 10000) (w : World) : Calls Tryz.prog 88 #[str s, .int .i64 i] w fun e w' => e = .returned (.int .i64 (dgR s i)) ∧ w' = w := by
  by_cases h : i < s.length
  · have h' : (i : Int) < (s.length : Int) := by omega
    have hr : dgR s i = dv (s.getD (s.length - 1 - i) 0) := by unfold dgR; rw [if_pos h]
    have hc : isD (s.getD (s.length - 1 - i) 0) = true := by
      refine List.all_eq_true.1 hd _ ?_
      simp only [List.getD, List.getElem?_eq_getElem (show s.length - 1 - i < s.length by omega), Option.getD_some]
      exact List.getElem_mem _
    rw [isD_iff] at hc
    have hx : ((s.length : Int) - 1 - (i : Int)).toNat = s.length - 1 - i := by omega
    have h0 : (0 : Int) ≤ (s.length : Int) - 1 - (i : Int) := by omega
    have h1 : (s.length : Int) - 1 - (i : Int) < (s.length : Int) := by omega
    rw [hr]
    unfold dv
    obtain ⟨C, hg0⟩ : ∃ C, s.getD (s.length - 1 - i) 0 = C := ⟨_, rfl⟩
    rw [hg0] at hc ⊢
    have hg : s[s.length - 1 - i]?.getD 0 = C := hg0
    clear hg0
    have hc1 := hc.1
    have hc2 := hc.2
    clear hr hc
    go_enter Tryz.func88, Tryz.ntmps88
    go_wp2
    go_ret
    refine ⟨?_, rfl⟩
    show Ending.returned (Value.int IntKind.i64 ((C.toNat : Int) - 48)) = _
    rw [show (C.toNat : Int) - 48 = ((C.toNat - 48 : Nat) : Int) by omega]
  · have h' : ¬ (i : Int) < (s.length : Int) := by omega
    have hr : dgR s i = 0 := by unfold dgR; rw [if_neg h]
    rw [hr]
    go_enter Tryz.func88, Tryz.ntmps88
    go_wp2
    go_ret
    exact ⟨rfl, rfl⟩
theorem less_ref (a b : List UInt8) (w : World) : Calls Tryz.prog 76 #[str a, str b] w fun e w' => e = .returned (.bool (lessS a b)) ∧ w' = w := by
  by_cases h : a.length = b.length
  · have hs : lessS a b = Op.bytesLess a b := by unfold lessS; rw [if_neg (by simpa using h), bytesLess_eq]
    rw [hs]
    clear hs
    go_enter Tryz.func76, Tryz.ntmps76
    go_wp2
    all_goals first | (exfalso; simp_all; done) | (go_ret; exact ⟨rfl, rfl⟩)
  · have hs : lessS a b = decide (a.length < b.length) := by unfold lessS; rw [if_pos h]
    rw [hs]
    clear hs
    go_enter Tryz.func76, Tryz.ntmps76
    go_wp2
    all_goals first | (exfalso; rename_i hq; simp at hq; omega) | (go_ret; exact ⟨rfl, rfl⟩)
theorem bare_ref (a : List UInt8) (hl : a.length ≤ 10000) (w : World) : Calls Tryz.prog 89 #[str a] w fun e w' => e = .returned (str (bareL a)) ∧ w' = w := by
  go_enter Tryz.func89, Tryz.ntmps89
  obtain ⟨b0, hb0⟩ : ∃ b0, bareL a = b0 := ⟨_, rfl⟩
  rw [hb0]
  have HB0 := Lib.hid hb0
  clear hb0
  go_wp2
  go_loopg [0] a.length (fun g v0 wr => ∃ l, l.length ≤ g ∧ v0 = str l ∧ bareL l = b0 ∧ l.length ≤ 10000 ∧ wr = w)
  case atStart => exact ⟨a, Nat.le_refl _, rfl, HB0.out, hl, rfl⟩
  case round =>
    obtain ⟨l, hlg, rfl, hb, hl', rfl⟩ := hrel
    have HB := Lib.hid hb
    clear hb
    cases l with
    | nil =>
      go_wp2
      go_ret
      exact ⟨by rw [← HB.out]; rfl, rfl⟩
    | cons c l =>
      cases l with
      | nil =>
        go_wp2
        go_ret
        exact ⟨by rw [← HB.out]; rfl, rfl⟩
      | cons d l =>
        by_cases hc : c = 48
        · subst hc
          have e : bareL (48 :: d :: l) = bareL (d :: l) := by conv => lhs; unfold bareL; rw [if_pos rfl]
          have hs : (ByteArray.mk (48 :: d :: l).toArray).extract 1 (l.length + 1 + 1) = ⟨(d :: l).toArray⟩ := by
            rw [ByteArray.extract_mk]
            simp
          obtain ⟨g, rfl⟩ : ∃ g', gk = g' + 1 := ⟨gk - 1, by simp at hlg; omega⟩
          have HE := Lib.hid e
          clear e
          go_wp2
          go_roundg g
          case measure => omega
          case rel => exact ⟨d :: l, by simp at hlg ⊢; omega, rfl, by rw [← HE.out]; exact HB.out, by simp at hl' ⊢; omega, rfl⟩
        · have e : bareL (c :: d :: l) = c :: d :: l := by unfold bareL; rw [if_neg hc]
          have hcn : ((c.toNat : Int) == 48) = false := by
            exact (u8_eq c 48).trans (by simpa using hc)
          have HE := Lib.hid e
          clear e hc
          go_wp2
          go_ret
          exact ⟨by rw [← HB.out, HE.out]; rfl, rfl⟩

end Go.Proofs.YtgbalofdfdafmaaGreatDoor
namespace Go.Proofs.YtgbalofdfdafmaaGreatDoor
open Go.RowKit
set_option maxRecDepth 100000
attribute [local go_sem] str_size str_toList str_get

set_option maxHeartbeats 1600000 in
theorem plus_ref (a b : List UInt8) (ha : allD a = true) (hb : allD b = true) (hn : a ≠ []) (la : a.length ≤ 5000) (lb : b.length ≤ 5000) (w : World) :
    Calls Tryz.prog 74 #[str a, str b] w fun e w' => e = .returned (str (Lib.decDigits (valD a + valD b))) ∧ Below w.heap.size w w' := by
  obtain ⟨M, hM⟩ : ∃ M, M = max a.length b.length := ⟨_, rfl⟩
  have hMa : a.length ≤ M := by omega
  have hMb : b.length ≤ M := by omega
  have hM5 : M ≤ 5000 := by omega
  have ha1 : 0 < a.length := List.length_pos_iff.2 hn
  obtain ⟨R, hR⟩ : ∃ R, Lib.decDigits (valD a + valD b) = R := ⟨_, rfl⟩
  rw [hR]
  have HR := Lib.hid hR
  have HM := Lib.hid hM
  clear hR hM hn
  go_enter Tryz.func74, Tryz.ntmps74
  go_wp2
  go_loopg [5, 6, 7] (M + 1) (fun g v5 v6 v7 wr => ∃ (i c : Nat) (out : List UInt8), i + g = M + 1 ∧ v7 = .int .i64 i ∧ v6 = .int .i64 c ∧ v5 = str out ∧ c ≤ 1 ∧ out.length = i ∧ allD out = true ∧ valD out + 10 ^ i * c = lowR a i + lowR b i ∧ Below w.heap.size w wr)
  case atStart => exact ⟨0, 0, [], by omega, rfl, rfl, rfl, by omega, rfl, rfl, by rw [lowR_zero, lowR_zero]; rfl, Below.refl _ _⟩
  case round =>
    obtain ⟨i, c, out, hig, rfl, rfl, rfl, hc, hl, ho, hv, hbl⟩ := hrel
    by_cases hend : a.length ≤ i ∧ b.length ≤ i ∧ c = 0
    · obtain ⟨h1, h2, rfl⟩ := hend
      have h1' : ¬ (i : Int) < (a.length : Int) := by omega
      have h2' : ¬ (i : Int) < (b.length : Int) := by omega
      have BR := bare_ref out (by omega) wr
      have hend := rplus_end hl ho h1 h2 (by omega) hv
      rw [HR.out] at hend
      rw [hend] at BR
      clear hend hv ho
      go_wp2_with fail
      refine BR.mono ?_
      rintro e w' ⟨rfl, rfl⟩
      go_wp2
      go_ret
      exact ⟨rfl, hbl⟩
    · obtain ⟨g, rfl⟩ : ∃ g', gk = g' + 1 := by
        refine ⟨gk - 1, ?_⟩
        have : gk ≠ 0 := by
          rintro rfl
          apply hend
          refine ⟨by omega, by omega, ?_⟩
          rw [lowR_all (by omega), lowR_all (by omega), show i = M + 1 by omega] at hv
          have h1 := valD_lt ha
          have h2 := valD_lt hb
          have h3 : 10 ^ a.length ≤ 10 ^ M := Nat.pow_le_pow_right (by decide) hMa
          have h4 : 10 ^ b.length ≤ 10 ^ M := Nat.pow_le_pow_right (by decide) hMb
          apply Classical.byContradiction
          intro h0
          have h5 : 10 ^ (M + 1) * 1 ≤ 10 ^ (M + 1) * c := Nat.mul_le_mul_left _ (by omega)
          rw [Nat.pow_succ] at h5 hv
          omega
        omega
      have hst := rplus_step ha hb hl ho hc hv
      have DA := digit_ref a i ha (by omega) wr
      have DB := digit_ref b i hb (by omega) wr
      have hA := dgR_lt ha i
      have hB := dgR_lt hb i
      generalize dgR a i = A at DA hA hst
      generalize dgR b i = B at DB hB hst
      have hsb : A + B + c < 20 := by omega
      obtain ⟨s, hs⟩ : ∃ s, A + B + c = s := ⟨_, rfl⟩
      have hsum : (A : Int) + (B : Int) + (c : Int) = (s : Int) := by omega
      rw [hs] at hst
      have hsb : s < 20 := by omega
      obtain ⟨r, hr⟩ : ∃ r, s % 10 = r := ⟨_, rfl⟩
      obtain ⟨d, hd⟩ : ∃ d, s / 10 = d := ⟨_, rfl⟩
      have hmod : ((s : Nat) : Int).tmod 10 = (r : Int) := by rw [← hr, Int.tmod_eq_emod_of_nonneg (by omega)]; rfl
      have hquo : ((s : Nat) : Int).tdiv 10 = (d : Int) := by rw [← hd, Int.tdiv_eq_ediv_of_nonneg (by omega)]; rfl
      rw [hr, hd] at hst
      have hrb : r < 10 := by omega
      have hdb : d ≤ 1 := by omega
      obtain ⟨ch, hch⟩ : ∃ ch, UInt8.ofNat (48 + r) = ch := ⟨_, rfl⟩
      have hcv := fun (W : World) => str_dig (w := W) r hrb (48 + (r : Int)) rfl
      rw [hch] at hcv hst
      have hadd : ∀ W : World, (Op.stringOp .add (ByteArray.mk #[ch]) (ByteArray.mk out.toArray)).run Tryz.prog W = .ok (.string ⟨(ch :: out).toArray⟩) W := fun W => str_add [ch] out (by simp; omega)
      have HST := Lib.hid hst
      have HL := Lib.hid hl
      clear hst hv ho hr hd hs hl hch
      have fin : ∀ W : World, Below w.heap.size w W → ∃ (i' c' : Nat) (out' : List UInt8), i' + g = M + 1 ∧ Value.int .i64 ((i : Int) + 1) = .int .i64 i' ∧ Value.int .i64 (d : Int) = .int .i64 c' ∧ str (ch :: out) = str out' ∧ c' ≤ 1 ∧ out'.length = i' ∧ allD out' = true ∧ valD out' + 10 ^ i' * c' = lowR a i' + lowR b i' ∧ Below w.heap.size w W :=
        fun W hW => ⟨i + 1, d, _, by omega, by go_num, rfl, rfl, hdb, by rw [List.length_cons, HL.out], HST.out.1, HST.out.2.2, hW⟩
      have FIN := Lib.hid fin
      clear fin
      by_cases hia : (i : Int) < (a.length : Int)
      · go_wp2_with fail
        refine DA.mono ?_
        rintro e w' ⟨rfl, rfl⟩
        go_wp2_with fail
        refine DB.mono ?_
        rintro e w' ⟨rfl, rfl⟩
        go_wp2
        go_roundg g
        case measure => omega
        case rel => exact FIN.out _ (hbl.alloc hbl.size _)
      · by_cases hib : (i : Int) < (b.length : Int)
        · go_wp2_with fail
          refine DA.mono ?_
          rintro e w' ⟨rfl, rfl⟩
          go_wp2_with fail
          refine DB.mono ?_
          rintro e w' ⟨rfl, rfl⟩
          go_wp2
          go_roundg g
          case measure => omega
          case rel => exact FIN.out _ (hbl.alloc hbl.size _)
        · have hc0 : (0 : Int) < (c : Int) := by omega
          go_wp2_with fail
          refine DA.mono ?_
          rintro e w' ⟨rfl, rfl⟩
          go_wp2_with fail
          refine DB.mono ?_
          rintro e w' ⟨rfl, rfl⟩
          go_wp2
          go_roundg g
          case measure => omega
          case rel => exact FIN.out _ (hbl.alloc hbl.size _)

end Go.Proofs.YtgbalofdfdafmaaGreatDoor
namespace Go.Proofs.YtgbalofdfdafmaaGreatDoor
open Go.RowKit
set_option maxRecDepth 100000
attribute [local go_sem] str_size str_toList str_get

set_option maxHeartbeats 1600000 in
theorem minus_ref (a b : List UInt8) (ha : allD a = true) (hb : allD b = true) (hn : a ≠ []) (la : a.length ≤ 5000) (lba : b.length ≤ a.length) (hle : valD b ≤ valD a) (w : World) :
    Calls Tryz.prog 77 #[str a, str b] w fun e w' => e = .returned (str (Lib.decDigits (valD a - valD b))) ∧ Below w.heap.size w w' := by
  obtain ⟨R, hR⟩ : ∃ R, Lib.decDigits (valD a - valD b) = R := ⟨_, rfl⟩
  rw [hR]
  have HR := Lib.hid hR
  have HN := Lib.hid hn
  have HLE := Lib.hid hle
  clear hR hn hle
  go_enter Tryz.func77, Tryz.ntmps77
  go_wp2
  go_loopg [5, 6, 7] a.length (fun g v5 v6 v7 wr => ∃ (i c : Nat) (out : List UInt8), i + g = a.length ∧ v7 = .int .i64 i ∧ v6 = .int .i64 c ∧ v5 = str out ∧ c ≤ 1 ∧ out.length = i ∧ allD out = true ∧ valD out + lowR b i = lowR a i + 10 ^ i * c ∧ Below w.heap.size w wr)
  case atStart => exact ⟨0, 0, [], by omega, rfl, rfl, rfl, by omega, rfl, rfl, by rw [lowR_zero, lowR_zero]; rfl, Below.refl _ _⟩
  case round =>
    obtain ⟨i, c, out, hig, rfl, rfl, rfl, hc, hl, ho, hv, hbl⟩ := hrel
    cases gk with
    | zero =>
      have hie : ¬ (i : Int) < (a.length : Int) := by omega
      obtain rfl : i = a.length := by omega
      have BR := bare_ref out (by omega) wr
      have hend := rminus_end hl ho lba HN.out HLE.out hv
      rw [HR.out] at hend
      rw [hend] at BR
      clear hend hv ho hl
      go_wp2_with fail
      refine BR.mono ?_
      rintro e w' ⟨rfl, rfl⟩
      go_wp2
      go_ret
      exact ⟨rfl, hbl⟩
    | succ g =>
      have hie : (i : Int) < (a.length : Int) := by omega
      have hst := rminus_step ha hb hl ho hc hv
      have DA := digit_ref a i ha (by omega) wr
      have DB := digit_ref b i hb (by omega) wr
      have hA := dgR_lt ha i
      have hB := dgR_lt hb i
      generalize dgR a i = A at DA hA hst
      generalize dgR b i = B at DB hB hst
      by_cases hlt : A < B + c
      · have hst := hst.1 hlt
        have hneg : (A : Int) - (B : Int) - (c : Int) < 0 := by omega
        obtain ⟨ch, hch⟩ : ∃ ch, UInt8.ofNat (48 + (A + 10 - (B + c))) = ch := ⟨_, rfl⟩
        obtain ⟨r, hr⟩ : ∃ r, r = A + 10 - (B + c) := ⟨_, rfl⟩
        have hrb : r < 10 := by omega
        rw [← hr] at hch
        have hcv := fun (W : World) => str_dig (w := W) r hrb (48 + (r : Int)) rfl
        rw [← hr, hch] at hst
        rw [hch] at hcv
        have hadd : ∀ W : World, (Op.stringOp .add (ByteArray.mk #[ch]) (ByteArray.mk out.toArray)).run Tryz.prog W = .ok (.string ⟨(ch :: out).toArray⟩) W := fun W => str_add [ch] out (by simp; omega)
        have HST := Lib.hid hst
        have HL := Lib.hid hl
        have hsum : 48 + ((A : Int) - (B : Int) - (c : Int) + 10) = 48 + (r : Int) := by omega
        have hsum' : (A : Int) - (B : Int) - (c : Int) + 10 = (r : Int) := by omega
        clear hr hlt
        clear hst hv ho hl hch
        have fin : ∀ W : World, Below w.heap.size w W → ∃ (i' c' : Nat) (out' : List UInt8), i' + g = a.length ∧ Value.int .i64 ((i : Int) + 1) = .int .i64 i' ∧ Value.int .i64 1 = .int .i64 c' ∧ str (ch :: out) = str out' ∧ c' ≤ 1 ∧ out'.length = i' ∧ allD out' = true ∧ valD out' + lowR b i' = lowR a i' + 10 ^ i' * c' ∧ Below w.heap.size w W :=
          fun W hW => ⟨i + 1, 1, _, by omega, by go_num, rfl, rfl, by omega, by rw [List.length_cons, HL.out], HST.out.1, HST.out.2, hW⟩
        have FIN := Lib.hid fin
        clear fin
        go_wp2_with fail
        refine DA.mono ?_
        rintro e w' ⟨rfl, rfl⟩
        go_wp2_with fail
        refine DB.mono ?_
        rintro e w' ⟨rfl, rfl⟩
        go_wp2
        go_roundg g
        case measure => omega
        case rel => exact FIN.out _ (hbl.alloc hbl.size _)
      · have hst := hst.2 hlt
        have hneg : ¬ (A : Int) - (B : Int) - (c : Int) < 0 := by omega
        obtain ⟨ch, hch⟩ : ∃ ch, UInt8.ofNat (48 + (A - (B + c))) = ch := ⟨_, rfl⟩
        obtain ⟨r, hr⟩ : ∃ r, r = A - (B + c) := ⟨_, rfl⟩
        have hrb : r < 10 := by omega
        rw [← hr] at hch
        have hcv := fun (W : World) => str_dig (w := W) r hrb (48 + (r : Int)) rfl
        rw [← hr, hch] at hst
        rw [hch] at hcv
        have hadd : ∀ W : World, (Op.stringOp .add (ByteArray.mk #[ch]) (ByteArray.mk out.toArray)).run Tryz.prog W = .ok (.string ⟨(ch :: out).toArray⟩) W := fun W => str_add [ch] out (by simp; omega)
        have HST := Lib.hid hst
        have HL := Lib.hid hl
        have hsum : (A : Int) - (B : Int) - (c : Int) = (r : Int) := by omega
        clear hr hlt
        clear hst hv ho hl hch
        have fin : ∀ W : World, Below w.heap.size w W → ∃ (i' c' : Nat) (out' : List UInt8), i' + g = a.length ∧ Value.int .i64 ((i : Int) + 1) = .int .i64 i' ∧ Value.int .i64 0 = .int .i64 c' ∧ str (ch :: out) = str out' ∧ c' ≤ 1 ∧ out'.length = i' ∧ allD out' = true ∧ valD out' + lowR b i' = lowR a i' + 10 ^ i' * c' ∧ Below w.heap.size w W :=
          fun W hW => ⟨i + 1, 0, _, by omega, by go_num, rfl, rfl, by omega, by rw [List.length_cons, HL.out], HST.out.1, HST.out.2, hW⟩
        have FIN := Lib.hid fin
        clear fin
        go_wp2_with fail
        refine DA.mono ?_
        rintro e w' ⟨rfl, rfl⟩
        go_wp2_with fail
        refine DB.mono ?_
        rintro e w' ⟨rfl, rfl⟩
        go_wp2
        go_roundg g
        case measure => omega
        case rel => exact FIN.out _ (hbl.alloc hbl.size _)

end Go.Proofs.YtgbalofdfdafmaaGreatDoor
namespace Go.Proofs.YtgbalofdfdafmaaGreatDoor
open Go.RowKit
set_option maxRecDepth 100000
attribute [local go_sem] str_size str_toList str_get

/-- So many digits has a number. -/
abbrev dl (n : Int) : Nat := (Lib.decDigits n.natAbs).length
theorem dec_len_iff {u k : Nat} (hk : 1 ≤ k) : (Lib.decDigits u).length ≤ k ↔ u < 10 ^ k := by rw [Lib.decDigits_length]; exact nDigits_le hk
theorem dec_len_add {x y k : Nat} (hk : 1 ≤ k) (hx : (Lib.decDigits x).length ≤ k) (hy : (Lib.decDigits y).length ≤ k) : (Lib.decDigits (x + y)).length ≤ k + 1 := by
  rw [dec_len_iff hk] at hx hy
  rw [dec_len_iff (by omega), Nat.pow_succ]
  omega
theorem itoa_ne (n : Int) : Lib.itoa n ≠ [] := by
  by_cases h : n < 0
  · rw [itoa_neg h]; simp
  · rw [itoa_pos h]; exact dec_ne_nil _

theorem below_num (n : Int) (w : World) : Calls Tryz.prog 55 #[str (Lib.itoa n)] w fun e w' => e = .returned (.bool (decide (n < 0))) ∧ w' = w := by
  rw [← belowS_itoa]
  have := itoa_ne n
  cases h : Lib.itoa n with
  | nil => exact absurd h this
  | cons c l => exact below_ref c l w
theorem size_num (n : Int) (w : World) : Calls Tryz.prog 75 #[str (Lib.itoa n)] w fun e w' => e = .returned (str (Lib.decDigits n.natAbs)) ∧ w' = w := by
  rw [← sizeS_itoa]
  have := itoa_ne n
  cases h : Lib.itoa n with
  | nil => exact absurd h this
  | cons c l => exact size_ref c l w
theorem signed_num (b : Bool) (u : Nat) (z : Int) (hz : z = if b = true then -(u : Int) else u) (hl : (Lib.decDigits u).length ≤ 10000) (w : World) : Calls Tryz.prog 40 #[.bool b, str (Lib.decDigits u)] w fun e w' => e = .returned (str (Lib.itoa z)) ∧ w' = w := by
  rw [hz, ← signed_dec]
  exact signed_ref b _ hl w
theorem turned_num (n : Int) (hl : dl n ≤ 1000) (w : World) : Calls Tryz.prog 54 #[str (Lib.itoa n)] w fun e w' => e = .returned (str (Lib.itoa (-n))) ∧ w' = w := by
  have BN := below_num n w
  have SN := size_num n w
  have SG := signed_num (!decide (n < 0)) n.natAbs (-n) (by by_cases h : n < 0 <;> simp [h] <;> omega) (by unfold dl at hl; omega) w
  generalize Lib.itoa (-n) = R at SG ⊢
  generalize Lib.itoa n = a at BN SN ⊢
  generalize Lib.decDigits n.natAbs = s at SN SG
  generalize decide (n < 0) = b at BN SG
  clear hl
  go_enter Tryz.func54, Tryz.ntmps54
  go_wp2_with fail
  refine BN.mono ?_
  rintro e w' ⟨rfl, rfl⟩
  go_wp2_with fail
  refine SN.mono ?_
  rintro e w' ⟨rfl, rfl⟩
  go_wp2_with fail
  refine SG.mono ?_
  rintro e w' ⟨rfl, rfl⟩
  go_wp2
  go_ret
  exact ⟨rfl, rfl⟩

set_option maxHeartbeats 4000000 in
theorem plus_num (m n : Int) (hm : dl m ≤ 1000) (hn : dl n ≤ 1000) (w : World) : Calls Tryz.prog 53 #[str (Lib.itoa m), str (Lib.itoa n)] w fun e w' => e = .returned (str (Lib.itoa (m + n))) ∧ Below w.heap.size w w' := by
  have BM := below_num m
  have BN := below_num n
  have SM := size_num m
  have SN := size_num n
  have PL := fun w => plus_ref (Lib.decDigits m.natAbs) (Lib.decDigits n.natAbs) (allD_dec _) (allD_dec _) (dec_ne_nil _) (Nat.le_trans hm (by decide)) (Nat.le_trans hn (by decide)) w
  have LE := less_ref (Lib.decDigits m.natAbs) (Lib.decDigits n.natAbs)
  rw [lessS_dec] at LE
  have M1 := fun (h : n.natAbs ≤ m.natAbs) w => minus_ref (Lib.decDigits m.natAbs) (Lib.decDigits n.natAbs) (allD_dec _) (allD_dec _) (dec_ne_nil _) (Nat.le_trans hm (by decide)) (dec_len_le h) (by rw [valD_dec, valD_dec]; exact h) w
  have M2 := fun (h : m.natAbs ≤ n.natAbs) w => minus_ref (Lib.decDigits n.natAbs) (Lib.decDigits m.natAbs) (allD_dec _) (allD_dec _) (dec_ne_nil _) (Nat.le_trans hn (by decide)) (dec_len_le h) (by rw [valD_dec, valD_dec]; exact h) w
  simp only [valD_dec] at PL M1 M2
  by_cases hs : decide (m < 0) = decide (n < 0)
  · have SG := signed_num (decide (m < 0)) (m.natAbs + n.natAbs) (m + n) (by by_cases h : m < 0 <;> simp [h] at hs ⊢ <;> omega) (Nat.le_trans (dec_len_add (k := 1000) (by decide) hm hn) (by decide))
    rw [← hs] at BN
    generalize Lib.itoa (m + n) = R at SG ⊢
    generalize Lib.itoa n = b at BN SN ⊢
    generalize Lib.itoa m = a at BM SM ⊢
    generalize Lib.decDigits (m.natAbs + n.natAbs) = u at PL SG
    generalize Lib.decDigits n.natAbs = y at PL SN
    generalize Lib.decDigits m.natAbs = x at PL SM
    generalize decide (m < 0) = q at BM BN SG
    clear hs M1 M2 LE hm hn
    go_enter Tryz.func53, Tryz.ntmps53
    go_wp2_with (first
      | (go_at_call 55; refine (BM _).mono ?_; rintro e w' ⟨rfl, rfl⟩)
      | (go_at_call 55; refine (BN _).mono ?_; rintro e w' ⟨rfl, rfl⟩)
      | (go_at_call 75; refine (SM _).mono ?_; rintro e w' ⟨rfl, rfl⟩)
      | (go_at_call 75; refine (SN _).mono ?_; rintro e w' ⟨rfl, rfl⟩)
      | (go_at_call 74; refine (PL _).mono ?_; rintro e w1 ⟨rfl, hb1⟩)
      | (go_at_call 40; refine (SG _).mono ?_; rintro e w' ⟨rfl, rfl⟩))
    go_ret
    exact ⟨rfl, hb1⟩
  · by_cases hlt : m.natAbs < n.natAbs
    · have SG := signed_num (decide (n < 0)) (n.natAbs - m.natAbs) (m + n) (by by_cases h : m < 0 <;> by_cases h2 : n < 0 <;> simp [h, h2] at hs ⊢ <;> omega) (by
        have := dec_len_le (show n.natAbs - m.natAbs ≤ n.natAbs by omega)
        have h3 : dl n ≤ 1000 := by assumption
        unfold dl at h3
        omega)
      have MM := M2 (Nat.le_of_lt hlt)
      rw [decide_eq_true hlt] at LE
      have hne : (decide (m < 0) == decide (n < 0)) = false := by simpa using hs
      generalize Lib.itoa (m + n) = R at SG ⊢
      generalize Lib.itoa n = b at BN SN ⊢
      generalize Lib.itoa m = a at BM SM ⊢
      generalize Lib.decDigits (n.natAbs - m.natAbs) = u at MM SG
      generalize Lib.decDigits n.natAbs = y at MM SN LE
      generalize Lib.decDigits m.natAbs = x at MM SM LE
      generalize decide (m < 0) = q at BM hne
      generalize decide (n < 0) = q' at BN hne SG
      clear hs M1 M2 PL hm hn hlt
      go_enter Tryz.func53, Tryz.ntmps53
      go_wp2_with (first
        | (go_at_call 55; refine (BM _).mono ?_; rintro e w' ⟨rfl, rfl⟩)
        | (go_at_call 55; refine (BN _).mono ?_; rintro e w' ⟨rfl, rfl⟩)
        | (go_at_call 75; refine (SM _).mono ?_; rintro e w' ⟨rfl, rfl⟩)
        | (go_at_call 75; refine (SN _).mono ?_; rintro e w' ⟨rfl, rfl⟩)
        | (go_at_call 76; refine (LE _).mono ?_; rintro e w' ⟨rfl, rfl⟩)
        | (go_at_call 77; refine (MM _).mono ?_; rintro e w1 ⟨rfl, hb1⟩)
        | (go_at_call 40; refine (SG _).mono ?_; rintro e w' ⟨rfl, rfl⟩))
      go_ret
      exact ⟨rfl, hb1⟩
    · have SG := signed_num (decide (m < 0)) (m.natAbs - n.natAbs) (m + n) (by by_cases h : m < 0 <;> by_cases h2 : n < 0 <;> simp [h, h2] at hs ⊢ <;> omega) (by
        have := dec_len_le (show m.natAbs - n.natAbs ≤ m.natAbs by omega)
        have h3 : dl m ≤ 1000 := by assumption
        unfold dl at h3
        omega)
      have MM := M1 (Nat.le_of_not_lt hlt)
      rw [decide_eq_false hlt] at LE
      have hne : (decide (m < 0) == decide (n < 0)) = false := by simpa using hs
      generalize Lib.itoa (m + n) = R at SG ⊢
      generalize Lib.itoa n = b at BN SN ⊢
      generalize Lib.itoa m = a at BM SM ⊢
      generalize Lib.decDigits (m.natAbs - n.natAbs) = u at MM SG
      generalize Lib.decDigits n.natAbs = y at MM SN LE
      generalize Lib.decDigits m.natAbs = x at MM SM LE
      generalize decide (m < 0) = q at BM hne SG
      generalize decide (n < 0) = q' at BN hne
      clear hs M1 M2 PL hm hn hlt
      go_enter Tryz.func53, Tryz.ntmps53
      go_wp2_with (first
        | (go_at_call 55; refine (BM _).mono ?_; rintro e w' ⟨rfl, rfl⟩)
        | (go_at_call 55; refine (BN _).mono ?_; rintro e w' ⟨rfl, rfl⟩)
        | (go_at_call 75; refine (SM _).mono ?_; rintro e w' ⟨rfl, rfl⟩)
        | (go_at_call 75; refine (SN _).mono ?_; rintro e w' ⟨rfl, rfl⟩)
        | (go_at_call 76; refine (LE _).mono ?_; rintro e w' ⟨rfl, rfl⟩)
        | (go_at_call 77; refine (MM _).mono ?_; rintro e w1 ⟨rfl, hb1⟩)
        | (go_at_call 40; refine (SG _).mono ?_; rintro e w' ⟨rfl, rfl⟩))
      go_ret
      exact ⟨rfl, hb1⟩

theorem cmp_num (m n : Int) (hm : dl m ≤ 1000) (hn : dl n ≤ 1000) (w : World) : Calls Tryz.prog 32 #[str (Lib.itoa m), str (Lib.itoa n)] w fun e w' => e = .returned (.int .i64 (sgn (m - n))) ∧ Below w.heap.size w w' := by
  have TN := turned_num n hn w
  have PL := plus_num m (-n) hm (by unfold dl; rw [Int.natAbs_neg]; exact hn) w
  rw [← Int.sub_eq_add_neg] at PL
  have BL := below_num (m - n)
  have h0 : (Lib.itoa (m - n) == [48]) = decide (m - n = 0) := by
    rw [Bool.eq_iff_iff, beq_iff_eq, decide_eq_true_eq, ← itoa_zero]
    exact ⟨itoa_inj, fun h => by rw [h]⟩
  obtain ⟨z, hz⟩ : ∃ z, z = m - n := ⟨_, rfl⟩
  rw [← hz] at PL BL h0 ⊢
  generalize Lib.itoa (-n) = t at TN PL
  generalize Lib.itoa n = b at TN ⊢
  generalize Lib.itoa m = a at PL ⊢
  generalize Lib.itoa z = r at PL BL h0
  clear hz hm hn
  rcases Int.lt_trichotomy z 0 with h | h | h
  · have hs : sgn z = -1 := by unfold sgn; rw [if_pos h]
    have h0' : (r == [48]) = false := by rw [h0, decide_eq_false_iff_not]; omega
    rw [decide_eq_true h] at BL
    rw [hs]
    clear h0 hs
    go_enter Tryz.func32, Tryz.ntmps32
    go_wp2_with (first
      | (go_at_call 54; refine TN.mono ?_; rintro e w' ⟨rfl, rfl⟩)
      | (go_at_call 53; refine PL.mono ?_; rintro e w1 ⟨rfl, hb1⟩)
      | (go_at_call 55; refine (BL _).mono ?_; rintro e w' ⟨rfl, rfl⟩))
    go_ret
    exact ⟨rfl, hb1⟩
  · have hs : sgn z = 0 := by rw [h]; rfl
    have h0' : (r == [48]) = true := by rw [h0, decide_eq_true h]
    rw [hs]
    clear h0 hs
    go_enter Tryz.func32, Tryz.ntmps32
    go_wp2_with (first
      | (go_at_call 54; refine TN.mono ?_; rintro e w' ⟨rfl, rfl⟩)
      | (go_at_call 53; refine PL.mono ?_; rintro e w1 ⟨rfl, hb1⟩)
      | (go_at_call 55; refine (BL _).mono ?_; rintro e w' ⟨rfl, rfl⟩))
    go_ret
    exact ⟨rfl, hb1⟩
  · have hs : sgn z = 1 := by unfold sgn; rw [if_neg (by omega), if_neg (by omega)]
    have h0' : (r == [48]) = false := by rw [h0, decide_eq_false_iff_not]; omega
    rw [decide_eq_false (show ¬ z < 0 by omega)] at BL
    rw [hs]
    clear h0 hs
    go_enter Tryz.func32, Tryz.ntmps32
    go_wp2_with (first
      | (go_at_call 54; refine TN.mono ?_; rintro e w' ⟨rfl, rfl⟩)
      | (go_at_call 53; refine PL.mono ?_; rintro e w1 ⟨rfl, hb1⟩)
      | (go_at_call 55; refine (BL _).mono ?_; rintro e w' ⟨rfl, rfl⟩))
    go_ret
    exact ⟨rfl, hb1⟩

end Go.Proofs.YtgbalofdfdafmaaGreatDoor
