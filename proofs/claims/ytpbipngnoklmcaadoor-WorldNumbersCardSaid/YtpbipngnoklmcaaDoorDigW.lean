/- The walk of the document's Digits, for a seat that lacks the rest of its numbers. Printed by gendigw.py. -/
import Derived.Test.YtpbipngnoklmcaaDoorIntP
import Derived.Test.YtpbipngnoklmcaaDoorMp
import Derived.Test.YtpbipngnoklmcaaDoorChars
import Derived.Test.YtpbipngnoklmcaaDoorStr
import Derived.Lib.SmallJoins
namespace Go.Proofs.YtpbipngnoklmcaaDoor
open Go.RowKit
set_option maxRecDepth 100000
attribute [local go_sem] str_size str_toList str_get

theorem dec_len_iff {u k : Nat} (hk : 1 ≤ k) : (Lib.decDigits u).length ≤ k ↔ u < 10 ^ k := by rw [Lib.decDigits_length]; exact nDigits_le hk
theorem signed_ref (b : Bool) (l : List UInt8) (hl : l.length ≤ 10000) (w : World) : Calls Tryd.prog 30 #[.bool b, str l] w fun e w' => e = .returned (str (signedS b l)) ∧ w' = w := by
  have ha : (Op.stringOp .add (ByteArray.mk #[45]) (ByteArray.mk l.toArray)).run Tryd.prog w = .ok (.string ⟨(45 :: l).toArray⟩) w := str_add [45] l (by simp; omega)
  have h1 : b = true → (!l == [48]) = true → signedS b l = 45 :: l := fun h1 h2 => by unfold signedS; rw [if_pos ⟨h1, by simpa using h2⟩]
  have h2 : (!l == [48]) = false → signedS b l = l := fun h2 => by unfold signedS; rw [if_neg (fun h => h.2 (by simpa using h2))]
  have h3 : ¬ b = true → signedS b l = l := fun h3 => by unfold signedS; rw [if_neg (fun h => h3 h.1)]
  have H1 := Lib.hid h1
  have H2 := Lib.hid h2
  have H3 := Lib.hid h3
  clear h1 h2 h3
  go_enter Tryd.func30, Tryd.ntmps30
  go_wp2
  · go_ret
    refine ⟨?_, rfl⟩
    rw [H1.out (by assumption) (by assumption)]
    rfl
  · go_ret
    refine ⟨?_, rfl⟩
    rw [H2.out (by assumption)]
    rfl
  · go_ret
    refine ⟨?_, rfl⟩
    rw [H3.out (by assumption)]
    rfl
theorem signed_num (b : Bool) (u : Nat) (z : Int) (hz : z = if b = true then -(u : Int) else u) (hl : (Lib.decDigits u).length ≤ 10000) (w : World) : Calls Tryd.prog 30 #[.bool b, str (Lib.decDigits u)] w fun e w' => e = .returned (str (Lib.itoa z)) ∧ w' = w := by
  rw [hz, ← signed_dec]
  exact signed_ref b _ hl w

set_option maxHeartbeats 1600000 in
theorem digits_ref (n : Int) (h0 : -9223372036854775808 ≤ n) (h1 : n ≤ 9223372036854775807) (w : World) : Calls Tryd.prog 11 #[.int .i64 n] w fun e w' => e = .returned (str (Lib.itoa n)) ∧ Below w.heap.size w w' := by
  by_cases hn : n = 0
  · subst hn
    have hz : str (Lib.itoa 0) = .string ⟨#[48]⟩ := by rw [itoa_zero]
    rw [hz]
    clear hz
    go_enter Tryd.func11, Tryd.ntmps11
    go_wp2
    go_ret
    exact ⟨rfl, Below.refl _ _⟩
  · have hlen : (Lib.decDigits n.natAbs).length ≤ 20 := (dec_len_iff (by decide)).2 (by
      have : n.natAbs ≤ 9223372036854775808 := by omega
      exact Nat.lt_of_le_of_lt this (by decide))
    have SG := fun W => signed_num (decide (n < 0)) n.natAbs n (by by_cases h : n < 0 <;> simp [h] <;> omega) (by omega) W
    obtain ⟨R, hR⟩ : ∃ R, Lib.itoa n = R := ⟨_, rfl⟩
    obtain ⟨D, hD⟩ : ∃ D, Lib.decDigits n.natAbs = D := ⟨_, rfl⟩
    rw [hR, hD] at SG
    rw [hR]
    have HD := Lib.hid hD
    have hDl : D.length ≤ 20 := by rw [← hD]; exact hlen
    clear hR hD hlen
    have hn0 : (n == 0) = false := by simpa using hn
    go_enter Tryd.func11, Tryd.ntmps11
    go_wp2
    go_loopg [3, 4] n.natAbs (fun g v3 v4 wr => ∃ (k : Int) (s : List UInt8), v4 = .int .i64 k ∧ v3 = str s ∧ k.natAbs ≤ g ∧ k.natAbs ≤ n.natAbs ∧ joinD k.natAbs s = D ∧ Below w.heap.size w wr)
    case atStart => exact ⟨n, [], rfl, rfl, Nat.le_refl _, Nat.le_refl _, by unfold joinD; rw [if_neg (by omega), HD.out, List.append_nil], Below.refl _ _⟩
    case round =>
      obtain ⟨k, s, rfl, rfl, hkg, hkn, hj, hbl⟩ := hrel
      by_cases hk : k = 0
      · subst hk
        obtain rfl : s = D := hj
        clear hkg hkn HD
        go_wp2_with fail
        refine (SG _).mono ?_
        rintro e w' ⟨rfl, hw'⟩
        rw [hw']
        clear hw' w'
        go_wp2
        go_ret
        exact ⟨rfl, hbl⟩
      · have hk0 : (k == 0) = false := by simpa using hk
        obtain ⟨g, rfl⟩ : ∃ g', gk = g' + 1 := ⟨gk - 1, by omega⟩
        obtain ⟨u, hu⟩ : ∃ u, k.natAbs = u := ⟨_, rfl⟩
        rw [hu] at hj hkg hkn
        have hst := joinD_step (u := u) (by omega) s
        rw [hj] at hst
        have hsl : s.length ≤ D.length := by rw [← hj]; exact joinD_len u s
        obtain ⟨r, hr⟩ : ∃ r, u % 10 = r := ⟨_, rfl⟩
        obtain ⟨q, hq⟩ : ∃ q : Int, k.tdiv 10 = q := ⟨_, rfl⟩
        obtain ⟨m, hm⟩ : ∃ m : Int, k.tmod 10 = m := ⟨_, rfl⟩
        have hrb : r < 10 := by omega
        have hqu : q.natAbs = u / 10 := by rw [← hq, Int.natAbs_tdiv, hu]; rfl
        have hqm : q * 10 + m = k := by rw [← hq, ← hm]; exact tdiv_mul k 10
        have hmb : m.natAbs = r := by rw [← hm, Int.natAbs_tmod, hu, ← hr]; rfl
        rw [hr, ← hqu] at hst
        have HST := Lib.hid hst
        have hqg : q.natAbs ≤ g := by omega
        have hqn : q.natAbs ≤ n.natAbs := by omega
        have hmlo : -10 < m := by omega
        have hmhi : m < 10 := by omega
        have hklo : -9223372036854775808 ≤ k := by omega
        have hkhi : k ≤ 9223372036854775808 := by omega
        obtain ⟨ch, hch⟩ : ∃ ch, UInt8.ofNat (48 + r) = ch := ⟨_, rfl⟩
        have hcv := fun (W : World) => str_dig (w := W) r hrb (48 + (r : Int)) rfl
        rw [hch] at hcv HST
        have hqlo : -9223372036854775808 ≤ q := by omega
        have hqhi : q ≤ 922337203685477580 := by omega
        have hadd : ∀ W : World, (Op.stringOp .add (ByteArray.mk #[ch]) (ByteArray.mk s.toArray)).run Tryd.prog W = .ok (.string ⟨(ch :: s).toArray⟩) W := fun W => str_add [ch] s (by simp; omega)
        by_cases hm0 : m < 0
        · have hneg : -m = (r : Int) := by omega
          clear hst hj hr hch hmb hqm hqu hu hsl
          go_wp2
          go_roundg g
          case measure => omega
          case rel => exact ⟨q, ch :: s, by go_num, rfl, hqg, hqn, HST.out, hbl.alloc hbl.size _⟩
        · obtain rfl : m = (r : Int) := by omega
          clear hst hj hr hch hmb hqm hqu hu hsl
          go_wp2
          go_roundg g
          case measure => omega
          case rel => exact ⟨q, ch :: s, by go_num, rfl, hqg, hqn, HST.out, hbl.alloc hbl.size _⟩

end Go.Proofs.YtpbipngnoklmcaaDoor
