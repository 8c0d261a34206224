/- The walk of the law on sums and differences: it answers true of any two texts. -/
import Derived.Test.YtekpdmjobkikfaaDoorAwake
import Derived.Test.YtekpdmjobkikfaaDoorRefF
namespace Go.Proofs.YtekpdmjobkikfaaDoor
open Go.RowKit
set_option maxRecDepth 100000
attribute [local go_sem] str_size str_toList str_get

theorem capped_num (z : Int) (w : World) : Calls Tryd.prog 18 #[str (Lib.itoa z)] w fun e w' => e = .returned (.tuple #[str (capR z).1, .int .i64 (capR z).2]) ∧ w' = w := by
  have hne := itoa_ne z
  have hs := sizeS_itoa z
  have hl : (Lib.decDigits z.natAbs).length ≤ 100 ↔ z.natAbs < 10 ^ 100 := dec_len_iff (by decide)
  cases h : Lib.itoa z with
  | nil => exact absurd h hne
  | cons c l =>
    refine (capped_ref c l w).mono ?_
    rintro e w' ⟨rfl, rfl⟩
    refine ⟨?_, rfl⟩
    rw [← h, hs]
    by_cases h100 : 100 < (Lib.decDigits z.natAbs).length
    · rw [if_pos h100, capR_long (by omega)]
    · rw [if_neg h100, capR_ok (by omega)]
theorem dl_good {z : Int} (h : z.natAbs < 10 ^ 100) : dl z ≤ 100 := (dec_len_iff (by decide)).2 h

set_option maxHeartbeats 4000000 in
theorem sums_true (a b : List UInt8) (la : a.length ≤ 9223372036854775807) (lb : b.length ≤ 9223372036854775807) (w : World) (hT : TabW w) : Calls Tryd.prog 4 #[str a, str b] w fun e w' => e = .returned (.bool true) ∧ Below w.heap.size w w' := by
  have AW := awake_any w hT
  have AD := fun W (h : TabW W) => add_any a b W h
  have SB := fun W (h : TabW W) => sub_any a b W h
  have G1 := fun W => good_any a W
  have G2 := fun W => good_any b W
  have R1 := fun W => good_ref a la W
  have R2 := fun W => good_ref b lb W
  have HT := Lib.hid hT
  clear hT
  by_cases hg : goodS a = true ∧ goodS b = true
  · obtain ⟨hga, hgb⟩ := hg
    have hma := good_abs hga
    have hmb := good_abs hgb
    have ea := good_text hga
    have eb := good_text hgb
    have e1 : addR a b = capR (valS a + valS b) := by unfold addR; rw [if_pos ⟨hga, hgb⟩]
    have e2 : subR a b = capR (valS a + -valS b) := by unfold subR; rw [if_pos ⟨hga, hgb⟩, Int.sub_eq_add_neg]
    rw [hga] at G1 R1
    rw [hgb] at G2 R2
    rw [e1] at AD
    rw [e2] at SB
    have dm : dl (valS a) ≤ 1000 := Nat.le_trans (dl_good hma) (by decide)
    have dn : dl (valS b) ≤ 1000 := Nat.le_trans (dl_good hmb) (by decide)
    have P1 := fun W => plus_num (valS a) (valS b) dm dn W
    have T1 := fun W => turned_num (valS b) dn W
    have P2 := fun W => plus_num (valS a) (-valS b) dm (by unfold dl; rw [Int.natAbs_neg]; exact dn) W
    have C1 := fun W => capped_num (valS a + valS b) W
    have C2 := fun W => capped_num (valS a + -valS b) W
    rw [ea] at P1 P2
    rw [eb] at P1 T1
    generalize capR (valS a + valS b) = c1 at AD C1
    generalize capR (valS a + -valS b) = c2 at SB C2
    generalize Lib.itoa (valS a + valS b) = t1 at P1 C1
    generalize Lib.itoa (valS a + -valS b) = t2 at P2 C2
    generalize Lib.itoa (-valS b) = t3 at T1 P2
    obtain ⟨s1, x1⟩ := c1
    obtain ⟨s2, x2⟩ := c2
    have S1 := fun W => same_any s1 s1 x1 x1 W
    have S2 := fun W => same_any s2 s2 x2 x2 W
    simp only [beq_self_eq_true, Bool.and_self] at S1 S2
    clear hga hgb hma hmb ea eb e1 e2 dm dn la lb
    go_enter Tryd.func4, Tryd.ntmps4
    go_wp2_with fail
    refine AW.mono ?_
    rintro e w1 ⟨rfl, hb1⟩
    go_wp2_with fail
    refine (AD _ (HT.out.mono hb1)).mono ?_
    rintro e w2 ⟨rfl, hq2⟩
    have hb2 := hb1.trans (hq2.mono hb1.size)
    clear hq2 hb1
    go_wp2_with fail
    refine (SB _ (HT.out.mono hb2)).mono ?_
    rintro e w3 ⟨rfl, hq3⟩
    have hb3 := hb2.trans (hq3.mono hb2.size)
    clear hq3 hb2
    go_wp2_with fail
    refine (G1 _).mono ?_
    rintro e w4 ⟨rfl, hq4⟩
    have hb4 := hb3.trans (hq4.mono hb3.size)
    clear hq4 hb3
    go_wp2_with fail
    refine (R1 _).mono ?_
    rintro e w' ⟨rfl, hw'⟩
    rw [hw']
    clear hw' w'
    go_wp2_with fail
    refine (G2 _).mono ?_
    rintro e w5 ⟨rfl, hq5⟩
    have hb5 := hb4.trans (hq5.mono hb4.size)
    clear hq5 hb4
    go_wp2_with fail
    refine (R2 _).mono ?_
    rintro e w' ⟨rfl, hw'⟩
    rw [hw']
    clear hw' w'
    go_wp2_with fail
    refine (R1 _).mono ?_
    rintro e w' ⟨rfl, hw'⟩
    rw [hw']
    clear hw' w'
    go_wp2_with fail
    refine (R2 _).mono ?_
    rintro e w' ⟨rfl, hw'⟩
    rw [hw']
    clear hw' w'
    go_wp2_with fail
    refine (P1 _).mono ?_
    rintro e w6 ⟨rfl, hq6⟩
    have hb6 := hb5.trans (hq6.mono hb5.size)
    clear hq6 hb5
    go_wp2_with fail
    refine (C1 _).mono ?_
    rintro e w' ⟨rfl, hw'⟩
    rw [hw']
    clear hw' w'
    go_wp2_with fail
    refine (T1 _).mono ?_
    rintro e w' ⟨rfl, hw'⟩
    rw [hw']
    clear hw' w'
    go_wp2_with fail
    refine (P2 _).mono ?_
    rintro e w7 ⟨rfl, hq7⟩
    have hb7 := hb6.trans (hq7.mono hb6.size)
    clear hq7 hb6
    go_wp2_with fail
    refine (C2 _).mono ?_
    rintro e w' ⟨rfl, hw'⟩
    rw [hw']
    clear hw' w'
    go_wp2_with fail
    refine (S1 _).mono ?_
    rintro e w' ⟨rfl, hw'⟩
    rw [hw']
    clear hw' w'
    go_wp2_with fail
    refine (S2 _).mono ?_
    rintro e w' ⟨rfl, hw'⟩
    rw [hw']
    clear hw' w'
    go_wp2
    go_ret
    exact ⟨rfl, hb7⟩
  · have e1 : addR a b = ([], 6) := by unfold addR; rw [if_neg hg]
    have e2 : subR a b = ([], 6) := by unfold subR; rw [if_neg hg]
    rw [e1] at AD
    rw [e2] at SB
    have S0 := fun W => same_any [] [] 6 6 W
    simp only [beq_self_eq_true, Bool.and_self] at S0
    clear e1 e2 la lb
    by_cases hga : goodS a = true
    · have hgb : goodS b = false := by simpa using fun h => hg ⟨hga, h⟩
      rw [hga] at G1 R1
      rw [hgb] at G2 R2
      clear hg hga hgb
      go_enter Tryd.func4, Tryd.ntmps4
      go_wp2_with fail
      refine AW.mono ?_
      rintro e w1 ⟨rfl, hb1⟩
      go_wp2_with fail
      refine (AD _ (HT.out.mono hb1)).mono ?_
      rintro e w2 ⟨rfl, hq2⟩
      have hb2 := hb1.trans (hq2.mono hb1.size)
      clear hq2 hb1
      go_wp2_with fail
      refine (SB _ (HT.out.mono hb2)).mono ?_
      rintro e w3 ⟨rfl, hq3⟩
      have hb3 := hb2.trans (hq3.mono hb2.size)
      clear hq3 hb2
      go_wp2_with fail
      refine (G1 _).mono ?_
      rintro e w4 ⟨rfl, hq4⟩
      have hb4 := hb3.trans (hq4.mono hb3.size)
      clear hq4 hb3
      go_wp2_with fail
      refine (R1 _).mono ?_
      rintro e w' ⟨rfl, hw'⟩
      rw [hw']
      clear hw' w'
      go_wp2_with fail
      refine (G2 _).mono ?_
      rintro e w5 ⟨rfl, hq5⟩
      have hb5 := hb4.trans (hq5.mono hb4.size)
      clear hq5 hb4
      go_wp2_with fail
      refine (R2 _).mono ?_
      rintro e w' ⟨rfl, hw'⟩
      rw [hw']
      clear hw' w'
      go_wp2_with fail
      refine (R1 _).mono ?_
      rintro e w' ⟨rfl, hw'⟩
      rw [hw']
      clear hw' w'
      go_wp2_with fail
      refine (R2 _).mono ?_
      rintro e w' ⟨rfl, hw'⟩
      rw [hw']
      clear hw' w'
      go_wp2_with fail
      refine (S0 _).mono ?_
      rintro e w' ⟨rfl, hw'⟩
      rw [hw']
      clear hw' w'
      go_wp2_with fail
      refine (S0 _).mono ?_
      rintro e w' ⟨rfl, hw'⟩
      rw [hw']
      clear hw' w'
      go_wp2
      go_ret
      exact ⟨rfl, hb5⟩
    · have hga : goodS a = false := by simpa using hga
      rw [hga] at G1 R1
      obtain ⟨gb, hgb⟩ : ∃ gb, goodS b = gb := ⟨_, rfl⟩
      rw [hgb] at G2 R2
      clear hg hga hgb
      have hgg : (gb != gb) = false := by simp
      go_enter Tryd.func4, Tryd.ntmps4
      go_wp2_with fail
      refine AW.mono ?_
      rintro e w1 ⟨rfl, hb1⟩
      go_wp2_with fail
      refine (AD _ (HT.out.mono hb1)).mono ?_
      rintro e w2 ⟨rfl, hq2⟩
      have hb2 := hb1.trans (hq2.mono hb1.size)
      clear hq2 hb1
      go_wp2_with fail
      refine (SB _ (HT.out.mono hb2)).mono ?_
      rintro e w3 ⟨rfl, hq3⟩
      have hb3 := hb2.trans (hq3.mono hb2.size)
      clear hq3 hb2
      go_wp2_with fail
      refine (G1 _).mono ?_
      rintro e w4 ⟨rfl, hq4⟩
      have hb4 := hb3.trans (hq4.mono hb3.size)
      clear hq4 hb3
      go_wp2_with fail
      refine (R1 _).mono ?_
      rintro e w' ⟨rfl, hw'⟩
      rw [hw']
      clear hw' w'
      go_wp2_with fail
      refine (G2 _).mono ?_
      rintro e w5 ⟨rfl, hq5⟩
      have hb5 := hb4.trans (hq5.mono hb4.size)
      clear hq5 hb4
      go_wp2_with fail
      refine (R2 _).mono ?_
      rintro e w' ⟨rfl, hw'⟩
      rw [hw']
      clear hw' w'
      go_wp2_with fail
      refine (R1 _).mono ?_
      rintro e w' ⟨rfl, hw'⟩
      rw [hw']
      clear hw' w'
      go_wp2_with fail
      refine (S0 _).mono ?_
      rintro e w' ⟨rfl, hw'⟩
      rw [hw']
      clear hw' w'
      go_wp2_with fail
      refine (S0 _).mono ?_
      rintro e w' ⟨rfl, hw'⟩
      rw [hw']
      clear hw' w'
      go_wp2
      go_ret
      exact ⟨rfl, hb5⟩

end Go.Proofs.YtekpdmjobkikfaaDoor
