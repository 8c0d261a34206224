/- The walk of the law on products, quotients and comparing: it answers true of any two texts. -/
import Derived.Test.YtekpdmjobkikfaaDoorLawSums
import Derived.Test.YtekpdmjobkikfaaDoorRefE
namespace Go.Proofs.YtekpdmjobkikfaaDoor
open Go.RowKit
set_option maxRecDepth 100000
attribute [local go_sem] str_size str_toList str_get

set_option maxHeartbeats 8000000 in
theorem prods_true (a b : List UInt8) (la : a.length ≤ 9223372036854775807) (lb : b.length ≤ 9223372036854775807) (w : World) (hT : TabW w) : Calls Tryd.prog 6 #[str a, str b] w fun e w' => e = .returned (.bool true) ∧ Below w.heap.size w w' := by
  have AW := awake_any w hT
  have ML := fun W (h : TabW W) => mul_any a b W h
  have DV := fun W (h : TabW W) => div_any a b W h
  have R1 := fun W => good_ref a la W
  have R2 := fun W => good_ref b lb W
  have HT := Lib.hid hT
  have CM := fun W (h : TabW W) => cmp_any a b W h
  have hadd : ∀ W : World, (Op.stringOp .add (ByteArray.mk #[]) (ByteArray.mk #[])).run Tryd.prog W = .ok (.string ⟨#[]⟩) W := fun W => str_add [] [] (by simp)
  clear hT
  by_cases hg : goodS a = true ∧ goodS b = true
  · obtain ⟨hga, hgb⟩ := hg
    have hma := good_abs hga
    have hmb := good_abs hgb
    have ea := good_text hga
    have eb := good_text hgb
    have hz := good_zero_iff hgb
    have e1 : mulR a b = capR (valS a * valS b) := by unfold mulR; rw [if_pos ⟨hga, hgb⟩]
    have e2 : cmpR a b = sgn (valS a - valS b) := by unfold cmpR; rw [if_pos ⟨hga, hgb⟩]
    rw [hga] at R1
    rw [hgb] at R2
    rw [e1] at ML
    rw [e2] at CM
    have dm : dl (valS a) ≤ 100 := dl_good hma
    have dn : dl (valS b) ≤ 100 := dl_good hmb
    have TI := fun W => times_num (valS a) (valS b) dm dn W
    have CP := fun W => capped_num (valS a * valS b) W
    have RC := fun W => cmp_num (valS a) (valS b) (Nat.le_trans dm (by decide)) (Nat.le_trans dn (by decide)) W
    rw [ea, eb] at TI RC
    generalize sgn (valS a - valS b) = cc at CM RC
    generalize capR (valS a * valS b) = c1 at ML CP
    generalize Lib.itoa (valS a * valS b) = t1 at TI CP
    obtain ⟨s1, x1⟩ := c1
    have S1 := fun W => same_any s1 s1 x1 x1 W
    simp only [beq_self_eq_true, Bool.and_self] at S1
    by_cases hb0 : b = [48]
    · have e3 : divR a b = ([], [], 10) := by unfold divR; rw [if_pos ⟨hga, hgb⟩, if_pos hb0]
      have S0 := fun W => same_any [] [] 10 10 W
      simp only [beq_self_eq_true, Bool.and_self] at S0
      have hbb : (b == [48]) = true := by simpa using hb0
      rw [e3] at DV
      clear hga hgb hma hmb ea eb e1 e2 e3 dm dn la lb hb0 hz
      go_enter Tryd.func6, Tryd.ntmps6
      go_wp2_with fail
      refine AW.mono ?_
      rintro e w1 ⟨rfl, hb1⟩
      go_wp2_with fail
      refine (ML _ (HT.out.mono hb1)).mono ?_
      rintro e w2 ⟨rfl, hq2⟩
      have hb2 := hb1.trans (hq2.mono hb1.size)
      clear hq2 hb1
      go_wp2_with fail
      refine (DV _ (HT.out.mono hb2)).mono ?_
      rintro e w3 ⟨rfl, hq3⟩
      have hb3 := hb2.trans (hq3.mono hb2.size)
      clear hq3 hb2
      go_wp2_with fail
      refine (R1 _).mono ?_
      rintro e w' ⟨rfl, hw'⟩
      rw [hw']
      clear hw' w'
      go_wp2_with fail
      refine (R2 _).mono ?_
      rintro e w' ⟨rfl, hw'⟩
      rw [hw']
      clear hw' w'
      go_wp2_with fail
      refine (TI _).mono ?_
      rintro e w4 ⟨rfl, hq4⟩
      have hb4 := hb3.trans (hq4.mono hb3.size)
      clear hq4 hb3
      go_wp2_with fail
      refine (CP _).mono ?_
      rintro e w' ⟨rfl, hw'⟩
      rw [hw']
      clear hw' w'
      go_wp2_with fail
      refine (S1 _).mono ?_
      rintro e w' ⟨rfl, hw'⟩
      rw [hw']
      clear hw' w'
      go_wp2_with fail
      refine (CM _ (HT.out.mono hb4)).mono ?_
      rintro e w5 ⟨rfl, hq5⟩
      have hb5 := hb4.trans (hq5.mono hb4.size)
      clear hq5 hb4
      go_wp2_with fail
      refine (RC _).mono ?_
      rintro e w6 ⟨rfl, hq6⟩
      have hb6 := hb5.trans (hq6.mono hb5.size)
      clear hq6 hb5
      go_wp2_with fail
      refine (S0 _).mono ?_
      rintro e w' ⟨rfl, hw'⟩
      rw [hw']
      clear hw' w'
      go_wp2
      go_ret
      exact ⟨rfl, hb6⟩
    · have e3 : divR a b = (Lib.itoa ((valS a).tdiv (valS b)), Lib.itoa ((valS a).tmod (valS b)), 0) := by unfold divR; rw [if_pos ⟨hga, hgb⟩, if_neg hb0]
      have PT := fun W => parted_num (valS a) (valS b) dm dn (fun h => hb0 (hz.2 h)) W
      rw [ea, eb] at PT
      have hbb : (b == [48]) = false := by simpa using hb0
      rw [e3] at DV
      generalize Lib.itoa ((valS a).tdiv (valS b)) = qq at DV PT
      generalize Lib.itoa ((valS a).tmod (valS b)) = rr at DV PT
      clear hga hgb hma hmb ea eb e1 e2 e3 dm dn la lb hb0 hz hadd
      go_enter Tryd.func6, Tryd.ntmps6
      go_wp2_with fail
      refine AW.mono ?_
      rintro e w1 ⟨rfl, hb1⟩
      go_wp2_with fail
      refine (ML _ (HT.out.mono hb1)).mono ?_
      rintro e w2 ⟨rfl, hq2⟩
      have hb2 := hb1.trans (hq2.mono hb1.size)
      clear hq2 hb1
      go_wp2_with fail
      refine (DV _ (HT.out.mono hb2)).mono ?_
      rintro e w3 ⟨rfl, hq3⟩
      have hb3 := hb2.trans (hq3.mono hb2.size)
      clear hq3 hb2
      go_wp2_with fail
      refine (R1 _).mono ?_
      rintro e w' ⟨rfl, hw'⟩
      rw [hw']
      clear hw' w'
      go_wp2_with fail
      refine (R2 _).mono ?_
      rintro e w' ⟨rfl, hw'⟩
      rw [hw']
      clear hw' w'
      go_wp2_with fail
      refine (TI _).mono ?_
      rintro e w4 ⟨rfl, hq4⟩
      have hb4 := hb3.trans (hq4.mono hb3.size)
      clear hq4 hb3
      go_wp2_with fail
      refine (CP _).mono ?_
      rintro e w' ⟨rfl, hw'⟩
      rw [hw']
      clear hw' w'
      go_wp2_with fail
      refine (S1 _).mono ?_
      rintro e w' ⟨rfl, hw'⟩
      rw [hw']
      clear hw' w'
      go_wp2_with fail
      refine (CM _ (HT.out.mono hb4)).mono ?_
      rintro e w5 ⟨rfl, hq5⟩
      have hb5 := hb4.trans (hq5.mono hb4.size)
      clear hq5 hb4
      go_wp2_with fail
      refine (RC _).mono ?_
      rintro e w6 ⟨rfl, hq6⟩
      have hb6 := hb5.trans (hq6.mono hb5.size)
      clear hq6 hb5
      go_wp2_with fail
      refine (PT _).mono ?_
      rintro e w7 ⟨rfl, hq7⟩
      have hb7 := hb6.trans (hq7.mono hb6.size)
      clear hq7 hb6
      go_wp2
      go_ret
      exact ⟨rfl, hb7⟩
  · have e1 : mulR a b = ([], 6) := by unfold mulR; rw [if_neg hg]
    have e2 : cmpR a b = 0 := by unfold cmpR; rw [if_neg hg]
    have e3 : divR a b = ([], [], 6) := by unfold divR; rw [if_neg hg]
    rw [e1] at ML
    rw [e2] at CM
    rw [e3] at DV
    have S0 := fun W => same_any [] [] 6 6 W
    simp only [beq_self_eq_true, Bool.and_self] at S0
    clear e1 e2 e3 la lb
    by_cases hga : goodS a = true
    · have hgb : goodS b = false := by simpa using fun h => hg ⟨hga, h⟩
      rw [hga] at R1
      rw [hgb] at R2
      clear hg hga hgb
      go_enter Tryd.func6, Tryd.ntmps6
      go_wp2_with fail
      refine AW.mono ?_
      rintro e w1 ⟨rfl, hb1⟩
      go_wp2_with fail
      refine (ML _ (HT.out.mono hb1)).mono ?_
      rintro e w2 ⟨rfl, hq2⟩
      have hb2 := hb1.trans (hq2.mono hb1.size)
      clear hq2 hb1
      go_wp2_with fail
      refine (DV _ (HT.out.mono hb2)).mono ?_
      rintro e w3 ⟨rfl, hq3⟩
      have hb3 := hb2.trans (hq3.mono hb2.size)
      clear hq3 hb2
      go_wp2_with fail
      refine (R1 _).mono ?_
      rintro e w' ⟨rfl, hw'⟩
      rw [hw']
      clear hw' w'
      go_wp2_with fail
      refine (R2 _).mono ?_
      rintro e w' ⟨rfl, hw'⟩
      rw [hw']
      clear hw' w'
      go_wp2_with fail
      refine (S0 _).mono ?_
      rintro e w' ⟨rfl, hw'⟩
      rw [hw']
      clear hw' w'
      go_wp2_with fail
      refine (S0 _).mono ?_
      rintro e w' ⟨rfl, hw'⟩
      rw [hw']
      clear hw' w'
      go_wp2_with fail
      refine (CM _ (HT.out.mono hb3)).mono ?_
      rintro e w4 ⟨rfl, hq4⟩
      have hb4 := hb3.trans (hq4.mono hb3.size)
      clear hq4 hb3
      go_wp2
      go_ret
      exact ⟨rfl, hb4⟩
    · have hga : goodS a = false := by simpa using hga
      rw [hga] at R1
      clear hg hga R2
      go_enter Tryd.func6, Tryd.ntmps6
      go_wp2_with fail
      refine AW.mono ?_
      rintro e w1 ⟨rfl, hb1⟩
      go_wp2_with fail
      refine (ML _ (HT.out.mono hb1)).mono ?_
      rintro e w2 ⟨rfl, hq2⟩
      have hb2 := hb1.trans (hq2.mono hb1.size)
      clear hq2 hb1
      go_wp2_with fail
      refine (DV _ (HT.out.mono hb2)).mono ?_
      rintro e w3 ⟨rfl, hq3⟩
      have hb3 := hb2.trans (hq3.mono hb2.size)
      clear hq3 hb2
      go_wp2_with fail
      refine (R1 _).mono ?_
      rintro e w' ⟨rfl, hw'⟩
      rw [hw']
      clear hw' w'
      go_wp2_with fail
      refine (S0 _).mono ?_
      rintro e w' ⟨rfl, hw'⟩
      rw [hw']
      clear hw' w'
      go_wp2_with fail
      refine (S0 _).mono ?_
      rintro e w' ⟨rfl, hw'⟩
      rw [hw']
      clear hw' w'
      go_wp2_with fail
      refine (CM _ (HT.out.mono hb3)).mono ?_
      rintro e w4 ⟨rfl, hq4⟩
      have hb4 := hb3.trans (hq4.mono hb3.size)
      clear hq4 hb3
      go_wp2
      go_ret
      exact ⟨rfl, hb4⟩

end Go.Proofs.YtekpdmjobkikfaaDoor
