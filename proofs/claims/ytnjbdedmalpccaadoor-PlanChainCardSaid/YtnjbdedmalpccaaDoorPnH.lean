/- Plain: the chains' plans, reckoned by the kernel. Printed by genpnh.py. No walk. -/
import Derived.Test.YtnjbdedmalpccaaDoorPnF
namespace Go.Proofs.YtnjbdedmalpccaaDoor
set_option maxRecDepth 100000

theorem chk0_1 : chkC 0 1 = true := by kernel_rfl
theorem chk0_2 : chkC 0 2 = true := by kernel_rfl
theorem chk0_3 : chkC 0 3 = true := by kernel_rfl
theorem chk0_4 : chkC 0 4 = true := by kernel_rfl
theorem chk0_5 : chkC 0 5 = true := by kernel_rfl
theorem chk0_6 : chkC 0 6 = true := by kernel_rfl
theorem chk0_7 : chkC 0 7 = true := by kernel_rfl
theorem chk0_8 : chkC 0 8 = true := by kernel_rfl
theorem chk0_9 : chkC 0 9 = true := by kernel_rfl
theorem chk0_10 : chkC 0 10 = true := by kernel_rfl
theorem chk0_11 : chkC 0 11 = true := by kernel_rfl
theorem chk0_12 : chkC 0 12 = true := by kernel_rfl
theorem chk0_13 : chkC 0 13 = true := by kernel_rfl
theorem chk0_14 : chkC 0 14 = true := by kernel_rfl
theorem chk0_15 : chkC 0 15 = true := by kernel_rfl
theorem chk0_16 : chkC 0 16 = true := by kernel_rfl
theorem chk0_17 : chkC 0 17 = true := by kernel_rfl
theorem chk0_18 : chkC 0 18 = true := by kernel_rfl
theorem chk0_19 : chkC 0 19 = true := by kernel_rfl
theorem chk0_20 : chkC 0 20 = true := by kernel_rfl
theorem chk1_1 : chkC 1 1 = true := by kernel_rfl
theorem chk1_2 : chkC 1 2 = true := by kernel_rfl
theorem chk1_3 : chkC 1 3 = true := by kernel_rfl
theorem chk1_4 : chkC 1 4 = true := by kernel_rfl
theorem chk1_5 : chkC 1 5 = true := by kernel_rfl
theorem chk1_6 : chkC 1 6 = true := by kernel_rfl
theorem chk1_7 : chkC 1 7 = true := by kernel_rfl
theorem chk1_8 : chkC 1 8 = true := by kernel_rfl
theorem chk1_9 : chkC 1 9 = true := by kernel_rfl
theorem chk1_10 : chkC 1 10 = true := by kernel_rfl
theorem chk1_11 : chkC 1 11 = true := by kernel_rfl
theorem chk1_12 : chkC 1 12 = true := by kernel_rfl
theorem chk1_13 : chkC 1 13 = true := by kernel_rfl
theorem chk1_14 : chkC 1 14 = true := by kernel_rfl
theorem chk1_15 : chkC 1 15 = true := by kernel_rfl
theorem chk1_16 : chkC 1 16 = true := by kernel_rfl
theorem chk1_17 : chkC 1 17 = true := by kernel_rfl
theorem chk1_18 : chkC 1 18 = true := by kernel_rfl
theorem chk1_19 : chkC 1 19 = true := by kernel_rfl
theorem chk1_20 : chkC 1 20 = true := by kernel_rfl
theorem chk2_1 : chkC 2 1 = true := by kernel_rfl
theorem chk2_2 : chkC 2 2 = true := by kernel_rfl
theorem chk2_3 : chkC 2 3 = true := by kernel_rfl
theorem chk2_4 : chkC 2 4 = true := by kernel_rfl
theorem chk2_5 : chkC 2 5 = true := by kernel_rfl
theorem chk2_6 : chkC 2 6 = true := by kernel_rfl
theorem chk2_7 : chkC 2 7 = true := by kernel_rfl
theorem chk2_8 : chkC 2 8 = true := by kernel_rfl
theorem chk2_9 : chkC 2 9 = true := by kernel_rfl
theorem chk2_10 : chkC 2 10 = true := by kernel_rfl
theorem chk2_11 : chkC 2 11 = true := by kernel_rfl
theorem chk2_12 : chkC 2 12 = true := by kernel_rfl
theorem chk2_13 : chkC 2 13 = true := by kernel_rfl
theorem chk2_14 : chkC 2 14 = true := by kernel_rfl
theorem chk2_15 : chkC 2 15 = true := by kernel_rfl
theorem chk2_16 : chkC 2 16 = true := by kernel_rfl
theorem chk2_17 : chkC 2 17 = true := by kernel_rfl
theorem chk2_18 : chkC 2 18 = true := by kernel_rfl
theorem chk2_19 : chkC 2 19 = true := by kernel_rfl
theorem chk2_20 : chkC 2 20 = true := by kernel_rfl
theorem chk3_1 : chkC 3 1 = true := by kernel_rfl
theorem chk3_2 : chkC 3 2 = true := by kernel_rfl
theorem chk3_3 : chkC 3 3 = true := by kernel_rfl
theorem chk3_4 : chkC 3 4 = true := by kernel_rfl
theorem chk3_5 : chkC 3 5 = true := by kernel_rfl
theorem chk3_6 : chkC 3 6 = true := by kernel_rfl
theorem chk3_7 : chkC 3 7 = true := by kernel_rfl
theorem chk3_8 : chkC 3 8 = true := by kernel_rfl
theorem chk3_9 : chkC 3 9 = true := by kernel_rfl
theorem chk3_10 : chkC 3 10 = true := by kernel_rfl
theorem chk3_11 : chkC 3 11 = true := by kernel_rfl
theorem chk3_12 : chkC 3 12 = true := by kernel_rfl
theorem chk3_13 : chkC 3 13 = true := by kernel_rfl
theorem chk3_14 : chkC 3 14 = true := by kernel_rfl
theorem chk3_15 : chkC 3 15 = true := by kernel_rfl
theorem chk3_16 : chkC 3 16 = true := by kernel_rfl
theorem chk3_17 : chkC 3 17 = true := by kernel_rfl
theorem chk3_18 : chkC 3 18 = true := by kernel_rfl
theorem chk3_19 : chkC 3 19 = true := by kernel_rfl
theorem chk3_20 : chkC 3 20 = true := by kernel_rfl
theorem chk_all : ∀ how n : Nat, how < 4 → 1 ≤ n → n ≤ 20 → chkC how n = true
  | 0, 1, _, _, _ => chk0_1
  | 0, 2, _, _, _ => chk0_2
  | 0, 3, _, _, _ => chk0_3
  | 0, 4, _, _, _ => chk0_4
  | 0, 5, _, _, _ => chk0_5
  | 0, 6, _, _, _ => chk0_6
  | 0, 7, _, _, _ => chk0_7
  | 0, 8, _, _, _ => chk0_8
  | 0, 9, _, _, _ => chk0_9
  | 0, 10, _, _, _ => chk0_10
  | 0, 11, _, _, _ => chk0_11
  | 0, 12, _, _, _ => chk0_12
  | 0, 13, _, _, _ => chk0_13
  | 0, 14, _, _, _ => chk0_14
  | 0, 15, _, _, _ => chk0_15
  | 0, 16, _, _, _ => chk0_16
  | 0, 17, _, _, _ => chk0_17
  | 0, 18, _, _, _ => chk0_18
  | 0, 19, _, _, _ => chk0_19
  | 0, 20, _, _, _ => chk0_20
  | 1, 1, _, _, _ => chk1_1
  | 1, 2, _, _, _ => chk1_2
  | 1, 3, _, _, _ => chk1_3
  | 1, 4, _, _, _ => chk1_4
  | 1, 5, _, _, _ => chk1_5
  | 1, 6, _, _, _ => chk1_6
  | 1, 7, _, _, _ => chk1_7
  | 1, 8, _, _, _ => chk1_8
  | 1, 9, _, _, _ => chk1_9
  | 1, 10, _, _, _ => chk1_10
  | 1, 11, _, _, _ => chk1_11
  | 1, 12, _, _, _ => chk1_12
  | 1, 13, _, _, _ => chk1_13
  | 1, 14, _, _, _ => chk1_14
  | 1, 15, _, _, _ => chk1_15
  | 1, 16, _, _, _ => chk1_16
  | 1, 17, _, _, _ => chk1_17
  | 1, 18, _, _, _ => chk1_18
  | 1, 19, _, _, _ => chk1_19
  | 1, 20, _, _, _ => chk1_20
  | 2, 1, _, _, _ => chk2_1
  | 2, 2, _, _, _ => chk2_2
  | 2, 3, _, _, _ => chk2_3
  | 2, 4, _, _, _ => chk2_4
  | 2, 5, _, _, _ => chk2_5
  | 2, 6, _, _, _ => chk2_6
  | 2, 7, _, _, _ => chk2_7
  | 2, 8, _, _, _ => chk2_8
  | 2, 9, _, _, _ => chk2_9
  | 2, 10, _, _, _ => chk2_10
  | 2, 11, _, _, _ => chk2_11
  | 2, 12, _, _, _ => chk2_12
  | 2, 13, _, _, _ => chk2_13
  | 2, 14, _, _, _ => chk2_14
  | 2, 15, _, _, _ => chk2_15
  | 2, 16, _, _, _ => chk2_16
  | 2, 17, _, _, _ => chk2_17
  | 2, 18, _, _, _ => chk2_18
  | 2, 19, _, _, _ => chk2_19
  | 2, 20, _, _, _ => chk2_20
  | 3, 1, _, _, _ => chk3_1
  | 3, 2, _, _, _ => chk3_2
  | 3, 3, _, _, _ => chk3_3
  | 3, 4, _, _, _ => chk3_4
  | 3, 5, _, _, _ => chk3_5
  | 3, 6, _, _, _ => chk3_6
  | 3, 7, _, _, _ => chk3_7
  | 3, 8, _, _, _ => chk3_8
  | 3, 9, _, _, _ => chk3_9
  | 3, 10, _, _, _ => chk3_10
  | 3, 11, _, _, _ => chk3_11
  | 3, 12, _, _, _ => chk3_12
  | 3, 13, _, _, _ => chk3_13
  | 3, 14, _, _, _ => chk3_14
  | 3, 15, _, _, _ => chk3_15
  | 3, 16, _, _, _ => chk3_16
  | 3, 17, _, _, _ => chk3_17
  | 3, 18, _, _, _ => chk3_18
  | 3, 19, _, _, _ => chk3_19
  | 3, 20, _, _, _ => chk3_20
  | h + 4, n, h1, _, _ => by omega
  | h, 0, _, h2, _ => by omega
  | h, n + 21, _, _, h3 => by omega

end Go.Proofs.YtnjbdedmalpccaaDoor
