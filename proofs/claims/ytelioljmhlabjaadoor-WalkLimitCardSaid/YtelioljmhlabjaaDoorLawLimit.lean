/- Walk of the law WalkLimit: it answers true, whatever the number. -/
import Derived.Test.YtelioljmhlabjaaDoorAwake19
import Derived.Test.YtelioljmhlabjaaDoorLawOrders
namespace Go.Proofs.YtelioljmhlabjaaDoor
open Go.RowKit
set_option maxRecDepth 100000

/-- The statuses behind j starts, from the last node downwards. -/
def sL (j : Nat) : List Int := (List.range 20).map fun i => if 20 - j ≤ i then 1 else 0
theorem lim0 : (orderR ((20 : Nat) : Int) []).2 = 0 := by decide +kernel
theorem lim1 : ∀ k : Nat, k < 17 → ∀ j : Nat, j < k → startR 20 [] (k : Int) (sL j) ((19 : Int) - (j : Int)) = (sL (j + 1), 0) := by decide +kernel
theorem lim2 : ∀ k : Nat, k < 17 → startR 20 [] (k : Int) (sL k) 0 = (sL k, 3) := by decide +kernel
theorem lim3 : ∀ k : Nat, k < 17 → (choicesL 20 [] (k : Int) (sL k)).length = k := by decide +kernel
theorem lim4 : ∀ k : Nat, k < 17 → 0 < k → statusR 20 (sL k) 19 = 1 := by decide +kernel
theorem lim5 : ∀ k : Nat, k < 17 → 0 < k → (choicesL 20 [] (k : Int) ((sL k).set 19 2)).length = 19 := by decide +kernel
theorem lim6 : ∀ k : Nat, k < 17 → 0 < k → startR 20 [] (k : Int) ((sL k).set 19 2) 0 = (((sL k).set 19 2).set 0 1, 0) := by decide +kernel
theorem lim7 : ∀ k : Nat, k < 17 → 0 < k → startR 20 [] (k : Int) (((sL k).set 19 2).set 0 1) 0 = (((sL k).set 19 2).set 0 1, 4) := by decide +kernel
theorem lim8 : ∀ k : Nat, k < 17 → 0 < k → statusR 20 (((sL k).set 19 2).set 0 1) 19 = 2 := by decide +kernel
theorem lim9 (k : Nat) (h : k < 17) (h0 : 0 < k) : finishR 20 [] (sL k) 19 true = ((sL k).set 19 2, 0) := by
  unfold finishR
  rw [if_neg (by rw [lim4 k h h0]; simp), if_pos rfl]
  rfl
theorem lim10 (k : Nat) (h : k < 17) (h0 : 0 < k) : finishR 20 [] (((sL k).set 19 2).set 0 1) 19 true = (((sL k).set 19 2).set 0 1, 4) := by
  unfold finishR
  rw [if_pos (by rw [lim8 k h h0]; decide)]
theorem limE : newE 20 [] 17 = 1 ∧ newE 20 [] 0 = 1 := by decide +kernel
theorem WInv.none (st : List Int) : WInv [] st := fun e he => by cases he

theorem pick_16 (fr : Int) : ∃ f : Nat, f < 16 ∧ wrap64 ((IntKind.u64.wrap fr).tmod 16) = (f : Int) := by
  obtain ⟨x, hx⟩ := Int.eq_ofNat_of_zero_le (show 0 ≤ IntKind.u64.wrap fr by rw [IntKind.wrap_u64]; omega)
  refine ⟨x % 16, Nat.mod_lt _ (by decide), ?_⟩
  have e : ((x : Int)).tmod 16 = ((x % 16 : Nat) : Int) := by rw [Int.tmod_eq_emod_of_nonneg (by omega)]; simp
  have := Nat.mod_lt x (show 0 < 16 by decide)
  rw [hx, e]
  unfold wrap64
  omega

set_option maxHeartbeats 4000000 in
theorem walkLimit_any (fr : Int) (w : World) (hT : Tab w) : Calls Tryd.prog 9 #[.int .i64 fr] w (LawPost w) := by
  have hend : ∀ w', Below w.heap.size w w' → LawPost w (.returned (.bool true)) w' := fun _ h => ⟨rfl, h⟩
  have HE := Lib.hid hend
  clear hend
  have hT0 := hT.1
  obtain ⟨f, hf, hfw⟩ := pick_16 fr
  go_enter Tryd.func9, Tryd.ntmps9
  go_wp2_with fail
  refine (awake19_any w hT).mono ?_
  rintro e w1 ⟨rfl, hb1⟩
  have hT1 := hT.mono hb1
  clear hT
  go_wp2_with fail
  rw [hfw]
  obtain ⟨k, hk⟩ : ∃ k : Nat, (k : Int) = f + 1 := ⟨f + 1, by simp⟩
  rw [← hk]
  have hk0 : 0 < k := by omega
  have hk17 : k < 17 := by omega
  clear hfw hk hf
  have hnil : PairsAt w1 (.slice none 0 0) [] := PairsAt.nil w1
  refine (new_good _ [] 20 k w1 hT1 hnil lim0 (by omega) (by omega) (by simp)).mono ?_
  rintro e w2 ⟨b, S, A, N, ev, rows, rfl, hM, hb2, hS, hA⟩
  have hB : Below w.heap.size w w2 := hb1.trans (hb2.mono hb1.size)
  have hT2 := hT1.mono hb2
  have hs1 := hb1.size
  have hS0 : w.heap.size ≤ S := by omega
  have hA0 : w.heap.size ≤ A := by omega
  clear hb1 hb2 hT1 hnil hS hA hs1
  go_wp2_with fail
  refine (new_bad _ [] 20 17 w2 hT2 (PairsAt.nil w2) (by rw [limE.1]; decide)).mono ?_
  rw [limE.1]
  rintro e w3 ⟨rfl, hb3⟩
  replace hM := hM.below hb3
  replace hB := hB.trans (hb3.mono hB.size)
  replace hT2 := hT2.mono hb3
  clear hb3
  go_wp2_with fail
  refine (new_bad _ [] 20 0 w3 hT2 (PairsAt.nil w3) (by rw [limE.2]; decide)).mono ?_
  rw [limE.2]
  rintro e w4 ⟨rfl, hb4⟩
  replace hM := hM.below hb4
  replace hB := hB.trans (hb4.mono hB.size)
  replace hT2 := hT2.mono hb4
  clear hb4
  have hM0 : WkM w4 b S A N 20 ev rows [] k (sL 0) (cnts 20 (aheadN [] (sL 0))) := hM
  clear hM
  go_wp2_with fail
  go_loopg [9] k (fun g v9 wr => ∃ j : Nat, j + g = k ∧ v9 = .int .i64 j ∧ WkM wr b S A N 20 ev rows [] k (sL j) (cnts 20 (aheadN [] (sL j))) ∧ Below w.heap.size w wr ∧ Tab wr)
  case atStart => exact ⟨0, by omega, rfl, hM0, hB, hT2⟩
  case round =>
    obtain ⟨j, hjg, rfl, hMj, hBj, hTj⟩ := hrel
    clear hM0 hB hT2
    cases gk with
    | zero =>
      have hj : j = k := by omega
      have hjn : ¬ (j : Int) < (k : Int) := by omega
      subst hj
      go_wp2_with fail
      refine (start_any b S A N 20 ev rows [] j (sL j) 0 wr hMj).mono ?_
      rw [lim2 j hk17]
      rintro e w5 ⟨rfl, hM5, hc5⟩
      have hb5 := below_ch hBj hc5 hBj.size hS0 hA0
      have hT5 := tab_ch hTj hc5 (by omega) (by omega)
      clear hMj hBj hTj hc5
      go_wp2_with fail
      refine (choices_any b S A N 20 ev rows [] j (sL j) w5 hM5).mono ?_
      rw [lim3 j hk17]
      rintro e w6 ⟨rfl, hb⟩
      replace hM5 := hM5.below hb
      replace hb5 := hb5.trans (hb.mono hb5.size)
      replace hT5 := hT5.mono hb
      clear hb
      go_wp2_with fail
      refine (finish_any b S A N 20 ev rows [] j (sL j) 19 true w6 hT5 (by omega) (by omega) hM5 (fun e he => by cases he) (WInv.none _)).mono ?_
      rw [lim9 j hk17 hk0]
      rintro e w7 ⟨rfl, hM7, hc7⟩
      have hb7 := below_ch hb5 hc7 hb5.size hS0 hA0
      have hT7 := tab_ch hT5 hc7 (by omega) (by omega)
      clear hM5 hb5 hT5 hc7
      go_wp2_with fail
      refine (choices_any b S A N 20 ev rows [] j ((sL j).set 19 2) w7 hM7).mono ?_
      rw [lim5 j hk17 hk0]
      rintro e w8 ⟨rfl, hb⟩
      replace hM7 := hM7.below hb
      replace hb7 := hb7.trans (hb.mono hb7.size)
      replace hT7 := hT7.mono hb
      clear hb
      have h19 : (j : Int) - 1 + 20 - (j : Int) = 19 := by omega
      go_wp2_with fail
      refine (start_any b S A N 20 ev rows [] j ((sL j).set 19 2) 0 w8 hM7).mono ?_
      rw [lim6 j hk17 hk0]
      rintro e w9 ⟨rfl, hM9, hc9⟩
      have hb9 := below_ch hb7 hc9 hb7.size hS0 hA0
      have hT9 := tab_ch hT7 hc9 (by omega) (by omega)
      clear hM7 hb7 hT7 hc9
      go_wp2_with fail
      refine (start_any b S A N 20 ev rows [] j (((sL j).set 19 2).set 0 1) 0 w9 hM9).mono ?_
      rw [lim7 j hk17 hk0]
      rintro e w10 ⟨rfl, hM10, hc10⟩
      have hb10 := below_ch hb9 hc10 hb9.size hS0 hA0
      have hT10 := tab_ch hT9 hc10 (by omega) (by omega)
      clear hM9 hb9 hT9 hc10
      go_wp2_with fail
      refine (finish_any b S A N 20 ev rows [] j (((sL j).set 19 2).set 0 1) 19 true w10 hT10 (by omega) (by omega) hM10 (fun e he => by cases he) (WInv.none _)).mono ?_
      rw [lim10 j hk17 hk0]
      rintro e w11 ⟨rfl, hM11, hc11⟩
      have HF := Lib.hid (HE.out _ (below_ch hb10 hc11 hb10.size hS0 hA0))
      clear hM10 hb10 hT10 hc11 hM11
      go_wp2_with fail
      go_ret
      exact HF.out
    | succ g =>
      have hjk : j < k := by omega
      have hjn : (j : Int) < (k : Int) := by omega
      have ST := start_any b S A N 20 ev rows [] k (sL j) ((19 : Int) - (j : Int)) wr hMj
      rw [lim1 k hk17 j hjk] at ST
      go_wp2_with fail
      refine ST.mono ?_
      rintro e w5 ⟨rfl, hM5, hc5⟩
      have hb5 := below_ch hBj hc5 hBj.size hS0 hA0
      have hT5 := tab_ch hTj hc5 (by omega) (by omega)
      clear ST hMj hBj hTj hc5
      go_wp2
      go_roundg g
      case measure => omega
      case rel => exact ⟨j + 1, by omega, by go_num, hM5, hb5, hT5⟩

end Go.Proofs.YtelioljmhlabjaaDoor
