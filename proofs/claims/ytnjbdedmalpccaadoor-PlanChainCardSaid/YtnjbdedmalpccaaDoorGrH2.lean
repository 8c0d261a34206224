/- Walks of container/heap: down, Push, Pop, at the heap of nodes. -/
import Derived.Test.YtnjbdedmalpccaaDoorGrH1
namespace Go.Proofs.YtnjbdedmalpccaaDoor
open Go.RowKit

/-- What down leaves. -/
def DownPost (hb g cap : Nat) (xs : List Int) (n : Nat) (w : World) (e : Ending) (w' : World) : Prop :=
  ∃ (b : Bool) (xs' : List Int), e = .returned (.bool b) ∧ HeapAt w' hb g cap xs' ∧ xs'.Perm xs ∧ HeapN xs' n ∧ (∀ k, n ≤ k → xs'.getD k 0 = xs.getD k 0) ∧ OnlyB g w w'

set_option maxRecDepth 100000 in
set_option maxHeartbeats 1600000 in
theorem hdown_any (hb g cap : Nat) (xs : List Int) (n : Nat) (w : World) (h : HeapAt w hb g cap xs) (hn : xs.length ≤ 513) (hd : DownInv xs n 0) (hnl : n < xs.length) :
    Calls Tryd.prog 55 #[.iface 94 (.pointer (some ⟨hb, 0, none⟩)), .int .i64 0, .int .i64 n] w (DownPost hb g cap xs n w) := by
  go_enter Tryd.func55, Tryd.ntmps55
  go_wp2
  go_loopw [7] (fun v7 wr => ∃ (j : Nat) (ys : List Int), v7 = .int .i64 j ∧ j ≤ 513 ∧ HeapAt wr hb g cap ys ∧ ys.Perm xs ∧ DownInv ys n j ∧ Hid (∀ k, n ≤ k → ys.getD k 0 = xs.getD k 0) ∧ OnlyB g w wr) (fun v7 _ => 514 - (intOf v7).toNat)
  case atStart => exact ⟨0, xs, rfl, by omega, h, .refl _, hd, fun _ _ => rfl, OnlyB.refl _ _⟩
  case round =>
    obtain ⟨k, ys, rfl, hk, hh, hp, hv, hr, ho⟩ := hrel
    have hyl : ys.length ≤ xs.length := by have := hp.length_eq; omega
    have hyl2 : xs.length ≤ ys.length := by have := hp.length_eq; omega
    by_cases h1 : n ≤ 2 * k + 1
    · have HD := Lib.hid (hv.done (fun m h0 hm hpm => by unfold par at hpm; omega))
      clear hv hd h
      go_wp2_with fail
      go_ret
      exact ⟨_, ys, rfl, hh, hp, HD.out, hr.out, ho⟩
    · have m0 := meth_less hb _ wr hh.head
      have m1 : ∀ q, (method 249 94 (.pointer (some ⟨hb, 0, none⟩)) "Less").run Tryd.prog (wr.drewN q) = .ok (80, .slice (some ⟨g, 0, none⟩) ys.length cap) (wr.drewN q) := fun q => meth_less hb _ _ hh.head
      have m2 : ∀ q, (method 249 94 (.pointer (some ⟨hb, 0, none⟩)) "Swap").run Tryd.prog (wr.drewN q) = .ok (83, .slice (some ⟨g, 0, none⟩) ys.length cap) (wr.drewN q) := fun q => meth_swap hb _ _ hh.head
      have HH := Lib.hid (show ∀ q, HeapAt (wr.drewN q) hb g cap ys from fun q => hh.kept rfl rfl)
      clear hd h
      by_cases h2 : 2 * k + 1 + 1 < n
      · have L1 := hless_at hb g cap ys (2 * (k : Int) + 1 + 1) (2 * (k : Int) + 1) (2 * k + 1 + 1) (2 * k + 1) wr (by omega) (by omega) hh (by omega) (by omega)
        by_cases c1 : ys.getD (2 * k + 1 + 1) 0 < ys.getD (2 * k + 1) 0
        · have HLE : Hid (∀ m, 0 < m → m < n → par m = k → ys.getD (2 * k + 1 + 1) 0 ≤ ys.getD m 0) := fun m h0 hm hpm => by
            have : m = 2 * k + 1 ∨ m = 2 * k + 1 + 1 := by unfold par at hpm; omega
            rcases this with rfl | rfl <;> omega
          have D1 := Lib.hid (show decide (ys.getD (2 * k + 1 + 1) 0 < ys.getD (2 * k + 1) 0) = true by simpa using c1)
          clear c1
          by_cases c2 : ys.getD (2 * k + 1 + 1) 0 < ys.getD k 0
          · have HV := Lib.hid (hv.step (j := 2 * k + 1 + 1) (by omega) (by omega) (by unfold par; omega) c2 HLE.out)
            have HP := Lib.hid ((swapL_perm ys k (2 * k + 1 + 1) (by omega) (by omega)).trans hp)
            have HR : Hid (∀ q, n ≤ q → (swapL ys k (2 * k + 1 + 1)).getD q 0 = xs.getD q 0) := fun q hq => by
              rw [swapL_get ys k (2 * k + 1 + 1) q (by omega) (by omega), if_neg (by omega), if_neg (by omega)]; exact hr.out q hq
            have D2 := Lib.hid (show decide (ys.getD (2 * k + 1 + 1) 0 < ys.getD k 0) = true by simpa using c2)
            clear c2 hv HLE hp hr
            go_wp2_with fail
            refine L1.mono ?_
            rintro e w' ⟨rfl, kk, rfl⟩
            rw [D1.out]
            go_wp2_with fail
            refine (hless_at hb g cap ys _ _ (2 * k + 1 + 1) k _ (by omega) rfl (HH.out kk) (by omega) (by omega)).mono ?_
            rintro e w' ⟨rfl, kk2, rfl⟩
            rw [D2.out]
            go_wp2_with fail
            refine (hswap_at hb g cap ys _ _ k (2 * k + 1 + 1) _ rfl (by omega) (HH.out (kk + kk2)) (by omega) (by omega)).mono ?_
            rintro e w' ⟨rfl, hh', ho'⟩
            go_wp2_with fail
            go_roundw
            case rel => exact ⟨2 * k + 1 + 1, _, by go_num, by omega, hh', HP.out, HV.out, HR, (ho.drewN _).trans ho'⟩
            case measure => simp only [intOf]; omega
          · have HD := Lib.hid (hv.done (fun m h0 hm hpm => by have := HLE.out m h0 hm hpm; omega))
            have D2 := Lib.hid (show decide (ys.getD (2 * k + 1 + 1) 0 < ys.getD k 0) = false by simpa using c2)
            clear c2 hv HLE
            go_wp2_with fail
            refine L1.mono ?_
            rintro e w' ⟨rfl, kk, rfl⟩
            rw [D1.out]
            go_wp2_with fail
            refine (hless_at hb g cap ys _ _ (2 * k + 1 + 1) k _ (by omega) rfl (HH.out kk) (by omega) (by omega)).mono ?_
            rintro e w' ⟨rfl, kk2, rfl⟩
            rw [D2.out]
            go_wp2_with fail
            go_ret
            exact ⟨_, ys, rfl, HH.out (kk + kk2), hp, HD.out, hr.out, ho.drewN _⟩
        · have HLE : Hid (∀ m, 0 < m → m < n → par m = k → ys.getD (2 * k + 1) 0 ≤ ys.getD m 0) := fun m h0 hm hpm => by
            have : m = 2 * k + 1 ∨ m = 2 * k + 1 + 1 := by unfold par at hpm; omega
            rcases this with rfl | rfl <;> omega
          have D1 := Lib.hid (show decide (ys.getD (2 * k + 1 + 1) 0 < ys.getD (2 * k + 1) 0) = false by simpa using c1)
          clear c1
          by_cases c2 : ys.getD (2 * k + 1) 0 < ys.getD k 0
          · have HV := Lib.hid (hv.step (j := 2 * k + 1) (by omega) (by omega) (by unfold par; omega) c2 HLE.out)
            have HP := Lib.hid ((swapL_perm ys k (2 * k + 1) (by omega) (by omega)).trans hp)
            have HR : Hid (∀ q, n ≤ q → (swapL ys k (2 * k + 1)).getD q 0 = xs.getD q 0) := fun q hq => by
              rw [swapL_get ys k (2 * k + 1) q (by omega) (by omega), if_neg (by omega), if_neg (by omega)]; exact hr.out q hq
            have D2 := Lib.hid (show decide (ys.getD (2 * k + 1) 0 < ys.getD k 0) = true by simpa using c2)
            clear c2 hv HLE hp hr
            go_wp2_with fail
            refine L1.mono ?_
            rintro e w' ⟨rfl, kk, rfl⟩
            rw [D1.out]
            go_wp2_with fail
            refine (hless_at hb g cap ys _ _ (2 * k + 1) k _ (by omega) rfl (HH.out kk) (by omega) (by omega)).mono ?_
            rintro e w' ⟨rfl, kk2, rfl⟩
            rw [D2.out]
            go_wp2_with fail
            refine (hswap_at hb g cap ys _ _ k (2 * k + 1) _ rfl (by omega) (HH.out (kk + kk2)) (by omega) (by omega)).mono ?_
            rintro e w' ⟨rfl, hh', ho'⟩
            go_wp2_with fail
            go_roundw
            case rel => exact ⟨2 * k + 1, _, by go_num, by omega, hh', HP.out, HV.out, HR, (ho.drewN _).trans ho'⟩
            case measure => simp only [intOf]; omega
          · have HD := Lib.hid (hv.done (fun m h0 hm hpm => by have := HLE.out m h0 hm hpm; omega))
            have D2 := Lib.hid (show decide (ys.getD (2 * k + 1) 0 < ys.getD k 0) = false by simpa using c2)
            clear c2 hv HLE
            go_wp2_with fail
            refine L1.mono ?_
            rintro e w' ⟨rfl, kk, rfl⟩
            rw [D1.out]
            go_wp2_with fail
            refine (hless_at hb g cap ys _ _ (2 * k + 1) k _ (by omega) rfl (HH.out kk) (by omega) (by omega)).mono ?_
            rintro e w' ⟨rfl, kk2, rfl⟩
            rw [D2.out]
            go_wp2_with fail
            go_ret
            exact ⟨_, ys, rfl, HH.out (kk + kk2), hp, HD.out, hr.out, ho.drewN _⟩
      · have HLE : Hid (∀ m, 0 < m → m < n → par m = k → ys.getD (2 * k + 1) 0 ≤ ys.getD m 0) := fun m h0 hm hpm => by
          have : m = 2 * k + 1 := by unfold par at hpm; omega
          rw [this]; exact Int.le_refl _
        by_cases c2 : ys.getD (2 * k + 1) 0 < ys.getD k 0
        · have HV := Lib.hid (hv.step (j := 2 * k + 1) (by omega) (by omega) (by unfold par; omega) c2 HLE.out)
          have HP := Lib.hid ((swapL_perm ys k (2 * k + 1) (by omega) (by omega)).trans hp)
          have HR : Hid (∀ q, n ≤ q → (swapL ys k (2 * k + 1)).getD q 0 = xs.getD q 0) := fun q hq => by
            rw [swapL_get ys k (2 * k + 1) q (by omega) (by omega), if_neg (by omega), if_neg (by omega)]; exact hr.out q hq
          have D2 := Lib.hid (show decide (ys.getD (2 * k + 1) 0 < ys.getD k 0) = true by simpa using c2)
          clear c2 hv HLE hp hr
          go_wp2_with fail
          refine (hless_at hb g cap ys _ _ (2 * k + 1) k _ (by omega) rfl hh (by omega) (by omega)).mono ?_
          rintro e w' ⟨rfl, kk2, rfl⟩
          rw [D2.out]
          go_wp2_with fail
          refine (hswap_at hb g cap ys _ _ k (2 * k + 1) _ rfl (by omega) (HH.out kk2) (by omega) (by omega)).mono ?_
          rintro e w' ⟨rfl, hh', ho'⟩
          go_wp2_with fail
          go_roundw
          case rel => exact ⟨2 * k + 1, _, by go_num, by omega, hh', HP.out, HV.out, HR, (ho.drewN _).trans ho'⟩
          case measure => simp only [intOf]; omega
        · have HD := Lib.hid (hv.done (fun m h0 hm hpm => by have := HLE.out m h0 hm hpm; omega))
          have D2 := Lib.hid (show decide (ys.getD (2 * k + 1) 0 < ys.getD k 0) = false by simpa using c2)
          clear c2 hv HLE
          go_wp2_with fail
          refine (hless_at hb g cap ys _ _ (2 * k + 1) k _ (by omega) rfl hh (by omega) (by omega)).mono ?_
          rintro e w' ⟨rfl, kk2, rfl⟩
          rw [D2.out]
          go_wp2_with fail
          go_ret
          exact ⟨_, ys, rfl, HH.out kk2, hp, HD.out, hr.out, ho.drewN _⟩

end Go.Proofs.YtnjbdedmalpccaaDoor
