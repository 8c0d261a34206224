/- The walk of the document's Good. -/
import Derived.Test.YtpbipngnoklmcaaGreatDoorMWldM
namespace Go.Proofs.YtpbipngnoklmcaaGreatDoor
open Go.RowKit
set_option maxRecDepth 100000
attribute [local go_sem] str_size str_toList str_get

set_option maxHeartbeats 4000000 in
theorem good_ref (a : List UInt8) (hl : a.length ≤ 9223372036854775807) (w : World) : Calls Tryz.prog 67 #[str a] w fun e w' => e = .returned (.bool (goodS a)) ∧ w' = w := by
  obtain ⟨d, hd⟩ : ∃ d, d = sizeS a := ⟨_, rfl⟩
  have HD := Lib.hid hd
  have hg : goodS a = (!d.isEmpty && decide (d.length ≤ 100) && (!(d.head? == some 48) || a == [48]) && allD d) := by rw [hd]; rfl
  obtain ⟨G, hG⟩ : ∃ G, G = goodS a := ⟨_, rfl⟩
  rw [← hG] at hg ⊢
  have HG := Lib.hid hg
  clear hg hG
  have hda : d.length ≤ a.length := by
    rw [hd]
    unfold sizeS
    split
    · rw [List.length_tail]; omega
    · exact Nat.le_refl _
  clear hd
  cases a with
  | nil =>
    have hF : G = false := by rw [HG.out, HD.out]; rfl
    have HF := Lib.hid hF
    clear hF
    go_enter Tryz.func67, Tryz.ntmps67
    go_wp2
    go_ret
    exact ⟨by rw [HF.out]; rfl, rfl⟩
  | cons c l =>
    by_cases hc : c = 45
    · subst hc
      obtain rfl : d = l := HD.out
      have hex : (ByteArray.mk (45 :: d).toArray).extract 1 (d.length + 1) = ⟨d.toArray⟩ := by rw [ByteArray.extract_mk]; simp
      go_enter Tryz.func67, Tryz.ntmps67
      go_upto_region 4 with fail
      cases d with
      | nil =>
        have hF : G = false := by rw [HG.out]; rfl
        have HF := Lib.hid hF
        clear hF
        go_wp2
        go_ret
        exact ⟨by rw [HF.out]; rfl, rfl⟩
      | cons c0 d' =>
        by_cases h1 : 100 < (c0 :: d').length
        · have hF : G = false := by rw [HG.out, decide_eq_false (show ¬ (c0 :: d').length ≤ 100 by omega)]; simp
          have HF := Lib.hid hF
          have h1' : (99 : Int) < (d'.length : Int) := by simp at h1; omega
          have h1'' : (100 : Int) < (d'.length : Int) + 1 := by omega
          clear hF h1
          go_wp2
          go_ret
          exact ⟨by rw [HF.out]; rfl, rfl⟩
        · have h1' : ¬ (99 : Int) < (d'.length : Int) := by simp at h1; omega
          have h1'' : ¬ (100 : Int) < (d'.length : Int) + 1 := by omega
          have hle : (c0 :: d').length ≤ 100 := by omega
          have h1n : d'.length < 100 := by omega
          clear h1
          by_cases h2 : c0 = 48 ∧ ¬ (45 :: c0 :: d') = [48]
          · obtain ⟨h20, h2⟩ := h2
            have hc48 : ((c0.toNat : Int) == 48) = true := by rw [h20]; rfl
            have hF : G = false := by
              rw [HG.out]
              have h6 : ((45 :: c0 :: d') == [48]) = false := by simp
              rw [h6, h20]
              simp
            have HF := Lib.hid hF
            have h3 : (0 : Int) < (d'.length : Int) ∨ (1 : Int) < ((45 :: c0 :: d').length : Int) := by
              right; simp only [List.length_cons]; omega
            clear hF h2 h20
            by_cases h4 : (0 : Int) < (d'.length : Int)
            · have h4n : 0 < d'.length := by omega
              clear h3
              go_wp2
              go_ret
              exact ⟨by rw [HF.out]; rfl, rfl⟩
            · have h5 : (1 : Int) < ((45 :: c0 :: d').length : Int) := by omega
              have h5n : 1 < (45 :: c0 :: d').length := by omega
              have h4n : ¬ 0 < d'.length := by omega
              clear h3
              go_wp2
              go_ret
              exact ⟨by rw [HF.out]; rfl, rfl⟩
          · have hG2 : G = allD (c0 :: d') := by
              rw [HG.out, decide_eq_true hle]
              by_cases h5 : c0 = 48
              · have h6 : (45 :: c0 :: d') = [48] := Classical.byContradiction fun h => h2 ⟨h5, h⟩
                simp [h6]
              · simp [h5]
            have HG2 := Lib.hid hG2
            clear hG2
            by_cases h5 : c0 = 48
            · have h6 : (45 :: c0 :: d') = [48] := Classical.byContradiction fun h => h2 ⟨h5, h⟩
              simp at h6
            · have hcn : ((c0.toNat : Int) == 48) = false := (u8_eq c0 48).trans (by simpa using h5)
              clear h2 h5
              go_upto_region 6 with fail
              obtain ⟨D, hD⟩ : ∃ D, D = c0 :: d' := ⟨_, rfl⟩
              rw [← hD] at HG2 hle ⊢
              have HDD := Lib.hid hD
              clear hcn hD
              go_wp2
              go_loopg [4] D.length (fun g v4 wr => ∃ i : Nat, i + g = D.length ∧ v4 = .int .i64 i ∧ (∀ j, j < i → isD (D[j]?.getD 0) = true) ∧ wr = w)
              case atStart => exact ⟨0, by omega, rfl, fun j hj => by omega, rfl⟩
              case round =>
                obtain ⟨i, hig, rfl, hall, rfl⟩ := hrel
                cases gk with
                | zero =>
                  have hie : ¬ (i : Int) < (D.length : Int) := by omega
                  have hF : G = true := by rw [HG2.out]; exact allD_all fun j hj => hall j (by omega)
                  have HF := Lib.hid hF
                  clear hF hall
                  go_wp2
                  go_ret
                  exact ⟨by rw [HF.out]; rfl, rfl⟩
                | succ g =>
                  have hie : (i : Int) < (D.length : Int) := by omega
                  have HALL := Lib.hid hall
                  clear hall
                  by_cases hd0 : isD (D[i]?.getD 0) = true
                  · have hnx : ∀ j, j < i + 1 → isD (D[j]?.getD 0) = true := fun j hj => by
                      by_cases e : j = i
                      · rw [e]; exact hd0
                      · exact HALL.out j (by omega)
                    have HNX := Lib.hid hnx
                    obtain ⟨C, hC⟩ : ∃ C, D[i]?.getD 0 = C := ⟨_, rfl⟩
                    rw [hC, isD_iff] at hd0
                    have hc1 : ¬ (C.toNat : Int) < 48 := by omega
                    have hc2 : ¬ (57 : Int) < (C.toNat : Int) := by omega
                    have hc3 := hd0.1
                    have hc4 := hd0.2
                    clear hnx hd0
                    go_wp2
                    go_roundg g
                    case measure => omega
                    case rel => exact ⟨i + 1, by omega, by go_num, HNX.out, rfl⟩
                  · have hF : G = false := by rw [HG2.out]; exact allD_not (i := i) (by omega) (by simpa using hd0)
                    have HF := Lib.hid hF
                    obtain ⟨C, hC⟩ : ∃ C, D[i]?.getD 0 = C := ⟨_, rfl⟩
                    rw [hC, isD_iff] at hd0
                    by_cases hc1 : C.toNat < 48
                    · have hc1' : (C.toNat : Int) < 48 := by omega
                      clear hd0 hF
                      go_wp2
                      go_ret
                      exact ⟨by rw [HF.out]; rfl, rfl⟩
                    · have hc1' : ¬ (C.toNat : Int) < 48 := by omega
                      have hc2 : 57 < C.toNat := by omega
                      have hc2' : (57 : Int) < (C.toNat : Int) := by omega
                      clear hd0 hF
                      go_wp2
                      go_ret
                      exact ⟨by rw [HF.out]; rfl, rfl⟩
    · have hcn0 : ((c.toNat : Int) == 45) = false := (u8_eq c 45).trans (by simpa using hc)
      have hdd : d = c :: l := by rw [HD.out]; unfold sizeS; rw [if_neg (by simpa using hc)]
      clear HD hc
      go_enter Tryz.func67, Tryz.ntmps67
      go_upto_region 4 with fail
      clear hcn0
      rw [← hdd] at HG hl ⊢
      clear hdd
      cases d with
      | nil =>
        have hF : G = false := by rw [HG.out]; rfl
        have HF := Lib.hid hF
        clear hF
        go_wp2
        go_ret
        exact ⟨by rw [HF.out]; rfl, rfl⟩
      | cons c0 d' =>
        by_cases h1 : 100 < (c0 :: d').length
        · have hF : G = false := by rw [HG.out, decide_eq_false (show ¬ (c0 :: d').length ≤ 100 by omega)]; simp
          have HF := Lib.hid hF
          have h1' : (99 : Int) < (d'.length : Int) := by simp at h1; omega
          have h1'' : (100 : Int) < (d'.length : Int) + 1 := by omega
          clear hF h1
          go_wp2
          go_ret
          exact ⟨by rw [HF.out]; rfl, rfl⟩
        · have h1' : ¬ (99 : Int) < (d'.length : Int) := by simp at h1; omega
          have h1'' : ¬ (100 : Int) < (d'.length : Int) + 1 := by omega
          have hle : (c0 :: d').length ≤ 100 := by omega
          have h1n : d'.length < 100 := by omega
          clear h1
          by_cases h2 : c0 = 48 ∧ ¬ (c0 :: d') = [48]
          · obtain ⟨h20, h2⟩ := h2
            have hc48 : ((c0.toNat : Int) == 48) = true := by rw [h20]; rfl
            have hF : G = false := by
              rw [HG.out]
              have h6 : ((c0 :: d') == [48]) = false := by simpa using h2
              rw [h6, h20]
              simp
            have HF := Lib.hid hF
            have h3 : (0 : Int) < (d'.length : Int) ∨ (1 : Int) < ((c0 :: d').length : Int) := by
              left; apply Classical.byContradiction; intro h; apply h2; have : d' = [] := List.eq_nil_of_length_eq_zero (by omega); rw [this, h20]
            clear hF h2 h20
            by_cases h4 : (0 : Int) < (d'.length : Int)
            · have h4n : 0 < d'.length := by omega
              clear h3
              go_wp2
              go_ret
              exact ⟨by rw [HF.out]; rfl, rfl⟩
            · have h5 : (1 : Int) < ((c0 :: d').length : Int) := by omega
              have h5n : 1 < (c0 :: d').length := by omega
              have h4n : ¬ 0 < d'.length := by omega
              clear h3
              exfalso; simp only [List.length_cons] at h5n; omega
          · have hG2 : G = allD (c0 :: d') := by
              rw [HG.out, decide_eq_true hle]
              by_cases h5 : c0 = 48
              · have h6 : (c0 :: d') = [48] := Classical.byContradiction fun h => h2 ⟨h5, h⟩
                simp [h6]
              · simp [h5]
            have HG2 := Lib.hid hG2
            clear hG2
            by_cases h5 : c0 = 48
            · have h6 : (c0 :: d') = [48] := Classical.byContradiction fun h => h2 ⟨h5, h⟩
              have h7 : d' = [] := by simp at h6; exact h6.2
              have h4n : ¬ 0 < d'.length := by rw [h7]; simp
              have h4 : ¬ (0 : Int) < (d'.length : Int) := by omega
              have h4z : d'.length = 0 := by omega
              have hc48 : ((c0.toNat : Int) == 48) = true := by rw [h5]; rfl
              clear h2 h5 h6 h7
              go_upto_region 6 with fail
              obtain ⟨D, hD⟩ : ∃ D, D = c0 :: d' := ⟨_, rfl⟩
              rw [← hD] at HG2 hle ⊢
              have HDD := Lib.hid hD
              have HZ := Lib.hid h4z
              clear hc48 hD h4z
              go_wp2
              go_loopg [4] D.length (fun g v4 wr => ∃ i : Nat, i + g = D.length ∧ v4 = .int .i64 i ∧ (∀ j, j < i → isD (D[j]?.getD 0) = true) ∧ wr = w)
              case atStart => exact ⟨0, by omega, rfl, fun j hj => by omega, rfl⟩
              case round =>
                obtain ⟨i, hig, rfl, hall, rfl⟩ := hrel
                cases gk with
                | zero =>
                  have hie : ¬ (i : Int) < (D.length : Int) := by omega
                  have hF : G = true := by rw [HG2.out]; exact allD_all fun j hj => hall j (by omega)
                  have HF := Lib.hid hF
                  clear hF hall
                  go_wp2
                  go_ret
                  exact ⟨by rw [HF.out]; rfl, rfl⟩
                | succ g =>
                  have hie : (i : Int) < (D.length : Int) := by omega
                  have HALL := Lib.hid hall
                  clear hall
                  by_cases hd0 : isD (D[i]?.getD 0) = true
                  · have hnx : ∀ j, j < i + 1 → isD (D[j]?.getD 0) = true := fun j hj => by
                      by_cases e : j = i
                      · rw [e]; exact hd0
                      · exact HALL.out j (by omega)
                    have HNX := Lib.hid hnx
                    obtain ⟨C, hC⟩ : ∃ C, D[i]?.getD 0 = C := ⟨_, rfl⟩
                    rw [hC, isD_iff] at hd0
                    have hc1 : ¬ (C.toNat : Int) < 48 := by omega
                    have hc2 : ¬ (57 : Int) < (C.toNat : Int) := by omega
                    have hc3 := hd0.1
                    have hc4 := hd0.2
                    clear hnx hd0
                    go_wp2
                    go_roundg g
                    case measure => omega
                    case rel => exact ⟨i + 1, by omega, by go_num, HNX.out, rfl⟩
                  · have hF : G = false := by rw [HG2.out]; exact allD_not (i := i) (by omega) (by simpa using hd0)
                    have HF := Lib.hid hF
                    obtain ⟨C, hC⟩ : ∃ C, D[i]?.getD 0 = C := ⟨_, rfl⟩
                    rw [hC, isD_iff] at hd0
                    by_cases hc1 : C.toNat < 48
                    · have hc1' : (C.toNat : Int) < 48 := by omega
                      clear hd0 hF
                      go_wp2
                      go_ret
                      exact ⟨by rw [HF.out]; rfl, rfl⟩
                    · have hc1' : ¬ (C.toNat : Int) < 48 := by omega
                      have hc2 : 57 < C.toNat := by omega
                      have hc2' : (57 : Int) < (C.toNat : Int) := by omega
                      clear hd0 hF
                      go_wp2
                      go_ret
                      exact ⟨by rw [HF.out]; rfl, rfl⟩
            · have hcn : ((c0.toNat : Int) == 48) = false := (u8_eq c0 48).trans (by simpa using h5)
              clear h2 h5
              go_upto_region 6 with fail
              obtain ⟨D, hD⟩ : ∃ D, D = c0 :: d' := ⟨_, rfl⟩
              rw [← hD] at HG2 hle ⊢
              have HDD := Lib.hid hD
              clear hcn hD
              go_wp2
              go_loopg [4] D.length (fun g v4 wr => ∃ i : Nat, i + g = D.length ∧ v4 = .int .i64 i ∧ (∀ j, j < i → isD (D[j]?.getD 0) = true) ∧ wr = w)
              case atStart => exact ⟨0, by omega, rfl, fun j hj => by omega, rfl⟩
              case round =>
                obtain ⟨i, hig, rfl, hall, rfl⟩ := hrel
                cases gk with
                | zero =>
                  have hie : ¬ (i : Int) < (D.length : Int) := by omega
                  have hF : G = true := by rw [HG2.out]; exact allD_all fun j hj => hall j (by omega)
                  have HF := Lib.hid hF
                  clear hF hall
                  go_wp2
                  go_ret
                  exact ⟨by rw [HF.out]; rfl, rfl⟩
                | succ g =>
                  have hie : (i : Int) < (D.length : Int) := by omega
                  have HALL := Lib.hid hall
                  clear hall
                  by_cases hd0 : isD (D[i]?.getD 0) = true
                  · have hnx : ∀ j, j < i + 1 → isD (D[j]?.getD 0) = true := fun j hj => by
                      by_cases e : j = i
                      · rw [e]; exact hd0
                      · exact HALL.out j (by omega)
                    have HNX := Lib.hid hnx
                    obtain ⟨C, hC⟩ : ∃ C, D[i]?.getD 0 = C := ⟨_, rfl⟩
                    rw [hC, isD_iff] at hd0
                    have hc1 : ¬ (C.toNat : Int) < 48 := by omega
                    have hc2 : ¬ (57 : Int) < (C.toNat : Int) := by omega
                    have hc3 := hd0.1
                    have hc4 := hd0.2
                    clear hnx hd0
                    go_wp2
                    go_roundg g
                    case measure => omega
                    case rel => exact ⟨i + 1, by omega, by go_num, HNX.out, rfl⟩
                  · have hF : G = false := by rw [HG2.out]; exact allD_not (i := i) (by omega) (by simpa using hd0)
                    have HF := Lib.hid hF
                    obtain ⟨C, hC⟩ : ∃ C, D[i]?.getD 0 = C := ⟨_, rfl⟩
                    rw [hC, isD_iff] at hd0
                    by_cases hc1 : C.toNat < 48
                    · have hc1' : (C.toNat : Int) < 48 := by omega
                      clear hd0 hF
                      go_wp2
                      go_ret
                      exact ⟨by rw [HF.out]; rfl, rfl⟩
                    · have hc1' : ¬ (C.toNat : Int) < 48 := by omega
                      have hc2 : 57 < C.toNat := by omega
                      have hc2' : (57 : Int) < (C.toNat : Int) := by omega
                      clear hd0 hF
                      go_wp2
                      go_ret
                      exact ⟨by rw [HF.out]; rfl, rfl⟩

end Go.Proofs.YtpbipngnoklmcaaGreatDoor
