/- The walk of Good: is a text a number? num.Good at a text of which it is known whether it is a good one. -/
import Derived.Test.YtpbipngnoklmcaaGreatDoorShelf
import Derived.Test.YtpbipngnoklmcaaGreatDoorMWldM
import Derived.Test.YtpbipngnoklmcaaGreatDoorMNumP
namespace Go.Proofs.YtpbipngnoklmcaaGreatDoor
open Go.RowKit
set_option maxRecDepth 100000
attribute [local go_sem] str_size str_toList str_get

theorem bytes_below (w : World) (e : TypeId) (s : ByteArray) : Below w.heap.size w (Lib.bytesWorld w e s) :=
  ⟨rfl, rfl, rfl, by rw [Lib.bytesWorld_size]; omega, fun k hk => Lib.bytesWorld_at_old w e s k hk⟩
theorem trim_size (a : List UInt8) : Lib.trimPrefix a [45] = sizeS a := by
  cases a with
  | nil => rfl
  | cons c l =>
    unfold Lib.trimPrefix Lib.hasPrefix sizeS
    by_cases h : c = 45
    · subst h; simp [List.isPrefixOf]
    · have h' : ¬ (45 : UInt8) = c := fun e => h e.symm
      simp [List.isPrefixOf, h, h']
theorem has_below (a : List UInt8) : Lib.hasPrefix a [45] = belowS a := by
  cases a with
  | nil => rfl
  | cons c l =>
    unfold Lib.hasPrefix belowS
    by_cases h : c = 45
    · subst h; simp [List.isPrefixOf]
    · have h1 : (c == 45) = false := by simpa using h
      have h2 : ((45 : UInt8) == c) = false := by simpa using fun e => h e.symm
      simp [List.isPrefixOf, h1, h2]

set_option maxHeartbeats 4000000 in
theorem good_any (a : List UInt8) (w : World) : Calls Tryz.prog 96 #[str a] w fun e w' => e = .returned (.bool (goodS a)) ∧ Below w.heap.size w w' := by
  obtain ⟨d, hd⟩ : ∃ d, d = sizeS a := ⟨_, rfl⟩
  have TP := Tryz.strings_TrimPrefix ⟨a.toArray⟩ ⟨#[45]⟩ w
  simp only [trim_size] at TP
  rw [← hd] at TP
  have HD := Lib.hid hd
  have hg : goodS a = (!d.isEmpty && decide (d.length ≤ 100) && (!(d.head? == some 48) || a == [48]) && allD d) := by rw [hd]; rfl
  obtain ⟨G, hG⟩ : ∃ G, G = goodS a := ⟨_, rfl⟩
  rw [← hG] at hg ⊢
  have HG := Lib.hid hg
  clear hg hG hd
  go_enter Tryz.func96, Tryz.ntmps96
  go_upto_region 2 with (refine TP.mono ?_; rintro e wA ⟨rfl, rfl⟩)
  cases d with
  | nil =>
    have hF : G = false := by rw [HG.out]; rfl
    have HF := Lib.hid hF
    clear hF
    go_wp2
    go_ret
    exact ⟨by rw [HF.out]; rfl, Below.refl _ _⟩
  | cons c0 d' =>
    by_cases h1 : 100 < (c0 :: d').length
    · have hF : G = false := by rw [HG.out, decide_eq_false (show ¬ (c0 :: d').length ≤ 100 by omega)]; simp
      have HF := Lib.hid hF
      have h1' : (99 : Int) < (d'.length : Int) := by simp at h1; omega
      have h1'' : (100 : Int) < (d'.length : Int) + 1 := by omega
      clear hF h1
      go_wp2
      go_ret
      exact ⟨by rw [HF.out]; rfl, Below.refl _ _⟩
    · have h1' : ¬ (99 : Int) < (d'.length : Int) := by simp at h1; omega
      have h1'' : ¬ (100 : Int) < (d'.length : Int) + 1 := by omega
      have hle : (c0 :: d').length ≤ 100 := by omega
      have h1n : d'.length < 100 := by omega
      clear h1
      by_cases h2 : c0 = 48 ∧ ¬ a = [48]
      · obtain ⟨h20, h2⟩ := h2
        have hc48 : ((c0.toNat : Int) == 48) = true := by rw [h20]; rfl
        have h6 : (a == [48]) = false := by simpa using h2
        have hF : G = false := by
          rw [HG.out, h6, h20]
          simp
        have HF := Lib.hid hF
        clear hF h2 h20
        go_wp2
        go_ret
        exact ⟨by rw [HF.out]; rfl, Below.refl _ _⟩
      · have hG2 : G = allD (c0 :: d') := by
          rw [HG.out, decide_eq_true hle]
          by_cases h5 : c0 = 48
          · have h6 : a = [48] := Classical.byContradiction fun h => h2 ⟨h5, h⟩
            simp [h6]
          · simp [h5]
        have HG2 := Lib.hid hG2
        clear hG2
        obtain ⟨D, hD⟩ : ∃ D, D = c0 :: d' := ⟨_, rfl⟩
        have hcv := Lib.run_convert_string_bytes (P := Tryz.prog) wA 9 122 5 ⟨(c0 :: d').toArray⟩ Tryz.underlying9 Tryz.underlying122 Tryz.underlying5
        rw [str_size, ← hD] at hcv
        have hb1 := bytes_below wA 5 ⟨D.toArray⟩
        have hcell : ∀ i, i < D.length → (Lib.bytesWorld wA 5 ⟨D.toArray⟩).cell? ⟨wA.heap.size, i, none⟩ = some (.int .u8 ((D[i]?.getD 0).toNat : Int)) := fun i hi => by
          have := Lib.bytesWorld_cell wA 5 ⟨D.toArray⟩ i (by rw [str_size]; exact hi)
          simpa [List.getD] using this
        rw [hD] at hcv
        generalize grownCap wA (c0 :: d').length 0 5 = cap at hcv
        obtain ⟨w1, hw1⟩ : ∃ w1, w1 = Lib.bytesWorld wA 5 ⟨D.toArray⟩ := ⟨_, rfl⟩
        rw [← hw1] at hb1 hcell
        rw [← hD, ← hw1] at hcv
        have HC := Lib.hid hcell
        have HB1 := Lib.hid hb1
        by_cases h5 : c0 = 48
        · have h6 : (a == [48]) = true := by
            have : a = [48] := Classical.byContradiction fun h => h2 ⟨h5, h⟩
            simpa using this
          have hc48 : ((c0.toNat : Int) == 48) = true := by rw [h5]; rfl
          clear h2 h5 hw1 hb1 hcell
          go_upto_region 4 with fail
          rw [← hD] at HG2 hle ⊢
          have HDD := Lib.hid hD
          clear hc48 hD
          go_wp2
          go_loopg [28] D.length (fun g v28 wr => ∃ i : Nat, i + g = D.length ∧ v28 = .int .i64 i ∧ (∀ j, j < i → isD (D[j]?.getD 0) = true) ∧ wr = w1)
          case atStart => exact ⟨0, by omega, rfl, fun j hj => by omega, rfl⟩
          case round =>
            obtain ⟨i, hig, rfl, hall, rfl⟩ := hrel
            cases gk with
            | zero =>
              have hie : ¬ (i : Int) < (D.length : Int) := by omega
              have hF : G = true := by rw [HG2.out]; exact allD_all fun j hj => hall j (by omega)
              have HF := Lib.hid hF
              clear hF hall
              go_wp2
              go_ret
              exact ⟨by rw [HF.out]; rfl, HB1.out⟩
            | succ g =>
              have hie : (i : Int) < (D.length : Int) := by omega
              have hce := HC.out i (by omega)
              have HALL := Lib.hid hall
              clear hall
              by_cases hd0 : isD (D[i]?.getD 0) = true
              · have hnx : ∀ j, j < i + 1 → isD (D[j]?.getD 0) = true := fun j hj => by
                  by_cases e : j = i
                  · rw [e]; exact hd0
                  · exact HALL.out j (by omega)
                have HNX := Lib.hid hnx
                obtain ⟨C, hC⟩ : ∃ C, D[i]?.getD 0 = C := ⟨_, rfl⟩
                rw [hC] at hce
                rw [hC, isD_iff] at hd0
                have hc1 : ¬ (C.toNat : Int) < 48 := by omega
                have hc2 : ¬ (57 : Int) < (C.toNat : Int) := by omega
                have hc3 := hd0.1
                have hc4 := hd0.2
                clear hnx hd0 hC
                go_wp2
                go_roundg g
                case measure => omega
                case rel => exact ⟨i + 1, by omega, by go_num, HNX.out, rfl⟩
              · have hF : G = false := by rw [HG2.out]; exact allD_not (i := i) (by omega) (by simpa using hd0)
                have HF := Lib.hid hF
                obtain ⟨C, hC⟩ : ∃ C, D[i]?.getD 0 = C := ⟨_, rfl⟩
                rw [hC] at hce
                rw [hC, isD_iff] at hd0
                by_cases hc1 : C.toNat < 48
                · have hc1' : (C.toNat : Int) < 48 := by omega
                  clear hd0 hF hC
                  go_wp2
                  go_ret
                  exact ⟨by rw [HF.out]; rfl, HB1.out⟩
                · have hc1' : ¬ (C.toNat : Int) < 48 := by omega
                  have hc2 : 57 < C.toNat := by omega
                  have hc2' : (57 : Int) < (C.toNat : Int) := by omega
                  clear hd0 hF hC
                  go_wp2
                  go_ret
                  exact ⟨by rw [HF.out]; rfl, HB1.out⟩
        · have hcn : ((c0.toNat : Int) == 48) = false := (u8_eq c0 48).trans (by simpa using h5)
          clear h2 h5 hw1 hb1 hcell
          go_upto_region 4 with fail
          rw [← hD] at HG2 hle ⊢
          have HDD := Lib.hid hD
          clear hcn hD
          go_wp2
          go_loopg [28] D.length (fun g v28 wr => ∃ i : Nat, i + g = D.length ∧ v28 = .int .i64 i ∧ (∀ j, j < i → isD (D[j]?.getD 0) = true) ∧ wr = w1)
          case atStart => exact ⟨0, by omega, rfl, fun j hj => by omega, rfl⟩
          case round =>
            obtain ⟨i, hig, rfl, hall, rfl⟩ := hrel
            cases gk with
            | zero =>
              have hie : ¬ (i : Int) < (D.length : Int) := by omega
              have hF : G = true := by rw [HG2.out]; exact allD_all fun j hj => hall j (by omega)
              have HF := Lib.hid hF
              clear hF hall
              go_wp2
              go_ret
              exact ⟨by rw [HF.out]; rfl, HB1.out⟩
            | succ g =>
              have hie : (i : Int) < (D.length : Int) := by omega
              have hce := HC.out i (by omega)
              have HALL := Lib.hid hall
              clear hall
              by_cases hd0 : isD (D[i]?.getD 0) = true
              · have hnx : ∀ j, j < i + 1 → isD (D[j]?.getD 0) = true := fun j hj => by
                  by_cases e : j = i
                  · rw [e]; exact hd0
                  · exact HALL.out j (by omega)
                have HNX := Lib.hid hnx
                obtain ⟨C, hC⟩ : ∃ C, D[i]?.getD 0 = C := ⟨_, rfl⟩
                rw [hC] at hce
                rw [hC, isD_iff] at hd0
                have hc1 : ¬ (C.toNat : Int) < 48 := by omega
                have hc2 : ¬ (57 : Int) < (C.toNat : Int) := by omega
                have hc3 := hd0.1
                have hc4 := hd0.2
                clear hnx hd0 hC
                go_wp2
                go_roundg g
                case measure => omega
                case rel => exact ⟨i + 1, by omega, by go_num, HNX.out, rfl⟩
              · have hF : G = false := by rw [HG2.out]; exact allD_not (i := i) (by omega) (by simpa using hd0)
                have HF := Lib.hid hF
                obtain ⟨C, hC⟩ : ∃ C, D[i]?.getD 0 = C := ⟨_, rfl⟩
                rw [hC] at hce
                rw [hC, isD_iff] at hd0
                by_cases hc1 : C.toNat < 48
                · have hc1' : (C.toNat : Int) < 48 := by omega
                  clear hd0 hF hC
                  go_wp2
                  go_ret
                  exact ⟨by rw [HF.out]; rfl, HB1.out⟩
                · have hc1' : ¬ (C.toNat : Int) < 48 := by omega
                  have hc2 : 57 < C.toNat := by omega
                  have hc2' : (57 : Int) < (C.toNat : Int) := by omega
                  clear hd0 hF hC
                  go_wp2
                  go_ret
                  exact ⟨by rw [HF.out]; rfl, HB1.out⟩

end Go.Proofs.YtpbipngnoklmcaaGreatDoor
namespace Go.Proofs.YtpbipngnoklmcaaGreatDoor
open Go.RowKit
set_option maxRecDepth 100000
attribute [local go_sem] str_size str_toList str_get

theorem good_parts {a : List UInt8} (h : goodS a = true) : allD (sizeS a) = true ∧ (sizeS a).length ≤ 100 ∧ a.length ≤ 101 := by
  unfold goodS at h
  simp only [Bool.and_eq_true, decide_eq_true_eq] at h
  refine ⟨h.2, h.1.1.2, ?_⟩
  have h1 := h.1.1.2
  unfold sizeS at h1
  split at h1
  · rw [List.length_tail] at h1; omega
  · omega
theorem good_is {a : List UInt8} {g : Bool} (h : goodS a = g) (w : World) : Calls Tryz.prog 96 #[str a] w fun e w' => e = .returned (.bool g) ∧ Below w.heap.size w w' := by
  rw [← h]; exact good_any a w

end Go.Proofs.YtpbipngnoklmcaaGreatDoor
