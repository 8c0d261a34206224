/- The walks of the search for a key among keys that rise. -/
import Derived.Test.YtgbalofdfdafmaaDoorChars
import Derived.Test.YtgbalofdfdafmaaDoorMv
import Derived.Test.YtgbalofdfdafmaaDoorMp
import Derived.Lib.Hide
namespace Go.Proofs.YtgbalofdfdafmaaDoor
open Go.RowKit
set_option maxRecDepth 100000
attribute [local go_sem] str_size str_toList str_get

theorem below_dn {B : Nat} {w w' : World} (h : Below B w w') (n : Nat) : Below B w (w'.drewN n) := by
  induction n with
  | zero => exact h
  | succ n ih => exact ih.drew
theorem nan_cmp (a : List UInt8) (w : World) : Calls Tryd.prog 69 #[str a] w fun e w' => e = .returned (.bool false) ∧ w' = w := by
  go_enter Tryd.func69, Tryd.ntmps69
  go_wp2
  go_ret
  exact ⟨by simp, rfl⟩
theorem nan_sl (a : List UInt8) (w : World) : Calls Tryd.prog 56 #[str a] w fun e w' => e = .returned (.bool false) ∧ w' = w := by
  go_enter Tryd.func56, Tryd.ntmps56
  go_wp2
  go_ret
  exact ⟨by simp, rfl⟩
theorem less_str (a b : List UInt8) (w : World) : Calls Tryd.prog 55 #[str a, str b] w fun e w' => e = .returned (.bool (ltS a b)) ∧ w' = w := by
  have hl := bytesLess_eq a b
  obtain ⟨r, hr⟩ : ∃ r, ltS a b = r := ⟨_, rfl⟩
  rw [hr] at hl ⊢
  go_enter Tryd.func55, Tryd.ntmps55
  go_wp2_with (go_at_call 69; refine (nan_cmp _ _).mono ?_; rintro e w' ⟨rfl, rfl⟩)
  go_ret
  exact ⟨by simp, rfl⟩

theorem mid_less {ks : List (List UInt8)} {key : List UInt8} {m : Nat} (hm : m < ks.length) (h : ltS (ks.getD m []) key = true) (hr : rising ks = true) : m + 1 ≤ posK ks key := by
  by_cases hc : posK ks key ≤ m
  · have := posK_more hr hc
    rw [show ks.getD m key = ks.getD m [] by simp [List.getD, hm], h] at this
    cases this
  · omega
theorem mid_more {ks : List (List UInt8)} {key : List UInt8} {m : Nat} (hm : m < ks.length) (h : ltS (ks.getD m []) key = false) : posK ks key ≤ m := by
  by_cases hc : m < posK ks key
  · have := posK_less hc
    rw [show ks.getD m key = ks.getD m [] by simp [List.getD, hm], h] at this
    cases this
  · omega
theorem hasK_at {ks : List (List UInt8)} {key : List UInt8} (hm : posK ks key < ks.length) : hasK ks key = (ks.getD (posK ks key) [] == key) := by
  rw [Bool.eq_iff_iff, hasK_iff, beq_iff_eq]
  simp [List.getD, hm]
theorem hasK_out {ks : List (List UInt8)} {key : List UInt8} (hm : ¬ posK ks key < ks.length) : hasK ks key = false := by
  cases h : hasK ks key with
  | false => rfl
  | true => exact absurd (hasK_iff.1 h).1 hm

set_option maxHeartbeats 4000000 in
theorem search_keys (ks : List (List UInt8)) (v : Value) (key : List UInt8) (w : World) (h : StrsAt w v ks) (hr : rising ks = true) (hl : ks.length ≤ 1000000) :
    Calls Tryd.prog 38 #[v, str key] w fun e w' => e = .returned (.tuple #[.int .i64 (posK ks key : Nat), .bool (hasK ks key)]) ∧ Below w.heap.size w w' := by
  have h0 := h
  obtain ⟨ao, cap, rfl, hm, _⟩ := h
  obtain ⟨n, hn⟩ : ∃ n, n = ks.length := ⟨_, rfl⟩
  have hML : ∀ m, m < n → ltS (ks.getD m []) key = true → m + 1 ≤ posK ks key := fun m hm h => mid_less (by omega) h hr
  have hMM : ∀ m, m < n → ltS (ks.getD m []) key = false → posK ks key ≤ m := fun m hm h => mid_more (by omega) h
  have hA : posK ks key < n → hasK ks key = (ks.getD (posK ks key) [] == key) := fun h => hasK_at (by omega)
  have hO : ¬ posK ks key < n → hasK ks key = false := fun h => hasK_out (by omega)
  have hP := posK_le ks key
  have hC : ∀ m, m < n → ∃ b off, ao = some ⟨b, off, none⟩ ∧ w.cell? ⟨b, off + m, none⟩ = some (str (ks.getD m [])) := fun m hm => by
    obtain ⟨b, off, e, _, hc⟩ := StrsAt.get h0 (i := m) (by omega)
    exact ⟨b, off, e, hc⟩
  rw [← hn] at hm hl hP ⊢
  have HML := Lib.hid hML
  have HMM := Lib.hid hMM
  have HA := Lib.hid hA
  have HO := Lib.hid hO
  have HC := Lib.hid hC
  clear hML hMM hA hO hC hn h0 hr
  obtain ⟨p, hp⟩ : ∃ p, posK ks key = p := ⟨_, rfl⟩
  rw [hp] at hP HML HMM HA HO ⊢
  obtain ⟨r, hr⟩ : ∃ r, hasK ks key = r := ⟨_, rfl⟩
  rw [hr] at HA HO ⊢
  clear hp hr
  go_enter Tryd.func38, Tryd.ntmps38
  go_wp2
  go_loopg [7, 8] n (fun g s7 s8 wr => ∃ lo hi q : Nat, s7 = .int .i64 lo ∧ s8 = .int .i64 hi ∧ lo ≤ p ∧ p ≤ hi ∧ hi ≤ n ∧ hi - lo ≤ g ∧ wr = w.drewN q)
  case atStart => exact ⟨0, n, 0, rfl, rfl, Nat.zero_le _, hP, Nat.le_refl _, by omega, rfl⟩
  case round =>
    obtain ⟨lo, hi, q, rfl, rfl, hlp, hph, hin, hg, rfl⟩ := hrel
    by_cases hlt : lo < hi
    · obtain ⟨b, off, rfl, cm⟩ := HC.out ((lo + hi) / 2) (by omega)
      obtain ⟨g', rfl⟩ : ∃ g', gk = g' + 1 := ⟨gk - 1, by omega⟩
      have HL := Lib.hid (HML.out ((lo + hi) / 2) (by omega))
      have HM := Lib.hid (HMM.out ((lo + hi) / 2) (by omega))
      have C := fun w => less_str (ks.getD ((lo + hi) / 2) []) key w
      obtain ⟨y, hy⟩ : ∃ y, ks.getD ((lo + hi) / 2) [] = y := ⟨_, rfl⟩
      rw [hy] at cm HL HM C
      cases hyx : ltS y key
      · rw [hyx] at C HL HM
        have hM := HM.out rfl
        clear HL HM hyx hy
        go_wp2_with (go_at_call 55; refine (C _).mono ?_; rintro e w' ⟨rfl, rfl⟩)
        go_roundg ((lo + hi) / 2 - lo)
        case measure => omega
        case rel => exact ⟨lo, (lo + hi) / 2, _, rfl, by rw [show ((lo : Int) + (hi : Int)) / 2 = (((lo + hi) / 2 : Nat) : Int) by omega], hlp, hM, by omega, Nat.le_refl _, rfl⟩
      · rw [hyx] at C HL HM
        have hL := HL.out rfl
        clear HL HM hyx hy
        go_wp2_with (go_at_call 55; refine (C _).mono ?_; rintro e w' ⟨rfl, rfl⟩)
        go_roundg (hi - ((lo + hi) / 2 + 1))
        case measure => omega
        case rel => exact ⟨(lo + hi) / 2 + 1, hi, _, by rw [show ((lo : Int) + (hi : Int)) / 2 + 1 = (((lo + hi) / 2 + 1 : Nat) : Int) by omega], rfl, hL, hph, hin, Nat.le_refl _, rfl⟩
    · obtain rfl : hi = p := by omega
      obtain rfl : lo = hi := by omega
      have hfin : Below w.heap.size w (w.drewN q) := below_dn (Below.refl _ _) q
      by_cases hn : lo < n
      · obtain ⟨b, off, rfl, cl⟩ := HC.out lo hn
        have hrr := HA.out hn
        obtain ⟨y, hy⟩ : ∃ y, ks.getD lo [] = y := ⟨_, rfl⟩
        rw [hy] at cl hrr
        clear hy HC HML HMM HA HO
        by_cases hyx : y = key
        · subst hyx
          rw [beq_self_eq_true] at hrr
          subst hrr
          go_wp2
          go_ret2
          exact ⟨rfl, hfin⟩
        · have hyb : (y == key) = false := by simpa using hyx
          rw [hyb] at hrr
          subst hrr
          clear hyx
          go_wp2_with (go_at_call 56; refine (nan_sl _ _).mono ?_; rintro e w' ⟨rfl, rfl⟩)
          go_ret2
          exact ⟨rfl, hfin⟩
      · have hrr := HO.out hn
        subst hrr
        clear HC HML HMM HA HO
        go_wp2
        go_ret2
        exact ⟨rfl, hfin⟩

end Go.Proofs.YtgbalofdfdafmaaDoor
