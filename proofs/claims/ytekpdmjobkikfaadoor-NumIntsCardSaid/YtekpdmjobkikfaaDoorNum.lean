/- The walks of Add, Sub, Mul, Cmp: what they answer, in terms of whole numbers. -/
import Derived.Test.YtekpdmjobkikfaaDoorText
import Derived.Test.YtekpdmjobkikfaaDoorRead
import Derived.Test.YtekpdmjobkikfaaDoorTurned
namespace Go.Proofs.YtekpdmjobkikfaaDoor
open Go.RowKit
set_option maxRecDepth 100000
attribute [local go_sem] str_size str_toList str_get

theorem good_parts {a : List UInt8} (h : goodS a = true) : allD (sizeS a) = true ∧ (sizeS a).length ≤ 100 ∧ a.length ≤ 101 := by
  unfold goodS at h
  simp only [Bool.and_eq_true, decide_eq_true_eq] at h
  refine ⟨h.2, h.1.1.2, ?_⟩
  have h1 := h.1.1.2
  unfold sizeS at h1
  split at h1
  · rw [List.length_tail] at h1; omega
  · omega
theorem good_is {a : List UInt8} {g : Bool} (h : goodS a = g) (w : World) : Calls Tryd.prog 11 #[str a] w fun e w' => e = .returned (.bool g) ∧ Below w.heap.size w w' := by
  rw [← h]; exact good_any a w
theorem read_good {a : List UInt8} (h : goodS a = true) (w : World) : Calls Tryd.prog 31 #[str a] w (NumPost (valS a) 100 w) := by
  obtain ⟨h1, h2, h3⟩ := good_parts h
  refine (read_any a h1 (by omega) w).mono ?_
  rintro e w' ⟨v, b, zs, r1, r2, r3, r4, r5, r6⟩
  exact ⟨v, b, zs, r1, r2, r3, r4, by omega, r6⟩
theorem turned_big (b : Bool) (v : Value) (xs : List Nat) (w : World) (h : LimbsAt w v xs) (ok : bigOk b xs) : Calls Tryd.prog 37 #[.agg #[.bool b, v]] w (NumPost (-numV b xs) xs.length w) := by
  refine (turned_any b v xs w h).mono ?_
  rintro e w' ⟨v, rfl, hv, hb⟩
  refine ⟨v, _, _, rfl, hv, big_trim _ ok.1, ?_, trimL_len xs, hb⟩
  rw [num_trim]
  unfold numV
  cases b <;> simp

set_option maxHeartbeats 4000000 in
theorem add_any (a b : List UInt8) (w : World) (hT : TabW w) : Calls Tryd.prog 13 #[str a, str b] w fun e w' => e = .returned (.tuple #[str (addR a b).1, .int .i64 (addR a b).2]) ∧ Below w.heap.size w w' := by
  by_cases hga : goodS a = true
  · by_cases hgb : goodS b = true
    · have GA := good_is hga w
      have GB := fun W => good_is hgb W
      have RA := fun W => read_good hga W
      have RB := fun W => read_good hgb W
      have HR : Hid (addR a b = capR (valS a + valS b)) := by rw [Hid]; unfold addR; rw [if_pos ⟨hga, hgb⟩]
      generalize valS a = za at RA HR
      generalize valS b = zb at RB HR
      have HT := Lib.hid hT
      clear hga hgb hT
      go_enter Tryd.func13, Tryd.ntmps13
      go_wp2_with fail
      refine GA.mono ?_
      rintro e w1 ⟨rfl, hb1⟩
      go_wp2_with fail
      refine (GB _).mono ?_
      rintro e w2 ⟨rfl, hb2⟩
      go_wp2_with fail
      refine (RA _).mono ?_
      rintro e w3 ⟨_, ba, xs, rfl, ⟨u3, rfl, hx3⟩, okx, hvx, hlx, hb3⟩
      go_wp2_with fail
      refine (RB _).mono ?_
      rintro e w4 ⟨_, bb, ys, rfl, ⟨u4, rfl, hy4⟩, oky, hvy, hly, hb4⟩
      have hx4 := hx3.mono hb4
      have hB4 : Below w.heap.size w w4 := ((hb1.trans (hb2.mono hb1.size)).trans (hb3.mono (by have := hb1.size; have := hb2.size; omega))).trans (hb4.mono (by have := hb1.size; have := hb2.size; have := hb3.size; omega))
      clear GA GB RA RB hb1 hb2 hb3 hb4 hx3
      go_wp2_with fail
      refine (sum_any _ _ _ _ _ _ _ hx4 hy4 okx oky (by omega) (by omega)).mono ?_
      rintro e w6 ⟨_, bz, zs, rfl, ⟨uz, rfl, hz6⟩, okz, hvz, hlz, hb6⟩
      rw [hvx, hvy] at hvz
      have HZ := Lib.hid hz6
      have OKZ := Lib.hid okz
      have HVZ := Lib.hid hvz
      have HBZ : Hid (Below w.heap.size w w6) := hB4.trans (hb6.mono hB4.size)
      have hlz' : zs.length ≤ 300 := by omega
      clear hz6 okz hvz hb6 hlz hx4 hy4 okx oky hvx hvy hB4
      go_wp2_with fail
      refine (text_any _ _ _ _ HZ.out OKZ.out (by omega) (HT.out.mono HBZ.out)).mono ?_
      rintro e w7 ⟨rfl, hb7⟩
      have HF : Hid (capR (numV bz zs) = capR (za + zb)) := by rw [Hid, HVZ.out]
      go_wp2
      go_ret2
      exact ⟨by rw [HR.out, ← HF.out]; rfl, HBZ.out.trans (hb7.mono HBZ.out.size)⟩
    · have hgb' : goodS b = false := by simpa using hgb
      have GA := good_is hga w
      have GB := fun W => good_is hgb' W
      have HR : Hid (addR a b = ([], 6)) := by rw [Hid]; unfold addR; rw [if_neg (fun h => hgb h.2)]
      clear hga hgb hgb'
      go_enter Tryd.func13, Tryd.ntmps13
      go_wp2_with fail
      refine GA.mono ?_
      rintro e w1 ⟨rfl, hb1⟩
      go_wp2_with fail
      refine (GB _).mono ?_
      rintro e w2 ⟨rfl, hb2⟩
      go_wp2
      go_ret2
      exact ⟨by rw [HR.out]; rfl, hb1.trans (hb2.mono hb1.size)⟩
  · have hga' : goodS a = false := by simpa using hga
    have GA := good_is hga' w
    have HR : Hid (addR a b = ([], 6)) := by rw [Hid]; unfold addR; rw [if_neg (fun h => hga h.1)]
    clear hga hga'
    go_enter Tryd.func13, Tryd.ntmps13
    go_wp2_with fail
    refine GA.mono ?_
    rintro e w1 ⟨rfl, hb1⟩
    go_wp2
    go_ret2
    exact ⟨by rw [HR.out]; rfl, hb1⟩

set_option maxHeartbeats 4000000 in
theorem sub_any (a b : List UInt8) (w : World) (hT : TabW w) : Calls Tryd.prog 15 #[str a, str b] w fun e w' => e = .returned (.tuple #[str (subR a b).1, .int .i64 (subR a b).2]) ∧ Below w.heap.size w w' := by
  by_cases hga : goodS a = true
  · by_cases hgb : goodS b = true
    · have GA := good_is hga w
      have GB := fun W => good_is hgb W
      have RA := fun W => read_good hga W
      have RB := fun W => read_good hgb W
      have HR : Hid (subR a b = capR (valS a - valS b)) := by rw [Hid]; unfold subR; rw [if_pos ⟨hga, hgb⟩]
      generalize valS a = za at RA HR
      generalize valS b = zb at RB HR
      have HT := Lib.hid hT
      clear hga hgb hT
      go_enter Tryd.func15, Tryd.ntmps15
      go_wp2_with fail
      refine GA.mono ?_
      rintro e w1 ⟨rfl, hb1⟩
      go_wp2_with fail
      refine (GB _).mono ?_
      rintro e w2 ⟨rfl, hb2⟩
      go_wp2_with fail
      refine (RA _).mono ?_
      rintro e w3 ⟨_, ba, xs, rfl, ⟨u3, rfl, hx3⟩, okx, hvx, hlx, hb3⟩
      go_wp2_with fail
      refine (RB _).mono ?_
      rintro e w4 ⟨_, bb, ys, rfl, ⟨u4, rfl, hy4⟩, oky, hvy, hly, hb4⟩
      have hx4 := hx3.mono hb4
      have hB4 : Below w.heap.size w w4 := ((hb1.trans (hb2.mono hb1.size)).trans (hb3.mono (by have := hb1.size; have := hb2.size; omega))).trans (hb4.mono (by have := hb1.size; have := hb2.size; have := hb3.size; omega))
      clear GA GB RA RB hb1 hb2 hb3 hb4 hx3
      go_wp2_with fail
      refine (turned_big bb _ ys _ hy4 oky).mono ?_
      rintro e w5 ⟨_, bt, ts, rfl, ⟨ut, rfl, ht5⟩, okt, hvt, hlt, hb5⟩
      have hx5 := hx4.mono hb5
      have hB5 : Below w.heap.size w w5 := hB4.trans (hb5.mono hB4.size)
      rw [hvy] at hvt
      clear hx4 hy4 oky hvy hB4 hb5
      go_wp2_with fail
      refine (sum_any _ _ _ _ _ _ _ hx5 ht5 okx okt (by omega) (by omega)).mono ?_
      rintro e w6 ⟨_, bz, zs, rfl, ⟨uz, rfl, hz6⟩, okz, hvz, hlz, hb6⟩
      rw [hvx, hvt, ← Int.sub_eq_add_neg] at hvz
      have HZ := Lib.hid hz6
      have OKZ := Lib.hid okz
      have HVZ := Lib.hid hvz
      have HBZ : Hid (Below w.heap.size w w6) := hB5.trans (hb6.mono hB5.size)
      have hlz' : zs.length ≤ 300 := by omega
      clear hz6 okz hvz hb6 hlz hx5 ht5 okx okt hvx hvt hB5
      go_wp2_with fail
      refine (text_any _ _ _ _ HZ.out OKZ.out (by omega) (HT.out.mono HBZ.out)).mono ?_
      rintro e w7 ⟨rfl, hb7⟩
      have HF : Hid (capR (numV bz zs) = capR (za - zb)) := by rw [Hid, HVZ.out]
      go_wp2
      go_ret2
      exact ⟨by rw [HR.out, ← HF.out]; rfl, HBZ.out.trans (hb7.mono HBZ.out.size)⟩
    · have hgb' : goodS b = false := by simpa using hgb
      have GA := good_is hga w
      have GB := fun W => good_is hgb' W
      have HR : Hid (subR a b = ([], 6)) := by rw [Hid]; unfold subR; rw [if_neg (fun h => hgb h.2)]
      clear hga hgb hgb'
      go_enter Tryd.func15, Tryd.ntmps15
      go_wp2_with fail
      refine GA.mono ?_
      rintro e w1 ⟨rfl, hb1⟩
      go_wp2_with fail
      refine (GB _).mono ?_
      rintro e w2 ⟨rfl, hb2⟩
      go_wp2
      go_ret2
      exact ⟨by rw [HR.out]; rfl, hb1.trans (hb2.mono hb1.size)⟩
  · have hga' : goodS a = false := by simpa using hga
    have GA := good_is hga' w
    have HR : Hid (subR a b = ([], 6)) := by rw [Hid]; unfold subR; rw [if_neg (fun h => hga h.1)]
    clear hga hga'
    go_enter Tryd.func15, Tryd.ntmps15
    go_wp2_with fail
    refine GA.mono ?_
    rintro e w1 ⟨rfl, hb1⟩
    go_wp2
    go_ret2
    exact ⟨by rw [HR.out]; rfl, hb1⟩

set_option maxHeartbeats 4000000 in
theorem mul_any (a b : List UInt8) (w : World) (hT : TabW w) : Calls Tryd.prog 12 #[str a, str b] w fun e w' => e = .returned (.tuple #[str (mulR a b).1, .int .i64 (mulR a b).2]) ∧ Below w.heap.size w w' := by
  by_cases hga : goodS a = true
  · by_cases hgb : goodS b = true
    · have GA := good_is hga w
      have GB := fun W => good_is hgb W
      have RA := fun W => read_good hga W
      have RB := fun W => read_good hgb W
      have HR : Hid (mulR a b = capR (valS a * valS b)) := by rw [Hid]; unfold mulR; rw [if_pos ⟨hga, hgb⟩]
      generalize valS a = za at RA HR
      generalize valS b = zb at RB HR
      have HT := Lib.hid hT
      clear hga hgb hT
      go_enter Tryd.func12, Tryd.ntmps12
      go_wp2_with fail
      refine GA.mono ?_
      rintro e w1 ⟨rfl, hb1⟩
      go_wp2_with fail
      refine (GB _).mono ?_
      rintro e w2 ⟨rfl, hb2⟩
      go_wp2_with fail
      refine (RA _).mono ?_
      rintro e w3 ⟨_, ba, xs, rfl, ⟨u3, rfl, hx3⟩, okx, hvx, hlx, hb3⟩
      go_wp2_with fail
      refine (RB _).mono ?_
      rintro e w4 ⟨_, bb, ys, rfl, ⟨u4, rfl, hy4⟩, oky, hvy, hly, hb4⟩
      have hx4 := hx3.mono hb4
      have hB4 : Below w.heap.size w w4 := ((hb1.trans (hb2.mono hb1.size)).trans (hb3.mono (by have := hb1.size; have := hb2.size; omega))).trans (hb4.mono (by have := hb1.size; have := hb2.size; have := hb3.size; omega))
      clear GA GB RA RB hb1 hb2 hb3 hb4 hx3
      go_wp2_with fail
      refine (times_any _ _ _ _ _ _ _ hx4 hy4 okx oky (by omega) (by omega)).mono ?_
      rintro e w6 ⟨_, bz, zs, rfl, ⟨uz, rfl, hz6⟩, okz, hvz, hlz, hb6⟩
      rw [hvx, hvy] at hvz
      have HZ := Lib.hid hz6
      have OKZ := Lib.hid okz
      have HVZ := Lib.hid hvz
      have HBZ : Hid (Below w.heap.size w w6) := hB4.trans (hb6.mono hB4.size)
      have hlz' : zs.length ≤ 300 := by omega
      clear hz6 okz hvz hb6 hlz hx4 hy4 okx oky hvx hvy hB4
      go_wp2_with fail
      refine (text_any _ _ _ _ HZ.out OKZ.out (by omega) (HT.out.mono HBZ.out)).mono ?_
      rintro e w7 ⟨rfl, hb7⟩
      have HF : Hid (capR (numV bz zs) = capR (za * zb)) := by rw [Hid, HVZ.out]
      go_wp2
      go_ret2
      exact ⟨by rw [HR.out, ← HF.out]; rfl, HBZ.out.trans (hb7.mono HBZ.out.size)⟩
    · have hgb' : goodS b = false := by simpa using hgb
      have GA := good_is hga w
      have GB := fun W => good_is hgb' W
      have HR : Hid (mulR a b = ([], 6)) := by rw [Hid]; unfold mulR; rw [if_neg (fun h => hgb h.2)]
      clear hga hgb hgb'
      go_enter Tryd.func12, Tryd.ntmps12
      go_wp2_with fail
      refine GA.mono ?_
      rintro e w1 ⟨rfl, hb1⟩
      go_wp2_with fail
      refine (GB _).mono ?_
      rintro e w2 ⟨rfl, hb2⟩
      go_wp2
      go_ret2
      exact ⟨by rw [HR.out]; rfl, hb1.trans (hb2.mono hb1.size)⟩
  · have hga' : goodS a = false := by simpa using hga
    have GA := good_is hga' w
    have HR : Hid (mulR a b = ([], 6)) := by rw [Hid]; unfold mulR; rw [if_neg (fun h => hga h.1)]
    clear hga hga'
    go_enter Tryd.func12, Tryd.ntmps12
    go_wp2_with fail
    refine GA.mono ?_
    rintro e w1 ⟨rfl, hb1⟩
    go_wp2
    go_ret2
    exact ⟨by rw [HR.out]; rfl, hb1⟩

end Go.Proofs.YtekpdmjobkikfaaDoor
