/- The walk of Cmp. -/
import Derived.Test.YtgbalofdfdafmaaDoorNumB
namespace Go.Proofs.YtgbalofdfdafmaaDoor
open Go.RowKit
set_option maxRecDepth 100000
attribute [local go_sem] str_size str_toList str_get

theorem sgn_num {b : Bool} {zs : List Nat} (ok : bigOk b zs) : (zs.length = 0 → sgn (numV b zs) = 0) ∧ (¬ zs.length = 0 → b = true → sgn (numV b zs) = -1) ∧ (¬ zs.length = 0 → b = false → sgn (numV b zs) = 1) := by
  have hp : ¬ zs.length = 0 → 0 < valL zs := fun h => Nat.pos_of_ne_zero fun e => h (by rw [(trim_nil ok.2.1).2 e]; rfl)
  refine ⟨fun h => ?_, fun h hb => ?_, fun h hb => ?_⟩
  · have : zs = [] := List.eq_nil_of_length_eq_zero h
    subst this
    cases b <;> rfl
  · have := hp h
    unfold numV sgn
    rw [if_pos hb, if_pos (by omega)]
  · have := hp h
    unfold numV sgn
    rw [hb]
    simp
    omega

set_option maxHeartbeats 4000000 in
theorem cmp_any (a b : List UInt8) (w : World) (hT : TabW w) : Calls Tryd.prog 48 #[str a, str b] w fun e w' => e = .returned (.int .i64 (cmpR a b)) ∧ Below w.heap.size w w' := by
  by_cases hga : goodS a = true
  · by_cases hgb : goodS b = true
    · have GA := good_is hga w
      have GB := fun W => good_is hgb W
      have RA := fun W => read_good hga W
      have RB := fun W => read_good hgb W
      have HR : Hid (cmpR a b = sgn (valS a - valS b)) := by rw [Hid]; unfold cmpR; rw [if_pos ⟨hga, hgb⟩]
      generalize valS a = za at RA HR
      generalize valS b = zb at RB HR
      have HT := Lib.hid hT
      clear hga hgb hT
      go_enter Tryd.func48, Tryd.ntmps48
      go_wp2_with fail
      refine GA.mono ?_
      rintro e w1 ⟨rfl, hb1⟩
      go_wp2_with fail
      refine (GB _).mono ?_
      rintro e w2 ⟨rfl, hb2⟩
      go_wp2_with fail
      refine (RA _).mono ?_
      rintro e w3 ⟨_, ba, xs, rfl, ⟨u3, rfl, hx3⟩, okx, hvx, hlx, hb3⟩
      go_wp2_with fail
      refine (RB _).mono ?_
      rintro e w4 ⟨_, bb, ys, rfl, ⟨u4, rfl, hy4⟩, oky, hvy, hly, hb4⟩
      have hx4 := hx3.mono hb4
      have hB4 : Below w.heap.size w w4 := ((hb1.trans (hb2.mono hb1.size)).trans (hb3.mono (by have := hb1.size; have := hb2.size; omega))).trans (hb4.mono (by have := hb1.size; have := hb2.size; have := hb3.size; omega))
      clear GA GB RA RB hb1 hb2 hb3 hb4 hx3
      go_wp2_with fail
      refine (turned_big bb _ ys _ hy4 oky).mono ?_
      rintro e w5 ⟨_, bt, ts, rfl, ⟨ut, rfl, ht5⟩, okt, hvt, hlt, hb5⟩
      have hx5 := hx4.mono hb5
      have hB5 : Below w.heap.size w w5 := hB4.trans (hb5.mono hB4.size)
      rw [hvy] at hvt
      clear hx4 hy4 oky hvy hB4 hb5
      go_wp2_with fail
      refine (sum_any _ _ _ _ _ _ _ hx5 ht5 okx okt (by omega) (by omega)).mono ?_
      rintro e w6 ⟨_, bz, zs, rfl, ⟨uz, rfl, hz6⟩, okz, hvz, hlz, hb6⟩
      rw [hvx, hvt, ← Int.sub_eq_add_neg] at hvz
      have HZ := Lib.hid hz6
      have OKZ := Lib.hid okz
      have HVZ := Lib.hid hvz
      have HBZ : Hid (Below w.heap.size w w6) := hB5.trans (hb6.mono hB5.size)
      have hlz' : zs.length ≤ 300 := by omega
      clear hz6 okz hvz hb6 hlz hx5 ht5 okx okt hvx hvt hB5
      obtain ⟨az, cz, rfl, _, _, _⟩ := HZ.out.val
      obtain ⟨w7, hw7⟩ : ∃ w7, w7 = w6.alloc (.cells #[.bool bz, .slice az zs.length cz] 78) := ⟨_, rfl⟩
      have hd7 : w7.heap[w6.heap.size]? = some (.cells #[.bool bz, .slice az zs.length cz] 78 (0, 0)) := by rw [hw7]; exact heap_alloc_new _ _
      have HB7 : Hid (Below w.heap.size w w7) := by rw [Hid, hw7]; exact HBZ.out.alloc HBZ.out.size _
      obtain ⟨y0, y1, _, _⟩ := cell_box2 hd7
      have hsg := sgn_num OKZ.out
      rw [HVZ.out] at hsg
      have HW7 := Lib.hid hw7
      clear hd7 hw7
      by_cases hz0 : zs.length = 0
      · have hz0' : (zs.length : Int) = 0 := by omega
        have HS := Lib.hid (hsg.1 hz0)
        rw [hz0] at y1 HW7 ⊢
        clear hz0 hz0' hsg
        go_upto_region 4 with fail
        rw [show _ = w7 from HW7.out.symm]
        go_wp2
        go_ret
        exact ⟨by rw [HR.out, HS.out]; rfl, HB7.out⟩
      · have hz0' : ¬ (zs.length : Int) = 0 := by omega
        cases bz with
        | true =>
          have HS := Lib.hid (hsg.2.1 hz0 rfl)
          clear hz0 hsg
          go_upto_region 4 with fail
          rw [show _ = w7 from HW7.out.symm]
          go_wp2
          go_ret
          exact ⟨by rw [HR.out, HS.out]; rfl, HB7.out⟩
        | false =>
          have HS := Lib.hid (hsg.2.2 hz0 rfl)
          clear hz0 hsg
          go_upto_region 4 with fail
          rw [show _ = w7 from HW7.out.symm]
          go_wp2
          go_ret
          exact ⟨by rw [HR.out, HS.out]; rfl, HB7.out⟩
    · have hgb' : goodS b = false := by simpa using hgb
      have GA := good_is hga w
      have GB := fun W => good_is hgb' W
      have HR : Hid (cmpR a b = 0) := by rw [Hid]; unfold cmpR; rw [if_neg (fun h => hgb h.2)]
      clear hga hgb hgb'
      go_enter Tryd.func48, Tryd.ntmps48
      go_wp2_with fail
      refine GA.mono ?_
      rintro e w1 ⟨rfl, hb1⟩
      go_wp2_with fail
      refine (GB _).mono ?_
      rintro e w2 ⟨rfl, hb2⟩
      go_wp2
      go_ret
      exact ⟨by rw [HR.out]; rfl, hb1.trans (hb2.mono hb1.size)⟩
  · have hga' : goodS a = false := by simpa using hga
    have GA := good_is hga' w
    have HR : Hid (cmpR a b = 0) := by rw [Hid]; unfold cmpR; rw [if_neg (fun h => hga h.1)]
    clear hga hga'
    go_enter Tryd.func48, Tryd.ntmps48
    go_wp2_with fail
    refine GA.mono ?_
    rintro e w1 ⟨rfl, hb1⟩
    go_wp2
    go_ret
    exact ⟨by rw [HR.out]; rfl, hb1⟩

end Go.Proofs.YtgbalofdfdafmaaDoor
