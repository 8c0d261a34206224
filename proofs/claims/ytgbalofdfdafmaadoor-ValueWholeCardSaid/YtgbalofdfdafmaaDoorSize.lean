/- The walk of size: big numbers compared without signs. -/
import Derived.Test.YtgbalofdfdafmaaDoorTrim
namespace Go.Proofs.YtgbalofdfdafmaaDoor
open Go.RowKit
set_option maxRecDepth 100000

theorem cmp_lt {a b : Nat} (h : a < b) : cmpN a b = -1 := by unfold cmpN; rw [if_pos h]
theorem cmp_eq (a : Nat) : cmpN a a = 0 := by unfold cmpN; rw [if_neg (by omega), if_pos rfl]
theorem cmp_gt {a b : Nat} (h : b < a) : cmpN a b = 1 := by unfold cmpN; rw [if_neg (by omega), if_neg (by omega)]

theorem compare_int (x y : Nat) (w : World) : Calls Tryd.prog 46 #[.int .i64 x, .int .i64 y] w fun e w' => e = .returned (.int .i64 (cmpN x y)) ∧ w' = w := by
  rcases Nat.lt_trichotomy x y with h | h | h
  · rw [cmp_lt h]
    have h1 : (x : Int) < (y : Int) := by omega
    go_enter Tryd.func46, Tryd.ntmps46
    go_wp2
    go_ret
    exact ⟨rfl, rfl⟩
  · subst h
    rw [cmp_eq]
    go_enter Tryd.func46, Tryd.ntmps46
    go_wp2
    go_ret
    exact ⟨rfl, rfl⟩
  · rw [cmp_gt h]
    have h1 : (y : Int) < (x : Int) := by omega
    have h2 : ¬ (x : Int) < (y : Int) := by omega
    go_enter Tryd.func46, Tryd.ntmps46
    go_wp2
    go_ret
    exact ⟨rfl, rfl⟩
theorem compare_u64 (x y : Nat) (w : World) : Calls Tryd.prog 87 #[.int .u64 x, .int .u64 y] w fun e w' => e = .returned (.int .i64 (cmpN x y)) ∧ w' = w := by
  rcases Nat.lt_trichotomy x y with h | h | h
  · rw [cmp_lt h]
    have h1 : (x : Int) < (y : Int) := by omega
    go_enter Tryd.func87, Tryd.ntmps87
    go_wp2
    go_ret
    exact ⟨rfl, rfl⟩
  · subst h
    rw [cmp_eq]
    go_enter Tryd.func87, Tryd.ntmps87
    go_wp2
    go_ret
    exact ⟨rfl, rfl⟩
  · rw [cmp_gt h]
    have h1 : (y : Int) < (x : Int) := by omega
    have h2 : ¬ (x : Int) < (y : Int) := by omega
    go_enter Tryd.func87, Tryd.ntmps87
    go_wp2
    go_ret
    exact ⟨rfl, rfl⟩

set_option maxHeartbeats 1600000 in
theorem size_any (bx by_ : Bool) (vx vy : Value) (xs ys : List Nat) (w : World) (hx : LimbsAt w vx xs) (hy : LimbsAt w vy ys) (ox : okL xs) (oy : okL ys) (tx : isTrim xs) (ty : isTrim ys) :
    Calls Tryd.prog 78 #[.agg #[.bool bx, vx], .agg #[.bool by_, vy]] w fun e w' => e = .returned (.int .i64 (cmpN (valL xs) (valL ys))) ∧ Below w.heap.size w w' := by
  obtain ⟨ax, cx, rfl, lx, _, _⟩ := hx.val
  obtain ⟨ay, cy, rfl, ly, _, _⟩ := hy.val
  obtain ⟨w0, hw0⟩ : ∃ w0, w0 = (w.alloc (.cells #[.bool bx, .slice ax xs.length cx] 78)).alloc (.cells #[.bool by_, .slice ay ys.length cy] 78) := ⟨_, rfl⟩
  have hs0 : w0.heap.size = w.heap.size + 2 := by rw [hw0]; simp
  have hb0 : Below w.heap.size w w0 := by rw [hw0]; exact ((Below.refl _ w).alloc (Nat.le_refl _) _).alloc (by simp) _
  have hx0 : w0.heap[w.heap.size]? = some (.cells #[.bool bx, .slice ax xs.length cx] 78 (0, 0)) := by
    rw [hw0]; exact (Below.heap_alloc _ _ _ (by simp)).trans (heap_alloc_new _ _)
  have hr0 : w0.heap[w.heap.size + 1]? = some (.cells #[.bool by_, .slice ay ys.length cy] 78 (0, 0)) := by
    have := heap_alloc_new (w.alloc (.cells #[.bool bx, .slice ax xs.length cx] 78)) (.cells #[.bool by_, .slice ay ys.length cy] 78)
    rw [hw0]
    rwa [show (w.alloc (.cells #[.bool bx, .slice ax xs.length cx] 78)).heap.size = w.heap.size + 1 by simp] at this
  have HX := Lib.hid hx
  have HY := Lib.hid hy
  have OX := Lib.hid ox
  have OY := Lib.hid oy
  have TX := Lib.hid tx
  have TY := Lib.hid ty
  obtain ⟨a0, a1, _, _⟩ := cell_box2 hx0
  obtain ⟨b0, b1, _, _⟩ := cell_box2 hr0
  have CI := compare_int xs.length ys.length w0
  clear hx hy ox oy tx ty
  by_cases hl : xs.length = ys.length
  · rw [hl, cmp_eq] at CI
    have HL := Lib.hid hl
    have CU := compare_u64
    go_enter Tryd.func78, Tryd.ntmps78
    rw [hl] at hw0 hx0 a1 ⊢
    clear hl
    go_wp2_with (rw [← hw0])
    refine CI.mono ?_
    rintro e w1 ⟨rfl, rfl⟩
    clear CI CU hw0
    go_wp2
    go_loopg [6] ys.length (fun g v6 wr => g ≤ ys.length ∧ v6 = .int .i64 ((g : Int) - 1) ∧ xs.drop g = ys.drop g ∧ Below w1.heap.size w1 wr)
    case atStart => exact ⟨Nat.le_refl _, rfl, by rw [List.drop_of_length_le (Nat.le_refl _), List.drop_of_length_le (by rw [HL.out]; exact Nat.le_refl _)], Below.refl _ _⟩
    case round =>
      obtain ⟨hg, rfl, hd, hb⟩ := hrel
      obtain ⟨y0, y1, _, _⟩ := cell_box2 ((hb.block _ (by omega)).trans hx0)
      obtain ⟨z0, z1, _, _⟩ := cell_box2 ((hb.block _ (by omega)).trans hr0)
      have hB := hb0.trans (hb.mono hb0.size)
      cases gk with
      | zero =>
        have hxy : xs = ys := by simpa using hd
        have HXY : Hid (cmpN (valL xs) (valL ys) = 0) := by rw [Hid, hxy, cmp_eq]
        clear hxy hd hx0 hr0
        go_wp2
        go_ret
        exact ⟨by rw [HXY.out]; rfl, hB⟩
      | succ g =>
        have hge : (0 : Int) ≤ ((g + 1 : Nat) : Int) - 1 := by omega
        have e1 : ((g + 1 : Nat) : Int) - 1 = (g : Int) := by omega
        obtain ⟨b1, o1, hax, hl1, hc1⟩ := HX.out.get (i := g) (by rw [HL.out]; omega)
        obtain ⟨b2, o2, hay, hl2, hc2⟩ := HY.out.get (i := g) (by omega)
        have hcx := (hB.cell (p := ⟨b1, o1 + g, none⟩) hl1).trans hc1
        have hcy := (hB.cell (p := ⟨b2, o2 + g, none⟩) hl2).trans hc2
        have hcapx : xs.length ≤ cx := by obtain ⟨_, _, hv, _, h2, _⟩ := HX.out; cases hv; omega
        have hcapy : ys.length ≤ cy := by obtain ⟨_, _, hv, _, h2, _⟩ := HY.out; cases hv; omega
        rw [HL.out] at hcapx
        have hdx := drop_cons (l := xs) (i := g) (by rw [HL.out]; omega)
        have hdy := drop_cons (l := ys) (i := g) (by omega)
        have hlt1 : Hid (xs.getD g 0 < ys.getD g 0 → cmpN (valL xs) (valL ys) = -1) := fun h => cmp_lt (limb_lt OX.out HL.out (by rw [HL.out]; omega) hd h)
        have hlt2 : Hid (ys.getD g 0 < xs.getD g 0 → cmpN (valL xs) (valL ys) = 1) := fun h => cmp_gt (limb_lt OY.out HL.out.symm (by omega) hd.symm h)
        have hnx : Hid (xs.getD g 0 = ys.getD g 0 → xs.drop g = ys.drop g) := fun h => by rw [hdx, hdy, h, hd]
        generalize xs.getD g 0 = X at hcx hlt1 hlt2 hnx
        generalize ys.getD g 0 = Y at hcy hlt1 hlt2 hnx
        have hgm : (g : Int) < (ys.length : Int) := by omega
        subst hax hay
        clear hc1 hc2 hdx hdy hd hx0 hr0
        rw [e1]
        rcases Nat.lt_trichotomy X Y with h | h | h
        · have HR := Lib.hid (hlt1.out h)
          have CU : ∀ nq, Calls Tryd.prog 87 #[.int .u64 X, .int .u64 Y] (wr.drewN nq) fun e w' => e = .returned (.int .i64 (-1)) ∧ w' = wr.drewN nq := fun nq => by
            have := compare_u64 X Y (wr.drewN nq)
            rw [cmp_lt h] at this
            exact this
          clear h hlt1 hlt2 hnx
          go_wp2_with (go_quiet ((go_at_call 87; refine Calls.quiet_of_same (CU _))))
          go_ret
          exact ⟨by rw [HR.out]; rfl, below_drewN hB _⟩
        · have HR := Lib.hid (hnx.out h)
          subst h
          have CU : ∀ nq, Calls Tryd.prog 87 #[.int .u64 X, .int .u64 X] (wr.drewN nq) fun e w' => e = .returned (.int .i64 0) ∧ w' = wr.drewN nq := fun nq => by
            have := compare_u64 X X (wr.drewN nq)
            rw [cmp_eq] at this
            exact this
          clear hlt1 hlt2 hnx
          go_wp2_with (go_quiet ((go_at_call 87; refine Calls.quiet_of_same (CU _))))
          go_roundg g
          case measure => omega
          case rel => exact ⟨by omega, by go_num, HR.out, below_drewN hb _⟩
        · have HR := Lib.hid (hlt2.out h)
          have CU : ∀ nq, Calls Tryd.prog 87 #[.int .u64 X, .int .u64 Y] (wr.drewN nq) fun e w' => e = .returned (.int .i64 1) ∧ w' = wr.drewN nq := fun nq => by
            have := compare_u64 X Y (wr.drewN nq)
            rw [cmp_gt h] at this
            exact this
          clear h hlt1 hlt2 hnx
          go_wp2_with (go_quiet ((go_at_call 87; refine Calls.quiet_of_same (CU _))))
          go_ret
          exact ⟨by rw [HR.out]; rfl, below_drewN hB _⟩
  · have hres : cmpN (valL xs) (valL ys) = cmpN xs.length ys.length := by
      rcases Nat.lt_or_gt_of_ne hl with h | h
      · rw [cmp_lt h, cmp_lt (len_lt OX.out TY.out h)]
      · rw [cmp_gt h, cmp_gt (len_lt OY.out TX.out h)]
    rw [hres]
    have hne : (cmpN xs.length ys.length != 0) = true := by
      rcases Nat.lt_or_gt_of_ne hl with h | h
      · rw [cmp_lt h]; rfl
      · rw [cmp_gt h]; rfl
    have hne' : ¬ cmpN xs.length ys.length = 0 := by simpa using hne
    generalize cmpN xs.length ys.length = z at CI hne hne'
    clear hres hl hx0 hr0
    go_enter Tryd.func78, Tryd.ntmps78
    go_wp2_with (rw [← hw0])
    refine CI.mono ?_
    rintro e w1 ⟨rfl, rfl⟩
    clear CI hw0
    go_wp2
    go_ret
    exact ⟨rfl, hb0⟩

end Go.Proofs.YtgbalofdfdafmaaDoor
