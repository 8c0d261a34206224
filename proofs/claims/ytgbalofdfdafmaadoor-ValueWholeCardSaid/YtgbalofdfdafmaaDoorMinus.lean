/- The walk of minus: the difference without signs. -/
import Derived.Test.YtgbalofdfdafmaaDoorPlus
namespace Go.Proofs.YtgbalofdfdafmaaDoor
open Go.RowKit
set_option maxRecDepth 100000

set_option maxHeartbeats 1600000 in
theorem minus_any (bx by_ : Bool) (vx vy : Value) (xs ys : List Nat) (w : World) (hx : LimbsAt w vx xs) (hy : LimbsAt w vy ys) (ox : okL xs) (oy : okL ys) (lx : xs.length ≤ 2000) (lyx : ys.length ≤ xs.length) (hle : valL ys ≤ valL xs) :
    Calls Tryd.prog 79 #[.agg #[.bool bx, vx], .agg #[.bool by_, vy]] w (LimbsPost (valL xs - valL ys) xs.length w) := by
  obtain ⟨ax, cx, rfl, _, _, _⟩ := hx.val
  obtain ⟨ay, cy, rfl, _, _, _⟩ := hy.val
  obtain ⟨i53, hi53, hz53, hs53, hy53⟩ := info_parts Tryd.info92
  obtain ⟨w0, hw0⟩ : ∃ w0, w0 = (w.alloc (.cells #[.bool bx, .slice ax xs.length cx] 78)).alloc (.cells #[.bool by_, .slice ay ys.length cy] 78) := ⟨_, rfl⟩
  have hs0 : w0.heap.size = w.heap.size + 2 := by rw [hw0]; simp
  have hb0 : Below w.heap.size w w0 := by rw [hw0]; exact ((Below.refl _ w).alloc (Nat.le_refl _) _).alloc (by simp) _
  have hx0 : w0.heap[w.heap.size]? = some (.cells #[.bool bx, .slice ax xs.length cx] 78 (0, 0)) := by
    rw [hw0]; exact (Below.heap_alloc _ _ _ (by simp)).trans (heap_alloc_new _ _)
  have hr0 : w0.heap[w.heap.size + 1]? = some (.cells #[.bool by_, .slice ay ys.length cy] 78 (0, 0)) := by
    have := heap_alloc_new (w.alloc (.cells #[.bool bx, .slice ax xs.length cx] 78)) (.cells #[.bool by_, .slice ay ys.length cy] 78)
    rw [hw0]
    rwa [show (w.alloc (.cells #[.bool bx, .slice ax xs.length cx] 78)).heap.size = w.heap.size + 1 by simp] at this
  have HX := Lib.hid hx
  have HY := Lib.hid hy
  have OX := Lib.hid ox
  have OY := Lib.hid oy
  clear hx hy ox oy
  obtain ⟨a0, a1, _, _⟩ := cell_box2 hx0
  obtain ⟨b0, b1, _, _⟩ := cell_box2 hr0
  have HLE := Lib.hid hle
  clear hle
  go_enter Tryd.func79, Tryd.ntmps79
  go_wp2_with (rw [← hw0])
  go_loopg [5, 6, 13] xs.length (fun g v5 v6 v13 wr => ∃ (k c : Nat) (out : List Nat), k + g = xs.length ∧ v13 = .int .i64 k ∧ v6 = .int .u64 c ∧ c ≤ 1 ∧ out.length = k ∧ okL out ∧ valL out + valL (ys.take k) = valL (xs.take k) + BB ^ k * c ∧ wr.ownsRow w0.heap.size 92 1 v5 out.length (limbs out) ∧ Below w0.heap.size w0 wr)
  case atStart => exact ⟨0, 0, [], by omega, rfl, rfl, by omega, rfl, okL_nil, by simp [valL], World.ownsRow_nil _ _ _ _, Below.refl _ _⟩
  case round =>
    obtain ⟨k, c, out, hkg, rfl, rfl, hc, hl, ho, hv, hown, hb⟩ := hrel
    obtain ⟨y0, y1, _, _⟩ := cell_box2 ((hb.block _ (by omega)).trans hx0)
    obtain ⟨z0, z1, _, _⟩ := cell_box2 ((hb.block _ (by omega)).trans hr0)
    have hB := hb0.trans (hb.mono hb0.size)
    have hBB : BB = 1000000000 := rfl
    cases gk with
    | zero =>
      have hkM : ¬ (k : Int) < (xs.length : Int) := by omega
      obtain rfl : k = xs.length := by omega
      have hend := minus_end hl ho lyx HLE.out hv
      have HEND : Hid (valL out = valL xs - valL ys) := by rw [Hid]; omega
      have HO := Lib.hid ho
      have hown' : LimbsAt wr u5 out := limbs_of_own hown (by omega)
      clear hend hv hx0 hr0 ho hown
      go_wp2
      go_ret
      exact ⟨_, out, rfl, hown', HO.out, HEND.out, by omega, hB⟩
    | succ g =>
      have hkM : (k : Int) < (xs.length : Int) := by omega
      have hst := minus_step hl ho OX.out OY.out hc hv
      have hX1 := okL_getD OX.out k
      have hY1 := okL_getD OY.out k
      obtain ⟨b1, o1, hax, hxc0, hcx0⟩ := HX.out.get (i := k) (by omega)
      have hcx := (hB.cell (p := ⟨b1, o1 + k, none⟩) hxc0).trans hcx0
      have hyc : k < ys.length → ∃ b off, ay = some ⟨b, off, none⟩ ∧ wr.cell? ⟨b, off + k, none⟩ = some (.int .u64 ((ys.getD k 0 : Nat) : Int)) := fun h => by
        obtain ⟨b, off, h1, h2, h3⟩ := HY.out.get h
        exact ⟨b, off, h1, (hB.cell (p := ⟨b, off + k, none⟩) h2).trans h3⟩
      have hyn : ¬ k < ys.length → ys.getD k 0 = 0 := fun h => by simp [List.getD, List.getElem?_eq_none (Nat.le_of_not_lt h)]
      have hcapx : xs.length ≤ cx := by obtain ⟨_, _, hv, _, h2, _⟩ := HX.out; cases hv; omega
      have hxc : True := trivial
      clear hcx0
      generalize xs.getD k 0 = X at hst hX1 hcx
      generalize ys.getD k 0 = Y at hst hY1 hyc hyn
      subst hax
      clear hv hx0 hr0 ho
      by_cases hky : k < ys.length
      · obtain ⟨b2, o2, hay, hcy⟩ := hyc hky
        have hky' : (k : Int) < (ys.length : Int) := by omega
        have hcapy : ys.length ≤ cy := by obtain ⟨_, _, hv, _, h2, _⟩ := HY.out; cases hv; omega
        subst hay
        by_cases hlt : X < c + Y
        · have HST := Lib.hid (hst.1 hlt)
          obtain ⟨r, hr⟩ : ∃ r, X + BB - (c + Y) = r := ⟨_, rfl⟩
          rw [hr] at HST
          have hlt' : (X : Int) < (c : Int) + (Y : Int) := by omega
          have hsub : (X : Int) + 1000000000 - ((c : Int) + (Y : Int)) = (r : Int) := by omega
          have hrb : r < 2147483648 := by omega
          clear hr hlt hst hxc hyc hyn hky
          go_wp2_with (at_builtin; refine wpList_append_fresh _ rfl (.tmp 36) (.tmp 40) 76 rfl w0.heap.size 92 i53 _ 1 8 Tryd.underlying76 hi53 hz53 hs53 hy53 rfl (by decide) _ _ _ rfl (hown.alloc _) ⟨wr.heap.size, 0, none⟩ 1 1 [.int .u64 (r : Int)] rfl rfl (cell_one_new _ _ _) ?a2 ?a3 ?a4 ?a5 ?_)
          case a2 => first | rfl | (intro u hu; simp at hu; subst hu; rfl)
          case a3 => unfold maxLen; omega
          case a4 => omega
          case a5 => have := hb.size; simp; omega
          intro v' w5 hown5 hgrow5 _
          have hown6 : w5.ownsRow w0.heap.size 92 1 v' (out ++ [r]).length (limbs (out ++ [r])) := by
            rw [limbs_snoc, List.length_append, hl, hs0]; exact hown5
          have hb5 : Below w0.heap.size w0 w5 := (hb.alloc hb.size _).grown hgrow5 (by have := hb.size; simp; omega) (fun k e => (hown.lt _ e).1)
          clear hown5 hgrow5 hown hb
          go_wp2
          go_roundg g
          case measure => omega
          case rel => exact ⟨k + 1, 1, out ++ [r], by omega, by go_num, by rfl, by omega, by rw [List.length_append, hl]; rfl, HST.out.1, HST.out.2, hown6, hb5⟩
        · have HST := Lib.hid (hst.2 hlt)
          obtain ⟨r, hr⟩ : ∃ r, X - (c + Y) = r := ⟨_, rfl⟩
          rw [hr] at HST
          have hlt' : ¬ (X : Int) < (c : Int) + (Y : Int) := by omega
          have hsub : (X : Int) - ((c : Int) + (Y : Int)) = (r : Int) := by omega
          have hrb : r < 2147483648 := by omega
          clear hr hlt hst hxc hyc hyn hky
          go_wp2_with (at_builtin; refine wpList_append_fresh _ rfl (.tmp 36) (.tmp 40) 76 rfl w0.heap.size 92 i53 _ 1 8 Tryd.underlying76 hi53 hz53 hs53 hy53 rfl (by decide) _ _ _ rfl (hown.alloc _) ⟨wr.heap.size, 0, none⟩ 1 1 [.int .u64 (r : Int)] rfl rfl (cell_one_new _ _ _) ?a2 ?a3 ?a4 ?a5 ?_)
          case a2 => first | rfl | (intro u hu; simp at hu; subst hu; rfl)
          case a3 => unfold maxLen; omega
          case a4 => omega
          case a5 => have := hb.size; simp; omega
          intro v' w5 hown5 hgrow5 _
          have hown6 : w5.ownsRow w0.heap.size 92 1 v' (out ++ [r]).length (limbs (out ++ [r])) := by
            rw [limbs_snoc, List.length_append, hl, hs0]; exact hown5
          have hb5 : Below w0.heap.size w0 w5 := (hb.alloc hb.size _).grown hgrow5 (by have := hb.size; simp; omega) (fun k e => (hown.lt _ e).1)
          clear hown5 hgrow5 hown hb
          go_wp2
          go_roundg g
          case measure => omega
          case rel => exact ⟨k + 1, 0, out ++ [r], by omega, by go_num, by rfl, by omega, by rw [List.length_append, hl]; rfl, HST.out.1, HST.out.2, hown6, hb5⟩
      · have hy00 := hyn hky
        have hky' : ¬ (k : Int) < (ys.length : Int) := by omega
        subst hy00
        by_cases hlt : X < c + 0
        · have HST := Lib.hid (hst.1 hlt)
          obtain ⟨r, hr⟩ : ∃ r, X + BB - (c + 0) = r := ⟨_, rfl⟩
          rw [hr] at HST
          have hlt' : (X : Int) < (c : Int) := by omega
          have hsub : (X : Int) + 1000000000 - ((c : Int)) = (r : Int) := by omega
          have hrb : r < 2147483648 := by omega
          clear hr hlt hst hxc hyc hyn hky
          go_wp2_with (at_builtin; refine wpList_append_fresh _ rfl (.tmp 36) (.tmp 40) 76 rfl w0.heap.size 92 i53 _ 1 8 Tryd.underlying76 hi53 hz53 hs53 hy53 rfl (by decide) _ _ _ rfl (hown.alloc _) ⟨wr.heap.size, 0, none⟩ 1 1 [.int .u64 (r : Int)] rfl rfl (cell_one_new _ _ _) ?a2 ?a3 ?a4 ?a5 ?_)
          case a2 => first | rfl | (intro u hu; simp at hu; subst hu; rfl)
          case a3 => unfold maxLen; omega
          case a4 => omega
          case a5 => have := hb.size; simp; omega
          intro v' w5 hown5 hgrow5 _
          have hown6 : w5.ownsRow w0.heap.size 92 1 v' (out ++ [r]).length (limbs (out ++ [r])) := by
            rw [limbs_snoc, List.length_append, hl, hs0]; exact hown5
          have hb5 : Below w0.heap.size w0 w5 := (hb.alloc hb.size _).grown hgrow5 (by have := hb.size; simp; omega) (fun k e => (hown.lt _ e).1)
          clear hown5 hgrow5 hown hb
          go_wp2
          go_roundg g
          case measure => omega
          case rel => exact ⟨k + 1, 1, out ++ [r], by omega, by go_num, by rfl, by omega, by rw [List.length_append, hl]; rfl, HST.out.1, HST.out.2, hown6, hb5⟩
        · have HST := Lib.hid (hst.2 hlt)
          obtain ⟨r, hr⟩ : ∃ r, X - (c + 0) = r := ⟨_, rfl⟩
          rw [hr] at HST
          have hlt' : ¬ (X : Int) < (c : Int) := by omega
          have hsub : (X : Int) - ((c : Int)) = (r : Int) := by omega
          have hrb : r < 2147483648 := by omega
          clear hr hlt hst hxc hyc hyn hky
          go_wp2_with (at_builtin; refine wpList_append_fresh _ rfl (.tmp 36) (.tmp 40) 76 rfl w0.heap.size 92 i53 _ 1 8 Tryd.underlying76 hi53 hz53 hs53 hy53 rfl (by decide) _ _ _ rfl (hown.alloc _) ⟨wr.heap.size, 0, none⟩ 1 1 [.int .u64 (r : Int)] rfl rfl (cell_one_new _ _ _) ?a2 ?a3 ?a4 ?a5 ?_)
          case a2 => first | rfl | (intro u hu; simp at hu; subst hu; rfl)
          case a3 => unfold maxLen; omega
          case a4 => omega
          case a5 => have := hb.size; simp; omega
          intro v' w5 hown5 hgrow5 _
          have hown6 : w5.ownsRow w0.heap.size 92 1 v' (out ++ [r]).length (limbs (out ++ [r])) := by
            rw [limbs_snoc, List.length_append, hl, hs0]; exact hown5
          have hb5 : Below w0.heap.size w0 w5 := (hb.alloc hb.size _).grown hgrow5 (by have := hb.size; simp; omega) (fun k e => (hown.lt _ e).1)
          clear hown5 hgrow5 hown hb
          go_wp2
          go_roundg g
          case measure => omega
          case rel => exact ⟨k + 1, 0, out ++ [r], by omega, by go_num, by rfl, by omega, by rw [List.length_append, hl]; rfl, HST.out.1, HST.out.2, hown6, hb5⟩

end Go.Proofs.YtgbalofdfdafmaaDoor
