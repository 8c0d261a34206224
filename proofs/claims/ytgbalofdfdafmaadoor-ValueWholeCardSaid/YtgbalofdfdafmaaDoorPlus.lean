/- The walk of plus: the sum without signs. -/
import Derived.Test.YtgbalofdfdafmaaDoorTrim
import Derived.Test.YtgbalofdfdafmaaDoorApp
namespace Go.Proofs.YtgbalofdfdafmaaDoor
open Go.RowKit
set_option maxRecDepth 100000

/-- What a call that makes limbs leaves: their worth. -/
def LimbsPost (v : Nat) (top : Nat) (w : World) (e : Ending) (w' : World) : Prop := ∃ u zs, e = .returned u ∧ LimbsAt w' u zs ∧ okL zs ∧ valL zs = v ∧ zs.length ≤ top ∧ Below w.heap.size w w'

set_option maxHeartbeats 1600000 in
theorem plus_any (bx by_ : Bool) (vx vy : Value) (xs ys : List Nat) (w : World) (hx : LimbsAt w vx xs) (hy : LimbsAt w vy ys) (ox : okL xs) (oy : okL ys) (lx : xs.length ≤ 2000) (ly : ys.length ≤ 2000) :
    Calls Tryd.prog 76 #[.agg #[.bool bx, vx], .agg #[.bool by_, vy]] w (LimbsPost (valL xs + valL ys) (max xs.length ys.length + 1) w) := by
  obtain ⟨ax, cx, rfl, _, _, _⟩ := hx.val
  obtain ⟨ay, cy, rfl, _, _, _⟩ := hy.val
  obtain ⟨i53, hi53, hz53, hs53, hy53⟩ := info_parts Tryd.info92
  obtain ⟨w0, hw0⟩ : ∃ w0, w0 = (w.alloc (.cells #[.bool bx, .slice ax xs.length cx] 78)).alloc (.cells #[.bool by_, .slice ay ys.length cy] 78) := ⟨_, rfl⟩
  have hs0 : w0.heap.size = w.heap.size + 2 := by rw [hw0]; simp
  have hb0 : Below w.heap.size w w0 := by rw [hw0]; exact ((Below.refl _ w).alloc (Nat.le_refl _) _).alloc (by simp) _
  have hx0 : w0.heap[w.heap.size]? = some (.cells #[.bool bx, .slice ax xs.length cx] 78 (0, 0)) := by
    rw [hw0]; exact (Below.heap_alloc _ _ _ (by simp)).trans (heap_alloc_new _ _)
  have hr0 : w0.heap[w.heap.size + 1]? = some (.cells #[.bool by_, .slice ay ys.length cy] 78 (0, 0)) := by
    have := heap_alloc_new (w.alloc (.cells #[.bool bx, .slice ax xs.length cx] 78)) (.cells #[.bool by_, .slice ay ys.length cy] 78)
    rw [hw0]
    rwa [show (w.alloc (.cells #[.bool bx, .slice ax xs.length cx] 78)).heap.size = w.heap.size + 1 by simp] at this
  have HX := Lib.hid hx
  have HY := Lib.hid hy
  have OX := Lib.hid ox
  have OY := Lib.hid oy
  clear hx hy ox oy
  obtain ⟨M, hM⟩ : ∃ M, M = max xs.length ys.length := ⟨_, rfl⟩
  obtain ⟨a0, a1, _, _⟩ := cell_box2 hx0
  obtain ⟨b0, b1, _, _⟩ := cell_box2 hr0
  go_enter Tryd.func76, Tryd.ntmps76
  go_upto_region 3 with (rw [← hw0])
  clear hw0
  go_cut [14, 15] from 8 (fun s14 s15 wx => s14 = .int .i64 (M : Nat) ∧ s15 = .int .i64 0 ∧ wx = w0)
  case first =>
    by_cases hlt : xs.length < ys.length
    · have hm : M = ys.length := by omega
      go_wp2
      go_meet
      exact ⟨by rw [hm], rfl, rfl⟩
    · have hm : M = xs.length := by omega
      go_wp2
      go_meet
      exact ⟨by rw [hm], rfl, rfl⟩
  case rest =>
    obtain ⟨rfl, rfl, rfl⟩ := hcut
    have hxM : xs.length ≤ M := by omega
    have hyM : ys.length ≤ M := by omega
    have HM := Lib.hid hM
    have hM4 : M ≤ 2000 := by omega
    clear hM
    go_wp2
    go_loopg [5, 6, 15] M (fun g v5 v6 v15 wr => ∃ (k c : Nat) (out : List Nat), k + g = M ∧ v15 = .int .i64 k ∧ v6 = .int .u64 c ∧ c ≤ 1 ∧ out.length = k ∧ okL out ∧ valL out + BB ^ k * c = valL (xs.take k) + valL (ys.take k) ∧ wr.ownsRow wc.heap.size 92 1 v5 out.length (limbs out) ∧ Below wc.heap.size wc wr)
    case atStart => exact ⟨0, 0, [], by omega, rfl, rfl, by omega, rfl, okL_nil, by simp [valL], World.ownsRow_nil _ _ _ _, Below.refl _ _⟩
    case round =>
      obtain ⟨k, c, out, hkg, rfl, rfl, hc, hl, ho, hv, hown, hb⟩ := hrel
      obtain ⟨y0, y1, _, _⟩ := cell_box2 ((hb.block _ (by omega)).trans hx0)
      obtain ⟨z0, z1, _, _⟩ := cell_box2 ((hb.block _ (by omega)).trans hr0)
      have hB := hb0.trans (hb.mono hb0.size)
      cases gk with
      | zero =>
        have hkM : ¬ (k : Int) < (M : Int) := by omega
        have hend := plus_end hl ho hc (show xs.length ≤ k by omega) (show ys.length ≤ k by omega) hv
        have HEND := Lib.hid hend
        have hln : out.length + 1 ≤ max xs.length ys.length + 1 := by have := HM.out; omega
        have hl4 : out.length ≤ 2000 := by omega
        clear hend hv hx0 hr0 ho
        go_wp2_with (at_builtin; refine wpList_append_fresh _ rfl (.tmp 50) (.tmp 52) 76 rfl wc.heap.size 92 i53 _ 1 8 Tryd.underlying76 hi53 hz53 hs53 hy53 rfl (by decide) _ _ _ rfl (hown.alloc _) ⟨wr.heap.size, 0, none⟩ 1 1 [.int .u64 (c : Int)] rfl rfl (cell_one_new _ _ _) ?e2 ?e3 ?e4 ?e5 ?_)
        case e2 => first | rfl | (intro u hu; simp at hu; subst hu; rfl)
        case e3 => unfold maxLen; omega
        case e4 => omega
        case e5 => have := hb.size; simp; omega
        intro v' w5 hown5 hgrow5 _
        have hown6 : w5.ownsRow wc.heap.size 92 1 v' (out ++ [c]).length (limbs (out ++ [c])) := by
          rw [limbs_snoc, List.length_append, hl, hs0]; exact hown5
        have hb5 : Below wc.heap.size wc w5 := (hb.alloc hb.size _).grown hgrow5 (by have := hb.size; simp; omega) (fun k e => (hown.lt _ e).1)
        have hB5 := hb0.trans (hb5.mono hb0.size)
        clear hown5 hgrow5 hown hb
        go_wp2
        go_ret
        exact ⟨_, out ++ [c], rfl, limbs_of_own hown6 (by rw [List.length_append, List.length_singleton]; omega), HEND.out.1, HEND.out.2, by rw [List.length_append, List.length_singleton]; exact hln, hB5⟩
      | succ g =>
        have hkM : (k : Int) < (M : Int) := by omega
        have hBB : BB = 1000000000 := rfl
        have hst := plus_step hl ho OX.out OY.out hc hv
        have hX1 := okL_getD OX.out k
        have hY1 := okL_getD OY.out k
        have hxc : k < xs.length → ∃ b off, ax = some ⟨b, off, none⟩ ∧ wr.cell? ⟨b, off + k, none⟩ = some (.int .u64 ((xs.getD k 0 : Nat) : Int)) := fun h => by
          obtain ⟨b, off, h1, h2, h3⟩ := HX.out.get h
          exact ⟨b, off, h1, (hB.cell (p := ⟨b, off + k, none⟩) h2).trans h3⟩
        have hyc : k < ys.length → ∃ b off, ay = some ⟨b, off, none⟩ ∧ wr.cell? ⟨b, off + k, none⟩ = some (.int .u64 ((ys.getD k 0 : Nat) : Int)) := fun h => by
          obtain ⟨b, off, h1, h2, h3⟩ := HY.out.get h
          exact ⟨b, off, h1, (hB.cell (p := ⟨b, off + k, none⟩) h2).trans h3⟩
        have hxn : ¬ k < xs.length → xs.getD k 0 = 0 := fun h => by simp [List.getD, List.getElem?_eq_none (Nat.le_of_not_lt h)]
        have hyn : ¬ k < ys.length → ys.getD k 0 = 0 := fun h => by simp [List.getD, List.getElem?_eq_none (Nat.le_of_not_lt h)]
        generalize xs.getD k 0 = X at hst hX1 hxc hxn
        generalize ys.getD k 0 = Y at hst hY1 hyc hyn
        have HST := Lib.hid hst
        clear hst hv hx0 hr0
        by_cases hkx : k < xs.length
        · by_cases hky : k < ys.length
          · obtain ⟨b1, o1, hax, hcx⟩ := hxc hkx
            have hkx' : (k : Int) < (xs.length : Int) := by omega
            have hcapx : xs.length ≤ cx := by obtain ⟨_, _, hv, _, h2, _⟩ := HX.out; cases hv; omega
            subst hax
            obtain ⟨b2, o2, hay, hcy⟩ := hyc hky
            have hky' : (k : Int) < (ys.length : Int) := by omega
            have hcapy : ys.length ≤ cy := by obtain ⟨_, _, hv, _, h2, _⟩ := HY.out; cases hv; omega
            subst hay
            clear hxc hyc hxn hyn hkx hky
            have hsb : (c + X + Y) < 2147483648 := by omega
            go_upto_region 10 with fail
            rw [show (c : Int) + (X : Int) + (Y : Int) = ((c + X + Y : Nat) : Int) by omega]
            generalize (c + X + Y) = s at HST hsb ⊢
            obtain ⟨r, hr⟩ : ∃ r, s % BB = r := ⟨_, rfl⟩
            obtain ⟨d, hd⟩ : ∃ d, s / BB = d := ⟨_, rfl⟩
            have hmod : ((s : Nat) : Int).tmod 1000000000 = (r : Int) := by rw [← hr, Int.tmod_eq_emod_of_nonneg (by omega)]; rfl
            have hquo : ((s : Nat) : Int).tdiv 1000000000 = (d : Int) := by rw [← hd, Int.tdiv_eq_ediv_of_nonneg (by omega)]; rfl
            have hrb : r < 1000000000 := by rw [← hr]; exact Nat.mod_lt _ (by decide)
            have hdb : d < 2147483648 := by rw [← hd]; exact Nat.lt_of_le_of_lt (Nat.div_le_self _ _) hsb
            rw [hr, hd] at HST
            clear hr hd
            go_wp2_with (at_builtin; refine wpList_append_fresh _ rfl (.tmp 42) (.tmp 45) 76 rfl wc.heap.size 92 i53 _ 1 8 Tryd.underlying76 hi53 hz53 hs53 hy53 rfl (by decide) _ _ _ rfl (hown.alloc _) ⟨wr.heap.size, 0, none⟩ 1 1 [.int .u64 (r : Int)] rfl rfl (cell_one_new _ _ _) ?a2 ?a3 ?a4 ?a5 ?_)
            case a2 => first | rfl | (intro u hu; simp at hu; subst hu; rfl)
            case a3 => unfold maxLen; omega
            case a4 => omega
            case a5 => have := hb.size; simp; omega
            intro v' w5 hown5 hgrow5 _
            have hown6 : w5.ownsRow wc.heap.size 92 1 v' (out ++ [r]).length (limbs (out ++ [r])) := by
              rw [limbs_snoc, List.length_append, hl, hs0]; exact hown5
            have hb5 : Below wc.heap.size wc w5 := (hb.alloc hb.size _).grown hgrow5 (by have := hb.size; simp; omega) (fun k e => (hown.lt _ e).1)
            clear hown5 hgrow5 hown hb
            go_wp2
            go_roundg g
            case measure => omega
            case rel => exact ⟨k + 1, d, out ++ [r], by omega, by go_num, by go_num, HST.out.2.1, by rw [List.length_append, hl]; rfl, HST.out.1, HST.out.2.2, hown6, hb5⟩
          · obtain ⟨b1, o1, hax, hcx⟩ := hxc hkx
            have hkx' : (k : Int) < (xs.length : Int) := by omega
            have hcapx : xs.length ≤ cx := by obtain ⟨_, _, hv, _, h2, _⟩ := HX.out; cases hv; omega
            subst hax
            have hy00 := hyn hky
            have hky' : ¬ (k : Int) < (ys.length : Int) := by omega
            subst hy00
            clear hxc hyc hxn hyn hkx hky
            rw [show c + X + 0 = c + X by omega] at HST
            have hsb : (c + X) < 2147483648 := by omega
            go_upto_region 10 with fail
            rw [show (c : Int) + (X : Int) = ((c + X : Nat) : Int) by omega]
            generalize (c + X) = s at HST hsb ⊢
            obtain ⟨r, hr⟩ : ∃ r, s % BB = r := ⟨_, rfl⟩
            obtain ⟨d, hd⟩ : ∃ d, s / BB = d := ⟨_, rfl⟩
            have hmod : ((s : Nat) : Int).tmod 1000000000 = (r : Int) := by rw [← hr, Int.tmod_eq_emod_of_nonneg (by omega)]; rfl
            have hquo : ((s : Nat) : Int).tdiv 1000000000 = (d : Int) := by rw [← hd, Int.tdiv_eq_ediv_of_nonneg (by omega)]; rfl
            have hrb : r < 1000000000 := by rw [← hr]; exact Nat.mod_lt _ (by decide)
            have hdb : d < 2147483648 := by rw [← hd]; exact Nat.lt_of_le_of_lt (Nat.div_le_self _ _) hsb
            rw [hr, hd] at HST
            clear hr hd
            go_wp2_with (at_builtin; refine wpList_append_fresh _ rfl (.tmp 42) (.tmp 45) 76 rfl wc.heap.size 92 i53 _ 1 8 Tryd.underlying76 hi53 hz53 hs53 hy53 rfl (by decide) _ _ _ rfl (hown.alloc _) ⟨wr.heap.size, 0, none⟩ 1 1 [.int .u64 (r : Int)] rfl rfl (cell_one_new _ _ _) ?a2 ?a3 ?a4 ?a5 ?_)
            case a2 => first | rfl | (intro u hu; simp at hu; subst hu; rfl)
            case a3 => unfold maxLen; omega
            case a4 => omega
            case a5 => have := hb.size; simp; omega
            intro v' w5 hown5 hgrow5 _
            have hown6 : w5.ownsRow wc.heap.size 92 1 v' (out ++ [r]).length (limbs (out ++ [r])) := by
              rw [limbs_snoc, List.length_append, hl, hs0]; exact hown5
            have hb5 : Below wc.heap.size wc w5 := (hb.alloc hb.size _).grown hgrow5 (by have := hb.size; simp; omega) (fun k e => (hown.lt _ e).1)
            clear hown5 hgrow5 hown hb
            go_wp2
            go_roundg g
            case measure => omega
            case rel => exact ⟨k + 1, d, out ++ [r], by omega, by go_num, by go_num, HST.out.2.1, by rw [List.length_append, hl]; rfl, HST.out.1, HST.out.2.2, hown6, hb5⟩
        · by_cases hky : k < ys.length
          · have hx00 := hxn hkx
            have hkx' : ¬ (k : Int) < (xs.length : Int) := by omega
            subst hx00
            obtain ⟨b2, o2, hay, hcy⟩ := hyc hky
            have hky' : (k : Int) < (ys.length : Int) := by omega
            have hcapy : ys.length ≤ cy := by obtain ⟨_, _, hv, _, h2, _⟩ := HY.out; cases hv; omega
            subst hay
            clear hxc hyc hxn hyn hkx hky
            rw [show c + 0 + Y = c + Y by omega] at HST
            have hsb : (c + Y) < 2147483648 := by omega
            go_upto_region 10 with fail
            rw [show (c : Int) + (Y : Int) = ((c + Y : Nat) : Int) by omega]
            generalize (c + Y) = s at HST hsb ⊢
            obtain ⟨r, hr⟩ : ∃ r, s % BB = r := ⟨_, rfl⟩
            obtain ⟨d, hd⟩ : ∃ d, s / BB = d := ⟨_, rfl⟩
            have hmod : ((s : Nat) : Int).tmod 1000000000 = (r : Int) := by rw [← hr, Int.tmod_eq_emod_of_nonneg (by omega)]; rfl
            have hquo : ((s : Nat) : Int).tdiv 1000000000 = (d : Int) := by rw [← hd, Int.tdiv_eq_ediv_of_nonneg (by omega)]; rfl
            have hrb : r < 1000000000 := by rw [← hr]; exact Nat.mod_lt _ (by decide)
            have hdb : d < 2147483648 := by rw [← hd]; exact Nat.lt_of_le_of_lt (Nat.div_le_self _ _) hsb
            rw [hr, hd] at HST
            clear hr hd
            go_wp2_with (at_builtin; refine wpList_append_fresh _ rfl (.tmp 42) (.tmp 45) 76 rfl wc.heap.size 92 i53 _ 1 8 Tryd.underlying76 hi53 hz53 hs53 hy53 rfl (by decide) _ _ _ rfl (hown.alloc _) ⟨wr.heap.size, 0, none⟩ 1 1 [.int .u64 (r : Int)] rfl rfl (cell_one_new _ _ _) ?a2 ?a3 ?a4 ?a5 ?_)
            case a2 => first | rfl | (intro u hu; simp at hu; subst hu; rfl)
            case a3 => unfold maxLen; omega
            case a4 => omega
            case a5 => have := hb.size; simp; omega
            intro v' w5 hown5 hgrow5 _
            have hown6 : w5.ownsRow wc.heap.size 92 1 v' (out ++ [r]).length (limbs (out ++ [r])) := by
              rw [limbs_snoc, List.length_append, hl, hs0]; exact hown5
            have hb5 : Below wc.heap.size wc w5 := (hb.alloc hb.size _).grown hgrow5 (by have := hb.size; simp; omega) (fun k e => (hown.lt _ e).1)
            clear hown5 hgrow5 hown hb
            go_wp2
            go_roundg g
            case measure => omega
            case rel => exact ⟨k + 1, d, out ++ [r], by omega, by go_num, by go_num, HST.out.2.1, by rw [List.length_append, hl]; rfl, HST.out.1, HST.out.2.2, hown6, hb5⟩
          · exfalso
            have := HM.out
            omega

end Go.Proofs.YtgbalofdfdafmaaDoor
