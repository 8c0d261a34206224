/- The walk of times: the product. -/
import Derived.Test.YtekpdmjobkikfaaDoorSum
namespace Go.Proofs.YtekpdmjobkikfaaDoor
open Go.RowKit
set_option maxRecDepth 100000

/-- A whole block of limbs. -/
def OwnLimbs (w : World) (b : Nat) (xs : List Nat) : Prop := w.heap[b]? = some (.cells (limbs xs).toArray 53 (0, 0))
theorem OwnLimbs.lt {w : World} {b : Nat} {xs : List Nat} (h : OwnLimbs w b xs) : b < w.heap.size := (Array.getElem?_eq_some_iff.1 h).1
theorem OwnLimbs.cell {w : World} {b : Nat} {xs : List Nat} (h : OwnLimbs w b xs) {i : Nat} (hi : i < xs.length) : w.cell? ⟨b, i, none⟩ = some (.int .u64 ((xs.getD i 0 : Nat) : Int)) := by
  simp [World.cell?, show w.heap[b]? = _ from h, List.getD, hi, limbs]
theorem OwnLimbs.free {w : World} {b : Nat} {xs : List Nat} (h : OwnLimbs w b xs) (i : Nat) : w.frozen? ⟨b, i, none⟩ = false := by
  simp [World.frozen?, show w.heap[b]? = _ from h]
theorem OwnLimbs.set {w : World} {b : Nat} {xs : List Nat} (h : OwnLimbs w b xs) (i : Nat) (x : Nat) : OwnLimbs (w.setCell ⟨b, i, none⟩ (.int .u64 (x : Int))) b (xs.set i x) := by
  unfold OwnLimbs at h ⊢
  simp [World.setCell, Array.getElem?_modify, h, limbs, List.map_set]
theorem OwnLimbs.at {w : World} {b : Nat} {xs : List Nat} (h : OwnLimbs w b xs) (hl : xs.length ≤ 4096) : LimbsAt w (.slice (some ⟨b, 0, none⟩) xs.length xs.length) xs :=
  ⟨_, _, rfl, hl, ⟨Nat.le_refl _, by omega, fun e => by cases e⟩, fun _ => ⟨b, 0, rfl, ⟨h.lt, _, _, h⟩, fun i hi => by rw [Nat.zero_add]; exact h.cell hi⟩⟩
theorem made_limbs (n : Nat) : (madeCells #[Value.int .u64 0] n).toList = limbs (List.replicate n 0) := by
  simp [madeCells, Nat.mod_one, List.map_const', limbs]

theorem numV_mul (bx by_ : Bool) (xs ys : List Nat) (zs : List Nat) (h : valL zs = valL xs * valL ys) : numV (bx != by_) zs = numV bx xs * numV by_ ys := by
  unfold numV
  rw [h]
  cases bx <;> cases by_ <;> simp [Int.neg_mul, Int.mul_neg]

/-- Behind the last limb of a row nothing is carried on. -/
theorem row_end {xs ys out : List Nat} {i k c : Nat} (hx : okL xs) (hy : okL ys) (hi : i < xs.length) (hk : ys.length < k) (h : valL out + BB ^ (i + k) * c = valL (xs.take i) * valL ys + xs.getD i 0 * BB ^ i * valL (ys.take k)) : c = 0 := by
  rw [List.take_of_length_le (show ys.length ≤ k by omega), row_next] at h
  apply Classical.byContradiction
  intro hn
  have h1 : BB ^ (i + k) * 1 ≤ BB ^ (i + k) * c := Nat.mul_le_mul_left _ (by omega)
  have h2 := BB_pos (i + k)
  rcases row_lt hx hy (i + 1) (by omega) with h3 | h3
  · have h4 : BB ^ (i + 1 + ys.length) ≤ BB ^ (i + k) := Nat.pow_le_pow_right (by decide) (by omega)
    omega
  · omega

set_option maxHeartbeats 3200000 in
theorem times_any (bx by_ : Bool) (vx vy : Value) (xs ys : List Nat) (w : World) (hx : LimbsAt w vx xs) (hy : LimbsAt w vy ys) (ox : bigOk bx xs) (oy : bigOk by_ ys) (lx : xs.length ≤ 1000) (ly : ys.length ≤ 1000) :
    Calls Tryd.prog 30 #[.agg #[.bool bx, vx], .agg #[.bool by_, vy]] w (NumPost (numV bx xs * numV by_ ys) (xs.length + ys.length + 1) w) := by
  obtain ⟨ax, cx, rfl, _, _, _⟩ := hx.val
  obtain ⟨ay, cy, rfl, _, _, _⟩ := hy.val
  obtain ⟨i53, hi53, hz53, hs53, hy53⟩ := info_parts Tryd.info53
  obtain ⟨w0, hw0⟩ : ∃ w0, w0 = ((w.alloc (.cells #[.bool bx, .slice ax xs.length cx] 49)).alloc (.cells #[.bool by_, .slice ay ys.length cy] 49)).alloc (.cells #[.bool false, .slice none 0 0] 49) := ⟨_, rfl⟩
  have hs0 : w0.heap.size = w.heap.size + 3 := by rw [hw0]; simp only [World.alloc, Array.size_push]
  have hb0 : Below w.heap.size w w0 := by rw [hw0]; exact (((Below.refl _ w).alloc (Nat.le_refl _) _).alloc (by simp) _).alloc (by simp <;> omega) _
  have hx0 : w0.heap[w.heap.size]? = some (.cells #[.bool bx, .slice ax xs.length cx] 49 (0, 0)) := by
    rw [hw0]; exact (Below.heap_alloc _ _ _ (by simp <;> omega)).trans ((Below.heap_alloc _ _ _ (by simp)).trans (heap_alloc_new _ _))
  have hy0 : w0.heap[w.heap.size + 1]? = some (.cells #[.bool by_, .slice ay ys.length cy] 49 (0, 0)) := by
    have := heap_alloc_new (w.alloc (.cells #[.bool bx, .slice ax xs.length cx] 49)) (.cells #[.bool by_, .slice ay ys.length cy] 49)
    rw [show (w.alloc (.cells #[.bool bx, .slice ax xs.length cx] 49)).heap.size = w.heap.size + 1 by simp] at this
    rw [hw0]; exact (Below.heap_alloc _ _ _ (by simp <;> omega)).trans this
  have hr0 : w0.heap[w.heap.size + 1 + 1]? = some (.cells #[.bool false, .slice none 0 0] 49 (0, 0)) := by
    have := heap_alloc_new ((w.alloc (.cells #[.bool bx, .slice ax xs.length cx] 49)).alloc (.cells #[.bool by_, .slice ay ys.length cy] 49)) (.cells #[.bool false, .slice none 0 0] 49)
    rw [show ((w.alloc (.cells #[.bool bx, .slice ax xs.length cx] 49)).alloc (.cells #[.bool by_, .slice ay ys.length cy] 49)).heap.size = w.heap.size + 1 + 1 by simp only [World.alloc, Array.size_push]] at this
    rw [hw0]; exact this
  obtain ⟨a0, a1, _, _⟩ := cell_box2 hx0
  obtain ⟨b0, b1, _, _⟩ := cell_box2 hy0
  have HX := Lib.hid (hx.mono hb0)
  have HY := Lib.hid (hy.mono hb0)
  have HR0 := Lib.hid hr0
  have HX0 := Lib.hid hx0
  have HY0 := Lib.hid hy0
  have OX := Lib.hid ox
  have OY := Lib.hid oy
  clear hx hy ox oy hx0 hy0 hr0
  obtain ⟨T, hT⟩ : ∃ T, T = xs.length + ys.length + 1 := ⟨_, rfl⟩
  have hT4 : T ≤ 2001 := by omega
  have HT := Lib.hid hT
  clear hT
  obtain ⟨B, hB⟩ : ∃ B, B = w.heap.size + 3 := ⟨_, rfl⟩
  have hBs : w.heap.size + 3 ≤ B := by omega
  have HB := Lib.hid hB
  clear hB
  go_enter Tryd.func30, Tryd.ntmps30
  go_upto_region 1 with (rw [← hw0])
  clear hw0
  go_upto_region 2 with (at_make; refine wpList_make_full _ rfl _ _ 47 rfl w0.heap.size 53 i53 (.int .u64 0) 1 Tryd.underlying47 hi53 hz53 hs53 _ _ _ _ T rfl rfl ?m1 ?m2 (by rw [hy53]; omega) (by unfold maxLen; omega) (Nat.le_refl _) ?_)
  case m1 => have := HT.out; omega
  case m2 => have := HT.out; omega
  intro w1 hown hgrow
  have hb1 : Below w0.heap.size w0 w1 := (Below.refl _ w0).grown hgrow (Nat.le_refl _) (fun k hk => by cases hk)
  have hO1 := ownsRow_block hown
  rw [made_limbs, ← HB.out] at hO1
  have hbB : Below w.heap.size w w1 := hb0.trans (hb1.mono hb0.size)
  have hx1 := (hb1.block w.heap.size (by omega)).trans HX0.out
  have hy1 := (hb1.block (w.heap.size + 1) (by omega)).trans HY0.out
  have hr1 := (hb1.block (w.heap.size + 1 + 1) (by omega)).trans HR0.out
  have hz1 := hb1.size
  obtain ⟨a0, a1, _, _⟩ := cell_box2 hx1
  obtain ⟨b0, b1, _, _⟩ := cell_box2 hy1
  have HOO : Hid (OwnLimbs w1 B (List.replicate T 0)) := hO1
  have HXX := Lib.hid hx1
  have HYY := Lib.hid hy1
  have HRR := Lib.hid hr1
  have hB1 : B < w1.heap.size := HOO.out.lt
  have hs00 : w0.heap.size = B := by rw [hs0, ← HB.out]
  have hb1B : Below B w0 w1 := hb1.mono (by omega)
  have HS00 := Lib.hid hs00
  rw [← HB.out]
  clear hown hgrow hO1 hx1 hy1 hr1 hs00 hb1 HX0 HY0 HR0 hb0 hs0 hz1
  go_upto_region 3 with fail
  go_loopg [22] xs.length (fun g v22 wr => ∃ (i : Nat) (out : List Nat), i + g = xs.length ∧ v22 = .int .i64 i ∧ OwnLimbs wr B out ∧ out.length = T ∧ okL out ∧ valL out = valL (xs.take i) * valL ys ∧ Below B w1 wr)
  case atStart => exact ⟨0, List.replicate T 0, by omega, rfl, HOO.out, by simp, okL_zeros _, by rw [valL_zeros]; simp [valL], Below.refl _ _⟩
  case round =>
    obtain ⟨i, out, hig, rfl, how, hol, hok, hov, hbr⟩ := hrel
    obtain ⟨y0, y1, _, _⟩ := cell_box2 ((hbr.block _ (by omega)).trans HXX.out)
    obtain ⟨z0, z1, _, _⟩ := cell_box2 ((hbr.block _ (by omega)).trans HYY.out)
    clear a0 a1 b0 b1
    cases gk with
    | zero =>
      have hie : ¬ (i : Int) < (xs.length : Int) := by omega
      obtain rfl : i = xs.length := by omega
      rw [List.take_length] at hov
      have hzs := how.at (by omega)
      have TR := trim_any (!(bx == by_)) (some ⟨B, 0, none⟩) T out wr (by rw [hol] at hzs; rw [hol]; exact hzs)
      rw [hol] at TR
      have HR2 := Lib.hid ((hbr.block _ (by omega)).trans HRR.out)
      obtain ⟨r0, r1, _, _⟩ := cell_box2 HR2.out
      have HOV := Lib.hid hov
      have HOK := Lib.hid hok
      have HOL := Lib.hid hol
      clear hov hok hol how hzs
      go_wp2_with fail
      refine TR.mono ?_
      rintro e w2 ⟨v2, rfl, ⟨u2, rfl, hu2⟩, hb2⟩
      obtain ⟨a2, c2, rfl, _, _, _⟩ := hu2.val
      have hzr := hbr.size
      have hrr2 := (hb2.block (w.heap.size + 1 + 1) (by omega)).trans HR2.out
      obtain ⟨w3, hw3, hr3, hz3, hk3, hB3⟩ := set_box2' hrr2 (.bool (!(bx == by_) && !(trimL out).isEmpty))
      obtain ⟨w4, hw4, hr4, hz4, hk4, hB4⟩ := set_box2 hr3 (.slice a2 (trimL out).length c2)
      have hb12 : Below w.heap.size w w2 := (hbB.trans (hbr.mono (by omega))).trans (hb2.mono (by omega))
      have hb4 := hB4 _ _ (by omega) (hB3 _ _ (by omega) hb12)
      have HU : Hid (LimbsAt w4 (.slice a2 (trimL out).length c2) (trimL out)) := hu2.box hrr2 (by omega) (fun k hk => (hk4 k hk).trans (hk3 k hk))
      obtain ⟨q0, q1, _, _⟩ := cell_box2 hr4
      obtain ⟨r0, r1, f0, f1⟩ := cell_box2 hrr2
      have hfin : bigOk (!(bx == by_) && !(trimL out).isEmpty) (trimL out) ∧ numV (!(bx == by_) && !(trimL out).isEmpty) (trimL out) = numV bx xs * numV by_ ys ∧ (trimL out).length ≤ xs.length + ys.length + 1 := by
        refine ⟨big_trim _ HOK.out, ?_, Nat.le_trans (trimL_len out) (by have := HOL.out; have := HT.out; omega)⟩
        rw [num_trim]
        exact numV_mul bx by_ xs ys out HOV.out
      have HFIN := Lib.hid hfin
      have HW3 := Lib.hid hw3
      have HW4 := Lib.hid hw4
      clear hfin hw3 hw4 hr3 hr4 hk3 hk4 hB3 hB4 hu2 hb12 TR hrr2
      go_wp2
      rw [← HW3.out, ← HW4.out]
      refine bodyPost_ret (v := .agg #[.bool (!(bx == by_) && !(trimL out).isEmpty), .slice a2 (trimL out).length c2]) (by simp [results, go_sem, q0, q1]) rfl ?_
      exact ⟨_, _, trimL out, rfl, ⟨_, rfl, HU.out⟩, HFIN.out.1, HFIN.out.2.1, HFIN.out.2.2, hb4⟩
    | succ g =>
      have hie : (i : Int) < (xs.length : Int) := by omega
      obtain ⟨bX, oX, hax, hxl, hxc⟩ := HX.out.get (i := i) (by omega)
      rw [HS00.out] at hxl
      have hcx' := ((hb1B.trans hbr).cell (p := ⟨bX, oX + i, none⟩) hxl).trans hxc
      have hcapx : xs.length ≤ cx := by obtain ⟨_, _, hv, _, h2, _⟩ := HX.out; cases hv; omega
      subst hax
      obtain ⟨A, hA⟩ : ∃ A, A = xs.getD i 0 := ⟨_, rfl⟩
      have hAb : A < 1000000000 := by rw [hA]; exact okL_getD OX.out.1 i
      have HA := Lib.hid hA
      have HOV := Lib.hid hov
      have HOK := Lib.hid hok
      have HOL := Lib.hid hol
      have HOWr := Lib.hid how
      rw [← hA] at hcx'
      clear hA hov hok hol how hxc
      have hgo : decide ((i : Int) < (xs.length : Int)) = true := decide_eq_true hie
      go_upto_region 5 with fail
      go_wp2
      go_loopg [8, 9] (ys.length + 1) (fun gq v8 v9 wq => ∃ (k c : Nat) (out' : List Nat), k + gq = ys.length + 1 ∧ v9 = .int .i64 k ∧ v8 = .int .u64 c ∧ c < 1000000000 ∧ OwnLimbs wq B out' ∧ out'.length = T ∧ okL out' ∧ valL out' + BB ^ (i + k) * c = valL (xs.take i) * valL ys + A * BB ^ i * valL (ys.take k) ∧ Below B w1 wq)
      case atStart => exact ⟨0, 0, out, by omega, rfl, rfl, by omega, HOWr.out, HOL.out, HOK.out, by rw [HOV.out]; simp [valL], hbr⟩
      case round =>
        obtain ⟨k, c, out', hkg, rfl, rfl, hcb, how', hol', hok', hov', hbq⟩ := hrel
        obtain ⟨y0', y1', _, _⟩ := cell_box2 ((hbq.block _ (by omega)).trans HXX.out)
        obtain ⟨z0', z1', _, _⟩ := cell_box2 ((hbq.block _ (by omega)).trans HYY.out)
        clear y0 y1 z0 z1
        by_cases hky : k < ys.length
        · have hky' : (k : Int) < (ys.length : Int) := by omega
          obtain ⟨gq, rfl⟩ : ∃ g', gk = g' + 1 := ⟨gk - 1, by omega⟩
          have hj : i + k < out'.length := by rw [hol']; have := HT.out; omega
          have hjT : (i : Int) + (k : Int) < (T : Int) := by have := HT.out; omega
          have c5 := how'.cell hj
          have f5 := how'.free (i + k)
          have hOb : out'.getD (i + k) 0 < 1000000000 := okL_getD hok' (i + k)
          have hst := times_step (s := c + out'.getD (i + k) 0 + A * ys.getD k 0) hj hok' hov' rfl
          obtain ⟨bY, oY, hay, hyl, hyc⟩ := HY.out.get (i := k) hky
          rw [HS00.out] at hyl
          have hcy' := ((hb1B.trans hbq).cell (p := ⟨bY, oY + k, none⟩) hyl).trans hyc
          have hcapy : ys.length ≤ cy := by obtain ⟨_, _, hv, _, h2, _⟩ := HY.out; cases hv; omega
          have hYb : ys.getD k 0 < 1000000000 := okL_getD OY.out.1 k
          subst hay
          generalize out'.getD (i + k) 0 = O at c5 hOb hst
          generalize ys.getD k 0 = Y at hcy' hYb hst
          have hPb : A * Y ≤ 999999999 * 999999999 := Nat.mul_le_mul (by omega) (by omega)
          obtain ⟨Pn, hP⟩ : ∃ Pn, Pn = A * Y := ⟨_, rfl⟩
          have hAY : (A : Int) * (Y : Int) = (Pn : Int) := by rw [hP]; simp
          rw [← hP] at hst hPb
          have HST := Lib.hid hst
          have HOW := Lib.hid how'
          have HOL' := Lib.hid hol'
          have HSQ : Hid (((i : Int) + (k : Int)).toNat = i + k) := by rw [Hid]; omega
          have hsq := HSQ.out
          clear hP hst hyc how' hol' hok' hov' hky
          have hsb : c + O + Pn < 1000000000 * 1000000000 := by omega
          go_upto_region 12 with fail
          rw [show (c : Int) + (O : Int) + (Pn : Int) = ((c + O + Pn : Nat) : Int) by omega]
          generalize (c + O + Pn) = s at HST hsb ⊢
          obtain ⟨r, hr⟩ : ∃ r, s % BB = r := ⟨_, rfl⟩
          obtain ⟨d, hd⟩ : ∃ d, s / BB = d := ⟨_, rfl⟩
          have hmod : ((s : Nat) : Int).tmod 1000000000 = (r : Int) := by rw [← hr, Int.tmod_eq_emod_of_nonneg (by omega)]; rfl
          have hquo : ((s : Nat) : Int).tdiv 1000000000 = (d : Int) := by rw [← hd, Int.tdiv_eq_ediv_of_nonneg (by omega)]; rfl
          have hrb : r < 1000000000 := by rw [← hr]; exact Nat.mod_lt _ (by decide)
          have hdb : d < 1000000000 := by rw [← hd]; exact (Nat.div_lt_iff_lt_mul (by decide)).2 (by omega)
          rw [hr, hd] at HST
          clear hr hd
          go_wp2
          go_roundg gq
          case measure => omega
          case rel => exact ⟨k + 1, d, out'.set (i + k) r, by omega, by go_num, by go_num, hdb, HOW.out.set _ _, by rw [List.length_set]; exact HOL'.out, HST.out.1, HST.out.2, hbq.setCell (by simp) _⟩
        · have hky' : ¬ (k : Int) < (ys.length : Int) := by omega
          by_cases hc0 : c = 0
          · subst hc0
            have hfin : valL out' = valL (xs.take (i + 1)) * valL ys := by
              rw [List.take_of_length_le (show ys.length ≤ k by omega), HA.out, row_next] at hov'
              omega
            have HFIN := Lib.hid hfin
            have HOW := Lib.hid how'
            have HOL' := Lib.hid hol'
            have HOK' := Lib.hid hok'
            clear hov' hfin how' hol' hok'
            go_wp2
            go_roundg g
            case measure => omega
            case rel => exact ⟨i + 1, out', by omega, by go_num, HOW.out, HOL'.out, HOK'.out, HFIN.out, hbq⟩
          · have hkl : k = ys.length := by
              apply Classical.byContradiction
              intro hn
              apply hc0
              have h2 := HA.out
              rw [h2] at hov'
              exact row_end OX.out.1 OY.out.1 (by omega) (by omega) hov'
            obtain ⟨gq, rfl⟩ : ∃ g', gk = g' + 1 := ⟨gk - 1, by omega⟩
            have hcp : (0 : Int) < (c : Int) := by omega
            have hj : i + k < out'.length := by rw [hol']; have := HT.out; omega
            have hjT : (i : Int) + (k : Int) < (T : Int) := by have := HT.out; omega
            have c5 := how'.cell hj
            have f5 := how'.free (i + k)
            have hOb : out'.getD (i + k) 0 < 1000000000 := okL_getD hok' (i + k)
            have hY0 : ys.getD k 0 = 0 := by simp [List.getD, List.getElem?_eq_none (Nat.le_of_not_lt hky)]
            have hst := times_step (y := ys) (s := c + out'.getD (i + k) 0) hj hok' hov' (by rw [hY0]; simp)
            generalize out'.getD (i + k) 0 = O at c5 hOb hst
            have HST := Lib.hid hst
            have HOW := Lib.hid how'
            have HOL' := Lib.hid hol'
            have HSQ : Hid (((i : Int) + (k : Int)).toNat = i + k) := by rw [Hid]; omega
            have hsq := HSQ.out
            have HKL := Lib.hid hkl
            clear hst how' hol' hok' hov' hky hkl hY0 hc0
            have hsb : c + O < 1000000000 * 1000000000 := by omega
            go_upto_region 12 with fail
            rw [show (c : Int) + (O : Int) = ((c + O : Nat) : Int) by omega]
            generalize (c + O) = s at HST hsb ⊢
            obtain ⟨r, hr⟩ : ∃ r, s % BB = r := ⟨_, rfl⟩
            obtain ⟨d, hd⟩ : ∃ d, s / BB = d := ⟨_, rfl⟩
            have hmod : ((s : Nat) : Int).tmod 1000000000 = (r : Int) := by rw [← hr, Int.tmod_eq_emod_of_nonneg (by omega)]; rfl
            have hquo : ((s : Nat) : Int).tdiv 1000000000 = (d : Int) := by rw [← hd, Int.tdiv_eq_ediv_of_nonneg (by omega)]; rfl
            have hrb : r < 1000000000 := by rw [← hr]; exact Nat.mod_lt _ (by decide)
            have hdb : d < 1000000000 := by rw [← hd]; exact (Nat.div_lt_iff_lt_mul (by decide)).2 (by omega)
            rw [hr, hd] at HST
            clear hr hd
            go_wp2
            go_roundg gq
            case measure => omega
            case rel => exact ⟨k + 1, d, out'.set (i + k) r, by omega, by go_num, by go_num, hdb, HOW.out.set _ _, by rw [List.length_set]; exact HOL'.out, HST.out.1, HST.out.2, hbq.setCell (by simp) _⟩

end Go.Proofs.YtekpdmjobkikfaaDoor
