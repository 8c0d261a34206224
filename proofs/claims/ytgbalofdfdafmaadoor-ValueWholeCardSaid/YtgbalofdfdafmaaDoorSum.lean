/- The walk of sum: the sum with signs. -/
import Derived.Test.YtgbalofdfdafmaaDoorPlus
import Derived.Test.YtgbalofdfdafmaaDoorMinus
import Derived.Test.YtgbalofdfdafmaaDoorSize
import Derived.Deep.RegionHeld3
namespace Go.Proofs.YtgbalofdfdafmaaDoor
open Go.RowKit
set_option maxRecDepth 100000

/-- What a big number is worth. -/
def numV (b : Bool) (xs : List Nat) : Int := if b = true then -(valL xs : Int) else (valL xs : Int)
theorem num_trim (b : Bool) (zs : List Nat) : numV (b && !(trimL zs).isEmpty) (trimL zs) = numV b zs := by
  unfold numV
  rw [valL_trim]
  cases b with
  | false => rfl
  | true =>
    by_cases h : trimL zs = []
    · have : valL zs = 0 := by rw [← valL_trim, h]; rfl
      rw [h, this]; rfl
    · have : (trimL zs).isEmpty = false := by simpa using h
      rw [this]; rfl
/-- A big number that is in its form. -/
def bigOk (b : Bool) (xs : List Nat) : Prop := okL xs ∧ isTrim xs ∧ (b = true → xs ≠ [])
theorem big_trim (b : Bool) {zs : List Nat} (h : okL zs) : bigOk (b && !(trimL zs).isEmpty) (trimL zs) := by
  refine ⟨okL_trim h, trim_is zs, fun e => ?_⟩
  simp only [Bool.and_eq_true, Bool.not_eq_true', List.isEmpty_eq_false_iff] at e
  exact e.2
theorem trimL_len (zs : List Nat) : (trimL zs).length ≤ zs.length := by
  obtain ⟨k, hk, e⟩ := trimL_take zs
  rw [e, List.length_take]
  omega
/-- What a call that makes a number leaves. -/
def NumPost (z : Int) (top : Nat) (w : World) (e : Ending) (w' : World) : Prop := ∃ v b zs, e = .returned v ∧ BigAt w' v b zs ∧ bigOk b zs ∧ numV b zs = z ∧ zs.length ≤ top ∧ Below w.heap.size w w'

set_option maxHeartbeats 1600000 in
theorem sum_any (bx by_ : Bool) (vx vy : Value) (xs ys : List Nat) (w : World) (hx : LimbsAt w vx xs) (hy : LimbsAt w vy ys) (ox : bigOk bx xs) (oy : bigOk by_ ys) (lx : xs.length ≤ 2000) (ly : ys.length ≤ 2000) :
    Calls Tryd.prog 64 #[.agg #[.bool bx, vx], .agg #[.bool by_, vy]] w (NumPost (numV bx xs + numV by_ ys) (max xs.length ys.length + 1) w) := by
  obtain ⟨ax, cx, rfl, _, _, _⟩ := hx.val
  obtain ⟨ay, cy, rfl, _, _, _⟩ := hy.val
  obtain ⟨w0, hw0⟩ : ∃ w0, w0 = ((w.alloc (.cells #[.bool bx, .slice ax xs.length cx] 78)).alloc (.cells #[.bool by_, .slice ay ys.length cy] 78)).alloc (.cells #[.bool false, .slice none 0 0] 78) := ⟨_, rfl⟩
  have hs0 : w0.heap.size = w.heap.size + 3 := by rw [hw0]; simp only [World.alloc, Array.size_push]
  have hb0 : Below w.heap.size w w0 := by rw [hw0]; exact (((Below.refl _ w).alloc (Nat.le_refl _) _).alloc (by simp) _).alloc (by simp <;> omega) _
  have hx0 : w0.heap[w.heap.size]? = some (.cells #[.bool bx, .slice ax xs.length cx] 78 (0, 0)) := by
    rw [hw0]; exact (Below.heap_alloc _ _ _ (by simp <;> omega)).trans ((Below.heap_alloc _ _ _ (by simp)).trans (heap_alloc_new _ _))
  have hy0 : w0.heap[w.heap.size + 1]? = some (.cells #[.bool by_, .slice ay ys.length cy] 78 (0, 0)) := by
    have := heap_alloc_new (w.alloc (.cells #[.bool bx, .slice ax xs.length cx] 78)) (.cells #[.bool by_, .slice ay ys.length cy] 78)
    rw [show (w.alloc (.cells #[.bool bx, .slice ax xs.length cx] 78)).heap.size = w.heap.size + 1 by simp] at this
    rw [hw0]; exact (Below.heap_alloc _ _ _ (by simp <;> omega)).trans this
  have hr0 : w0.heap[w.heap.size + 1 + 1]? = some (.cells #[.bool false, .slice none 0 0] 78 (0, 0)) := by
    have := heap_alloc_new ((w.alloc (.cells #[.bool bx, .slice ax xs.length cx] 78)).alloc (.cells #[.bool by_, .slice ay ys.length cy] 78)) (.cells #[.bool false, .slice none 0 0] 78)
    rw [show ((w.alloc (.cells #[.bool bx, .slice ax xs.length cx] 78)).alloc (.cells #[.bool by_, .slice ay ys.length cy] 78)).heap.size = w.heap.size + 1 + 1 by simp only [World.alloc, Array.size_push]] at this
    rw [hw0]; exact this
  obtain ⟨a0, a1, _, _⟩ := cell_box2 hx0
  obtain ⟨b0, b1, _, _⟩ := cell_box2 hy0
  have hX := hx.mono hb0
  have hY := hy.mono hb0
  have HR0 := Lib.hid hr0
  have OX := Lib.hid ox
  have OY := Lib.hid oy
  clear hx hy ox oy hx0 hy0 hr0
  go_enter Tryd.func64, Tryd.ntmps64
  by_cases hxy : bx = by_
  · have PL := fun w' hb => plus_any bx by_ _ _ xs ys w' (hX.mono hb) (hY.mono hb) OX.out.1 OY.out.1 lx ly
    subst hxy
    go_upto_region 2 with (rw [← hw0])
    clear hw0
    go_region_held3 (fun w' => w'.cell? ⟨w.heap.size, 0, none⟩ = some (.bool bx) ∧ w'.cell? ⟨w.heap.size, 1, none⟩ = some (.slice ax xs.length cx) ∧ w'.cell? ⟨w.heap.size + 1, 0, none⟩ = some (.bool bx) ∧ w'.cell? ⟨w.heap.size + 1, 1, none⟩ = some (.slice ay ys.length cy))
      (first | exact ⟨a0, a1, b0, b1⟩ | exact ⟨k0, k1, k2, k3⟩ | exact ⟨m0, m1, m2, m3⟩ | (refine ⟨?_, ?_, ?_, ?_⟩ <;> (rw [World.cell?_setCell_other _ _ _ _ (by simp <;> omega), World.cell?_setCell_other _ _ _ _ (by simp <;> omega)]; assumption)))
      (first
        | (go_at_call 76; refine (PL _ (Below.refl _ w0).drew).mono ?_; rintro e w1 ⟨u, zs, rfl, hu, hok, hvz, hlz, hb1⟩; obtain ⟨au, cu, rfl, _, _, _⟩ := hu.val; have k0 := (hb1.cell (p := ⟨w.heap.size, 0, none⟩) (by show w.heap.size < w0.drew.heap.size; simp; omega)).trans a0; have k1 := (hb1.cell (p := ⟨w.heap.size, 1, none⟩) (by show w.heap.size < w0.drew.heap.size; simp; omega)).trans a1; have k2 := (hb1.cell (p := ⟨w.heap.size + 1, 0, none⟩) (by show w.heap.size + 1 < w0.drew.heap.size; simp; omega)).trans b0; have k3 := (hb1.cell (p := ⟨w.heap.size + 1, 1, none⟩) (by show w.heap.size + 1 < w0.drew.heap.size; simp; omega)).trans b1)
        | (go_at_call 77; refine (trim_any bx au cu zs _ hu).mono ?_; rintro e w2 ⟨v2, rfl, ⟨u2, rfl, hu2⟩, hb2⟩; obtain ⟨a2, c2, rfl, _, _, _⟩ := hu2.val; have hz1 := hb1.size; have m0 := (hb2.cell (p := ⟨w.heap.size, 0, none⟩) (by simp at hz1 ⊢; omega)).trans k0; have m1 := (hb2.cell (p := ⟨w.heap.size, 1, none⟩) (by simp at hz1 ⊢; omega)).trans k1; have m2 := (hb2.cell (p := ⟨w.heap.size + 1, 0, none⟩) (by simp at hz1 ⊢; omega)).trans k2; have m3 := (hb2.cell (p := ⟨w.heap.size + 1, 1, none⟩) (by simp at hz1 ⊢; omega)).trans k3; have hr2 := ((hb2.block (w.heap.size + 1 + 1) (by simp at hz1 ⊢; omega)).trans (hb1.block (w.heap.size + 1 + 1) (by simp; omega))).trans HR0.out; obtain ⟨r0, r1, f0, f1⟩ := cell_box2 hr2; have HR2 := Lib.hid hr2; clear hr2))
    have hb12 : Below w0.heap.size w0 w2 := (Below.trans (Below.refl _ w0).drew hb1).trans (hb2.mono hz1)
    have hz12 := hb12.size
    obtain ⟨w3, hw3, hr3, hz3, hk3, hB3⟩ := set_box2' HR2.out (.bool (bx && !(trimL zs).isEmpty))
    obtain ⟨w4, hw4, hr4, hz4, hk4, hB4⟩ := set_box2 hr3 (.slice a2 (trimL zs).length c2)
    have hb4 := hB4 _ _ (by omega) (hB3 _ _ (by omega) (hb0.trans (hb12.mono hb0.size)))
    have HU : Hid (LimbsAt w4 (.slice a2 (trimL zs).length c2) (trimL zs)) := hu2.box HR2.out (by omega) (fun k hk => (hk4 k hk).trans (hk3 k hk))
    obtain ⟨q0, q1, _, _⟩ := cell_box2 hr4
    have hfin : bigOk (bx && !(trimL zs).isEmpty) (trimL zs) ∧ numV (bx && !(trimL zs).isEmpty) (trimL zs) = numV bx xs + numV bx ys ∧ (trimL zs).length ≤ max xs.length ys.length + 1 := by
      refine ⟨big_trim _ hok, ?_, Nat.le_trans (trimL_len zs) (by omega)⟩
      rw [num_trim]
      unfold numV
      rw [hvz]
      cases bx <;> simp <;> omega
    have HFIN := Lib.hid hfin
    rw [← hw3, ← hw4]
    clear hfin hw3 hw4 hr3 hr4 hk3 hk4 hB3 hB4 hu hu2 hok hvz hlz PL r0 r1 f0 f1 m0 m1 m2 m3 k0 k1 k2 k3
    go_wp2
    refine bodyPost_ret (v := .agg #[.bool (bx && !(trimL zs).isEmpty), .slice a2 (trimL zs).length c2]) (by simp [results, go_sem, q0, q1]) rfl ?_
    exact ⟨_, _, trimL zs, rfl, ⟨_, rfl, HU.out⟩, HFIN.out.1, HFIN.out.2.1, HFIN.out.2.2, hb4⟩
  · have SZ := size_any bx by_ _ _ xs ys w0 hX hY OX.out.1 OY.out.1 OX.out.2.1 OY.out.2.1
    have hor : (bx = true ∧ by_ = false) ∨ (bx = false ∧ by_ = true) := by revert hxy; cases bx <;> cases by_ <;> simp
    have hne : (bx == by_) = false := by simpa using hxy
    have HOR := Lib.hid hor
    clear hor
    by_cases hc : valL xs < valL ys
    · rw [cmp_lt hc] at SZ
      have hl : xs.length ≤ ys.length := by
        apply Classical.byContradiction
        intro hn
        have := len_lt OY.out.1 OX.out.2.1 (show ys.length < xs.length by omega)
        omega
      have HC := Lib.hid hc
      have PL := fun w' hb => minus_any by_ bx _ _ ys xs w' (hY.mono hb) (hX.mono hb) OY.out.1 OX.out.1 ly hl (Nat.le_of_lt hc)
      clear hc
      go_upto_region 3 with (rw [← hw0])
      clear hw0
      go_wp2_with fail
      refine SZ.mono ?_
      rintro e wS ⟨rfl, hbS⟩
      have hbS0 := hbS.mono hb0.size
      have hzS := hbS.size
      have a0 := (hbS.cell (p := ⟨w.heap.size, 0, none⟩) (by simp; omega)).trans a0
      have a1 := (hbS.cell (p := ⟨w.heap.size, 1, none⟩) (by simp; omega)).trans a1
      have b0 := (hbS.cell (p := ⟨w.heap.size + 1, 0, none⟩) (by simp; omega)).trans b0
      have b1 := (hbS.cell (p := ⟨w.heap.size + 1, 1, none⟩) (by simp; omega)).trans b1
      have HR0 := Lib.hid ((hbS.block (w.heap.size + 1 + 1) (by omega)).trans HR0.out)
      have hb0 := hb0.trans hbS0
      go_upto_region 5 with fail
      have PL := fun w' (hb : Below wS.heap.size wS w') => PL w' (hbS.trans (hb.mono hzS))
      go_region_held3 (fun w' => w'.cell? ⟨w.heap.size, 0, none⟩ = some (.bool bx) ∧ w'.cell? ⟨w.heap.size, 1, none⟩ = some (.slice ax xs.length cx) ∧ w'.cell? ⟨w.heap.size + 1, 0, none⟩ = some (.bool by_) ∧ w'.cell? ⟨w.heap.size + 1, 1, none⟩ = some (.slice ay ys.length cy))
        (first | exact ⟨a0, a1, b0, b1⟩ | exact ⟨k0, k1, k2, k3⟩ | exact ⟨m0, m1, m2, m3⟩ | (refine ⟨?_, ?_, ?_, ?_⟩ <;> (rw [World.cell?_setCell_other _ _ _ _ (by simp <;> omega), World.cell?_setCell_other _ _ _ _ (by simp <;> omega)]; assumption)))
        (first
          | (go_at_call 79; refine (PL _ (Below.refl _ wS).drew).mono ?_; rintro e w1 ⟨u, zs, rfl, hu, hok, hvz, hlz, hb1⟩; obtain ⟨au, cu, rfl, _, _, _⟩ := hu.val; have k0 := (hb1.cell (p := ⟨w.heap.size, 0, none⟩) (by show w.heap.size < wS.drew.heap.size; simp; omega)).trans a0; have k1 := (hb1.cell (p := ⟨w.heap.size, 1, none⟩) (by show w.heap.size < wS.drew.heap.size; simp; omega)).trans a1; have k2 := (hb1.cell (p := ⟨w.heap.size + 1, 0, none⟩) (by show w.heap.size + 1 < wS.drew.heap.size; simp; omega)).trans b0; have k3 := (hb1.cell (p := ⟨w.heap.size + 1, 1, none⟩) (by show w.heap.size + 1 < wS.drew.heap.size; simp; omega)).trans b1)
          | (go_at_call 77; refine (trim_any by_ au cu zs _ hu).mono ?_; rintro e w2 ⟨v2, rfl, ⟨u2, rfl, hu2⟩, hb2⟩; obtain ⟨a2, c2, rfl, _, _, _⟩ := hu2.val; have hz1 := hb1.size; have m0 := (hb2.cell (p := ⟨w.heap.size, 0, none⟩) (by simp at hz1 ⊢; omega)).trans k0; have m1 := (hb2.cell (p := ⟨w.heap.size, 1, none⟩) (by simp at hz1 ⊢; omega)).trans k1; have m2 := (hb2.cell (p := ⟨w.heap.size + 1, 0, none⟩) (by simp at hz1 ⊢; omega)).trans k2; have m3 := (hb2.cell (p := ⟨w.heap.size + 1, 1, none⟩) (by simp at hz1 ⊢; omega)).trans k3; have hr2 := ((hb2.block (w.heap.size + 1 + 1) (by simp at hz1 ⊢; omega)).trans (hb1.block (w.heap.size + 1 + 1) (by simp; omega))).trans HR0.out; obtain ⟨r0, r1, f0, f1⟩ := cell_box2 hr2; have HR2 := Lib.hid hr2; clear hr2))
      have hb12 : Below wS.heap.size wS w2 := (Below.trans (Below.refl _ wS).drew hb1).trans (hb2.mono hz1)
      have hz12 := hb12.size
      obtain ⟨w3, hw3, hr3, hz3, hk3, hB3⟩ := set_box2' HR2.out (.bool (by_ && !(trimL zs).isEmpty))
      obtain ⟨w4, hw4, hr4, hz4, hk4, hB4⟩ := set_box2 hr3 (.slice a2 (trimL zs).length c2)
      have hb4 := hB4 _ _ (by omega) (hB3 _ _ (by omega) (hb0.trans (hb12.mono hb0.size)))
      have HU : Hid (LimbsAt w4 (.slice a2 (trimL zs).length c2) (trimL zs)) := hu2.box HR2.out (by omega) (fun k hk => (hk4 k hk).trans (hk3 k hk))
      obtain ⟨q0, q1, _, _⟩ := cell_box2 hr4
      have hfin : bigOk (by_ && !(trimL zs).isEmpty) (trimL zs) ∧ numV (by_ && !(trimL zs).isEmpty) (trimL zs) = numV bx xs + numV by_ ys ∧ (trimL zs).length ≤ max xs.length ys.length + 1 := by
        refine ⟨big_trim _ hok, ?_, Nat.le_trans (trimL_len zs) (by omega)⟩
        rw [num_trim]
        unfold numV
        rw [hvz]
        have := HC.out
        rcases HOR.out with ⟨h1, h2⟩ | ⟨h1, h2⟩ <;> simp [h1, h2] <;> omega
      have HFIN := Lib.hid hfin
      rw [← hw3, ← hw4]
      clear hfin hw3 hw4 hr3 hr4 hk3 hk4 hB3 hB4 hu hu2 hok hvz hlz PL r0 r1 f0 f1 m0 m1 m2 m3 k0 k1 k2 k3
      go_wp2
      refine bodyPost_ret (v := .agg #[.bool (by_ && !(trimL zs).isEmpty), .slice a2 (trimL zs).length c2]) (by simp [results, go_sem, q0, q1]) rfl ?_
      exact ⟨_, _, trimL zs, rfl, ⟨_, rfl, HU.out⟩, HFIN.out.1, HFIN.out.2.1, HFIN.out.2.2, hb4⟩
    · have hcz : ∃ z : Int, cmpN (valL xs) (valL ys) = z ∧ 0 ≤ z := by
        refine ⟨_, rfl, ?_⟩
        unfold cmpN
        rw [if_neg hc]
        split <;> decide
      obtain ⟨z, hz, hz0⟩ := hcz
      rw [hz] at SZ
      have hl : ys.length ≤ xs.length := by
        apply Classical.byContradiction
        intro hn
        have := len_lt OX.out.1 OY.out.2.1 (show xs.length < ys.length by omega)
        omega
      have HC := Lib.hid hc
      have PL := fun w' hb => minus_any bx by_ _ _ xs ys w' (hX.mono hb) (hY.mono hb) OX.out.1 OY.out.1 lx hl (Nat.le_of_not_lt hc)
      clear hc hz
      go_upto_region 3 with (rw [← hw0])
      clear hw0
      go_wp2_with fail
      refine SZ.mono ?_
      rintro e wS ⟨rfl, hbS⟩
      have hbS0 := hbS.mono hb0.size
      have hzS := hbS.size
      have a0 := (hbS.cell (p := ⟨w.heap.size, 0, none⟩) (by simp; omega)).trans a0
      have a1 := (hbS.cell (p := ⟨w.heap.size, 1, none⟩) (by simp; omega)).trans a1
      have b0 := (hbS.cell (p := ⟨w.heap.size + 1, 0, none⟩) (by simp; omega)).trans b0
      have b1 := (hbS.cell (p := ⟨w.heap.size + 1, 1, none⟩) (by simp; omega)).trans b1
      have HR0 := Lib.hid ((hbS.block (w.heap.size + 1 + 1) (by omega)).trans HR0.out)
      have hb0 := hb0.trans hbS0
      go_upto_region 4 with fail
      have PL := fun w' (hb : Below wS.heap.size wS w') => PL w' (hbS.trans (hb.mono hzS))
      go_region_held3 (fun w' => w'.cell? ⟨w.heap.size, 0, none⟩ = some (.bool bx) ∧ w'.cell? ⟨w.heap.size, 1, none⟩ = some (.slice ax xs.length cx) ∧ w'.cell? ⟨w.heap.size + 1, 0, none⟩ = some (.bool by_) ∧ w'.cell? ⟨w.heap.size + 1, 1, none⟩ = some (.slice ay ys.length cy))
        (first | exact ⟨a0, a1, b0, b1⟩ | exact ⟨k0, k1, k2, k3⟩ | exact ⟨m0, m1, m2, m3⟩ | (refine ⟨?_, ?_, ?_, ?_⟩ <;> (rw [World.cell?_setCell_other _ _ _ _ (by simp <;> omega), World.cell?_setCell_other _ _ _ _ (by simp <;> omega)]; assumption)))
        (first
          | (go_at_call 79; refine (PL _ (Below.refl _ wS).drew).mono ?_; rintro e w1 ⟨u, zs, rfl, hu, hok, hvz, hlz, hb1⟩; obtain ⟨au, cu, rfl, _, _, _⟩ := hu.val; have k0 := (hb1.cell (p := ⟨w.heap.size, 0, none⟩) (by show w.heap.size < wS.drew.heap.size; simp; omega)).trans a0; have k1 := (hb1.cell (p := ⟨w.heap.size, 1, none⟩) (by show w.heap.size < wS.drew.heap.size; simp; omega)).trans a1; have k2 := (hb1.cell (p := ⟨w.heap.size + 1, 0, none⟩) (by show w.heap.size + 1 < wS.drew.heap.size; simp; omega)).trans b0; have k3 := (hb1.cell (p := ⟨w.heap.size + 1, 1, none⟩) (by show w.heap.size + 1 < wS.drew.heap.size; simp; omega)).trans b1)
          | (go_at_call 77; refine (trim_any bx au cu zs _ hu).mono ?_; rintro e w2 ⟨v2, rfl, ⟨u2, rfl, hu2⟩, hb2⟩; obtain ⟨a2, c2, rfl, _, _, _⟩ := hu2.val; have hz1 := hb1.size; have m0 := (hb2.cell (p := ⟨w.heap.size, 0, none⟩) (by simp at hz1 ⊢; omega)).trans k0; have m1 := (hb2.cell (p := ⟨w.heap.size, 1, none⟩) (by simp at hz1 ⊢; omega)).trans k1; have m2 := (hb2.cell (p := ⟨w.heap.size + 1, 0, none⟩) (by simp at hz1 ⊢; omega)).trans k2; have m3 := (hb2.cell (p := ⟨w.heap.size + 1, 1, none⟩) (by simp at hz1 ⊢; omega)).trans k3; have hr2 := ((hb2.block (w.heap.size + 1 + 1) (by simp at hz1 ⊢; omega)).trans (hb1.block (w.heap.size + 1 + 1) (by simp; omega))).trans HR0.out; obtain ⟨r0, r1, f0, f1⟩ := cell_box2 hr2; have HR2 := Lib.hid hr2; clear hr2))
      have hb12 : Below wS.heap.size wS w2 := (Below.trans (Below.refl _ wS).drew hb1).trans (hb2.mono hz1)
      have hz12 := hb12.size
      obtain ⟨w3, hw3, hr3, hz3, hk3, hB3⟩ := set_box2' HR2.out (.bool (bx && !(trimL zs).isEmpty))
      obtain ⟨w4, hw4, hr4, hz4, hk4, hB4⟩ := set_box2 hr3 (.slice a2 (trimL zs).length c2)
      have hb4 := hB4 _ _ (by omega) (hB3 _ _ (by omega) (hb0.trans (hb12.mono hb0.size)))
      have HU : Hid (LimbsAt w4 (.slice a2 (trimL zs).length c2) (trimL zs)) := hu2.box HR2.out (by omega) (fun k hk => (hk4 k hk).trans (hk3 k hk))
      obtain ⟨q0, q1, _, _⟩ := cell_box2 hr4
      have hfin : bigOk (bx && !(trimL zs).isEmpty) (trimL zs) ∧ numV (bx && !(trimL zs).isEmpty) (trimL zs) = numV bx xs + numV by_ ys ∧ (trimL zs).length ≤ max xs.length ys.length + 1 := by
        refine ⟨big_trim _ hok, ?_, Nat.le_trans (trimL_len zs) (by omega)⟩
        rw [num_trim]
        unfold numV
        rw [hvz]
        have := HC.out
        rcases HOR.out with ⟨h1, h2⟩ | ⟨h1, h2⟩ <;> simp [h1, h2] <;> omega
      have HFIN := Lib.hid hfin
      rw [← hw3, ← hw4]
      clear hfin hw3 hw4 hr3 hr4 hk3 hk4 hB3 hB4 hu hu2 hok hvz hlz PL r0 r1 f0 f1 m0 m1 m2 m3 k0 k1 k2 k3
      go_wp2
      refine bodyPost_ret (v := .agg #[.bool (bx && !(trimL zs).isEmpty), .slice a2 (trimL zs).length c2]) (by simp [results, go_sem, q0, q1]) rfl ?_
      exact ⟨_, _, trimL zs, rfl, ⟨_, rfl, HU.out⟩, HFIN.out.1, HFIN.out.2.1, HFIN.out.2.2, hb4⟩

end Go.Proofs.YtgbalofdfdafmaaDoor
