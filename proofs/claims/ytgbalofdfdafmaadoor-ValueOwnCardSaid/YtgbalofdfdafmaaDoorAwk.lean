/- The walk of the law's fixed fact: the document's examples of values. -/
import Derived.Test.YtgbalofdfdafmaaDoorObj
import Derived.Test.YtgbalofdfdafmaaDoorCmpW
namespace Go.Proofs.YtgbalofdfdafmaaDoor
open Go.RowKit
set_option maxRecDepth 100000
attribute [local go_sem] str_size str_toList str_get

theorem itoa_1 : Lib.itoa 1 = [49] := by rw [itoa_pos (by decide), dig_small (by decide)]; rfl
theorem itoa_2 : Lib.itoa 2 = [50] := by rw [itoa_pos (by decide), dig_small (by decide)]; rfl
theorem itoa_10 : Lib.itoa 10 = [49, 48] := by rw [itoa_pos (by decide), dig_step (by decide), dig_small (by decide)]; rfl
def one02 : VT := .mk 3 false [49] [] []
def two02 : VT := .mk 3 false [50] [] []
def obj02 : VT := .mk 6 false [] [two02, one02] [[97], [98]]

/-- Two texts, two values in slices of their own. -/
theorem strs_two {w : World} {g : Nat} {x y : List UInt8} {T : TypeId} (h : w.heap[g]? = some (.cells #[str x, str y] T (0, 0))) : StrsAt w (.slice (some ⟨g, 0, none⟩) 2 2) [x, y] := by
  refine ⟨_, 2, rfl, ⟨by simp, by omega, fun e => by cases e⟩, fun _ => ⟨g, 0, rfl, (Array.getElem?_eq_some_iff.1 h).1, fun i hi => ?_⟩⟩
  have hi2 : i = 0 ∨ i = 1 := by simp at hi; omega
  rcases hi2 with rfl | rfl <;> simp [World.cell?, h]
theorem row_two {w : World} {g : Nat} {k k' : Int} {b b' : Bool} {x y : List UInt8} {T : TypeId} (h : w.heap[g]? = some (.cells #[.int .i64 k, .bool b, str x, .slice none 0 0, .slice none 0 0, .int .i64 k', .bool b', str y, .slice none 0 0, .slice none 0 0] T (0, 0)))
    (hk : -9223372036854775808 ≤ k ∧ k ≤ 9223372036854775807 ∧ x.length ≤ 9223372036854775807) (hk' : -9223372036854775808 ≤ k' ∧ k' ≤ 9223372036854775807 ∧ y.length ≤ 9223372036854775807) :
    RowAt w (.slice (some ⟨g, 0, none⟩) 2 2) [VT.mk k b x [] [], VT.mk k' b' y [] []].length (fun i => if i = 0 then leafV k b x else leafV k' b' y) ∧ ValsAt w [VT.mk k b x [] [], VT.mk k' b' y [] []] (fun i => if i = 0 then leafV k b x else leafV k' b' y) := by
  refine ⟨⟨_, 2, rfl, ⟨by simp, by omega, fun e => by cases e⟩, fun _ => ⟨g, 0, rfl, (Array.getElem?_eq_some_iff.1 h).1, fun i hi => ?_⟩⟩, ?_⟩
  · have hi2 : i = 0 ∨ i = 1 := by simp at hi; omega
    rcases hi2 with rfl | rfl
    · exact ⟨_, _, _, _, _, rfl, by simp [World.cell?, h], by simp [World.cell?, h], by simp [World.cell?, h], by simp [World.cell?, h], by simp [World.cell?, h]⟩
    · exact ⟨_, _, _, _, _, rfl, by simp [World.cell?, h], by simp [World.cell?, h], by simp [World.cell?, h], by simp [World.cell?, h], by simp [World.cell?, h]⟩
  · rw [ValsAt_iff]
    intro i hi
    have hi2 : i = 0 ∨ i = 1 := by simp at hi; omega
    rcases hi2 with rfl | rfl
    · exact (leaf_own w k b x hk).at
    · exact (leaf_own w k' b' y hk').at

set_option maxHeartbeats 4000000 in
theorem awake02 (w : World) (hT : TabW w) : Calls Tryd.prog 7 #[] w fun e w' => e = .returned (.bool true) ∧ Below w.heap.size w w' := by
  have HT := Lib.hid hT
  clear hT
  go_enter Tryd.func7, Tryd.ntmps7
  go_wp2_with fail
  have hb1 : Below w.heap.size w (w.alloc (.cells #[.string ⟨#[98]⟩, .string ⟨#[97]⟩] 9)) := (Below.refl _ w).alloc (Nat.le_refl _) _
  have hk1 : (w.alloc (.cells #[.string ⟨#[98]⟩, .string ⟨#[97]⟩] 9)).heap[w.heap.size]? = some (.cells #[str [98], str [97]] 9 (0, 0)) := heap_alloc_new _ _
  have hs1 : (w.alloc (.cells #[.string ⟨#[98]⟩, .string ⟨#[97]⟩] 9)).heap.size = w.heap.size + 1 := by simp only [World.alloc, Array.size_push]
  generalize w.alloc (.cells #[.string ⟨#[98]⟩, .string ⟨#[97]⟩] 9) = w1 at hb1 hk1 hs1 ⊢
  refine (int_val 1 (by decide) (by decide) w1 (HT.out.mono hb1)).mono ?_
  rintro e w2 ⟨rfl, hq2⟩
  have hb2 := hb1.trans (hq2.mono (by omega))
  have hk2 := (hq2.block w.heap.size (by omega)).trans hk1
  have hs2 := hq2.size
  rw [itoa_1]
  unfold leafV
  go_wp2_with fail
  refine (int_val 2 (by decide) (by decide) w2 (HT.out.mono hb2)).mono ?_
  rintro e w3 ⟨rfl, hq3⟩
  have hb3 := hb2.trans (hq3.mono (by omega))
  have hk3 := (hq3.block w.heap.size (by omega)).trans hk2
  have hs3 := hq3.size
  rw [itoa_2]
  unfold leafV
  go_wp2_with fail
  obtain ⟨w4, hw4⟩ : ∃ w4, w4 = w3.alloc (.cells #[.int .i64 3, .bool false, str [49], .slice none 0 0, .slice none 0 0, .int .i64 3, .bool false, str [50], .slice none 0 0, .slice none 0 0] 26) := ⟨_, rfl⟩
  have hq4 : Below w3.heap.size w3 w4 := by rw [hw4]; exact (Below.refl _ _).alloc (Nat.le_refl _) _
  have hr4 : w4.heap[w3.heap.size]? = some (.cells #[.int .i64 3, .bool false, str [49], .slice none 0 0, .slice none 0 0, .int .i64 3, .bool false, str [50], .slice none 0 0, .slice none 0 0] 26 (0, 0)) := by rw [hw4]; exact heap_alloc_new _ _
  have hb4 := hb3.trans (hq4.mono (by omega))
  have hk4 := (hq4.block w.heap.size (by omega)).trans hk3
  have hs4 := hq4.size
  rw [← hw4]
  clear hw4
  obtain ⟨hrow, hvals⟩ := row_two hr4 (by decide) (by decide)
  have CO := object_val [[98], [97]] [one02, two02] _ _ _ w4 (strs_two hk4) hrow hvals (by decide) (by rw [sizeL, sizeL, sizeL, one02, two02, sizeV, sizeV, sizeL]; omega) (by intro x hx; simp at hx; rcases hx with rfl | rfl <;> rfl)
  have hobj : (if ([[98], [97]] : List (List UInt8)).length = [one02, two02].length then objT (.mk 6 false [] [] []) [[98], [97]] [one02, two02] else (VT.none, 1)) = (obj02, 0) := by rfl
  rw [hobj] at CO
  clear hobj hrow hvals hr4 hk1 hk2 hk3 hk4 hq2 hq3 hq4
  refine CO.mono ?_
  rintro e w5 ⟨v5, F5, rfl, ho5, _, _, hq5⟩
  have hb5 := hb4.trans (hq5.mono (by omega))
  have hs5 := hq5.size
  have hat5 := ho5.at
  obtain ⟨ai, ci, ak, ck, hv5⟩ := hat5.form
  have hv5 : v5 = .agg #[.int .i64 6, .bool false, .string ⟨#[]⟩, .slice ai 2 ci, .slice ak 2 ck] := hv5
  subst hv5
  have HAT := Lib.hid hat5
  clear hat5 CO hq5 ho5
  obtain ⟨w6, hw6⟩ : ∃ w6, w6 = w5.alloc (.cells #[.int .i64 6, .bool false, .string ⟨#[]⟩, .slice ai 2 ci, .slice ak 2 ck] 26) := ⟨_, rfl⟩
  obtain ⟨_, _, _, _, d4, hs6, hq6⟩ := box5 hw6
  obtain ⟨e0, e1, e2, e3, e4, _, _⟩ := box5 hw6
  have hb6 := hb5.trans (hq6.mono (by omega))
  have hat6 := HAT.out.mono hq6
  have HAT6 := Lib.hid hat6
  clear hat6
  go_upto_region 2 with fail
  rw [← hw6]
  clear hw6
  go_wp2_with fail
  have hget : getT obj02 [97] = (two02, true) := by rfl
  have CG := get_val obj02 _ [97] w6 HAT6.out (by rfl) (by rfl) (by rw [obj02, sizeV, sizeL, sizeL, sizeL, one02, two02, sizeV, sizeV, sizeL]; omega)
  rw [hget] at CG
  clear hget
  refine CG.mono ?_
  rintro e w7 ⟨v7, F7, rfl, ho7, _, _, hq7⟩
  have hb7 := hb6.trans (hq7.mono (by omega))
  have hs7 := hq7.size
  obtain ⟨bi, di, bk, dk, hv7⟩ := ho7.at.form
  have hv7 : v7 = .agg #[.int .i64 3, .bool false, str [50], .slice bi 0 di, .slice bk 0 dk] := hv7
  subst hv7
  clear CG ho7
  have hat7 := HAT6.out.mono hq7
  have f4 := box_at d4 hs6 hq7
  obtain ⟨vi', vk', vs', he, _, hst, _, _⟩ := hat7.agg
  cases he
  obtain ⟨kb, ko, rfl, hkb, hkc⟩ := StrsAt.get hst (i := 0) (by decide)
  have hkc : w7.cell? ⟨kb, ko + 0, none⟩ = some (str [97]) := hkc
  obtain ⟨w8, hw8⟩ : ∃ w8, w8 = w7.alloc (.cells #[.int .i64 3, .bool false, .string ⟨#[50]⟩, .slice bi 0 di, .slice bk 0 dk] 26) := ⟨_, rfl⟩
  obtain ⟨_, _, g2, _, _, hs8, hq8⟩ := box5 hw8
  have hb8 := hb7.trans (hq8.mono (by omega))
  have l4 := (hq8.cell (p := ⟨w5.heap.size, 4, none⟩) (by show w5.heap.size < w7.heap.size; omega)).trans f4
  have lk := (hq8.cell (p := ⟨kb, ko + 0, none⟩) hkb).trans hkc
  rw [Nat.add_zero] at lk
  have hs8' : w.heap.size ≤ w8.heap.size := hb8.size
  clear hat7 hst hkc HAT HAT6 e0 e1 e2 e3 e4 d4 f4 hq6 hq7 hs1 hs2 hs3 hs4
  go_upto_region 3 with fail
  rw [← hw8]
  clear hw8
  go_wp2_with fail
  refine (null_val w8).mono ?_
  rintro e w9 ⟨rfl, hq9⟩
  have hb9 := hb8.trans (hq9.mono hs8')
  unfold leafV
  clear hq9 l4 lk g2
  go_wp2_with fail
  refine (bool_val false w9).mono ?_
  rintro e w10 ⟨rfl, hq10⟩
  have hb10 := hb9.trans (hq10.mono hb9.size)
  unfold leafV
  go_wp2_with fail
  have hc1 : cmpV (.mk 0 false [] [] []) (.mk 2 false [] [] []) = -1 := by kernel_rfl
  have C1 := cmp_val (.mk 0 false [] [] []) (.mk 2 false [] [] []) _ _ w10 (leaf_own w10 0 false [] (by decide)).at (leaf_own w10 2 false [] (by decide)).at (HT.out.mono hb10)
  rw [hc1] at C1
  unfold leafV at C1
  refine C1.mono ?_
  rintro e w11 ⟨rfl, hq11⟩
  have hb11 := hb10.trans (hq11.mono hb10.size)
  clear hc1 C1 hq10 hq11
  go_wp2_with fail
  refine (int_val 2 (by decide) (by decide) w11 (HT.out.mono hb11)).mono ?_
  rintro e w12 ⟨rfl, hq12⟩
  have hb12 := hb11.trans (hq12.mono hb11.size)
  rw [itoa_2]
  unfold leafV
  go_wp2_with fail
  refine (int_val 10 (by decide) (by decide) w12 (HT.out.mono hb12)).mono ?_
  rintro e w13 ⟨rfl, hq13⟩
  have hb13 := hb12.trans (hq13.mono hb12.size)
  rw [itoa_10]
  unfold leafV
  go_wp2_with fail
  have hc2 : cmpV (.mk 3 false [50] [] []) (.mk 3 false [49, 48] [] []) = -1 := by
    rw [cmpV_mk, if_pos rfl, if_neg (by decide), if_pos rfl, ← itoa_2, ← itoa_10, cmpR_itoa (by decide) (by decide)]
    rfl
  have C2 := cmp_val (.mk 3 false [50] [] []) (.mk 3 false [49, 48] [] []) _ _ w13 (leaf_own w13 3 false [50] (by decide)).at (leaf_own w13 3 false [49, 48] (by decide)).at (HT.out.mono hb13)
  rw [hc2] at C2
  unfold leafV at C2
  refine C2.mono ?_
  rintro e w14 ⟨rfl, hq14⟩
  have hb14 := hb13.trans (hq14.mono hb13.size)
  clear hc2 C2 hq12 hq13 hq14
  go_wp2_with fail
  refine (text_val [50] w14).mono ?_
  rintro e w15 ⟨rfl, hq15⟩
  have hb15 := hb14.trans (hq15.mono hb14.size)
  unfold leafV
  go_wp2_with fail
  refine (text_val [49, 48] w15).mono ?_
  rintro e w16 ⟨rfl, hq16⟩
  have hb16 := hb15.trans (hq16.mono hb15.size)
  unfold leafV
  go_wp2_with fail
  have hc3 : cmpV (.mk 4 false [50] [] []) (.mk 4 false [49, 48] [] []) = 1 := by kernel_rfl
  have C3 := cmp_val (.mk 4 false [50] [] []) (.mk 4 false [49, 48] [] []) _ _ w16 (leaf_own w16 4 false [50] (by decide)).at (leaf_own w16 4 false [49, 48] (by decide)).at (HT.out.mono hb16)
  rw [hc3] at C3
  unfold leafV at C3
  refine C3.mono ?_
  rintro e w17 ⟨rfl, hq17⟩
  have hb17 := hb16.trans (hq17.mono hb16.size)
  clear hc3 C3 hq15 hq16 hq17
  go_wp2
  go_ret
  exact ⟨rfl, hb17⟩

end Go.Proofs.YtgbalofdfdafmaaDoor
