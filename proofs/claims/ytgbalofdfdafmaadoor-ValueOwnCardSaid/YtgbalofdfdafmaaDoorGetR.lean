/- The walk of the document's Get. -/
import Derived.Test.YtgbalofdfdafmaaDoorAtR
import Derived.Test.YtgbalofdfdafmaaDoorGet
namespace Go.Proofs.YtgbalofdfdafmaaDoor
open Go.RowKit
set_option maxRecDepth 100000
attribute [local go_sem] str_size str_toList str_get

set_option maxHeartbeats 2000000 in
theorem get_rval (t : VT) (v : Value) (key : List UInt8) (w : World) (h : ValAt w t v) (hris : rising t.keys = true) (hkl : t.keys.length ≤ t.items.length) :
    Calls Tryd.prog 17 #[v, str key] w fun e w' => (∃ v', e = .returned (.tuple #[v', .bool (getT t key).2]) ∧ ValAt w' (getT t key).1 v') ∧ Below w.heap.size w w' := by
  have h0 := h
  obtain ⟨vi, vk, vs, rfl, hk, hks, hr, hv⟩ := h.agg
  obtain ⟨ak, ck, rfl, _⟩ := hks
  have hr0 := hr
  obtain ⟨ao, cap, rfl, hm, _⟩ := hr
  obtain ⟨wP, hwP⟩ : ∃ wP, wP = w.alloc (.cells #[.int .i64 t.kind, .bool t.flag, str t.text, .slice ao t.items.length cap, .slice ak t.keys.length ck] 26) := ⟨_, rfl⟩
  obtain ⟨m0, m1, m2, m3, m4, hsP, hbP⟩ := box5 hwP
  obtain ⟨wQ, hwQ⟩ : ∃ wQ, wQ = wP.alloc (.cells #[.int .i64 0, .bool false, .string ⟨#[]⟩, .slice none 0 0, .slice none 0 0] 26) := ⟨_, rfl⟩
  have hnQ : wQ.heap[w.heap.size + 1]? = some (.cells #[.int .i64 0, .bool false, .string ⟨#[]⟩, .slice none 0 0, .slice none 0 0] 26 (0, 0)) := by
    rw [hwQ, ← hsP]; exact heap_alloc_new _ _
  obtain ⟨_, _, _, _, _, hsQ, hbQ⟩ := box5 hwQ
  have hbPQ : Below w.heap.size w wQ := hbP.trans (hbQ.mono (by omega))
  have k0 := box_at m0 hsP hbQ
  have k1 := box_at m1 hsP hbQ
  have k2 := box_at m2 hsP hbQ
  have k3 := box_at m3 hsP hbQ
  have k4 := box_at m4 hsP hbQ
  have CS := at_rval t _ key wQ (h0.mono hbPQ)
  rw [atI_rising hris] at CS
  have HN := Lib.hid hnQ
  clear m0 m1 m2 m3 m4 hnQ h0 hris
  have hno : ∀ W, Below w.heap.size w W → ValAt W VT.none (.agg #[.int .i64 0, .bool false, .string ⟨#[]⟩, .slice none 0 0, .slice none 0 0]) := fun W hW => (ownVal_none W).at
  have HNO := Lib.hid hno
  clear hno
  by_cases hc : hasK t.keys key = true ∧ t.kind = 6
  · obtain ⟨hc1, hc2⟩ := id hc
    have hpos := (hasK_iff.1 hc1).1
    have hpi : posK t.keys key < t.items.length := by omega
    have hg : getT t key = (t.items[posK t.keys key], true) := by
      unfold getT
      rw [if_pos hc]
      simp [List.getD, hpi]
    rw [hg]
    rw [if_pos hc1] at CS
    have hk6 : (t.kind == 6) = true := by simpa using hc2
    obtain ⟨p, hpe⟩ : ∃ p, posK t.keys key = p := ⟨_, rfl⟩
    have HX := fun W (hW : Below w.heap.size w W) => RowAt.at hr0 hv hW hpi
    obtain ⟨x, hxe⟩ : ∃ x, t.items[posK t.keys key] = x := ⟨_, rfl⟩
    rw [hxe] at HX
    simp only [hxe]
    rw [hpe] at hpi hpos HX CS
    have HXX := Lib.hid HX
    have hpi' : (p : Int) < (t.items.length : Int) := by omega
    have hpn : decide ((p : Int) < 0) = false := by simp
    clear HX hxe hg hc hc1 hc2 hpe hr0 hv
    go_enter Tryd.func17, Tryd.ntmps17
    go_upto_region 1 with fail
    rw [← hwP, ← hwQ]
    clear hwP hwQ
    go_wp2_with fail
    refine CS.mono ?_
    rintro e w1 ⟨rfl, hq1⟩
    have hq1s := hq1.size
    have j0 := (hq1.cell (p := ⟨w.heap.size, 0, none⟩) (by show w.heap.size < wQ.heap.size; omega)).trans k0
    have j3 := (hq1.cell (p := ⟨w.heap.size, 3, none⟩) (by show w.heap.size < wQ.heap.size; omega)).trans k3
    have hb1 := hbPQ.trans (hq1.mono (by omega))
    obtain ⟨b, off, ai, ci, ak', ck', rfl, hlt, hx, h0, h1, h2, h3, h4⟩ := HXX.out w (Below.refl _ _)
    have h0 := (hb1.cell (p := ⟨b, off + p * 5, none⟩) hlt).trans h0
    have h1 := (hb1.cell (p := ⟨b, off + p * 5 + 1, none⟩) hlt).trans h1
    have h2 := (hb1.cell (p := ⟨b, off + p * 5 + 2, none⟩) hlt).trans h2
    have h3 := (hb1.cell (p := ⟨b, off + p * 5 + 3, none⟩) hlt).trans h3
    have h4 := (hb1.cell (p := ⟨b, off + p * 5 + 4, none⟩) hlt).trans h4
    have hr2 := (hq1.block (w.heap.size + 1) (by omega)).trans HN.out
    obtain ⟨z0, z1, z2, z3, z4, y0, y1, y2, y3, y4⟩ := free5 hr2
    obtain ⟨w5, hw5, hr5, hz5, hk5, hB5⟩ := put_box5 hr2 (.int .i64 x.kind) (.bool x.flag) (.string ⟨x.text.toArray⟩) (.slice ai x.items.length ci) (.slice ak' x.keys.length ck')
    obtain ⟨p0, p1, p2, p3, p4, _, _⟩ := cell_box5 hr5
    have hB := hB5 _ _ (by omega) hb1
    have hx' := hx.mono hB
    have hlt1 : b < w1.heap.size := Nat.lt_of_lt_of_le hlt hb1.size
    have HF := Lib.hid (show ValAt w5 x (.agg #[.int .i64 x.kind, .bool x.flag, str x.text, .slice ai x.items.length ci, .slice ak' x.keys.length ck']) ∧ Below w.heap.size w w5 from ⟨hx', hB⟩)
    have HW := Lib.hid hw5
    clear HXX CS hq1 hr2 hr5 hk5 hB5 hw5 HN HNO k0 k1 k2 k3 k4 hx hx' hB hlt
    go_wp2
    rw [← HW.out]
    exact bodyPost_ret (v := .tuple #[.agg #[.int .i64 x.kind, .bool x.flag, str x.text, .slice ai x.items.length ci, .slice ak' x.keys.length ck'], .bool true]) (by simp [results, go_sem, p0, p1, p2, p3, p4]) rfl ⟨⟨_, rfl, HF.out.1⟩, HF.out.2⟩
  · have hg : getT t key = (VT.none, false) := by
      unfold getT
      rw [if_neg hc]
    rw [hg]
    by_cases hh : hasK t.keys key = true
    · have hk6 : (t.kind == 6) = false := by
        rw [beq_eq_false_iff_ne]
        exact fun h6 => hc ⟨hh, h6⟩
      rw [if_pos hh] at CS
      have hpos := (hasK_iff.1 hh).1
      obtain ⟨p, hpe⟩ : ∃ p, posK t.keys key = p := ⟨_, rfl⟩
      rw [hpe] at CS hpos
      have hpn : decide ((p : Int) < 0) = false := by simp
      clear hg hc hh hr0 hv hpe
      go_enter Tryd.func17, Tryd.ntmps17
      go_upto_region 1 with fail
      rw [← hwP, ← hwQ]
      clear hwP hwQ
      go_wp2_with fail
      refine CS.mono ?_
      rintro e w1 ⟨rfl, hq1⟩
      have j0 := (hq1.cell (p := ⟨w.heap.size, 0, none⟩) (by show w.heap.size < wQ.heap.size; omega)).trans k0
      have hb1 := hbPQ.trans (hq1.mono (by omega))
      have hr2 := (hq1.block (w.heap.size + 1) (by omega)).trans HN.out
      obtain ⟨z0, z1, z2, z3, z4, y0, y1, y2, y3, y4⟩ := free5 hr2
      obtain ⟨w5, hw5, hr5, hz5, hk5, hB5⟩ := put_box5 hr2 (.int .i64 0) (.bool false) (.string ⟨#[]⟩) (.slice none 0 0) (.slice none 0 0)
      obtain ⟨p0, p1, p2, p3, p4, _, _⟩ := cell_box5 hr5
      have hB := hB5 _ _ (by omega) hb1
      have HW := Lib.hid hw5
      clear CS hq1 hr2 hw5 hr5 hk5 hB5 HN k0 k1 k2 k3 k4
      go_wp2
      rw [← HW.out]
      exact bodyPost_ret (v := .tuple #[.agg #[.int .i64 0, .bool false, .string ⟨#[]⟩, .slice none 0 0, .slice none 0 0], .bool false]) (by simp [results, go_sem, p0, p1, p2, p3, p4]) rfl ⟨⟨_, rfl, HNO.out _ hB⟩, hB⟩
    · rw [if_neg hh] at CS
      clear hg hc hh hr0 hv
      go_enter Tryd.func17, Tryd.ntmps17
      go_upto_region 1 with fail
      rw [← hwP, ← hwQ]
      clear hwP hwQ
      go_wp2_with fail
      refine CS.mono ?_
      rintro e w1 ⟨rfl, hq1⟩
      have hb1 := hbPQ.trans (hq1.mono (by omega))
      have hr2 := (hq1.block (w.heap.size + 1) (by omega)).trans HN.out
      obtain ⟨z0, z1, z2, z3, z4, y0, y1, y2, y3, y4⟩ := free5 hr2
      obtain ⟨w5, hw5, hr5, hz5, hk5, hB5⟩ := put_box5 hr2 (.int .i64 0) (.bool false) (.string ⟨#[]⟩) (.slice none 0 0) (.slice none 0 0)
      obtain ⟨p0, p1, p2, p3, p4, _, _⟩ := cell_box5 hr5
      have hB := hB5 _ _ (by omega) hb1
      have HW := Lib.hid hw5
      clear CS hq1 hr2 hw5 hr5 hk5 hB5 HN k0 k1 k2 k3 k4
      go_wp2
      rw [← HW.out]
      exact bodyPost_ret (v := .tuple #[.agg #[.int .i64 0, .bool false, .string ⟨#[]⟩, .slice none 0 0, .slice none 0 0], .bool false]) (by simp [results, go_sem, p0, p1, p2, p3, p4]) rfl ⟨⟨_, rfl, HNO.out _ hB⟩, hB⟩

end Go.Proofs.YtgbalofdfdafmaaDoor
