/- The walk of value.Get. -/
import Derived.Test.YtgbalofdfdafmaaDoorValC
import Derived.Test.YtgbalofdfdafmaaDoorSrch
import Derived.Test.YtgbalofdfdafmaaDoorValE
namespace Go.Proofs.YtgbalofdfdafmaaDoor
open Go.RowKit
set_option maxRecDepth 100000
attribute [local go_sem] str_size str_toList str_get

/-- What Get leaves: the item in new memory, and whether there is one. -/
def GetPost (x : VT) (is : Bool) (w : World) (e : Ending) (w' : World) : Prop :=
  ∃ v' F, e = .returned (.tuple #[v', .bool is]) ∧ OwnVal w' x v' F ∧ F.Nodup ∧ (∀ b ∈ F, w.heap.size ≤ b) ∧ Below w.heap.size w w'
theorem ownVal_none (w : World) : OwnVal w VT.none (.agg #[.int .i64 0, .bool false, .string ⟨#[]⟩, .slice none 0 0, .slice none 0 0]) [] := by
  unfold VT.none
  rw [OwnVal]
  exact ⟨.slice none 0 0, .slice none 0 0, [], [], [], [], rfl, by simp, OwnS.nil _ _ _, OwnS.nil _ _ _, rfl, rfl, by rw [OwnVals]; exact ⟨rfl, rfl⟩⟩
theorem plainV_rising {t : VT} (h : plainV t = true) : rising t.keys = true := by
  cases t with
  | mk k b tx its ks =>
    rw [plainV, Bool.and_eq_true] at h
    have h := h.1
    unfold nodeOk keysOk at h
    simp only [Bool.and_eq_true] at h
    exact h.2.2
theorem fitV_len {t : VT} (h : fitV t = true) : t.keys.length ≤ t.items.length := by
  cases t with
  | mk k b tx its ks => exact (fitV_mk.1 h).1
theorem fitV_mem {t x : VT} (h : fitV t = true) (hx : x ∈ t.items) : fitV x = true := by
  cases t with
  | mk k b tx its ks => exact (fitV_mk.1 h).2 x hx
theorem sizeV_mem {t x : VT} (hx : x ∈ t.items) : sizeV x < sizeV t := by
  cases t with
  | mk k b tx its ks =>
    have : sizeV x ≤ sizeL its := sizeL_mem hx
    rw [sizeV]
    omega
theorem sizeV_len (t : VT) : t.items.length < sizeV t := by
  cases t with
  | mk k b tx its ks =>
    have := sizeL_len its
    rw [sizeV]
    show its.length < _
    omega

set_option maxHeartbeats 2000000 in
theorem get_val (t : VT) (v : Value) (key : List UInt8) (w : World) (h : ValAt w t v) (hris : rising t.keys = true) (hp : fitV t = true) (hs : sizeV t ≤ 1000000) :
    Calls Tryd.prog 16 #[v, str key] w (GetPost (getT t key).1 (getT t key).2 w) := by
  have hkl := fitV_len hp
  have hil := sizeV_len t
  have hmem := fun x => fitV_mem (x := x) hp
  have hsm := fun x => sizeV_mem (t := t) (x := x)
  obtain ⟨vi, vk, vs, rfl, hk, hks, hr, hv⟩ := h.agg
  have hks0 := hks
  obtain ⟨ak, ck, rfl, _⟩ := hks
  have hr0 := hr
  obtain ⟨ao, cap, rfl, hm, _⟩ := hr
  obtain ⟨wP, hwP⟩ : ∃ wP, wP = w.alloc (.cells #[.int .i64 t.kind, .bool t.flag, str t.text, .slice ao t.items.length cap, .slice ak t.keys.length ck] 26) := ⟨_, rfl⟩
  obtain ⟨m0, m1, m2, m3, m4, hsP, hbP⟩ := box5 hwP
  obtain ⟨wQ, hwQ⟩ : ∃ wQ, wQ = wP.alloc (.cells #[.int .i64 0, .bool false, .string ⟨#[]⟩, .slice none 0 0, .slice none 0 0] 26) := ⟨_, rfl⟩
  have hnQ : wQ.heap[w.heap.size + 1]? = some (.cells #[.int .i64 0, .bool false, .string ⟨#[]⟩, .slice none 0 0, .slice none 0 0] 26 (0, 0)) := by
    rw [hwQ, ← hsP]; exact heap_alloc_new _ _
  obtain ⟨_, _, _, _, _, hsQ, hbQ⟩ := box5 hwQ
  have k0 := box_at m0 hsP hbQ
  have k3 := box_at m3 hsP hbQ
  have k4 := box_at m4 hsP hbQ
  have hbPQ : Below w.heap.size w wQ := hbP.trans (hbQ.mono (by omega))
  have CS := search_keys t.keys _ key wQ (hks0.mono hbPQ) hris (by omega)
  have hzz : wQ.heap.size = w.heap.size + 2 := by omega
  have HN := Lib.hid hnQ
  clear m0 m1 m2 m3 m4 hks0 hnQ
  have hno : ∀ W, Below w.heap.size w W → GetPost VT.none false w (.returned (.tuple #[.agg #[.int .i64 0, .bool false, .string ⟨#[]⟩, .slice none 0 0, .slice none 0 0], .bool false])) W := fun W hW =>
    ⟨_, [], rfl, ownVal_none W, by simp, by simp, hW⟩
  have HNO := Lib.hid hno
  clear hno
  by_cases hc : hasK t.keys key = true ∧ t.kind = 6
  · obtain ⟨hc1, hc2⟩ := id hc
    have hpos := (hasK_iff.1 hc1).1
    have hpi : posK t.keys key < t.items.length := by omega
    have hg : getT t key = (t.items[posK t.keys key], true) := by
      unfold getT
      rw [if_pos hc]
      simp [List.getD, hpi]
    rw [hg]
    rw [hc1] at CS
    have hk6 : (t.kind == 6) = true := by simpa using hc2
    obtain ⟨p, hpe⟩ : ∃ p, posK t.keys key = p := ⟨_, rfl⟩
    have HX := fun W (hW : Below w.heap.size w W) => RowAt.at hr0 hv hW hpi
    have CC := fun v W (hx : ValAt W t.items[posK t.keys key] v) => clone_val t.items[posK t.keys key] v W hx (hmem _ (List.getElem_mem hpi)) (by have := hsm _ (List.getElem_mem hpi); omega)
    obtain ⟨x, hxe⟩ : ∃ x, t.items[posK t.keys key] = x := ⟨_, rfl⟩
    rw [hxe] at HX CC
    simp only [hxe]
    rw [hpe] at hpi hpos HX CS
    have HXX := Lib.hid HX
    have hpi' : (p : Int) < (t.items.length : Int) := by omega
    clear HX hxe hg hc hc1 hc2 hmem hsm hpe hp h hr0 hv hris
    go_enter Tryd.func16, Tryd.ntmps16
    go_upto_region 1 with fail
    rw [← hwP, ← hwQ]
    clear hwP hwQ
    go_wp2_with fail
    refine CS.mono ?_
    rintro e w1 ⟨rfl, hq1⟩
    have hq1s := hq1.size
    have j0 := (hq1.cell (p := ⟨w.heap.size, 0, none⟩) (by show w.heap.size < wQ.heap.size; omega)).trans k0
    have j3 := (hq1.cell (p := ⟨w.heap.size, 3, none⟩) (by show w.heap.size < wQ.heap.size; omega)).trans k3
    have hb1 := hbPQ.trans (hq1.mono (by omega))
    obtain ⟨b, off, ai, ci, ak', ck', rfl, hlt, hx, h0, h1, h2, h3, h4⟩ := HXX.out w1 hb1
    clear HXX CS
    go_wp2_with fail
    refine (CC _ _ hx).mono ?_
    intro e w2 hcl
    have hcl0 := hcl
    obtain ⟨v', F, rfl, hov, hnd, hge, hb2⟩ := hcl
    obtain ⟨ai', ci', ak2, ck2, rfl⟩ := hov.at.form
    have hr2 := (hb2.block (w.heap.size + 1) (by omega)).trans ((hq1.block (w.heap.size + 1) (by omega)).trans HN.out)
    obtain ⟨z0, z1, z2, z3, z4, y0, y1, y2, y3, y4⟩ := free5 hr2
    obtain ⟨w5, hw5, hr5, hz5, hk5, hB5⟩ := put_box5 hr2 (.int .i64 x.kind) (.bool x.flag) (.string ⟨x.text.toArray⟩) (.slice ai' x.items.length ci') (.slice ak2 x.keys.length ck2)
    obtain ⟨p0, p1, p2, p3, p4, _, _⟩ := cell_box5 hr5
    have hfin := hcl0.box hb1 (fun k hk => hk5 k (by omega)) (hB5 _ _ (by omega) (hb1.trans (hb2.mono (by omega))))
    have HF := Lib.hid hfin
    have HW := Lib.hid hw5
    clear hcl0 hfin hw5 hr2 hr5 hk5 hB5 hov hnd hge hx CC h0 h1 h2 h3 h4 hlt j0 j3 k0 k3 k4 HN HNO
    go_wp2
    rw [← HW.out]
    refine bodyPost_ret (v := .tuple #[.agg #[.int .i64 x.kind, .bool x.flag, str x.text, .slice ai' x.items.length ci', .slice ak2 x.keys.length ck2], .bool true]) (by simp [results, go_sem, p0, p1, p2, p3, p4]) rfl ?_
    obtain ⟨v', F, he, g1, g2, g3, g4⟩ := HF.out
    cases he
    exact ⟨_, F, rfl, g1, g2, g3, g4⟩
  · have hg : getT t key = (VT.none, false) := by
      unfold getT
      rw [if_neg hc]
    rw [hg]
    obtain ⟨z0, z1, z2, z3, z4, y0, y1, y2, y3, y4⟩ := free5 HN.out
    cases hh : hasK t.keys key with
    | false =>
      rw [hh] at CS
      clear hg hc hh hmem hsm hp h hr0 hv hris z0 z1 z2 z3 z4 y0 y1 y2 y3 y4
      go_enter Tryd.func16, Tryd.ntmps16
      go_upto_region 1 with fail
      rw [← hwP, ← hwQ]
      clear hwP hwQ
      go_wp2_with fail
      refine CS.mono ?_
      rintro e w1 ⟨rfl, hq1⟩
      have hb1 := hbPQ.trans (hq1.mono (by omega))
      have hr2 := (hq1.block (w.heap.size + 1) (by omega)).trans HN.out
      obtain ⟨z0, z1, z2, z3, z4, y0, y1, y2, y3, y4⟩ := free5 hr2
      obtain ⟨w5, hw5, hr5, hz5, hk5, hB5⟩ := put_box5 hr2 (.int .i64 0) (.bool false) (.string ⟨#[]⟩) (.slice none 0 0) (.slice none 0 0)
      obtain ⟨p0, p1, p2, p3, p4, _, _⟩ := cell_box5 hr5
      have hB := hB5 _ _ (by omega) hb1
      have HW := Lib.hid hw5
      clear CS hq1 hr2 hw5 hr5 hk5 hB5 HN k0 k3 k4
      go_wp2
      rw [← HW.out]
      exact bodyPost_ret (v := .tuple #[.agg #[.int .i64 0, .bool false, .string ⟨#[]⟩, .slice none 0 0, .slice none 0 0], .bool false]) (by simp [results, go_sem, p0, p1, p2, p3, p4]) rfl (HNO.out _ hB)
    | true =>
      have hk6 : (t.kind == 6) = false := by
        rw [beq_eq_false_iff_ne]
        exact fun h6 => hc ⟨hh, h6⟩
      rw [hh] at CS
      clear hg hc hh hmem hsm hp h hr0 hv hris z0 z1 z2 z3 z4 y0 y1 y2 y3 y4
      go_enter Tryd.func16, Tryd.ntmps16
      go_upto_region 1 with fail
      rw [← hwP, ← hwQ]
      clear hwP hwQ
      go_wp2_with fail
      refine CS.mono ?_
      rintro e w1 ⟨rfl, hq1⟩
      have j0 := (hq1.cell (p := ⟨w.heap.size, 0, none⟩) (by show w.heap.size < wQ.heap.size; omega)).trans k0
      have hb1 := hbPQ.trans (hq1.mono (by omega))
      have hr2 := (hq1.block (w.heap.size + 1) (by omega)).trans HN.out
      obtain ⟨z0, z1, z2, z3, z4, y0, y1, y2, y3, y4⟩ := free5 hr2
      obtain ⟨w5, hw5, hr5, hz5, hk5, hB5⟩ := put_box5 hr2 (.int .i64 0) (.bool false) (.string ⟨#[]⟩) (.slice none 0 0) (.slice none 0 0)
      obtain ⟨p0, p1, p2, p3, p4, _, _⟩ := cell_box5 hr5
      have hB := hB5 _ _ (by omega) hb1
      have HW := Lib.hid hw5
      clear CS hq1 hr2 hw5 hr5 hk5 hB5 HN k0 k3 k4
      go_wp2
      rw [← HW.out]
      exact bodyPost_ret (v := .tuple #[.agg #[.int .i64 0, .bool false, .string ⟨#[]⟩, .slice none 0 0, .slice none 0 0], .bool false]) (by simp [results, go_sem, p0, p1, p2, p3, p4]) rfl (HNO.out _ hB)

end Go.Proofs.YtgbalofdfdafmaaDoor
