/- The walk of value.Put. Printed by genputo.py. -/
import Derived.Test.YtgbalofdfdafmaaDoorPut
import Derived.Test.YtgbalofdfdafmaaDoorList
import Derived.Deep.RegionWith
namespace Go.Proofs.YtgbalofdfdafmaaDoor
open Go.RowKit
set_option maxRecDepth 100000
attribute [local go_sem] str_size str_toList str_get

set_option maxHeartbeats 8000000 in
theorem putO_val (t : VT) (v : Value) (key : List UInt8) (x : VT) (vx : Value) (w : World) (h : ValAt w t v) (hx : ValAt w x vx) (hft : fitV t = true) (hrt : rising t.keys = true) (hkt : t.kind = 6 → t.keys.length = t.items.length) (hst : sizeV t ≤ 1000000) (hfx : fitV x = true) (hsx : sizeV x ≤ 1000000) :
    Calls Tryd.prog 18 #[v, str key, vx] w fun e w' => ∃ v', e = .returned v' ∧ OwnNew (putO t key x) w v' w' := by
  obtain ⟨ai, ci, ak, ck, rfl⟩ := h.form
  obtain ⟨bi, di, bk, dk, rfl⟩ := hx.form
  obtain ⟨wP, hwP⟩ : ∃ wP, wP = w.alloc (.cells #[.int .i64 t.kind, .bool t.flag, str t.text, .slice ai t.items.length ci, .slice ak t.keys.length ck] 26) := ⟨_, rfl⟩
  obtain ⟨m0, m1, m2, m3, m4, hsP, hbP⟩ := box5 hwP
  obtain ⟨wQ, hwQ⟩ : ∃ wQ, wQ = wP.alloc (.cells #[.int .i64 x.kind, .bool x.flag, str x.text, .slice bi x.items.length di, .slice bk x.keys.length dk] 26) := ⟨_, rfl⟩
  obtain ⟨n0, n1, n2, n3, n4, hsQ, hbQ⟩ := box5 hwQ
  obtain ⟨wR, hwR⟩ : ∃ wR, wR = wQ.alloc (.cells #[.int .i64 0, .bool false, .string ⟨#[]⟩, .slice none 0 0, .slice none 0 0] 26) := ⟨_, rfl⟩
  have hbq : wR.heap[w.heap.size]? = some (.cells #[.int .i64 t.kind, .bool t.flag, str t.text, .slice ai t.items.length ci, .slice ak t.keys.length ck] 26 (0, 0)) := by
    rw [hwR, Below.heap_alloc _ _ _ (by omega), hwQ, Below.heap_alloc _ _ _ (by omega), hwP]; exact heap_alloc_new _ _
  have hbr : wR.heap[w.heap.size + 1]? = some (.cells #[.int .i64 x.kind, .bool x.flag, str x.text, .slice bi x.items.length di, .slice bk x.keys.length dk] 26 (0, 0)) := by
    rw [hwR, Below.heap_alloc _ _ _ (by omega), hwQ, ← hsP]; exact heap_alloc_new _ _
  have hbp : wR.heap[w.heap.size + 1 + 1]? = some (.cells #[.int .i64 0, .bool false, .string ⟨#[]⟩, .slice none 0 0, .slice none 0 0] 26 (0, 0)) := by
    rw [hwR, show w.heap.size + 1 + 1 = wQ.heap.size by omega]; exact heap_alloc_new _ _
  obtain ⟨_, _, _, _, _, hsR, hbR⟩ := box5 hwR
  have hb0 : Below w.heap.size w wR := (hbP.trans (hbQ.mono (by omega))).trans (hbR.mono (by omega))
  have hsz : wR.heap.size = w.heap.size + 3 := by omega
  have hvX := hx.mono hb0
  have hxx := hx
  clear m0 m1 m2 m3 m4 n0 n1 n2 n3 n4 hbP hbQ hbR hx
  by_cases h6 : t.kind = 6
  · have hput : putO t key x = putT t key x := by unfold putO; rw [if_pos h6]
    rw [hput]
    obtain ⟨T, hT⟩ : ∃ T, putT t key x = T := ⟨_, rfl⟩
    rw [hT]
    have HT := Lib.hid hT
    clear hT
    have h6a : (t.kind != 6) = false := by simpa using h6
    have hvB := h.mono hb0
    have hfB := hft
    have hszB := hst
    have hrB := hrt
    have KB := Lib.hid (hkt h6)
    have hlB : t.items.length ≤ 1000000 := by have := sizeV_len t; omega
    have h6b : (t.kind == 6) = true := by simpa using h6
    clear hput h6 h hft hst hrt hkt
    obtain ⟨W0, hW0⟩ : ∃ W0, W0 = wR := ⟨_, rfl⟩
    rw [← hW0] at hvB hvX hbq hbr hbp hb0 hsz
    obtain ⟨g0, _, _, _, _, _, _⟩ := cell_box5 hbq
    go_enter Tryd.func18, Tryd.ntmps18
    go_upto_region 1 with fail
    rw [← hwP, ← hwQ, ← hwR, ← hW0]
    clear hwP hwQ hwR hW0
    have C1 := clone_val t _ W0.drew (hvB.mono (Below.refl _ W0).drew) hfB hszB
    have HV := Lib.hid hvB
    have HX := Lib.hid hvX
    have HB := Lib.hid hb0
    obtain ⟨u0, u1, u2, u3, u4, _, _⟩ := cell_box5 hbq
    obtain ⟨x0, x1, x2, x3, x4, _, _⟩ := cell_box5 hbr
    have hd0 : W0.drew.heap.size = W0.heap.size := rfl
    have CX := fun v W (h : ValAt W x v) => clone_val x v W h hfx hsx
    have CP : ∀ v1 F1 v2 F2 W, OwnVal W t v1 F1 → F1.Nodup → OwnVal W x v2 F2 → F2.Nodup → (∀ a ∈ F1, ∀ b ∈ F2, a ≠ b) → Calls Tryd.prog 40 #[v1, str key, v2] W (PutPost T F1 F2 W) := fun v1 F1 v2 F2 W h1 h2 h3 h4 h5 => by
      rw [← HT.out]
      exact put_val t v1 F1 key x v2 F2 W h1 h2 h3 h4 h5 hrB KB.out hlB
    clear hvB hvX hb0
    go_upto_region 3 with fail
    go_region_with
      (first
        | (go_at_call 15; (with_reducible refine C1.mono ?_); rintro e w3 ⟨v1, F1, rfl, a1, a2, a3, ab⟩; have ab2 : Below W0.heap.size W0 w3 := (Below.refl _ W0).drew.trans (ab.mono (Nat.le_refl _)); have asz := ab2.size; obtain ⟨f1, f2, f3, f4, rfl⟩ := a1.at.form; have hr3 := (ab2.block (w.heap.size + 1) (by omega)).trans hbr; obtain ⟨y0, y1, y2, y3, y4, _, _⟩ := cell_box5 hr3)
        | (go_at_call 15; refine (CX _ _ (HX.out.mono ab2)).mono ?_; rintro e w4 ⟨v2, F2, rfl, c1, c2, c3, cb⟩; have csz := cb.size; obtain ⟨g1, g2, g3, g4, rfl⟩ := c1.at.form)
        | (go_at_call 40; refine (CP _ F1 _ F2 w4 (a1.keep fun b hb => cb.block b (a1.lt b hb)) a2 c1 c2 (fun a ha b hb e => by have := a1.lt a ha; have := c3 b hb; omega)).mono ?_; rintro e w5 ⟨v3, F3, rfl, d1, d2, d3, d4⟩; obtain ⟨e1, e2, e3, e4, rfl⟩ := d1.at.form; have hp5 := (d4.block (w.heap.size + 1 + 1) (by omega) (fun hm => by have := a3 _ hm; omega)).trans ((cb.block (w.heap.size + 1 + 1) (by omega)).trans ((ab2.block (w.heap.size + 1 + 1) (by omega)).trans hbp)); obtain ⟨z0, z1, z2, z3, z4, s0, s1, s2, s3, s4⟩ := free5 hp5))
    all_goals
      have hb0 := HB.out
      have hbw4 : Below w.heap.size w w4 := (hb0.trans (ab2.mono (by omega))).trans (cb.mono (by omega))
      have hbw5 : Below w.heap.size w w5 := Below.spared hbw4 d4 (by omega) (fun k hk => by have := a3 k hk; omega)
      obtain ⟨w6, hw6, hr6, hz6, hk6, hB6⟩ := put_box5 hp5 (.int .i64 T.kind) (.bool T.flag) (.string ⟨T.text.toArray⟩) (.slice e1 T.items.length e2) (.slice e3 T.keys.length e4)
      obtain ⟨p0, p1, p2, p3, p4, _, _⟩ := cell_box5 hr6
      have hF3 : ∀ b ∈ F3, W0.heap.size ≤ b := fun b hb => by
        rcases d3 b hb with h | h | h
        · exact a3 b h
        · have := c3 b h; omega
        · omega
      have hfin : OwnNew T w (.agg #[.int .i64 T.kind, .bool T.flag, .string ⟨T.text.toArray⟩, .slice e1 T.items.length e2, .slice e3 T.keys.length e4]) w6 :=
        ⟨F3, d1.keep fun b hb => hk6 b (by have := hF3 b hb; omega), d2, fun b hb => by have := hF3 b hb; omega, hB6 _ _ (by omega) hbw5⟩
      have HFIN := Lib.hid hfin
      have HW := Lib.hid hw6
      clear hfin hw6 hr6 hk6 hB6 hF3 d1 d2 d3 d4 hbw4 hbw5 hb0 ab ab2 cb a1 a2 a3 c1 c2 c3 C1 CX CP u0 u1 u2 u3 u4 x0 x1 x2 x3 x4 y0 y1 y2 y3 y4 hp5 hr3 hbq hbr hbp hd0
      go_wp2
      rw [← HW.out]
      exact bodyPost_ret (v := .agg #[.int .i64 T.kind, .bool T.flag, .string ⟨T.text.toArray⟩, .slice e1 T.items.length e2, .slice e3 T.keys.length e4]) (by simp [results, go_sem, p0, p1, p2, p3, p4]) rfl ⟨_, rfl, HFIN.out⟩
  · have hput : putO t key x = putT (.mk 6 false [] [] []) key x := by unfold putO; rw [if_neg h6]
    rw [hput]
    obtain ⟨T, hT⟩ : ∃ T, putT (.mk 6 false [] [] []) key x = T := ⟨_, rfl⟩
    rw [hT]
    have HT := Lib.hid hT
    clear hT
    have h6a : (t.kind != 6) = true := by simpa using h6
    have h6b : (t.kind == 6) = false := by simpa using h6
    obtain ⟨g0, g1, g2, g3, g4, f0, f1, f2, f3, f4⟩ := free5 hbq
    obtain ⟨W0, hW0, hbq0, hz0, hk0, hB0⟩ := put_box5 hbq (.int .i64 6) (.bool false) (.string ⟨#[]⟩) (.slice none 0 0) (.slice none 0 0)
    have hvB : ValAt W0 (.mk 6 false [] [] []) (.agg #[.int .i64 6, .bool false, .string ⟨#[]⟩, .slice none 0 0, .slice none 0 0]) := (leaf_own W0 6 false [] (by decide)).at
    have hbW : Below w.heap.size w W0 := hB0 _ _ (Nat.le_refl _) hb0
    have hbr0 := (hk0 (w.heap.size + 1) (by omega)).trans hbr
    have hbp0 := (hk0 (w.heap.size + 1 + 1) (by omega)).trans hbp
    have hvX0 : ValAt W0 x (.agg #[.int .i64 x.kind, .bool x.flag, str x.text, .slice bi x.items.length di, .slice bk x.keys.length dk]) := hxx.mono hbW
    clear hbq hbr hbp hvX hb0 h6 h hft hst hrt hkt
    have hbq := hbq0
    have hbr := hbr0
    have hbp := hbp0
    have hvX := hvX0
    have hb0 := hbW
    have hsz : W0.heap.size = w.heap.size + 3 := by omega
    have hfB : fitV (.mk 6 false [] [] []) = true := rfl
    have hszB : sizeV (.mk 6 false [] [] []) ≤ 1000000 := by rw [sizeV, sizeL]; omega
    have hrB : rising (VT.mk 6 false [] [] []).keys = true := rfl
    have KB : Hid ((VT.mk 6 false [] [] []).keys.length = (VT.mk 6 false [] [] []).items.length) := rfl
    have hlB : (VT.mk 6 false [] [] []).items.length ≤ 1000000 := Nat.zero_le _
    clear hput hbq0 hbr0 hbp0 hvX0 hbW hk0 hB0
    go_enter Tryd.func18, Tryd.ntmps18
    go_upto_region 1 with fail
    rw [← hwP, ← hwQ, ← hwR]
    clear hwP hwQ hwR
    go_upto_region 3 with fail
    rw [← hW0]
    clear hW0 g0 g1 g2 g3 g4 f0 f1 f2 f3 f4
    have C1 := clone_val (.mk 6 false [] [] []) _ W0.drew (hvB.mono (Below.refl _ W0).drew) hfB hszB
    have HV := Lib.hid hvB
    have HX := Lib.hid hvX
    have HB := Lib.hid hb0
    obtain ⟨u0, u1, u2, u3, u4, _, _⟩ := cell_box5 hbq
    obtain ⟨x0, x1, x2, x3, x4, _, _⟩ := cell_box5 hbr
    have hd0 : W0.drew.heap.size = W0.heap.size := rfl
    have CX := fun v W (h : ValAt W x v) => clone_val x v W h hfx hsx
    have CP : ∀ v1 F1 v2 F2 W, OwnVal W (.mk 6 false [] [] []) v1 F1 → F1.Nodup → OwnVal W x v2 F2 → F2.Nodup → (∀ a ∈ F1, ∀ b ∈ F2, a ≠ b) → Calls Tryd.prog 40 #[v1, str key, v2] W (PutPost T F1 F2 W) := fun v1 F1 v2 F2 W h1 h2 h3 h4 h5 => by
      rw [← HT.out]
      exact put_val (.mk 6 false [] [] []) v1 F1 key x v2 F2 W h1 h2 h3 h4 h5 hrB KB.out hlB
    clear hvB hvX hb0
    go_region_with
      (first
        | (go_at_call 15; (with_reducible refine C1.mono ?_); rintro e w3 ⟨v1, F1, rfl, a1, a2, a3, ab⟩; have ab2 : Below W0.heap.size W0 w3 := (Below.refl _ W0).drew.trans (ab.mono (Nat.le_refl _)); have asz := ab2.size; obtain ⟨f1, f2, f3, f4, rfl⟩ := a1.at.form; have hr3 := (ab2.block (w.heap.size + 1) (by omega)).trans hbr; obtain ⟨y0, y1, y2, y3, y4, _, _⟩ := cell_box5 hr3)
        | (go_at_call 15; refine (CX _ _ (HX.out.mono ab2)).mono ?_; rintro e w4 ⟨v2, F2, rfl, c1, c2, c3, cb⟩; have csz := cb.size; obtain ⟨g1, g2, g3, g4, rfl⟩ := c1.at.form)
        | (go_at_call 40; refine (CP _ F1 _ F2 w4 (a1.keep fun b hb => cb.block b (a1.lt b hb)) a2 c1 c2 (fun a ha b hb e => by have := a1.lt a ha; have := c3 b hb; omega)).mono ?_; rintro e w5 ⟨v3, F3, rfl, d1, d2, d3, d4⟩; obtain ⟨e1, e2, e3, e4, rfl⟩ := d1.at.form; have hp5 := (d4.block (w.heap.size + 1 + 1) (by omega) (fun hm => by have := a3 _ hm; omega)).trans ((cb.block (w.heap.size + 1 + 1) (by omega)).trans ((ab2.block (w.heap.size + 1 + 1) (by omega)).trans hbp)); obtain ⟨z0, z1, z2, z3, z4, s0, s1, s2, s3, s4⟩ := free5 hp5))
    all_goals
      have hb0 := HB.out
      have hbw4 : Below w.heap.size w w4 := (hb0.trans (ab2.mono (by omega))).trans (cb.mono (by omega))
      have hbw5 : Below w.heap.size w w5 := Below.spared hbw4 d4 (by omega) (fun k hk => by have := a3 k hk; omega)
      obtain ⟨w6, hw6, hr6, hz6, hk6, hB6⟩ := put_box5 hp5 (.int .i64 T.kind) (.bool T.flag) (.string ⟨T.text.toArray⟩) (.slice e1 T.items.length e2) (.slice e3 T.keys.length e4)
      obtain ⟨p0, p1, p2, p3, p4, _, _⟩ := cell_box5 hr6
      have hF3 : ∀ b ∈ F3, W0.heap.size ≤ b := fun b hb => by
        rcases d3 b hb with h | h | h
        · exact a3 b h
        · have := c3 b h; omega
        · omega
      have hfin : OwnNew T w (.agg #[.int .i64 T.kind, .bool T.flag, .string ⟨T.text.toArray⟩, .slice e1 T.items.length e2, .slice e3 T.keys.length e4]) w6 :=
        ⟨F3, d1.keep fun b hb => hk6 b (by have := hF3 b hb; omega), d2, fun b hb => by have := hF3 b hb; omega, hB6 _ _ (by omega) hbw5⟩
      have HFIN := Lib.hid hfin
      have HW := Lib.hid hw6
      clear hfin hw6 hr6 hk6 hB6 hF3 d1 d2 d3 d4 hbw4 hbw5 hb0 ab ab2 cb a1 a2 a3 c1 c2 c3 C1 CX CP u0 u1 u2 u3 u4 x0 x1 x2 x3 x4 y0 y1 y2 y3 y4 hp5 hr3 hbq hbr hbp hd0
      go_wp2
      rw [← HW.out]
      exact bodyPost_ret (v := .agg #[.int .i64 T.kind, .bool T.flag, .string ⟨T.text.toArray⟩, .slice e1 T.items.length e2, .slice e3 T.keys.length e4]) (by simp [results, go_sem, p0, p1, p2, p3, p4]) rfl ⟨_, rfl, HFIN.out⟩

end Go.Proofs.YtgbalofdfdafmaaDoor
