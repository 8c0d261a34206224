/- The walk of the document's Put. -/
import Derived.Test.YtgbalofdfdafmaaDoorPutQ
namespace Go.Proofs.YtgbalofdfdafmaaDoor
open Go.RowKit
set_option maxRecDepth 100000
attribute [local go_sem] str_size str_toList str_get

set_option maxHeartbeats 2000000 in
/-- Of what is no object. -/
theorem put_none (t x : VT) (v vx : Value) (key : List UInt8) (w : World) (h : ValAt w t v) (hx : ValAt w x vx) (h6 : ¬ t.kind = 6) :
    Calls Tryd.prog 19 #[v, str key, vx] w (DropOwn w [key] [x] w) := by
  obtain ⟨i1, hi1, hz1, hzs1, hzb1⟩ := info_parts infoS
  obtain ⟨i2, hi2, hz2, hzs2, hzb2⟩ := info_parts infoVal
  obtain ⟨ai, ci, ak, ck, rfl⟩ := h.form
  obtain ⟨xi, xc, xk, xd, hxe⟩ := hx.form
  subst hxe
  have hk6 : (t.kind == 6) = false := by simpa using h6
  obtain ⟨wP, hwP⟩ : ∃ wP, wP = w.alloc (.cells #[.int .i64 t.kind, .bool t.flag, str t.text, .slice ai t.items.length ci, .slice ak t.keys.length ck] 26) := ⟨_, rfl⟩
  obtain ⟨m0, m1, m2, m3, m4, hsP, hbP⟩ := box5 hwP
  obtain ⟨wQ, hwQ⟩ : ∃ wQ, wQ = wP.alloc (.cells #[.int .i64 x.kind, .bool x.flag, str x.text, .slice xi x.items.length xc, .slice xk x.keys.length xd] 26) := ⟨_, rfl⟩
  obtain ⟨n0, n1, n2, n3, n4, hsQ, hbQ⟩ := box5 hwQ
  obtain ⟨wR, hwR⟩ : ∃ wR, wR = wQ.alloc (.cells #[.int .i64 0, .bool false, .string ⟨#[]⟩, .slice none 0 0, .slice none 0 0] 26) := ⟨_, rfl⟩
  have hnR : wR.heap[w.heap.size + 1 + 1]? = some (.cells #[.int .i64 0, .bool false, .string ⟨#[]⟩, .slice none 0 0, .slice none 0 0] 26 (0, 0)) := by
    rw [hwR, ← hsP, ← hsQ]; exact heap_alloc_new _ _
  obtain ⟨_, _, _, _, _, hsR, hbR⟩ := box5 hwR
  obtain ⟨wS, hwS⟩ : ∃ wS, wS = wR.alloc (.cells #[.int .i64 6, .bool false, .string ⟨#[]⟩, .slice none 0 0, .slice none 0 0] 26) := ⟨_, rfl⟩
  have hnS : wS.heap[w.heap.size + 1 + 1 + 1]? = some (.cells #[.int .i64 6, .bool false, .string ⟨#[]⟩, .slice none 0 0, .slice none 0 0] 26 (0, 0)) := by
    rw [hwS, ← hsP, ← hsQ, ← hsR]; exact heap_alloc_new _ _
  obtain ⟨_, _, _, _, _, hsS, hbS⟩ := box5 hwS
  have hb1 : Below wP.heap.size wP wS := (hbQ.trans (hbR.mono (by omega))).trans (hbS.mono (by omega))
  have hb2 : Below wQ.heap.size wQ wS := hbR.trans (hbS.mono (by omega))
  have hbW : Below w.heap.size w wS := hbP.trans (hb1.mono (by omega))
  have p0 := (hb1.cell (p := ⟨w.heap.size, 0, none⟩) (by show w.heap.size < wP.heap.size; omega)).trans m0
  have hnS2 := (hbS.block (w.heap.size + 1 + 1) (by omega)).trans hnR
  have xs0 : ∀ o, wS.cell? ⟨w.heap.size + 1, o, none⟩ = wQ.cell? ⟨w.heap.size + 1, o, none⟩ := fun o => hb2.cell (p := ⟨w.heap.size + 1, o, none⟩) (by show w.heap.size + 1 < wQ.heap.size; omega)
  rw [hsP] at n0 n1 n2 n3 n4
  have A0 : Acc w wS (w.heap.size + 1 + 1 + 1) [] [] (.slice none 0 0) (.slice none 0 0) [] wS :=
    ⟨hnS, World.ownsRow_nil _ _ _ _, World.ownsRow_nil _ _ _ _, rfl, (fun i h => absurd h (by simp)), (fun a h => by simp [Value.ownBlock] at h), Spares.refl _ _, by omega⟩
  have HA0 := Lib.hid A0
  have HX := Lib.hid hx
  obtain ⟨d0, d1, d2, d3, d4, f3, f4⟩ := cell_box5 hnS
  have hsz : w.heap.size + 1 + 1 + 1 < wS.heap.size := by omega
  clear A0 h hx h6 hnS hnR m0 m1 m2 m3 m4 hb1 hb2 hsP hsQ hsR hsS hbP hbQ hbR hbS
  go_enter Tryd.func19, Tryd.ntmps19
  go_upto_region 2 with fail
  rw [← hwP, ← hwQ, ← hwR, ← hwS]
  clear hwP hwQ hwR hwS
  go_wp2_with (at_builtin; go_loud (refine wpList_append_fresh _ rfl (.tmp 70) (.tmp 72) 24 rfl wS.heap.size 9 i1 _ 1 16 Tryd.underlying24 hi1 hz1 hzs1 hzb1 rfl (by decide) (.slice none 0 0) 0 [] rfl (World.ownsRow_nil _ _ _ _) ⟨wS.heap.size, 0, none⟩ 1 1 [str key] rfl rfl ?c1 ?c2 ?c3 ?c4 ?c5 ?_))
  case c1 => exact cells_new wS _ _
  case c2 => intro u hu; simp at hu; subst hu; rfl
  case c3 => unfold maxLen; omega
  case c4 => omega
  case c5 => simp
  intro v' w3 hown hgrow hv'
  have hba : Below wS.heap.size wS (wS.alloc (.cells #[str key] 9)) := (Below.refl _ wS).alloc (Nat.le_refl _) _
  replace hv' : v'.ownBlock = (Value.slice none 0 0).ownBlock ∨ v'.ownBlock = some (wS.alloc (.cells #[str key] 9)).heap.size := by rw [show (wS.alloc (.cells #[str key] 9)).heap.size = wS.heap.size + 1 from Array.size_push _]; exact hv'
  have A1 := HA0.out.key (k := key) hba hown hgrow hv'
  obtain ⟨_, _, _, _, d4', e3, e4⟩ := cell_box5 (HA0.out.key_box hba hgrow hv')
  obtain ⟨a', c', rfl⟩ := slice_of hown
  obtain ⟨w4, hw4⟩ : ∃ w4, w4 = w3.setCell ⟨w.heap.size + 1 + 1 + 1, 4, none⟩ (.slice a' 1 c') := ⟨_, rfl⟩
  replace A1 : Acc w wS _ [key] [] (.slice a' 1 c') (.slice none 0 0) [] (w3.setCell ⟨w.heap.size + 1 + 1 + 1, 4, none⟩ (.slice a' 1 c')) := A1
  rw [← hw4] at A1
  have HA1 := Lib.hid A1
  clear A1 hown hgrow hv' hba HA0
  go_upto_region 17 with fail
  rw [← hw4]
  clear hw4
  obtain ⟨_, _, _, g3, g4, _, _⟩ := cell_box5 HA1.out.box
  have y0 := (HA1.out.cell (p := ⟨w.heap.size + 1, 0, none⟩) (by show w.heap.size + 1 < _; omega) (by show w.heap.size + 1 ≠ _; omega)).trans ((xs0 0).trans n0)
  have y1 := (HA1.out.cell (p := ⟨w.heap.size + 1, 1, none⟩) (by show w.heap.size + 1 < _; omega) (by show w.heap.size + 1 ≠ _; omega)).trans ((xs0 1).trans n1)
  have y2 := (HA1.out.cell (p := ⟨w.heap.size + 1, 2, none⟩) (by show w.heap.size + 1 < _; omega) (by show w.heap.size + 1 ≠ _; omega)).trans ((xs0 2).trans n2)
  have y3 := (HA1.out.cell (p := ⟨w.heap.size + 1, 3, none⟩) (by show w.heap.size + 1 < _; omega) (by show w.heap.size + 1 ≠ _; omega)).trans ((xs0 3).trans n3)
  have y4 := (HA1.out.cell (p := ⟨w.heap.size + 1, 4, none⟩) (by show w.heap.size + 1 < _; omega) (by show w.heap.size + 1 ≠ _; omega)).trans ((xs0 4).trans n4)
  clear d0 d1 d2 d3 d4 d4' e3 e4 f3 f4 n0 n1 n2 n3 n4 xs0 p0
  have hsz4 := HA1.out.keeps.size
  go_wp2_with (at_builtin; refine wpList_append_fresh _ rfl (.tmp 76) (.tmp 78) 23 rfl wS.heap.size 26 i2 _ 5 80 Tryd.underlying23 hi2 hz2 hzs2 hzb2 rfl (by decide) (.slice none 0 0) 0 [] rfl (World.ownsRow_nil _ _ _ _) ⟨w4.heap.size, 0, none⟩ 1 1 [.int .i64 x.kind, .bool x.flag, str x.text, .slice xi x.items.length xc, .slice xk x.keys.length xd] rfl rfl ?c1 ?c2 ?c3 ?c4 ?c5 ?_)
  case c1 => exact cells_new w4 _ _
  case c2 => intro u hu; simp at hu; rcases hu with rfl | rfl | rfl | rfl | rfl <;> rfl
  case c3 => unfold maxLen; omega
  case c4 => omega
  case c5 => simp; omega
  intro v' w5 hown hgrow hv'
  replace hv' : v'.ownBlock = (Value.slice none 0 0).ownBlock ∨ v'.ownBlock = some (w4.alloc (.cells #[.int .i64 x.kind, .bool x.flag, str x.text, .slice xi x.items.length xc, .slice xk x.keys.length xd] 26)).heap.size := by rw [show (w4.alloc (.cells #[.int .i64 x.kind, .bool x.flag, str x.text, .slice xi x.items.length xc, .slice xk x.keys.length xd] 26)).heap.size = w4.heap.size + 1 from Array.size_push _]; exact hv'
  have hba : Below w4.heap.size w4 (w4.alloc (.cells #[.int .i64 x.kind, .bool x.flag, str x.text, .slice xi x.items.length xc, .slice xk x.keys.length xd] 26)) := (Below.refl _ w4).alloc (Nat.le_refl _) _
  have A2 := HA1.out.item hba HX.out hown hgrow hv'
  obtain ⟨_, _, _, _, _, e3, e4⟩ := cell_box5 (HA1.out.item_box hba hgrow hv')
  obtain ⟨a2, c2, rfl⟩ := slice_of hown
  obtain ⟨w6, hw6⟩ : ∃ w6, w6 = w5.setCell ⟨w.heap.size + 1 + 1 + 1, 3, none⟩ (.slice a2 1 c2) := ⟨_, rfl⟩
  replace A2 : Acc w wS _ [key] [x] (.slice a' 1 c') (.slice a2 1 c2) _ (w5.setCell ⟨w.heap.size + 1 + 1 + 1, 3, none⟩ (.slice a2 1 c2)) := A2
  rw [← hw6] at A2
  have HA2 := Lib.hid A2
  clear A2 hown hgrow hv' hba HA1 g3 g4 y0 y1 y2 y3 y4
  obtain ⟨_, _, _, e3', _, _, _⟩ : w5.frozen? ⟨w.heap.size + 1 + 1 + 1, 3, none⟩ = false ∧ True ∧ True ∧ True ∧ True ∧ True ∧ True := ⟨e3, trivial, trivial, trivial, trivial, trivial, trivial⟩
  go_upto_region 18 with fail
  rw [← hw6]
  clear hw6
  obtain ⟨g0, g1, g2, g3, g4, _, _⟩ := cell_box5 HA2.out.box
  have hr2 := (HA2.out.blk (b := w.heap.size + 1 + 1) (by omega) (by omega)).trans hnS2
  obtain ⟨z0, z1, z2, z3, z4, j0, j1, j2, j3, j4⟩ := free5 hr2
  obtain ⟨w7, hw7, hr7, hz7, hk7, hB7⟩ := put_box5 hr2 (.int .i64 6) (.bool false) (.string ⟨#[]⟩) (.slice a2 1 c2) (.slice a' 1 c')
  obtain ⟨p0, p1, p2, p3, p4, _, _⟩ := cell_box5 hr7
  have hB := hB7 _ _ (by omega) (HA2.out.below hbW (by omega))
  have HF := Lib.hid (HA2.out.rows (w' := w7) (wl := w) (fun b hb => hk7 b (by omega)) (by omega))
  have HW := Lib.hid hw7
  clear hw7 hr7 hk7 hB7 hr2 HA2 hnS2
  go_wp2
  rw [← HW.out]
  exact bodyPost_ret (v := .agg #[.int .i64 6, .bool false, .string ⟨#[]⟩, .slice a2 1 c2, .slice a' 1 c']) (by simp [results, go_sem, p0, p1, p2, p3, p4]) rfl ⟨_, _, rfl, HF.out, hB⟩

end Go.Proofs.YtgbalofdfdafmaaDoor
