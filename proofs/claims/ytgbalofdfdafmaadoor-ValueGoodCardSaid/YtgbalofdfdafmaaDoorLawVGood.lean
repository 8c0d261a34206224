/- ValueGood: of any value it is told whether it is a good one. -/
import Derived.Test.YtgbalofdfdafmaaDoorAwk
import Derived.Test.YtgbalofdfdafmaaDoorGoods
import Derived.Deep.RegionHeld3
namespace Go.Proofs.YtgbalofdfdafmaaDoor
open Go.RowKit
set_option maxRecDepth 100000
attribute [local go_sem] str_size str_toList str_get

set_option maxHeartbeats 2000000 in
theorem good_true (w : World) (hT : TabW w) (t : VT) (v : Value) (h : ValAt w t v) : Calls Tryd.prog 6 #[v] w fun e w' => e = .returned (.bool true) ∧ Below w.heap.size w w' := by
  obtain ⟨ai, ci, ak, ck, rfl⟩ := h.form
  obtain ⟨wB, hwB⟩ : ∃ wB, wB = w.alloc (.cells #[.int .i64 t.kind, .bool t.flag, str t.text, .slice ai t.items.length ci, .slice ak t.keys.length ck] 26) := ⟨_, rfl⟩
  obtain ⟨b0, b1, b2, b3, b4, hsB, hbB⟩ := box5 hwB
  have CA := awake02 wB.drew (hT.mono hbB.drew)
  have CG := fun W (hW : Below w.heap.size w W) => good_of t _ W (h.mono hW)
  have CR := fun W (hW : Below w.heap.size w W) => good_rval t _ W (h.mono hW)
  obtain ⟨R, hR⟩ : ∃ R, goodV t = R := ⟨_, rfl⟩
  rw [hR] at CG CR
  have hRR : (R == R) = true := by simp
  clear hR h hT
  go_enter Tryd.func6, Tryd.ntmps6
  go_upto_region 1 with fail
  rw [← hwB]
  clear hwB
  go_region_with
    (first
      | (go_at_call 7; refine CA.mono ?_; rintro e w1 ⟨rfl, hq1⟩; have hbw1 := hbB.drew.trans (hq1.mono (by simp; omega)); have k0 := (hq1.cell (p := ⟨w.heap.size, 0, none⟩) (by show w.heap.size < wB.heap.size; omega)).trans b0; have k1 := (hq1.cell (p := ⟨w.heap.size, 1, none⟩) (by show w.heap.size < wB.heap.size; omega)).trans b1; have k2 := (hq1.cell (p := ⟨w.heap.size, 2, none⟩) (by show w.heap.size < wB.heap.size; omega)).trans b2; have k3 := (hq1.cell (p := ⟨w.heap.size, 3, none⟩) (by show w.heap.size < wB.heap.size; omega)).trans b3; have k4 := (hq1.cell (p := ⟨w.heap.size, 4, none⟩) (by show w.heap.size < wB.heap.size; omega)).trans b4; have hs1 := hq1.size; have hsd : wB.drew.heap.size = wB.heap.size := rfl)
      | (go_at_call 25; refine (CG _ hbw1).mono ?_; rintro e w2 ⟨rfl, hq2⟩; have hbw2 := hbw1.trans (hq2.mono hbw1.size); have j0 := (hq2.cell (p := ⟨w.heap.size, 0, none⟩) (by show w.heap.size < w1.heap.size; omega)).trans k0; have j1 := (hq2.cell (p := ⟨w.heap.size, 1, none⟩) (by show w.heap.size < w1.heap.size; omega)).trans k1; have j2 := (hq2.cell (p := ⟨w.heap.size, 2, none⟩) (by show w.heap.size < w1.heap.size; omega)).trans k2; have j3 := (hq2.cell (p := ⟨w.heap.size, 3, none⟩) (by show w.heap.size < w1.heap.size; omega)).trans k3; have j4 := (hq2.cell (p := ⟨w.heap.size, 4, none⟩) (by show w.heap.size < w1.heap.size; omega)).trans k4)
      | (go_at_call 8; refine (CR _ hbw2).mono ?_; rintro e w3 ⟨rfl, hq3⟩; have hbw3 := hbw2.trans (hq3.mono hbw2.size)))
  all_goals
    go_wp2
    go_ret
    exact ⟨rfl, hbw3⟩

end Go.Proofs.YtgbalofdfdafmaaDoor
