/- value.Good, and the document's Good: both say what goodV says, of any value. -/
import Derived.Test.YtpbipngnoklmcaaDoorGoodV
namespace Go.Proofs.YtpbipngnoklmcaaDoor
open Go.RowKit
set_option maxRecDepth 100000
attribute [local go_sem] str_size str_toList str_get

set_option maxHeartbeats 2000000 in
theorem good_of (t : VT) (v : Value) (w : World) (h : ValAt w t v) : Calls Tryd.prog 33 #[v] w fun e w' => e = .returned (.bool (goodV t)) ∧ Below w.heap.size w w' := by
  obtain ⟨ai, ci, ak, ck, rfl⟩ := h.form
  obtain ⟨wB, hwB⟩ : ∃ wB, wB = w.alloc (.cells #[.int .i64 t.kind, .bool t.flag, str t.text, .slice ai t.items.length ci, .slice ak t.keys.length ck] 27) := ⟨_, rfl⟩
  obtain ⟨b0, b1, b2, b3, b4, hsB, hbB⟩ := box5 hwB
  obtain ⟨wD, hwD⟩ : ∃ wD, wD = wB.alloc (.cells #[.int .i64 2000] 3) := ⟨_, rfl⟩
  have hcD : Ctr wD (w.heap.size + 1) 2000 := by rw [hwD, ← hsB]; exact heap_alloc_new _ _
  have hbBD : Below wB.heap.size wB wD := by rw [hwD]; exact (Below.refl _ _).alloc (Nat.le_refl _) _
  have hbD : Below w.heap.size w wD := hbB.trans (hbBD.mono (by omega))
  have g0 := box_at b0 hsB hbBD
  have g1 := box_at b1 hsB hbBD
  have g2 := box_at b2 hsB hbBD
  have g3 := box_at b3 hsB hbBD
  have g4 := box_at b4 hsB hbBD
  have C := good_val t w wD _ 24 (w.heap.size + 1) 2000 h hbD (by omega) hcD (by omega) (by omega) (by omega)
  rw [goodF_goodV] at C
  obtain ⟨R, hR⟩ : ∃ R, goodV t = R := ⟨_, rfl⟩
  rw [hR] at C ⊢
  clear hR h hcD b0 b1 b2 b3 b4 hbBD hbB
  have HB := Lib.hid hbD
  have hsz := hbD.size
  clear hbD
  go_enter Tryd.func33, Tryd.ntmps33
  go_upto_region 1 with fail
  rw [← hwB]
  clear hwB
  have HD := Lib.hid hwD
  clear hwD
  go_upto_region 2 with fail
  rw [← HD.out]
  clear HD
  go_wp2_with fail
  refine C.mono ?_
  rintro e w' ⟨rfl, L', hc, hs, _⟩
  have HS := Lib.hid hs
  clear hs hc
  go_wp2
  go_ret
  exact ⟨rfl, Below.spared HB.out HS.out hsz (by simp)⟩

end Go.Proofs.YtpbipngnoklmcaaDoor
