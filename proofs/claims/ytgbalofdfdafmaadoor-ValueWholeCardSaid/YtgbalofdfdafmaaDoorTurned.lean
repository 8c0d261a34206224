/- The walk of turned: the other sign. -/
import Derived.Test.YtgbalofdfdafmaaDoorTrim
namespace Go.Proofs.YtgbalofdfdafmaaDoor
open Go.RowKit
set_option maxRecDepth 100000

set_option maxHeartbeats 1600000 in
theorem turned_any (below : Bool) (v : Value) (xs : List Nat) (w : World) (h : LimbsAt w v xs) :
    Calls Tryd.prog 66 #[.agg #[.bool below, v]] w (BigPost (!below && !(trimL xs).isEmpty) (trimL xs) w) := by
  obtain ⟨ao, cap, rfl, _, _, _⟩ := h.val
  obtain ⟨w0, hw0⟩ : ∃ w0, w0 = (w.alloc (.cells #[.bool below, .slice ao xs.length cap] 78)).alloc (.cells #[.bool false, .slice none 0 0] 78) := ⟨_, rfl⟩
  have hs0 : w0.heap.size = w.heap.size + 2 := by rw [hw0]; simp
  have hb0 : Below w.heap.size w w0 := by rw [hw0]; exact ((Below.refl _ w).alloc (Nat.le_refl _) _).alloc (by simp) _
  have hx0 : w0.heap[w.heap.size]? = some (.cells #[.bool below, .slice ao xs.length cap] 78 (0, 0)) := by
    rw [hw0]; exact (Below.heap_alloc _ _ _ (by simp)).trans (heap_alloc_new _ _)
  have hr0 : w0.heap[w.heap.size + 1]? = some (.cells #[.bool false, .slice none 0 0] 78 (0, 0)) := by
    have := heap_alloc_new (w.alloc (.cells #[.bool below, .slice ao xs.length cap] 78)) (.cells #[.bool false, .slice none 0 0] 78)
    rw [hw0]
    rwa [show (w.alloc (.cells #[.bool below, .slice ao xs.length cap] 78)).heap.size = w.heap.size + 1 by simp] at this
  have TR := trim_any (!below) ao cap xs w0 (h.mono hb0)
  obtain ⟨a0, a1, _, _⟩ := cell_box2 hx0
  have HR := Lib.hid hr0
  clear h hx0 hr0
  go_enter Tryd.func66, Tryd.ntmps66
  go_wp2_with (rw [← hw0])
  refine TR.mono ?_
  rintro e w1 ⟨v1, rfl, ⟨u, rfl, hu⟩, hb1⟩
  obtain ⟨au, cu, rfl, _, _, _⟩ := hu.val
  have hr1 := (hb1.block (w.heap.size + 1) (by omega)).trans HR.out
  obtain ⟨w2, hw2, hr2, hz2, hk2, hB2⟩ := set_box2' hr1 (.bool (!below && !(trimL xs).isEmpty))
  obtain ⟨w3, hw3, hr3, hz3, hk3, hB3⟩ := set_box2 hr2 (.slice au (trimL xs).length cu)
  have hb3 := hB3 _ _ (Nat.le_succ _) (hB2 _ _ (Nat.le_succ _) (hb0.trans (hb1.mono hb0.size)))
  obtain ⟨q0, q1, _, _⟩ := cell_box2 hr3
  obtain ⟨c0, c1, o0, o1⟩ := cell_box2 hr1
  have HW2 := Lib.hid hw2
  have HW3 := Lib.hid hw3
  have HU : Hid (LimbsAt w3 (.slice au (trimL xs).length cu) (trimL xs)) := by
    exact hu.box hr1 (by omega) (fun k hk => (hk3 k hk).trans (hk2 k hk))
  clear hr1 hr2 hr3 hk2 hk3 hB2 hB3 hw2 hw3 TR hw0 hu
  go_wp2
  rw [← HW2.out, ← HW3.out]
  refine bodyPost_ret (v := .agg #[.bool (!below && !(trimL xs).isEmpty), .slice au (trimL xs).length cu]) (by simp [results, go_sem, q0, q1]) rfl ?_
  exact ⟨_, rfl, ⟨_, rfl, HU.out⟩, hb3⟩

end Go.Proofs.YtgbalofdfdafmaaDoor
