/- The walk of plan.Order; where a graph is good, its order and its reduction. -/
import Derived.Test.YtnjbdedmalpccaaDoorPnX
namespace Go.Proofs.YtnjbdedmalpccaaDoor
open Go.RowKit
set_option maxRecDepth 100000
attribute [local go_sem] str_size str_toList str_get

theorem look_zero {n : Nat} {es : List (Int × Int)} {fr : List Int} (hn : n ≤ 512) (hl : es.length ≤ 4096) (hes : ∀ e ∈ es, 0 ≤ e.1 ∧ e.1 < n ∧ 0 ≤ e.2 ∧ e.2 < n) (hf : ∀ i ∈ fr, 0 ≤ i ∧ i < n) : lookE n es fr = 0 := by
  unfold lookE
  rw [if_neg (by omega), if_neg ?_, if_neg (by omega)]
  rw [Bool.or_eq_true, List.any_eq_true, List.any_eq_true]
  rintro (⟨e, he, h⟩ | ⟨i, hi, h⟩)
  · have := hes e he
    unfold outE at h
    simp at h
    omega
  · have := hf i hi
    unfold outE at h
    simp at h
    omega
theorem order_good {n : Nat} {es : List (Int × Int)} (h : lookE n es [] = 0) (hk : (kahn n es).length = n) : orderR n es = ((kahn n es).map (fun i : Nat => (i : Int)), 0) := by
  unfold orderR
  rw [if_pos h, Int.toNat_natCast, if_neg (by omega)]
theorem reduce_good {n : Nat} {es : List (Int × Int)} (h : lookE n es [] = 0) (hk : (kahn n es).length = n) : reduceR n es = (redL n es, 0) := by
  unfold reduceR
  rw [order_good h hk, if_pos rfl, Int.toNat_natCast]

set_option maxHeartbeats 4000000 in
theorem Order_p (a : Option Addr) (n c : Nat) (vL : Value) (L : List (Int × Int)) (w : World) (hT : Tab w) (h : PairsAt w vL L) :
    Calls Tryd.prog 6 #[.agg #[.slice a n c, vL]] w (OrderPost n L w) := by
  have h0 := h
  obtain ⟨aL, cL, rfl, _⟩ := h0
  obtain ⟨wA, hwA⟩ : ∃ wA, wA = w.alloc (.cells #[.slice a n c, .slice aL L.length cL] 45) := ⟨_, rfl⟩
  have nA : wA.heap[w.heap.size]? = some (.cells #[.slice a n c, .slice aL L.length cL] 45 (0, 0)) := by rw [hwA]; exact heap_alloc_new _ _
  have bA : Below w.heap.size w wA := by rw [hwA]; exact (Below.refl _ w).alloc (Nat.le_refl _) _
  obtain ⟨y0, y1⟩ := cells2 nA
  have OR := Order_any (.slice aL L.length cL) L n wA (hT.mono bA) (h.mono bA)
  unfold OrderPost at OR
  have HBA := Lib.hid bA
  clear nA bA hT h
  go_enter Tryd.func6, Tryd.ntmps6
  go_upto_region 1 with fail
  rw [← hwA]
  clear hwA
  go_wp2_with fail
  refine OR.mono ?_
  rintro e w2 ⟨v2, rfl, hi2, hb2⟩
  have HF := Lib.hid (⟨hi2, HBA.out.trans (hb2.mono HBA.out.size)⟩ : _ ∧ _)
  clear OR hi2 hb2 y0 y1
  go_wp2
  go_ret2
  exact ⟨_, rfl, HF.out⟩

end Go.Proofs.YtnjbdedmalpccaaDoor
