/- Walk of awake: the document's examples of Order hold. -/
import Derived.Test.YtelioljmhlabjaaDoorOrder
import Derived.Test.YtelioljmhlabjaaDoorOwn
namespace Go.Proofs.YtelioljmhlabjaaDoor
open Go.RowKit
set_option maxRecDepth 100000

theorem ex1 : orderR 3 [(2, 0), (0, 1)] = ([2, 0, 1], 0) := by decide +kernel
theorem ex2 : orderR 3 [(0, 1), (1, 0)] = ([], 130) := by decide +kernel

/-- A new block of cells reads as pairs. -/
theorem pairs_new (w : World) (es : List (Int × Int)) (hl : es.length ≤ 4096) : PairsAt (w.alloc (.cells (pairCells es).toArray 34)) (.slice (some ⟨w.heap.size, 0, none⟩) es.length es.length) es := by
  refine ⟨_, _, rfl, by omega, ⟨Nat.le_refl _, by omega, fun e => by cases e⟩, fun _ => ⟨w.heap.size, 0, rfl, by simp, fun i hi => ?_⟩⟩
  have h := pairCells_get es i hi
  simp only [Nat.zero_add, World.cell?, heap_alloc_new]
  exact ⟨by simpa using h.1, by simpa using h.2⟩
theorem ints_new (w : World) (xs : List Int) (hl : xs.length ≤ 4096) : IntsAt (w.alloc (.cells (xs.map (Value.int .i64)).toArray 3)) (.slice (some ⟨w.heap.size, 0, none⟩) xs.length xs.length) xs := by
  refine ⟨_, _, rfl, by omega, ⟨Nat.le_refl _, by omega, fun e => by cases e⟩, fun _ => ⟨w.heap.size, 0, rfl, by simp, fun i hi => ?_⟩⟩
  simp only [Nat.zero_add, World.cell?, heap_alloc_new]
  simp [List.getD, hi]

theorem below_new (w : World) (o : Obj) : Below w.heap.size w (w.alloc o) := (Below.refl _ _).alloc (Nat.le_refl _) o

/-- Order at a literal list of edges, which lie in a new block. -/
theorem order_new (es : List (Int × Int)) (r : List Int × Int) (n : Int) (hr : orderR n es = r) (hl : es.length ≤ 4096) (w : World) (hT : Tab w) :
    Calls Tryd.prog 18 #[.int .i64 n, .slice (some ⟨w.heap.size, 0, none⟩) es.length es.length] (w.alloc (.cells (pairCells es).toArray 34))
      fun e w' => ∃ v', e = .returned (.tuple #[v', .int .i64 r.2]) ∧ IntsAt w' v' r.1 ∧ Below w.heap.size w w' := by
  subst hr
  refine (Order_any _ _ n _ (hT.mono (below_new w _)) (pairs_new w es hl)).mono ?_
  rintro e w' ⟨v', h1, h2, h3⟩
  exact ⟨v', h1, h2, (below_new w _).trans (h3.mono (below_new w _).size)⟩

set_option maxHeartbeats 800000 in
theorem awake_any (w : World) (hT : Tab w) :
    Calls Tryd.prog 15 #[] w fun e w' => e = .returned (.bool true) ∧ Below w.heap.size w w' := by
  go_enter Tryd.func15, Tryd.ntmps15
  go_wp2_with fail
  refine (order_new [(2, 0), (0, 1)] _ 3 ex1 (by simp) w hT).mono ?_
  rintro e w1 ⟨lv, rfl, hl1, hb1⟩
  go_wp2_with fail
  refine (order_new [(0, 1), (1, 0)] _ 3 ex2 (by simp) w1 (hT.mono hb1)).mono ?_
  rintro e w2 ⟨lv2, rfl, hl2, hb2⟩
  have hl3 := ((hl1.mono hb2).mono (below_new w2 (.cells #[.int .i64 2, .int .i64 0, .int .i64 1] 3)))
  have hI := ints_any lv (.slice (some ⟨w2.heap.size, 0, none⟩) 3 3) [2, 0, 1] [2, 0, 1] _ hl3 (ints_new w2 [2, 0, 1] (by simp))
  have hb : ∀ w', Below (w2.alloc (.cells #[.int .i64 2, .int .i64 0, .int .i64 1] 3)).heap.size (w2.alloc (.cells #[.int .i64 2, .int .i64 0, .int .i64 1] 3)) w' → Below w.heap.size w w' := fun w' h =>
    (hb1.trans (hb2.mono hb1.size)).trans (((below_new w2 _).mono (Nat.le_trans hb1.size hb2.size)).trans (h.mono (by have := hb1.size; have := hb2.size; simp; omega)))
  have HB := Lib.hid hb
  clear hl1 hl2 hl3 hb1 hb2 hb hT
  go_wp2_with fail
  refine hI.mono ?_
  rintro e w3 ⟨rfl, hb3⟩
  have h3 := HB.out w3 hb3
  clear hb3
  go_wp2_with fail
  go_ret
  exact ⟨rfl, h3⟩

end Go.Proofs.YtelioljmhlabjaaDoor
