/- Walk of the second awake: the document's example of a walk holds. -/
import Derived.Test.YtelioljmhlabjaaDoorNew
import Derived.Test.YtelioljmhlabjaaDoorWk4
import Derived.Test.YtelioljmhlabjaaDoorAwake
namespace Go.Proofs.YtelioljmhlabjaaDoor
open Go.RowKit
set_option maxRecDepth 100000

theorem ex19o : (orderR ((3 : Nat) : Int) [(0, 1), (1, 2)]).2 = 0 := by decide +kernel
theorem ex19a : startR 3 [(0, 1), (1, 2)] 2 (List.replicate 3 0) 1 = ([0, 0, 0], 4) := by decide +kernel
theorem ex19b : startR 3 [(0, 1), (1, 2)] 2 [0, 0, 0] 0 = ([1, 0, 0], 0) := by decide +kernel
theorem ex19c : finishR 3 [(0, 1), (1, 2)] [1, 0, 0] 0 false = ([3, 4, 4], 0) := by
  have hup : ∀ a b, Way (Edge [(0, 1), (1, 2)] (-1, -1)) a b → a < b := by
    intro a b h
    have key : ∀ x y, Edge [(0, 1), (1, 2)] (-1, -1) x y → x < y := by
      intro x y hxy
      have := hxy.1
      simp only [List.mem_cons, List.not_mem_nil, or_false, Prod.mk.injEq] at this
      omega
    induction h with
    | one e => exact key _ _ e
    | snoc _ e ih => exact Nat.lt_trans ih (key _ _ e)
  have e1 : Edge [(0, 1), (1, 2)] (-1, -1) 0 1 := Edge.none.2 (by simp)
  have e2 : Edge [(0, 1), (1, 2)] (-1, -1) 1 2 := Edge.none.2 (by simp)
  unfold finishR
  rw [if_neg (by decide), if_neg (by decide)]
  have : skipL 3 [(0, 1), (1, 2)] [1, 0, 0] (Int.toNat 0) = [3, 4, 4] := by
    unfold skipL
    have hr : List.range 3 = [0, 1, 2] := rfl
    rw [hr]
    simp only [List.map_cons, List.map_nil, Int.toNat_zero]
    rw [if_neg (fun h => Nat.lt_irrefl _ (hup _ _ h)), if_pos trivial, if_pos (.one e1), if_pos (.snoc (.one e1) e2)]
  rw [this]
theorem ex19d : WInv [(0, 1), (1, 2)] [1, 0, 0] := by
  have : ∀ e ∈ ([(0, 1), (1, 2)] : List (Int × Int)), (([1, 0, 0] : List Int).getD e.2.toNat 0 = 1 ∨ ([1, 0, 0] : List Int).getD e.2.toNat 0 = 2 ∨ ([1, 0, 0] : List Int).getD e.2.toNat 0 = 3) → ([1, 0, 0] : List Int).getD e.1.toNat 0 = 2 := by decide
  exact this

/-- A new walk of edges that lie in a new block. -/
theorem new_lit (es : List (Int × Int)) (m : Nat) (lim : Int) (w : World) (hT : Tab w) (ho : (orderR m es).2 = 0) (hl1 : 1 ≤ lim) (hl2 : lim ≤ 16) (hesl : es.length ≤ 4096) :
    Calls Tryd.prog 31 #[.int .i64 m, .slice (some ⟨w.heap.size, 0, none⟩) es.length es.length, .int .i64 lim] (w.alloc (.cells (pairCells es).toArray 34))
      fun e w' => ∃ b S A N ev rows, e = .returned (.tuple #[.pointer (some ⟨b, 0, none⟩), .int .i64 0]) ∧ WkM w' b S A N m ev rows es lim (List.replicate m 0) (cnts m (aheadN es (List.replicate m 0))) ∧ Below w.heap.size w w' ∧ w.heap.size ≤ S ∧ w.heap.size ≤ A := by
  refine (new_good _ es m lim _ (hT.mono (below_new w _)) (pairs_new w es hesl) ho hl1 hl2 hesl).mono ?_
  rintro e w' ⟨b, S, A, N, ev, rows, h1, h2, h3, h4, h5⟩
  have hs := (below_new w (.cells (pairCells es).toArray 34)).size
  exact ⟨b, S, A, N, ev, rows, h1, h2, (below_new w _).trans (h3.mono hs), by omega, by omega⟩

set_option maxHeartbeats 1600000 in
theorem awake19_any (w : World) (hT : Tab w) :
    Calls Tryd.prog 30 #[] w fun e w' => e = .returned (.bool true) ∧ Below w.heap.size w w' := by
  have hT0 := hT.1
  have hes : ∀ e ∈ ([(0, 1), (1, 2)] : List (Int × Int)), 0 ≤ e.1 ∧ e.1 < (3 : Nat) ∧ 0 ≤ e.2 ∧ e.2 < (3 : Nat) := by decide
  go_enter Tryd.func30, Tryd.ntmps30
  go_wp2_with fail
  refine (new_lit [(0, 1), (1, 2)] 3 2 w hT ex19o (by decide) (by decide) (by decide)).mono ?_
  rintro e w1 ⟨b, S, A, N, ev, rows, rfl, hM, hb1, hS, hA⟩
  have hT1 := hT.mono hb1
  clear hT
  go_wp2_with fail
  refine (start_any b S A N 3 ev rows _ 2 _ 1 w1 hM).mono ?_
  rw [ex19a]
  rintro e w2 ⟨rfl, hM2, hc2⟩
  have hb2 := below_ch hb1 hc2 hb1.size hS hA
  have hT2 := tab_ch hT1 hc2 (by omega) (by omega)
  clear hM hc2
  go_wp2_with fail
  refine (start_any b S A N 3 ev rows _ 2 _ 0 w2 hM2).mono ?_
  rw [ex19b]
  rintro e w3 ⟨rfl, hM3, hc3⟩
  have hb3 := below_ch hb2 hc3 hb2.size hS hA
  have hT3 := tab_ch hT2 hc3 (by omega) (by omega)
  clear hM2 hc3
  go_wp2_with fail
  refine (finish_any b S A N 3 ev rows _ 2 _ 0 false w3 hT3 (by omega) (by omega) hM3 hes ex19d).mono ?_
  rw [ex19c]
  rintro e w4 ⟨rfl, hM4, hc4⟩
  have hb4 := below_ch hb3 hc4 hb3.size hS hA
  clear hM3 hc4 hT3
  go_wp2_with fail
  refine (status_any b S A N 3 ev rows _ 2 _ _ 1 w4 hM4).mono ?_
  rintro e w5 ⟨rfl, rfl⟩
  rw [show statusR 3 [3, 4, 4] 1 = 4 from rfl]
  go_wp2_with fail
  refine (status_any b S A N 3 ev rows _ 2 _ _ 2 w4 hM4).mono ?_
  rintro e w5 ⟨rfl, rfl⟩
  rw [show statusR 3 [3, 4, 4] 2 = 4 from rfl]
  go_wp2_with fail
  refine (over_any b S A N 3 ev rows _ 2 _ w4 hM4).mono ?_
  rintro e w5 ⟨rfl, hb5⟩
  rw [show ((withL 3 [(0, 1), (1, 2)] [3, 4, 4] 0).length + (withL 3 [(0, 1), (1, 2)] [3, 4, 4] 1).length == 0) = true by decide +kernel]
  have hB := hb4.trans (hb5.mono hb4.size)
  clear hM4 hb4 hb5
  go_wp2_with fail
  go_ret
  exact ⟨rfl, hB⟩

end Go.Proofs.YtelioljmhlabjaaDoor
