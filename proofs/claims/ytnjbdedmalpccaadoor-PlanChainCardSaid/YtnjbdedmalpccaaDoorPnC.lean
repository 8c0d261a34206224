/- The walks of slices.Compare at two pairs, and of the closure by which edges are sorted. -/
import Derived.Test.YtnjbdedmalpccaaDoorPnL
import Derived.Test.YtnjbdedmalpccaaDoorShelf
namespace Go.Proofs.YtnjbdedmalpccaaDoor
open Go.RowKit
set_option maxRecDepth 100000
attribute [local go_sem] str_size str_toList str_get

def cmp2 (p q : Int × Int) : Int := if Lib.compareInt p.1 q.1 = 0 then Lib.compareInt p.2 q.2 else Lib.compareInt p.1 q.1

set_option maxHeartbeats 4000000 in
theorem compare_two (g h : Nat) (x0 x1 y0 y1 : Int) (w : World) (k0 : w.cell? ⟨g, 0, none⟩ = some (.int .i64 x0)) (k1 : w.cell? ⟨g, 1, none⟩ = some (.int .i64 x1)) (l0 : w.cell? ⟨h, 0, none⟩ = some (.int .i64 y0)) (l1 : w.cell? ⟨h, 1, none⟩ = some (.int .i64 y1)) :
    Calls Tryd.prog 18 #[.slice (some ⟨g, 0, none⟩) 2 2, .slice (some ⟨h, 0, none⟩) 2 2] w fun e w' => e = .returned (.int .i64 (cmp2 (x0, x1) (y0, y1))) ∧ w' = w := by
  have CC := fun (a b : Int) (W : World) => Tryd.cmp_Compare_int a b W
  obtain ⟨c, hc⟩ : ∃ c, cmp2 (x0, x1) (y0, y1) = c := ⟨_, rfl⟩
  rw [hc]
  unfold cmp2 at hc
  generalize Lib.compareInt = f at CC hc
  obtain ⟨u, hu⟩ : ∃ u, f x0 y0 = u := ⟨_, rfl⟩
  obtain ⟨v, hv⟩ : ∃ v, f x1 y1 = v := ⟨_, rfl⟩
  have hc : (if u = 0 then v else u) = c := by rw [← hu, ← hv]; exact hc
  have C0 := CC x0 y0
  have C1 := CC x1 y1
  rw [hu] at C0
  rw [hv] at C1
  have HC := Lib.hid hc
  clear hu hv hc CC
  go_enter Tryd.func18, Tryd.ntmps18
  go_wp2
  go_loopg [11] 2 (fun gg v11 wr => ∃ i : Nat, v11 = .int .i64 i ∧ i + gg = 2 ∧ wr = w ∧ Hid ((1 ≤ i → u = 0) ∧ (2 ≤ i → v = 0)))
  case atStart => exact ⟨0, rfl, by omega, rfl, Lib.hid ⟨fun h => by omega, fun h => by omega⟩⟩
  case round =>
    obtain ⟨i, rfl, hig, rfl, HI⟩ := hrel
    match gk, hig with
    | 0, hig =>
      obtain rfl : i = 2 := by omega
      have hu := HI.out.1 (by omega)
      have hv := HI.out.2 (by omega)
      have h0 : c = 0 := by rw [← HC.out, if_pos hu]; exact hv
      subst h0
      clear HC hu hv HI C0 C1
      go_wp2
      go_ret
      exact ⟨rfl, rfl⟩
    | 2, hig =>
      obtain rfl : i = 0 := by omega
      have C := C0 wr
      by_cases hu : u = 0
      · subst hu
        go_wp2_with fail
        refine C.mono ?_
        rintro e w' ⟨rfl, hw'⟩
        rw [hw']
        clear C hw'
        go_wp2
        go_roundg 1
        case measure => omega
        case rel => exact ⟨1, by go_num, by omega, rfl, Lib.hid ⟨fun _ => trivial, fun h => by omega⟩⟩
      · have h0 : c = u := by rw [← HC.out, if_neg hu]
        have hub : (u != 0) = true := by simpa using hu
        subst h0
        clear HC
        go_wp2_with fail
        refine C.mono ?_
        rintro e w' ⟨rfl, hw'⟩
        rw [hw']
        clear C hw'
        go_wp2
        go_ret
        exact ⟨rfl, rfl⟩
    | 1, hig =>
      obtain rfl : i = 1 := by omega
      have C := C1 wr
      have hu := HI.out.1 (by omega)
      subst hu
      by_cases hv : v = 0
      · subst hv
        go_wp2_with fail
        refine C.mono ?_
        rintro e w' ⟨rfl, hw'⟩
        rw [hw']
        clear C hw'
        go_wp2
        go_roundg 0
        case measure => omega
        case rel => exact ⟨2, by go_num, by omega, rfl, Lib.hid ⟨fun _ => trivial, fun _ => trivial⟩⟩
      · have h0 : c = v := by rw [← HC.out, if_pos rfl]
        have hub : (v != 0) = true := by simpa using hv
        subst h0
        clear HC
        go_wp2_with fail
        refine C.mono ?_
        rintro e w' ⟨rfl, hw'⟩
        rw [hw']
        clear C hw'
        go_wp2
        go_ret
        exact ⟨rfl, rfl⟩
    | k + 3, hig => omega

set_option maxHeartbeats 4000000 in
theorem cmp_pairs (p q : Int × Int) (w : World) : Calls Tryd.prog 17 #[.agg #[.int .i64 p.1, .int .i64 p.2], .agg #[.int .i64 q.1, .int .i64 q.2]] w fun e w' =>
    e = .returned (.int .i64 (cmp2 p q)) ∧ ∃ n os', w' = Sort.grow (w.drewN n) os' := by
  have mixed : Tryd.prog.follows .mixedOrders = true := by kernel_rfl
  obtain ⟨x0, x1⟩ := p
  obtain ⟨y0, y1⟩ := q
  obtain ⟨w2, hw2⟩ : ∃ w2, w2 = (w.alloc (.cells #[.int .i64 x0, .int .i64 x1] 56)).alloc (.cells #[.int .i64 y0, .int .i64 y1] 56) := ⟨_, rfl⟩
  have hg : ∃ os, w2 = Sort.grow w os := ⟨_, by rw [hw2, Sort.alloc_eq_grow, Sort.alloc_eq_grow, Sort.grow_grow]⟩
  have sz : (w.alloc (.cells #[.int .i64 x0, .int .i64 x1] 56)).heap.size = w.heap.size + 1 := by simp only [World.alloc, Array.size_push]
  have n2 : w2.heap[w.heap.size + 1]? = some (.cells #[.int .i64 y0, .int .i64 y1] 56 (0, 0)) := by rw [hw2, ← sz]; exact heap_alloc_new _ _
  have n1 : w2.heap[w.heap.size]? = some (.cells #[.int .i64 x0, .int .i64 x1] 56 (0, 0)) := by rw [hw2, Below.heap_alloc _ _ _ (by rw [sz]; omega)]; exact heap_alloc_new _ _
  obtain ⟨k0, k1⟩ := cells2 n1
  obtain ⟨l0, l1⟩ := cells2 n2
  have C := compare_two w.heap.size (w.heap.size + 1) x0 x1 y0 y1 w2.drew k0 k1 l0 l1
  generalize cmp2 (x0, x1) (y0, y1) = c at C ⊢
  clear sz n1 n2
  go_enter Tryd.func17, Tryd.ntmps17
  go_upto_region 1 with fail
  rw [← hw2]
  clear hw2
  go_region_law_o (go_simp; go_at_call 18; refine C.mono ?_; rintro e w' ⟨rfl, hw'⟩; rw [hw']; clear hw' w')
  all_goals
    go_wp2
    go_ret
    obtain ⟨os, hos⟩ := hg
    exact ⟨rfl, 1, os, by rw [hos]; rfl⟩

end Go.Proofs.YtnjbdedmalpccaaDoor
