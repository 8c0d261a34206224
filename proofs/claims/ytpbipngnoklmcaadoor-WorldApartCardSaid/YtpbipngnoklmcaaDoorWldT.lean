/- cmp.Compare at texts, cmp.Or at two numbers; what Objects sorts by. Printed by genwldt.py. -/
import Derived.Test.YtpbipngnoklmcaaDoorWldN
import Derived.Deep.RegionWith
namespace Go.Proofs.YtpbipngnoklmcaaDoor
open Go.RowKit
set_option maxRecDepth 100000
attribute [local go_sem] str_size str_toList str_get

theorem nan_cmp (a : List UInt8) (w : World) : Calls Tryd.prog 47 #[str a] w fun e w' => e = .returned (.bool false) ∧ w' = w := by
  go_enter Tryd.func47, Tryd.ntmps47
  go_wp2
  go_ret
  exact ⟨by simp, rfl⟩
theorem compare_str (a b : List UInt8) (w : World) : Calls Tryd.prog 29 #[str a, str b] w fun e w' => e = .returned (.int .i64 (ordS a b)) ∧ w' = w := by
  have hl1 := bytesLess_eq a b
  have hl2 := bytesLess_eq b a
  obtain ⟨r, hr⟩ : ∃ r, ordS a b = r := ⟨_, rfl⟩
  rw [hr]
  unfold ordS at hr
  cases h1 : ltS a b with
  | true =>
    rw [h1] at hr hl1
    rw [if_pos rfl] at hr
    subst hr
    clear hl2 h1
    go_enter Tryd.func29, Tryd.ntmps29
    go_wp2_with (go_at_call 47; refine (nan_cmp _ _).mono ?_; rintro e w' ⟨rfl, rfl⟩)
    go_ret
    exact ⟨rfl, rfl⟩
  | false =>
    rw [h1] at hr hl1
    rw [if_neg Bool.false_ne_true] at hr
    cases h2 : ltS b a with
    | true =>
      rw [h2] at hr hl2
      rw [if_pos rfl] at hr
      subst hr
      have hne : (a == b) = false := by
        rw [beq_eq_false_iff_ne]
        rintro rfl
        rw [h1] at h2
        cases h2
      clear h1 h2
      go_enter Tryd.func29, Tryd.ntmps29
      go_wp2_with (go_at_call 47; refine (nan_cmp _ _).mono ?_; rintro e w' ⟨rfl, rfl⟩)
      go_ret
      exact ⟨rfl, rfl⟩
    | false =>
      rw [h2] at hr hl2
      rw [if_neg Bool.false_ne_true] at hr
      subst hr
      obtain rfl := ltS_tri h1 h2
      clear h1 h2
      go_enter Tryd.func29, Tryd.ntmps29
      go_wp2_with (go_at_call 47; refine (nan_cmp _ _).mono ?_; rintro e w' ⟨rfl, rfl⟩)
      go_ret
      exact ⟨rfl, rfl⟩
theorem or_two (a b : Int) (g : Nat) (w : World) (h0 : w.cell? ⟨g, 0, none⟩ = some (.int .i64 a)) (h1 : w.cell? ⟨g, 1, none⟩ = some (.int .i64 b)) :
    Calls Tryd.prog 28 #[.slice (some ⟨g, 0, none⟩) 2 2] w fun e w' => e = .returned (.int .i64 (if a = 0 then b else a)) ∧ w' = w := by
  obtain ⟨R, hR⟩ : ∃ R, (if a = 0 then b else a) = R := ⟨_, rfl⟩
  rw [hR]
  have HR := Lib.hid hR
  clear hR
  go_enter Tryd.func28, Tryd.ntmps28
  go_wp2
  go_loopg [8] 2 (fun gk v8 wr => ∃ i : Nat, i + gk = 2 ∧ v8 = .int .i64 i ∧ Hid (0 < i → a = 0) ∧ Hid (1 < i → b = 0) ∧ wr = w)
  case atStart => exact ⟨0, by omega, rfl, fun h => by omega, fun h => by omega, rfl⟩
  case round =>
    obtain ⟨i, hig, rfl, HA, HB, hwr⟩ := hrel
    subst hwr
    cases gk with
    | zero =>
      obtain rfl : i = 2 := by omega
      obtain rfl : 0 = R := by rw [← HR.out, if_pos (HA.out (by omega)), HB.out (by omega)]
      go_wp2
      go_ret
      exact ⟨rfl, rfl⟩
    | succ g' =>
      have hi2 : i = 0 ∨ i = 1 := by omega
      rcases hi2 with rfl | rfl
      · by_cases ha : a = 0
        · subst ha
          clear HA HB
          go_wp2
          go_roundg 1
          case measure => omega
          case rel => exact ⟨1, by omega, (by first | trivial | rfl), (by first | trivial | exact fun _ => trivial | exact fun _ => rfl), (by first | trivial | exact fun h => absurd h (by omega)), (by first | trivial | rfl)⟩
        · obtain rfl : a = R := by rw [← HR.out, if_neg ha]
          have hzb : (a == 0) = false := by simpa using ha
          have hzc : (a != 0) = true := by simpa using ha
          clear HA HB HR ha
          go_wp2
          go_ret
          exact ⟨rfl, rfl⟩
      · have ha := HA.out (by omega)
        obtain rfl : b = R := by rw [← HR.out, if_pos ha]
        by_cases hb : b = 0
        · subst hb
          clear HA HB HR
          have HA := Lib.hid ha
          clear ha
          go_wp2
          go_roundg 0
          case measure => omega
          case rel => exact ⟨2, by omega, (by first | trivial | rfl), (by first | trivial | exact fun _ => HA.out), (by first | trivial | exact fun _ => trivial | exact fun _ => rfl), (by first | trivial | rfl)⟩
        · have hzb : (b == 0) = false := by simpa using hb
          have hzc : (b != 0) = true := by simpa using hb
          clear HA HB HR hb ha
          go_wp2
          go_ret
          exact ⟨rfl, rfl⟩

/-- What Objects sorts by. -/
def ordO (a b : O3) : Int := if ordS a.1 b.1 = 0 then ordS a.2.1 b.2.1 else ordS a.1 b.1
theorem ordO_lt (a b : O3) : ordO a b < 0 ↔ ltO a b = true := by
  unfold ordO ltO ordS
  cases h1 : ltS a.1 b.1 with
  | true => simp
  | false =>
    cases h2 : ltS b.1 a.1 with
    | true =>
      have hne : ¬ a.1 = b.1 := fun e => by rw [e, ltS_irr] at h2; cases h2
      simp [hne]
    | false =>
      have he := ltS_tri h1 h2
      simp only [he, beq_self_eq_true, Bool.true_and, Bool.false_or]
      cases h3 : ltS a.2.1 b.2.1 with
      | true => simp
      | false => cases h4 : ltS b.2.1 a.2.1 <;> simp

theorem cells2_new (W : World) (x y : Value) (T : TypeId) : (W.alloc (.cells #[x, y] T)).cell? ⟨W.heap.size, 0, none⟩ = some x ∧ (W.alloc (.cells #[x, y] T)).cell? ⟨W.heap.size, 1, none⟩ = some y := by
  have h := heap_alloc_new W (.cells #[x, y] T)
  constructor
  · rw [Lib.cell_of_heap h]; rfl
  · rw [Lib.cell_of_heap h]; rfl
set_option maxHeartbeats 4000000 in
theorem cmp_objs (t j t' j' : S8) (w : World) (c2 c3 c4 c5 c6 d2 d3 d4 d5 d6 : Value) :
    Calls Tryd.prog 27 #[.agg #[str t, str j, c2, c3, c4, c5, c6], .agg #[str t', str j', d2, d3, d4, d5, d6]] w fun e w' =>
      e = .returned (.int .i64 (if ordS t t' = 0 then ordS j j' else ordS t t')) ∧ ∃ q os', w' = Sort.grow (w.drewN q) os' := by
  have mixed : Tryd.prog.follows .mixedOrders = true := by kernel_rfl
  have CC := fun (a b : S8) (W : World) => compare_str a b W
  generalize ordS = f at CC ⊢
  obtain ⟨x, hx⟩ : ∃ x, f t t' = x := ⟨_, rfl⟩
  obtain ⟨y, hy⟩ : ∃ y, f j j' = y := ⟨_, rfl⟩
  rw [hx, hy]
  obtain ⟨z, hz⟩ : ∃ z : Int, (if x = 0 then y else x) = z := ⟨_, rfl⟩
  have OR : ∀ W : World, Calls Tryd.prog 28 #[.slice (some ⟨W.heap.size, 0, none⟩) 2 2] (W.alloc (.cells #[.int .i64 x, .int .i64 y] 3)).drew fun e w' => e = .returned (.int .i64 z) ∧ w' = (W.alloc (.cells #[.int .i64 x, .int .i64 y] 3)).drew := fun W => by
    rw [← hz]
    exact or_two x y W.heap.size _ (cells2_new W _ _ _).1 (cells2_new W _ _ _).2
  rw [hz]
  obtain ⟨w1, hw1⟩ : ∃ w1, w1 = w.alloc (.cells #[str t, str j, c2, c3, c4, c5, c6] 57) := ⟨_, rfl⟩
  obtain ⟨w2, hw2⟩ : ∃ w2, w2 = w1.alloc (.cells #[str t', str j', d2, d3, d4, d5, d6] 57) := ⟨_, rfl⟩
  have hg : ∃ os, w2 = Sort.grow w os := ⟨_, by rw [hw2, hw1, Sort.alloc_eq_grow, Sort.alloc_eq_grow, Sort.grow_grow]⟩
  have s1 : w1.heap.size = w.heap.size + 1 := by rw [hw1]; simp only [World.alloc, Array.size_push]
  have n1 : w1.heap[w.heap.size]? = some (.cells #[str t, str j, c2, c3, c4, c5, c6] 57 (0, 0)) := by rw [hw1]; exact heap_alloc_new _ _
  have n2 : w2.heap[w1.heap.size]? = some (.cells #[str t', str j', d2, d3, d4, d5, d6] 57 (0, 0)) := by rw [hw2]; exact heap_alloc_new _ _
  have b1 : Below w.heap.size w w1 := by rw [hw1]; exact (Below.refl _ w).alloc (Nat.le_refl _) _
  have b2 : Below w1.heap.size w1 w2 := by rw [hw2]; exact (Below.refl _ w1).alloc (Nat.le_refl _) _
  have m1 := (b2.block _ (heap_lt n1)).trans n1
  have hb := b1.trans (b2.mono b1.size)
  rw [s1] at n2
  have k0 : w2.cell? ⟨w.heap.size, 0, none⟩ = some (str t) := by rw [Lib.cell_of_heap m1]; rfl
  have k1 : w2.cell? ⟨w.heap.size, 1, none⟩ = some (str j) := by rw [Lib.cell_of_heap m1]; rfl
  have l0 : w2.cell? ⟨w.heap.size + 1, 0, none⟩ = some (str t') := by rw [Lib.cell_of_heap n2]; rfl
  have l1 : w2.cell? ⟨w.heap.size + 1, 1, none⟩ = some (str j') := by rw [Lib.cell_of_heap n2]; rfl
  clear m1 n1 n2 b1 b2 hz s1
  go_enter Tryd.func27, Tryd.ntmps27
  go_upto_region 1 with fail
  rw [← hw1, ← hw2]
  clear hw1 hw2
  go_region_law_o (first
    | (go_simp; go_at_call 29; refine (CC _ _ _).mono ?_; rintro e w' ⟨rfl, hw'⟩; rw [hw']; clear hw' w')
    | (go_simp; go_at_call 28; refine (OR _).mono ?_; rintro e w' ⟨rfl, hw'⟩; rw [hw']; clear hw' w'))
  all_goals
    go_wp2
    go_ret
    obtain ⟨os, hos⟩ := hg
    exact ⟨rfl, 1, _, by rw [hos, Sort.alloc_eq_grow, Sort.grow_grow]; rfl⟩

end Go.Proofs.YtpbipngnoklmcaaDoor
