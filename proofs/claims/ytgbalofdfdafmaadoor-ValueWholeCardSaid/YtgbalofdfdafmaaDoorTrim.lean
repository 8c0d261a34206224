/- The walk of trim: no noughts on top. -/
import Derived.Test.YtgbalofdfdafmaaDoorMem
namespace Go.Proofs.YtgbalofdfdafmaaDoor
open Go.RowKit
set_option maxRecDepth 100000

/-- What a call that makes a big number leaves. -/
def BigPost (below : Bool) (xs : List Nat) (w : World) (e : Ending) (w' : World) : Prop := ∃ v, e = .returned v ∧ BigAt w' v below xs ∧ Below w.heap.size w w'

/-- A cell of a variable of two is set. -/
theorem set_box2 {w : World} {ty q : Nat} {x0 x1 : Value} (h : w.heap[q]? = some (.cells #[x0, x1] ty (0, 0))) (a1 : Value) :
    ∃ w6, w6 = w.setCell ⟨q, 1, none⟩ a1 ∧ w6.heap[q]? = some (.cells #[x0, a1] ty (0, 0)) ∧ w6.heap.size = w.heap.size ∧ (∀ k, k ≠ q → w6.heap[k]? = w.heap[k]?) ∧ ∀ (b : Nat) (wb : World), b ≤ q → Below b wb w → Below b wb w6 := by
  refine ⟨_, rfl, ?_, by simp, fun k hk => Below.heap_setCell _ _ _ _ hk, fun b wb hq hb => hb.setCell hq _⟩
  simp [World.setCell, Array.getElem?_modify, h]
theorem set_box2' {w : World} {ty q : Nat} {x0 x1 : Value} (h : w.heap[q]? = some (.cells #[x0, x1] ty (0, 0))) (a0 : Value) :
    ∃ w6, w6 = w.setCell ⟨q, 0, none⟩ a0 ∧ w6.heap[q]? = some (.cells #[a0, x1] ty (0, 0)) ∧ w6.heap.size = w.heap.size ∧ (∀ k, k ≠ q → w6.heap[k]? = w.heap[k]?) ∧ ∀ (b : Nat) (wb : World), b ≤ q → Below b wb w → Below b wb w6 := by
  refine ⟨_, rfl, ?_, by simp, fun k hk => Below.heap_setCell _ _ _ _ hk, fun b wb hq hb => hb.setCell hq _⟩
  simp [World.setCell, Array.getElem?_modify, h]

set_option maxHeartbeats 1600000 in
theorem trim_any (below : Bool) (ao : Option Addr) (cap : Nat) (xs : List Nat) (w : World) (h : LimbsAt w (.slice ao xs.length cap) xs) :
    Calls Tryd.prog 77 #[.agg #[.bool below, .slice ao xs.length cap]] w (BigPost (below && !(trimL xs).isEmpty) (trimL xs) w) := by
  have HL := Lib.hid h
  have hlen : xs.length ≤ 4096 := by obtain ⟨_, _, _, h1, _⟩ := h; exact h1
  obtain ⟨w0, hw0⟩ : ∃ w0, w0 = (w.alloc (.cells #[.bool below, .slice ao xs.length cap] 78)).alloc (.cells #[.bool false, .slice none 0 0] 78) := ⟨_, rfl⟩
  have hs0 : w0.heap.size = w.heap.size + 2 := by rw [hw0]; simp
  have hb0 : Below w.heap.size w w0 := by rw [hw0]; exact ((Below.refl _ w).alloc (Nat.le_refl _) _).alloc (by simp) _
  have hx0 : w0.heap[w.heap.size]? = some (.cells #[.bool below, .slice ao xs.length cap] 78 (0, 0)) := by
    rw [hw0]; exact (Below.heap_alloc _ _ _ (by simp)).trans (heap_alloc_new _ _)
  have hr0 : w0.heap[w.heap.size + 1]? = some (.cells #[.bool false, .slice none 0 0] 78 (0, 0)) := by
    have := heap_alloc_new (w.alloc (.cells #[.bool below, .slice ao xs.length cap] 78)) (.cells #[.bool false, .slice none 0 0] 78)
    rw [hw0]
    rwa [show (w.alloc (.cells #[.bool below, .slice ao xs.length cap] 78)).heap.size = w.heap.size + 1 by simp] at this
  clear h
  go_enter Tryd.func77, Tryd.ntmps77
  go_wp2
  rw [← hw0]
  clear hw0
  go_loopg [3] xs.length (fun g _ wr => g ≤ xs.length ∧ trimL (xs.take g) = trimL xs ∧ wr.heap[w.heap.size]? = some (.cells #[.bool below, .slice ao g cap] 78 (0, 0)) ∧ wr.heap[w.heap.size + 1]? = some (.cells #[.bool false, .slice none 0 0] 78 (0, 0)) ∧ Below w.heap.size w wr)
  case atStart => exact ⟨Nat.le_refl _, by rw [List.take_length], hx0, hr0, hb0⟩
  case round =>
    obtain ⟨hg, ht, hx, hr, hb⟩ := hrel
    obtain ⟨y0, y1, z0, z1⟩ := cell_box2 hx
    cases gk with
    | zero =>
      have htt : trimL xs = xs.take 0 := by rw [← ht]; rfl
      cases below with
      | false =>
        have hbb : (false && !(trimL xs).isEmpty) = false := rfl
        obtain ⟨w1, hw1, hx1, hz1, hk1, hB1⟩ := set_box2' hx (.bool false)
        have hr1 := (hk1 (w.heap.size + 1) (by omega)).trans hr
        obtain ⟨w2, hw2, hr2, hz2, hk2, hB2⟩ := set_box2' hr1 (.bool false)
        obtain ⟨w3, hw3, hr3, hz3, hk3, hB3⟩ := set_box2 hr2 (.slice ao 0 cap)
        have hb3 := hB3 _ _ (Nat.le_succ _) (hB2 _ _ (Nat.le_succ _) (hB1 _ _ (Nat.le_refl _) hb))
        obtain ⟨q0, q1, _, _⟩ := cell_box2 hr3
        obtain ⟨c0, c1, o0, o1⟩ := cell_box2 hr
        have HW1 := Lib.hid hw1
        have HW2 := Lib.hid hw2
        have HW3 := Lib.hid hw3
        have hLk := (HL.out.cut 0 (by omega)).mono hb3
        have HTT := Lib.hid htt
        have HBB := Lib.hid hbb
        clear hx hr hb hx1 hr1 hr2 hr3 hk1 hk2 hk3 hB1 hB2 hB3 ht htt hbb hw1 hw2 hw3
        go_wp2
        rw [← HW1.out, ← HW2.out, ← HW3.out]
        refine bodyPost_ret (v := .agg #[.bool false, .slice ao 0 cap]) (by simp [results, go_sem, q0, q1]) rfl ?_
        exact ⟨_, rfl, ⟨_, by rw [HBB.out], by rw [HTT.out]; exact hLk⟩, hb3⟩
      | true =>
        have hbb : (true && !(trimL xs).isEmpty) = false := by rw [htt]; rfl
        obtain ⟨w1, hw1, hx1, hz1, hk1, hB1⟩ := set_box2' hx (.bool false)
        have hr1 := (hk1 (w.heap.size + 1) (by omega)).trans hr
        obtain ⟨w2, hw2, hr2, hz2, hk2, hB2⟩ := set_box2' hr1 (.bool false)
        obtain ⟨w3, hw3, hr3, hz3, hk3, hB3⟩ := set_box2 hr2 (.slice ao 0 cap)
        have hb3 := hB3 _ _ (Nat.le_succ _) (hB2 _ _ (Nat.le_succ _) (hB1 _ _ (Nat.le_refl _) hb))
        obtain ⟨q0, q1, _, _⟩ := cell_box2 hr3
        obtain ⟨c0, c1, o0, o1⟩ := cell_box2 hr
        have HW1 := Lib.hid hw1
        have HW2 := Lib.hid hw2
        have HW3 := Lib.hid hw3
        have hLk := (HL.out.cut 0 (by omega)).mono hb3
        have HTT := Lib.hid htt
        have HBB := Lib.hid hbb
        clear hx hr hb hx1 hr1 hr2 hr3 hk1 hk2 hk3 hB1 hB2 hB3 ht htt hbb hw1 hw2 hw3
        go_wp2
        rw [← HW1.out, ← HW2.out, ← HW3.out]
        refine bodyPost_ret (v := .agg #[.bool false, .slice ao 0 cap]) (by simp [results, go_sem, q0, q1]) rfl ?_
        exact ⟨_, rfl, ⟨_, by rw [HBB.out], by rw [HTT.out]; exact hLk⟩, hb3⟩
    | succ g =>
      obtain ⟨bl, off, hao, hbl, hc⟩ := HL.out.get (i := g) (by omega)
      have hcw := (hb.cell (p := ⟨bl, off + g, none⟩) hbl).trans hc
      have htk : xs.take (g + 1) = xs.take g ++ [xs.getD g 0] := by
        rw [List.take_add_one]; simp [List.getD, show g < xs.length by omega]
      rw [htk, trimL_snoc] at ht
      obtain ⟨x, hxe⟩ : ∃ x, x = xs.getD g 0 := ⟨_, rfl⟩
      rw [← hxe] at hcw htk ht
      by_cases h0 : x = 0
      · rw [if_pos h0] at ht
        rw [h0] at hcw
        obtain ⟨w1, hw1, hx1, hz1, hk1, hB1⟩ := set_box2 hx (.slice ao g cap)
        have hr1 := (hk1 (w.heap.size + 1) (by omega)).trans hr
        have hb1 := hB1 _ _ (Nat.le_refl _) hb
        have hcap : g + 1 ≤ cap := by obtain ⟨_, _, hv, _, h2, _⟩ := HL.out; cases hv; omega
        subst hao
        clear hxe
        clear hx hr hb hx0 hr0 hb0 htk hc h0 hk1 hB1
        go_wp2_with (rw [← hw1])
        go_roundg g
        case measure => omega
        case rel => exact ⟨by omega, ht, hx1, hr1, hb1⟩
      · rw [if_neg h0, ← htk] at ht
        have htt : trimL xs = xs.take (g + 1) := ht.symm
        have hne : ((x : Int) == 0) = false := by simpa using h0
        have hnx : ¬ (x : Int) = 0 := by omega
        have hemp : (xs.take (g + 1)).isEmpty = false := by rw [htk]; simp
        subst hao
        clear hxe hc htk h0
        cases below with
        | false =>
          have hbb : (false && !(trimL xs).isEmpty) = false := rfl
          obtain ⟨w1, hw1, hx1, hz1, hk1, hB1⟩ := set_box2' hx (.bool false)
          have hr1 := (hk1 (w.heap.size + 1) (by omega)).trans hr
          obtain ⟨w2, hw2, hr2, hz2, hk2, hB2⟩ := set_box2' hr1 (.bool false)
          obtain ⟨w3, hw3, hr3, hz3, hk3, hB3⟩ := set_box2 hr2 (.slice (some ⟨bl, off, none⟩) (g + 1) cap)
          have hb3 := hB3 _ _ (Nat.le_succ _) (hB2 _ _ (Nat.le_succ _) (hB1 _ _ (Nat.le_refl _) hb))
          obtain ⟨q0, q1, _, _⟩ := cell_box2 hr3
          obtain ⟨c0, c1, o0, o1⟩ := cell_box2 hr
          have HW1 := Lib.hid hw1
          have HW2 := Lib.hid hw2
          have HW3 := Lib.hid hw3
          have hLk := (HL.out.cut (g + 1) (by omega)).mono hb3
          have HTT := Lib.hid htt
          have HBB := Lib.hid hbb
          clear hx hr hb hx1 hr1 hr2 hr3 hk1 hk2 hk3 hB1 hB2 hB3 ht htt hbb hw1 hw2 hw3
          go_wp2
          rw [← HW1.out, ← HW2.out, ← HW3.out]
          refine bodyPost_ret (v := .agg #[.bool false, .slice (some ⟨bl, off, none⟩) (g + 1) cap]) (by simp [results, go_sem, q0, q1]) rfl ?_
          exact ⟨_, rfl, ⟨_, by rw [HBB.out], by rw [HTT.out]; exact hLk⟩, hb3⟩
        | true =>
          have hbb : (true && !(trimL xs).isEmpty) = true := by rw [htt, hemp]; rfl
          obtain ⟨w1, hw1, hx1, hz1, hk1, hB1⟩ := set_box2' hx (.bool true)
          have hr1 := (hk1 (w.heap.size + 1) (by omega)).trans hr
          obtain ⟨w2, hw2, hr2, hz2, hk2, hB2⟩ := set_box2' hr1 (.bool true)
          obtain ⟨w3, hw3, hr3, hz3, hk3, hB3⟩ := set_box2 hr2 (.slice (some ⟨bl, off, none⟩) (g + 1) cap)
          have hb3 := hB3 _ _ (Nat.le_succ _) (hB2 _ _ (Nat.le_succ _) (hB1 _ _ (Nat.le_refl _) hb))
          obtain ⟨q0, q1, _, _⟩ := cell_box2 hr3
          obtain ⟨c0, c1, o0, o1⟩ := cell_box2 hr
          have HW1 := Lib.hid hw1
          have HW2 := Lib.hid hw2
          have HW3 := Lib.hid hw3
          have hLk := (HL.out.cut (g + 1) (by omega)).mono hb3
          have HTT := Lib.hid htt
          have HBB := Lib.hid hbb
          clear hx hr hb hx1 hr1 hr2 hr3 hk1 hk2 hk3 hB1 hB2 hB3 ht htt hbb hw1 hw2 hw3
          go_wp2
          rw [← HW1.out, ← HW2.out, ← HW3.out]
          refine bodyPost_ret (v := .agg #[.bool true, .slice (some ⟨bl, off, none⟩) (g + 1) cap]) (by simp [results, go_sem, q0, q1]) rfl ?_
          exact ⟨_, rfl, ⟨_, by rw [HBB.out], by rw [HTT.out]; exact hLk⟩, hb3⟩

end Go.Proofs.YtgbalofdfdafmaaDoor
