/- Walks of container/heap's Push and Pop at the heap of nodes: the heap stays a heap, its nodes are one more or the least of them less. -/
import Derived.Test.YtnjbdedmalpccaaDoorGrH2
namespace Go.Proofs.YtnjbdedmalpccaaDoor
open Go.RowKit

theorem But2.only {hb g b : Nat} {w w1 w2 : World} (h : But2 hb g w w1) (k : OnlyB b w1 w2) (hbb : b = hb ∨ b = g ∨ w.heap.size ≤ b) : But2 hb g w w2 :=
  ⟨k.os.trans h.os, k.tape.trans h.tape, k.output.trans h.output, by rw [k.size]; exact h.size, fun i hi h1 h2 => (k.block i (by rcases hbb with e | e | e <;> omega)).trans (h.block i hi h1 h2)⟩
theorem But2.of_only {hb g b : Nat} {w w1 : World} (k : OnlyB b w w1) (hbb : b = hb ∨ b = g) : But2 hb g w w1 :=
  ⟨k.os, k.tape, k.output, by rw [k.size]; exact Nat.le_refl _, fun i _ h1 h2 => k.block i (by rcases hbb with e | e <;> omega)⟩

def PushPost (hb g : Nat) (xs : List Int) (x : Int) (w : World) (e : Ending) (w' : World) : Prop :=
  e = .returned (.tuple #[]) ∧ ∃ (g' cap' : Nat) (xs' : List Int), HeapAt w' hb g' cap' xs' ∧ xs'.Perm (x :: xs) ∧ HeapN xs' xs'.length ∧ (g' = g ∨ w.heap.size ≤ g') ∧ But2 hb g w w'

set_option maxRecDepth 100000 in
set_option maxHeartbeats 800000 in
theorem heapPush_any (hb g cap : Nat) (xs : List Int) (x : Int) (w : World) (h : HeapAt w hb g cap xs) (hn : xs.length ≤ 512) (hh : HeapN xs xs.length) :
    Calls Tryd.prog 34 #[.iface 94 (.pointer (some ⟨hb, 0, none⟩)), .iface 3 (.int .i64 x)] w (PushPost hb g xs x w) := by
  have m1 := meth_push ⟨hb, 0, none⟩ w
  have P := hpush_any hb g cap xs x w h hn
  have HU := Lib.hid (UpInv.start (x := x) hh)
  clear h hh
  go_enter Tryd.func34, Tryd.ntmps34
  go_wp2_with fail
  refine P.mono ?_
  rintro e w1 ⟨rfl, g', cap', h1, hg', hb1⟩
  have e3 : (xs ++ [x]).length = xs.length + 1 := by simp
  have m2 := meth_len hb _ w1 h1.head
  rw [e3] at m2
  have E3 := Lib.hid e3
  clear e3
  go_wp2_with fail
  refine (hlen_any _ _ _ w1).mono ?_
  rintro e w2 ⟨rfl, rfl⟩
  go_wp2_with fail
  refine (hup_any hb g' cap' (xs ++ [x]) xs.length w1 h1 (by rw [E3.out]; omega) HU.out).mono ?_
  rintro e w2 ⟨rfl, xs', h2, hp, hheap, ho⟩
  go_wp2_with fail
  go_end0
  exact ⟨rfl, g', cap', xs', h2, hp.trans (List.perm_append_singleton x xs), hheap, hg', hb1.only ho (by rcases hg' with e | e <;> omega)⟩

def PopPost (hb g cap : Nat) (xs : List Int) (w : World) (e : Ending) (w' : World) : Prop :=
  ∃ (x : Int) (xs' : List Int), e = .returned (.iface 3 (.int .i64 x)) ∧ HeapAt w' hb g cap xs' ∧ xs.Perm (x :: xs') ∧ HeapN xs' xs'.length ∧ (∀ y ∈ xs, x ≤ y) ∧ But2 hb g w w'

set_option maxRecDepth 100000 in
set_option maxHeartbeats 800000 in
theorem heapPop_any (hb g cap : Nat) (xs : List Int) (w : World) (n : Nat) (h : HeapAt w hb g cap xs) (hl : xs.length = n + 1) (hn : n ≤ 512) (hh : HeapN xs xs.length) :
    Calls Tryd.prog 36 #[.iface 94 (.pointer (some ⟨hb, 0, none⟩))] w (PopPost hb g cap xs w) := by
  have m1 := meth_len hb _ w h.head
  have m2 := meth_swap hb _ w h.head
  rw [hl] at m1 hh
  have HH := Lib.hid hh
  have HL := Lib.hid hl
  have hl1 : n < xs.length := by omega
  have hl2 : xs.length ≤ 513 := by omega
  have S := hswap_at hb g cap xs 0 (n : Int) 0 n w rfl rfl h (by omega) hl1
  clear hl hh
  go_enter Tryd.func36, Tryd.ntmps36
  go_wp2_with fail
  refine (hlen_any _ _ _ w).mono ?_
  rintro e w2 ⟨rfl, rfl⟩
  go_wp2_with fail
  refine S.mono ?_
  rintro e w1 ⟨rfl, h1, ho1⟩
  go_wp2_with fail
  refine (hdown_any hb g cap (swapL xs 0 n) n w1 h1 (by rw [swapL_len]; omega) (HeapN.popped HH.out (by omega)) (by rw [swapL_len]; omega)).mono ?_
  rintro e w2 ⟨b, ys, rfl, h2, hp2, hheap, hsame, ho2⟩
  have hyl : ys.length = n + 1 := by rw [hp2.length_eq, swapL_len]; exact HL.out
  have hyn : ys.getD n 0 = xs.getD 0 0 := by
    rw [hsame n (Nat.le_refl _), swapL_get xs 0 n n (by omega) hl1, if_pos rfl]
  have hsplit : ys = ys.take n ++ [xs.getD 0 0] := by
    have := take_next ys n 0 (by omega)
    rw [hyn, List.take_of_length_le (by omega)] at this
    exact this
  have HSP := Lib.hid hsplit
  have HP2 := Lib.hid hp2
  have HHP := Lib.hid hheap
  have HYL := Lib.hid hyl
  have m3 := meth_pop ⟨hb, 0, none⟩ w2
  have hpt : HeapAt w2 hb g cap (ys.take n ++ [xs.getD 0 0]) := by rw [← hsplit]; exact h2
  have P := hpop_any hb g cap (ys.take n) (xs.getD 0 0) w2 hpt (by simp; omega)
  clear hsplit hp2 hheap hyl hyn hsame h2 hpt m1 m2
  go_wp2_with fail
  refine P.mono ?_
  rintro e w3 ⟨rfl, h3, ho3⟩
  go_wp2_with fail
  go_ret
  refine ⟨xs.getD 0 0, ys.take n, rfl, h3, ?_, ?_, ?_, ?_⟩
  · have p1 : xs.Perm ys := (HP2.out.trans (swapL_perm xs 0 n (by omega) hl1)).symm
    have p2 : (ys.take n ++ [xs.getD 0 0]).Perm (xs.getD 0 0 :: ys.take n) := List.perm_append_singleton _ _
    exact (p1.trans (by rw [← HSP.out])).trans p2
  · have e1 : (ys.take n).length = n := by simp; have := HYL.out; omega
    rw [e1]
    intro k h0 hk
    have := HHP.out k h0 hk
    have hp : par k < n := by unfold par; omega
    simpa [List.getD, List.getElem?_take, hk, hp] using this
  · intro y hy
    obtain ⟨i, hi, rfl⟩ := List.getElem_of_mem hy
    have := HH.out.least i (by have := HL.out; omega)
    simpa [List.getD, hi] using this
  · exact ((But2.of_only ho1 (Or.inr rfl)).only ho2 (Or.inr (Or.inl rfl))).only ho3 (Or.inl rfl)

end Go.Proofs.YtnjbdedmalpccaaDoor
