/- The walks of value.Null, Bool, Int, Text. -/
import Derived.Test.YtgbalofdfdafmaaDoorValC
import Derived.Test.YtgbalofdfdafmaaDoorMg
import Derived.Test.YtgbalofdfdafmaaDoorValR
namespace Go.Proofs.YtgbalofdfdafmaaDoor
open Go.RowKit
set_option maxRecDepth 100000
attribute [local go_sem] str_size str_toList str_get

/-- A value without items or keys. -/
def leafV (k : Int) (b : Bool) (t : List UInt8) : Value := .agg #[.int .i64 k, .bool b, str t, .slice none 0 0, .slice none 0 0]
theorem leaf_own (w : World) (k : Int) (b : Bool) (t : List UInt8) (hk : -9223372036854775808 ≤ k ∧ k ≤ 9223372036854775807 ∧ t.length ≤ 9223372036854775807) : OwnVal w (.mk k b t [] []) (leafV k b t) [] := by
  rw [OwnVal]
  exact ⟨.slice none 0 0, .slice none 0 0, [], [], [], [], rfl, hk, OwnS.nil _ _ _, OwnS.nil _ _ _, rfl, rfl, by rw [OwnVals]; exact ⟨rfl, rfl⟩⟩

theorem null_val (w : World) : Calls Tryd.prog 28 #[] w fun e w' => e = .returned (leafV 0 false []) ∧ Below w.heap.size w w' := by
  obtain ⟨wB, hwB⟩ : ∃ wB, wB = w.alloc (.cells #[.int .i64 0, .bool false, .string ⟨#[]⟩, .slice none 0 0, .slice none 0 0] 26) := ⟨_, rfl⟩
  obtain ⟨b0, b1, b2, b3, b4, hsB, hbB⟩ := box5 hwB
  go_enter Tryd.func28, Tryd.ntmps28
  go_wp2
  rw [← hwB]
  exact bodyPost_ret (v := .agg #[.int .i64 0, .bool false, .string ⟨#[]⟩, .slice none 0 0, .slice none 0 0]) (by simp [results, go_sem, b0, b1, b2, b3, b4]) rfl ⟨rfl, hbB⟩
theorem bool_val (b : Bool) (w : World) : Calls Tryd.prog 29 #[.bool b] w fun e w' => e = .returned (leafV 2 b []) ∧ Below w.heap.size w w' := by
  obtain ⟨wB, hwB⟩ : ∃ wB, wB = w.alloc (.cells #[.int .i64 2, .bool b, .string ⟨#[]⟩, .slice none 0 0, .slice none 0 0] 26) := ⟨_, rfl⟩
  obtain ⟨b0, b1, b2, b3, b4, hsB, hbB⟩ := box5 hwB
  go_enter Tryd.func29, Tryd.ntmps29
  go_wp2
  rw [← hwB]
  exact bodyPost_ret (v := .agg #[.int .i64 2, .bool b, .string ⟨#[]⟩, .slice none 0 0, .slice none 0 0]) (by simp [results, go_sem, b0, b1, b2, b3, b4]) rfl ⟨rfl, hbB⟩
theorem text_val (t : List UInt8) (w : World) : Calls Tryd.prog 30 #[str t] w fun e w' => e = .returned (leafV 4 false t) ∧ Below w.heap.size w w' := by
  obtain ⟨wB, hwB⟩ : ∃ wB, wB = w.alloc (.cells #[.int .i64 4, .bool false, str t, .slice none 0 0, .slice none 0 0] 26) := ⟨_, rfl⟩
  obtain ⟨b0, b1, b2, b3, b4, hsB, hbB⟩ := box5 hwB
  go_enter Tryd.func30, Tryd.ntmps30
  go_wp2
  rw [← hwB]
  exact bodyPost_ret (v := .agg #[.int .i64 4, .bool false, str t, .slice none 0 0, .slice none 0 0]) (by simp [results, go_sem, b0, b1, b2, b3, b4]) rfl ⟨rfl, hbB⟩
set_option maxHeartbeats 1000000 in
theorem int_val (n : Int) (h0 : -9223372036854775808 ≤ n) (h1 : n ≤ 9223372036854775807) (w : World) (hT : TabW w) : Calls Tryd.prog 26 #[.int .i64 n] w fun e w' => e = .returned (leafV 3 false (Lib.itoa n)) ∧ Below w.heap.size w w' := by
  obtain ⟨wB, hwB⟩ : ∃ wB, wB = w.alloc (.cells #[.int .i64 0, .bool false, .string ⟨#[]⟩, .slice none 0 0, .slice none 0 0] 26) := ⟨_, rfl⟩
  have hn : wB.heap[w.heap.size]? = some (.cells #[.int .i64 0, .bool false, .string ⟨#[]⟩, .slice none 0 0, .slice none 0 0] 26 (0, 0)) := by rw [hwB]; exact heap_alloc_new _ _
  obtain ⟨_, _, _, _, _, hsB, hbB⟩ := box5 hwB
  have C := of_any n h0 h1 wB (hT.mono hbB)
  have HN := Lib.hid hn
  obtain ⟨t, ht⟩ : ∃ t, Lib.itoa n = t := ⟨_, rfl⟩
  rw [ht] at C ⊢
  clear hn hT ht
  go_enter Tryd.func26, Tryd.ntmps26
  go_upto_region 1 with fail
  rw [← hwB]
  clear hwB
  go_wp2_with fail
  refine C.mono ?_
  rintro e w1 ⟨rfl, hq⟩
  have hr := (hq.block w.heap.size (by omega)).trans HN.out
  obtain ⟨z0, z1, z2, z3, z4, y0, y1, y2, y3, y4⟩ := free5 hr
  obtain ⟨w5, hw5, hr5, hz5, hk5, hB5⟩ := put_box5 hr (.int .i64 3) (.bool false) (.string ⟨t.toArray⟩) (.slice none 0 0) (.slice none 0 0)
  obtain ⟨p0, p1, p2, p3, p4, _, _⟩ := cell_box5 hr5
  have hB := hB5 w.heap.size w (Nat.le_refl _) (hbB.trans (hq.mono (by omega)))
  have HW := Lib.hid hw5
  clear hw5 hr5 hk5 hB5 hr
  go_wp2
  rw [← HW.out]
  exact bodyPost_ret (v := .agg #[.int .i64 3, .bool false, .string ⟨t.toArray⟩, .slice none 0 0, .slice none 0 0]) (by simp [results, go_sem, p0, p1, p2, p3, p4]) rfl ⟨rfl, hB⟩

end Go.Proofs.YtgbalofdfdafmaaDoor
