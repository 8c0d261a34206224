/- The walk of the laws' own awake: the document's examples. -/
import Derived.Test.YtpbipngnoklmcaaDoorWldHs
namespace Go.Proofs.YtpbipngnoklmcaaDoor
open Go.RowKit
set_option maxRecDepth 100000
attribute [local go_sem] str_size str_toList str_get

def awS0 : WS := ⟨[], [(1, [116, 46, 98])], []⟩
def awS1 : WS := (createP awS0 [116, 46, 97] [116] [] noneV).1
def awS2 : WS := (createP awS1 [116, 46, 97] [116] [116, 46, 97, 35, 54] noneV).1
def awS3 : WS := (createP awS2 [116, 46, 98] [116] [] noneV).1
theorem aw0 : newP [] [(1, [116, 46, 98])] = (some awS0, 0) := rfl
theorem aw1 : (createP awS0 [116, 46, 97] [116] [] noneV).2 = ([116, 46, 97, 35, 49], 0) := by kernel_rfl
theorem aw2 : (createP awS1 [116, 46, 97] [116] [116, 46, 97, 35, 54] noneV).2 = ([116, 46, 97, 35, 55], 0) := by kernel_rfl
theorem aw3 : (createP awS2 [116, 46, 98] [116] [] noneV).2 = ([], 160) := by kernel_rfl
theorem aw4 : awS3.objs.length = 2 := by kernel_rfl
theorem aw5 : awS3.trace.length = 3 := by kernel_rfl
theorem aw6 : awS1.trace.length ≤ 100000 ∧ awS1.objs.length ≤ 100000 ∧ awS2.trace.length ≤ 100000 ∧ awS2.objs.length ≤ 100000 := by
  rw [show awS1.trace.length = 1 by kernel_rfl, show awS1.objs.length = 1 by kernel_rfl, show awS2.trace.length = 2 by kernel_rfl, show awS2.objs.length = 2 by kernel_rfl]
  omega
theorem fit_of {l : S8} (h : l.length ≤ 100000) : fitS l := by
  show l.length ≤ _
  omega
theorem cells_one (w : World) (cs : List Value) (T : TypeId) (n : Nat) (hn : n ≤ 9223372036854775807) : CellsAt (w.alloc (.cells cs.toArray T)) (.slice (some ⟨w.heap.size, 0, none⟩) n n) n cs :=
  ⟨_, n, rfl, ⟨Nat.le_refl _, hn, fun e => by cases e⟩, fun _ => ⟨w.heap.size, 0, rfl, heap_lt (heap_alloc_new w (.cells cs.toArray T)), cells_new w cs T⟩⟩

set_option maxHeartbeats 4000000 in
theorem awake17 (w : World) (hE : ErrW w) (hT : TabW w) : Calls Tryd.prog 5 #[] w fun e w' => e = .returned (.bool true) ∧ Below w.heap.size w w' := by
  obtain ⟨w0, hw0⟩ : ∃ w0, w0 = w.alloc (.cells #[.int .i64 1, .string ⟨#[116, 46, 98]⟩] 47) := ⟨_, rfl⟩
  have hb0 : Below w.heap.size w w0 := by rw [hw0]; exact (Below.refl _ w).alloc (Nat.le_refl _) _
  have hc0 : CellsAt w0 (.slice (some ⟨w.heap.size, 0, none⟩) 1 1) 1 (failCells [(1, [116, 46, 98])]) := by rw [hw0]; exact cells_one w _ _ 1 (by omega)
  have NW := new_h [] [(1, [116, 46, 98])] (.slice none 0 0) _ w0 (ObjsAt.nil w0) hc0 (by simp) (by simp) (hE.mono hb0) (hT.mono hb0)
  have HE := Lib.hid hE
  have HT := Lib.hid hT
  clear hE hT hc0
  go_enter Tryd.func5, Tryd.ntmps5
  go_wp2_with fail
  rw [← hw0]
  clear hw0
  refine NW.mono ?_
  rintro e w1 ⟨hb1, hx⟩
  rw [aw0] at hx
  obtain ⟨p, rfl, hh⟩ := hx
  have hbw1 := hb0.trans (hb1.mono hb0.size)
  obtain ⟨w2, hw2⟩ : ∃ w2, w2 = w1.alloc (.cells #[.int .i64 6, .bool false, .string ⟨#[]⟩, .slice none 0 0, .slice none 0 0] 27) := ⟨_, rfl⟩
  have hn2 : w2.heap[w1.heap.size]? = some (.cells #[.int .i64 6, .bool false, .string ⟨#[]⟩, .slice none 0 0, .slice none 0 0] 27 (0, 0)) := by rw [hw2]; exact heap_alloc_new _ _
  have hb2 : Below w1.heap.size w1 w2 := by rw [hw2]; exact (Below.refl _ w1).alloc (Nat.le_refl _) _
  have h2 := (hh.guard (Nat.le_refl _)).below hb2
  have hbw2 := hbw1.trans (hb2.mono hbw1.size)
  obtain ⟨Q, hQ⟩ : ∃ Q, w1.heap.size = Q := ⟨_, rfl⟩
  rw [hQ] at hn2 h2
  have hG : w.heap.size ≤ w0.heap.size := hb0.size
  obtain ⟨B, hB⟩ : ∃ B, w0.heap.size = B := ⟨_, rfl⟩
  rw [hB] at h2 hG
  have hL2 : ∀ q ∈ [Q], q < w2.heap.size := fun q hq => by
    have : q = Q := by simpa using hq
    rw [this]
    exact heap_lt hn2
  have C1 := create_h h2 hL2 [116, 46, 97] [116] [] noneV _ (none_at w2) (by simp) (by simp) (fit_of (by simp)) (by simp [awS0]) (by simp) (by simp [awS0]) (HE.out.mono hbw2) (HT.out.mono hbw2)
  rw [aw1] at C1
  obtain ⟨c0, c1, c2, c3, c4⟩ := val_box hn2
  have HN2 := Lib.hid hn2
  have HW2 := Lib.hid hw2
  clear NW hb0 hb1 hh hb2 hn2 h2 hw2 hbw1
  go_wp2_with fail
  rw [← HW2.out]
  clear HW2 hQ
  refine C1.mono ?_
  rintro e w3 ⟨rfl, h3, hk3⟩
  have h3 : Has B [Q] p awS1 1 w3 := h3
  have hn3 := (hk3.2 Q (by simp) (heap_lt HN2.out)).trans HN2.out
  have hbw3 := hbw2.trans (hk3.1.mono hG)
  obtain ⟨d0, d1, d2, d3, d4⟩ := val_box hn3
  have HN3 := Lib.hid hn3
  have C2 := create_h h3 (fun q hq => by have : q = Q := by simpa using hq
                                         rw [this]; exact heap_lt hn3) [116, 46, 97] [116] [116, 46, 97, 35, 54] noneV _ (none_at w3) (by simp) (by simp) (fit_of (by simp)) aw6.1 (by simp) aw6.2.1 (HE.out.mono hbw3) (HT.out.mono hbw3)
  rw [aw2] at C2
  clear C1 hn3 h3 hk3 c0 c1 c2 c3 c4
  go_wp2_with fail
  refine C2.mono ?_
  rintro e w4 ⟨rfl, h4, hk4⟩
  have h4 : Has B [Q] p awS2 2 w4 := h4
  have hn4 := (hk4.2 Q (by simp) (heap_lt HN3.out)).trans HN3.out
  have hbw4 := hbw3.trans (hk4.1.mono (Nat.le_trans hG (Nat.le_refl _)))
  obtain ⟨c0, c1, c2, c3, c4⟩ := val_box hn4
  have C3 := create_h h4 (fun q hq => by have : q = Q := by simpa using hq
                                         rw [this]; exact heap_lt hn4) [116, 46, 98] [116] [] noneV _ (none_at w4) (by simp) (by simp) (fit_of (by simp)) aw6.2.2.1 (by simp) aw6.2.2.2 (HE.out.mono hbw4) (HT.out.mono hbw4)
  rw [aw3] at C3
  clear C2 hn4 h4 hk4 d0 d1 d2 d3 d4
  go_wp2_with fail
  refine C3.mono ?_
  rintro e w5 ⟨rfl, h5, hk5⟩
  have h5 : Has B [Q] p awS3 3 w5 := h5
  have hbw5 := hbw4.trans (hk5.1.mono hG)
  have OB := objects_h h5 (by rw [aw4]; omega)
  have TR := fun W (hW : Below w5.heap.size w5 W) => trace_h (h5.below hW) (by rw [aw5]; omega)
  rw [aw5] at TR
  clear C3 h5 hk5 c0 c1 c2 c3 c4
  go_wp2_with fail
  refine OB.mono ?_
  rintro e w6 ⟨v6, rfl, ho6, hb6⟩
  obtain ⟨a6, c6, rfl, _⟩ := ho6
  rw [aw4]
  have TR6 := TR w6 hb6
  have hbw6 := hbw5.trans (hb6.mono hbw5.size)
  clear OB TR
  go_wp2_with fail
  refine TR6.mono ?_
  rintro e w7 ⟨v7, rfl, ho7, hb7⟩
  obtain ⟨a7, c7, rfl⟩ := slice_form ho7
  have hbw7 := hbw6.trans (hb7.mono hbw6.size)
  clear TR6 ho7
  go_wp2
  go_ret
  exact ⟨rfl, hbw7⟩

end Go.Proofs.YtpbipngnoklmcaaDoor
