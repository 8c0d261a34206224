/- slices.Delete of one element, at texts and at values, in place. Printed by gendel.py. -/
import Derived.Test.YtgbalofdfdafmaaDoorMv
import Derived.Test.YtgbalofdfdafmaaDoorMn
import Derived.Deep.RegionLaw
import Derived.Shelf.RegionOpenPlain
import Derived.Laws.IdiomCopy
namespace Go.Proofs.YtgbalofdfdafmaaDoor
open Go.RowKit
set_option maxRecDepth 100000

set_option maxHeartbeats 4000000 in
theorem del_V (g n cap i : Nat) (cur : Array Value) (A X B : List Value) (w : World) (hi : i < n) (hroom : n ≤ cap) (hc63 : cap ≤ 9223372036854775807)
    (hg : w.heap[g]? = some (.cells cur 26 (0, 0))) (hcs : cur.size = cap * 5) (hA : A.length = i * 5) (hX : X.length = 5) (hB : B.length = (n - (i + 1)) * 5) (hAB : cur.toList.take (n * 5) = A ++ X ++ B) (h1B : ∀ v ∈ B, v.oneCell' = true) :
    Calls Tryd.prog 42 #[.slice (some ⟨g, 0, none⟩) n cap, .int .i64 i, .int .i64 ((i : Int) + 1)] w fun e w' =>
      e = .returned (.slice (some ⟨g, 0, none⟩) (n - 1) cap) ∧ w.grownBy w' (some g) ∧ w'.ownsRow 0 26 5 (.slice (some ⟨g, 0, none⟩) (n - 1) cap) (n - 1) (A ++ B) := by
  obtain ⟨i0, hi0, hz0, hzs, hzb⟩ := info_parts infoVal
  have hcl5 : cur.toList.length = cur.size := Array.length_toList
  have hsplit : cur.toList = A ++ X ++ B ++ cur.toList.drop (n * 5) := by rw [← hAB, List.take_append_drop]
  obtain ⟨D, hD⟩ : ∃ D, cur.toList.drop (n * 5) = D := ⟨_, rfl⟩
  rw [hD] at hsplit
  have hDl : D.length = cap * 5 - n * 5 := by rw [← hD, List.length_drop, hcl5, hcs]
  have hsrcB : ∀ j v, B[j]? = some v → w.cell? ⟨g, (i + 1) * 5 + j, none⟩ = some v := fun j v hj => by
    have hjl : j < B.length := (List.getElem?_eq_some_iff.1 hj).1
    have h2 : cur.toList[(i + 1) * 5 + j]? = some v := by
      rw [hsplit, List.append_assoc, List.getElem?_append_right (by simp; omega), List.getElem?_append_left (by simp; omega)]
      rw [show (i + 1) * 5 + j - (A ++ X).length = j by simp; omega]
      exact hj
    simpa [World.cell?, hg] using h2
  obtain ⟨cur1, hcur1⟩ : ∃ c, c = (cur.toList.take (0 + i * 5) ++ B ++ cur.toList.drop (0 + i * 5 + B.length)).toArray := ⟨_, rfl⟩
  have hl1 : cur1.size = cur.size := by rw [hcur1]; simp; omega
  have hs1 : ∀ W : World, (∀ k : Nat, W.heap[k]? = w.heap[k]?) → W.setCells g (0 + i * 5) B = W.setRow g cur1 := fun W hW => by
    have hgW : W.heap[g]? = some (.cells cur 26 (0, 0)) := by rw [hW]; exact hg
    have e1 := run_storeCells_at Tryd.prog g (0 + i * 5) 26 B 0 cur W hgW (by omega) h1B
    have e2 := run_storeCells_cells (P := Tryd.prog) g (0 + i * 5) B 0 W (fun j hj => by simp [World.cell?, hgW]; omega) (fun j hj => by simp [World.frozen?, hgW]) h1B
    simp only [Nat.add_zero] at e1 e2
    rw [e1] at e2
    injection e2 with _ e2
    rw [hcur1]
    exact e2.symm
  have hA1 : cur1.toList = A ++ B ++ (cur.toList.drop (i * 5 + B.length)) := by
    rw [hcur1]
    simp only [Nat.zero_add]
    congr 2
    rw [hsplit, ← hA]
    simp
  obtain ⟨Z, hZ⟩ : ∃ Z : List Value, Z = [.int .i64 0, .bool false, .string ⟨#[]⟩, .slice none 0 0, .slice none 0 0] := ⟨_, rfl⟩
  have hZl : Z.length = 5 := by rw [hZ]; rfl
  obtain ⟨cur2, hcur2⟩ : ∃ c, c = (cur1.toList.take ((n - 1) * 5) ++ Z ++ cur1.toList.drop ((n - 1) * 5 + Z.length)).toArray := ⟨_, rfl⟩
  have hl2 : cur2.size = cap * 5 := by rw [hcur2]; simp; omega
  have hcl : ∀ (W : World), W.heap[g]? = some (.cells cur1 26 (0, 0)) → ∀ ty c, (Builtin.clear_ #[23] ty #[.slice (some ⟨g, (n - 1) * 5, none⟩) 1 c]).run Tryd.prog W = .ok (.tuple #[]) (W.setRow g cur2) := fun W hW ty c => by
    have hv : ∀ w, (zeroValue 26).run Tryd.prog w = .ok (.agg #[.int .i64 0, .bool false, .string ⟨#[]⟩, .slice none 0 0, .slice none 0 0]) w := fun w => by simp [zeroValue, typeInfo, hi0, hz0]
    have hst := run_storeCells_at Tryd.prog g ((n - 1) * 5) 26 Z 0 cur1 W hW (by omega) (by rw [hZ]; intro v hv; simp at hv; first | (rcases hv with rfl | rfl | rfl | rfl | rfl <;> rfl) | (subst hv; rfl))
    rw [hcur2]
    simp only [Nat.add_zero] at hst
    have hzc : (Builtin.zeroCells (Value.cells (.agg #[.int .i64 0, .bool false, .string ⟨#[]⟩, .slice none 0 0, .slice none 0 0])) 1).toList = Z := by rw [hZ]; kernel_rfl
    try simp only [Nat.mul_one] at hst ⊢
    simp [Builtin.clear_, run_underlying Tryd.underlying23, hv, hzc, hst]
  have hend : ∀ W : World, W.os = w.os → W.tape = w.tape → W.output = w.output → W.heap.size = w.heap.size → (∀ k : Nat, W.heap[k]? = ((w.setRow g cur1).setRow g cur2).heap[k]?) → w.grownBy W (some g) ∧ W.ownsRow 0 26 5 (.slice (some ⟨g, 0, none⟩) (n - 1) cap) (n - 1) (A ++ B) := by
    intro W e1 e2 e3 e4 e5
    refine ⟨⟨e1, e2, e3, by omega, fun k _ hk => ?_⟩, by simp; omega, .inr ⟨g, cap, cur2, rfl, Nat.zero_le _, ?_, by omega, by unfold maxLen; omega, by omega, ?_⟩⟩
    · have hne : k ≠ g := fun e => hk (by rw [e])
      rw [e5, heap_setRow_ne hne, heap_setRow_ne hne]
    · rw [e5]
      exact heap_setRow (heap_setRow hg)
    · have e0 : (A ++ B).length = (n - 1) * 5 := by simp; omega
      have e1 : cur1.toList.take ((n - 1) * 5) = A ++ B := by rw [hA1]; exact List.take_left' e0
      rw [hcur2]
      show ((cur1.toList.take ((n - 1) * 5) ++ Z ++ cur1.toList.drop ((n - 1) * 5 + Z.length)).toArray.toList).take ((n - 1) * 5) = _
      rw [e1, List.append_assoc]
      exact List.take_left' e0
  have HE := Lib.hid hend
  obtain ⟨W1, hW1⟩ : ∃ W1, W1 = w.drew.setRow g cur1 := ⟨_, rfl⟩
  have hs1' := hs1 w.drew (fun _ => rfl)
  rw [← hW1] at hs1'
  have hcl1 := hcl W1 (by rw [hW1]; exact heap_setRow hg)
  obtain ⟨adr, hadr, hsrc⟩ : ∃ adr : Addr, (if cap = i + 1 then (some ⟨g, 0, none⟩ : Option Addr) else some ⟨g, (i + 1) * 5, none⟩) = some adr ∧ ∀ j u, B[j]? = some u → w.drew.cell? (adr.add j) = some u := by
    by_cases hc : cap = i + 1
    · refine ⟨_, if_pos hc, fun j u hj => ?_⟩
      have : B.length = 0 := by rw [hB, show n - (i + 1) = 0 by omega, Nat.zero_mul]
      simp [List.length_eq_zero_iff.1 this] at hj
    · exact ⟨_, if_neg hc, fun j u hj => by rw [Addr.add_lit]; exact hsrcB j u hj⟩
  try simp only [Nat.mul_one] at hadr
  try simp only [Nat.mul_one] at hcl1
  have hspare : ∀ j, j < B.length → (w.drew.cell? ⟨g, 0 + i * 5 + j, none⟩).isSome = true ∧ w.drew.frozen? ⟨g, 0 + i * 5 + j, none⟩ = false := fun j hj => by
    have hgd : w.drew.heap[g]? = some (.cells cur 26 (0, 0)) := hg
    constructor
    · simp [World.cell?, hgd]; omega
    · simp [World.frozen?, hgd]
  have HS := Lib.hid hsrc
  have HP := Lib.hid hspare
  have HW1 := Lib.hid hW1
  have HB := Lib.hid hB
  have H1 := Lib.hid h1B
  have HS1 := Lib.hid hs1'
  clear hW1 hcl hs1 hs1' hend hcur1 hcur2 hsrcB hg hcs hA hB hAB hX h1B hl1 hl2 hA1 hZ hZl hsplit hD hDl hcl5 hsrc hspare
  have hne : ¬ ((i : Int) = (i : Int) + 1) := by omega
  have hlb : (i : Int) + 1 ≤ (n : Int) := by omega
  have hlb2 : (0 : Int) ≤ (i : Int) + 1 := by omega
  have htn : ((i : Int) + 1).toNat = i + 1 := by omega
  have hic : i ≤ cap := by omega
  have hsm : i + (n - (i + 1)) = n - 1 := by omega
  have hsub : n - (n - 1) = 1 := by omega
  have mixed : Tryd.prog.follows .mixedOrders = true := by kernel_rfl
  go_enter Tryd.func42, Tryd.ntmps42
  go_wp2_with fail
  go_region_law_o (refine step_append_room rfl (.tmp 22) (.tmp 25) 23 rfl 26 i0 5 Tryd.underlying23 hi0 hzs g 0 i cap (by simp [Act.eval, Act.put]) adr (n - (i + 1)) (cap - (i + 1)) B (by first | simp [Act.eval, Act.put] | simp [Act.eval, Act.put, hadr] | simp [Act.eval, Act.put, hadr, htn]) HB.out HS.out H1.out (by omega) HP.out ?_; rw [HS1.out, hsm])
  go_wp2_with (simp only [hcl1])
  go_ret
  exact ⟨rfl, HE.out _ (by rw [HW1.out]; rfl) (by rw [HW1.out]; rfl) (by rw [HW1.out]; rfl) (by rw [setRow_size, HW1.out, setRow_size]; rfl) (fun k => by rw [HW1.out]; rfl)⟩

set_option maxHeartbeats 4000000 in
theorem del_S (g n cap i : Nat) (cur : Array Value) (A X B : List Value) (w : World) (hi : i < n) (hroom : n ≤ cap) (hc63 : cap ≤ 9223372036854775807)
    (hg : w.heap[g]? = some (.cells cur 9 (0, 0))) (hcs : cur.size = cap * 1) (hA : A.length = i * 1) (hX : X.length = 1) (hB : B.length = (n - (i + 1)) * 1) (hAB : cur.toList.take (n * 1) = A ++ X ++ B) (h1B : ∀ v ∈ B, v.oneCell' = true) :
    Calls Tryd.prog 41 #[.slice (some ⟨g, 0, none⟩) n cap, .int .i64 i, .int .i64 ((i : Int) + 1)] w fun e w' =>
      e = .returned (.slice (some ⟨g, 0, none⟩) (n - 1) cap) ∧ w.grownBy w' (some g) ∧ w'.ownsRow 0 9 1 (.slice (some ⟨g, 0, none⟩) (n - 1) cap) (n - 1) (A ++ B) := by
  obtain ⟨i0, hi0, hz0, hzs, hzb⟩ := info_parts infoS
  have hcl5 : cur.toList.length = cur.size := Array.length_toList
  have hsplit : cur.toList = A ++ X ++ B ++ cur.toList.drop (n * 1) := by rw [← hAB, List.take_append_drop]
  obtain ⟨D, hD⟩ : ∃ D, cur.toList.drop (n * 1) = D := ⟨_, rfl⟩
  rw [hD] at hsplit
  have hDl : D.length = cap * 1 - n * 1 := by rw [← hD, List.length_drop, hcl5, hcs]
  have hsrcB : ∀ j v, B[j]? = some v → w.cell? ⟨g, (i + 1) * 1 + j, none⟩ = some v := fun j v hj => by
    have hjl : j < B.length := (List.getElem?_eq_some_iff.1 hj).1
    have h2 : cur.toList[(i + 1) * 1 + j]? = some v := by
      rw [hsplit, List.append_assoc, List.getElem?_append_right (by simp; omega), List.getElem?_append_left (by simp; omega)]
      rw [show (i + 1) * 1 + j - (A ++ X).length = j by simp; omega]
      exact hj
    simpa [World.cell?, hg] using h2
  obtain ⟨cur1, hcur1⟩ : ∃ c, c = (cur.toList.take (0 + i * 1) ++ B ++ cur.toList.drop (0 + i * 1 + B.length)).toArray := ⟨_, rfl⟩
  have hl1 : cur1.size = cur.size := by rw [hcur1]; simp; omega
  have hs1 : ∀ W : World, (∀ k : Nat, W.heap[k]? = w.heap[k]?) → W.setCells g (0 + i * 1) B = W.setRow g cur1 := fun W hW => by
    have hgW : W.heap[g]? = some (.cells cur 9 (0, 0)) := by rw [hW]; exact hg
    have e1 := run_storeCells_at Tryd.prog g (0 + i * 1) 9 B 0 cur W hgW (by omega) h1B
    have e2 := run_storeCells_cells (P := Tryd.prog) g (0 + i * 1) B 0 W (fun j hj => by simp [World.cell?, hgW]; omega) (fun j hj => by simp [World.frozen?, hgW]) h1B
    simp only [Nat.add_zero] at e1 e2
    rw [e1] at e2
    injection e2 with _ e2
    rw [hcur1]
    exact e2.symm
  have hA1 : cur1.toList = A ++ B ++ (cur.toList.drop (i * 1 + B.length)) := by
    rw [hcur1]
    simp only [Nat.zero_add]
    congr 2
    rw [hsplit, ← hA]
    simp
  obtain ⟨Z, hZ⟩ : ∃ Z : List Value, Z = [.string ⟨#[]⟩] := ⟨_, rfl⟩
  have hZl : Z.length = 1 := by rw [hZ]; rfl
  obtain ⟨cur2, hcur2⟩ : ∃ c, c = (cur1.toList.take ((n - 1) * 1) ++ Z ++ cur1.toList.drop ((n - 1) * 1 + Z.length)).toArray := ⟨_, rfl⟩
  have hl2 : cur2.size = cap * 1 := by rw [hcur2]; simp; omega
  have hcl : ∀ (W : World), W.heap[g]? = some (.cells cur1 9 (0, 0)) → ∀ ty c, (Builtin.clear_ #[24] ty #[.slice (some ⟨g, (n - 1) * 1, none⟩) 1 c]).run Tryd.prog W = .ok (.tuple #[]) (W.setRow g cur2) := fun W hW ty c => by
    have hv : ∀ w, (zeroValue 9).run Tryd.prog w = .ok (.string ⟨#[]⟩) w := fun w => by simp [zeroValue, typeInfo, hi0, hz0]
    have hst := run_storeCells_at Tryd.prog g ((n - 1) * 1) 9 Z 0 cur1 W hW (by omega) (by rw [hZ]; intro v hv; simp at hv; first | (rcases hv with rfl | rfl | rfl | rfl | rfl <;> rfl) | (subst hv; rfl))
    rw [hcur2]
    simp only [Nat.add_zero] at hst
    have hzc : (Builtin.zeroCells (Value.cells (.string ⟨#[]⟩)) 1).toList = Z := by rw [hZ]; kernel_rfl
    try simp only [Nat.mul_one] at hst ⊢
    simp [Builtin.clear_, run_underlying Tryd.underlying24, hv, hzc, hst]
  have hend : ∀ W : World, W.os = w.os → W.tape = w.tape → W.output = w.output → W.heap.size = w.heap.size → (∀ k : Nat, W.heap[k]? = ((w.setRow g cur1).setRow g cur2).heap[k]?) → w.grownBy W (some g) ∧ W.ownsRow 0 9 1 (.slice (some ⟨g, 0, none⟩) (n - 1) cap) (n - 1) (A ++ B) := by
    intro W e1 e2 e3 e4 e5
    refine ⟨⟨e1, e2, e3, by omega, fun k _ hk => ?_⟩, by simp; omega, .inr ⟨g, cap, cur2, rfl, Nat.zero_le _, ?_, by omega, by unfold maxLen; omega, by omega, ?_⟩⟩
    · have hne : k ≠ g := fun e => hk (by rw [e])
      rw [e5, heap_setRow_ne hne, heap_setRow_ne hne]
    · rw [e5]
      exact heap_setRow (heap_setRow hg)
    · have e0 : (A ++ B).length = (n - 1) * 1 := by simp; omega
      have e1 : cur1.toList.take ((n - 1) * 1) = A ++ B := by rw [hA1]; exact List.take_left' e0
      rw [hcur2]
      show ((cur1.toList.take ((n - 1) * 1) ++ Z ++ cur1.toList.drop ((n - 1) * 1 + Z.length)).toArray.toList).take ((n - 1) * 1) = _
      rw [e1, List.append_assoc]
      exact List.take_left' e0
  have HE := Lib.hid hend
  obtain ⟨W1, hW1⟩ : ∃ W1, W1 = w.drew.setRow g cur1 := ⟨_, rfl⟩
  have hs1' := hs1 w.drew (fun _ => rfl)
  rw [← hW1] at hs1'
  have hcl1 := hcl W1 (by rw [hW1]; exact heap_setRow hg)
  obtain ⟨adr, hadr, hsrc⟩ : ∃ adr : Addr, (if cap = i + 1 then (some ⟨g, 0, none⟩ : Option Addr) else some ⟨g, (i + 1) * 1, none⟩) = some adr ∧ ∀ j u, B[j]? = some u → w.drew.cell? (adr.add j) = some u := by
    by_cases hc : cap = i + 1
    · refine ⟨_, if_pos hc, fun j u hj => ?_⟩
      have : B.length = 0 := by rw [hB, show n - (i + 1) = 0 by omega, Nat.zero_mul]
      simp [List.length_eq_zero_iff.1 this] at hj
    · exact ⟨_, if_neg hc, fun j u hj => by rw [Addr.add_lit]; exact hsrcB j u hj⟩
  try simp only [Nat.mul_one] at hadr
  try simp only [Nat.mul_one] at hcl1
  have hspare : ∀ j, j < B.length → (w.drew.cell? ⟨g, 0 + i * 1 + j, none⟩).isSome = true ∧ w.drew.frozen? ⟨g, 0 + i * 1 + j, none⟩ = false := fun j hj => by
    have hgd : w.drew.heap[g]? = some (.cells cur 9 (0, 0)) := hg
    constructor
    · simp [World.cell?, hgd]; omega
    · simp [World.frozen?, hgd]
  have HS := Lib.hid hsrc
  have HP := Lib.hid hspare
  have HW1 := Lib.hid hW1
  have HB := Lib.hid hB
  have H1 := Lib.hid h1B
  have HS1 := Lib.hid hs1'
  clear hW1 hcl hs1 hs1' hend hcur1 hcur2 hsrcB hg hcs hA hB hAB hX h1B hl1 hl2 hA1 hZ hZl hsplit hD hDl hcl5 hsrc hspare
  have hne : ¬ ((i : Int) = (i : Int) + 1) := by omega
  have hlb : (i : Int) + 1 ≤ (n : Int) := by omega
  have hlb2 : (0 : Int) ≤ (i : Int) + 1 := by omega
  have htn : ((i : Int) + 1).toNat = i + 1 := by omega
  have hic : i ≤ cap := by omega
  have hsm : i + (n - (i + 1)) = n - 1 := by omega
  have hsub : n - (n - 1) = 1 := by omega
  have mixed : Tryd.prog.follows .mixedOrders = true := by kernel_rfl
  go_enter Tryd.func41, Tryd.ntmps41
  go_wp2_with fail
  go_region_law_o (refine step_append_room rfl (.tmp 22) (.tmp 25) 24 rfl 9 i0 1 Tryd.underlying24 hi0 hzs g 0 i cap (by simp [Act.eval, Act.put]) adr (n - (i + 1)) (cap - (i + 1)) B (by first | simp [Act.eval, Act.put] | simp [Act.eval, Act.put, hadr] | simp [Act.eval, Act.put, hadr, htn]) HB.out HS.out H1.out (by omega) HP.out ?_; rw [HS1.out, hsm])
  go_wp2_with (simp only [hcl1])
  go_ret
  exact ⟨rfl, HE.out _ (by rw [HW1.out]; rfl) (by rw [HW1.out]; rfl) (by rw [HW1.out]; rfl) (by rw [setRow_size, HW1.out, setRow_size]; rfl) (fun k => by rw [HW1.out]; rfl)⟩

end Go.Proofs.YtgbalofdfdafmaaDoor
