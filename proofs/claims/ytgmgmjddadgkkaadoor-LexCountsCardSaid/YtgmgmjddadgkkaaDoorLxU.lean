/- The walk of LexCounts' own closure: a piece is put behind a text, a token behind a row. -/
import Derived.Test.YtgmgmjddadgkkaaDoorLxT
import Derived.Test.YtgmgmjddadgkkaaDoorLexV
import Derived.Below
namespace Go.Proofs.YtgmgmjddadgkkaaDoor
open Go.RowKit
set_option maxRecDepth 100000
attribute [local go_sem] str_size str_toList str_get

/-- The four boxes that the closure holds. -/
def CntSt (D B d : Nat) (W : World) (st : Bs × List Tok) : Prop :=
  W.heap[D]? = some (.cells #[.int .i64 (d : Int)] 3 (0, 0)) ∧ W.heap[B]? = some (.cells #[str (gapT d)] 9 (0, 0)) ∧ W.heap[B + 1]? = some (.cells #[str st.1] 9 (0, 0)) ∧
    ∃ v, W.heap[B + 1 + 1]? = some (.cells #[v] 23 (0, 0)) ∧ W.ownsRow (B + 3) 32 3 v st.2.length (tokCells st.2)
theorem CntSt.mono {D B d : Nat} {W W' : World} {st : Bs × List Tok} (h : CntSt D B d W st) (hb : Below W.heap.size W W') : CntSt D B d W' st := by
  obtain ⟨hD, hG, hT, v, hV, hown⟩ := h
  have k := fun {q : Nat} {o : Obj} (hq : W.heap[q]? = some o) => (hb.block q (Array.getElem?_eq_some_iff.1 hq).1).trans hq
  exact ⟨k hD, k hG, k hT, v, k hV, own_below hown hb⟩
theorem one_cell {W : World} {b : Nat} {x : Value} {T : TypeId} (h : W.heap[b]? = some (.cells #[x] T (0, 0))) : W.cell? ⟨b, 0, none⟩ = some x ∧ W.frozen? ⟨b, 0, none⟩ = false :=
  ⟨by rw [Lib.cell_of_heap h]; rfl, Lib.frozen_of_heap h 0⟩

set_option maxHeartbeats 4000000 in
theorem put_any (D B d : Nat) (st : Bs × List Tok) (kd : Int) (s : Bs) (W : World) (hS : CntSt D B d W st) (hDB : D < B) (hd : d < 8) (hl1 : st.1.length + s.length ≤ 100000) (hl2 : st.2.length ≤ 5000) :
    Calls Tryd.prog 11 #[.int .i64 kd, str s, .pointer (some ⟨B + 1 + 1, 0, none⟩), .pointer (some ⟨B + 1, 0, none⟩), .pointer (some ⟨B, 0, none⟩), .pointer (some ⟨D, 0, none⟩)] W
      fun e W' => e = .returned (.tuple #[]) ∧ CntSt D B d W' (putT d st kd s) ∧ Below B W W' := by
  obtain ⟨tx, ts⟩ := st
  obtain ⟨hD, hG, hT, v, hV, hown⟩ := hS
  simp only at hT hown hl1 hl2
  have hgl := gap_len d hd
  obtain ⟨Gp, hGp⟩ : ∃ G, gapT d = G := ⟨_, rfl⟩
  rw [hGp] at hG hgl
  obtain ⟨P, cap, rfl⟩ := own_form hown
  obtain ⟨x0, f0⟩ := one_cell hD
  obtain ⟨x1, f1⟩ := one_cell hG
  obtain ⟨x2, f2⟩ := one_cell hT
  obtain ⟨x3, f3⟩ := one_cell hV
  have hsz : B + 3 ≤ W.heap.size := by
    have := (Array.getElem?_eq_some_iff.1 hV).1
    omega
  obtain ⟨i0, hi, hz0, hz1, hz2⟩ := info_parts (P := Tryd.prog) (e := 32) (z := .agg #[.int .i64 0, .string ⟨#[]⟩, .int .i64 0]) (size := 3) (bytes := 32) (by kernel_rfl)
  have hown1 := fun o => own_below hown ((Below.refl W.heap.size W).alloc (Nat.le_refl _) o)
  have hownlt := hown.lt
  have hbA := fun o => (Below.refl (B + 3) W).alloc hsz o
  have HD := Lib.hid hD
  have HG := Lib.hid hG
  have HT := Lib.hid hT
  have HV := Lib.hid hV
  have a1 : ∀ W, (Op.stringOp .add (ByteArray.mk s.toArray) (ByteArray.mk Gp.toArray)).run Tryd.prog W = .ok (str (s ++ Gp)) W := fun W => str_add _ _ (by omega)
  have a2 : ∀ W, (Op.stringOp .add (ByteArray.mk tx.toArray) (ByteArray.mk (s ++ Gp).toArray)).run Tryd.prog W = .ok (str (tx ++ (s ++ Gp))) W := fun W => str_add _ _ (by rw [List.length_append]; omega)
  obtain ⟨X1, hX1⟩ : ∃ X, s ++ Gp = X := ⟨_, rfl⟩
  rw [hX1] at a1 a2
  obtain ⟨X2, hX2⟩ : ∃ X, tx ++ X1 = X := ⟨_, rfl⟩
  rw [hX2] at a2
  clear hD hG hT hV hown f0 f1
  go_enter Tryd.func11, Tryd.ntmps11
  go_wp2_with (at_builtin; refine wpList_append_own _ rfl _ _ 23 rfl (B + 3) 32 i0 (.agg #[.int .i64 0, .string ⟨#[]⟩, .int .i64 0]) 3 32 Tryd.underlying23 hi hz0 hz1 hz2 rfl (by decide) _ _ _ rfl (hown1 _) ⟨W.heap.size, 0, none⟩ 1 1 [.int .i64 kd, str s, .int .i64 tx.length] rfl rfl ?c1 ?c2 ?c3 ?c4 ?c5 ?_)
  case c1 =>
    intro j u hj
    match j, hj with
    | 0, hj => simp at hj; subst hj; simp [Addr.add]
    | 1, hj => simp at hj; subst hj; simp [Addr.add]
    | 2, hj => simp at hj; subst hj; simp [Addr.add]
    | (j + 3), hj => simp at hj
  case c2 => intro u hu; simp at hu; rcases hu with rfl | rfl | rfl <;> rfl
  case c3 => unfold maxLen; omega
  case c4 => omega
  case c5 => simp; omega
  intro v' w7 hown' hgrow _
  obtain ⟨P', cap', rfl⟩ := own_form hown'
  have hb7 : Below (B + 3) W w7 := (hbA _).grown hgrow (by simp; omega) (fun k hk => (hownlt k hk).1)
  have q3 := (hb7.block (B + 1 + 1) (by omega)).trans HV.out
  obtain ⟨x3, f3⟩ := one_cell q3
  obtain ⟨w8, hw8⟩ : ∃ w8, w8 = w7.setCell ⟨B + 1 + 1, 0, none⟩ (.slice P' (ts.length + 1) cap') := ⟨_, rfl⟩
  have q0 : w8.heap[D]? = some (.cells #[.int .i64 (d : Int)] 3 (0, 0)) := by
    rw [hw8, Below.heap_setCell _ _ _ _ (by show D ≠ B + 1 + 1; omega)]
    exact (hb7.block D (by omega)).trans HD.out
  have q1 : w8.heap[B]? = some (.cells #[str Gp] 9 (0, 0)) := by
    rw [hw8, Below.heap_setCell _ _ _ _ (by show B ≠ B + 1 + 1; omega)]
    exact (hb7.block B (by omega)).trans HG.out
  have q2 : w8.heap[B + 1]? = some (.cells #[str tx] 9 (0, 0)) := by
    rw [hw8, Below.heap_setCell _ _ _ _ (by show B + 1 ≠ B + 1 + 1; omega)]
    exact (hb7.block (B + 1) (by omega)).trans HT.out
  have q4 : w8.heap[B + 1 + 1]? = some (.cells #[(.slice P' (ts.length + 1) cap')] 23 (0, 0)) := by rw [hw8]; exact set_at q3 0 _
  have ho8 : w8.ownsRow (B + 3) 32 3 (.slice P' (ts.length + 1) cap') (ts.length + 1) (tokCells (ts ++ [(kd, s, tx.length)])) := by
    rw [hw8, tok_snoc]
    exact ownsRow_setCell_below hown' (by show B + 1 + 1 < B + 3; omega) _
  have hb8 : Below B W w8 := by
    rw [hw8]
    exact (hb7.mono (by omega)).setCell (p := ⟨B + 1 + 1, 0, none⟩) (by show B ≤ B + 1 + 1; omega) _
  obtain ⟨y1, g1⟩ := one_cell q1
  obtain ⟨y2, g2⟩ := one_cell q2
  obtain ⟨w9, hw9⟩ : ∃ w9, w9 = w8.setCell ⟨B + 1, 0, none⟩ (str X2) := ⟨_, rfl⟩
  have r0 : w9.heap[D]? = some (.cells #[.int .i64 (d : Int)] 3 (0, 0)) := by
    rw [hw9, Below.heap_setCell _ _ _ _ (by show D ≠ B + 1; omega)]
    exact q0
  have r1 : w9.heap[B]? = some (.cells #[str Gp] 9 (0, 0)) := by
    rw [hw9, Below.heap_setCell _ _ _ _ (by show B ≠ B + 1; omega)]
    exact q1
  have r2 : w9.heap[B + 1]? = some (.cells #[str X2] 9 (0, 0)) := by rw [hw9]; exact set_at q2 0 _
  have r3 : w9.heap[B + 1 + 1]? = some (.cells #[(.slice P' (ts.length + 1) cap')] 23 (0, 0)) := by
    rw [hw9, Below.heap_setCell _ _ _ _ (by show B + 1 + 1 ≠ B + 1; omega)]
    exact q4
  have ho9 : w9.ownsRow (B + 3) 32 3 (.slice P' (ts.length + 1) cap') (ts.length + 1) (tokCells (ts ++ [(kd, s, tx.length)])) := by
    rw [hw9]
    exact ownsRow_setCell_below ho8 (by show B + 1 < B + 3; omega) _
  have hb9 : Below B W w9 := by
    rw [hw9]
    exact hb8.setCell (p := ⟨B + 1, 0, none⟩) (by show B ≤ B + 1; omega) _
  have hlX : X2.length = tx.length + s.length + Gp.length := by rw [← hX2, ← hX1, List.length_append, List.length_append]; omega
  obtain ⟨z0, _⟩ := one_cell r0
  obtain ⟨z2, _⟩ := one_cell r2
  obtain ⟨z3, k3⟩ := one_cell r3
  have R0 := Lib.hid r0
  have R1 := Lib.hid r1
  have R2 := Lib.hid r2
  have R3 := Lib.hid r3
  have HO9 := Lib.hid ho9
  have HLX := Lib.hid hlX
  have HX1 := Lib.hid hX1
  have HX2 := Lib.hid hX2
  have HGP := Lib.hid hGp
  clear hX1 hX2 hGp hlX r0 r1 r2 r3 ho9 ho8 hb8 q0 q1 q2 q3 q4 hown' hgrow hown1 hownlt hbA hb7
  go_upto_region 1 with fail
  rw [← hw8]
  clear hw8 x3 f3
  go_upto_region 2 with fail
  rw [← hw9]
  clear hw9 y1 y2 g1 g2 a1 a2
  by_cases h7 : d = 7
  · have h7i : ((d : Int) == 7) = true := by simpa using (show (d : Int) = 7 by omega)
    have hX2b : X2.length ≤ 200000 := by have := HLX.out; omega
    have hX2a : 1 ≤ X2.length := by have := HLX.out; omega
    obtain ⟨E, hE⟩ : ∃ E, X2.length - 1 = E := ⟨_, rfl⟩
    have hwE : IntKind.i64.wrap ((X2.length : Int) - 1) = (E : Int) := by rw [IntKind.wrap_i64]; omega
    have hsz9 : B + 3 ≤ w9.heap.size := by have := hb9.size; omega
    have hown2 := fun o => own_below HO9.out ((Below.refl w9.heap.size w9).alloc (Nat.le_refl _) o)
    have hown2lt := HO9.out.lt
    have hbA2 := fun o => (Below.refl (B + 3) w9).alloc hsz9 o
    have H7 := Lib.hid h7
    have HE := Lib.hid hE
    clear h7 hE
    go_wp2_with (at_builtin; refine wpList_append_own _ rfl _ _ 23 rfl (B + 3) 32 i0 (.agg #[.int .i64 0, .string ⟨#[]⟩, .int .i64 0]) 3 32 Tryd.underlying23 hi hz0 hz1 hz2 rfl (by decide) _ _ _ rfl (hown2 _) ⟨w9.heap.size, 0, none⟩ 1 1 [.int .i64 5, .string ⟨#[10]⟩, .int .i64 E] rfl rfl ?d1 ?d2 ?d3 ?d4 ?d5 ?_)
    case d1 =>
      intro j u hj
      match j, hj with
      | 0, hj => simp at hj; subst hj; simp [Addr.add]
      | 1, hj => simp at hj; subst hj; simp [Addr.add]
      | 2, hj => simp at hj; subst hj; simp [Addr.add]
      | (j + 3), hj => simp at hj
    case d2 => intro u hu; simp at hu; rcases hu with rfl | rfl | rfl <;> rfl
    case d3 => unfold maxLen; omega
    case d4 => omega
    case d5 => simp; omega
    intro v2 wA hownA hgrowA _
    obtain ⟨PA, capA, rfl⟩ := own_form hownA
    have hbA9 : Below (B + 3) w9 wA := (hbA2 _).grown hgrowA (by simp; omega) (fun k hk => (hown2lt k hk).1)
    have qA := (hbA9.block (B + 1 + 1) (by omega)).trans R3.out
    obtain ⟨xA, fA⟩ := one_cell qA
    have sA0 := (hbA9.block D (by omega)).trans R0.out
    have sA1 := (hbA9.block B (by omega)).trans R1.out
    have sA2 := (hbA9.block (B + 1) (by omega)).trans R2.out
    have hbAW := hb9.trans (hbA9.mono (by omega))
    have HOA := Lib.hid hownA
    have HQA := Lib.hid qA
    clear hownA hgrowA hown2 hown2lt hbA2 hbA9 qA
    go_wp2
    try simp only [Exit.inBlock, Exit.then]
    first | refine bodyPost_end (results_none rfl _ _ _) rfl ?_ | refine bodyPost_ret (results_none rfl _ _ _) rfl ?_
    refine ⟨rfl, ?_, hbAW.setCell (p := ⟨B + 1 + 1, 0, none⟩) (by show B ≤ B + 1 + 1; omega) _⟩
    unfold CntSt putT
    have hk : lineK d (tx.length + s.length + (gapT d).length) = [(5, [10], E)] := by
      unfold lineK
      rw [if_pos H7.out, HGP.out, ← HLX.out, HE.out]
    simp only [hk]
    refine ⟨?_, ?_, ?_, _, set_at HQA.out 0 _, ?_⟩
    · rw [Below.heap_setCell _ _ _ _ (by show D ≠ B + 1 + 1; omega)]; exact sA0
    · rw [Below.heap_setCell _ _ _ _ (by show B ≠ B + 1 + 1; omega), HGP.out]; exact sA1
    · rw [Below.heap_setCell _ _ _ _ (by show B + 1 ≠ B + 1 + 1; omega), HGP.out, HX1.out, HX2.out]; exact sA2
    · have h := HOA.out
      rw [← show tokCells ((ts ++ [(kd, s, tx.length)]) ++ [(5, [10], E)]) = tokCells (ts ++ [(kd, s, tx.length)]) ++ [.int .i64 5, .string ⟨#[10]⟩, .int .i64 E] from tok_snoc _ _ _ _] at h
      rw [show ts ++ [(kd, s, tx.length), (5, [10], E)] = (ts ++ [(kd, s, tx.length)]) ++ [(5, [10], E)] by simp]
      rw [List.length_append, List.length_append]
      exact ownsRow_setCell_below h (by show B + 1 + 1 < B + 3; omega) _
  · have h7i : ((d : Int) == 7) = false := by simpa using (show ¬ (d : Int) = 7 by omega)
    have H7 := Lib.hid h7
    clear h7
    go_wp2
    try simp only [Exit.inBlock, Exit.then]
    first | refine bodyPost_end (results_none rfl _ _ _) rfl ?_ | refine bodyPost_ret (results_none rfl _ _ _) rfl ?_
    refine ⟨rfl, ?_, hb9⟩
    unfold CntSt putT
    have hk : lineK d (tx.length + s.length + (gapT d).length) = [] := by unfold lineK; rw [if_neg H7.out]
    simp only [hk]
    refine ⟨R0.out, by rw [HGP.out]; exact R1.out, by rw [HGP.out, HX1.out, HX2.out]; exact R2.out, _, R3.out, ?_⟩
    rw [List.length_append]
    exact HO9.out

end Go.Proofs.YtgmgmjddadgkkaaDoor
