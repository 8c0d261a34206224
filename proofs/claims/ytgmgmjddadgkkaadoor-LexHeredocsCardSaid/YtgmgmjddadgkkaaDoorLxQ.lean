/- The walk of one at a heredoc; one whole. -/
import Derived.Test.YtgmgmjddadgkkaaDoorLxO
namespace Go.Proofs.YtgmgmjddadgkkaaDoor
open Go.RowKit
set_option maxRecDepth 100000
attribute [local go_sem] str_size str_toList str_get

theorem two_last (w : World) (a b : Obj) : ((w.alloc a).alloc b).heap[w.heap.size + 1]? = some b := by
  show ((w.heap.push a).push b)[w.heap.size + 1]? = some b
  rw [Array.getElem?_push]
  simp

set_option maxHeartbeats 4000000 in
theorem one_here (s : Bs) (c : UInt8) (r : Bs) (hs : s = c :: r) (hl : s.length ≤ 16384) (w : World) (hM : MaxW w) (hc : c = 60) (hr : r.head? = some 60) :
    Calls Tryd.prog 15 #[str s] w fun e w' => e = .returned (oneV (oneN c r)) ∧ Below w.heap.size w w' := by
  have hc1 : ¬ c = 10 := by rw [hc]; decide
  have hc2 : letB c = false := by rw [hc]; rfl
  have hc3 : digB c = false := by rw [hc]; rfl
  have hc4 : ¬ c = 34 := by rw [hc]; decide
  have hc5 : (c == 60 && r.head? == some 60) = true := by rw [hc, hr]; rfl
  have h2 : 2 ≤ s.length := by
    rw [hs]
    cases r with
    | nil => cases hr
    | cons _ _ => simp
  obtain ⟨tx, n, E, hV, hv⟩ : ∃ (tx : Bs) (n : Nat) (E : Int), hereV (hereN s) = #[str tx, .int .i64 n, .int .i64 E] ∧ oneN c r = ⟨3, tx, n, E⟩ := by
    rw [hs]
    unfold oneN
    rw [if_neg hc1, if_neg (by rw [hc2]; decide), if_neg (by rw [hc3]; decide), if_neg hc4, if_pos hc5]
    cases hereN (c :: r) with
    | none => exact ⟨[], 0, 40, rfl, rfl⟩
    | some x => exact ⟨x.1, x.2, 0, rfl, rfl⟩
  rw [hv]
  have HE := fun W (hW : MaxW W) => here_any s h2 hl W hW
  rw [hV] at HE
  have HP := fun W => Tryd.strings_HasPrefix ⟨(c :: r).toArray⟩ ⟨#[60, 60]⟩ W
  simp only [pre2_eq, hc5] at HP
  rw [← hs] at HP
  have hs0 : s[0]? = some c := by rw [hs]; rfl
  have hslt : 0 < s.length := by rw [hs]; simp
  have hsi : (0 : Int) < (s.length : Int) := by omega
  have hs0 : s[0] = c := by rw [List.getElem?_eq_getElem hslt] at hs0; exact Option.some.inj hs0
  have mixed : Tryd.prog.follows .mixedOrders = true := by kernel_rfl
  have hc10 : ((c.toNat : Int) == 10) = false := (u8_eq c 10).trans (by simpa using hc1)
  have hc34 : ((c.toNat : Int) == 34) = false := (u8_eq c 34).trans (by simpa using hc4)
  have L := fun W => letter_any c W
  have D := fun W => digit_any c W
  rw [hc2] at L
  rw [hc3] at D
  clear hv hs hc1 hc2 hc3 hc4 hc5 hV hc hr
  go_enter Tryd.func15, Tryd.ntmps15
  go_wp2_with fail
  refine (L _).mono ?_
  rintro e wA ⟨rfl, rfl⟩
  go_wp2_with fail
  refine (D _).mono ?_
  rintro e wA ⟨rfl, rfl⟩
  go_wp2_with fail
  refine (HP _).mono ?_
  rintro e wA ⟨rfl, rfl⟩
  go_wp2_with fail
  refine (HE _ (hM.mono (two_new w _ _))).mono ?_
  rintro e W ⟨rfl, hb⟩
  have hA : W.heap[w.heap.size]? = some (.cells #[.int .i64 0, .string ⟨#[]⟩, .int .i64 0] 32 (0, 0)) := (hb.block w.heap.size (by simp; omega)).trans (two_at w _ _)
  have z0 : W.cell? ⟨w.heap.size, 0, none⟩ = some (.int .i64 0) := by rw [Lib.cell_of_heap hA]; rfl
  have z1 : W.cell? ⟨w.heap.size, 1, none⟩ = some (.string ⟨#[]⟩) := by rw [Lib.cell_of_heap hA]; rfl
  have z2 : W.cell? ⟨w.heap.size, 2, none⟩ = some (.int .i64 0) := by rw [Lib.cell_of_heap hA]; rfl
  have f0 : W.frozen? ⟨w.heap.size, 0, none⟩ = false := Lib.frozen_of_heap hA 0
  have f1 : W.frozen? ⟨w.heap.size, 1, none⟩ = false := Lib.frozen_of_heap hA 1
  have f2 : W.frozen? ⟨w.heap.size, 2, none⟩ = false := Lib.frozen_of_heap hA 2
  have hC : W.heap[w.heap.size + 1]? = some (.cells #[.int .i64 3, .string ⟨#[]⟩, .int .i64 0] 32 (0, 0)) := (hb.block (w.heap.size + 1) (by simp)).trans (two_last w _ _)
  have y0 : W.cell? ⟨w.heap.size + 1, 0, none⟩ = some (.int .i64 3) := by rw [Lib.cell_of_heap hC]; rfl
  have y1 : W.cell? ⟨w.heap.size + 1, 1, none⟩ = some (.string ⟨#[]⟩) := by rw [Lib.cell_of_heap hC]; rfl
  have y2 : W.cell? ⟨w.heap.size + 1, 2, none⟩ = some (.int .i64 0) := by rw [Lib.cell_of_heap hC]; rfl
  have g1 : W.frozen? ⟨w.heap.size + 1, 1, none⟩ = false := Lib.frozen_of_heap hC 1
  have hbw : Below w.heap.size w W := (two_new w _ _).trans (hb.mono (by simp; omega))
  clear hA hC hb L D HP HE
  go_wp2
  refine bodyPost_ret (v := oneV ⟨3, tx, n, E⟩) (by simp [results, go_sem, oneV, z0, z1, z2]) rfl ⟨rfl, ?_⟩
  exact (((hbw.setCell (p := ⟨w.heap.size + 1, 1, none⟩) (by simp) _).setCell (p := ⟨w.heap.size, 0, none⟩) (Nat.le_refl _) _).setCell (p := ⟨w.heap.size, 1, none⟩) (Nat.le_refl _) _).setCell (p := ⟨w.heap.size, 2, none⟩) (Nat.le_refl _) _

/-- one: the token at the front. -/
theorem one_any (c : UInt8) (r : Bs) (hl : (c :: r).length ≤ 16384) (w : World) (hM : MaxW w) :
    Calls Tryd.prog 15 #[str (c :: r)] w fun e w' => e = .returned (oneV (oneN c r)) ∧ Below w.heap.size w w' := by
  by_cases h10 : c = 10
  · exact one_line _ c r rfl hl w h10
  cases hL : letB c with
  | true => exact one_name _ c r rfl hl w h10 hL
  | false =>
  cases hD : digB c with
  | true => exact one_num _ c r rfl hl w h10 hL hD
  | false =>
  by_cases h34 : c = 34
  · exact one_text _ c r rfl hl w h34
  cases h60 : (c == 60 && r.head? == some 60) with
  | true =>
    rw [Bool.and_eq_true, beq_iff_eq, beq_iff_eq] at h60
    exact one_here _ c r rfl hl w hM h60.1 h60.2
  | false => exact one_sign _ c r rfl hl w h10 hL hD h34 h60

end Go.Proofs.YtgmgmjddadgkkaaDoor
