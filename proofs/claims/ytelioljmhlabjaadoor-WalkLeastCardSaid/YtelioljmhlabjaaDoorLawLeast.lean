/- Walk of the law WalkLeast: it answers true, whatever the graph. -/
import Derived.Test.YtelioljmhlabjaaDoorRun
import Derived.Test.YtelioljmhlabjaaDoorRw6
import Derived.Test.YtelioljmhlabjaaDoorAwake19
import Derived.Test.YtelioljmhlabjaaDoorLawOrders
namespace Go.Proofs.YtelioljmhlabjaaDoor
open Go.RowKit
set_option maxRecDepth 100000

theorem okF_nil : okF [] = fun _ => true := by
  funext i
  unfold okF
  simp
theorem pkF_nil : pkF [] = fun _ => 0 := by
  funext i
  unfold pkF pickF
  rfl

set_option maxHeartbeats 4000000 in
theorem walkLeast_any (n lim : Int) (ag : Option Addr) (cg : Nat) (es : List (Int × Int)) (w : World) (hT : Tab w) (h : PairsAt w (.slice ag es.length cg) es) :
    Calls Tryd.prog 13 #[.agg #[.int .i64 n, .slice ag es.length cg, .int .i64 lim]] w (LawPost w) := by
  have hend : ∀ w', Below w.heap.size w w' → LawPost w (.returned (.bool true)) w' := fun _ h => ⟨rfl, h⟩
  have HE := Lib.hid hend
  have hb0 : Below w.heap.size w (w.alloc (.cells #[.int .i64 n, .slice ag es.length cg, .int .i64 lim] 54)) := (Below.refl _ _).alloc (Nat.le_refl _) _
  have hgx : (w.alloc (.cells #[.int .i64 n, .slice ag es.length cg, .int .i64 lim] 54)).heap[w.heap.size]? = some (.cells #[.int .i64 n, .slice ag es.length cg, .int .i64 lim] 54 (0, 0)) := heap_alloc_new _ _
  obtain ⟨w0, hw0⟩ : ∃ w0, w0 = w.alloc (.cells #[.int .i64 n, .slice ag es.length cg, .int .i64 lim] 54) := ⟨_, rfl⟩
  have hs0 : w0.heap.size = w.heap.size + 1 := by rw [hw0]; simp
  rw [← hw0] at hb0 hgx
  have AW := awake19_any w0 (hT.mono hb0)
  have hel : es.length ≤ 17592186044416 := by obtain ⟨_, _, hv, h1, _⟩ := h; exact h1
  have HH := Lib.hid h
  clear hend h
  go_enter Tryd.func13, Tryd.ntmps13
  go_wp2_with (simp only [← hw0])
  refine AW.mono ?_
  rintro e w1 ⟨rfl, hb1⟩
  have hB1 := hb0.trans (hb1.mono hb0.size)
  have hg1 := (hb1.block w.heap.size (by omega)).trans hgx
  have hs1 := hb1.size
  obtain ⟨y0, y1, y2, _⟩ := box3g hg1
  have SM := small19_any n lim ag cg es.length w1 hel
  clear AW hgx hb0 hb1 hw0
  by_cases hsm : (decide (n ≤ 30) && decide (es.length ≤ 120)) = true
  · rw [hsm] at SM
    have hsm2 := hsm
    simp only [Bool.and_eq_true, decide_eq_true_eq] at hsm2
    obtain ⟨hn30, hl120⟩ := hsm2
    clear hsm
    go_wp2_with fail
    refine SM.mono ?_
    rintro e w2 ⟨rfl, hb2⟩
    have hB2 := hB1.trans (hb2.mono hB1.size)
    have hg2 := (hb2.block w.heap.size (by omega)).trans hg1
    have hs2 := hb2.size
    clear SM y0 y1 y2 hB1 hb2 hg1
    obtain ⟨_, _, y2, _, _, z2⟩ := box3g hg2
    obtain ⟨w3, hw3⟩ : ∃ w3, w3 = w2.setCell ⟨w.heap.size, 2, none⟩ (.int .i64 1) := ⟨_, rfl⟩
    have hg3 : w3.heap[w.heap.size]? = some (.cells #[.int .i64 n, .slice ag es.length cg, .int .i64 1] 54 (0, 0)) := by
      rw [hw3]
      simp [World.setCell, Array.getElem?_modify, hg2]
    have hB3 : Below w.heap.size w w3 := by rw [hw3]; exact hB2.setCell (Nat.le_refl _) _
    have hs3 : w3.heap.size = w2.heap.size := by rw [hw3]; simp
    clear hg2 hB2
    obtain ⟨y0, y1, y3, _⟩ := box3g hg3
    by_cases hE : newE n es 1 = 0
    · have ho : (orderR n es).2 = 0 := by
        apply Classical.byContradiction
        intro hh
        unfold newE at hE
        rw [if_pos hh] at hE
        exact hh hE
      obtain ⟨m, rfl, hm512, hes, hkl, _⟩ := orderR_zero ho
      have RB := rnew_good ag cg es m 1 w3 (HH.out.mono hB3) hE
      have RUN := fun w' hT' hp => run_any m 1 ag cg es (.slice none 0 0) [] (.slice none 0 0) [] w' hT' hp (IntsAt.nil w') (BoolsAt.nil w') hE (by omega)
      have hL := least hes hkl m (Nat.le_refl m)
      have hend : endR m es 1 (okF []) (pkF []) = runR m es 1 (fun _ => true) (fun _ => 0) (2 * m) := by
        unfold endR
        rw [okF_nil, pkF_nil]
      rw [hend] at RUN
      obtain ⟨_, hLo, _, hLm⟩ := hL
      generalize runR m es 1 (fun _ => true) (fun _ => 0) (2 * m) = s at RUN hLo hLm
      have hLk : s.o = kahn m es := hLo
      have OR := fun w' hp => rorder_any (.slice ag es.length cg) es m w' hp hm512 hes
      clear hE ho hLo hend
      go_wp2_with (simp only [← hw3])
      refine RB.mono ?_
      rintro e w4 ⟨sa, cs, rfl, hi4, hfr4, hb4⟩
      have hB4 := hB3.trans (hb4.mono hB3.size)
      have hg4 := (hb4.block w.heap.size (by omega)).trans hg3
      have hs4 := hb4.size
      clear RB hb4 hg3 y0 y1 y2 y3 hB3 hi4 hfr4 z2 hw3
      have hg5e : (w4.alloc (.cells #[.slice ag es.length cg, .int .i64 1, .slice sa m cs] 58)).heap[w.heap.size]? = some (.cells #[.int .i64 m, .slice ag es.length cg, .int .i64 1] 54 (0, 0)) := (Below.heap_alloc _ _ _ (by omega)).trans hg4
      obtain ⟨v0, v1, v2, _⟩ := box3g hg5e
      clear hg5e
      obtain ⟨w5, hw5⟩ : ∃ w5, w5 = w4.alloc (.cells #[.slice ag es.length cg, .int .i64 1, .slice sa m cs] 58) := ⟨_, rfl⟩
      have hs5 : w5.heap.size = w4.heap.size + 1 := by rw [hw5]; simp
      have hg5 : w5.heap[w.heap.size]? = some (.cells #[.int .i64 m, .slice ag es.length cg, .int .i64 1] 54 (0, 0)) := by rw [hw5]; exact (Below.heap_alloc _ _ _ (by omega)).trans hg4
      have hB5 : Below w.heap.size w w5 := by rw [hw5]; exact hB4.alloc hB4.size _
      obtain ⟨y0, y1, y2, _⟩ := box3g hg5
      have RUN5 := RUN w5 (hT.mono hB5) (HH.out.mono hB5)
      clear hg4 hB4 RUN
      go_wp2_with (rw [← hw5])
      refine RUN5.mono ?_
      clear v0 v1 v2
      rintro e w6 ⟨b, S, A, N, ev, rows, ov, rfl, hW6, ho6, hb6⟩
      have hB6 := hB5.trans (hb6.mono hB5.size)
      have hg6 := (hb6.block w.heap.size (by omega)).trans hg5
      have OR6 := OR w6 (HH.out.mono hB6)
      obtain ⟨y0, y1, y2, _⟩ := box3g hg6
      rw [hLk] at ho6
      have HO6 := Lib.hid ho6
      have hs6 := hb6.size
      clear RUN5 hW6 hb6 hg5 OR ho6 hw5
      obtain ⟨mm, hmm⟩ : ∃ mm, mm = s.m := ⟨_, rfl⟩
      rw [← hmm] at hLm ⊢
      by_cases hm0 : m = 0
      · have hmn : mm = 0 := by omega
        have hm1 : (m : Int) < 1 := by omega
        have hmz : ((0 : Int) == (m : Int)) = true := by rw [beq_iff_eq]; omega
        have hms : (((mm : Nat) : Int) == (m : Int)) = true := by rw [beq_iff_eq]; omega
        clear hm0
        clear hLm hmm
        go_wp2_with fail
        refine OR6.mono ?_
        rintro e w7 ⟨v7, rfl, hv7, hb7⟩
        have IN := ints_any _ _ _ _ w7 (HO6.out.mono hb7) hv7
        have hB7 := hB6.trans (hb7.mono hB6.size)
        rw [show ((ints (kahn m es)) == (kahn m es).map fun i : Nat => (i : Int)) = true from beq_self_eq_true _] at IN
        clear OR6 hv7 hb7
        go_wp2_with fail
        refine IN.mono ?_
        rintro e w8 ⟨rfl, hb8⟩
        have HF := Lib.hid (HE.out _ (hB7.trans (hb8.mono hB7.size)))
        clear IN hb8 hB7
        go_wp2
        go_ret
        exact HF.out
      · have hmn : mm = 1 := by omega
        subst hmn
        by_cases hm2 : m = 1
        · have hm1 : (m : Int) ≤ 1 := by omega
          have hmz : ((1 : Int) == (m : Int)) = true := by rw [beq_iff_eq]; omega
          have hmy : ((1 : Int) = (m : Int)) ↔ True := by constructor <;> intro _ <;> first | trivial | omega
          clear hm0 hm2
          clear hLm hmm
          go_wp2_with fail
          refine OR6.mono ?_
          rintro e w7 ⟨v7, rfl, hv7, hb7⟩
          have IN := ints_any _ _ _ _ w7 (HO6.out.mono hb7) hv7
          have hB7 := hB6.trans (hb7.mono hB6.size)
          rw [show ((ints (kahn m es)) == (kahn m es).map fun i : Nat => (i : Int)) = true from beq_self_eq_true _] at IN
          clear OR6 hv7 hb7
          go_wp2_with fail
          refine IN.mono ?_
          rintro e w8 ⟨rfl, hb8⟩
          have HF := Lib.hid (HE.out _ (hB7.trans (hb8.mono hB7.size)))
          clear IN hb8 hB7
          go_wp2
          go_ret
          exact HF.out
        · have hm1 : ¬ (m : Int) ≤ 1 := by omega
          clear hm0 hm2
          clear hLm hmm
          go_wp2_with fail
          refine OR6.mono ?_
          rintro e w7 ⟨v7, rfl, hv7, hb7⟩
          have IN := ints_any _ _ _ _ w7 (HO6.out.mono hb7) hv7
          have hB7 := hB6.trans (hb7.mono hB6.size)
          rw [show ((ints (kahn m es)) == (kahn m es).map fun i : Nat => (i : Int)) = true from beq_self_eq_true _] at IN
          clear OR6 hv7 hb7
          go_wp2_with fail
          refine IN.mono ?_
          rintro e w8 ⟨rfl, hb8⟩
          have HF := Lib.hid (HE.out _ (hB7.trans (hb8.mono hB7.size)))
          clear IN hb8 hB7
          go_wp2
          go_ret
          exact HF.out
    · have RB := rnew_bad (.slice ag es.length cg) es n 1 w3 (HH.out.mono hB3) hE
      have hc0 : (newE n es 1 != 0) = true := by simpa using hE
      have hcn : ¬ newE n es 1 = 0 := hE
      generalize newE n es 1 = c at RB hc0 hcn
      clear hE
      go_wp2_with (simp only [← hw3])
      refine RB.mono ?_
      rintro e w4 ⟨rfl, hb4⟩
      have hB4 := hB3.trans (hb4.mono hB3.size)
      have HF := Lib.hid (HE.out _ (hB4.alloc hB4.size (.cells #[.slice none 0 0, .int .i64 0, .slice none 0 0] 58)))
      clear RB hb4 hg3 y0 y1 y2 y3 hB3 hB4 hw3
      go_wp2
      go_ret
      exact HF.out
  · have hsf : (decide (n ≤ 30) && decide (es.length ≤ 120)) = false := by simpa using hsm
    rw [hsf] at SM
    clear hsm hsf
    go_wp2_with fail
    refine SM.mono ?_
    rintro e w2 ⟨rfl, hb2⟩
    have hB2 := hB1.trans (hb2.mono hB1.size)
    have AW2 := awake19_any w2 (hT.mono hB2)
    clear SM hB1 hb2 y0 y1 y2
    go_wp2_with fail
    refine AW2.mono ?_
    rintro e w3 ⟨rfl, hb3⟩
    have HF := Lib.hid (HE.out _ (hB2.trans (hb3.mono hB2.size)))
    clear AW2 hb3 hB2
    go_wp2_with fail
    go_ret
    exact HF.out

end Go.Proofs.YtelioljmhlabjaaDoor
