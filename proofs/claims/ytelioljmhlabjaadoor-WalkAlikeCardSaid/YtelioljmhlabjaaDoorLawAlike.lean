/- Walk of the law WalkAlike: it answers true, whatever the graph, the picks and the nodes that fail. -/
import Derived.Test.YtelioljmhlabjaaDoorRun
import Derived.Test.YtelioljmhlabjaaDoorRw6
import Derived.Test.YtelioljmhlabjaaDoorAwake19
import Derived.Test.YtelioljmhlabjaaDoorLawOrders
namespace Go.Proofs.YtelioljmhlabjaaDoor
open Go.RowKit
set_option maxRecDepth 100000

/-- Two slices in a variable. -/
theorem box2 {w : World} {ty q : Nat} {x0 x1 : Value} (h : w.heap[q]? = some (.cells #[x0, x1] ty (0, 0))) : w.cell? ⟨q, 0, none⟩ = some x0 ∧ w.cell? ⟨q, 1, none⟩ = some x1 := by
  simp [World.cell?, h]

set_option maxHeartbeats 4000000 in
theorem walkAlike_any (n lim : Int) (ag : Option Addr) (cg : Nat) (es : List (Int × Int)) (pv qv : Value) (ps qs : List Int) (fv : Value) (fl : List Bool) (w : World) (hT : Tab w) (h : PairsAt w (.slice ag es.length cg) es) (hp : IntsAt w pv ps) (hq : IntsAt w qv qs) (hf : BoolsAt w fv fl) :
    Calls Tryd.prog 12 #[.agg #[.int .i64 n, .slice ag es.length cg, .int .i64 lim], .agg #[pv, qv], fv] w (LawPost w) := by
  have hend : ∀ w', Below w.heap.size w w' → LawPost w (.returned (.bool true)) w' := fun _ h => ⟨rfl, h⟩
  have HE := Lib.hid hend
  have hb0 : Below w.heap.size w (w.alloc (.cells #[.int .i64 n, .slice ag es.length cg, .int .i64 lim] 54)) := (Below.refl _ _).alloc (Nat.le_refl _) _
  have hgx : (w.alloc (.cells #[.int .i64 n, .slice ag es.length cg, .int .i64 lim] 54)).heap[w.heap.size]? = some (.cells #[.int .i64 n, .slice ag es.length cg, .int .i64 lim] 54 (0, 0)) := heap_alloc_new _ _
  obtain ⟨w0, hw0⟩ : ∃ w0, w0 = (w.alloc (.cells #[.int .i64 n, .slice ag es.length cg, .int .i64 lim] 54)).alloc (.cells #[pv, qv] 74) := ⟨_, rfl⟩
  have hs0 : w0.heap.size = w.heap.size + 2 := by rw [hw0]; simp
  have hb0 : Below w.heap.size w w0 := by rw [hw0]; exact hb0.alloc hb0.size _
  have hgx : w0.heap[w.heap.size]? = some (.cells #[.int .i64 n, .slice ag es.length cg, .int .i64 lim] 54 (0, 0)) := by rw [hw0]; exact (Below.heap_alloc _ _ _ (by simp)).trans hgx
  have hqx : w0.heap[w.heap.size + 1]? = some (.cells #[pv, qv] 74 (0, 0)) := by
    have := heap_alloc_new (w.alloc (.cells #[.int .i64 n, .slice ag es.length cg, .int .i64 lim] 54)) (.cells #[pv, qv] 74)
    rw [hw0]
    rwa [show (w.alloc (.cells #[.int .i64 n, .slice ag es.length cg, .int .i64 lim] 54)).heap.size = w.heap.size + 1 by simp] at this
  obtain ⟨ap, cp, hpv, _, _⟩ := id hp
  obtain ⟨aq, cq, hqv, _, _⟩ := id hq
  obtain ⟨af, cf, hfv, _, _⟩ := id hf
  subst hpv hqv hfv
  have HP := Lib.hid hp
  have HQ := Lib.hid hq
  have HFL := Lib.hid hf
  have AW := awake19_any w0 (hT.mono hb0)
  have hel : es.length ≤ 17592186044416 := by obtain ⟨_, _, hv, h1, _⟩ := h; exact h1
  have HH := Lib.hid h
  clear hend h hp hq hf
  go_enter Tryd.func12, Tryd.ntmps12
  go_wp2_with (simp only [← hw0])
  refine AW.mono ?_
  rintro e w1 ⟨rfl, hb1⟩
  have hB1 := hb0.trans (hb1.mono hb0.size)
  have hg1 := (hb1.block w.heap.size (by omega)).trans hgx
  have hs1 := hb1.size
  obtain ⟨y0, y1, y2, _⟩ := box3g hg1
  have SM := small19_any n lim ag cg es.length w1 hel
  have hq1 := (hb1.block (w.heap.size + 1) (by omega)).trans hqx
  clear hqx
  clear AW hgx hb0 hb1 hw0
  by_cases hsm : (decide (n ≤ 30) && decide (es.length ≤ 120)) = true
  · rw [hsm] at SM
    have hsm2 := hsm
    simp only [Bool.and_eq_true, decide_eq_true_eq] at hsm2
    obtain ⟨hn30, hl120⟩ := hsm2
    clear hsm
    go_wp2_with fail
    refine SM.mono ?_
    rintro e w2 ⟨rfl, hb2⟩
    have hB2 := hB1.trans (hb2.mono hB1.size)
    have hg2 := (hb2.block w.heap.size (by omega)).trans hg1
    have hs2 := hb2.size
    have hq2 := (hb2.block (w.heap.size + 1) (by omega)).trans hq1
    clear hq1
    clear SM y0 y1 y2 hB1 hb2 hg1
    obtain ⟨y0, y1, y2, _⟩ := box3g hg2
    by_cases hE : newE n es lim = 0
    · have ho : (orderR n es).2 = 0 := by
        apply Classical.byContradiction
        intro hh
        unfold newE at hE
        rw [if_pos hh] at hE
        exact hh hE
      have hl : 1 ≤ lim ∧ lim ≤ 16 := by
        unfold newE at hE
        rw [if_neg (by rw [ho]; simp)] at hE
        apply Classical.byContradiction
        intro hh
        rw [if_pos (by omega)] at hE
        exact absurd hE (by decide)
      obtain ⟨m, rfl, hm512, hes, hkl, _⟩ := orderR_zero ho
      have hE' : newE m es (17 - lim) = 0 := by
        unfold newE
        rw [if_neg (by rw [ho]; simp), if_neg (by omega)]
      have RB := rnew_good ag cg es m lim w2 (HH.out.mono hB2) hE
      have RUN := fun w' hT' hp h0 hf => run_any m lim ag cg es (.slice ap ps.length cp) ps (.slice af fl.length cf) fl w' hT' hp h0 hf hE (by omega)
      have RUN2 := fun w' hT' hp h0 hf => run_any m (17 - lim) ag cg es (.slice aq qs.length cq) qs (.slice af fl.length cf) fl w' hT' hp h0 hf hE' (by omega)
      have hesp : ∀ e ∈ es, 0 ≤ e.1 ∧ 0 ≤ e.2 := fun e he => ⟨(hes e he).1, (hes e he).2.2.1⟩
      have AL : Hid (∀ i, i < m → (endR m es lim (okF fl) (pkF ps)).st.getD i 0 = (endR m es (17 - lim) (okF fl) (pkF qs)).st.getD i 0) :=
        AInv.alike hes (kahn_ok m es) hkl (kahn_fwd hesp) (run_inv hl.1 hes _).1 (run_over hl.1 hes) (run_inv (show 1 ≤ 17 - lim by omega) hes _).1 (run_over (show 1 ≤ 17 - lim by omega) hes)
      generalize endR m es lim (okF fl) (pkF ps) = s at RUN AL
      generalize endR m es (17 - lim) (okF fl) (pkF qs) = s' at RUN2 AL
      clear hE hE' ho hes hkl hesp
      go_wp2_with fail
      refine RB.mono ?_
      rintro e w4 ⟨sa, cs, rfl, hi4, hfr4, hb4⟩
      have hB4 := hB2.trans (hb4.mono hB2.size)
      have hg4 := (hb4.block w.heap.size (by omega)).trans hg2
      have hq4 := (hb4.block (w.heap.size + 1) (by omega)).trans hq2
      have hs4 := hb4.size
      clear RB hb4 hg2 hq2 y0 y1 y2 hB2 hi4 hfr4
      have hg5e : (w4.alloc (.cells #[.slice ag es.length cg, .int .i64 lim, .slice sa m cs] 58)).heap[w.heap.size]? = some (.cells #[.int .i64 m, .slice ag es.length cg, .int .i64 lim] 54 (0, 0)) := (Below.heap_alloc _ _ _ (by omega)).trans hg4
      obtain ⟨v0, v1, v2, _⟩ := box3g hg5e
      clear hg5e
      obtain ⟨w5, hw5⟩ : ∃ w5, w5 = w4.alloc (.cells #[.slice ag es.length cg, .int .i64 lim, .slice sa m cs] 58) := ⟨_, rfl⟩
      have hs5 : w5.heap.size = w4.heap.size + 1 := by rw [hw5]; simp
      have hg5 : w5.heap[w.heap.size]? = some (.cells #[.int .i64 m, .slice ag es.length cg, .int .i64 lim] 54 (0, 0)) := by rw [hw5]; exact (Below.heap_alloc _ _ _ (by omega)).trans hg4
      have hq5 : w5.heap[w.heap.size + 1]? = some (.cells #[.slice ap ps.length cp, .slice aq qs.length cq] 74 (0, 0)) := by rw [hw5]; exact (Below.heap_alloc _ _ _ (by omega)).trans hq4
      have hB5 : Below w.heap.size w w5 := by rw [hw5]; exact hB4.alloc hB4.size _
      obtain ⟨y0, y1, y2, _⟩ := box3g hg5
      have hq5e : (w4.alloc (.cells #[.slice ag es.length cg, .int .i64 lim, .slice sa m cs] 58)).heap[w.heap.size + 1]? = some (.cells #[.slice ap ps.length cp, .slice aq qs.length cq] 74 (0, 0)) := (Below.heap_alloc _ _ _ (by omega)).trans hq4
      obtain ⟨p0, p1⟩ := box2 hq5e
      clear hq5e
      have RUN5 := RUN w5 (hT.mono hB5) (HH.out.mono hB5) (HP.out.mono hB5) (HFL.out.mono hB5)
      clear hg4 hq4 hB4 RUN
      go_wp2_with (rw [← hw5])
      refine RUN5.mono ?_
      clear v0 v1 v2
      rintro e w6 ⟨b, S, A, N, ev, rows, ov, rfl, hW6, ho6, hb6⟩
      have hB6 := hB5.trans (hb6.mono hB5.size)
      have hg6 := (hb6.block w.heap.size (by omega)).trans hg5
      have hq6 := (hb6.block (w.heap.size + 1) (by omega)).trans hq5
      have hs6 := hb6.size
      have HW6 := Lib.hid hW6
      obtain ⟨y0, y1, y2, _⟩ := box3g hg6
      clear RUN5 hW6 hb6 hg5 hq5 ho6 hw5 p0 p1
      have hg8e : (w6.alloc (.cells #[.int .i64 m, .slice ag es.length cg, .int .i64 lim] 54)).heap[w.heap.size]? = some (.cells #[.int .i64 m, .slice ag es.length cg, .int .i64 lim] 54 (0, 0)) := (Below.heap_alloc _ _ _ (by omega)).trans hg6
      have hq8e : (w6.alloc (.cells #[.int .i64 m, .slice ag es.length cg, .int .i64 (17 - lim)] 54)).heap[w.heap.size + 1]? = some (.cells #[.slice ap ps.length cp, .slice aq qs.length cq] 74 (0, 0)) := (Below.heap_alloc _ _ _ (by omega)).trans hq6
      obtain ⟨v0, v1, v2, _⟩ := box3g hg8e
      obtain ⟨q0, q1⟩ := box2 hq8e
      clear hg8e hq8e
      obtain ⟨w8, hw8⟩ : ∃ w8, w8 = w6.alloc (.cells #[.int .i64 m, .slice ag es.length cg, .int .i64 (17 - lim)] 54) := ⟨_, rfl⟩
      have hs8 : w8.heap.size = w6.heap.size + 1 := by rw [hw8]; simp
      have hb8 : Below w6.heap.size w6 w8 := by rw [hw8]; exact (Below.refl _ _).alloc (Nat.le_refl _) _
      have hx8 : w8.heap[w6.heap.size]? = some (.cells #[.int .i64 m, .slice ag es.length cg, .int .i64 (17 - lim)] 54 (0, 0)) := by rw [hw8]; exact heap_alloc_new _ _
      have hB8 := hB6.trans (hb8.mono hB6.size)
      have hg8 := (hb8.block w.heap.size (by omega)).trans hg6
      have hq8 := (hb8.block (w.heap.size + 1) (by omega)).trans hq6
      have HW8 := Lib.hid (HW6.out.below hb8)
      have RUN8 := RUN2 w8 (hT.mono hB8) (HH.out.mono hB8) (HQ.out.mono hB8) (HFL.out.mono hB8)
      clear RUN2 HW6 hg6 hq6 hB6 hb8 hx8 hq8
      go_wp2_with (rw [← hw8])
      refine RUN8.mono ?_
      rintro e w9 ⟨b', S', A', N', ev', rows', ov', rfl, hW9, ho9, hb9⟩
      have hB9 := hB8.trans (hb9.mono hB8.size)
      have hg9 := (hb9.block w.heap.size (by omega)).trans hg8
      have HW9 := Lib.hid (HW8.out.below hb9)
      have HX9 := Lib.hid hW9
      clear RUN8 hW9 ho9 hb9 HW8 q0 q1 v0 v1 v2 hg8 y0 y1 y2 hw8
      go_wp2
      go_loopg [18] m (fun g v18 wr => ∃ i : Nat, i + g = m ∧ v18 = .int .i64 i ∧ wr = w9)
      case atStart => exact ⟨0, by omega, rfl, rfl⟩
      case round =>
        obtain ⟨i, hig, rfl, rfl⟩ := hrel
        obtain ⟨y0, y1, y2, _⟩ := box3g hg9
        have HF := Lib.hid (HE.out _ hB9)
        cases gk with
        | zero =>
          have him : ¬ (i : Int) < (m : Int) := by omega
          go_wp2
          go_ret
          exact HF.out
        | succ g =>
          have hi : i < m := by omega
          have him : (i : Int) < (m : Int) := by omega
          have S1 := status_any b S A N m ev rows es lim s.st _ i wr HW9.out
          have S2 := status_any b' S' A' N' m ev' rows' es (17 - lim) s'.st _ i wr HX9.out
          have hr : ∀ st : List Int, statusR m st i = st.getD i 0 := fun st => by unfold statusR; rw [if_neg (by omega), Int.toNat_natCast]
          rw [hr, AL.out i hi] at S1
          rw [hr] at S2
          generalize s'.st.getD i 0 = x at S1 S2
          clear hr
          go_wp2_with fail
          refine S1.mono ?_
          rintro e w10 ⟨rfl, rfl⟩
          go_wp2_with fail
          refine S2.mono ?_
          rintro e w11 ⟨rfl, rfl⟩
          clear S1 S2
          go_wp2
          go_roundg g
          case measure => omega
          case rel => exact ⟨i + 1, by omega, by go_num, rfl⟩
    · have RB := rnew_bad (.slice ag es.length cg) es n lim w2 (HH.out.mono hB2) hE
      have hc0 : (newE n es lim != 0) = true := by simpa using hE
      have hcn : ¬ newE n es lim = 0 := hE
      generalize newE n es lim = c at RB hc0 hcn
      clear hE
      go_wp2_with fail
      refine RB.mono ?_
      rintro e w4 ⟨rfl, hb4⟩
      have hB4 := hB2.trans (hb4.mono hB2.size)
      have HF := Lib.hid (HE.out _ (hB4.alloc hB4.size (.cells #[.slice none 0 0, .int .i64 0, .slice none 0 0] 58)))
      clear RB hb4 hg2 y0 y1 y2 hB2 hB4
      go_wp2
      go_ret
      exact HF.out
  · have hsf : (decide (n ≤ 30) && decide (es.length ≤ 120)) = false := by simpa using hsm
    rw [hsf] at SM
    clear hsm hsf
    go_wp2_with fail
    refine SM.mono ?_
    rintro e w2 ⟨rfl, hb2⟩
    have hB2 := hB1.trans (hb2.mono hB1.size)
    have AW2 := awake19_any w2 (hT.mono hB2)
    clear SM hB1 hb2 y0 y1 y2
    go_wp2_with fail
    refine AW2.mono ?_
    rintro e w3 ⟨rfl, hb3⟩
    have HF := Lib.hid (HE.out _ (hB2.trans (hb3.mono hB2.size)))
    clear AW2 hb3 hB2
    go_wp2_with fail
    go_ret
    exact HF.out

end Go.Proofs.YtelioljmhlabjaaDoor
