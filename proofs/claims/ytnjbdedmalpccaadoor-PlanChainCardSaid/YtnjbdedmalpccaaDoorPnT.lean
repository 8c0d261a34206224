/- The walks of the planner's make and remove. -/
import Derived.Test.YtnjbdedmalpccaaDoorPnS
namespace Go.Proofs.YtnjbdedmalpccaaDoor
open Go.RowKit
set_option maxRecDepth 100000
attribute [local go_sem] str_size str_toList str_get

theorem infoStep : (Tryd.prog.info? 53).map (fun i => (i.zero, i.size, i.bytes)) = some (some (.agg #[.int .i64 0, .string ⟨#[]⟩, .string ⟨#[]⟩, .string ⟨#[]⟩, .bool false]), 5, 64) := by kernel_rfl
theorem cells5 {w : World} {g : Nat} {c0 c1 c2 c3 c4 : Value} {T : TypeId} (h : w.heap[g]? = some (.cells #[c0, c1, c2, c3, c4] T (0, 0))) : w.cell? ⟨g, 0, none⟩ = some c0 ∧ w.cell? ⟨g, 1, none⟩ = some c1 ∧ w.cell? ⟨g, 2, none⟩ = some c2 ∧ w.cell? ⟨g, 3, none⟩ = some c3 ∧ w.cell? ⟨g, 4, none⟩ = some c4 := by
  refine ⟨?_, ?_, ?_, ?_, ?_⟩ <;> (rw [Lib.cell_of_heap h]; rfl)
theorem PnAt.alloc {B N : Nat} {w : World} {p : Nat} {S : PS} (h : PnAt B N w p S) (o : Obj) : PnAt B N (w.alloc o) p S := h.below ((Below.refl _ w).alloc (Nat.le_refl _) o)

set_option maxHeartbeats 8000000 in
theorem make_any {B N : Nat} {w : World} {p : Nat} {S : PS} (h : PnAt B N w p S) (s : StepT) (fa : fitS s.addr) (hl : S.steps.length ≤ 100000) (hN : N ≤ 100000) :
    Calls Tryd.prog 14 #[.pointer (some ⟨p, 0, none⟩), stepV s] w fun e w' => e = .returned (.tuple #[]) ∧ PnAt B (N + 1) w' p (S.make s) ∧ Below B w w' ∧ Aside2 w w' := by
  have mixed : Tryd.prog.follows .mixedOrders = true := by kernel_rfl
  obtain ⟨i1, hi1, hz1, hzs1, hzb1⟩ := info_parts infoStep
  unfold stepV
  obtain ⟨wB, hwB⟩ : ∃ wB, wB = w.alloc (.cells #[.int .i64 s.op, str s.addr, str s.typ, str s.id, .bool s.swap] 53) := ⟨_, rfl⟩
  have nB : wB.heap[w.heap.size]? = some (.cells #[.int .i64 s.op, str s.addr, str s.typ, str s.id, .bool s.swap] 53 (0, 0)) := by rw [hwB]; exact heap_alloc_new _ _
  have bB : Below w.heap.size w wB := by rw [hwB]; exact (Below.refl _ w).alloc (Nat.le_refl _) _
  have hB := h.lt
  obtain ⟨a, r, m, v, vs, ve, hI⟩ := h.at'
  have hlt8 := hI.2.2.2.2.2.2.2.1.lt
  have hD := (hI.below bB).below (Below.refl _ wB).drew
  have hBs : B ≤ wB.heap.size := Nat.le_trans h.lt bB.size
  obtain ⟨h1, h2, h3, h4, h5, h6, h7, h8, h9⟩ := hD
  obtain ⟨P8, c8, rfl⟩ := slice_form h8
  obtain ⟨g, hg⟩ : ∃ g, w.heap.size = g := ⟨_, rfl⟩
  rw [hg] at nB hB hlt8
  have hng : Value.ownBlock (.slice P8 S.steps.length c8) ≠ some g := fun e => Nat.lt_irrefl _ (hlt8 g e).2
  have nD : wB.drew.heap[g]? = some (.cells #[.int .i64 s.op, str s.addr, str s.typ, str s.id, .bool s.swap] 53 (0, 0)) := nB
  have hgl : g < wB.heap.size := heap_lt nD
  have hgp : g ≠ p := fun e => by
    rw [e, h1] at nD
    cases nD
  have HE := Lib.hid (fun (w2 : World) (v' : Value) (o : Obj) hown hg => PnAt.stepped (w2 := w2) (v' := v') (o := o) (e := s) h1 h2 h3 h4 h5 h6 h7 h8 h9 rfl hown hg)
  have HO := Lib.hid (fun (o : Obj) => row_keep h8 fun q hq => by
    obtain ⟨_, hh⟩ := row_block h8 hq
    exact Below.heap_alloc wB.drew o q (heap_lt hh))
  have HM := Lib.hid (⟨h2, h3, h4, h5, h6, h7⟩ : _ ∧ _ ∧ _ ∧ _ ∧ _ ∧ _)
  obtain ⟨x0, x1, x2, x3, x4, x5⟩ := cells6 (w := wB) h1
  obtain ⟨y0, y1, y2, y3, y4⟩ := cells5 (w := wB) nD
  have HP := Lib.hid h1
  have hpl : p < wB.heap.size := heap_lt h1
  have HG := Lib.hid nD
  have HBB := Lib.hid (⟨bB.mono h.lt, Aside2.of_below bB⟩ : _ ∧ _)
  have hnp : Value.ownBlock (.slice P8 S.steps.length c8) ≠ some p := fun e => by
    obtain ⟨_, hh⟩ := row_block h8 e
    rw [h1] at hh
    cases hh
  have HN := Lib.hid (⟨hnp, hng⟩ : _ ∧ _)
  clear h hI hlt8 hng h1 h2 h3 h4 h5 h6 h7 h8 h9 nB nD bB hnp
  obtain ⟨L, hL⟩ : ∃ L, S.steps.length + 1 = L := ⟨_, rfl⟩
  have hLl : L ≤ 100001 := by omega
  go_enter Tryd.func14, Tryd.ntmps14
  go_upto_region 1 with fail
  rw [← hwB]
  try rw [hg]
  clear hwB hg
  go_region_law_o (refine step_append_fresh rfl (.tmp 8) (.tmp 10) 42 rfl B 53 i1 _ 5 64 Tryd.underlying42 hi1 hz1 hzs1 hzb1 rfl (by decide) (.slice P8 S.steps.length c8) S.steps.length (stepsC S.steps) (by simp [Act.eval]) (HO.out _) ⟨wB.drew.heap.size, 0, none⟩ 1 1 (stepC s) (by simp [Act.eval]) rfl (cells_new wB.drew (stepC s) 53) (by intro y hy; simp [stepC] at hy; rcases hy with rfl | rfl | rfl | rfl | rfl <;> rfl) (by unfold maxLen; omega) (by omega) (by simp; omega) ?_; intro v' w2 hown hgr _; rw [hL] at hown; have hpc := ((hgr.block p (by simp; omega) (fun e => HN.out.1 e.symm)).trans (Below.heap_alloc _ _ p hpl)).trans HP.out; have hgc := ((hgr.block g (by simp; omega) (fun e => HN.out.2 e.symm)).trans (Below.heap_alloc _ _ g hgl)).trans HG.out; obtain ⟨u0, u1, u2, u3, u4, u5⟩ := cells6 hpc; have z2 := Lib.frozen_of_heap hpc 2; have HF := Lib.hid (HE.out w2 v' _ (by rw [hL]; exact hown) hgr); have HGC := Lib.hid hgc; obtain ⟨P7, c7, rfl⟩ := slice_form hown; clear hown hgr hpc hgc)
  all_goals
    have HPX := Lib.hid HP.out
    clear u0 u1 u2 u3 u4 u5 z2 HE HO HN HP HG
    obtain ⟨w3, hw3⟩ : ∃ w3, w3 = w2.setCell ⟨p, 2, none⟩ (.slice P7 L c7) := ⟨_, rfl⟩
    have hg3 : w3.heap[g]? = w2.heap[g]? := by rw [hw3, Below.heap_setCell _ _ _ _ hgp]
    have HG3 := Lib.hid (hg3.trans HGC.out)
    rw [← hw3] at HF ⊢
    clear hw3 hg3 HGC x0 x1 x2 x3 x4 x5 y0 y1 y2 y3 y4
    obtain ⟨f1, f2, f3, f4, f5, f6⟩ := HF.out
    obtain ⟨g2, g3, g4, g5, g6, g7⟩ := HM.out
    have gm := f2 _ _ _ g6
    obtain ⟨w4, hr, hm4, ho4⟩ := MapF.store (w := w3.drew) (gm.keep rfl) mapI (by unfold maxLen; omega) fa (.int .i64 (L : Int))
    have hp3 := heap_lt f1
    have hpm : p ≠ m := fun e => by
      obtain ⟨es, clock, hh⟩ := gm.block
      rw [← e, f1] at hh
      cases hh
    have hB3 := f5.size
    have HR := Lib.hid (⟨⟨a, r, m, v, _, ve, (ho4.block p hp3 hpm).trans f1, g2, g3, ((f2 _ _ _ g4).other (w' := w4) (b' := m) ⟨ho4.os, ho4.tape, ho4.output, ho4.size, ho4.block⟩ g3.2.1).more (Nat.le_succ N), ((f2 _ _ _ g5).other (w' := w4) (b' := m) ⟨ho4.os, ho4.tape, ho4.output, ho4.size, ho4.block⟩ g3.2.2.2.1).more (Nat.le_succ N), by
      unfold PS.make
      rw [hL]
      show MapF w4 m (N + 1) (fun t => (upd S.mak s.addr L t).map fun i : Nat => Value.int .i64 (i : Int))
      rw [upd_map]
      exact hm4, ((f2 _ _ _ g7).other (w' := w4) (b' := m) ⟨ho4.os, ho4.tape, ho4.output, ho4.size, ho4.block⟩ (Ne.symm g3.2.2.2.2.2)).more (Nat.le_succ N), row_other (w := w3) f3 ⟨ho4.os, ho4.tape, ho4.output, ho4.size, ho4.block⟩ gm.block, row_other (w := w3) f4 ⟨ho4.os, ho4.tape, ho4.output, ho4.size, ho4.block⟩ gm.block⟩, (HBB.out.1.drew).trans (f5.trans ((⟨ho4.os, ho4.tape, ho4.output, ho4.size, ho4.block⟩ : OnlyM m w3 w4).below g2.2.2.2.1 (Nat.le_trans hBs hB3))), (HBB.out.2).trans (Aside2.trans (b := w3) (fun q cs T fz hq t1 t2 _ => f6 q cs T fz hq (.inl t2) fun e => t1 (by rw [e, show wB.heap[p]? = wB.drew.heap[p]? from rfl, HPX.out] at hq; injection hq with hq; injection hq with _ h' _; exact h'.symm)) ((⟨ho4.os, ho4.tape, ho4.output, ho4.size, ho4.block⟩ : OnlyM m w3 w4).aside2 gm.block))⟩ : PnAt B (N + 1) w4 p (S.make s) ∧ Below B w w4 ∧ Aside2 w w4)
    obtain ⟨x0, x1, x2, x3, x4, x5⟩ := cells6 f1
    obtain ⟨y0, y1, y2, y3, y4⟩ := cells5 HG3.out
    clear f1 f2 f3 f4 f5 g2 g3 g4 g5 g6 g7 gm hm4 ho4 HF HM HBB HG3
    go_upto_region 2 with fail
    go_region_law_o fail
    all_goals go_wp2
    all_goals first | refine bodyPost_end (results_none rfl _ _ _) rfl ?_ | refine bodyPost_ret (results_none rfl _ _ _) rfl ?_
    all_goals exact ⟨rfl, HR.out⟩

end Go.Proofs.YtnjbdedmalpccaaDoor
