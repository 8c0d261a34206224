/- The walk of the planner's plan, where all is well. -/
import Derived.Test.YtnjbdedmalpccaaDoorMPnP
namespace Go.Proofs.YtnjbdedmalpccaaDoor
open Go.RowKit
set_option maxRecDepth 100000
attribute [local go_sem] str_size str_toList str_get

theorem results_ctt {P : Program} {fn : Func} {p u v : Tmp} {ty : TypeId} (h : fn.results = #[.cell p ty, .tmp u, .tmp v]) (tmps : Array Value) (w : World) (g : Nat) (t : TypeId) (cs : Array Value) (fr : Nat × Nat) (d : TypeDesc)
    (hp : tmps.getD p undef = .pointer (some ⟨g, 0, none⟩)) (hg : w.heap[g]? = some (.cells cs t fr))
    (hu : P.underlying ty = some d) (hd : (match d with | .struct _ | .array _ _ => true | _ => false) = true) (hi : (P.info? ty).map (·.size) = some cs.size) :
    (results fn tmps).run P w = .ok (.tuple #[.agg cs, tmps.getD u undef, tmps.getD v undef]) w := by
  have hp' : tmps[p]?.getD undef = .pointer (some ⟨g, 0, none⟩) := by simpa using hp
  simp only [results, h]
  simp [Result.andThen, hp', asAddr, run_loadVar_row w g t ty cs fr d hg hu hd hi]

theorem PnIn.again {B N : Nat} {w : World} {p : Nat} {S : PS} {a r m v : Nat} {vs ve : Value} (h : PnIn B N w p S a r m v vs ve) :
    PnIn B N (w.setCell ⟨p, 5, none⟩ ve) p S a r m v vs ve ∧ Below B w (w.setCell ⟨p, 5, none⟩ ve) ∧ Aside2 w (w.setCell ⟨p, 5, none⟩ ve) := by
  obtain ⟨h1, h2, h3, h4, h5, h6, h7, h8, h9⟩ := h
  have k : ∀ q, q ≠ p → (w.setCell ⟨p, 5, none⟩ ve).heap[q]? = w.heap[q]? := fun q hq => Below.heap_setCell _ _ _ _ hq
  have km : ∀ {b n : Nat} {f : S8 → Option Value}, MapF w b n f → MapF (w.setCell ⟨p, 5, none⟩ ve) b n f := fun {b n f} hm => by
    obtain ⟨es, clock, hb⟩ := hm.block
    exact hm.keep (k b fun e => by rw [e, h1] at hb; cases hb)
  refine ⟨⟨setC h1 5 ve, h2, h3, km h4, km h5, km h6, km h7, row_keep h8 fun q hq => ?_, row_keep h9 fun q hq => ?_⟩, (Below.refl B w).setCell (p := ⟨p, 5, none⟩) h2.1 ve, fun q cs T fz hq t1 _ _ => k q fun e => ?_⟩
  · obtain ⟨_, hh⟩ := row_block h8 hq
    refine k q fun e => ?_
    rw [e, h1] at hh
    injection hh with hh
    injection hh with _ h' _
    exact stepNe h'.symm
  · obtain ⟨_, hh⟩ := row_block h9 hq
    refine k q fun e => ?_
    rw [e, h1] at hh
    injection hh with hh
    injection hh with _ h' _
    exact pairNe h'.symm
  · rw [e, h1] at hq
    injection hq with hq
    injection hq with _ h' _
    exact t1 h'.symm

theorem PairsAt.away {w w' : World} {v : Value} {es : List (Int × Int)} {G : Nat} {c0 c1 : Option Addr} {n0 k0 n1 k1 : Nat} {T : TypeId} (h : PairsAt w v es) (hG : w.heap[G]? = some (.cells #[.slice c0 n0 k0, .slice c1 n1 k1] T (0, 0))) (hs : w.heap.size ≤ w'.heap.size) (hk : ∀ q, q ≠ G → w'.heap[q]? = w.heap[q]?) : PairsAt w' v es := by
  obtain ⟨ao, cap, hv, hl, hm, hc⟩ := h
  refine ⟨ao, cap, hv, hl, hm, fun hne => ?_⟩
  obtain ⟨b, off, ha, hlt, hcell⟩ := hc hne
  have hb : b ≠ G := fun e => by
    subst e
    have h0 := (hcell 0 (List.length_pos_iff.2 hne)).1
    rw [Lib.cell_of_heap hG] at h0
    match off, h0 with
    | 0, h0 => cases h0
    | 1, h0 => cases h0
    | k + 2, h0 => simp at h0
  refine ⟨b, off, ha, Nat.lt_of_lt_of_le hlt hs, fun i hi => ?_⟩
  have e : ∀ o, w'.cell? ⟨b, o, none⟩ = w.cell? ⟨b, o, none⟩ := fun o => World.cell?_of_block (w := w) (hk b hb)
  rw [e, e]
  exact hcell i hi

set_option maxHeartbeats 8000000 in
theorem plan_any {w0 w : World} {N p : Nat} {S : PS} (L : List (Int × Int)) (h : PnAt w0.heap.size N w p S) (hT : Tab w0) (hb0 : Below w0.heap.size w0 w) (hs : S.steps.length ≤ 512) (he : S.edges.length ≤ 4096) (hn : S.edges.Nodup) (hr : ∀ ts : List (Int × Int), ts.Perm S.edges → reduceR S.steps.length ts = (L, 0)) :
    Calls Tryd.prog 12 #[.pointer (some ⟨p, 0, none⟩)] w fun e w' => ∃ vs vL, e = .returned (.tuple #[.agg #[vs, vL], .string ⟨#[]⟩, .int .i64 0]) ∧ CellsAt w' vs S.steps.length (stepsC S.steps) ∧ PairsAt w' vL L ∧ Below w0.heap.size w0 w' := by
  have mixed : Tryd.prog.follows .mixedOrders = true := by kernel_rfl
  obtain ⟨wA, hwA⟩ : ∃ wA, wA = w.alloc (.cells #[.slice none 0 0, .slice none 0 0] 45) := ⟨_, rfl⟩
  have nA : wA.heap[w.heap.size]? = some (.cells #[.slice none 0 0, .slice none 0 0] 45 (0, 0)) := by rw [hwA]; exact heap_alloc_new _ _
  have bA : Below w.heap.size w wA := by rw [hwA]; exact (Below.refl _ w).alloc (Nat.le_refl _) _
  obtain ⟨a, r, m, v, vs, ve, hI⟩ := (h.below bA).at'
  obtain ⟨P8, c8, rfl⟩ := slice_form hI.2.2.2.2.2.2.2.1
  obtain ⟨P9, c9, rfl⟩ := slice_form hI.2.2.2.2.2.2.2.2
  have SE := sort_edges hI (by omega)
  obtain ⟨x0, x1, x2, x3, x4, x5⟩ := cells6 hI.1
  obtain ⟨G, hG⟩ : ∃ G, w.heap.size = G := ⟨_, rfl⟩
  rw [hG] at nA
  have HBW := Lib.hid (hb0.trans (bA.mono hb0.size))
  have HN := Lib.hid nA
  have HG := Lib.hid (show w0.heap.size ≤ G by rw [← hG]; exact hb0.size)
  have HT := Lib.hid hT
  have HR := Lib.hid hr
  have HND := Lib.hid hn
  clear h hI nA bA hT hr hb0 hn
  go_enter Tryd.func12, Tryd.ntmps12
  go_upto_region 1 with fail
  rw [← hwA]
  try rw [hG]
  clear hwA hG
  go_wp2_with fail
  refine SE.mono ?_
  rintro e w1 ⟨rfl, ts, hp, hI1, hb1, ha1⟩
  have hlen := hp.length_eq
  obtain ⟨x0, x1, x2, x3, x4, x5⟩ := cells6 hI1.1
  have h9 := hI1.2.2.2.2.2.2.2.2
  have hpa : PairsAt w1 (.slice P9 S.edges.length c9) ts := pairs_of_own h9 (by show ts.length ≤ _; omega)
  have CP := compact_same ts _ w1 hpa (apart_sorted HND.out hp)
  have HI1 := Lib.hid hI1
  have HB1 := Lib.hid (HBW.out.trans hb1)
  have HN1 := Lib.hid ((ha1 G _ _ _ HN.out (by decide) (by decide) (by decide)).trans HN.out)
  have HP := Lib.hid hp
  clear SE hp hI1 hb1 ha1 h9 hpa
  go_wp2_with fail
  refine CP.mono ?_
  rintro e w2 ⟨rfl, hb2⟩
  have hI2 := HI1.out.below hb2
  obtain ⟨hI3, hb3, _⟩ := hI2.again
  have hN2 := (hb2.block _ (heap_lt HN1.out)).trans HN1.out
  have hGp : G ≠ p := fun e => by
    have h1 := hI2.1
    rw [← e, hN2] at h1
    cases h1
  have hN3 : (w2.setCell ⟨p, 5, none⟩ (.slice P9 S.edges.length c9)).heap[G]? = some (.cells #[.slice none 0 0, .slice none 0 0] 45 (0, 0)) := (Below.heap_setCell _ _ _ _ hGp).trans hN2
  obtain ⟨x0, x1, x2, x3, x4, x5⟩ := cells6 hI2.1
  have f5 := Lib.frozen_of_heap hI2.1 5
  obtain ⟨wS, hwS⟩ : ∃ wS, wS = w2.setCell ⟨p, 5, none⟩ (.slice P9 S.edges.length c9) := ⟨_, rfl⟩
  rw [← hwS] at hI3 hb3 hN3
  have HI3 := Lib.hid hI3
  have HN3 := Lib.hid hN3
  have HB3 := Lib.hid ((HB1.out.trans (hb2.mono HB1.out.size)).trans hb3)
  have HLEN := Lib.hid hlen
  clear CP hb2 hI2 hI3 hb3 hN2 hN3 HI1 HN1 HN HB1 hlen
  go_upto_region 3 with fail
  rw [← hwS]
  clear hwS f5 x0 x1 x2 x3 x4 x5
  obtain ⟨x0, x1, x2, x3, x4, x5⟩ := cells6 HI3.out.1
  have q1 : ¬ (512 : Int) < (S.steps.length : Int) := by omega
  have q2 : ¬ (4096 : Int) < (S.edges.length : Int) := by omega
  go_upto_region 5 with fail
  have RD := Reduce_any (.slice P9 S.edges.length c9) ts S.steps.length wS.drew ((HT.out.mono HB3.out).mono (Below.refl _ wS).drew) ((pairs_of_own HI3.out.2.2.2.2.2.2.2.2 (by show ts.length ≤ _; rw [HLEN.out]; omega)).mono (Below.refl _ wS).drew)
  unfold ReducePost at RD
  rw [HR.out ts HP.out] at RD
  go_region_law_o (go_simp; go_at_call 20; refine RD.mono ?_; rintro e w4 ⟨v4, rfl, hp4, hb4⟩; have HP4 := Lib.hid hp4; obtain ⟨a4, c4, rfl, _⟩ := hp4; have HB4 := Lib.hid ((Below.refl _ wS).drew.trans (hb4.mono (Nat.le_refl _))); clear hb4)
  all_goals
    clear RD x0 x1 x2 x3 x4 x5
    have hI4 := HI3.out.below HB4.out
    have hN4 := (HB4.out.block _ (heap_lt HN3.out)).trans HN3.out
    obtain ⟨x0, x1, x2, x3, x4, x5⟩ := cells6 hI4.1
    obtain ⟨y0, y1⟩ := cells2 hN4
    have z0 := Lib.frozen_of_heap hN4 0
    have z1 := Lib.frozen_of_heap hN4 1
    obtain ⟨wR, hwR⟩ : ∃ wR, wR = (w4.setCell ⟨G, 0, none⟩ (.slice P8 S.steps.length c8)).setCell ⟨G, 1, none⟩ (.slice a4 L.length c4) := ⟨_, rfl⟩
    have hxR : wR.heap[G]? = some (.cells #[.slice P8 S.steps.length c8, .slice a4 L.length c4] 45 (0, 0)) := by rw [hwR]; exact setC (setC hN4 0 _) 1 _
    have hkR : ∀ q, q ≠ G → wR.heap[q]? = w4.heap[q]? := fun q hq => by rw [hwR, Below.heap_setCell _ _ _ _ hq, Below.heap_setCell _ _ _ _ hq]
    have hsR : wR.heap.size = w4.heap.size := by rw [hwR, setC_size, setC_size]
    have hbR : Below w0.heap.size w0 wR := by
      rw [hwR]
      exact (((HB3.out.trans (HB4.out.mono HB3.out.size)).setCell (p := ⟨G, 0, none⟩) HG.out _).setCell (p := ⟨G, 1, none⟩) HG.out _)
    have HF := Lib.hid (⟨CellsAt.row (row_keep hI4.2.2.2.2.2.2.2.1 fun q hq => by
      obtain ⟨_, hh⟩ := row_block hI4.2.2.2.2.2.2.2.1 hq
      refine hkR q fun e => ?_
      rw [e, hN4] at hh
      cases hh), HP4.out.away hN4 (by rw [hsR]; exact Nat.le_refl _) hkR, hbR⟩ : CellsAt wR (.slice P8 S.steps.length c8) S.steps.length (stepsC S.steps) ∧ PairsAt wR (.slice a4 L.length c4) L ∧ Below w0.heap.size w0 wR)
    have HXR := Lib.hid hxR
    clear hI4 hN4 hxR hkR hsR hbR HP4 HB4 HI3 HN3 HB3
    go_wp2
    rw [← hwR]
    (try simp only [Exit.inBlock, Exit.then])
    refine bodyPost_ret (results_ctt rfl _ _ G _ _ _ _ rfl HXR.out Tryd.underlying45 rfl (by kernel_rfl)) rfl ?_
    exact ⟨_, _, rfl, HF.out⟩

end Go.Proofs.YtnjbdedmalpccaaDoor
