/- The walk of value.List. -/
import Derived.Test.YtgbalofdfdafmaaDoorLeaf
namespace Go.Proofs.YtgbalofdfdafmaaDoor
open Go.RowKit
set_option maxRecDepth 100000
attribute [local go_sem] str_size str_toList str_get

/-- What is one's own, in new memory. -/
def OwnNew (t : VT) (w : World) (v : Value) (w' : World) : Prop := ∃ F, OwnVal w' t v F ∧ F.Nodup ∧ (∀ b ∈ F, w.heap.size ≤ b) ∧ Below w.heap.size w w'

/-- Two values in a slice of their own. -/
theorem row_both {w : World} {g : Nat} {t u : VT} {c0 c1 c2 c3 c4 d0 d1 d2 d3 d4 : Value} {T : TypeId} (h : w.heap[g]? = some (.cells #[c0, c1, c2, c3, c4, d0, d1, d2, d3, d4] T (0, 0)))
    (ht : ValAt w t (.agg #[c0, c1, c2, c3, c4])) (hu : ValAt w u (.agg #[d0, d1, d2, d3, d4])) :
    RowAt w (.slice (some ⟨g, 0, none⟩) 2 2) [t, u].length (fun i => if i = 0 then .agg #[c0, c1, c2, c3, c4] else .agg #[d0, d1, d2, d3, d4]) ∧ ValsAt w [t, u] (fun i => if i = 0 then .agg #[c0, c1, c2, c3, c4] else .agg #[d0, d1, d2, d3, d4]) := by
  refine ⟨⟨_, 2, rfl, ⟨by simp, by omega, fun e => by cases e⟩, fun _ => ⟨g, 0, rfl, (Array.getElem?_eq_some_iff.1 h).1, fun i hi => ?_⟩⟩, ?_⟩
  · have hi2 : i = 0 ∨ i = 1 := by simp at hi; omega
    rcases hi2 with rfl | rfl
    · exact ⟨_, _, _, _, _, rfl, by simp [World.cell?, h], by simp [World.cell?, h], by simp [World.cell?, h], by simp [World.cell?, h], by simp [World.cell?, h]⟩
    · exact ⟨_, _, _, _, _, rfl, by simp [World.cell?, h], by simp [World.cell?, h], by simp [World.cell?, h], by simp [World.cell?, h], by simp [World.cell?, h]⟩
  · rw [ValsAt_iff]
    intro i hi
    have hi2 : i = 0 ∨ i = 1 := by simp at hi; omega
    rcases hi2 with rfl | rfl
    · exact ht
    · exact hu

set_option maxHeartbeats 1000000 in
theorem list_val (ts : List VT) (vi : Value) (vs : Nat → Value) (w : World) (hr : RowAt w vi ts.length vs) (hv : ValsAt w ts vs) (hf : ∀ x ∈ ts, fitV x = true) (hs : ∀ x ∈ ts, sizeV x ≤ 1000000) (hl : ts.length ≤ 1000000) :
    Calls Tryd.prog 9 #[vi] w fun e w' => ∃ v, e = .returned v ∧ OwnNew (.mk 5 false [] ts []) w v w' := by
  obtain ⟨wB, hwB⟩ : ∃ wB, wB = w.alloc (.cells #[.int .i64 0, .bool false, .string ⟨#[]⟩, .slice none 0 0, .slice none 0 0] 26) := ⟨_, rfl⟩
  have hn : wB.heap[w.heap.size]? = some (.cells #[.int .i64 0, .bool false, .string ⟨#[]⟩, .slice none 0 0, .slice none 0 0] 26 (0, 0)) := by rw [hwB]; exact heap_alloc_new _ _
  obtain ⟨_, _, _, _, _, hsB, hbB⟩ := box5 hwB
  have C := clones_of ts (fun t ht v w h => clone_val t v w h (hf t ht) (hs t ht)) hl vi vs wB (hr.mono hbB) (hv.mono hbB)
  obtain ⟨ao, cap, rfl, _⟩ := hr
  have HN := Lib.hid hn
  clear hn hv hf hs
  go_enter Tryd.func9, Tryd.ntmps9
  go_upto_region 1 with fail
  rw [← hwB]
  clear hwB
  go_wp2_with fail
  refine C.mono ?_
  rintro e w1 ⟨v', rfl, hcl⟩
  have hq := hcl.below
  obtain ⟨ai, ci, rfl⟩ := hcl.form
  have hr := (hq.block w.heap.size (by omega)).trans HN.out
  obtain ⟨z0, z1, z2, z3, z4, y0, y1, y2, y3, y4⟩ := free5 hr
  obtain ⟨w5, hw5, hr5, hz5, hk5, hB5⟩ := put_box5 hr (.int .i64 5) (.bool false) (.string ⟨#[]⟩) (.slice ai ts.length ci) (.slice none 0 0)
  obtain ⟨p0, p1, p2, p3, p4, _, _⟩ := cell_box5 hr5
  have hB := hB5 w.heap.size w (Nat.le_refl _) (hbB.trans (hq.mono (by omega)))
  have hfin : OwnNew (.mk 5 false [] ts []) w (.agg #[.int .i64 5, .bool false, .string ⟨#[]⟩, .slice ai ts.length ci, .slice none 0 0]) w5 := by
    obtain ⟨xs, Fi, Fs, h1, h2, h3, h4, _⟩ := hcl
    refine ⟨Fi ++ Fs, ?_, h3, fun b hb => by have := h4 b hb; omega, hB⟩
    rw [OwnVal]
    exact ⟨.slice ai ts.length ci, .slice none 0 0, xs, [], Fi, Fs, rfl, by simp, OwnS.nil _ _ _, h1.keep fun b hb => hk5 b (by have := h4 b (by simp [hb]); omega), h2.len, rfl, h2.keep fun b hb => hk5 b (by have := h4 b (by simp [hb]); omega)⟩
  have HF := Lib.hid hfin
  have HW := Lib.hid hw5
  clear hfin hw5 hr5 hk5 hB5 hr hcl
  go_wp2
  rw [← HW.out]
  exact bodyPost_ret (v := .agg #[.int .i64 5, .bool false, .string ⟨#[]⟩, .slice ai ts.length ci, .slice none 0 0]) (by simp [results, go_sem, p0, p1, p2, p3, p4]) rfl ⟨_, rfl, HF.out⟩

end Go.Proofs.YtgbalofdfdafmaaDoor
