/- Walks of the reference's set, Choices, Choose. -/
import Derived.Test.YtelioljmhlabjaaDoorRw2
import Derived.Deep.Cut
import Derived.Deep.RegionWith
namespace Go.Proofs.YtelioljmhlabjaaDoor
open Go.RowKit
set_option maxRecDepth 100000

def RsetPost (ae : Option Addr) (ce n len : Nat) (lim : Int) (st : List Int) (w : World) (e : Ending) (w' : World) : Prop :=
  ∃ sa cs, e = .returned (.agg #[.slice ae len ce, .int .i64 lim, .slice sa n cs]) ∧ IntsAt w' (.slice sa n cs) st ∧ (∀ a, sa = some a → w.heap.size ≤ a.block) ∧ Below w.heap.size w w'

set_option maxHeartbeats 1600000 in
theorem rset_any (ae : Option Addr) (ce : Nat) (sa : Option Addr) (cs n : Nat) (es : List (Int × Int)) (lim : Int) (st : List Int) (i : Nat) (x : Int) (w : World) (hst : IntsAt w (.slice sa n cs) st) (hln : st.length = n) (hn : n ≤ 512) (hi : i < n) :
    Calls Tryd.prog 63 #[.agg #[.slice ae es.length ce, .int .i64 lim, .slice sa n cs], .int .i64 i, .int .i64 x] w (RsetPost ae ce n es.length lim (st.set i x) w) := by
  obtain ⟨i3, hi3, hz3, hs3, hy3⟩ := info_parts Tryd.info3
  have HST := Lib.hid hst
  have hs2 : ((w.alloc (.cells #[.slice ae es.length ce, .int .i64 lim, .slice sa n cs] 58)).alloc (.cells #[.slice none 0 0, .int .i64 0, .slice none 0 0] 58)).heap.size = w.heap.size + 1 + 1 := by simp
  have hmade := World.ownsRow_made (e := 3) (size := 1) ((w.alloc (.cells #[.slice ae es.length ce, .int .i64 lim, .slice sa n cs] 58)).alloc (.cells #[.slice none 0 0, .int .i64 0, .slice none 0 0] 58)) #[] 0 (Nat.le_refl _) (by unfold maxLen; omega) rfl
  rw [hs2] at hmade
  have HM := Lib.hid hmade
  have hb0 : Below w.heap.size w ((w.alloc (.cells #[.slice ae es.length ce, .int .i64 lim, .slice sa n cs] 58)).alloc (.cells #[.slice none 0 0, .int .i64 0, .slice none 0 0] 58)) := ((Below.refl _ w).alloc (Nat.le_refl _) _).alloc (by simp) _
  have hb2 := hb0.alloc hb0.size (.cells #[] 3)
  have hst2 := hst.mono hb2
  have hbx : ((w.alloc (.cells #[.slice ae es.length ce, .int .i64 lim, .slice sa n cs] 58)).alloc (.cells #[.slice none 0 0, .int .i64 0, .slice none 0 0] 58)).heap[w.heap.size]? = some (.cells #[.slice ae es.length ce, .int .i64 lim, .slice sa n cs] 58 (0, 0)) :=
    (Below.heap_alloc _ _ _ (by simp)).trans (heap_alloc_new _ _)
  have hrx : ((w.alloc (.cells #[.slice ae es.length ce, .int .i64 lim, .slice sa n cs] 58)).alloc (.cells #[.slice none 0 0, .int .i64 0, .slice none 0 0] 58)).heap[w.heap.size + 1]? = some (.cells #[.slice none 0 0, .int .i64 0, .slice none 0 0] 58 (0, 0)) := by
    have := heap_alloc_new (w.alloc (.cells #[.slice ae es.length ce, .int .i64 lim, .slice sa n cs] 58)) (.cells #[.slice none 0 0, .int .i64 0, .slice none 0 0] 58)
    rwa [show (w.alloc (.cells #[.slice ae es.length ce, .int .i64 lim, .slice sa n cs] 58)).heap.size = w.heap.size + 1 by simp] at this
  obtain ⟨W1, hW1⟩ : ∃ W1, W1 = ((w.alloc (.cells #[.slice ae es.length ce, .int .i64 lim, .slice sa n cs] 58)).alloc (.cells #[.slice none 0 0, .int .i64 0, .slice none 0 0] 58)) := ⟨_, rfl⟩
  rw [← hW1] at hs2 hb0 hb2 hst2 hbx hrx
  have hi2 : (i : Int) < (n : Int) := by omega
  clear hst hmade
  go_enter Tryd.func63, Tryd.ntmps63
  go_wp2_with (at_builtin; refine wpList_append_ints _ rfl (.tmp 7) (.tmp 9) rfl (w.heap.size + 1 + 1) _ 0 [] rfl HM.out _ st rfl (by rw [hW1] at hst2; exact hst2) ?b1 ?b2 ?_)
  case b1 => omega
  case b2 => simp
  intro v3 w3 hown3 hgrow3 _
  rw [← hW1] at hgrow3
  clear hW1 HM
  have hown4 : w3.ownsRow (w.heap.size + 1 + 1) 3 1 v3 n (st.map (Value.int .i64)) := by simpa [hln] using hown3
  obtain ⟨g, cap, cur, hv3, hgb, hgh, hg1, hg2, hg3, hg4⟩ : ∃ g cap cur, v3 = .slice (some ⟨g, 0, none⟩) n cap ∧ w.heap.size + 1 + 1 ≤ g ∧ w3.heap[g]? = some (.cells cur 3 (0, 0)) ∧ n ≤ cap ∧ cap ≤ maxLen ∧ cur.size = cap * 1 ∧ cur.toList.take (n * 1) = st.map (Value.int .i64) := by
    rcases hown4.2 with ⟨_, h0⟩ | h0
    · omega
    · exact h0
  subst hv3
  have k0 : ∀ k, k < w.heap.size + 1 + 1 → w3.heap[k]? = W1.heap[k]? := fun k hk => by
    refine (hgrow3.block k (by simp; omega) (fun e => ?_)).trans (Below.heap_alloc _ _ _ (by omega))
    have := Option.some.inj e
    simp at this
    omega
  have hB3 : Below w.heap.size w w3 := hb2.grown hgrow3 hb2.size (fun k e => by have := Option.some.inj e; simp at this; omega)
  have e0 := (k0 _ (by omega)).trans hbx
  have e1 := (k0 _ (by omega)).trans hrx
  have q2 : w3.cell? ⟨w.heap.size, 2, none⟩ = some (.slice sa n cs) := by simp [World.cell?, e0]
  have q2f : w3.frozen? ⟨w.heap.size, 2, none⟩ = false := by simp [World.frozen?, e0]
  clear hown3 hgrow3 hown4 k0 hbx hrx hb0 hb2 hst2 hs2
  go_upto_region 2 with fail
  -- the new statuses are laid in
  have a0 : (w3.setCell ⟨w.heap.size, 2, none⟩ (.slice (some ⟨g, 0, none⟩) n cap)).heap[w.heap.size]? = some (.cells #[.slice ae es.length ce, .int .i64 lim, .slice (some ⟨g, 0, none⟩) n cap] 58 (0, 0)) := by
    simp [World.setCell, Array.getElem?_modify, e0]
  have a1 : (w3.setCell ⟨w.heap.size, 2, none⟩ (.slice (some ⟨g, 0, none⟩) n cap)).heap[w.heap.size + 1]? = some (.cells #[.slice none 0 0, .int .i64 0, .slice none 0 0] 58 (0, 0)) := (Below.heap_setCell _ _ _ _ (by simp)).trans e1
  have ag : (w3.setCell ⟨w.heap.size, 2, none⟩ (.slice (some ⟨g, 0, none⟩) n cap)).heap[g]? = some (.cells cur 3 (0, 0)) := (Below.heap_setCell _ _ _ _ (show g ≠ w.heap.size by omega)).trans hgh
  have aB : Below w.heap.size w (w3.setCell ⟨w.heap.size, 2, none⟩ (.slice (some ⟨g, 0, none⟩) n cap)) := hB3.setCell (Nat.le_refl _) _
  obtain ⟨w4, hw4⟩ : ∃ w4, w4 = w3.setCell ⟨w.heap.size, 2, none⟩ (.slice (some ⟨g, 0, none⟩) n cap) := ⟨_, rfl⟩
  rw [← hw4] at a0 a1 ag aB ⊢
  clear hw4 q2 q2f e0 e1 hgh hB3
  have hcur : ∀ j, j < n → cur[j]? = some (.int .i64 (st.getD j 0)) := fun j hj => by
    have h3 : (cur.toList.take (n * 1))[j]? = (st.map (Value.int .i64))[j]? := by rw [hg4]
    rw [List.getElem?_take, if_pos (by omega)] at h3
    rw [List.getElem?_map] at h3
    have h4 : st[j]? = some (st.getD j 0) := by simp [List.getD, show j < st.length by omega]
    rw [h4] at h3
    simpa using h3
  have q2 : w4.cell? ⟨w.heap.size, 2, none⟩ = some (.slice (some ⟨g, 0, none⟩) n cap) := by simp [World.cell?, a0]
  have qi : w4.cell? ⟨g, i, none⟩ = some (.int .i64 (st.getD i 0)) := by simp [World.cell?, ag, hcur i hi]
  have qif : w4.frozen? ⟨g, i, none⟩ = false := by simp [World.frozen?, ag]
  have HCUR := Lib.hid hcur
  clear hcur
  go_upto_region 3 with fail
  have b0 : (w4.setCell ⟨g, i, none⟩ (.int .i64 x)).heap[w.heap.size]? = some (.cells #[.slice ae es.length ce, .int .i64 lim, .slice (some ⟨g, 0, none⟩) n cap] 58 (0, 0)) := (Below.heap_setCell _ _ _ _ (show w.heap.size ≠ g by omega)).trans a0
  have b1 : (w4.setCell ⟨g, i, none⟩ (.int .i64 x)).heap[w.heap.size + 1]? = some (.cells #[.slice none 0 0, .int .i64 0, .slice none 0 0] 58 (0, 0)) := (Below.heap_setCell _ _ _ _ (show w.heap.size + 1 ≠ g by omega)).trans a1
  have bg : (w4.setCell ⟨g, i, none⟩ (.int .i64 x)).heap[g]? = some (.cells (cur.setIfInBounds i (.int .i64 x)) 3 (0, 0)) := by
    simp [World.setCell, Array.getElem?_modify, ag]
  have bB : Below w.heap.size w (w4.setCell ⟨g, i, none⟩ (.int .i64 x)) := aB.setCell (show w.heap.size ≤ g by omega) _
  obtain ⟨w5, hw5⟩ : ∃ w5, w5 = w4.setCell ⟨g, i, none⟩ (.int .i64 x) := ⟨_, rfl⟩
  rw [← hw5] at b0 b1 bg bB ⊢
  clear hw5 q2 qi qif a0 a1 ag aB
  have c0 : w5.cell? ⟨w.heap.size, 0, none⟩ = some (.slice ae es.length ce) := by simp [World.cell?, b0]
  have c1 : w5.cell? ⟨w.heap.size, 1, none⟩ = some (.int .i64 lim) := by simp [World.cell?, b0]
  have c2 : w5.cell? ⟨w.heap.size, 2, none⟩ = some (.slice (some ⟨g, 0, none⟩) n cap) := by simp [World.cell?, b0]
  have r0 : w5.cell? ⟨w.heap.size + 1, 0, none⟩ = some (.slice none 0 0) := by simp [World.cell?, b1]
  have r1 : w5.cell? ⟨w.heap.size + 1, 1, none⟩ = some (.int .i64 0) := by simp [World.cell?, b1]
  have r2 : w5.cell? ⟨w.heap.size + 1, 2, none⟩ = some (.slice none 0 0) := by simp [World.cell?, b1]
  have rf : ∀ o, w5.frozen? ⟨w.heap.size + 1, o, none⟩ = false := fun o => by simp [World.frozen?, b1]
  have rf0 := rf 0
  have rf1 := rf 1
  have rf2 := rf 2
  have hfin : ((((w5.setCell ⟨w.heap.size + 1, 0, none⟩ (.slice ae es.length ce)).setCell ⟨w.heap.size + 1, 1, none⟩ (.int .i64 lim)).setCell ⟨w.heap.size + 1, 2, none⟩ (.slice (some ⟨g, 0, none⟩) n cap))).heap[w.heap.size + 1]? = some (.cells #[.slice ae es.length ce, .int .i64 lim, .slice (some ⟨g, 0, none⟩) n cap] 58 (0, 0)) := by
    simp [World.setCell, Array.getElem?_modify, b1]
  have hB5 : Below w.heap.size w (((w5.setCell ⟨w.heap.size + 1, 0, none⟩ (.slice ae es.length ce)).setCell ⟨w.heap.size + 1, 1, none⟩ (.int .i64 lim)).setCell ⟨w.heap.size + 1, 2, none⟩ (.slice (some ⟨g, 0, none⟩) n cap)) := ((bB.setCell (Nat.le_succ _) _).setCell (Nat.le_succ _) _).setCell (Nat.le_succ _) _
  have hcur5 : (((w5.setCell ⟨w.heap.size + 1, 0, none⟩ (.slice ae es.length ce)).setCell ⟨w.heap.size + 1, 1, none⟩ (.int .i64 lim)).setCell ⟨w.heap.size + 1, 2, none⟩ (.slice (some ⟨g, 0, none⟩) n cap)).heap[g]? = some (.cells (cur.setIfInBounds i (.int .i64 x)) 3 (0, 0)) :=
    (Below.heap_setCell _ _ _ _ (show g ≠ w.heap.size + 1 by omega)).trans ((Below.heap_setCell _ _ _ _ (show g ≠ w.heap.size + 1 by omega)).trans ((Below.heap_setCell _ _ _ _ (show g ≠ w.heap.size + 1 by omega)).trans bg))
  have f0 : (((w5.setCell ⟨w.heap.size + 1, 0, none⟩ (.slice ae es.length ce)).setCell ⟨w.heap.size + 1, 1, none⟩ (.int .i64 lim)).setCell ⟨w.heap.size + 1, 2, none⟩ (.slice (some ⟨g, 0, none⟩) n cap)).cell? ⟨w.heap.size + 1, 0, none⟩ = some (.slice ae es.length ce) := by simp [World.cell?, hfin]
  have f1 : (((w5.setCell ⟨w.heap.size + 1, 0, none⟩ (.slice ae es.length ce)).setCell ⟨w.heap.size + 1, 1, none⟩ (.int .i64 lim)).setCell ⟨w.heap.size + 1, 2, none⟩ (.slice (some ⟨g, 0, none⟩) n cap)).cell? ⟨w.heap.size + 1, 1, none⟩ = some (.int .i64 lim) := by simp [World.cell?, hfin]
  have f2 : (((w5.setCell ⟨w.heap.size + 1, 0, none⟩ (.slice ae es.length ce)).setCell ⟨w.heap.size + 1, 1, none⟩ (.int .i64 lim)).setCell ⟨w.heap.size + 1, 2, none⟩ (.slice (some ⟨g, 0, none⟩) n cap)).cell? ⟨w.heap.size + 1, 2, none⟩ = some (.slice (some ⟨g, 0, none⟩) n cap) := by simp [World.cell?, hfin]
  go_wp2
  generalize (((w5.setCell ⟨w.heap.size + 1, 0, none⟩ (.slice ae es.length ce)).setCell ⟨w.heap.size + 1, 1, none⟩ (.int .i64 lim)).setCell ⟨w.heap.size + 1, 2, none⟩ (.slice (some ⟨g, 0, none⟩) n cap)) = w6 at f0 f1 f2 hcur5 hB5 ⊢
  refine bodyPost_ret (v := .agg #[.slice ae es.length ce, .int .i64 lim, .slice (some ⟨g, 0, none⟩) n cap]) (by simp [results, go_sem, f0, f1, f2]) rfl ?_
  refine ⟨some ⟨g, 0, none⟩, cap, rfl, ?_, fun a ha => by cases ha; simp; omega, hB5⟩
  have hgs : g < w6.heap.size := by
    rcases Nat.lt_or_ge g w6.heap.size with h | h
    · exact h
    · rw [Array.getElem?_eq_none (by omega)] at hcur5; cases hcur5
  refine ⟨some ⟨g, 0, none⟩, cap, by simp [hln], by simp; omega, ⟨by simp; omega, by unfold maxLen at hg2; omega, by simp⟩, fun _ => ⟨g, 0, rfl, hgs, fun j hj => ?_⟩⟩
  have hj2 : j < n := by simpa [hln] using hj
  have hcs : j < cur.size := by omega
  have := HCUR.out j hj2
  by_cases e : j = i
  · subst e
    simp [World.cell?, hcur5, hcs, List.getD, show j < st.length by omega]
  · have e' : i ≠ j := fun h => e h.symm
    simp [World.cell?, hcur5, e', this, List.getD]

def RchPost (l : List Nat) (c : Nat) (w : World) (e : Ending) (w' : World) : Prop :=
  ∃ v, e = .returned (.tuple #[v, .int .i64 c]) ∧ IntsAt w' v (ints l) ∧ Below w.heap.size w w'

set_option maxHeartbeats 1600000 in
/-- The end of Choices: the starts and the finishes, appended to an empty slice. -/
theorem rchoices_any (rv : Value) (n : Nat) (es : List (Int × Int)) (lim : Int) (st : List Int) (w : World) (h : RwM w rv n es lim st) (hn : n ≤ 512) (hes : ∀ e ∈ es, 0 ≤ e.1 ∧ e.1 < n ∧ 0 ≤ e.2 ∧ e.2 < n) :
    Calls Tryd.prog 64 #[rv] w (RchPost (choicesL n es lim st) (startsL n es lim st).length w) := by
  obtain ⟨i3, hi3, hz3, hs3, hy3⟩ := info_parts Tryd.info3
  have RU := fun w' hb => rrunning_any rv n es lim st w' (h.mono hb) hn
  have RD := fun w' hb => rReady_any rv n es lim st w' (h.mono hb) hn hes
  obtain ⟨ae, ce, sa, cs, rfl, hed, hst, hln⟩ := h
  have l1 := startsL_len n es lim st
  have l2 := withL_len n es st 1
  have hx : ∀ o, (w.alloc (.cells #[.slice ae es.length ce, .int .i64 lim, .slice sa n cs] 58)).cell? ⟨w.heap.size, o, none⟩ = (#[Value.slice ae es.length ce, .int .i64 lim, .slice sa n cs])[o]? := fun o => cell_of_row _ _ _ _ _ _ (heap_alloc_new _ _)
  have hxs : w.heap.size < (w.alloc (.cells #[.slice ae es.length ce, .int .i64 lim, .slice sa n cs] 58)).heap.size := by simp
  have hb0 : Below w.heap.size w (w.alloc (.cells #[.slice ae es.length ce, .int .i64 lim, .slice sa n cs] 58)) := (Below.refl _ _).alloc (Nat.le_refl _) _
  obtain ⟨w0, hw0⟩ : ∃ w0, w0 = w.alloc (.cells #[.slice ae es.length ce, .int .i64 lim, .slice sa n cs] 58) := ⟨_, rfl⟩
  have hx0 : w0.cell? ⟨w.heap.size, 0, none⟩ = some (.slice ae es.length ce) := by rw [hw0]; exact hx 0
  have hx1 : w0.cell? ⟨w.heap.size, 1, none⟩ = some (.int .i64 lim) := by rw [hw0]; exact hx 1
  have hx2 : w0.cell? ⟨w.heap.size, 2, none⟩ = some (.slice sa n cs) := by rw [hw0]; exact hx 2
  have hchs : Hid (choicesL n es lim st = startsL n es lim st ++ withL n es st 1) := rfl
  have hsl : Hid (startsL n es lim st = if lim ≤ (withL n es st 1).length then [] else withL n es st 0) := rfl
  have RU0 := RU _ hb0
  rw [← hw0] at RU0
  have HRD := Lib.hid RD
  generalize choicesL n es lim st = cl at hchs ⊢
  generalize startsL n es lim st = sl at hchs hsl l1 ⊢
  generalize withL n es st 1 = rl at RU0 hsl hchs l2
  rw [← hw0] at hxs hb0
  clear hed hst RU RD hx
  go_enter Tryd.func64, Tryd.ntmps64
  go_wp2_with (simp only [← hw0])
  refine RU0.mono ?_
  rintro e w1 ⟨v1, rfl, hrv, hb1⟩
  have hB1 : Below w.heap.size w w1 := hb0.trans (hb1.mono hb0.size)
  have y0 := (hb1.cell (p := ⟨w.heap.size, 0, none⟩) hxs).trans hx0
  have y1 := (hb1.cell (p := ⟨w.heap.size, 1, none⟩) hxs).trans hx1
  have y2 := (hb1.cell (p := ⟨w.heap.size, 2, none⟩) hxs).trans hx2
  have hrv0 := hrv
  obtain ⟨aor, capr, her, _, _⟩ := hrv.val
  rw [ints_len] at her
  subst her
  clear RU0 hx0 hx1 hx2 hb1 hw0 hb0 hxs
  by_cases hl : lim ≤ rl.length
  · have hs0 : Hid (sl = []) := by rw [Hid, hsl.out, if_pos hl]
    have hc0 : Hid (cl = rl) := by rw [Hid, hchs.out, hs0.out, List.nil_append]
    clear hsl hchs HRD
    have hl2 : ¬ (rl.length : Int) < lim := by omega
    have hnv : IntsAt w1 (.slice none 0 0) (ints ([] : List Nat)) := IntsAt.nil _
    go_upto_region 5 with fail
    have hmade := World.ownsRow_made (e := 3) (size := 1) w1 #[] 0 (Nat.le_refl _) (by unfold maxLen; omega) rfl
    have hBm : Below w1.heap.size w1 (w1.alloc (.cells #[] 3)) := (Below.refl _ _).alloc (Nat.le_refl _) _
    have hvm := hnv.mono hBm
    have hrm := hrv.mono hBm
    obtain ⟨Wm, hWm⟩ : ∃ Wm, Wm = w1.alloc (.cells #[] 3) := ⟨_, rfl⟩
    rw [← hWm] at hmade hBm hvm hrm
    have hwl : w1.heap.size + 1 = Wm.heap.size := by rw [hWm]; simp
    clear hnv hrv
    go_wp2_with (simp only [← hWm]; at_builtin; refine wpList_append_ints _ rfl (.tmp 15) (.tmp 16) rfl w1.heap.size _ 0 [] rfl hmade _ (ints ([] : List Nat)) rfl hvm ?b1 ?b2 ?_)
    case b1 => simp [ints_len]
    case b2 => omega
    intro v3 w3 hown3 hgrow3 _
    rw [ints_len] at hown3
    have hb3 : Below w1.heap.size w1 w3 := hBm.grown hgrow3 hBm.size (fun k e => (hmade.lt _ e).1)
    have hrm3 := hrv0.mono hb3
    clear hmade hvm hrm hBm hgrow3 hWm hwl
    go_wp2_with (at_builtin; refine wpList_append_ints _ rfl (.tmp 17) (.tmp 18) rfl w1.heap.size _ (0 + ([] : List Nat).length) _ rfl hown3 _ (ints rl) rfl hrm3 ?b3 ?b4 ?_)
    case b3 => rw [ints_len]; simp only [List.length_nil]; omega
    case b4 => have := hb3.size; omega
    intro v4 w4 hown4 hgrow4 _
    rw [ints_len] at hown4
    have hb4 : Below w1.heap.size w1 w4 := hb3.grown hgrow4 hb3.size (fun k e => (hown3.lt _ e).1)
    clear hown3 hgrow4 hrm3
    go_wp2
    go_ret2
    exact ⟨v4, by rw [hs0.out]; rfl, by rw [hc0.out]; exact ints_of_own (base := w1.heap.size) (by rw [ints_len]; simpa [ints] using hown4) (by rw [ints_len]; omega), hB1.trans (hb4.mono hB1.size)⟩
  · have hs0 : Hid (sl = withL n es st 0) := by rw [Hid, hsl.out, if_neg hl]
    have hc0 : Hid (cl = withL n es st 0 ++ rl) := by rw [Hid, hchs.out, hs0.out]
    have RE := HRD.out w1 hB1
    have l3 := withL_len n es st 0
    generalize withL n es st 0 = ll at RE hs0 hc0 l3
    have hl2 : (rl.length : Int) < lim := by omega
    clear hsl hchs HRD l1
    go_wp2_with fail
    refine RE.mono ?_
    rintro e w2 ⟨v2, rfl, hlv, hb2⟩
    obtain ⟨aol, capl, hel, _, _⟩ := hlv.val
    rw [ints_len] at hel
    subst hel
    have hB2 : Below w.heap.size w w2 := hB1.trans (hb2.mono hB1.size)
    replace hrv := hrv.mono hb2
    replace hrv0 := hrv
    clear RE hb2 y0 y1 y2 hB1
    go_upto_region 5 with fail
    have hmade := World.ownsRow_made (e := 3) (size := 1) w2 #[] 0 (Nat.le_refl _) (by unfold maxLen; omega) rfl
    have hBm : Below w2.heap.size w2 (w2.alloc (.cells #[] 3)) := (Below.refl _ _).alloc (Nat.le_refl _) _
    have hvm := hlv.mono hBm
    have hrm := hrv.mono hBm
    obtain ⟨Wm, hWm⟩ : ∃ Wm, Wm = w2.alloc (.cells #[] 3) := ⟨_, rfl⟩
    rw [← hWm] at hmade hBm hvm hrm
    have hwl : w2.heap.size + 1 = Wm.heap.size := by rw [hWm]; simp
    clear hlv hrv
    go_wp2_with (simp only [← hWm]; at_builtin; refine wpList_append_ints _ rfl (.tmp 15) (.tmp 16) rfl w2.heap.size _ 0 [] rfl hmade _ (ints ll) rfl hvm ?b1 ?b2 ?_)
    case b1 => rw [ints_len]; omega
    case b2 => omega
    intro v3 w3 hown3 hgrow3 _
    rw [ints_len] at hown3
    have hb3 : Below w2.heap.size w2 w3 := hBm.grown hgrow3 hBm.size (fun k e => (hmade.lt _ e).1)
    have hrm3 := hrv0.mono hb3
    clear hmade hvm hrm hBm hgrow3 hWm hwl
    go_wp2_with (at_builtin; refine wpList_append_ints _ rfl (.tmp 17) (.tmp 18) rfl w2.heap.size _ (0 + ll.length) _ rfl hown3 _ (ints rl) rfl hrm3 ?b3 ?b4 ?_)
    case b3 => rw [ints_len]; omega
    case b4 => have := hb3.size; omega
    intro v4 w4 hown4 hgrow4 _
    rw [ints_len] at hown4
    have hb4 : Below w2.heap.size w2 w4 := hb3.grown hgrow4 hb3.size (fun k e => (hown3.lt _ e).1)
    clear hown3 hgrow4 hrm3
    go_wp2
    go_ret2
    exact ⟨v4, by rw [hs0.out]; rfl, by rw [hc0.out]; exact ints_of_own (base := w2.heap.size) (by rw [ints_len, List.length_append]; simpa [ints] using hown4) (by rw [ints_len, List.length_append]; omega), hB2.trans (hb4.mono hB2.size)⟩

end Go.Proofs.YtelioljmhlabjaaDoor
