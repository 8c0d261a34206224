/- The walk of the reference's New. -/
import Derived.Test.YtelioljmhlabjaaDoorRw4
import Derived.Test.YtelioljmhlabjaaDoorNew
import Derived.Test.YtelioljmhlabjaaDoorG3
import Derived.Test.YtelioljmhlabjaaDoorG2
import Derived.Test.YtelioljmhlabjaaDoorOMem
namespace Go.Proofs.YtelioljmhlabjaaDoor
open Go.RowKit
set_option maxRecDepth 100000

theorem intsNil (w : World) : IntsAt w (.slice none 0 0) [] := IntsAt.nil w

set_option maxHeartbeats 1600000 in
theorem rnew_bad (v : Value) (es : List (Int × Int)) (n : Int) (lim : Int) (w : World) (h : PairsAt w v es) (hE : newE n es lim ≠ 0) :
    Calls Tryd.prog 36 #[.int .i64 n, v, .int .i64 lim] w fun e w' => e = .returned (.tuple #[.agg #[.slice none 0 0, .int .i64 0, .slice none 0 0], .int .i64 (newE n es lim)]) ∧ Below w.heap.size w w' := by
  have hb0 : Below w.heap.size w (w.alloc (.cells #[.slice none 0 0, .int .i64 0, .slice none 0 0] 58)) := (Below.refl _ _).alloc (Nat.le_refl _) _
  have hrx : (w.alloc (.cells #[.slice none 0 0, .int .i64 0, .slice none 0 0] 58)).heap[w.heap.size]? = some (.cells #[.slice none 0 0, .int .i64 0, .slice none 0 0] 58 (0, 0)) := heap_alloc_new _ _
  obtain ⟨w0, hw0⟩ : ∃ w0, w0 = w.alloc (.cells #[.slice none 0 0, .int .i64 0, .slice none 0 0] 58) := ⟨_, rfl⟩
  have hs0 : w0.heap.size = w.heap.size + 1 := by rw [hw0]; simp
  rw [← hw0] at hb0 hrx
  have RL := rlook_any v (.slice none 0 0) es [] n w0 (h.mono hb0) (intsNil _)
  by_cases hL : lookE n es [] = 0
  · obtain ⟨h1, h2, _, h4, _⟩ := lookE_zero hL
    obtain ⟨m, rfl⟩ := Int.eq_ofNat_of_zero_le h1
    rw [hL] at RL
    have RO := rorder_any v es m w0 (h.mono hb0) (by omega) h4
    have hord : orderR m es = if ((kahn m es).length : Int) < m then ([], 130) else ((kahn m es).map (fun i : Nat => (i : Int)), 0) := by unfold orderR; rw [if_pos hL]; simp
    have hkl : (kahn m es).length ≤ 512 := by have := (kahn_ok m es).len; omega
    by_cases hk : ((kahn m es).length : Int) < m
    · have hr : newE m es lim = 130 := by
        unfold newE
        rw [hord, if_pos hk]
        rfl
      rw [hr]
      clear hr hE hord
      generalize kahn m es = kl at RO hk hkl
      go_enter Tryd.func36, Tryd.ntmps36
      go_wp2_with (simp only [← hw0])
      refine RL.mono ?_
      rintro e w1 ⟨rfl, rfl⟩
      clear RL hw0
      go_wp2_with fail
      refine RO.mono ?_
      rintro e w2 ⟨v2, rfl, hv2, hb2⟩
      obtain ⟨ao2, cap2, he2, _, _⟩ := hv2.val
      rw [List.length_map] at he2
      subst he2
      have hB2 := hb0.trans (hb2.mono hb0.size)
      have hr2 := (hb2.block w.heap.size (by omega)).trans hrx
      clear RO hv2 hb2
      obtain ⟨z0, z1, z2, f0, f1, f2⟩ := box3 hr2
      obtain ⟨w6, hw6, g6, _, _, g9⟩ := set3 hr2 (.slice none 0 0) (.int .i64 0) (.slice none 0 0)
      have hB6 := g9 _ _ (Nat.le_refl _) hB2
      obtain ⟨u0, u1, u2, _⟩ := box3 g6
      clear hr2 hB2 g9 g6 hrx hb0
      go_wp2
      rw [← hw6]
      refine bodyPost_ret (v := .tuple #[.agg #[.slice none 0 0, .int .i64 0, .slice none 0 0], .int .i64 130]) (by simp [results, go_sem, u0, u1, u2]) rfl ?_
      exact ⟨rfl, hB6⟩
    · have hlim : lim < 1 ∨ 16 < lim := by
        apply Classical.byContradiction
        intro hh
        apply hE
        unfold newE
        rw [hord, if_neg hk, if_neg (by simp), if_neg hh]
      have hr : newE m es lim = 1 := by
        unfold newE
        rw [hord, if_neg hk, if_neg (by simp), if_pos hlim]
      rw [hr]
      clear hr hE hord
      generalize kahn m es = kl at RO hk hkl
      rcases hlim with hlim | hlim
      · go_enter Tryd.func36, Tryd.ntmps36
        go_wp2_with (simp only [← hw0])
        refine RL.mono ?_
        rintro e w1 ⟨rfl, rfl⟩
        clear RL hw0
        go_wp2_with fail
        refine RO.mono ?_
        rintro e w2 ⟨v2, rfl, hv2, hb2⟩
        obtain ⟨ao2, cap2, he2, _, _⟩ := hv2.val
        rw [List.length_map] at he2
        subst he2
        have hB2 := hb0.trans (hb2.mono hb0.size)
        have hr2 := (hb2.block w.heap.size (by omega)).trans hrx
        clear RO hv2 hb2
        obtain ⟨z0, z1, z2, f0, f1, f2⟩ := box3 hr2
        obtain ⟨w6, hw6, g6, _, _, g9⟩ := set3 hr2 (.slice none 0 0) (.int .i64 0) (.slice none 0 0)
        have hB6 := g9 _ _ (Nat.le_refl _) hB2
        obtain ⟨u0, u1, u2, _⟩ := box3 g6
        clear hr2 hB2 g9 g6 hrx hb0
        go_wp2
        rw [← hw6]
        refine bodyPost_ret (v := .tuple #[.agg #[.slice none 0 0, .int .i64 0, .slice none 0 0], .int .i64 1]) (by simp [results, go_sem, u0, u1, u2]) rfl ?_
        exact ⟨rfl, hB6⟩
      · have hlim2 : ¬ lim < 1 := by omega
        go_enter Tryd.func36, Tryd.ntmps36
        go_wp2_with (simp only [← hw0])
        refine RL.mono ?_
        rintro e w1 ⟨rfl, rfl⟩
        clear RL hw0
        go_wp2_with fail
        refine RO.mono ?_
        rintro e w2 ⟨v2, rfl, hv2, hb2⟩
        obtain ⟨ao2, cap2, he2, _, _⟩ := hv2.val
        rw [List.length_map] at he2
        subst he2
        have hB2 := hb0.trans (hb2.mono hb0.size)
        have hr2 := (hb2.block w.heap.size (by omega)).trans hrx
        clear RO hv2 hb2
        obtain ⟨z0, z1, z2, f0, f1, f2⟩ := box3 hr2
        obtain ⟨w6, hw6, g6, _, _, g9⟩ := set3 hr2 (.slice none 0 0) (.int .i64 0) (.slice none 0 0)
        have hB6 := g9 _ _ (Nat.le_refl _) hB2
        obtain ⟨u0, u1, u2, _⟩ := box3 g6
        clear hr2 hB2 g9 g6 hrx hb0
        go_wp2
        rw [← hw6]
        refine bodyPost_ret (v := .tuple #[.agg #[.slice none 0 0, .int .i64 0, .slice none 0 0], .int .i64 1]) (by simp [results, go_sem, u0, u1, u2]) rfl ?_
        exact ⟨rfl, hB6⟩
  · have hr : newE n es lim = lookE n es [] := by
      unfold newE orderR
      rw [if_neg hL, if_pos (by exact hL)]
    rw [hr]
    have hne : (lookE n es [] != 0) = true := by simpa using hL
    clear hE hr
    generalize lookE n es [] = c at RL hne hL
    go_enter Tryd.func36, Tryd.ntmps36
    go_wp2_with (simp only [← hw0])
    refine RL.mono ?_
    rintro e w1 ⟨rfl, rfl⟩
    have hr2 := hrx
    have hB2 := hb0
    clear RL hw0
    obtain ⟨z0, z1, z2, f0, f1, f2⟩ := box3 hr2
    obtain ⟨w6, hw6, g6, _, _, g9⟩ := set3 hr2 (.slice none 0 0) (.int .i64 0) (.slice none 0 0)
    have hB6 := g9 _ _ (Nat.le_refl _) hB2
    obtain ⟨u0, u1, u2, _⟩ := box3 g6
    clear hr2 hB2 g9 g6 hrx hb0
    go_wp2
    rw [← hw6]
    refine bodyPost_ret (v := .tuple #[.agg #[.slice none 0 0, .int .i64 0, .slice none 0 0], .int .i64 c]) (by simp [results, go_sem, u0, u1, u2]) rfl ?_
    exact ⟨rfl, hB6⟩

def RNewPost (ae : Option Addr) (ce m len : Nat) (lim : Int) (w : World) (e : Ending) (w' : World) : Prop :=
  ∃ sa cs, e = .returned (.tuple #[.agg #[.slice ae len ce, .int .i64 lim, .slice sa m cs], .int .i64 0]) ∧ IntsAt w' (.slice sa m cs) (List.replicate m 0) ∧ (∀ a, sa = some a → w.heap.size ≤ a.block ∧ a.block < w'.heap.size) ∧ Below w.heap.size w w'

set_option maxHeartbeats 1600000 in
theorem rnew_good (ae : Option Addr) (ce : Nat) (es : List (Int × Int)) (m : Nat) (lim : Int) (w : World) (h : PairsAt w (.slice ae es.length ce) es) (hE : newE m es lim = 0) :
    Calls Tryd.prog 36 #[.int .i64 m, .slice ae es.length ce, .int .i64 lim] w (RNewPost ae ce m es.length lim w) := by
  obtain ⟨i0, hi, hz0, hz1, hz2⟩ := info_parts Tryd.info3
  have hb0 : Below w.heap.size w (w.alloc (.cells #[.slice none 0 0, .int .i64 0, .slice none 0 0] 58)) := (Below.refl _ _).alloc (Nat.le_refl _) _
  have hrx : (w.alloc (.cells #[.slice none 0 0, .int .i64 0, .slice none 0 0] 58)).heap[w.heap.size]? = some (.cells #[.slice none 0 0, .int .i64 0, .slice none 0 0] 58 (0, 0)) := heap_alloc_new _ _
  obtain ⟨w0, hw0⟩ : ∃ w0, w0 = w.alloc (.cells #[.slice none 0 0, .int .i64 0, .slice none 0 0] 58) := ⟨_, rfl⟩
  have hs0 : w0.heap.size = w.heap.size + 1 := by rw [hw0]; simp
  rw [← hw0] at hb0 hrx
  have RL := rlook_any _ (.slice none 0 0) es [] m w0 (h.mono hb0) (intsNil _)
  have ho : (orderR m es).2 = 0 := by
    apply Classical.byContradiction
    intro hh
    unfold newE at hE
    rw [if_pos hh] at hE
    exact hh hE
  have hl : 1 ≤ lim ∧ lim ≤ 16 := by
    unfold newE at hE
    rw [if_neg (by rw [ho]; simp)] at hE
    apply Classical.byContradiction
    intro hh
    rw [if_pos (by omega)] at hE
    exact absurd hE (by decide)
  obtain ⟨m', hm', hm, hes, hkn, _⟩ := orderR_zero ho
  obtain rfl : m = m' := by omega
  have hL : lookE m es [] = 0 := by
    apply Classical.byContradiction
    intro hh
    unfold orderR at ho
    rw [if_neg hh] at ho
    exact hh ho
  rw [hL] at RL
  have RO := rorder_any _ es m w0 (h.mono hb0) hm hes
  have hkl : ¬ ((kahn m es).length : Int) < m := by
    intro hh
    unfold orderR at ho
    rw [if_pos hL, if_pos (by simpa using hh)] at ho
    exact absurd ho (by decide)
  have hkl2 := (kahn_ok m es).len
  have hls1 : ¬ lim < 1 := by omega
  have hls2 : ¬ 16 < lim := by omega
  clear ho hm' hL hkn
  generalize kahn m es = kl at RO hkl hkl2
  go_enter Tryd.func36, Tryd.ntmps36
  go_wp2_with (simp only [← hw0])
  refine RL.mono ?_
  rintro e w1 ⟨rfl, rfl⟩
  clear RL hw0
  go_wp2_with fail
  refine RO.mono ?_
  rintro e w2 ⟨v2, rfl, hv2, hb2⟩
  obtain ⟨ao2, cap2, he2, _, _⟩ := hv2.val
  rw [List.length_map] at he2
  subst he2
  have hB2 := hb0.trans (hb2.mono hb0.size)
  have hr2 := (hb2.block w.heap.size (by omega)).trans hrx
  clear RO hv2 hb2
  obtain ⟨W, hW⟩ : ∃ W, W = w2 := ⟨_, rfl⟩
  subst hW
  go_wp2_with (at_make; refine wpList_make_full _ rfl _ _ 26 rfl W.heap.size 3 i0 (.int .i64 0) 1 Tryd.underlying26 hi hz0 hz1 _ _ _ _ m rfl rfl rfl rfl (by rw [hz2]; omega) (by unfold maxLen; omega) (Nat.le_refl _) ?_)
  intro w3 hown hgrow
  rw [made_ints] at hown
  have hia : IntsAt w3 (.slice (some ⟨W.heap.size, 0, none⟩) m m) (List.replicate m 0) := ints_of_own (by simpa using hown) (by simp; omega)
  have hb3 : Below w.heap.size w w3 := hB2.grown hgrow hB2.size (fun k e => by cases e)
  have hWs : w.heap.size < W.heap.size := (Array.getElem?_eq_some_iff.1 hr2).1
  have hr3 : w3.heap[w.heap.size]? = some (.cells #[.slice none 0 0, .int .i64 0, .slice none 0 0] 58 (0, 0)) := (hgrow.block _ hWs (by simp)).trans hr2
  obtain ⟨z0, z1, z2, f0, f1, f2⟩ := box3 hr3
  obtain ⟨w6, hw6, g6, g7, g8, g9⟩ := set3 hr3 (.slice ae es.length ce) (.int .i64 lim) (.slice (some ⟨W.heap.size, 0, none⟩) m m)
  have hB6 := g9 _ _ (Nat.le_refl _) hb3
  have hz6 : w6.heap.size = w3.heap.size := g7
  have hz3 : W.heap.size < w3.heap.size := (hown.lt _ rfl).2
  have hn6 := hia.keep_but (q := w.heap.size) g7 g8 (fun a ha => by cases ha; exact hWs)
  obtain ⟨u0, u1, u2, _⟩ := box3 g6
  clear hown hgrow hia hb3 hr3 g7 g8 g9 g6 hr2 hB2 hrx hb0
  go_wp2
  rw [← hw6]
  refine bodyPost_ret (v := .tuple #[.agg #[.slice ae es.length ce, .int .i64 lim, .slice (some ⟨W.heap.size, 0, none⟩) m m], .int .i64 0]) (by simp [results, go_sem, u0, u1, u2]) rfl ?_
  exact ⟨_, m, rfl, hn6, fun a ha => by cases ha; exact ⟨by show _ ≤ W.heap.size; omega, by show W.heap.size < _; omega⟩, hB6⟩

end Go.Proofs.YtelioljmhlabjaaDoor
