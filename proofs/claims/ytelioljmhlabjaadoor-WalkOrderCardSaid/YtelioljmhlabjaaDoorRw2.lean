/- Walks of the reference's Running, Ready, set. -/
import Derived.Test.YtelioljmhlabjaaDoorRw1
namespace Go.Proofs.YtelioljmhlabjaaDoor
open Go.RowKit
set_option maxRecDepth 100000

theorem withB_run (es : List (Int × Int)) (st : List Int) (i : Nat) : withB es st 1 i = (st.getD i 0 == 1) := by
  unfold withB
  have : ((1 : Int) == 0) = false := rfl
  rw [this]
  simp
theorem filter_step (p : Nat → Bool) (i : Nat) (z : Bool) (h : p i = z) : (List.range (i + 1)).filter p = (List.range i).filter p ++ if z = true then [i] else [] := by
  rw [List.range_succ, List.filter_append]
  congr 1
  subst h
  by_cases hw : p i = true <;> simp [hw]

set_option maxHeartbeats 1600000 in
theorem rrunning_any (rv : Value) (n : Nat) (es : List (Int × Int)) (lim : Int) (st : List Int) (w : World) (h : RwM w rv n es lim st) (hn : n ≤ 512) :
    Calls Tryd.prog 62 #[rv] w (IntsPost (withL n es st 1) w) := by
  obtain ⟨i3, hi3, hz3, hs3, hy3⟩ := info_parts Tryd.info3
  obtain ⟨ae, ce, sa, cs, rfl, hed, hst, hln⟩ := h
  have HST := Lib.hid hst
  have hx2 : (w.alloc (.cells #[.slice ae es.length ce, .int .i64 lim, .slice sa n cs] 58)).cell? ⟨w.heap.size, 2, none⟩ = some (.slice sa n cs) := cell_of_row _ _ _ _ _ _ (heap_alloc_new _ _)
  have hxs : w.heap.size < (w.alloc (.cells #[.slice ae es.length ce, .int .i64 lim, .slice sa n cs] 58)).heap.size := by simp
  have hb0 : Below w.heap.size w (w.alloc (.cells #[.slice ae es.length ce, .int .i64 lim, .slice sa n cs] 58)) := (Below.refl _ _).alloc (Nat.le_refl _) _
  clear hed hst
  go_enter Tryd.func62, Tryd.ntmps62
  go_wp2
  obtain ⟨w0, hw0⟩ : ∃ w0, w0 = w.alloc (.cells #[.slice ae es.length ce, .int .i64 lim, .slice sa n cs] 58) := ⟨_, rfl⟩
  rw [← hw0] at hx2 hxs hb0 ⊢
  clear hw0
  go_loopg [3, 8] n (fun g v3 v8 wr => ∃ i : Nat, i + g = n ∧ v8 = .int .i64 i ∧ wr.ownsRow w0.heap.size 3 1 v3 (((List.range i).filter (withB es st 1)).length) ((ints ((List.range i).filter (withB es st 1))).map (Value.int .i64)) ∧ Below w0.heap.size w0 wr)
  case atStart => exact ⟨0, by omega, rfl, World.ownsRow_nil _ _ _ _, Below.refl _ _⟩
  case round =>
    obtain ⟨i, hig, rfl, hown, hb⟩ := hrel
    have hB : Below w.heap.size w wr := hb0.trans (hb.mono hb0.size)
    have hfl : ((List.range i).filter (withB es st 1)).length ≤ i := Nat.le_trans (List.length_filter_le _ _) (by simp)
    cases gk with
    | zero =>
      have hi : i = n := by omega
      have hin : ¬ (i : Int) < (n : Int) := by omega
      rw [hi] at hown
      have hlen := withL_len n es st 1
      clear hi hfl hb
      go_wp2
      go_ret
      exact ⟨_, rfl, ints_of_own (by rw [ints_len]; exact hown) (by rw [ints_len]; omega), hB⟩
    | succ g =>
      have hi : i < n := by omega
      have hin : (i : Int) < (n : Int) := by omega
      have c2 := (hb.cell (p := ⟨w.heap.size, 2, none⟩) hxs).trans hx2
      obtain ⟨b2, off2, rfl, hb2l, hci⟩ := HST.out.get (i := i) (by rw [hln]; exact hi)
      have cs2 := (hB.cell (p := ⟨b2, off2 + i, none⟩) hb2l).trans hci
      have hfs : Hid ((List.range (i + 1)).filter (withB es st 1) = (List.range i).filter (withB es st 1) ++ if (st.getD i 0 == 1) = true then [i] else []) := filter_step _ i _ (withB_run es st i)
      generalize (List.range i).filter (withB es st 1) = l at hown hfl hfs
      generalize st.getD i 0 = x at cs2 hfs
      clear hci
      by_cases e1 : x = 1
      · have t1 : (x == 1) = true := by simpa using e1
        have hst : Hid ((List.range (i + 1)).filter (withB es st 1) = l ++ [i]) := by rw [Hid, hfs.out, if_pos t1]
        clear e1 hfs
        go_wp2_with (at_builtin; refine wpList_append_fresh _ rfl (.tmp 17) (.tmp 19) 26 rfl w0.heap.size 3 i3 _ 1 8 Tryd.underlying26 hi3 hz3 hs3 hy3 rfl (by decide) _ _ _ rfl (hown.alloc _) ⟨wr.heap.size, 0, none⟩ 1 1 [.int .i64 i] rfl rfl ?a1 ?a2 ?a3 ?a4 ?a5 ?_)
        case a1 => exact cell_one_new _ _ _
        case a2 => intro u hu; simp at hu; subst hu; rfl
        case a3 => unfold maxLen; omega
        case a4 => omega
        case a5 => have := hb.size; simp; omega
        intro v' w1 hown1 hgrow1 _
        have hown2 : w1.ownsRow w0.heap.size 3 1 v' (l ++ [i]).length ((ints (l ++ [i])).map (Value.int .i64)) := by
          simpa [ints] using hown1
        have hb1 : Below w0.heap.size w0 w1 := (hb.alloc hb.size _).grown hgrow1 (by have := hb.size; simp; omega) (fun k e => (hown.lt _ e).1)
        clear hown1 hgrow1 hown hb hB c2 cs2
        go_wp2
        go_roundg g
        case measure => omega
        case rel => exact ⟨i + 1, by omega, by go_num, by rw [hst.out]; exact hown2, hb1⟩
      · have t1 : (x == 1) = false := by simpa using e1
        have hst : Hid ((List.range (i + 1)).filter (withB es st 1) = l) := by rw [Hid, hfs.out, if_neg (by rw [t1]; simp), List.append_nil]
        clear e1 hfs
        go_wp2
        go_roundg g
        case measure => omega
        case rel => exact ⟨i + 1, by omega, by go_num, by rw [hst.out]; exact hown, hb⟩

set_option maxHeartbeats 1600000 in
theorem rReady_any (rv : Value) (n : Nat) (es : List (Int × Int)) (lim : Int) (st : List Int) (w : World) (h : RwM w rv n es lim st) (hn : n ≤ 512) (hes : ∀ e ∈ es, 0 ≤ e.1 ∧ e.1 < n ∧ 0 ≤ e.2 ∧ e.2 < n) :
    Calls Tryd.prog 66 #[rv] w (IntsPost (withL n es st 0) w) := by
  obtain ⟨i3, hi3, hz3, hs3, hy3⟩ := info_parts Tryd.info3
  have RD : Hid (∀ (i : Nat) (w' : World), i < n → Below w.heap.size w w' → Calls Tryd.prog 61 #[rv, .int .i64 i] w' fun e w' => e = .returned (.bool (withB es st 0 i)) ∧ _) := fun i w' hi hb => rready_any rv n es lim st i w' (h.mono hb) hn hi hes
  obtain ⟨ae, ce, sa, cs, rfl, hed, hst, hln⟩ := h
  have hx : ∀ o, (w.alloc (.cells #[.slice ae es.length ce, .int .i64 lim, .slice sa n cs] 58)).cell? ⟨w.heap.size, o, none⟩ = (#[Value.slice ae es.length ce, .int .i64 lim, .slice sa n cs])[o]? := fun o => cell_of_row _ _ _ _ _ _ (heap_alloc_new _ _)
  have hxs : w.heap.size < (w.alloc (.cells #[.slice ae es.length ce, .int .i64 lim, .slice sa n cs] 58)).heap.size := by simp
  have hb0 : Below w.heap.size w (w.alloc (.cells #[.slice ae es.length ce, .int .i64 lim, .slice sa n cs] 58)) := (Below.refl _ _).alloc (Nat.le_refl _) _
  clear hed hst
  go_enter Tryd.func66, Tryd.ntmps66
  go_wp2
  obtain ⟨w0, hw0⟩ : ∃ w0, w0 = w.alloc (.cells #[.slice ae es.length ce, .int .i64 lim, .slice sa n cs] 58) := ⟨_, rfl⟩
  rw [← hw0] at hxs hb0 ⊢
  have hx0 : w0.cell? ⟨w.heap.size, 0, none⟩ = some (.slice ae es.length ce) := by rw [hw0]; exact hx 0
  have hx1 : w0.cell? ⟨w.heap.size, 1, none⟩ = some (.int .i64 lim) := by rw [hw0]; exact hx 1
  have hx2 : w0.cell? ⟨w.heap.size, 2, none⟩ = some (.slice sa n cs) := by rw [hw0]; exact hx 2
  clear hw0 hx
  go_loopg [3, 8] n (fun g v3 v8 wr => ∃ i : Nat, i + g = n ∧ v8 = .int .i64 i ∧ wr.ownsRow w0.heap.size 3 1 v3 (((List.range i).filter (withB es st 0)).length) ((ints ((List.range i).filter (withB es st 0))).map (Value.int .i64)) ∧ Below w0.heap.size w0 wr)
  case atStart => exact ⟨0, by omega, rfl, World.ownsRow_nil _ _ _ _, Below.refl _ _⟩
  case round =>
    obtain ⟨i, hig, rfl, hown, hb⟩ := hrel
    have hB : Below w.heap.size w wr := hb0.trans (hb.mono hb0.size)
    have hfl : ((List.range i).filter (withB es st 0)).length ≤ i := Nat.le_trans (List.length_filter_le _ _) (by simp)
    cases gk with
    | zero =>
      have hi : i = n := by omega
      have hin : ¬ (i : Int) < (n : Int) := by omega
      rw [hi] at hown
      have hlen := withL_len n es st 0
      clear hi hfl hb
      go_wp2
      go_ret
      exact ⟨_, rfl, ints_of_own (by rw [ints_len]; exact hown) (by rw [ints_len]; omega), hB⟩
    | succ g =>
      have hi : i < n := by omega
      have hin : (i : Int) < (n : Int) := by omega
      have c0 := (hb.cell (p := ⟨w.heap.size, 0, none⟩) hxs).trans hx0
      have c1 := (hb.cell (p := ⟨w.heap.size, 1, none⟩) hxs).trans hx1
      have c2 := (hb.cell (p := ⟨w.heap.size, 2, none⟩) hxs).trans hx2
      have R1 := RD.out i wr hi hB
      have hfs : Hid ((List.range (i + 1)).filter (withB es st 0) = (List.range i).filter (withB es st 0) ++ if withB es st 0 i = true then [i] else []) := filter_step _ i _ rfl
      generalize (List.range i).filter (withB es st 0) = l at hown hfl hfs
      obtain ⟨z, hz⟩ : ∃ z, z = withB es st 0 i := ⟨_, rfl⟩
      rw [← hz] at R1 hfs
      clear hz
      go_wp2_with fail
      refine R1.mono ?_
      rintro e w1 ⟨rfl, hbn⟩
      have hown1 := own_below hown hbn
      have hb1 : Below w0.heap.size w0 w1 := hb.trans (hbn.mono hb.size)
      clear hown hb hbn hB c0 c1 c2 R1
      cases z with
      | true =>
        have hst : Hid ((List.range (i + 1)).filter (withB es st 0) = l ++ [i]) := by rw [Hid, hfs.out, if_pos rfl]
        clear hfs
        go_wp2_with (at_builtin; refine wpList_append_fresh _ rfl (.tmp 14) (.tmp 16) 26 rfl w0.heap.size 3 i3 _ 1 8 Tryd.underlying26 hi3 hz3 hs3 hy3 rfl (by decide) _ _ _ rfl (hown1.alloc _) ⟨w1.heap.size, 0, none⟩ 1 1 [.int .i64 i] rfl rfl ?a1 ?a2 ?a3 ?a4 ?a5 ?_)
        case a1 => exact cell_one_new _ _ _
        case a2 => intro u hu; simp at hu; subst hu; rfl
        case a3 => unfold maxLen; omega
        case a4 => omega
        case a5 => have := hb1.size; simp; omega
        intro v' w2 hown2 hgrow2 _
        have hown3 : w2.ownsRow w0.heap.size 3 1 v' (l ++ [i]).length ((ints (l ++ [i])).map (Value.int .i64)) := by
          simpa [ints] using hown2
        have hb2 : Below w0.heap.size w0 w2 := (hb1.alloc hb1.size _).grown hgrow2 (by have := hb1.size; simp; omega) (fun k e => (hown1.lt _ e).1)
        clear hown2 hgrow2 hown1 hb1
        go_wp2
        go_roundg g
        case measure => omega
        case rel => exact ⟨i + 1, by omega, by go_num, by rw [hst.out]; exact hown3, hb2⟩
      | false =>
        have hst : Hid ((List.range (i + 1)).filter (withB es st 0) = l) := by rw [Hid, hfs.out, if_neg (by simp), List.append_nil]
        clear hfs
        go_wp2
        go_roundg g
        case measure => omega
        case rel => exact ⟨i + 1, by omega, by go_num, by rw [hst.out]; exact hown1, hb1⟩

end Go.Proofs.YtelioljmhlabjaaDoor
