/- The walk of the reference's Finish. -/
import Derived.Test.YtelioljmhlabjaaDoorRw4
import Derived.Test.YtelioljmhlabjaaDoorRReach
namespace Go.Proofs.YtelioljmhlabjaaDoor
open Go.RowKit
set_option maxRecDepth 100000

/-- The walk's variable and the result's. -/
structure FMem (w wr : World) (ae : Option Addr) (ce n len : Nat) (lim : Int) (sb : Option Addr) (cb : Nat) (st : List Int) : Prop where
  bx : wr.heap[w.heap.size]? = some (.cells #[.slice ae len ce, .int .i64 lim, .slice sb n cb] 58 (0, 0))
  rx : wr.heap[w.heap.size + 1]? = some (.cells #[.slice none 0 0, .int .i64 0, .slice none 0 0] 58 (0, 0))
  ia : IntsAt wr (.slice sb n cb) st
  ln : st.length = n
  fr : ∀ a, sb = some a → w.heap.size + 1 < a.block
  bel : Below w.heap.size w wr
  sz : w.heap.size + 1 < wr.heap.size
theorem FMem.below {w wr w' : World} {ae : Option Addr} {ce n len : Nat} {lim : Int} {sb : Option Addr} {cb : Nat} {st : List Int} (h : FMem w wr ae ce n len lim sb cb st) (hb : Below wr.heap.size wr w') : FMem w w' ae ce n len lim sb cb st :=
  have hsz := h.sz
  ⟨(hb.block _ (by omega)).trans h.bx, (hb.block _ hsz).trans h.rx, h.ia.mono hb, h.ln, h.fr, h.bel.trans (hb.mono h.bel.size), by have := hb.size; omega⟩
theorem IntsAt.but {w w' : World} {q : Nat} {sa : Option Addr} {n c : Nat} {xs : List Int} (h : IntsAt w (.slice sa n c) xs) (hs : w'.heap.size = w.heap.size) (hk : ∀ k, k ≠ q → w'.heap[k]? = w.heap[k]?) (hq : ∀ a, sa = some a → a.block ≠ q) : IntsAt w' (.slice sa n c) xs := by
  obtain ⟨ao, cap, hv, h1, h2, h3⟩ := h
  cases hv
  refine ⟨_, _, rfl, h1, h2, fun hne => ?_⟩
  obtain ⟨b, off, ha, hb, hc⟩ := h3 hne
  refine ⟨b, off, ha, by omega, fun i hi => ?_⟩
  have hqb := hq _ ha
  simp only at hqb
  have := hc i hi
  unfold World.cell? at this ⊢
  simp only at this ⊢
  rw [hk b (by omega)]
  exact this
/-- The variable is set anew. -/
theorem FMem.put {w wr w2 : World} {ae : Option Addr} {ce n len : Nat} {lim : Int} {sb sc : Option Addr} {cb cc : Nat} {st st' : List Int} (h : FMem w wr ae ce n len lim sb cb st) (hb : Below wr.heap.size wr w2) (hi : IntsAt w2 (.slice sc n cc) st') (hl : st'.length = n) (hf : ∀ a, sc = some a → wr.heap.size ≤ a.block) :
    ∃ w6, w6 = ((w2.setCell ⟨w.heap.size, 0, none⟩ (.slice ae len ce)).setCell ⟨w.heap.size, 1, none⟩ (.int .i64 lim)).setCell ⟨w.heap.size, 2, none⟩ (.slice sc n cc) ∧ FMem w w6 ae ce n len lim sc cc st' ∧ ∀ k, k ≠ w.heap.size → w6.heap[k]? = w2.heap[k]? := by
  have h2 := h.below hb
  obtain ⟨w6, hw, g6, g7, g8, g9⟩ := set3 h2.bx (.slice ae len ce) (.int .i64 lim) (.slice sc n cc)
  have hsz := h.sz
  refine ⟨w6, hw, ⟨g6, (g8 _ (by omega)).trans h2.rx, hi.but g7 g8 (fun a ha => by have := hf a ha; omega), hl, fun a ha => by have := hf a ha; omega, g9 _ _ (Nat.le_refl _) h2.bel, by rw [g7]; exact h2.sz⟩, g8⟩
/-- The result's variable is set. -/
theorem FMem.res {w wr : World} {ae : Option Addr} {ce n len : Nat} {lim : Int} {sb : Option Addr} {cb : Nat} {st : List Int} (h : FMem w wr ae ce n len lim sb cb st) :
    ∃ w6, w6 = ((wr.setCell ⟨w.heap.size + 1, 0, none⟩ (.slice ae len ce)).setCell ⟨w.heap.size + 1, 1, none⟩ (.int .i64 lim)).setCell ⟨w.heap.size + 1, 2, none⟩ (.slice sb n cb) ∧
      w6.heap[w.heap.size + 1]? = some (.cells #[.slice ae len ce, .int .i64 lim, .slice sb n cb] 58 (0, 0)) ∧ IntsAt w6 (.slice sb n cb) st ∧ (∀ a, sb = some a → w.heap.size ≤ a.block) ∧ Below w.heap.size w w6 := by
  obtain ⟨w6, hw, g6, g7, g8, g9⟩ := set3 h.rx (.slice ae len ce) (.int .i64 lim) (.slice sb n cb)
  exact ⟨w6, hw, g6, h.ia.but g7 g8 (fun a ha => by have := h.fr a ha; omega), fun a ha => by have := h.fr a ha; omega, g9 _ _ (Nat.le_succ _) h.bel⟩

theorem skipG_way {n : Nat} {es : List (Int × Int)} {st : List Int} {i : Nat} : skipG n st i ((List.range n).filter fun k => (wayL n es (-1, -1) i).contains k) = skipL n es st i := by
  unfold skipG skipL
  apply List.map_congr_left
  intro k hk
  have hk' : k < n := by simpa using hk
  have : k ∈ ((List.range n).filter fun k => (wayL n es (-1, -1) i).contains k) ↔ Way (Edge es (-1, -1)) i k := by
    rw [List.mem_filter, List.contains_iff_mem, mem_wayL]
    exact ⟨fun h => h.2.2, fun h => ⟨hk, hk', h⟩⟩
  by_cases h : Way (Edge es (-1, -1)) i k
  · rw [if_pos h, if_pos (this.2 h)]
  · rw [if_neg h, if_neg (fun hh => h (this.1 hh))]

set_option maxHeartbeats 1600000 in
theorem rfinish_any (ae : Option Addr) (ce : Nat) (sa : Option Addr) (cs n : Nat) (es : List (Int × Int)) (lim : Int) (st : List Int) (i : Int) (ok : Bool) (w : World) (hed : PairsAt w (.slice ae es.length ce) es) (hst : IntsAt w (.slice sa n cs) st) (hln : st.length = n) (hn : n ≤ 512) (hes : ∀ e ∈ es, 0 ≤ e.1 ∧ e.1 < n ∧ 0 ≤ e.2 ∧ e.2 < n) :
    Calls Tryd.prog 38 #[.agg #[.slice ae es.length ce, .int .i64 lim, .slice sa n cs], .int .i64 i, .bool ok] w (RwRes ae ce sa n es.length lim (finishR n es st i ok) w) := by
  have h : RwM w (.agg #[.slice ae es.length ce, .int .i64 lim, .slice sa n cs]) n es lim st := ⟨ae, ce, sa, cs, rfl, hed, hst, hln⟩
  have RST := fun w' hb => rstatus_any _ n es lim st i w' (h.mono hb) hn
  clear h
  have RSE := fun x k w' (hb : Below w.heap.size w w') hk => rset_any ae ce sa cs n es lim st k x w' (hst.mono hb) hln hn hk
  have HED := Lib.hid hed
  have hs2 : ((w.alloc (.cells #[.slice ae es.length ce, .int .i64 lim, .slice sa n cs] 58)).alloc (.cells #[.slice none 0 0, .int .i64 0, .slice none 0 0] 58)).heap.size = w.heap.size + 1 + 1 := by simp
  have hb0 : Below w.heap.size w ((w.alloc (.cells #[.slice ae es.length ce, .int .i64 lim, .slice sa n cs] 58)).alloc (.cells #[.slice none 0 0, .int .i64 0, .slice none 0 0] 58)) := ((Below.refl _ w).alloc (Nat.le_refl _) _).alloc (by simp) _
  have hbx : ((w.alloc (.cells #[.slice ae es.length ce, .int .i64 lim, .slice sa n cs] 58)).alloc (.cells #[.slice none 0 0, .int .i64 0, .slice none 0 0] 58)).heap[w.heap.size]? = some (.cells #[.slice ae es.length ce, .int .i64 lim, .slice sa n cs] 58 (0, 0)) :=
    (Below.heap_alloc _ _ _ (by simp)).trans (heap_alloc_new _ _)
  have hrx : ((w.alloc (.cells #[.slice ae es.length ce, .int .i64 lim, .slice sa n cs] 58)).alloc (.cells #[.slice none 0 0, .int .i64 0, .slice none 0 0] 58)).heap[w.heap.size + 1]? = some (.cells #[.slice none 0 0, .int .i64 0, .slice none 0 0] 58 (0, 0)) := by
    have := heap_alloc_new (w.alloc (.cells #[.slice ae es.length ce, .int .i64 lim, .slice sa n cs] 58)) (.cells #[.slice none 0 0, .int .i64 0, .slice none 0 0] 58)
    rwa [show (w.alloc (.cells #[.slice ae es.length ce, .int .i64 lim, .slice sa n cs] 58)).heap.size = w.heap.size + 1 by simp] at this
  obtain ⟨w0, hw0⟩ : ∃ w0, w0 = ((w.alloc (.cells #[.slice ae es.length ce, .int .i64 lim, .slice sa n cs] 58)).alloc (.cells #[.slice none 0 0, .int .i64 0, .slice none 0 0] 58)) := ⟨_, rfl⟩
  rw [← hw0] at hs2 hb0 hbx hrx
  obtain ⟨a0, a1, a2, _⟩ := box3 hbx
  have RST0 := RST _ hb0
  have HST := Lib.hid hst
  have HSE := Lib.hid RSE
  clear hed hst RST RSE
  by_cases h0 : statusR n st i = 1
  · obtain ⟨k, rfl, hk, hs⟩ := statusR_in h0 (by decide)
    rw [h0] at RST0
    cases ok with
    | true =>
      have hr : Hid (finishR n es st k true = (st.set k 2, 0)) := by
        unfold finishR
        rw [Hid, if_neg (by rw [h0]; simp), if_pos rfl, Int.toNat_natCast]
      generalize finishR n es st k true = r at hr ⊢
      clear h0 hs
      go_enter Tryd.func38, Tryd.ntmps38
      go_wp2_with (simp only [← hw0])
      refine RST0.mono ?_
      rintro e w1 ⟨rfl, hb1⟩
      have hB1 := hb0.trans (hb1.mono hb0.size)
      have hx1 := (hb1.block w.heap.size (by omega)).trans hbx
      have hr1 := (hb1.block (w.heap.size + 1) (by omega)).trans hrx
      have hs1 := hb1.size
      obtain ⟨y0, y1, y2, _⟩ := box3 hx1
      have RS := HSE.out 2 k w1 hB1 hk
      clear hbx hrx hb1 RST0 hw0 hb0 HSE
      go_wp2_with fail
      refine RS.mono ?_
      rintro e w4 ⟨sb, cb, rfl, hn4, hfr, hb4⟩
      have hB4 := hB1.trans (hb4.mono hB1.size)
      have hr4 := (hb4.block (w.heap.size + 1) (by omega)).trans hr1
      obtain ⟨z0, z1, z2, f0, f1, f2⟩ := box3 hr4
      obtain ⟨w6, hw6, g6, g7, g8, g9⟩ := set3 hr4 (.slice ae es.length ce) (.int .i64 lim) (.slice sb n cb)
      have hB6 := g9 _ _ (Nat.le_succ _) hB4
      have hn6 := hn4.keep_but (q := w.heap.size + 1) g7 g8 (fun a ha => by have := hfr a ha; omega)
      have hfr6 : Hid (∀ a, sb = some a → w.heap.size ≤ a.block) := fun a ha => by have := hfr a ha; omega
      obtain ⟨u0, u1, u2, _⟩ := box3 g6
      clear hx1 hr1 hr4 g9 g6 hb4 RS g7 g8 hn4 hfr y0 y1 y2 hB1 hB4
      go_wp2
      rw [← hw6]
      refine bodyPost_ret (v := .tuple #[.agg #[.slice ae es.length ce, .int .i64 lim, .slice sb n cb], .int .i64 0]) (by simp [results, go_sem, u0, u1, u2]) rfl ?_
      rw [hr.out]
      exact ⟨sb, cb, rfl, hn6, by simp [hln], fun a ha => Or.inr (hfr6.out a ha), hB6⟩
    | false =>
      have hr : Hid (finishR n es st k false = (skipL n es st k, 0)) := by
        unfold finishR
        rw [Hid, if_neg (by rw [h0]; simp), if_neg (by simp), Int.toNat_natCast]
      have hsk : Hid (skipG n st k ((List.range n).filter fun j => (wayL n es (-1, -1) k).contains j) = skipL n es st k) := skipG_way
      have hnil : Hid (st.set k 3 = skipG n st k []) := skipG_nil hln
      generalize finishR n es st k false = r at hr ⊢
      generalize skipL n es st k = sl at hr hsk
      clear h0 hs
      go_enter Tryd.func38, Tryd.ntmps38
      go_wp2_with (simp only [← hw0])
      refine RST0.mono ?_
      rintro e w1 ⟨rfl, hb1⟩
      have hB1 := hb0.trans (hb1.mono hb0.size)
      have hx1 := (hb1.block w.heap.size (by omega)).trans hbx
      have hr1 := (hb1.block (w.heap.size + 1) (by omega)).trans hrx
      have hs1 := hb1.size
      obtain ⟨y0, y1, y2, _⟩ := box3 hx1
      have RS := HSE.out 3 k w1 hB1 hk
      clear hbx hrx hb1 RST0 hw0 hb0 HSE
      go_wp2_with fail
      refine RS.mono ?_
      rintro e w4 ⟨sb, cb, rfl, hn4, hfr, hb4⟩
      have hB4 := hB1.trans (hb4.mono hB1.size)
      have hx4 := (hb4.block w.heap.size (by omega)).trans hx1
      have hr4 := (hb4.block (w.heap.size + 1) (by omega)).trans hr1
      have hs4 := hb4.size
      obtain ⟨_, _, _, p0, p1, p2⟩ := box3 hx4
      obtain ⟨z0, z1, z2, f0, f1, f2⟩ := box3 hx4
      obtain ⟨w6, hw6, g6, g7, g8, g9⟩ := set3 hx4 (.slice ae es.length ce) (.int .i64 lim) (.slice sb n cb)
      have hB6 := g9 _ _ (Nat.le_refl _) hB4
      have hF : FMem w w6 ae ce n es.length lim sb cb (st.set k 3) :=
        ⟨g6, (g8 _ (by omega)).trans hr4, hn4.but g7 g8 (fun a ha => by have := hfr a ha; omega), by simp [hln], fun a ha => by have := hfr a ha; omega, hB6, by omega⟩
      rw [hnil.out] at hF
      obtain ⟨u0, u1, u2, _⟩ := box3 g6
      have RRE := rreach_any (.slice ae es.length ce) es n k (-1) (-1) w6 (HED.out.mono hB6) hn hes
      clear hx1 hr1 hr4 g9 hb4 RS g7 g8 hn4 hfr y0 y1 y2 hB1 hB4 hnil
      go_upto_region 6 with (rw [← hw6])
      clear z0 z1 z2 f0 f1 f2 p0 p1 p2 hx4 hw6 g6 hs1 hs2 hs4 a0 a1 a2
      go_wp2_with fail
      refine RRE.mono ?_
      rintro e w7 ⟨b, rfl, hob, hb7, hbf⟩
      have hF7 := hF.below hb7
      have hbn : b ≠ w.heap.size := by have := hF.sz; omega
      have hbs : b < w7.heap.size := (Array.getElem?_eq_some_iff.1 hob).1
      clear RRE hF hb7 u0 u1 u2 hB6 hbf
      generalize hwl : wayL n es (-1, -1) k = wl at hsk hob
      clear hwl
      go_wp2
      go_loopg [32] n (fun g v32 wr => ∃ (q : Nat) (sb : Option Addr) (cb : Nat), q + g = n ∧ v32 = .int .i64 q ∧ FMem w wr ae ce n es.length lim sb cb (skipG n st k ((List.range q).filter fun j => wl.contains j)) ∧ OwnBools wr b (marks n wl))
      case atStart => exact ⟨0, sb, cb, by omega, rfl, hF7, hob⟩
      case round =>
        obtain ⟨q, sb, cb, hqg, rfl, hF, hob⟩ := hrel
        clear hF7
        cases gk with
        | zero =>
          have hq : q = n := by omega
          have hqn : ¬ (q : Int) < (n : Int) := by omega
          rw [hq, hsk.out] at hF
          obtain ⟨y0, y1, y2, _⟩ := box3 hF.bx
          obtain ⟨z0, z1, z2, f0, f1, f2⟩ := box3 hF.rx
          obtain ⟨w8, hw8, g8, hI8, hf8, hB8⟩ := hF.res
          have hl8 := hF.ln
          have HF8 := Lib.hid hf8
          obtain ⟨u0, u1, u2, _⟩ := box3 g8
          clear hF hsk g8 hob hf8
          go_wp2
          rw [← hw8]
          refine bodyPost_ret (v := .tuple #[.agg #[.slice ae es.length ce, .int .i64 lim, .slice sb n cb], .int .i64 0]) (by simp [results, go_sem, u0, u1, u2]) rfl ?_
          rw [hr.out]
          exact ⟨sb, cb, rfl, hI8, hl8, fun a ha => Or.inr (HF8.out a ha), hB8⟩
        | succ g =>
          have hq : q < n := by omega
          have hqn : (q : Int) < (n : Int) := by omega
          have hc := hob.cell (i := q) (by rw [marks_len]; exact hq)
          rw [marks_get n _ q hq] at hc
          have hfs : Hid ((List.range (q + 1)).filter (fun j => wl.contains j) = (List.range q).filter (fun j => wl.contains j) ++ if wl.contains q = true then [q] else []) := filter_step _ q _ rfl
          obtain ⟨z, hz⟩ : ∃ z, z = wl.contains q := ⟨_, rfl⟩
          rw [← hz] at hc hfs
          clear hz
          generalize (List.range q).filter (fun j => wl.contains j) = l at hF hfs
          obtain ⟨y0, y1, y2, p0, p1, p2⟩ := box3 hF.bx
          have hw1 := hF.sz
          have hbw : b < wr.heap.size := (Array.getElem?_eq_some_iff.1 hob).1
          clear hsk
          cases z with
          | true =>
            have HFS : Hid ((List.range (q + 1)).filter (fun j => wl.contains j) = l ++ [q]) := by rw [Hid, hfs.out, if_pos rfl]
            clear hfs
            have RS := rset_any ae ce sb cb n es lim _ q 4 wr hF.ia hF.ln hn hq
            rw [skipG_snoc] at RS
            have HF := Lib.hid hF
            have HOB := Lib.hid hob
            clear hF hob
            go_wp2_with fail
            refine RS.mono ?_
            rintro e w8 ⟨sd, cd, rfl, hn8, hfr, hb8⟩
            obtain ⟨w9, hw9, hF9, hk9⟩ := HF.out.put hb8 hn8 (skipG_len _ _ _ _) hfr
            obtain ⟨y0, y1, y2, p0, p1, p2⟩ := box3 (HF.out.below hb8).bx
            have hob9 : OwnBools w9 b (marks n wl) := (hk9 _ hbn).trans ((hb8.block _ hbw).trans HOB.out)
            clear RS HF hb8 hn8 hfr hk9 HOB
            go_wp2
            rw [← hw9]
            go_roundg g
            case measure => omega
            case rel => exact ⟨q + 1, sd, cd, by omega, by go_num, by rw [HFS.out]; exact hF9, hob9⟩
          | false =>
            have HFS : Hid ((List.range (q + 1)).filter (fun j => wl.contains j) = l) := by rw [Hid, hfs.out, if_neg (by simp), List.append_nil]
            clear hfs
            have HF := Lib.hid hF
            have HOB := Lib.hid hob
            clear hF hob
            go_wp2
            go_roundg g
            case measure => omega
            case rel => exact ⟨q + 1, sb, cb, by omega, by go_num, by rw [HFS.out]; exact HF.out, HOB.out⟩
  · have hr : finishR n es st i ok = (st, 4) := by unfold finishR; rw [if_pos h0]
    rw [hr]
    generalize statusR n st i = s at RST0 h0
    have hs0 : (s != 1) = true := by simpa using h0
    have hsn : ¬ s = 1 := h0
    clear hr h0 HSE
    go_enter Tryd.func38, Tryd.ntmps38
    go_wp2_with (simp only [← hw0])
    refine RST0.mono ?_
    rintro e w1 ⟨rfl, hb1⟩
    have hB1 := hb0.trans (hb1.mono hb0.size)
    obtain ⟨y0, y1, y2, _⟩ := box3 ((hb1.block _ (by omega)).trans hbx)
    obtain ⟨z0, z1, z2, f0, f1, f2⟩ := box3 ((hb1.block _ (by omega)).trans hrx)
    obtain ⟨w6, hw6, g6, _, _, g9⟩ := set3 ((hb1.block _ (by omega)).trans hrx) (.slice ae es.length ce) (.int .i64 lim) (.slice sa n cs)
    have hB6 := g9 _ _ (Nat.le_succ _) hB1
    obtain ⟨u0, u1, u2, _⟩ := box3 g6
    clear hbx hrx hb1 RST0 hB1 g9 g6
    go_wp2
    rw [← hw6]
    refine bodyPost_ret (v := .tuple #[.agg #[.slice ae es.length ce, .int .i64 lim, .slice sa n cs], .int .i64 4]) (by simp [results, go_sem, u0, u1, u2]) rfl ?_
    exact ⟨sa, cs, rfl, HST.out.mono hB6, hln, fun a ha => Or.inl ha, hB6⟩

end Go.Proofs.YtelioljmhlabjaaDoor
