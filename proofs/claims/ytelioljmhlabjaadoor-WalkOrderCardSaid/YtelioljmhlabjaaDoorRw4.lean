/- Walks of the reference's Choose, Start. -/
import Derived.Test.YtelioljmhlabjaaDoorRw3
import Derived.Test.YtelioljmhlabjaaDoorWk2
namespace Go.Proofs.YtelioljmhlabjaaDoor
open Go.RowKit
set_option maxRecDepth 100000

set_option maxHeartbeats 1600000 in
theorem rchoose_any (rv : Value) (n : Nat) (es : List (Int × Int)) (lim : Int) (st : List Int) (pick : Int) (p : Nat) (w : World) (h : RwM w rv n es lim st) (hn : n ≤ 512) (hes : ∀ e ∈ es, 0 ≤ e.1 ∧ e.1 < n ∧ 0 ≤ e.2 ∧ e.2 < n) (hp : IntKind.u64.wrap pick = (p : Int)) :
    Calls Tryd.prog 40 #[rv, .int .i64 pick] w fun e w' => e = .returned (.tuple #[.int .i64 (chooseR n es lim st p).1, .bool (chooseR n es lim st p).2]) ∧ Below w.heap.size w w' := by
  have CH := fun w' hb => rchoices_any rv n es lim st w' (h.mono hb) hn hes
  obtain ⟨ae, ce, sa, cs, rfl, hed, hst, hln⟩ := h
  have l1 := startsL_len n es lim st
  have l2 := withL_len n es st 1
  have hcl : (choicesL n es lim st).length = (startsL n es lim st).length + (withL n es st 1).length := by
    unfold choicesL
    rw [List.length_append]
  have hxs : w.heap.size < (w.alloc (.cells #[.slice ae es.length ce, .int .i64 lim, .slice sa n cs] 58)).heap.size := by simp
  have hb0 : Below w.heap.size w (w.alloc (.cells #[.slice ae es.length ce, .int .i64 lim, .slice sa n cs] 58)) := (Below.refl _ _).alloc (Nat.le_refl _) _
  have CH0 := CH _ hb0
  obtain ⟨w0, hw0⟩ : ∃ w0, w0 = w.alloc (.cells #[.slice ae es.length ce, .int .i64 lim, .slice sa n cs] 58) := ⟨_, rfl⟩
  rw [← hw0] at hxs hb0 CH0
  clear hed hst CH
  by_cases h0 : (choicesL n es lim st).length = 0
  · have hr : chooseR n es lim st p = (-1, false) := by unfold chooseR; rw [if_pos h0]
    rw [hr]
    have hnil : choicesL n es lim st = [] := List.eq_nil_of_length_eq_zero h0
    rw [hnil] at CH0
    generalize (startsL n es lim st).length = c at CH0
    clear hr h0 hcl hp hnil l1
    go_enter Tryd.func40, Tryd.ntmps40
    go_wp2_with (simp only [← hw0])
    refine CH0.mono ?_
    rintro e w1 ⟨v, rfl, hv, hb1⟩
    obtain ⟨ao, cap, he, _, _⟩ := hv.val
    rw [ints_len] at he
    subst he
    clear CH0
    go_wp2
    go_ret2
    exact ⟨rfl, hb0.trans (hb1.mono hb0.size)⟩
  · have hr : Hid (chooseR n es lim st p = ((((choicesL n es lim st).getD (p % (choicesL n es lim st).length) 0 : Nat) : Int), decide (p % (choicesL n es lim st).length < (startsL n es lim st).length))) := by
      unfold chooseR
      rw [Hid, if_neg h0]
    have hpi := pick_idx p (choicesL n es lim st).length (by omega) (by omega)
    have hlt := Nat.mod_lt p (show 0 < (choicesL n es lim st).length by omega)
    generalize p % (choicesL n es lim st).length = k at hr hpi hlt
    have hcl4 : (choicesL n es lim st).length ≤ 1024 := by omega
    generalize choicesL n es lim st = cl at CH0 h0 hpi hlt hr hcl4
    generalize (startsL n es lim st).length = c at CH0 hr l1
    generalize chooseR n es lim st p = r at hr ⊢
    have HP := Lib.hid hp
    have HPI := Lib.hid hpi
    clear hp hpi hcl l2
    have hc0 : ((cl.length : Int) == 0) = false := by simp; intro e; rw [e] at h0; exact h0 rfl
    have hcn : ¬ (cl.length : Int) = 0 := by omega
    go_enter Tryd.func40, Tryd.ntmps40
    go_wp2_with (simp only [← hw0])
    refine CH0.mono ?_
    rintro e w1 ⟨v, rfl, hv, hb1⟩
    have hv0 := hv
    obtain ⟨ao, cap, he, _, _⟩ := hv.val
    rw [ints_len] at he
    subst he
    obtain ⟨b2, off2, he2, hb2l, hc2⟩ := hv0.get (i := k) (by rw [ints_len]; exact hlt)
    subst he2
    rw [ints_take] at hc2
    obtain ⟨y, hy⟩ : ∃ y, y = cl.getD k 0 := ⟨_, rfl⟩
    have hc2e : Hid (cl.getD k 0 = y) := hy.symm
    rw [← hy] at hc2
    clear hy
    have hki : (k : Int) < (cl.length : Int) := by omega
    clear CH0 hv hv0
    go_upto_region 5 with fail
    rw [HP.out, HPI.out]
    go_wp2
    go_ret2
    exact ⟨by rw [hr.out, hc2e.out]; congr 4, hb0.trans (hb1.mono hb0.size)⟩

/-- A struct of three cells in a variable. -/
theorem box3 {w : World} {q : Nat} {x0 x1 x2 : Value} (h : w.heap[q]? = some (.cells #[x0, x1, x2] 58 (0, 0))) :
    w.cell? ⟨q, 0, none⟩ = some x0 ∧ w.cell? ⟨q, 1, none⟩ = some x1 ∧ w.cell? ⟨q, 2, none⟩ = some x2 ∧ w.frozen? ⟨q, 0, none⟩ = false ∧ w.frozen? ⟨q, 1, none⟩ = false ∧ w.frozen? ⟨q, 2, none⟩ = false := by
  simp [World.cell?, World.frozen?, h]
/-- Its cells are set. -/
theorem set3 {w : World} {q : Nat} {x0 x1 x2 : Value} (h : w.heap[q]? = some (.cells #[x0, x1, x2] 58 (0, 0))) (a0 a1 a2 : Value) :
    ∃ w6, w6 = ((w.setCell ⟨q, 0, none⟩ a0).setCell ⟨q, 1, none⟩ a1).setCell ⟨q, 2, none⟩ a2 ∧ w6.heap[q]? = some (.cells #[a0, a1, a2] 58 (0, 0)) ∧ w6.heap.size = w.heap.size ∧
      (∀ k, k ≠ q → w6.heap[k]? = w.heap[k]?) ∧ ∀ (b : Nat) (wb : World), b ≤ q → Below b wb w → Below b wb w6 := by
  refine ⟨_, rfl, ?_, by simp, fun k hk => ?_, fun b wb hq hb => ?_⟩
  · simp [World.setCell, Array.getElem?_modify, h]
  · exact (Below.heap_setCell _ _ _ _ hk).trans ((Below.heap_setCell _ _ _ _ hk).trans (Below.heap_setCell _ _ _ _ hk))
  · exact ((hb.setCell hq _).setCell hq _).setCell hq _
theorem IntsAt.keep_but {w w' : World} {q : Nat} {sa : Option Addr} {n c : Nat} {xs : List Int} (h : IntsAt w (.slice sa n c) xs) (hs : w'.heap.size = w.heap.size) (hk : ∀ k, k ≠ q → w'.heap[k]? = w.heap[k]?) (hq : ∀ a, sa = some a → q < a.block) : IntsAt w' (.slice sa n c) xs := by
  obtain ⟨ao, cap, hv, h1, h2, h3⟩ := h
  cases hv
  refine ⟨_, _, rfl, h1, h2, fun hne => ?_⟩
  obtain ⟨b, off, ha, hb, hc⟩ := h3 hne
  refine ⟨b, off, ha, by omega, fun i hi => ?_⟩
  have hqb := hq _ ha
  simp only at hqb
  have := hc i hi
  unfold World.cell? at this ⊢
  simp only at this ⊢
  rw [hk b (by omega)]
  exact this

/-- What Start and Finish of the reference give back: the statuses that came in, or new ones. -/
def RwRes (ae : Option Addr) (ce : Nat) (sa : Option Addr) (n len : Nat) (lim : Int) (r : List Int × Int) (w : World) (e : Ending) (w' : World) : Prop :=
  ∃ sb cb, e = .returned (.tuple #[.agg #[.slice ae len ce, .int .i64 lim, .slice sb n cb], .int .i64 r.2]) ∧ IntsAt w' (.slice sb n cb) r.1 ∧ r.1.length = n ∧ (∀ a, sb = some a → sa = some a ∨ w.heap.size ≤ a.block) ∧ Below w.heap.size w w'

set_option maxHeartbeats 1600000 in
theorem rstart_any (ae : Option Addr) (ce : Nat) (sa : Option Addr) (cs n : Nat) (es : List (Int × Int)) (lim : Int) (st : List Int) (i : Int) (w : World) (hed : PairsAt w (.slice ae es.length ce) es) (hst : IntsAt w (.slice sa n cs) st) (hln : st.length = n) (hn : n ≤ 512) (hes : ∀ e ∈ es, 0 ≤ e.1 ∧ e.1 < n ∧ 0 ≤ e.2 ∧ e.2 < n) :
    Calls Tryd.prog 37 #[.agg #[.slice ae es.length ce, .int .i64 lim, .slice sa n cs], .int .i64 i] w (RwRes ae ce sa n es.length lim (startR n es lim st i) w) := by
  have h : RwM w (.agg #[.slice ae es.length ce, .int .i64 lim, .slice sa n cs]) n es lim st := ⟨ae, ce, sa, cs, rfl, hed, hst, hln⟩
  have HSTA := Lib.hid hst
  have RST := fun w' hb => rstatus_any _ n es lim st i w' (h.mono hb) hn
  have RRD := fun k w' hb hk => rready_any _ n es lim st k w' (h.mono hb) hn hk hes
  have RRU := fun w' hb => rrunning_any _ n es lim st w' (h.mono hb) hn
  clear h
  have RSE := fun k w' (hb : Below w.heap.size w w') hk => rset_any ae ce sa cs n es lim st k 1 w' (hst.mono hb) hln hn hk
  have hs2 : ((w.alloc (.cells #[.slice ae es.length ce, .int .i64 lim, .slice sa n cs] 58)).alloc (.cells #[.slice none 0 0, .int .i64 0, .slice none 0 0] 58)).heap.size = w.heap.size + 1 + 1 := by simp
  have hb0 : Below w.heap.size w ((w.alloc (.cells #[.slice ae es.length ce, .int .i64 lim, .slice sa n cs] 58)).alloc (.cells #[.slice none 0 0, .int .i64 0, .slice none 0 0] 58)) := ((Below.refl _ w).alloc (Nat.le_refl _) _).alloc (by simp) _
  have hbx : ((w.alloc (.cells #[.slice ae es.length ce, .int .i64 lim, .slice sa n cs] 58)).alloc (.cells #[.slice none 0 0, .int .i64 0, .slice none 0 0] 58)).heap[w.heap.size]? = some (.cells #[.slice ae es.length ce, .int .i64 lim, .slice sa n cs] 58 (0, 0)) :=
    (Below.heap_alloc _ _ _ (by simp)).trans (heap_alloc_new _ _)
  have hrx : ((w.alloc (.cells #[.slice ae es.length ce, .int .i64 lim, .slice sa n cs] 58)).alloc (.cells #[.slice none 0 0, .int .i64 0, .slice none 0 0] 58)).heap[w.heap.size + 1]? = some (.cells #[.slice none 0 0, .int .i64 0, .slice none 0 0] 58 (0, 0)) := by
    have := heap_alloc_new (w.alloc (.cells #[.slice ae es.length ce, .int .i64 lim, .slice sa n cs] 58)) (.cells #[.slice none 0 0, .int .i64 0, .slice none 0 0] 58)
    rwa [show (w.alloc (.cells #[.slice ae es.length ce, .int .i64 lim, .slice sa n cs] 58)).heap.size = w.heap.size + 1 by simp] at this
  obtain ⟨w0, hw0⟩ : ∃ w0, w0 = ((w.alloc (.cells #[.slice ae es.length ce, .int .i64 lim, .slice sa n cs] 58)).alloc (.cells #[.slice none 0 0, .int .i64 0, .slice none 0 0] 58)) := ⟨_, rfl⟩
  rw [← hw0] at hs2 hb0 hbx hrx
  obtain ⟨a0, a1, a2, _⟩ := box3 hbx
  have RST0 := RST _ hb0
  clear hed hst RST
  by_cases h0 : statusR n st i = 0
  · obtain ⟨k, rfl, hk, hs⟩ := statusR_in h0 (by decide)
    rw [h0] at RST0
    have RRD1 := fun w' hb => RRD k w' hb hk
    have hwb : withB es st 0 k = (aheadN es st k == 0) := by unfold withB; rw [hs]; rfl
    by_cases ha : aheadN es st k = 0
    · rw [show withB es st 0 k = true by rw [hwb, ha]; rfl] at RRD1
      have RSE1 := fun w' hb => RSE k w' hb hk
      have hrun : Hid (startR n es lim st k = if lim ≤ (withL n es st 1).length then (st, 3) else (st.set k 1, 0)) := by
        unfold startR
        rw [Hid, if_neg (by rw [h0, Int.toNat_natCast, ha]; simp), Int.toNat_natCast]
      have hlen := withL_len n es st 1
      have HRU := Lib.hid RRU
      have HSE := Lib.hid RSE1
      generalize startR n es lim st k = r at hrun ⊢
      generalize withL n es st 1 = l at HRU hrun hlen
      clear hwb ha h0 hs RRD RSE RRU RSE1
      have HRR := Lib.hid RRD1
      clear RRD1
      by_cases hl : lim ≤ l.length
      · have hr : Hid (r = (st, 3)) := by rw [Hid, hrun.out, if_pos hl]
        clear hrun HSE
        go_enter Tryd.func37, Tryd.ntmps37
        go_wp2_with (simp only [← hw0])
        refine RST0.mono ?_
        rintro e w1 ⟨rfl, hb1⟩
        have hB1 := hb0.trans (hb1.mono hb0.size)
        have hx1 := (hb1.block w.heap.size (by omega)).trans hbx
        have hr1 := (hb1.block (w.heap.size + 1) (by omega)).trans hrx
        have hs1 := hb1.size
        obtain ⟨y0, y1, y2, _⟩ := box3 hx1
        have R1 := HRR.out w1 hB1
        clear hbx hrx hb1 RST0 HRR hw0 hb0
        go_wp2_with fail
        refine R1.mono ?_
        rintro e w2 ⟨rfl, hb2⟩
        have hB2 := hB1.trans (hb2.mono hB1.size)
        have hx2 := (hb2.block w.heap.size (by omega)).trans hx1
        have hr2 := (hb2.block (w.heap.size + 1) (by omega)).trans hr1
        have hs3 := hb2.size
        clear hx1 hr1 y0 y1 y2 hb2 R1 hB1
        obtain ⟨y0, y1, y2, _⟩ := box3 hx2
        have hxd : w2.drew.heap[w.heap.size]? = some (.cells #[.slice ae es.length ce, .int .i64 lim, .slice sa n cs] 58 (0, 0)) := hx2
        have hrd : w2.drew.heap[w.heap.size + 1]? = some (.cells #[.slice none 0 0, .int .i64 0, .slice none 0 0] 58 (0, 0)) := hr2
        have hBd : Below w.heap.size w w2.drew := hB2.trans ((Below.refl _ w2).drew.mono hB2.size)
        have hsd : w0.heap.size ≤ w2.drew.heap.size := by show _ ≤ w2.heap.size; omega
        obtain ⟨v0, v1, v2, _⟩ := box3 hxd
        have hld : w.heap.size < w2.drew.heap.size := by omega
        have RU := HRU.out _ hBd
        go_upto_region 3 with fail
        go_cut [22] from 17 (fun s22 wx => s22 = .bool true ∧ Below w2.drew.heap.size w2.drew wx)
        case first =>
          go_region_with ((go_at_call 62; refine RU.mono ?_; rintro e w3 ⟨v, rfl, hv, hb⟩; obtain ⟨ao, cap, hv1, hv2, hv3⟩ := hv.val; rw [ints_len] at hv1 hv2 hv3; subst hv1; have c1' := (hb.cell (p := ⟨w.heap.size, 1, none⟩) hld).trans v1))
          all_goals (try go_wp2_with fail)
          all_goals go_meet
          all_goals exact ⟨rfl, hb⟩
        case rest =>
          obtain ⟨rfl, hb⟩ := hcut
          have hBc := hBd.trans (hb.mono hBd.size)
          obtain ⟨y0, y1, y2, _⟩ := box3 ((hb.block w.heap.size hld).trans hxd)
          have hrc := (hb.block (w.heap.size + 1) (by omega)).trans hrd
          obtain ⟨z0, z1, z2, f0, f1, f2⟩ := box3 hrc
          obtain ⟨w6, hw6, g6, _, _, g9⟩ := set3 hrc (.slice ae es.length ce) (.int .i64 lim) (.slice sa n cs)
          have hB6 := g9 _ _ (Nat.le_succ _) hBc
          obtain ⟨u0, u1, u2, _⟩ := box3 g6
          clear hxd hrd hx2 hr2 hB2 g9 g6 hb hrc RU HRU v0 v1 v2
          go_wp2
          rw [← hw6]
          refine bodyPost_ret (v := .tuple #[.agg #[.slice ae es.length ce, .int .i64 lim, .slice sa n cs], .int .i64 3]) (by simp [results, go_sem, u0, u1, u2]) rfl ?_
          rw [hr.out]
          exact ⟨sa, cs, rfl, HSTA.out.mono hB6, hln, fun a ha => Or.inl ha, hB6⟩
      · have hr : Hid (r = (st.set k 1, 0)) := by rw [Hid, hrun.out, if_neg hl]
        clear hrun
        go_enter Tryd.func37, Tryd.ntmps37
        go_wp2_with (simp only [← hw0])
        refine RST0.mono ?_
        rintro e w1 ⟨rfl, hb1⟩
        have hB1 := hb0.trans (hb1.mono hb0.size)
        have hx1 := (hb1.block w.heap.size (by omega)).trans hbx
        have hr1 := (hb1.block (w.heap.size + 1) (by omega)).trans hrx
        have hs1 := hb1.size
        obtain ⟨y0, y1, y2, _⟩ := box3 hx1
        have R1 := HRR.out w1 hB1
        clear hbx hrx hb1 RST0 HRR hw0 hb0
        go_wp2_with fail
        refine R1.mono ?_
        rintro e w2 ⟨rfl, hb2⟩
        have hB2 := hB1.trans (hb2.mono hB1.size)
        have hx2 := (hb2.block w.heap.size (by omega)).trans hx1
        have hr2 := (hb2.block (w.heap.size + 1) (by omega)).trans hr1
        have hs3 := hb2.size
        clear hx1 hr1 y0 y1 y2 hb2 R1 hB1
        obtain ⟨y0, y1, y2, _⟩ := box3 hx2
        have hxd : w2.drew.heap[w.heap.size]? = some (.cells #[.slice ae es.length ce, .int .i64 lim, .slice sa n cs] 58 (0, 0)) := hx2
        have hrd : w2.drew.heap[w.heap.size + 1]? = some (.cells #[.slice none 0 0, .int .i64 0, .slice none 0 0] 58 (0, 0)) := hr2
        have hBd : Below w.heap.size w w2.drew := hB2.trans ((Below.refl _ w2).drew.mono hB2.size)
        have hsd : w0.heap.size ≤ w2.drew.heap.size := by show _ ≤ w2.heap.size; omega
        obtain ⟨v0, v1, v2, _⟩ := box3 hxd
        have hld : w.heap.size < w2.drew.heap.size := by omega
        have RU := HRU.out _ hBd
        go_upto_region 3 with fail
        go_cut [22] from 17 (fun s22 wx => s22 = .bool false ∧ Below w2.drew.heap.size w2.drew wx)
        case first =>
          go_region_with ((go_at_call 62; refine RU.mono ?_; rintro e w3 ⟨v, rfl, hv, hb⟩; obtain ⟨ao, cap, hv1, hv2, hv3⟩ := hv.val; rw [ints_len] at hv1 hv2 hv3; subst hv1; have c1' := (hb.cell (p := ⟨w.heap.size, 1, none⟩) hld).trans v1))
          all_goals (try go_wp2_with fail)
          all_goals go_meet
          all_goals exact ⟨by rw [decide_eq_false (by omega)], hb⟩
        case rest =>
          obtain ⟨rfl, hb⟩ := hcut
          have hBc := hBd.trans (hb.mono hBd.size)
          have hxc := (hb.block w.heap.size hld).trans hxd
          have hrc := (hb.block (w.heap.size + 1) (by omega)).trans hrd
          have hsc := hb.size
          have RS := HSE.out wc hBc
          obtain ⟨y0, y1, y2, _⟩ := box3 hxc
          clear hxd hrd hx2 hr2 hB2 hb RU HRU v0 v1 v2 HSE hBd
          go_wp2_with fail
          refine RS.mono ?_
          rintro e w4 ⟨sb, cb, rfl, hn4, hfr, hb4⟩
          have hB4 := hBc.trans (hb4.mono hBc.size)
          have hr4 := (hb4.block (w.heap.size + 1) (by omega)).trans hrc
          obtain ⟨z0, z1, z2, f0, f1, f2⟩ := box3 hr4
          obtain ⟨w6, hw6, g6, g7, g8, g9⟩ := set3 hr4 (.slice ae es.length ce) (.int .i64 lim) (.slice sb n cb)
          have hB6 := g9 _ _ (Nat.le_succ _) hB4
          have hn6 := hn4.keep_but (q := w.heap.size + 1) g7 g8 (fun a ha => by have := hfr a ha; omega)
          have hfr6 : Hid (∀ a, sb = some a → w.heap.size ≤ a.block) := fun a ha => by have := hfr a ha; omega
          obtain ⟨u0, u1, u2, _⟩ := box3 g6
          clear hxc hrc hr4 g9 g6 hb4 RS g7 g8 hn4 hfr y0 y1 y2 hBc hB4
          go_wp2
          rw [← hw6]
          refine bodyPost_ret (v := .tuple #[.agg #[.slice ae es.length ce, .int .i64 lim, .slice sb n cb], .int .i64 0]) (by simp [results, go_sem, u0, u1, u2]) rfl ?_
          rw [hr.out]
          exact ⟨sb, cb, rfl, hn6, by simp [hln], fun a ha => Or.inr (hfr6.out a ha), hB6⟩
    · have hr : startR n es lim st k = (st, 4) := by unfold startR; rw [if_pos (Or.inr (by rw [Int.toNat_natCast]; omega))]
      rw [hr]
      rw [show withB es st 0 k = false by rw [hwb]; simpa using ha] at RRD1
      have HRR := Lib.hid RRD1
      clear hr h0 hs hwb ha RRU RSE RRD RRD1
      go_enter Tryd.func37, Tryd.ntmps37
      go_wp2_with (simp only [← hw0])
      refine RST0.mono ?_
      rintro e w1 ⟨rfl, hb1⟩
      have hB1 := hb0.trans (hb1.mono hb0.size)
      have hx1 := (hb1.block w.heap.size (by omega)).trans hbx
      have hr1 := (hb1.block (w.heap.size + 1) (by omega)).trans hrx
      have hs1 := hb1.size
      obtain ⟨y0, y1, y2, _⟩ := box3 hx1
      have R1 := HRR.out w1 hB1
      clear hbx hrx hb1 RST0 HRR hw0 hb0
      go_wp2_with fail
      refine R1.mono ?_
      rintro e w2 ⟨rfl, hb2⟩
      have hB2 := hB1.trans (hb2.mono hB1.size)
      have hx2 := (hb2.block w.heap.size (by omega)).trans hx1
      have hr2 := (hb2.block (w.heap.size + 1) (by omega)).trans hr1
      clear hx1 hr1 y0 y1 y2 hb2 R1 hB1
      obtain ⟨y0, y1, y2, _⟩ := box3 hx2
      obtain ⟨z0, z1, z2, f0, f1, f2⟩ := box3 hr2
      obtain ⟨w6, hw6, g6, _, _, g9⟩ := set3 hr2 (.slice ae es.length ce) (.int .i64 lim) (.slice sa n cs)
      have hB6 := g9 _ _ (Nat.le_succ _) hB2
      obtain ⟨u0, u1, u2, _⟩ := box3 g6
      clear hx2 hr2 hB2 g9 g6
      go_wp2
      rw [← hw6]
      refine bodyPost_ret (v := .tuple #[.agg #[.slice ae es.length ce, .int .i64 lim, .slice sa n cs], .int .i64 4]) (by simp [results, go_sem, u0, u1, u2]) rfl ?_
      exact ⟨sa, cs, rfl, HSTA.out.mono hB6, hln, fun a ha => Or.inl ha, hB6⟩
  · have hr : startR n es lim st i = (st, 4) := by unfold startR; rw [if_pos (Or.inl h0)]
    rw [hr]
    generalize statusR n st i = s at RST0 h0
    have hs0 : (s != 0) = true := by simpa using h0
    have hsn : ¬ s = 0 := h0
    clear hr h0 RRD RRU RSE
    go_enter Tryd.func37, Tryd.ntmps37
    go_wp2_with (simp only [← hw0])
    refine RST0.mono ?_
    rintro e w1 ⟨rfl, hb1⟩
    have hB1 := hb0.trans (hb1.mono hb0.size)
    obtain ⟨y0, y1, y2, _⟩ := box3 ((hb1.block _ (by omega)).trans hbx)
    obtain ⟨z0, z1, z2, f0, f1, f2⟩ := box3 ((hb1.block _ (by omega)).trans hrx)
    obtain ⟨w6, hw6, g6, _, _, g9⟩ := set3 ((hb1.block _ (by omega)).trans hrx) (.slice ae es.length ce) (.int .i64 lim) (.slice sa n cs)
    have hB6 := g9 _ _ (Nat.le_succ _) hB1
    obtain ⟨u0, u1, u2, _⟩ := box3 g6
    clear hbx hrx hb1 RST0 hB1 g9 g6
    go_wp2
    rw [← hw6]
    refine bodyPost_ret (v := .tuple #[.agg #[.slice ae es.length ce, .int .i64 lim, .slice sa n cs], .int .i64 4]) (by simp [results, go_sem, u0, u1, u2]) rfl ?_
    exact ⟨sa, cs, rfl, HSTA.out.mono hB6, hln, fun a ha => Or.inl ha, hB6⟩

end Go.Proofs.YtelioljmhlabjaaDoor
