/- The reference's walk in memory; walks of its Status, ready, Ready, Running. -/
import Derived.Test.YtelioljmhlabjaaDoorWk1
import Derived.Test.YtelioljmhlabjaaDoorApp2
namespace Go.Proofs.YtelioljmhlabjaaDoor
open Go.RowKit
set_option maxRecDepth 100000

/-- A walk's value: the edges, the limit, the statuses. -/
def RwM (w : World) (rv : Value) (n : Nat) (es : List (Int × Int)) (lim : Int) (st : List Int) : Prop :=
  ∃ ae ce sa cs, rv = .agg #[.slice ae es.length ce, .int .i64 lim, .slice sa n cs] ∧ PairsAt w (.slice ae es.length ce) es ∧ IntsAt w (.slice sa n cs) st ∧ st.length = n
theorem RwM.mono {w w' : World} {rv : Value} {n : Nat} {es : List (Int × Int)} {lim : Int} {st : List Int} (h : RwM w rv n es lim st) (hb : Below w.heap.size w w') : RwM w' rv n es lim st := by
  obtain ⟨ae, ce, sa, cs, h1, h2, h3, h4⟩ := h
  exact ⟨ae, ce, sa, cs, h1, h2.mono hb, h3.mono hb, h4⟩

set_option maxHeartbeats 800000 in
theorem rstatus_any (rv : Value) (n : Nat) (es : List (Int × Int)) (lim : Int) (st : List Int) (i : Int) (w : World) (h : RwM w rv n es lim st) (_hn : n ≤ 512) :
    Calls Tryd.prog 60 #[rv, .int .i64 i] w fun e w' => e = .returned (.int .i64 (statusR n st i)) ∧ Below w.heap.size w w' := by
  obtain ⟨ae, ce, sa, cs, rfl, _, hst, hln⟩ := h
  have hbw : ∀ o, Below w.heap.size w (w.alloc o) := fun o => (Below.refl _ _).alloc (Nat.le_refl _) o
  by_cases h0 : i < 0
  · have hr : statusR n st i = -1 := by unfold statusR; rw [if_pos (Or.inl h0)]
    rw [hr]
    clear hr hst
    have HB := Lib.hid hbw
    clear hbw
    go_enter Tryd.func60, Tryd.ntmps60
    go_wp2
    go_ret
    exact ⟨rfl, HB.out _⟩
  · obtain ⟨k, rfl⟩ := Int.eq_ofNat_of_zero_le (show 0 ≤ i by omega)
    by_cases hk : (n : Int) ≤ (k : Int)
    · have hr : statusR n st k = -1 := by unfold statusR; rw [if_pos (Or.inr hk)]
      rw [hr]
      clear hr hst
      have HB := Lib.hid hbw
      clear hbw
      go_enter Tryd.func60, Tryd.ntmps60
      go_wp2
      go_ret
      exact ⟨rfl, HB.out _⟩
    · have hkn : k < n := by omega
      have hr : statusR n st k = st.getD k 0 := by unfold statusR; rw [if_neg (by omega), Int.toNat_natCast]
      obtain ⟨b2, off2, rfl, hb2l, hc2⟩ := hst.get (i := k) (by rw [hln]; exact hkn)
      rw [hr]
      generalize st.getD k 0 = x at hc2
      clear hr hst
      have HB := Lib.hid hbw
      clear hbw
      go_enter Tryd.func60, Tryd.ntmps60
      go_wp2
      go_ret
      exact ⟨rfl, HB.out _⟩

set_option maxHeartbeats 1600000 in
theorem rready_any (rv : Value) (n : Nat) (es : List (Int × Int)) (lim : Int) (st : List Int) (i : Nat) (w : World) (h : RwM w rv n es lim st) (_hn : n ≤ 512) (hi : i < n) (hes : ∀ e ∈ es, 0 ≤ e.1 ∧ e.1 < n ∧ 0 ≤ e.2 ∧ e.2 < n) :
    Calls Tryd.prog 61 #[rv, .int .i64 i] w fun e w' => e = .returned (.bool (withB es st 0 i)) ∧ Below w.heap.size w w' := by
  obtain ⟨ae, ce, sa, cs, rfl, hed, hst, hln⟩ := h
  have hbw : ∀ o, Below w.heap.size w (w.alloc o) := fun o => (Below.refl _ _).alloc (Nat.le_refl _) o
  obtain ⟨b2, off2, rfl, hb2l, hci⟩ := hst.get (i := i) (by rw [hln]; exact hi)
  obtain ⟨_, _, hv, _, _, hca⟩ := hst
  injection hv with hv1 hv2 hv3
  have hcst : ∀ k, k < n → w.cell? ⟨b2, off2 + k, none⟩ = some (.int .i64 (st.getD k 0)) := fun k hk => by
    obtain ⟨b3, off3, h1, _, h3⟩ := hca (by intro e; rw [e] at hln; simp at hln; omega)
    rw [← hv1] at h1
    injection h1 with h1
    injection h1 with h1 h2
    subst h1 h2
    exact h3 k (by omega)
  have HST := Lib.hid hcst
  have HES := Lib.hid hes
  have HED := Lib.hid hed
  have HB := Lib.hid hbw
  have hwf : (∃ e ∈ es, e.2 = (i : Int) ∧ st.getD e.1.toNat 0 ≠ 2) → Hid (withB es st 0 i = false) := fun ⟨e, he, h1, h2⟩ => by
    have : aheadN es st i ≠ 0 := fun h => h2 (aheadN_zero.1 h e he h1)
    have h3 : (aheadN es st i == 0) = false := by simpa using this
    unfold withB
    rw [Hid, h3]
    simp
  have hwt : (∀ e ∈ es, e.2 = (i : Int) → st.getD e.1.toNat 0 = 2) → Hid (withB es st 0 i = (st.getD i 0 == 0)) := fun h => by
    unfold withB
    rw [Hid, aheadN_zero.2 h]
    simp
  have HWF := Lib.hid hwf
  have HWT := Lib.hid hwt
  clear hcst hes hed hbw hca hwf hwt hv1 hv2 hv3
  have hx0 : (w.alloc (.cells #[.slice ae es.length ce, .int .i64 lim, .slice (some ⟨b2, off2, none⟩) n cs] 58)).cell? ⟨w.heap.size, 0, none⟩ = some (.slice ae es.length ce) := cell_of_row _ _ _ _ _ _ (heap_alloc_new _ _)
  have hx2 : (w.alloc (.cells #[.slice ae es.length ce, .int .i64 lim, .slice (some ⟨b2, off2, none⟩) n cs] 58)).cell? ⟨w.heap.size, 2, none⟩ = some (.slice (some ⟨b2, off2, none⟩) n cs) := cell_of_row _ _ _ _ _ _ (heap_alloc_new _ _)
  have hxs : w.heap.size < (w.alloc (.cells #[.slice ae es.length ce, .int .i64 lim, .slice (some ⟨b2, off2, none⟩) n cs] 58)).heap.size := by simp
  have hb0 := HB.out (.cells #[.slice ae es.length ce, .int .i64 lim, .slice (some ⟨b2, off2, none⟩) n cs] 58)
  go_enter Tryd.func61, Tryd.ntmps61
  go_wp2
  obtain ⟨w0, hw0⟩ : ∃ w0, w0 = w.alloc (.cells #[.slice ae es.length ce, .int .i64 lim, .slice (some ⟨b2, off2, none⟩) n cs] 58) := ⟨_, rfl⟩
  rw [← hw0] at hx0 hx2 hxs hb0 ⊢
  clear hw0 HB
  go_loopg [9] es.length (fun g v9 wr => ∃ q : Nat, q + g = es.length ∧ v9 = .int .i64 q ∧ Hid (∀ e ∈ es.take q, e.2 = (i : Int) → st.getD e.1.toNat 0 = 2) ∧ Below w0.heap.size w0 wr)
  case atStart => exact ⟨0, by omega, rfl, fun e he => (by simp at he), Below.refl _ _⟩
  case round =>
    obtain ⟨q, hqg, rfl, hall, hbr⟩ := hrel
    have hB : Below w.heap.size w wr := hb0.trans (hbr.mono hb0.size)
    have c0 := (hbr.cell (p := ⟨w.heap.size, 0, none⟩) hxs).trans hx0
    have c2 := (hbr.cell (p := ⟨w.heap.size, 2, none⟩) hxs).trans hx2
    cases gk with
    | zero =>
      have hq : q = es.length := by omega
      have hqn : ¬ (q : Int) < (es.length : Int) := by omega
      have hall2 := hall.out
      rw [hq, List.take_length] at hall2
      have hw := HWT.out hall2
      have cc := (hB.cell (p := ⟨b2, off2 + i, none⟩) hb2l).trans (HST.out i hi)
      generalize st.getD i 0 = x at cc hw
      clear hall hall2 hbr hci
      go_wp2
      go_ret
      exact ⟨ret_bool hw.out.symm, hB⟩
    | succ g =>
      have hql : q < es.length := by omega
      have hqn : (q : Int) < (es.length : Int) := by omega
      obtain ⟨_, _, hv3, _, _, hc3⟩ := HED.out
      cases hv3
      obtain ⟨bl, off, hao, hbl, hcell⟩ := hc3 (by intro e; simp [e] at hql)
      subst hao
      obtain ⟨hx1, hy1⟩ := hcell q hql
      have d1 := (hB.cell (p := ⟨bl, off + q * 2, none⟩) hbl).trans hx1
      have d2 := (hB.cell (p := ⟨bl, off + q * 2 + 1, none⟩) hbl).trans hy1
      have hts := take_next es q (0, 0) hql
      have hmem : es.getD q (0, 0) ∈ es := by simp [List.getD, hql]
      obtain ⟨⟨x, y⟩, hx⟩ : ∃ e, e = es.getD q (0, 0) := ⟨_, rfl⟩
      rw [← hx] at d1 d2 hts hmem
      obtain ⟨p0, p1, y0, y1⟩ := HES.out _ hmem
      simp only at d1 d2 p0 p1 y0 y1
      obtain ⟨p, rfl⟩ := Int.eq_ofNat_of_zero_le p0
      have hpn : p < n := by omega
      have cs2 := (hB.cell (p := ⟨b2, off2 + p, none⟩) hb2l).trans (HST.out p hpn)
      have hpi : (p : Int) < (n : Int) := by omega
      have HMEM : Hid (((p : Int), y) ∈ es) := hmem
      have HTS := Lib.hid hts
      have hdq : decide ((q : Int) < (es.length : Int)) = true := by simpa using hql
      clear hc3 hcell hx1 hy1 hx hmem hts hci
      obtain ⟨wo, rfl⟩ : ∃ wo : World, wo = wr := ⟨_, rfl⟩
      by_cases e1 : y = (i : Int)
      · have t1 : (y == (i : Int)) = true := by simpa using e1
        by_cases e2 : st.getD p 0 = 2
        · have hnew : Hid (∀ e ∈ es.take (q + 1), e.2 = (i : Int) → st.getD e.1.toNat 0 = 2) := by
            intro e he h2
            rw [HTS.out] at he
            rcases List.mem_append.1 he with he | he
            · exact hall.out e he h2
            · rw [List.mem_singleton.1 he]; exact e2
          rw [e2] at cs2
          clear e1 e2 hall
          go_wp2
          go_quiet (fail)
          go_wp2
          go_roundg g
          case measure => omega
          case rel => exact ⟨q + 1, by omega, by go_num, hnew, below_drewN hbr nq⟩
        · have hw := HWF.out ⟨_, HMEM.out, e1, e2⟩
          have t2 : (st.getD p 0 != 2) = true := by simpa using e2
          generalize st.getD p 0 = z at cs2 t2
          clear e1 e2 hall
          go_wp2
          go_quiet (fail)
          have hB2 := below_drewN hB nq
          go_wp2
          go_ret
          exact ⟨ret_bool hw.out.symm, hB2⟩
      · have t1 : (y == (i : Int)) = false := by simpa using e1
        have hnew : Hid (∀ e ∈ es.take (q + 1), e.2 = (i : Int) → st.getD e.1.toNat 0 = 2) := by
          intro e he h2
          rw [HTS.out] at he
          rcases List.mem_append.1 he with he | he
          · exact hall.out e he h2
          · rw [List.mem_singleton.1 he] at h2; exact absurd h2 e1
        clear e1 hall
        go_wp2
        go_quiet (fail)
        go_wp2
        go_roundg g
        case measure => omega
        case rel => exact ⟨q + 1, by omega, by go_num, hnew, below_drewN hbr nq⟩

end Go.Proofs.YtelioljmhlabjaaDoor
