/- Walk of Finish. -/
import Derived.Test.YtelioljmhlabjaaDoorWk3
import Derived.Test.YtelioljmhlabjaaDoorRg34
namespace Go.Proofs.YtelioljmhlabjaaDoor
open Go.RowKit
set_option maxRecDepth 100000

set_option maxHeartbeats 4000000 in
theorem finish_any (b S A N n : Nat) (ev : Value) (rows : List Value) (es : List (Int × Int)) (lim : Int) (st : List Int) (i : Int) (ok : Bool) (w : World) (hT : Tab w) (h0S : 0 < S) (_h0A : 0 < A) (h : WkM w b S A N n ev rows es lim st (cnts n (aheadN es st))) (hes : ∀ e ∈ es, 0 ≤ e.1 ∧ e.1 < n ∧ 0 ≤ e.2 ∧ e.2 < n) (hinv : WInv es st) :
    Calls Tryd.prog 34 #[.pointer (some ⟨b, 0, none⟩), .int .i64 i, .bool ok] w (WkPost b S A N n ev rows es lim (finishR n es st i ok) w) := by
  have ST := status_any b S A N n ev rows es lim st _ i w h
  by_cases h1 : statusR n st i = 1
  · obtain ⟨k, rfl, hk, hs⟩ := statusR_in h1 (by decide)
    rw [h1] at ST
    have hkn : (k : Int) < (n : Int) := by omega
    have c0 := h.c0
    have cs := h.sst.cell (i := k) (by rw [h.lst]; exact hk)
    have fs := h.sst.free k
    obtain ⟨ao, cap, hrv, hrl, hrc⟩ := (h.row k hk).val
    rw [ints_len] at hrv hrl hrc
    have hnl := nxN_len es k
    have hesl := h.hl
    have hn := h.hn
    have hbd : Hid (∀ j ∈ nxN es k, j < n) := fun j hj => by
      have := (hes _ ((mem_nxN (fun e he => (hes e he).2.2.1)).1 hj)).2.2.2
      simpa using this
    have HH := Lib.hid h
    cases ok with
    | true =>
      have hr : finishR n es st k true = (st.set k 2, 0) := by unfold finishR; rw [if_neg (by rw [h1]; simp), if_pos rfl, Int.toNat_natCast]
      rw [hr]
      have hM1 := h.setS k 2
      have hdone : ∀ j, aheadN es (st.set k 2) j + (nxN es k).count j = aheadN es st j := fun j => ahead_done (fun e he => ⟨(hes e he).1, (hes e he).2.2.1⟩) (by rw [h.lst]; exact hk) (by rw [hs]; decide) j
      have HD := Lib.hid hdone
      have hc1 : ChSA S A w (w.setCell ⟨S, k, none⟩ (.int .i64 2)) := (ChSA.refl S A w).setS k _
      have hM2 : WkM (w.setCell ⟨S, k, none⟩ (.int .i64 2)) b S A N n ev rows es lim (st.set k 2) (cnts n (fun j => aheadN es st j - ((nxN es k).take 0).count j)) := hM1.congrA (cnts_congr n _ _ fun j _ => by simp)
      have d2 := hM2.c2
      have dr := hM2.cr hk
      rw [hrv] at dr
      clear h hr h1 hs hdone hM1 hes hinv
      obtain ⟨nx, hnx⟩ : ∃ nx, nx = nxN es k := ⟨_, rfl⟩
      rw [← hnx] at hM2 hrv hrl hrc hnl dr hbd HD
      have hnxr : Hid (nxN es k = nx) := hnx.symm
      clear hnx
      have HRV := Lib.hid hrv
      clear hrv
      go_enter Tryd.func34, Tryd.ntmps34
      go_wp2_with fail
      refine ST.mono ?_
      rintro e w' ⟨rfl, rfl⟩
      clear ST
      go_wp2
      go_loopg [32] nx.length (fun g v32 wr => ∃ q : Nat, q + g = nx.length ∧ v32 = .int .i64 q ∧ WkM wr b S A N n ev rows es lim (st.set k 2) (cnts n (fun j => aheadN es st j - (nx.take q).count j)) ∧ ChSA S A w wr)
      case atStart => exact ⟨0, by omega, rfl, hM2, hc1⟩
      case round =>
        obtain ⟨q, hqg, rfl, hMq, hcq⟩ := hrel
        clear hM2 hc1 d2 dr c0 cs fs
        cases gk with
        | zero =>
          have hq : q = nx.length := by omega
          have hqn : ¬ (q : Int) < (nx.length : Int) := by omega
          have hend : WkPost b S A N n ev rows es lim (st.set k 2, 0) w (.returned (.int .i64 0)) wr := by
            refine ⟨rfl, hMq.congrA (cnts_congr n _ _ fun j _ => ?_), hcq⟩
            rw [hq, List.take_length]
            have := HD.out j
            simp only
            omega
          have HE := Lib.hid hend
          clear hend hMq hcq
          go_wp2
          go_ret
          exact HE.out
        | succ g =>
          have hql : q < nx.length := by omega
          have hqn : (q : Int) < (nx.length : Int) := by omega
          have hrow := hMq.row k hk
          rw [HRV.out, hnxr.out] at hrow
          obtain ⟨b2, off2, rfl, hb2l, hc2⟩ := hrow.get (i := q) (by rw [ints_len]; exact hql)
          rw [ints_take] at hc2
          have hts : Hid (nx.take (q + 1) = nx.take q ++ [nx.getD q 0]) := take_next nx q 0 hql
          have hjn := hbd.out (nx.getD q 0) (by simp [List.getD, hql])
          generalize nx.getD q 0 = j at hc2 hts hjn
          have hcnt : (nx.take q).count j + 1 ≤ aheadN es st j := by
            have h3 := HD.out j
            have h4 : (nx.take (q + 1)).count j ≤ nx.count j := (List.take_sublist _ _).count_le _
            rw [hts.out, List.count_append, List.count_singleton_self] at h4
            omega
          have hal := aheadN_le es st j
          have e0 := hMq.c1
          have ca := hMq.sah.cell (i := j) (by rw [cnts_len]; exact hjn)
          rw [cnts_get n _ j hjn] at ca
          have fa := hMq.sah.free j
          obtain ⟨x, hx⟩ : ∃ x, aheadN es st j - (nx.take q).count j = x + 1 := ⟨aheadN es st j - (nx.take q).count j - 1, by omega⟩
          have hxb : x ≤ 4096 := by omega
          rw [hx] at ca
          have hca : (((x + 1 : Nat) : Int)) = (x : Int) + 1 := by omega
          rw [hca] at ca
          have hjni : (j : Int) < (n : Int) := by omega
          have hMn := hMq.setA j (x : Int)
          rw [cnts_set] at hMn
          have hMn2 : WkM (wr.setCell ⟨A, j, none⟩ (.int .i64 (x : Int))) b S A N n ev rows es lim (st.set k 2) (cnts n (fun j => aheadN es st j - (nx.take (q + 1)).count j)) := by
            refine hMn.congrA (cnts_congr n _ _ fun m _ => ?_)
            rw [hts.out, List.count_append]
            by_cases hm : m = j
            · subst hm
              simp
              omega
            · have : List.count m [j] = 0 := by rw [List.count_eq_zero]; simp; exact hm
              simp [hm, this]
          have hcn := hcq.setA j (.int .i64 (x : Int))
          have HMN := Lib.hid hMn2
          have HCN := Lib.hid hcn
          clear hMn hMn2 hcn hMq hcq hrow hcnt hx hca hal
          go_wp2
          go_roundg g
          case measure => omega
          case rel => exact ⟨q + 1, by omega, by go_num, HMN.out, HCN.out⟩
    | false =>
      have hr : finishR n es st k false = (skipL n es st k, 0) := by unfold finishR; rw [if_neg (by rw [h1]; simp), if_neg (by simp), Int.toNat_natCast]
      rw [hr]
      have hM1 := (h.setS k 3).congrS (skipG_nil h.lst)
      have hc1 : ChSA S A w (w.setCell ⟨S, k, none⟩ (.int .i64 3)) := (ChSA.refl S A w).setS k _
      have hca : ∀ j, aheadN es (skipL n es st k) j = aheadN es st j := ahead_skip hinv hes hs
      have hall := skipG_all (st := st) (i := k) hes
      have hre : reachR (n : Int) es (ints (nxN es k)) = (ints (allL n es (nxN es k)), 0) := by
        have h0 : lookE n es (ints (nxN es k)) = 0 := by
          unfold lookE
          rw [if_neg (by omega), if_neg ?_, if_neg (by omega)]
          rw [Bool.or_eq_true, List.any_eq_true, List.any_eq_true]
          rintro (⟨e, he, hh⟩ | ⟨x, hx, hh⟩)
          · have := hes e he
            unfold outE at hh
            simp at hh
            omega
          · obtain ⟨j, hj, rfl⟩ := List.mem_map.1 hx
            have := hbd.out j hj
            unfold outE at hh
            simp at hh
            omega
        unfold reachR
        rw [if_pos h0, Int.toNat_natCast]
        congr 3
        unfold ints
        rw [List.map_map]
        conv => rhs; rw [← List.map_id (nxN es k)]
        apply List.map_congr_left
        intro x _
        simp
      have halm : ∀ j ∈ allL n es (nxN es k), j < n := fun j hj => (mem_allL.1 hj).1
      have hTd : Tab (w.setCell ⟨S, k, none⟩ (.int .i64 3)).drew := by
        refine ⟨by simpa [World.drew, World.setCell] using hT.1, fun j hj => ?_⟩
        have := World.cell?_of_block (w := w) (w' := (w.setCell ⟨S, k, none⟩ (.int .i64 3)).drew) (a := ⟨0, j, none⟩) (Below.heap_setCell w ⟨S, k, none⟩ (.int .i64 3) 0 (show (0 : Nat) ≠ S by omega))
        rw [this]
        exact hT.2 j hj
      have hMd : WkM (w.setCell ⟨S, k, none⟩ (.int .i64 3)).drew b S A N n ev rows es lim (skipG n st k []) (cnts n (aheadN es st)) := hM1.below ((Below.refl _ _).drew)
      have RC := Reach_fresh ev _ es _ (n : Int) _ hTd hMd.ed (hMd.row k hk) (by rw [ints_len]; omega)
      unfold ReachPostF at RC
      rw [hre, hrv] at RC
      have d0 := hMd.c0
      have d3 := hMd.c3
      have d2 := hMd.c2
      have dr := hMd.cr hk
      rw [hrv] at dr
      have HMd := Lib.hid hMd
      have HAL := Lib.hid hall
      have HCA := Lib.hid hca
      have HLM := Lib.hid halm
      have HC1 := Lib.hid hc1
      clear h hr h1 hs hM1 hc1 hca hall hes hinv hre halm hTd hMd hrv
      generalize allL n es (nxN es k) = l at RC HAL HLM
      have hsd : S < (w.setCell ⟨S, k, none⟩ (.int .i64 3)).drew.heap.size := HMd.out.sst.lt
      go_enter Tryd.func34, Tryd.ntmps34
      go_wp2_with fail
      refine ST.mono ?_
      rintro e w' ⟨rfl, rfl⟩
      clear ST
      go_upto_region 12 with fail
      refine region34 _ _ _ b S N n k ev (.slice ao (nxN es k).length cap) (fun lv w' => IntsAt w' lv (ints l) ∧ ∀ j, lv.ownBlock = some j → j ≠ S) rfl rfl rfl hk d0 d3 d2 dr ?_ ?_
      · refine RC.mono ?_
        rintro e w2 ⟨lv, rfl, hlv, hb, hfr⟩
        exact ⟨lv, rfl, ⟨hlv, fun j e => by have := hfr j e; omega⟩, hb⟩
      · rintro lv wc ⟨hlv, hfr⟩ hb
        obtain ⟨ao9, cap9, hv9, hll9, _⟩ := hlv.val
        rw [ints_len] at hv9 hll9
        subst hv9
        have hMc : WkM wc b S A N n ev rows es lim (skipG n st k []) (cnts n (aheadN es st)) := HMd.out.below hb
        have hcc : ChSA S A w wc := (HC1.out.below ((Below.refl _ _).drew)).below hb
        clear RC d0 d2 d3 dr hb hsd c0 cs fs
        go_wp2
        go_loopg [74] l.length (fun g v74 wr => ∃ q : Nat, q + g = l.length ∧ v74 = .int .i64 q ∧ WkM wr b S A N n ev rows es lim (skipG n st k (l.take q)) (cnts n (aheadN es st)) ∧ ChSA S A w wr ∧ IntsAt wr (.slice ao9 l.length cap9) (ints l))
        case atStart => exact ⟨0, by omega, rfl, hMc, hcc, hlv⟩
        case round =>
          obtain ⟨q, hqg, rfl, hMq, hcq, hlq⟩ := hrel
          clear hMc hcc hlv
          cases gk with
          | zero =>
            have hq : q = l.length := by omega
            have hqn : ¬ (q : Int) < (l.length : Int) := by omega
            have hend : WkPost b S A N n ev rows es lim (skipL n es st k, 0) w (.returned (.int .i64 0)) wr := by
              refine ⟨rfl, (hMq.congrS ?_).congrA (cnts_congr n _ _ fun j _ => (HCA.out j).symm), hcq⟩
              rw [hq, List.take_length]
              exact HAL.out
            have HE := Lib.hid hend
            clear hend hMq hcq hlq hfr
            go_wp2
            go_ret
            exact HE.out
          | succ g =>
            have hql : q < l.length := by omega
            have hqn : (q : Int) < (l.length : Int) := by omega
            obtain ⟨b2, off2, rfl, hb2l, hc2⟩ := hlq.get (i := q) (by rw [ints_len]; exact hql)
            rw [ints_take] at hc2
            have hts : Hid (l.take (q + 1) = l.take q ++ [l.getD q 0]) := take_next l q 0 hql
            have hjn := HLM.out (l.getD q 0) (by simp [List.getD, hql])
            generalize l.getD q 0 = j at hc2 hts hjn
            have e0 := hMq.c0
            have ca := hMq.sst.cell (i := j) (by rw [hMq.lst]; exact hjn)
            have fa := hMq.sst.free j
            have hjni : (j : Int) < (n : Int) := by omega
            have hMn : WkM (wr.setCell ⟨S, j, none⟩ (.int .i64 4)) b S A N n ev rows es lim (skipG n st k (l.take (q + 1))) (cnts n (aheadN es st)) := (hMq.setS j 4).congrS (by rw [hts.out]; exact skipG_snoc _ _ _ _ _)
            have hcn := hcq.setS j (.int .i64 4)
            have hln : IntsAt (wr.setCell ⟨S, j, none⟩ (.int .i64 4)) (.slice (some ⟨b2, off2, none⟩) l.length cap9) (ints l) := hlq.keep (by simp [World.setCell]) (fun m e _ => Below.heap_setCell _ _ _ _ (hfr m e))
            have HMN := Lib.hid hMn
            have HCN := Lib.hid hcn
            have HLN := Lib.hid hln
            clear hMn hcn hln hMq hcq hlq
            go_wp2
            go_roundg g
            case measure => omega
            case rel => exact ⟨q + 1, by omega, by go_num, HMN.out, HCN.out, HLN.out⟩
  · have hr : finishR n es st i ok = (st, 4) := by unfold finishR; rw [if_pos h1]
    rw [hr]
    have HM := Lib.hid h
    have hne : (statusR n st i != 1) = true := by simpa using h1
    generalize statusR n st i = x at ST hne
    clear h hr h1 hinv hes
    go_enter Tryd.func34, Tryd.ntmps34
    go_wp2_with fail
    refine ST.mono ?_
    rintro e w' ⟨rfl, rfl⟩
    clear ST
    go_wp2_with fail
    go_ret
    exact ⟨rfl, HM.out, ChSA.refl _ _ _⟩

end Go.Proofs.YtelioljmhlabjaaDoor
