/- Walk of the program's Reduce: the edges that no other way stands for. -/
import Derived.Test.YtnjbdedmalpccaaDoorGrReached
import Derived.Test.YtnjbdedmalpccaaDoorMGrOrder
import Derived.WalkMore
import Derived.Deep.LoopGhost
namespace Go.Proofs.YtnjbdedmalpccaaDoor
open Go.RowKit
set_option maxRecDepth 100000

def ReducePost (n : Int) (es : List (Int × Int)) (w : World) (e : Ending) (w' : World) : Prop :=
  ∃ v', e = .returned (.tuple #[v', .int .i64 (reduceR n es).2]) ∧ PairsAt w' v' (reduceR n es).1 ∧ Below w.heap.size w w'

/-- The memory of Reduce: what is behind each node, and to which a way goes. -/
structure RdM (w wr : World) (N F n : Nat) (es : List (Int × Int)) : Prop where
  tab : Tab wr
  old : Below w.heap.size w wr
  nx : WRow wr N 88 n (fun k j => wd (succS es k) j)
  fr : WRow wr F 88 n (fun k j => wd (wayS n es k) j)
theorem RdM.below {w wr w' : World} {N F n : Nat} {es : List (Int × Int)} (h : RdM w wr N F n es) (hb : Below wr.heap.size wr w') : RdM w w' N F n es :=
  ⟨h.tab.mono hb, h.old.trans (hb.mono h.old.size), h.nx.kept (hb.block _ h.nx.lt), h.fr.kept (hb.block _ h.fr.lt)⟩

theorem rowL_len (n : Nat) (es : List (Int × Int)) (a : Nat) (l : List Nat) : (rowL n es a l).length ≤ l.length := by
  unfold rowL
  rw [List.length_map]
  exact List.length_filter_le _ _
theorem rowsL_len (n : Nat) (es : List (Int × Int)) : ∀ k, (rowsL n es k).length ≤ k * 512
  | 0 => by simp [rowsL]
  | k + 1 => by
    rw [rowsL_succ, List.length_append]
    have := rowsL_len n es k
    have := rowL_len n es k (nodes (succS es k))
    have := nodes_le (succS es k)
    omega
theorem pairCells_snoc (l : List (Int × Int)) (a b : Int) : pairCells (l ++ [(a, b)]) = pairCells l ++ [.int .i64 a, .int .i64 b] := by simp [pairCells]

set_option maxHeartbeats 8000000 in
theorem Reduce_any (v : Value) (es : List (Int × Int)) (n : Int) (w : World) (hT : Tab w) (h : PairsAt w v es) :
    Calls Tryd.prog 20 #[.int .i64 n, v] w (ReducePost n es w) := by
  obtain ⟨i34, hi34, hz34, hs34, hy34⟩ := info_parts Tryd.info56
  have OR := Order_any v es n w hT h
  by_cases h0 : (orderR n es).2 = 0
  · obtain ⟨m, rfl, hm, hes, hk, ho⟩ := orderR_zero h0
    have HR : Hid (reduceR (m : Int) es = (redL m es, 0)) := by rw [Hid]; unfold reduceR; rw [if_pos h0, Int.toNat_natCast]
    have HRR : Hid (rowsL m es m = redL m es) := rowsL_red hm hes
    have hself : ∀ i k, k ∈ nodes (succS es i) → k ≠ i := fun i k hk' e => by
      subst e
      have he : EdgeL es k k := (succS_bit es k k (fun e he => (hes e he).2.2.1)).1 ((mem_nodes _ _).1 hk').2
      exact Nat.lt_irrefl _ (rises_of hes hk _ _ he)
    have hbd : ∀ i k, k ∈ nodes (succS es i) → k < m := fun i k hk' => by
      have hmm := (succS_bit es i k (fun e he => (hes e he).2.2.1)).1 ((mem_nodes _ _).1 hk').2
      have := (hes _ hmm).2.2.2
      simpa using this
    have hst : ∀ k, k < m → stF es (kahn m es).reverse k = wayS m es k := fun k hk' => stF_all hm hes hk k hk'
    have hlt : ∀ i ∈ kahn m es, i < m := (kahn_ok m es).lt
    have HS := Lib.hid hself
    have HBD := Lib.hid hbd
    have HST := Lib.hid hst
    have HLT := Lib.hid hlt
    have HES := Lib.hid hes
    have HO := Lib.hid ho
    have H0 := Lib.hid h0
    clear hself hbd hst hlt hes hk ho h0
    go_enter Tryd.func20, Tryd.ntmps20
    go_wp2_with fail
    refine OR.mono ?_
    rintro e w1 ⟨lv, rfl, hli, hb1⟩
    rw [H0.out]
    rw [HO.out] at hli
    have NX := nexts_any v es m w1 (h.mono hb1) hm HES.out
    have hT1 := hT.mono hb1
    clear OR hT h
    go_wp2_with fail
    refine NX.mono ?_
    rintro e w2 ⟨rfl, hr2, hb2⟩
    have hb12 : Below w.heap.size w w2 := hb1.trans (hb2.mono hb1.size)
    have RE := reached_any w1.heap.size m lv es (kahn m es) w2 (hT1.mono hb2) hr2 (hli.mono hb2) hm HES.out HLT.out HS.out
    have hT2 := hT1.mono hb2
    clear NX hb1 hb2 hli hT1
    obtain ⟨N, hN⟩ : ∃ N, N = w1.heap.size := ⟨_, rfl⟩
    rw [← hN] at hr2 RE ⊢
    clear hN
    go_wp2_with fail
    refine RE.mono ?_
    rintro e w3 ⟨F, rfl, hr3, hb3, hF⟩
    have hM3 : RdM w w3 N F m es := ⟨hT2.mono hb3, hb12.trans (hb3.mono hb12.size), hr2.kept (hb3.block _ hr2.lt), hr3.congr (fun k j hk _ => by rw [HST.out k hk])⟩
    clear RE hr2 hr3 hb3 hb12 hT2 hF
    go_wp2
    go_loopw [10, 34] (fun v10 v34 wr => ∃ i : Nat, i ≤ m ∧ v34 = .int .i64 i ∧ wr.ownsRow w3.heap.size 56 2 v10 (rowsL m es i).length (pairCells (rowsL m es i)) ∧ Below w3.heap.size w3 wr) (fun _ v34 _ => m - (intOf v34).toNat)
    case atStart => exact ⟨0, by omega, rfl, World.ownsRow_nil _ _ _ _, Below.refl _ _⟩
    case round =>
      obtain ⟨i, hi, rfl, hown, hb⟩ := hrel
      by_cases him : i < m
      · have hMr := hM3.below hb
        have LI := list_any N (i * 8) (succS es i) wr hMr.tab hMr.nx.lt (fun j hj => hMr.nx.cell him hj)
        go_wp2
        go_step3
        have hks : Hid (∀ k ∈ nodes (succS es i), k < m) := fun k hk => HBD.out i k hk
        have hkp : Hid (∀ b, keepB m es i b = !(nodes (succS es i)).any fun m' => (wayS m es m').testBit b) := fun b => rfl
        have hrs : Hid (rowsL m es (i + 1) = rowsL m es i ++ rowL m es i (nodes (succS es i))) := rowsL_succ m es i
        have hkl := nodes_le (succS es i)
        have hrl := rowsL_len m es i
        generalize nodes (succS es i) = ks at LI hks hkp hrs hkl
        go_wp2_with fail
        refine LI.mono ?_
        rintro e w4 ⟨lv2, rfl, hli2, hb4, hfr2⟩
        have hown4 := own_below hown hb4
        have hb34 : Below w3.heap.size w3 w4 := hb.trans (hb4.mono hb.size)
        have hne4 : ∀ k, lv2.ownBlock = some k → u10.ownBlock ≠ some k := fun k e e2 => by
          have h1 := hfr2 k e
          have h2 := (hown.lt _ e2).2
          omega
        clear hown hb LI hb4 hfr2 hMr
        obtain ⟨ao2, cap2, hv2, hll2, hlc2⟩ := hli2.val
        rw [List.length_map] at hv2 hll2 hlc2
        subst hv2
        go_wp2
        go_step3
        go_wp2
        go_loopg [10, 43] ks.length (fun g v10 v43 wr => ∃ q : Nat, q + g = ks.length ∧ v43 = .int .i64 q ∧ wr.ownsRow w3.heap.size 56 2 v10 (rowsL m es i ++ rowL m es i (ks.take q)).length (pairCells (rowsL m es i ++ rowL m es i (ks.take q))) ∧ Below w3.heap.size w3 wr ∧ IntsAt wr (.slice ao2 ks.length cap2) (ks.map fun i : Nat => (i : Int)) ∧ (∀ k, (Value.slice ao2 ks.length cap2).ownBlock = some k → v10.ownBlock ≠ some k))
        case atStart => exact ⟨0, by omega, rfl, by simpa [rowL] using hown4, hb34, hli2, hne4⟩
        case round =>
          obtain ⟨q, hqg, rfl, hownq, hbq, hlq, hneq⟩ := hrel
          cases gk with
          | zero =>
            have hq : q = ks.length := by omega
            rw [hq, List.take_length, ← hrs.out] at hownq
            clear hneq hlq hqg
            have hqn : ¬ (q : Int) < (ks.length : Int) := by omega
            go_wp2
            go_roundw
            case rel => exact ⟨i + 1, by omega, by go_num, hownq, hbq⟩
            case measure => simp [intOf]; omega
          | succ g =>
            have hql : q < ks.length := by omega
            obtain ⟨b2, off2, rfl, hb2l, hc2⟩ := hlq.get (i := q) (by simpa using hql)
            have hts : Hid (ks.take (q + 1) = ks.take q ++ [ks.getD q 0]) := take_next ks q 0 hql
            have hkm := hks.out (ks.getD q 0) (by simp [List.getD, hql])
            have hkd : (ks.map fun i : Nat => (i : Int)).getD q 0 = ((ks.getD q 0 : Nat) : Int) := by simp [List.getD, hql]
            rw [hkd] at hc2
            obtain ⟨k, hk⟩ : ∃ k, k = ks.getD q 0 := ⟨_, rfl⟩
            rw [← hk] at hc2 hkm hts
            clear hkd hk
            have hMq := hM3.below hbq
            have hdq : decide ((q : Int) < (ks.length : Int)) = true := by simpa using hql
            obtain ⟨wq, rfl⟩ : ∃ wq : World, wq = wr := ⟨_, rfl⟩
            go_wp2
            go_loopg [49] ks.length (fun g2 v49 wr => ∃ r : Nat, r + g2 = ks.length ∧ v49 = .int .i64 r ∧ Hid ((ks.take r).any (fun m' => (wayS m es m').testBit k) = false) ∧ wq = wr)
            case atStart => exact ⟨0, by omega, rfl, rfl, rfl⟩
            case round =>
              obtain ⟨r, hrg, rfl, hany, rfl⟩ := hrel
              cases gk with
              | zero =>
                have hr : r = ks.length := by omega
                have hkeep : keepB m es i k = true := by
                  have := hany.out
                  rw [hr, List.take_length] at this
                  rw [hkp.out, this]; rfl
                have hrow : Hid (rowL m es i (ks.take (q + 1)) = rowL m es i (ks.take q) ++ [((i : Int), (k : Int))]) := by
                  rw [Hid, hts.out, rowL_snoc, if_pos hkeep]
                have hrl2 := rowL_len m es i (ks.take q)
                rw [List.length_take] at hrl2
                have hrn : ¬ (r : Int) < (ks.length : Int) := by omega
                have hbl : (rowsL m es i ++ rowL m es i (ks.take q)).length ≤ 512 * 512 + 512 := by
                  rw [List.length_append]
                  have : i * 512 ≤ 512 * 512 := Nat.mul_le_mul_right _ (by omega)
                  omega
                clear hkeep hany hrl2 hr hrg
                obtain ⟨xs, hx⟩ : ∃ xs, xs = rowsL m es i ++ rowL m es i (ks.take q) := ⟨_, rfl⟩
                rw [← hx] at hownq hbl
                have hxs : Hid (rowsL m es i ++ rowL m es i (ks.take q) = xs) := hx.symm
                clear hx
                go_wp2_with (at_builtin; refine wpList_append_fresh _ rfl (.tmp 59) (.tmp 63) 43 rfl w3.heap.size 56 i34 _ 2 16 Tryd.underlying43 hi34 hz34 hs34 hy34 rfl (by decide) _ _ _ rfl (hownq.alloc _) ⟨wq.heap.size, 0, none⟩ 1 1 [.int .i64 i, .int .i64 k] rfl rfl ?a1 ?a2 ?a3 ?a4 ?a5 ?_)
                case a2 => exact ⟨rfl, rfl⟩
                case a3 => unfold maxLen; omega
                case a4 => omega
                case a5 => have := hbq.size; simp; omega
                intro v' w5 hown5 hgrow5 hfr5
                have hown6 : w5.ownsRow w3.heap.size 56 2 v' (xs ++ [((i : Int), (k : Int))]).length (pairCells (xs ++ [((i : Int), (k : Int))])) := by
                  rw [pairCells_snoc, List.length_append]; exact hown5
                have hb5 : Below w3.heap.size w3 w5 := (hbq.alloc hbq.size _).grown hgrow5 (by have := hbq.size; simp; omega) (fun k e => (hownq.lt _ e).1)
                have hlo5 : IntsAt w5 (.slice (some ⟨b2, off2, none⟩) ks.length cap2) (ks.map fun i : Nat => (i : Int)) := hlq.keep (Nat.le_trans (by simp) hgrow5.size) (fun j e hj => by
                  refine (hgrow5.block j (by simp; omega) (fun e2 => hneq j e e2.symm)).trans ?_
                  exact Below.heap_alloc _ _ _ hj)
                have hne5 : ∀ j, (Value.slice (some ⟨b2, off2, none⟩) ks.length cap2).ownBlock = some j → v'.ownBlock ≠ some j := fun j e e2 => by
                  have hj : b2 = j := by injection e
                  rcases hfr5 with h5 | h5
                  · exact hneq j e (h5.symm.trans e2)
                  · rw [e2] at h5
                    have := Option.some.inj h5
                    try simp at this
                    omega
                have HF5 := Lib.hid hne5
                clear hown5 hgrow5 hfr5 hownq hbq hlq hneq hne5 hMq
                go_wp2
                go_roundg g
                case measure => omega
                case rel => exact ⟨q + 1, by omega, by go_num, by rw [hrow.out, ← List.append_assoc, hxs.out]; exact hown6, hb5, hlo5, HF5.out⟩
              | succ g2 =>
                have hrl2 : r < ks.length := by omega
                obtain ⟨b3, off3, hb3e, hb3l, hc3⟩ := hlq.get (i := r) (by simpa using hrl2)
                injection hb3e with hb3e
                injection hb3e with e1 e2 e3
                subst e1 e2
                have htr : Hid (ks.take (r + 1) = ks.take r ++ [ks.getD r 0]) := take_next ks r 0 hrl2
                have hjm := hks.out (ks.getD r 0) (by simp [List.getD, hrl2])
                have hkd : (ks.map fun i : Nat => (i : Int)).getD r 0 = ((ks.getD r 0 : Nat) : Int) := by simp [List.getD, hrl2]
                have hmem : ks.getD r 0 ∈ ks := by simp [List.getD, hrl2]
                rw [hkd] at hc3
                obtain ⟨j, hj⟩ : ∃ j, j = ks.getD r 0 := ⟨_, rfl⟩
                rw [← hj] at hc3 hjm htr hmem
                clear hkd hj
                have HA := has_any' F 88 m j k _ wq hMq.fr hjm (by omega)
                have hdr : decide ((r : Int) < (ks.length : Int)) = true := by simpa using hrl2
                have HME : Hid (j ∈ ks) := hmem
                clear hmem
                by_cases hbt : (wayS m es j).testBit k = true
                · rw [hbt] at HA
                  have hkeep : keepB m es i k = false := by
                    rw [hkp.out, Bool.not_eq_false', List.any_eq_true]
                    exact ⟨j, HME.out, hbt⟩
                  have hrow : Hid (rowL m es i (ks.take (q + 1)) = rowL m es i (ks.take q)) := by
                    rw [Hid, hts.out, rowL_snoc, if_neg (by rw [hkeep]; simp)]
                  clear hkeep hany hbt
                  go_wp2_with (go_at_call 29; refine HA.mono ?_; rintro e w' ⟨rfl, rfl⟩)
                  go_roundg g
                  case measure => omega
                  case rel => exact ⟨q + 1, by omega, by go_num, by rw [hrow.out]; exact hownq, hbq, hlq, hneq⟩
                · have hbf : (wayS m es j).testBit k = false := by simpa using hbt
                  rw [hbf] at HA
                  have hany2 : Hid ((ks.take (r + 1)).any (fun m' => (wayS m es m').testBit k) = false) := by
                    rw [Hid, htr.out, List.any_append, hany.out, List.any_cons, hbf]; rfl
                  clear hbt hbf hany
                  go_wp2_with (go_at_call 29; refine HA.mono ?_; rintro e w' ⟨rfl, rfl⟩)
                  go_roundg g2
                  case measure => omega
                  case rel => exact ⟨r + 1, by omega, by go_num, hany2, rfl⟩
      · have hie : i = m := by omega
        rw [hie, HRR.out] at hown
        have hRL : (redL m es).length ≤ m * 512 := by rw [← HRR.out]; exact rowsL_len m es m
        have hin : ¬ (i : Int) < (m : Int) := by omega
        have hB := hM3.old.trans (hb.mono hM3.old.size)
        go_wp2
        go_ret2
        refine ⟨_, by rw [HR.out]; rfl, ?_, hB⟩
        rw [HR.out]
        exact pairs_of_own hown (by
          have : m * 512 ≤ 512 * 512 := Nat.mul_le_mul_right _ hm
          show (redL m es).length ≤ _
          omega)
  · have HE : Hid (reduceR n es = ([], (orderR n es).2)) := by unfold reduceR; rw [Hid, if_neg h0]
    have hne : ((orderR n es).2 != 0) = true := by simpa using h0
    have hl0 : (orderR n es).1 = [] := orderR_ne h0
    unfold OrderPost at OR
    rw [hl0] at OR
    generalize (orderR n es).2 = c at OR HE hne
    clear h0 hT h hl0
    go_enter Tryd.func20, Tryd.ntmps20
    go_wp2_with fail
    refine OR.mono ?_
    rintro e w1 ⟨lv, rfl, hli, hb1⟩
    clear hli OR
    go_wp2
    go_ret2
    exact ⟨_, by rw [HE.out]; rfl, by rw [HE.out]; exact PairsAt.nil _, hb1⟩

end Go.Proofs.YtnjbdedmalpccaaDoor
