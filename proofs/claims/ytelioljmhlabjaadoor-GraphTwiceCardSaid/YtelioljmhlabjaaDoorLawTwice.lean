/- Walk of the law GraphTwice: it answers true, whatever the graph and the node. -/
import Derived.Test.YtelioljmhlabjaaDoorLawOrders
import Derived.Test.YtelioljmhlabjaaDoorRed
import Derived.Test.YtelioljmhlabjaaDoorTwiceP
import Derived.Deep.LoopGhost
namespace Go.Proofs.YtelioljmhlabjaaDoor
open Go.RowKit
set_option maxRecDepth 100000

theorem pairs_val {w : World} {v : Value} {xs : List (Int × Int)} (h : PairsAt w v xs) : ∃ ao cap, v = .slice ao xs.length cap ∧ xs.length ≤ 17592186044416 ∧ xs.length ≤ cap := by
  obtain ⟨ao, cap, hv, hl, hm, _⟩ := h
  exact ⟨ao, cap, hv, hl, hm.1⟩
theorem redCycle {m : Nat} {es : List (Int × Int)} (h : lookE m es [] = 0) (hl : (kahn m es).length ≠ m) : reduceR m es = ([], 130) := by
  have hk := (kahn_ok m es).len
  have : (orderR m es).2 = 130 := by
    unfold orderR
    rw [if_pos h, Int.toNat_natCast, if_pos (by omega)]
  unfold reduceR
  rw [this, if_neg (by decide)]
theorem redBad {n : Int} {es : List (Int × Int)} (h : lookE n es [] ≠ 0) : reduceR n es = ([], lookE n es []) := by
  have : (orderR n es).2 = lookE n es [] := by unfold orderR; rw [if_neg h]
  unfold reduceR
  rw [this, if_neg h]
/-- Nothing is told of a graph that isn't reduced, or has no nodes. -/
theorem red_none {n : Int} {es : List (Int × Int)} (h : (reduceR n es).2 ≠ 0 ∨ n = 0) : (reduceR n es).1 = [] := by
  unfold reduceR at h ⊢
  split
  · rename_i h0
    rw [if_pos h0] at h
    rcases h with h | h
    · exact absurd rfl h
    · subst h; rfl
  · rfl
theorem red_some {n : Int} {es : List (Int × Int)} (h : (reduceR n es).2 = 0) : (orderR n es).2 = 0 := by
  unfold reduceR at h
  split at h
  · assumption
  · exact h

theorem cells_two (w : World) (x y : Value) (T : TypeId) : ∀ (j : Nat) (u : Value), [x, y][j]? = some u → (w.alloc (.cells #[x, y] T)).cell? ((⟨w.heap.size, 0, none⟩ : Addr).add j) = some u := by
  intro j u hu
  rw [Addr.add_lit, cell_of_row _ _ _ _ _ _ (heap_alloc_new w (.cells #[x, y] T))]
  simpa using hu

/-- The node that is picked. -/
theorem pick_node (fr : Int) (m : Nat) (h : 0 < m) (hm : m ≤ 512) : ∃ f : Nat, f < m ∧ wrap64 ((IntKind.u64.wrap fr).tmod m) = (f : Int) := by
  obtain ⟨x, hx⟩ := Int.eq_ofNat_of_zero_le (show 0 ≤ IntKind.u64.wrap fr by rw [IntKind.wrap_u64]; omega)
  refine ⟨x % m, Nat.mod_lt _ h, ?_⟩
  have e : ((x : Int)).tmod (m : Int) = ((x % m : Nat) : Int) := by rw [Int.tmod_eq_emod_of_nonneg (by omega)]; simp
  have := Nat.mod_lt x h
  rw [hx, e]
  unfold wrap64
  omega
/-- A new slice of one int. -/
theorem ints_one_new (w : World) (x : Int) : IntsAt (w.alloc (.cells #[.int .i64 x] 3)) (.slice (some ⟨w.heap.size, 0, none⟩) 1 1) [x] :=
  ⟨_, _, rfl, by simp, ⟨by simp, by omega, fun e => by cases e⟩, fun _ => ⟨w.heap.size, 0, rfl, by simp, fun i hi => by
    have : i = 0 := by simp at hi; omega
    subst this
    rw [cell_of_row _ _ _ _ _ _ (heap_alloc_new w (.cells #[.int .i64 x] 3))]
    rfl⟩⟩

set_option maxHeartbeats 8000000 in
theorem graphTwice_any (v : Value) (es : List (Int × Int)) (n fr : Int) (w : World) (hT : Tab w) (h : PairsAt w v es) :
    Calls Tryd.prog 8 #[.int .i64 n, v, .int .i64 fr] w (LawPost w) := by
  have hend : ∀ w', Below w.heap.size w w' → LawPost w (.returned (.bool true)) w' := fun _ h => ⟨rfl, h⟩
  have HE := Lib.hid hend
  clear hend
  by_cases hs : (decide (n ≤ 60) && decide (es.length ≤ 120)) = true
  · have hs2 := hs
    simp only [Bool.and_eq_true, decide_eq_true_eq] at hs2
    obtain ⟨hn60, hl120⟩ := hs2
    go_enter Tryd.func8, Tryd.ntmps8
    go_wp2_with fail
    refine (awake_any w hT).mono ?_
    rintro e w1 ⟨rfl, hb1⟩
    have hT1 := hT.mono hb1
    have h1 := h.mono hb1
    clear hT h
    go_wp2_with fail
    refine (small_any n v es w1 h1).mono ?_
    rintro e w2 ⟨rfl, rfl⟩
    rw [hs]
    go_wp2_with fail
    refine (own_any v es w1 h1 (by omega)).mono ?_
    rintro e w2 ⟨iv, rfl, hown, hb2⟩
    have hb12 : Below w.heap.size w w2 := hb1.trans (hb2.mono hb1.size)
    have hin : PairsAt w2 iv es := pairs_of_own hown (by omega)
    have hT2 := hT1.mono hb2
    have h2 := h1.mono hb2
    clear hb1 hb2 hT1 h1 hown
    go_wp2_with fail
    refine (Reduce_any iv es n w2 hT2 hin).mono ?_
    rintro e w3 ⟨lv, rfl, hli, hb3⟩
    have hbA : Below w.heap.size w w3 := hb12.trans (hb3.mono hb12.size)
    have hE := h2.mono hb3
    have hTA := hT2.mono hb3
    clear hb12 hb3 hT2 h2 hin
    by_cases hq : (reduceR n es).2 ≠ 0 ∨ n = 0
    · have hq1 := red_none hq
      rw [hq1] at hli
      obtain ⟨ao, cap, hv, _, _⟩ := pairs_val hli
      simp only [List.length_nil] at hv
      subst hv
      have HF := Lib.hid (HE.out _ hbA)
      clear hli hq1 hbA hE hTA
      generalize (reduceR n es).2 = c at hq
      by_cases hc : c = 0
      · have hn : n = 0 := by rcases hq with h | h; exact absurd hc h; exact h
        subst hc hn
        go_wp2_with fail
        go_ret
        exact HF.out
      · have hne : (c != 0) = true := by simpa using hc
        clear hq
        go_wp2_with fail
        go_ret
        exact HF.out
    · have hq2 : (reduceR n es).2 = 0 := by
        apply Classical.byContradiction
        intro hh
        exact hq (Or.inl hh)
      have hn0 : n ≠ 0 := fun hh => hq (Or.inr hh)
      obtain ⟨m, rfl, hm, hes, hk, ho⟩ := orderR_zero (red_some hq2)
      have hm0 : 0 < m := by omega
      have hRR : (reduceR (m : Int) es).1 = redL m es := by
        unfold reduceR; rw [if_pos (red_some hq2), Int.toNat_natCast]
      rw [hRR] at hli
      rw [hq2]
      have HTF := Lib.hid (fun f hf => twice_facts hm hl120 hes hk f hf)
      have HO : Hid ((orderR (m : Int) es).2 = 0) := red_some hq2
      obtain ⟨hll, hm1, hy1, _, _⟩ := HTF.out 0 hm0
      generalize redL m es = l at hli hll hm1 hy1 HTF
      have HM1 := Lib.hid hm1
      have HY1 := Lib.hid hy1
      clear hq hq2 hRR hs hes hk ho hm1 hy1
      go_wp2_with fail
      refine (own_any lv l w3 hli (by omega)).mono ?_
      rintro e w4 ⟨iv4, rfl, hown, hb⟩
      have hin := pairs_of_own hown (by omega)
      replace hbA := hbA.trans (hb.mono hbA.size)
      replace hE := hE.mono hb
      replace hTA := hTA.mono hb
      replace hli := hli.mono hb
      clear hown hb
      go_wp2_with fail
      refine (Reduce_any iv4 l m w4 hTA hin).mono ?_
      rintro e w5 ⟨mv, rfl, hmv, hb⟩
      rw [HM1.out] at hmv ⊢
      replace hbA := hbA.trans (hb.mono hbA.size)
      replace hE := hE.mono hb
      replace hTA := hTA.mono hb
      replace hli := hli.mono hb
      clear hin hb
      go_wp2_with fail
      refine (own_any v es w5 hE (by omega)).mono ?_
      rintro e w6 ⟨iv6, rfl, hown, hb⟩
      have hin := pairs_of_own hown (by omega)
      replace hbA := hbA.trans (hb.mono hbA.size)
      replace hTA := hTA.mono hb
      replace hli := hli.mono hb
      replace hmv := hmv.mono hb
      clear hown hb hE
      go_wp2_with fail
      refine (Order_any iv6 es m w6 hTA hin).mono ?_
      rintro e w7 ⟨xv, rfl, hxv, hb⟩
      rw [HO.out]
      replace hbA := hbA.trans (hb.mono hbA.size)
      replace hTA := hTA.mono hb
      replace hli := hli.mono hb
      replace hmv := hmv.mono hb
      clear hin hb
      go_wp2_with fail
      refine (own_any lv l w7 hli (by omega)).mono ?_
      rintro e w8 ⟨iv8, rfl, hown, hb⟩
      have hin := pairs_of_own hown (by omega)
      replace hbA := hbA.trans (hb.mono hbA.size)
      replace hTA := hTA.mono hb
      replace hli := hli.mono hb
      replace hmv := hmv.mono hb
      replace hxv := hxv.mono hb
      clear hown hb
      go_wp2_with fail
      refine (Order_any iv8 l m w8 hTA hin).mono ?_
      rintro e w9 ⟨yv, rfl, hyv, hb⟩
      rw [HY1.out] at hyv ⊢
      rw [HO.out]
      replace hbA := hbA.trans (hb.mono hbA.size)
      replace hTA := hTA.mono hb
      replace hli := hli.mono hb
      replace hmv := hmv.mono hb
      replace hxv := hxv.mono hb
      clear hin hb
      generalize (orderR (m : Int) es).1 = ks at hxv hyv
      clear HO HY1 HM1
      obtain ⟨f, hf, hfw⟩ := pick_node fr m hm0 hm
      obtain ⟨_, _, _, hr1, hz1⟩ := HTF.out f hf
      have HR1 := Lib.hid hr1
      have HZ1 := Lib.hid hz1
      clear hr1 hz1 HTF
      go_wp2_with fail
      rw [hfw]
      clear hfw
      refine (own_any lv l w9 hli (by omega)).mono ?_
      rintro e w10 ⟨iv10, rfl, hown, hb⟩
      have hin := pairs_of_own hown (by omega)
      replace hbA := hbA.trans (hb.mono hbA.size)
      replace hTA := hTA.mono hb
      replace hli := hli.mono hb
      replace hmv := hmv.mono hb
      replace hxv := hxv.mono hb
      replace hyv := hyv.mono hb
      clear hown hb
      have hb := below_new w10 (.cells #[.int .i64 (f : Int)] 3)
      have hfr := ints_one_new w10 (f : Int)
      replace hbA := hbA.trans (hb.mono hbA.size)
      replace hTA := hTA.mono hb
      replace hli := hli.mono hb
      replace hmv := hmv.mono hb
      replace hxv := hxv.mono hb
      replace hyv := hyv.mono hb
      replace hin := hin.mono hb
      clear hb
      go_wp2_with fail
      refine (Reach_any iv10 _ l [(f : Int)] m _ hTA hin hfr (by simp)).mono ?_
      rintro e w11 ⟨rv, rfl, hrv, hb⟩
      rw [HR1.out] at hrv ⊢
      have hrl := allL_len m l [f]
      generalize allL m l [f] = r at hrv hrl HZ1
      replace hbA := hbA.trans (hb.mono hbA.size)
      replace hTA := hTA.mono hb
      replace hli := hli.mono hb
      replace hmv := hmv.mono hb
      replace hxv := hxv.mono hb
      replace hyv := hyv.mono hb
      clear hin hb hfr HR1
      go_wp2_with fail
      refine (own_any lv l w11 hli (by omega)).mono ?_
      rintro e w12 ⟨iv12, rfl, hown, hb⟩
      have hb11 := hbA
      have hT11 := hTA
      clear hbA hTA
      have hbl : w11.heap.size ≤ w12.heap.size := hb.size
      obtain ⟨aor, capr, hv, hrll, hrlc⟩ := hrv.val
      rw [ints_len] at hv hrll hrlc
      subst hv
      obtain ⟨i34, hi34, hz34, hs34, hy34⟩ := info_parts Tryd.info34
      go_wp2_with fail
      go_loopg [17, 87] r.length (fun g v17 v87 wr => ∃ q : Nat, q + g = r.length ∧ v87 = .int .i64 q ∧ wr.ownsRow w11.heap.size 34 2 v17 (l ++ moreL f (r.take q)).length (pairCells (l ++ moreL f (r.take q))) ∧ Below w11.heap.size w11 wr)
      case atStart => exact ⟨0, by omega, rfl, by simpa [moreL_nil] using hown, hb⟩
      case round =>
        obtain ⟨q, hqg, rfl, hownq, hbq⟩ := hrel
        clear hown hb hbl
        cases gk with
        | zero =>
          have hq : q = r.length := by omega
          rw [hq, List.take_length] at hownq
          have hqn : ¬ (q : Int) < (r.length : Int) := by omega
          have hml := moreL_len f r
          have hmo : PairsAt wr u17 (l ++ moreL f r) := pairs_of_own hownq (by rw [List.length_append]; omega)
          have hb0 : Below w.heap.size w wr := hb11.trans (hbq.mono hb11.size)
          have hTz := hT11.mono hbq
          have hliz := hli.mono hbq
          have hmvz := hmv.mono hbq
          have hxvz := hxv.mono hbq
          have hyvz := hyv.mono hbq
          clear hownq hbq hT11 hli hmv hxv hyv hrv hb11
          have RZ := Reduce_any u17 (l ++ moreL f r) m wr hTz hmo
          unfold ReducePost at RZ
          rw [HZ1.out] at RZ
          clear HZ1 hmo
          go_wp2_with fail
          refine RZ.mono ?_
          rintro e w13 ⟨zv, rfl, hzv, hb⟩
          have SM := same_any lv mv l l w13 (hliz.mono hb) (hmvz.mono hb)
          rw [beq_self_eq_true] at SM
          replace hb0 := hb0.trans (hb.mono hb0.size)
          replace hliz := hliz.mono hb
          replace hxvz := hxvz.mono hb
          replace hyvz := hyvz.mono hb
          clear hb RZ hTz hmvz
          go_wp2_with fail
          refine SM.mono ?_
          rintro e w14 ⟨rfl, hb⟩
          have SZ := same_any lv zv l l w14 (hliz.mono hb) (hzv.mono hb)
          rw [beq_self_eq_true] at SZ
          replace hb0 := hb0.trans (hb.mono hb0.size)
          replace hxvz := hxvz.mono hb
          replace hyvz := hyvz.mono hb
          clear hb SM hliz hzv
          go_wp2_with fail
          refine SZ.mono ?_
          rintro e w15 ⟨rfl, hb⟩
          have IN := ints_any xv yv ks ks w15 (hxvz.mono hb) (hyvz.mono hb)
          rw [beq_self_eq_true] at IN
          replace hb0 := hb0.trans (hb.mono hb0.size)
          clear hb SZ hxvz hyvz
          go_wp2_with fail
          refine IN.mono ?_
          rintro e w16 ⟨rfl, hb⟩
          have HF := Lib.hid (HE.out _ (hb0.trans (hb.mono hb0.size)))
          clear hb hb0 IN
          go_wp2_with fail
          go_ret
          exact HF.out
        | succ g =>
          have hql : q < r.length := by omega
          have hrq := hrv.mono hbq
          obtain ⟨b2, off2, rfl, hb2l, hc2⟩ := hrq.get (i := q) (by rw [ints_len]; exact hql)
          rw [ints_take] at hc2
          have hts : Hid (r.take (q + 1) = r.take q ++ [r.getD q 0]) := take_next r q 0 hql
          generalize r.getD q 0 = k at hc2 hts
          have hdq : decide ((q : Int) < (r.length : Int)) = true := by simpa using hql
          have hxl := moreL_len f (r.take q)
          rw [List.length_take] at hxl
          have hlen : (l ++ moreL f (r.take q)).length ≤ 700 := by rw [List.length_append]; omega
          by_cases hkf : k = f
          · have hst : Hid (moreL f (r.take (q + 1)) = moreL f (r.take q)) := by
              rw [Hid, hts.out, moreL_snoc, if_pos hkf]
            have hne : ((k : Int) != (f : Int)) = false := by simp [hkf]
            clear hrq hkf
            go_wp2_with fail
            go_roundg g
            case measure => omega
            case rel => exact ⟨q + 1, by omega, by go_num, by rw [hst.out]; exact hownq, hbq⟩
          · have hst : Hid (l ++ moreL f (r.take (q + 1)) = (l ++ moreL f (r.take q)) ++ [((f : Int), (k : Int))]) := by
              rw [Hid, hts.out, moreL_snoc, if_neg hkf, List.append_assoc]
            have hne : ((k : Int) != (f : Int)) = true := by simp; omega
            clear hrq hkf hxl
            generalize l ++ moreL f (r.take q) = xs at hst hownq hlen
            go_wp2_with (at_builtin; refine wpList_append_fresh _ rfl (.tmp 94) (.tmp 98) 22 rfl w11.heap.size 34 i34 _ 2 16 Tryd.underlying22 hi34 hz34 hs34 hy34 rfl (by decide) _ _ _ rfl (hownq.alloc _) ⟨wr.heap.size, 0, none⟩ 1 1 [.int .i64 f, .int .i64 k] rfl rfl ?a1 ?a2 ?a3 ?a4 ?a5 ?_)
            case a1 => exact cells_two _ _ _ _
            case a2 => intro u hu; simp at hu; rcases hu with rfl | rfl <;> rfl
            case a3 => unfold maxLen; omega
            case a4 => omega
            case a5 => have := hbq.size; simp; omega
            intro v' w5 hown5 hgrow5 _
            have hown6 : w5.ownsRow w11.heap.size 34 2 v' (xs ++ [((f : Int), (k : Int))]).length (pairCells (xs ++ [((f : Int), (k : Int))])) := by
              rw [pairCells_snoc, List.length_append]; exact hown5
            have hb5 : Below w11.heap.size w11 w5 := (hbq.alloc hbq.size _).grown hgrow5 (by have := hbq.size; simp; omega) (fun k e => (hownq.lt _ e).1)
            clear hown5 hgrow5 hownq hbq
            go_wp2
            go_roundg g
            case measure => omega
            case rel => exact ⟨q + 1, by omega, by go_num, by rw [hst.out]; exact hown6, hb5⟩
  · have hs2 : (decide (n ≤ 60) && decide (es.length ≤ 120)) = false := by simpa using hs
    go_enter Tryd.func8, Tryd.ntmps8
    go_wp2_with fail
    refine (awake_any w hT).mono ?_
    rintro e w1 ⟨rfl, hb1⟩
    have hT1 := hT.mono hb1
    have h1 := h.mono hb1
    clear hT h hs
    go_wp2_with fail
    refine (small_any n v es w1 h1).mono ?_
    rintro e w2 ⟨rfl, rfl⟩
    rw [hs2]
    go_wp2_with fail
    refine (awake_any w1 hT1).mono ?_
    rintro e w2 ⟨rfl, hb2⟩
    have HF := Lib.hid (HE.out _ (hb1.trans (hb2.mono hb1.size)))
    clear hb1 hb2 hT1 h1
    go_wp2_with fail
    go_ret
    exact HF.out

end Go.Proofs.YtelioljmhlabjaaDoor
