/- Walk of the law GraphReduces: it answers true, whatever the graph. -/
import Derived.Test.YtelioljmhlabjaaDoorLawOrders
import Derived.Test.YtelioljmhlabjaaDoorRed
import Derived.Test.YtelioljmhlabjaaDoorRRed
import Derived.Deep.Cut
import Derived.Deep.CutRange
import Derived.Deep.RegionWith
namespace Go.Proofs.YtelioljmhlabjaaDoor
open Go.RowKit
set_option maxRecDepth 100000

theorem OwnBools.below {w w' : World} {b : Nat} {bs : List Bool} (h : OwnBools w b bs) (hb : Below w.heap.size w w') : OwnBools w' b bs :=
  (hb.block b (Array.getElem?_eq_some_iff.1 h).1).trans h

theorem PairsAt.val {w : World} {v : Value} {xs : List (Int × Int)} (h : PairsAt w v xs) : ∃ ao cap, v = .slice ao xs.length cap ∧ xs.length ≤ 17592186044416 ∧ xs.length ≤ cap := by
  obtain ⟨ao, cap, hv, hl, hm, _⟩ := h
  exact ⟨ao, cap, hv, hl, hm.1⟩

theorem reduceR_bad {n : Int} {es : List (Int × Int)} (h : lookE n es [] ≠ 0) : reduceR n es = ([], lookE n es []) := by
  have : (orderR n es).2 = lookE n es [] := by unfold orderR; rw [if_neg h]
  unfold reduceR
  rw [this, if_neg h]
theorem reduceR_cycle {m : Nat} {es : List (Int × Int)} (h : lookE m es [] = 0) (hl : (kahn m es).length ≠ m) : reduceR m es = ([], 130) := by
  have hk := (kahn_ok m es).len
  have : (orderR m es).2 = 130 := by
    unfold orderR
    rw [if_pos h, Int.toNat_natCast, if_pos (by omega)]
  unfold reduceR
  rw [this, if_neg (by decide)]
theorem reduceR_good {m : Nat} {es : List (Int × Int)} (h : lookE m es [] = 0) (hl : (kahn m es).length = m) : reduceR m es = (redL m es, 0) := by
  have : (orderR m es).2 = 0 := by
    unfold orderR
    rw [if_pos h, Int.toNat_natCast, if_neg (by omega)]
  unfold reduceR
  rw [this, if_pos rfl, Int.toNat_natCast]

/-- All that the law asks of a reduced graph. -/
theorem red_facts {m : Nat} {es : List (Int × Int)} (hes : ∀ e ∈ es, 0 ≤ e.1 ∧ e.1 < m ∧ 0 ≤ e.2 ∧ e.2 < m) (h : (kahn m es).length = m) :
    (∀ e ∈ redL m es, 0 ≤ e.1 ∧ e.1 < m ∧ 0 ≤ e.2 ∧ e.2 < m) ∧ (redL m es).length ≤ es.length ∧ (∀ a, wayL m (redL m es) (-1, -1) a = wayL m es (-1, -1) a) ∧
      (∀ q, q < (redL m es).length → ∃ a b : Nat, (redL m es).getD q (0, 0) = ((a : Int), (b : Int)) ∧ a < m ∧ b < m ∧ (marks m (wayL m (redL m es) ((a : Int), (b : Int)) a)).getD b false = false) := by
  refine ⟨fun e he => hes e (redL_sub e he), (gridL_nodup m _).length_le_of_subset redL_sub, fun a => ?_, fun q hq => ?_⟩
  · unfold wayL
    apply List.filter_congr
    intro k _
    rw [decide_eq_decide, edge_none, edge_none]
    exact way_redL hes h a k
  · have hmem : (redL m es).getD q (0, 0) ∈ redL m es := by simp [List.getD, hq]
    generalize (redL m es).getD q (0, 0) = e at hmem
    obtain ⟨a, b, ha, hb, hp, rfl⟩ := mem_gridL.1 hmem
    refine ⟨a, b, rfl, ha, hb, ?_⟩
    rw [marks_get m _ b hb]
    have : ¬ Way (Edge (redL m es) ((a : Int), (b : Int))) a b := red_alone (redB_true.1 hp) (fun x y hxy => ((edgeL_redL hes x y).1 hxy.1).edge) (fun hh => hh.2 rfl)
    rw [← Bool.not_eq_true, List.contains_iff_mem, mem_wayL]
    exact fun hh => this hh.2

set_option maxHeartbeats 8000000 in
theorem graphReduces_any (v : Value) (es : List (Int × Int)) (n : Int) (w : World) (hT : Tab w) (h : PairsAt w v es) :
    Calls Tryd.prog 7 #[.int .i64 n, v] w (LawPost w) := by
  have hend : ∀ w', Below w.heap.size w w' → LawPost w (.returned (.bool true)) w' := fun _ h => ⟨rfl, h⟩
  have HE := Lib.hid hend
  clear hend
  by_cases hs : (decide (n ≤ 60) && decide (es.length ≤ 120)) = true
  · by_cases h16 : n ≤ 16
    · have hs2 := hs
      simp only [Bool.and_eq_true, decide_eq_true_eq] at hs2
      obtain ⟨hn60, hl120⟩ := hs2
      go_enter Tryd.func7, Tryd.ntmps7
      go_wp2_with fail
      refine (awake_any w hT).mono ?_
      rintro e w1 ⟨rfl, hb1⟩
      have hT1 := hT.mono hb1
      have h1 := h.mono hb1
      clear hT h
      go_wp2_with fail
      refine (small_any n v es w1 h1).mono ?_
      rintro e w2 ⟨rfl, rfl⟩
      rw [hs]
      go_wp2_with fail
      refine (own_any v es w1 h1 (by omega)).mono ?_
      rintro e w2 ⟨iv, rfl, hown, hb2⟩
      have hb12 : Below w.heap.size w w2 := hb1.trans (hb2.mono hb1.size)
      have hin : PairsAt w2 iv es := pairs_of_own hown (by omega)
      have hT2 := hT1.mono hb2
      have h2 := h1.mono hb2
      clear hb1 hb2 hT1 h1 hown
      go_wp2_with fail
      refine (Reduce_any iv es n w2 hT2 hin).mono ?_
      rintro e w3 ⟨lv, rfl, hli, hb3⟩
      have hb13 : Below w.heap.size w w3 := hb12.trans (hb3.mono hb12.size)
      have h3 := h2.mono hb3
      clear hb12 hb3 hT2 h2 hin
      have LK := rlook_any v (.slice none 0 0) es [] n w3 h3 (IntsAt.nil _)
      by_cases h0 : lookE n es [] = 0
      · obtain ⟨hn0, hn1, _, hes, _⟩ := lookE_zero h0
        obtain ⟨m, rfl⟩ := Int.eq_ofNat_of_zero_le hn0
        have RO := rorder_any v es m w3 h3 (by omega) hes
        by_cases hlt : (kahn m es).length = m
        · have HO := reduceR_good h0 hlt
          obtain ⟨hrb, hrl, hrw, hra⟩ := red_facts hes hlt
          have hal := alone_red hes hlt
          rw [h0] at LK
          rw [HO] at hli ⊢
          have HES := Lib.hid hes
          clear HO h0 hs hes
          generalize redL m es = l at hli hrb hrl hrw hra hal
          have HRB := Lib.hid hrb
          have HRW := Lib.hid hrw
          have HRA := Lib.hid hra
          clear hrb hrw hra
          go_wp2_with fail
          refine LK.mono ?_
          rintro e w4 ⟨rfl, rfl⟩
          go_wp2_with fail
          refine RO.mono ?_
          rintro e w5 ⟨v', rfl, hli5, hb5⟩
          have hb15 : Below w.heap.size w w5 := hb13.trans (hb5.mono hb13.size)
          obtain ⟨ao5, cap5, hv, _, _⟩ := hli5.val
          rw [List.length_map, hlt] at hv
          subst hv
          have h5 := h3.mono hb5
          have hl5 := hli.mono hb5
          have RR := rreduce_any v es m w5 h5 (by omega) HES.out
          unfold RRedPost at RR
          rw [hal] at RR
          clear hli5 hb13 hb5 LK RO hlt h3 hli hal
          go_wp2_with fail
          refine RR.mono ?_
          rintro e w6 ⟨v6, rfl, hl6, hb6⟩
          have SA := same_any lv v6 l l w6 (hl5.mono hb6) hl6
          rw [beq_self_eq_true] at SA
          have hb16 : Below w.heap.size w w6 := hb15.trans (hb6.mono hb15.size)
          have h6 := h5.mono hb6
          have hl6 := hl5.mono hb6
          clear hb15 hb6 h5 hl5 RR
          go_wp2_with fail
          refine SA.mono ?_
          rintro e w7 ⟨rfl, hb7⟩
          have hb17 : Below w.heap.size w w7 := hb16.trans (hb7.mono hb16.size)
          have h7 := h6.mono hb7
          have hl7 := hl6.mono hb7
          clear hb16 hb7 h6 hl6 SA
          go_wp2_with fail
          have hnew := below_new w7 (.cells #[.int .i64 (-1), .int .i64 (-1)] 34)
          have h8 := h7.mono hnew
          have hl8 := hl7.mono hnew
          have hb18 : Below w.heap.size w (w7.alloc (.cells #[.int .i64 (-1), .int .i64 (-1)] 34)) := hb17.trans (hnew.mono hb17.size)
          have hx8 : (w7.alloc (.cells #[.int .i64 (-1), .int .i64 (-1)] 34)).cell? ⟨w7.heap.size, 0, none⟩ = some (.int .i64 (-1)) := cell_of_row _ _ _ _ _ _ (heap_alloc_new _ _)
          have hy8 : (w7.alloc (.cells #[.int .i64 (-1), .int .i64 (-1)] 34)).cell? ⟨w7.heap.size, 1, none⟩ = some (.int .i64 (-1)) := cell_of_row _ _ _ _ _ _ (heap_alloc_new _ _)
          have hz8 : w7.heap.size < (w7.alloc (.cells #[.int .i64 (-1), .int .i64 (-1)] 34)).heap.size := by simp
          clear hnew hb17 h7 hl7
          obtain ⟨w8, hw8⟩ : ∃ w8, w8 = w7.alloc (.cells #[.int .i64 (-1), .int .i64 (-1)] 34) := ⟨_, rfl⟩
          obtain ⟨B, hB⟩ : ∃ B, B = w7.heap.size := ⟨_, rfl⟩
          rw [← hw8] at h8 hl8 hb18 hx8 hy8 hz8 ⊢
          rw [← hB] at hx8 hy8 hz8 ⊢
          clear hw8 hB
          obtain ⟨ao, cap, hv, hll, _⟩ := hl8.val
          subst hv
          have R1 : ∀ (a : Nat) (W : World), PairsAt W v es → Calls Tryd.prog 29 #[.int .i64 m, v, .int .i64 a, .agg #[.int .i64 (-1), .int .i64 (-1)]] W (RReachPost m es a (-1, -1) W) := fun a W hW => rreach_any v es m a (-1) (-1) W hW (by omega) HES.out
          have R2 : ∀ (a : Nat) (W : World), PairsAt W (.slice ao l.length cap) l → Calls Tryd.prog 29 #[.int .i64 m, .slice ao l.length cap, .int .i64 a, .agg #[.int .i64 (-1), .int .i64 (-1)]] W (RReachPost m l a (-1, -1) W) := fun a W hW => rreach_any _ l m a (-1) (-1) W hW (by omega) HRB.out
          go_loopg [9] m (fun g v9 wr => ∃ a : Nat, a + g = m ∧ v9 = .int .i64 a ∧ Below w8.heap.size w8 wr)
          case atStart => exact ⟨0, by omega, rfl, Below.refl _ _⟩
          case round =>
            obtain ⟨a, hag, rfl, hbr⟩ := hrel
            cases gk with
            | zero =>
              have hae : a = m := by omega
              have han : ¬ (a : Int) < (m : Int) := by omega
              go_wp2_with fail
              have R3 : ∀ (x y : Nat) (W : World), PairsAt W (.slice ao l.length cap) l → Calls Tryd.prog 29 #[.int .i64 m, .slice ao l.length cap, .int .i64 x, .agg #[.int .i64 x, .int .i64 y]] W (RReachPost m l x (x, y) W) := fun x y W hW => rreach_any _ l m x x y W hW (by omega) HRB.out
              have hbr8 := hbr
              clear R1 R2 hx8 hy8 hz8 hbr
              go_loopg [104] l.length (fun g3 v104 wr => ∃ q : Nat, q + g3 = l.length ∧ v104 = .int .i64 q ∧ Below w8.heap.size w8 wr)
              case atStart => exact ⟨0, by omega, rfl, hbr8⟩
              case round =>
                obtain ⟨q, hqg, rfl, hq8⟩ := hrel
                clear hbr8
                cases gk with
                | zero =>
                  have hqn : ¬ (q : Int) < (l.length : Int) := by omega
                  have HF := Lib.hid (HE.out _ (hb18.trans (hq8.mono hb18.size)))
                  clear hq8 hl8 h8 hb18 R3
                  go_wp2
                  go_ret
                  exact HF.out
                | succ g3 =>
                  have hql : q < l.length := by omega
                  have hlr := hl8.mono hq8
                  obtain ⟨_, _, hv3, _, _, hc3⟩ := id hlr
                  cases hv3
                  obtain ⟨bl, off, hao, hbl, hcell⟩ := hc3 (by intro e; simp [e] at hql)
                  subst hao
                  obtain ⟨hc1, hc2⟩ := hcell q hql
                  obtain ⟨x, y, he, hx, hy, hz⟩ := HRA.out q hql
                  rw [he] at hc1 hc2
                  simp only at hc1 hc2
                  have hdq : decide ((q : Int) < (l.length : Int)) = true := by simpa using hql
                  have hnew3 : Below wr.heap.size wr (wr.alloc (.cells #[.int .i64 (x : Int), .int .i64 (y : Int)] 34)).drew := (below_new _ _).drew
                  have hd3 : PairsAt (wr.alloc (.cells #[.int .i64 (x : Int), .int .i64 (y : Int)] 34)).drew (.slice (some ⟨bl, off, none⟩) l.length cap) l := hlr.mono hnew3
                  have hx9 : (wr.alloc (.cells #[.int .i64 (x : Int), .int .i64 (y : Int)] 34)).drew.cell? ⟨wr.heap.size, 0, none⟩ = some (.int .i64 x) := cell_of_row _ _ _ _ _ _ (heap_alloc_new _ _)
                  have hy9 : (wr.alloc (.cells #[.int .i64 (x : Int), .int .i64 (y : Int)] 34)).drew.cell? ⟨wr.heap.size, 1, none⟩ = some (.int .i64 y) := cell_of_row _ _ _ _ _ _ (heap_alloc_new _ _)
                  have hz9 : wr.heap.size < (wr.alloc (.cells #[.int .i64 (x : Int), .int .i64 (y : Int)] 34)).drew.heap.size := by simp [World.drew]
                  clear he hcell hc3
                  go_upto_region 25 with fail
                  go_cut [117] from 105 to 118 (fun s117 wx => s117 = .bool false ∧ Below wr.heap.size wr wx)
                  case first =>
                    go_region_with (go_at_call 29; refine (R3 x y _ ?_).mono ?_; exact hd3; rintro e wA ⟨bA, rfl, hoA, hbA, hgA⟩; have hcA := hoA.cell (i := y) (by rw [marks_len]; exact hy); rw [hz] at hcA; have hxA := (hbA.cell (p := ⟨wr.heap.size, 0, none⟩) hz9).trans hx9; have hyA := (hbA.cell (p := ⟨wr.heap.size, 1, none⟩) hz9).trans hy9)
                    all_goals (try go_wp2_with fail)
                    all_goals go_meet
                    all_goals exact ⟨rfl, hnew3.trans (hbA.mono hnew3.size)⟩
                  case rest =>
                    obtain ⟨rfl, hbc⟩ := hcut
                    have hbc8 : Below w8.heap.size w8 wc := hq8.trans (hbc.mono hq8.size)
                    clear hd3 hx9 hy9 hz9 hnew3 hbc hq8
                    go_wp2
                    go_roundg g3
                    case measure => omega
                    case rel => exact ⟨q + 1, by omega, by go_num, hbc8⟩
            | succ g =>
              have ham : (a : Int) < (m : Int) := by omega
              have hd1 : PairsAt wr.drew v es := h8.mono hbr.drew
              have hd2 : PairsAt wr.drew (.slice ao l.length cap) l := hl8.mono hbr.drew
              have hx9 : wr.drew.cell? ⟨B, 0, none⟩ = some (.int .i64 (-1)) := (hbr.drew.cell (p := ⟨B, 0, none⟩) hz8).trans hx8
              have hy9 : wr.drew.cell? ⟨B, 1, none⟩ = some (.int .i64 (-1)) := (hbr.drew.cell (p := ⟨B, 1, none⟩) hz8).trans hy8
              have hz9 : B < wr.drew.heap.size := Nat.lt_of_lt_of_le hz8 hbr.size
              go_upto_region 15 with fail
              go_cut [10, 11] from 72 to 101 (fun s10 s11 wx => ∃ b1 b2, s10 = .slice (some ⟨b1, 0, none⟩) m m ∧ s11 = .slice (some ⟨b2, 0, none⟩) m m ∧ OwnBools wx b1 (marks m (wayL m es (-1, -1) a)) ∧ OwnBools wx b2 (marks m (wayL m es (-1, -1) a)) ∧ Below wr.heap.size wr wx)
              case first =>
                go_region_with (first
                  | (go_at_call_of 29 v; refine (R1 a _ ?_).mono ?_; (first | exact hd1 | exact hd1.mono hbB); rintro e wA ⟨bA, rfl, hoA, hbA, hgA⟩; have hxA := (hbA.cell (p := ⟨B, 0, none⟩) (by first | exact hz9 | exact Nat.lt_of_lt_of_le hz9 hbB.size)).trans (by first | exact hx9 | exact hxB); have hyA := (hbA.cell (p := ⟨B, 1, none⟩) (by first | exact hz9 | exact Nat.lt_of_lt_of_le hz9 hbB.size)).trans (by first | exact hy9 | exact hyB))
                  | (go_at_call_of 29 (Value.slice ao l.length cap); refine (R2 a _ ?_).mono ?_; (first | exact hd2 | exact hd2.mono hbA); rintro e wB ⟨bB, rfl, hoB, hbB, hgB⟩; rw [HRW.out a] at hoB; have hxB := (hbB.cell (p := ⟨B, 0, none⟩) (by first | exact hz9 | exact Nat.lt_of_lt_of_le hz9 hbA.size)).trans (by first | exact hx9 | exact hxA); have hyB := (hbB.cell (p := ⟨B, 1, none⟩) (by first | exact hz9 | exact Nat.lt_of_lt_of_le hz9 hbA.size)).trans (by first | exact hy9 | exact hyA)))
                all_goals (try go_wp2_with fail)
                all_goals go_meet
                all_goals first
                  | exact ⟨bA, bB, rfl, rfl, hoA.below hbB, hoB, ((Below.refl _ wr).drew.trans hbA).trans (hbB.mono hbA.size)⟩
                  | exact ⟨bA, bB, rfl, rfl, hoA, hoB.below hbA, ((Below.refl _ wr).drew.trans hbB).trans (hbA.mono hbB.size)⟩
              case rest =>
                obtain ⟨b1, b2, rfl, rfl, ho1, ho2, hbc⟩ := hcut
                have hbc8 : Below w8.heap.size w8 wc := hbr.trans (hbc.mono hbr.size)
                have hbl : (marks m (wayL m es (-1, -1) a)).length = m := marks_len _ _
                generalize marks m (wayL m es (-1, -1) a) = bs at ho1 ho2 hbl
                have HBL := Lib.hid hbl
                clear hbl hbc hbr hd1 hd2 hx9 hy9 hz9
                go_wp2
                go_loopg [89] m (fun g2 v89 wr => ∃ b : Nat, b + g2 = m ∧ v89 = .int .i64 b ∧ OwnBools wr b1 bs ∧ OwnBools wr b2 bs ∧ Below w8.heap.size w8 wr)
                case atStart => exact ⟨0, by omega, rfl, ho1, ho2, hbc8⟩
                case round =>
                  obtain ⟨b, hbg, rfl, hq1, hq2, hq8⟩ := hrel
                  clear ho1 ho2 hbc8
                  cases gk with
                  | zero =>
                    have hbn : ¬ (b : Int) < (m : Int) := by omega
                    go_wp2
                    go_roundg g
                    case measure => omega
                    case rel => exact ⟨a + 1, by omega, by go_num, hq8⟩
                  | succ g2 =>
                    have hbm : (b : Int) < (m : Int) := by omega
                    have c1 := hq1.cell (i := b) (by have := HBL.out; omega)
                    have c2 := hq2.cell (i := b) (by have := HBL.out; omega)
                    generalize bs.getD b false = z at c1 c2
                    obtain ⟨wo, rfl⟩ : ∃ wo : World, wo = wr := ⟨_, rfl⟩
                    cases z
                    · go_wp2
                      go_quiet (fail)
                      go_wp2
                      go_roundg g2
                      case measure => omega
                      case rel => exact ⟨b + 1, by omega, by go_num, hq1, hq2, below_drewN hq8 nq⟩
                    · go_wp2
                      go_quiet (fail)
                      go_wp2
                      go_roundg g2
                      case measure => omega
                      case rel => exact ⟨b + 1, by omega, by go_num, hq1, hq2, below_drewN hq8 nq⟩
        · have HO := reduceR_cycle h0 hlt
          rw [h0] at LK
          rw [HO] at hli ⊢
          obtain ⟨ao, cap, hv, _, _⟩ := hli.val
          simp only [List.length_nil] at hv
          subst hv
          have hkl := (kahn_ok m es).len
          clear HO hli hes h0 hs h3
          go_wp2_with fail
          refine LK.mono ?_
          rintro e w4 ⟨rfl, rfl⟩
          go_wp2_with fail
          refine RO.mono ?_
          rintro e w5 ⟨v', rfl, hli5, hb5⟩
          have hb15 : Below w.heap.size w w5 := hb13.trans (hb5.mono hb13.size)
          obtain ⟨ao5, cap5, hv, _, _⟩ := hli5.val
          rw [List.length_map] at hv
          subst hv
          have hlt2 : (kahn m es).length < m := by omega
          generalize (kahn m es).length = c at hlt2
          have HF := Lib.hid (HE.out _ hb15)
          clear hli5 hb13 hb5 hb15 LK RO hlt hkl
          go_wp2_with fail
          go_ret
          exact HF.out
      · have HO := reduceR_bad h0
        rw [HO] at hli ⊢
        obtain ⟨ao, cap, hv, _, _⟩ := hli.val
        simp only [List.length_nil] at hv
        subst hv
        have hne : (lookE n es [] != 0) = true := by simpa using h0
        have HF := Lib.hid (HE.out _ hb13)
        clear HO hli h3 h0 hb13 hs
        generalize lookE n es [] = c at LK hne
        go_wp2_with fail
        refine LK.mono ?_
        rintro e w4 ⟨rfl, rfl⟩
        go_wp2_with fail
        go_ret
        exact HF.out
    · go_enter Tryd.func7, Tryd.ntmps7
      go_wp2_with fail
      refine (awake_any w hT).mono ?_
      rintro e w1 ⟨rfl, hb1⟩
      have hT1 := hT.mono hb1
      have h1 := h.mono hb1
      clear hT h
      go_wp2_with fail
      refine (small_any n v es w1 h1).mono ?_
      rintro e w2 ⟨rfl, rfl⟩
      rw [hs]
      clear hs
      go_wp2_with fail
      refine (awake_any w1 hT1).mono ?_
      rintro e w2 ⟨rfl, hb2⟩
      have HF := Lib.hid (HE.out _ (hb1.trans (hb2.mono hb1.size)))
      clear hb1 hb2 hT1 h1
      go_wp2_with fail
      go_ret
      exact HF.out
  · have hs2 : (decide (n ≤ 60) && decide (es.length ≤ 120)) = false := by simpa using hs
    go_enter Tryd.func7, Tryd.ntmps7
    go_wp2_with fail
    refine (awake_any w hT).mono ?_
    rintro e w1 ⟨rfl, hb1⟩
    have hT1 := hT.mono hb1
    have h1 := h.mono hb1
    clear hT h hs
    go_wp2_with fail
    refine (small_any n v es w1 h1).mono ?_
    rintro e w2 ⟨rfl, rfl⟩
    rw [hs2]
    go_wp2_with fail
    refine (awake_any w1 hT1).mono ?_
    rintro e w2 ⟨rfl, hb2⟩
    have HF := Lib.hid (HE.out _ (hb1.trans (hb2.mono hb1.size)))
    clear hb1 hb2 hT1 h1
    go_wp2_with fail
    go_ret
    exact HF.out

end Go.Proofs.YtelioljmhlabjaaDoor
