/- Walk of the law GraphReaches: it answers true, whatever the graph and the nodes. -/
import Derived.Test.YtelioljmhlabjaaDoorLawOrders
import Derived.Test.YtelioljmhlabjaaDoorRAll
namespace Go.Proofs.YtelioljmhlabjaaDoor
open Go.RowKit
set_option maxRecDepth 100000

theorem ints_back {n : Int} {fr : List Int} (h : ∀ i ∈ fr, 0 ≤ i ∧ i < n) : fr = ints (fr.map Int.toNat) := by
  unfold ints; rw [List.map_map]
  conv => lhs; rw [← List.map_id fr]
  apply List.map_congr_left
  intro x hx
  have := h x hx
  simp; omega

set_option maxHeartbeats 1600000 in
theorem graphReaches_any (v u : Value) (es : List (Int × Int)) (fr : List Int) (n : Int) (w : World) (hT : Tab w) (h : PairsAt w v es) (hf : IntsAt w u fr) :
    Calls Tryd.prog 5 #[.int .i64 n, v, u] w (LawPost w) := by
  have hend : ∀ w', Below w.heap.size w w' → LawPost w (.returned (.bool true)) w' := fun _ h => ⟨rfl, h⟩
  have HE := Lib.hid hend
  clear hend
  obtain ⟨ao, cap, hu, hul, huc⟩ := hf.val
  subst hu
  by_cases hs : (decide (n ≤ 60) && decide (es.length ≤ 120)) = true
  · by_cases h20 : fr.length ≤ 20
    · have hs2 := hs
      simp only [Bool.and_eq_true, decide_eq_true_eq] at hs2
      obtain ⟨hn60, hl120⟩ := hs2
      go_enter Tryd.func5, Tryd.ntmps5
      go_wp2_with fail
      refine (awake_any w hT).mono ?_
      rintro e w1 ⟨rfl, hb1⟩
      have hT1 := hT.mono hb1
      have h1 := h.mono hb1
      have hf1 := hf.mono hb1
      clear hT h hf
      go_wp2_with fail
      refine (small_any n v es w1 h1).mono ?_
      rintro e w2 ⟨rfl, rfl⟩
      rw [hs]
      go_wp2_with fail
      refine (own_any v es w1 h1 (by omega)).mono ?_
      rintro e w2 ⟨iv, rfl, hown, hb2⟩
      have hb12 : Below w.heap.size w w2 := hb1.trans (hb2.mono hb1.size)
      have hin : PairsAt w2 iv es := pairs_of_own hown (by omega)
      have hT2 := hT1.mono hb2
      have h2 := h1.mono hb2
      have hf2 := hf1.mono hb2
      clear hb1 hb2 hT1 h1 hown hf1
      have hmade : (w2.alloc (.cells #[] 3)).ownsRow w2.heap.size 3 1 (.slice (some ⟨w2.heap.size, 0, none⟩) 0 0) 0 [] := World.ownsRow_made w2 #[] 0 (Nat.le_refl _) (by unfold maxLen; omega) rfl
      have HM := Lib.hid hmade
      have hba : Below w2.heap.size w2 (w2.alloc (.cells #[] 3)) := below_new _ _
      have hfa := hf2.mono hba
      clear hmade
      go_wp2_with (at_builtin; refine wpList_append_ints _ rfl (.tmp 28) (.tmp 29) rfl w2.heap.size _ _ _ rfl HM.out _ _ rfl hfa ?b1 ?b2 ?_)
      case b1 => omega
      case b2 => simp
      intro v3 w3 hown3 hgrow _
      have hb3 : Below w2.heap.size w2 w3 := hba.grown hgrow (by simp) (fun k e => by have := Option.some.inj e; simp at this; omega)
      have hfr3 : IntsAt w3 v3 fr := ints_of_own (by simpa using hown3) (by omega)
      have hT3 := hT2.mono hb3
      have h3 := h2.mono hb3
      have hf3 := hf2.mono hb3
      have hin3 := hin.mono hb3
      have hb13 : Below w.heap.size w w3 := hb12.trans (hb3.mono hb12.size)
      clear hb12 hb3 hT2 h2 hf2 hin hba hfa hown3 hgrow HM
      go_wp2_with fail
      refine (Reach_any iv v3 es fr n w3 hT3 hin3 hfr3 (by omega)).mono ?_
      rintro e w4 ⟨lv, rfl, hli, hb4⟩
      have hb14 : Below w.heap.size w w4 := hb13.trans (hb4.mono hb13.size)
      have h4 := h3.mono hb4
      have hf4 := hf3.mono hb4
      clear hb13 hb4 hT3 h3 hin3 hfr3 hf3
      have LK := rlook_any v _ es fr n w4 h4 hf4
      by_cases h0 : lookE n es fr = 0
      · obtain ⟨hn0, hn1, _, hes, hfr⟩ := lookE_zero h0
        obtain ⟨m, rfl⟩ := Int.eq_ofNat_of_zero_le hn0
        have HR : reachR (m : Int) es fr = (ints (allL m es (fr.map Int.toNat)), 0) := by unfold reachR; rw [if_pos h0, Int.toNat_natCast]
        rw [h0] at LK
        rw [HR] at hli ⊢
        have hfi := ints_back hfr
        have RA := all_any v _ es (fr.map Int.toNat) m w4 h4 (by rw [← hfi]; exact hf4) (by omega) hes (fun f hf => by
          obtain ⟨x, hx, rfl⟩ := List.mem_map.1 hf
          have := hfr x hx
          omega)
        clear h0 hes hfr hfi HR h4 hf4
        go_wp2_with fail
        refine LK.mono ?_
        rintro e w5 ⟨rfl, rfl⟩
        go_wp2_with fail
        refine RA.mono ?_
        rintro e w5 ⟨v5, rfl, hli5, hb5⟩
        have IN := ints_any _ _ _ _ w5 (hli.mono hb5) hli5
        rw [beq_self_eq_true] at IN
        have hb15 : Below w.heap.size w w5 := hb14.trans (hb5.mono hb14.size)
        clear LK RA hli hli5 hb5 hb14
        go_wp2_with fail
        refine IN.mono ?_
        rintro e w6 ⟨rfl, hb6⟩
        have HF := Lib.hid (HE.out _ (hb15.trans (hb6.mono hb15.size)))
        clear hb15 hb6 IN
        go_wp2_with fail
        go_ret
        exact HF.out
      · have HO : reachR n es fr = ([], lookE n es fr) := by unfold reachR; rw [if_neg h0]
        rw [HO] at hli ⊢
        obtain ⟨ao, cap, hv, _, _⟩ := hli.val
        simp only [List.length_nil] at hv
        subst hv
        have hne : (lookE n es fr != 0) = true := by simpa using h0
        have HF := Lib.hid (HE.out _ hb14)
        clear HO hli h4 hf4 h0 hb14
        generalize lookE n es fr = c at LK hne
        go_wp2_with fail
        refine LK.mono ?_
        rintro e w5 ⟨rfl, rfl⟩
        go_wp2_with fail
        go_ret
        exact HF.out
    · go_enter Tryd.func5, Tryd.ntmps5
      go_wp2_with fail
      refine (awake_any w hT).mono ?_
      rintro e w1 ⟨rfl, hb1⟩
      have hT1 := hT.mono hb1
      have h1 := h.mono hb1
      clear hT h hf
      go_wp2_with fail
      refine (small_any n v es w1 h1).mono ?_
      rintro e w2 ⟨rfl, rfl⟩
      rw [hs]
      clear hs
      go_wp2_with fail
      refine (awake_any w1 hT1).mono ?_
      rintro e w2 ⟨rfl, hb2⟩
      have HF := Lib.hid (HE.out _ (hb1.trans (hb2.mono hb1.size)))
      clear hb1 hb2 hT1 h1
      go_wp2_with fail
      go_ret
      exact HF.out
  · have hs2 : (decide (n ≤ 60) && decide (es.length ≤ 120)) = false := by simpa using hs
    go_enter Tryd.func5, Tryd.ntmps5
    go_wp2_with fail
    refine (awake_any w hT).mono ?_
    rintro e w1 ⟨rfl, hb1⟩
    have hT1 := hT.mono hb1
    have h1 := h.mono hb1
    clear hT h hs hf
    go_wp2_with fail
    refine (small_any n v es w1 h1).mono ?_
    rintro e w2 ⟨rfl, rfl⟩
    rw [hs2]
    go_wp2_with fail
    refine (awake_any w1 hT1).mono ?_
    rintro e w2 ⟨rfl, hb2⟩
    have HF := Lib.hid (HE.out _ (hb1.trans (hb2.mono hb1.size)))
    clear hb1 hb2 hT1 h1
    go_wp2_with fail
    go_ret
    exact HF.out

end Go.Proofs.YtelioljmhlabjaaDoor
