/- Walk of the law GraphCycles: it answers true, whatever the graph. -/
import Derived.Test.YtelioljmhlabjaaDoorLawOrders
import Derived.Test.YtelioljmhlabjaaDoorCycle
namespace Go.Proofs.YtelioljmhlabjaaDoor
open Go.RowKit
set_option maxRecDepth 100000

/-- Of a graph that can't be put in order a real cycle is told. -/
theorem cycR_real {m : Nat} {es : List (Int × Int)} (h0 : lookE m es [] = 0) (hl : (kahn m es).length ≠ m) :
    (cycR m es).2 = 0 ∧ 0 < (cycR m es).1.length ∧ (cycR m es).1.length ≤ m ∧ (∀ i, i < (cycR m es).1.length → hasE es ((cycR m es).1.getD i 0 : Nat) ((cycR m es).1.getD ((i + 1) % (cycR m es).1.length) 0 : Nat) = true) ∧
      (∀ i k, i < (cycR m es).1.length → k < i → (cycR m es).1.getD k 0 ≠ (cycR m es).1.getD i 0) := by
  obtain ⟨_, _, _, hes, _⟩ := lookE_zero h0
  unfold cycR
  rw [if_pos h0, Int.toNat_natCast]
  cases hf : (List.range m).find? (fun k => !(kahn m es).contains k) with
  | none => exact absurd (find_out_none.1 hf) hl
  | some a =>
    dsimp only
    have hao := find_out_some hf
    have hbi := fun k hk => (back_in (n := m) hes k hk).1
    have hbe := fun k hk => (back_in (n := m) hes k hk).2
    generalize backOf es (kahn m es) = B at hbi hbe ⊢
    have hit := iter_in (P := fun k => k < m ∧ k ∉ kahn m es) hbi hao
    have hper := per_spec (round_per (P := fun k => k < m ∧ k ∉ kahn m es) hbi (fun k hk => hk.1) hao)
    have hitx : ∀ i, (fun k => k < m ∧ k ∉ kahn m es) (iter B i (iter B m a)) := fun i => by rw [← iter_add]; exact hit _
    generalize iter B m a = x at hper hitx ⊢
    obtain ⟨hp1, hpm, hpx, hpl⟩ := hper
    generalize per B m x = p at hp1 hpm hpx hpl ⊢
    refine ⟨rfl, by rw [cycL_len]; exact hp1, by rw [cycL_len]; exact hpm, fun i hi => ?_, fun i k hi hk => ?_⟩
    · rw [cycL_len] at hi ⊢
      rw [cycL_edge hp1 hpx i hi, cycL_get _ _ _ _ (Nat.mod_lt _ hp1)]
      have := hbe _ (hitx (p - 1 - (i + 1) % p))
      unfold hasE
      rw [List.any_eq_true]
      exact ⟨_, this, by simp⟩
    · rw [cycL_len] at hi
      exact cycL_distinct hpx hpl i k hi hk

set_option maxHeartbeats 1600000 in
theorem graphCycles_any (v : Value) (es : List (Int × Int)) (n : Int) (w : World) (hT : Tab w) (h : PairsAt w v es) :
    Calls Tryd.prog 6 #[.int .i64 n, v] w (LawPost w) := by
  have hend : ∀ w', Below w.heap.size w w' → LawPost w (.returned (.bool true)) w' := fun _ h => ⟨rfl, h⟩
  have HE := Lib.hid hend
  clear hend
  by_cases hs : (decide (n ≤ 60) && decide (es.length ≤ 120)) = true
  · have hs2 := hs
    simp only [Bool.and_eq_true, decide_eq_true_eq] at hs2
    obtain ⟨hn60, hl120⟩ := hs2
    go_enter Tryd.func6, Tryd.ntmps6
    go_wp2_with fail
    refine (awake_any w hT).mono ?_
    rintro e w1 ⟨rfl, hb1⟩
    have hT1 := hT.mono hb1
    have h1 := h.mono hb1
    clear hT h
    go_wp2_with fail
    refine (small_any n v es w1 h1).mono ?_
    rintro e w2 ⟨rfl, rfl⟩
    rw [hs]
    go_wp2_with fail
    refine (own_any v es w1 h1 (by omega)).mono ?_
    rintro e w2 ⟨iv, rfl, hown, hb2⟩
    have hb12 : Below w.heap.size w w2 := hb1.trans (hb2.mono hb1.size)
    have hin : PairsAt w2 iv es := pairs_of_own hown (by omega)
    have hT2 := hT1.mono hb2
    have h2 := h1.mono hb2
    clear hb1 hb2 hT1 h1 hown
    go_wp2_with fail
    refine (Cycle_any iv es n w2 hT2 hin).mono ?_
    rintro e w3 ⟨lv, rfl, hli, hb3⟩
    have hb13 : Below w.heap.size w w3 := hb12.trans (hb3.mono hb12.size)
    have h3 := h2.mono hb3
    clear hb12 hb3 hT2 h2 hin
    have LK := rlook_any v (.slice none 0 0) es [] n w3 h3 (IntsAt.nil _)
    by_cases h0 : lookE n es [] = 0
    · obtain ⟨hn0, hn1, _, hes, _⟩ := lookE_zero h0
      obtain ⟨m, rfl⟩ := Int.eq_ofNat_of_zero_le hn0
      rw [h0] at LK
      have RO := rorder_any v es m w3 h3 (by omega) hes
      by_cases hlt : (kahn m es).length = m
      · have HO : cycR (m : Int) es = ([], 0) := by
          unfold cycR; rw [if_pos h0, Int.toNat_natCast, find_out_none.2 hlt]
        rw [HO] at hli ⊢
        obtain ⟨ao, cap, hv, _, _⟩ := hli.val
        rw [ints_len] at hv
        simp only [List.length_nil] at hv
        subst hv
        clear HO hli hes h0 hs h3
        go_wp2_with fail
        refine LK.mono ?_
        rintro e w4 ⟨rfl, rfl⟩
        go_wp2_with fail
        refine RO.mono ?_
        rintro e w5 ⟨v', rfl, hli5, hb5⟩
        have hb15 : Below w.heap.size w w5 := hb13.trans (hb5.mono hb13.size)
        obtain ⟨ao5, cap5, hv, _, _⟩ := hli5.val
        rw [List.length_map, hlt] at hv
        subst hv
        have HF := Lib.hid (HE.out _ hb15)
        clear hli5 hb13 hb5 hb15 LK RO hlt
        go_wp2_with fail
        go_ret
        exact HF.out
      · obtain ⟨hc0, hc1, hc2, hc3, hc4⟩ := cycR_real h0 hlt
        rw [hc0]
        generalize (cycR (m : Int) es).1 = l at hc1 hc2 hc3 hc4 hli
        clear h0 hc0 hs hes
        have HLT := Lib.hid hlt
        clear hlt
        go_wp2_with fail
        refine LK.mono ?_
        rintro e w4 ⟨rfl, rfl⟩
        go_wp2_with fail
        refine RO.mono ?_
        rintro e w5 ⟨v', rfl, hli5, hb5⟩
        have hb15 : Below w.heap.size w w5 := hb13.trans (hb5.mono hb13.size)
        obtain ⟨ao5, cap5, hv, _, _⟩ := hli5.val
        rw [List.length_map] at hv
        subst hv
        have IC := isCycle_any v lv es l w5 (h3.mono hb5) (hli.mono hb5) hc1 (by omega) hc3 hc4
        have hne : (((kahn m es).length : Int) == (m : Int)) = false := by rw [beq_eq_false_iff_ne]; have := HLT.out; omega
        generalize (kahn m es).length = c at hne
        clear hli5 hb13 hb5 hli LK RO HLT hc3 hc4 h3
        go_wp2_with fail
        refine IC.mono ?_
        rintro e w6 ⟨rfl, hb6⟩
        have HF := Lib.hid (HE.out _ (hb15.trans (hb6.mono hb15.size)))
        clear hb15 hb6 IC
        go_wp2_with fail
        go_ret
        exact HF.out
    · have HO : cycR n es = ([], lookE n es []) := by unfold cycR; rw [if_neg h0]
      rw [HO] at hli ⊢
      obtain ⟨ao, cap, hv, _, _⟩ := hli.val
      rw [ints_len] at hv
      simp only [List.length_nil] at hv
      subst hv
      have hne : (lookE n es [] != 0) = true := by simpa using h0
      have HF := Lib.hid (HE.out _ hb13)
      clear HO hli h3 h0 hb13
      generalize lookE n es [] = c at LK hne
      go_wp2_with fail
      refine LK.mono ?_
      rintro e w4 ⟨rfl, rfl⟩
      go_wp2_with fail
      go_ret
      exact HF.out
  · have hs2 : (decide (n ≤ 60) && decide (es.length ≤ 120)) = false := by simpa using hs
    go_enter Tryd.func6, Tryd.ntmps6
    go_wp2_with fail
    refine (awake_any w hT).mono ?_
    rintro e w1 ⟨rfl, hb1⟩
    have hT1 := hT.mono hb1
    have h1 := h.mono hb1
    clear hT h hs
    go_wp2_with fail
    refine (small_any n v es w1 h1).mono ?_
    rintro e w2 ⟨rfl, rfl⟩
    rw [hs2]
    go_wp2_with fail
    refine (awake_any w1 hT1).mono ?_
    rintro e w2 ⟨rfl, hb2⟩
    have HF := Lib.hid (HE.out _ (hb1.trans (hb2.mono hb1.size)))
    clear hb1 hb2 hT1 h1
    go_wp2_with fail
    go_ret
    exact HF.out

end Go.Proofs.YtelioljmhlabjaaDoor
