/- Walk of the reference's Look. -/
import Derived.Test.YtelioljmhlabjaaDoorBase
import Derived.Test.YtelioljmhlabjaaDoorKahn
namespace Go.Proofs.YtelioljmhlabjaaDoor
open Go.RowKit

set_option maxRecDepth 100000 in
set_option maxHeartbeats 800000 in
theorem rlook_any (v u : Value) (es : List (Int × Int)) (fr : List Int) (n : Int) (w : World) (h : PairsAt w v es) (hf : IntsAt w u fr) :
    Calls Tryd.prog 19 #[.int .i64 n, v, u] w fun e w' => e = .returned (.int .i64 (lookE n es fr)) ∧ w = w' := by
  obtain ⟨ao, cap, rfl, hl, hm, hc⟩ := h
  obtain ⟨ao', cap', rfl, hl', hm', hc'⟩ := hf
  by_cases hn : n < 0 ∨ 512 < n
  · have HR : Hid (lookE n es fr = 1) := by unfold lookE; rw [Hid, if_pos hn]
    clear hc hc'
    rcases hn with hn | hn
    · go_enter Tryd.func19, Tryd.ntmps19
      go_wp2
      go_ret
      exact ⟨ret_int HR.out.symm, rfl⟩
    · have h0 : ¬ n < 0 := by omega
      go_enter Tryd.func19, Tryd.ntmps19
      go_wp2
      go_ret
      exact ⟨ret_int HR.out.symm, rfl⟩
  · have h0 : ¬ n < 0 := by omega
    have h1 : n ≤ 512 := by omega
    have HN := Lib.hid hn
    clear hn
    go_enter Tryd.func19, Tryd.ntmps19
    go_wp2
    go_loop [7, 17] (fun _ i => ∃ k : Nat, k ≤ es.length ∧ i = .int .i64 k ∧ Hid ((es.take k).any (fun e => outE n e.1 || outE n e.2) = false)) (fun _ i => es.length - (intOf i).toNat)
    case atStart => exact ⟨0, Nat.zero_le _, rfl, rfl⟩
    case round =>
      obtain ⟨k, hk, rfl, htk⟩ := hrel
      by_cases hlt : k < es.length
      · obtain ⟨bl, off, rfl, hbl, hcell⟩ := hc (by intro h; simp [h] at hlt)
        have c1 := (hcell k hlt).1
        have c2 := (hcell k hlt).2
        clear hc hcell hc'
        have hts := take_next es k (0, 0) hlt
        have hmem : es.getD k (0, 0) ∈ es := by simp [List.getD, hlt]
        obtain ⟨⟨x, y⟩, hx⟩ : ∃ p, p = es.getD k (0, 0) := ⟨_, rfl⟩
        rw [← hx] at c1 c2 hts hmem
        have H1 : Hid ((outE n x || outE n y) = true → lookE n es fr = 1) := fun ho => by
          unfold lookE
          rw [if_neg HN.out, if_pos]
          rw [Bool.or_eq_true]
          exact Or.inl (List.any_eq_true.2 ⟨_, hmem, ho⟩)
        have H2 : Hid ((outE n x || outE n y) = false → (es.take (k + 1)).any (fun e => outE n e.1 || outE n e.2) = false) := fun ho => by
          rw [hts, List.any_append, htk.out]
          simpa using ho
        clear hx hts hmem htk
        go_wp2
        all_goals first
          | (go_ret; exact ⟨ret_int (H1.out (by simp only [outE, Bool.or_eq_true, decide_eq_true_eq]; omega)).symm, rfl⟩)
          | (go_round
             case rel => exact ⟨k + 1, by omega, by go_num, H2.out (by simp only [outE, Bool.or_eq_false_iff, decide_eq_false_iff_not]; omega)⟩
             case measure => simp [intOf]; omega)
      · have hk' : k = es.length := by omega
        have htk1 := htk.out
        rw [hk', List.take_length] at htk1
        have HA := Lib.hid htk1
        clear hk' htk1 htk hc
        go_wp2
        go_loop [8, 55] (fun _ i => ∃ j : Nat, j ≤ fr.length ∧ i = .int .i64 j ∧ Hid ((fr.take j).any (outE n) = false)) (fun _ i => fr.length - (intOf i).toNat)
        case atStart => exact ⟨0, Nat.zero_le _, rfl, rfl⟩
        case round =>
          obtain ⟨j, hj, rfl, htj⟩ := hrel
          by_cases hlt : j < fr.length
          · obtain ⟨bl, off, rfl, hbl, hcell⟩ := hc' (by intro h; simp [h] at hlt)
            have c1 := hcell j hlt
            clear hc' hcell
            have hts := take_next fr j 0 hlt
            have hmem : fr.getD j 0 ∈ fr := by simp [List.getD, hlt]
            obtain ⟨x, hx⟩ : ∃ p, p = fr.getD j 0 := ⟨_, rfl⟩
            rw [← hx] at c1 hts hmem
            have H1 : Hid (outE n x = true → lookE n es fr = 1) := fun ho => by
              unfold lookE
              rw [if_neg HN.out, if_pos]
              rw [Bool.or_eq_true]
              exact Or.inr (List.any_eq_true.2 ⟨_, hmem, ho⟩)
            have H2 : Hid (outE n x = false → (fr.take (j + 1)).any (outE n) = false) := fun ho => by
              rw [hts, List.any_append, htj.out]
              simpa using ho
            clear hx hts hmem htj
            go_wp2
            all_goals first
              | (go_ret; exact ⟨ret_int (H1.out (by simp only [outE, Bool.or_eq_true, decide_eq_true_eq]; omega)).symm, rfl⟩)
              | (go_round
                 case rel => exact ⟨j + 1, by omega, by go_num, H2.out (by simp only [outE, Bool.or_eq_false_iff, decide_eq_false_iff_not]; omega)⟩
                 case measure => simp [intOf]; omega)
          · have hj' : j = fr.length := by omega
            have htj1 := htj.out
            rw [hj', List.take_length] at htj1
            have HB : Hid (4096 < es.length → lookE n es fr = 3) := fun h3 => by
              unfold lookE
              rw [if_neg HN.out, if_neg (by rw [HA.out, htj1]; simp), if_pos h3]
            have HC : Hid (¬ 4096 < es.length → lookE n es fr = 0) := fun h3 => by
              unfold lookE
              rw [if_neg HN.out, if_neg (by rw [HA.out, htj1]; simp), if_neg h3]
            clear hj' htj1 htj hc'
            go_wp2
            all_goals first
              | (go_ret; exact ⟨ret_int (HB.out (by omega)).symm, rfl⟩)
              | (go_ret; exact ⟨ret_int (HC.out (by omega)).symm, rfl⟩)

end Go.Proofs.YtelioljmhlabjaaDoor
