/- Walks of slices.Index, slices.Reverse (ints) and the reference's IsCycle. -/
import Derived.Test.YtelioljmhlabjaaDoorCycP
import Derived.Test.YtelioljmhlabjaaDoorG1
import Derived.Test.YtelioljmhlabjaaDoorOMem
import Derived.Test.YtelioljmhlabjaaDoorReach
namespace Go.Proofs.YtelioljmhlabjaaDoor
open Go.RowKit
set_option maxRecDepth 100000

set_option maxHeartbeats 800000 in
theorem index_any (v : Value) (xs : List Int) (y : Int) (w : World) (h : IntsAt w v xs) :
    Calls Tryd.prog 52 #[v, .int .i64 y] w fun e w' => e = .returned (.int .i64 (optI ((List.range xs.length).find? fun i => xs.getD i 0 == y))) ∧ w = w' := by
  obtain ⟨ao, cap, rfl, hl, hm, hc⟩ := h
  go_enter Tryd.func52, Tryd.ntmps52
  go_wp2
  go_loop [5, 8] (fun _ v8 => ∃ k : Nat, k ≤ xs.length ∧ v8 = .int .i64 k ∧ Hid (∀ j, j < k → xs.getD j 0 ≠ y)) (fun _ v8 => xs.length - (intOf v8).toNat)
  case atStart => exact ⟨0, Nat.zero_le _, rfl, fun j hj => (by omega)⟩
  case round =>
    obtain ⟨k, hk, rfl, hno⟩ := hrel
    by_cases hlt : k < xs.length
    · obtain ⟨b, off, rfl, hbl, hcell⟩ := hc (by intro h; simp [h] at hlt)
      have c1 := hcell k hlt
      obtain ⟨x, hx⟩ : ∃ x, x = xs.getD k 0 := ⟨_, rfl⟩
      rw [← hx] at c1
      have H1 : Hid (y = x → optI ((List.range xs.length).find? fun i => xs.getD i 0 == y) = (k : Int)) := by
        intro e
        have : (List.range xs.length).find? (fun i => xs.getD i 0 == y) = some k := by
          rw [List.find?_range_eq_some]
          refine ⟨by rw [← hx, e]; simp, by simpa using hlt, fun j hj => ?_⟩
          have := hno.out j hj
          simpa using this
        rw [this]; rfl
      have H2 : Hid (¬ y = x → ∀ j, j < k + 1 → xs.getD j 0 ≠ y) := by
        intro e j hj
        by_cases hjk : j < k
        · exact hno.out j hjk
        · have : j = k := by omega
          rw [this, ← hx]; exact fun h => e h.symm
      clear hx hcell hc hno
      go_wp2
      · have hxy : y = x := by have h : (y == x) = true := by assumption
                               simpa using h
        go_ret
        exact ⟨ret_int (H1.out hxy).symm, rfl⟩
      · have hxy : ¬ y = x := by have h : (y == x) = false := by assumption
                                 simpa using h
        go_round
        case rel => exact ⟨k + 1, by omega, by go_num, H2.out hxy⟩
        case measure => simp [intOf]; omega
    · have hke : k = xs.length := by omega
      have H1 : Hid (optI ((List.range xs.length).find? fun i => xs.getD i 0 == y) = -1) := by
        have : (List.range xs.length).find? (fun i => xs.getD i 0 == y) = none := by
          rw [List.find?_eq_none]
          intro j hj
          have := hno.out j (by simp at hj; omega)
          simpa using this
        rw [Hid, this]; rfl
      clear hno hke hc
      go_wp2
      go_ret
      exact ⟨ret_int H1.out.symm, rfl⟩

/-- What is turned round from both ends, i steps far. -/
def swp (n i : Nat) (f : Nat → Nat) (k : Nat) : Nat := if k < i ∨ (n - i ≤ k ∧ k < n) then f (n - 1 - k) else f k

theorem reverse_list (l : List Nat) : ints l.reverse = cnts l.length (fun k => l.getD (l.length - 1 - k) 0) := by
  unfold ints cnts
  apply List.ext_getElem
  · simp
  · intro j h1 h2
    have hj : j < l.length := by simpa using h1
    have : l.length - 1 - j < l.length := by omega
    simp [List.getD, this]
theorem ints_cnts (l : List Nat) : ints l = cnts l.length (fun k => l.getD k 0) := by
  unfold ints cnts
  apply List.ext_getElem
  · simp
  · intro j h1 h2
    have hj : j < l.length := by simpa using h1
    simp [List.getD, hj]

set_option maxHeartbeats 800000 in
theorem reverse_any (g cap base : Nat) (l : List Nat) (w : World) (h : w.ownsRow base 3 1 (.slice (some ⟨g, 0, none⟩) l.length cap) l.length ((ints l).map (Value.int .i64))) (h1 : 1 ≤ l.length) (hl : l.length ≤ 600) :
    Calls Tryd.prog 53 #[.slice (some ⟨g, 0, none⟩) l.length cap] w fun e w' => e = .returned (.tuple #[]) ∧ w'.ownsRow base 3 1 (.slice (some ⟨g, 0, none⟩) l.length cap) l.length ((ints l.reverse).map (Value.int .i64)) ∧ OnlyB g w w' := by
  obtain ⟨n, hn⟩ : ∃ n, n = l.length := ⟨_, rfl⟩
  obtain ⟨f, hf⟩ : ∃ f, f = fun k => l.getD k 0 := ⟨_, rfl⟩
  have HR : Hid (ints l.reverse = cnts n (fun k => f (n - 1 - k))) := by rw [Hid, reverse_list, hn, hf]
  rw [ints_cnts, ← hn, ← hf] at h
  rw [← hn] at h1 hl ⊢
  rw [HR.out]
  clear HR hn hf
  go_enter Tryd.func53, Tryd.ntmps53
  go_wp2
  go_loopw [2, 3] (fun v2 v3 wr => ∃ i : Nat, v2 = .int .i64 i ∧ v3 = .int .i64 ((n : Int) - 1 - i) ∧ 2 * i ≤ n ∧ wr.ownsRow base 3 1 (.slice (some ⟨g, 0, none⟩) n cap) n ((cnts n (swp n i f)).map (Value.int .i64)) ∧ OnlyB g w wr) (fun v2 _ _ => n - (intOf v2).toNat)
  case atStart => exact ⟨0, rfl, by simp, by omega, by rw [cnts_congr n (swp n 0 f) f (fun k hk => by unfold swp; rw [if_neg (by omega)])]; exact h, OnlyB.refl _ _⟩
  case round =>
    obtain ⟨i, rfl, rfl, hi, hown, hob⟩ := hrel
    clear h
    by_cases hlt : i + 1 < n - i
    · obtain ⟨j, hj⟩ : ∃ j : Nat, (n : Int) - 1 - i = (j : Int) := ⟨n - 1 - i, by omega⟩
      rw [hj]
      have hjn : i + j + 1 = n := by omega
      have hij : i < j := by omega
      have c1 := hown.cellAt i (by omega)
      have c2 := hown.cellAt j (by omega)
      have e1 : ((cnts n (swp n i f)).map (Value.int .i64))[i]? = some (.int .i64 (f i : Int)) := by
        have : swp n i f i = f i := by unfold swp; rw [if_neg (by omega)]
        have hin : i < n := by omega
        simp [cnts, hin, this]
      have e2 : ((cnts n (swp n i f)).map (Value.int .i64))[j]? = some (.int .i64 (f j : Int)) := by
        have : swp n i f j = f j := by unfold swp; rw [if_neg (by omega)]
        have hin : j < n := by omega
        simp [cnts, hin, this]
      rw [e1] at c1
      rw [e2] at c2
      have f1 := hown.frozenAt i
      have f2 := hown.frozenAt j
      have s1 := (hown.stored i (.int .i64 (f j : Int))).1
      have s2 := (s1.stored j (.int .i64 (f i : Int))).1
      have HS : Hid ((((wr.setCell ⟨g, i, none⟩ (.int .i64 (f j : Int))).setCell ⟨g, j, none⟩ (.int .i64 (f i : Int)))).ownsRow base 3 1 (.slice (some ⟨g, 0, none⟩) n cap) n ((cnts n (swp n (i + 1) f)).map (Value.int .i64))) := by
        rw [← List.map_set, cnts_set, ← List.map_set, cnts_set] at s2
        rw [cnts_congr n (swp n (i + 1) f) _ (fun k hk => ?_)]
        · exact s2
        · unfold swp
          by_cases a : k = j
          · rw [if_pos a, if_pos (by omega), show n - 1 - k = i by omega]
          · rw [if_neg a]
            by_cases b : k = i
            · rw [if_pos b, if_pos (by omega), show n - 1 - k = j by omega]
            · rw [if_neg b]
              by_cases c : k < i ∨ (n - i ≤ k ∧ k < n)
              · rw [if_pos c, if_pos (by omega)]
              · rw [if_neg c, if_neg (by omega)]
      have HO : Hid (OnlyB g w ((wr.setCell ⟨g, i, none⟩ (.int .i64 (f j : Int))).setCell ⟨g, j, none⟩ (.int .i64 (f i : Int)))) := (hob.setCell _ _ _).setCell _ _ _
      obtain ⟨x, hx⟩ : ∃ x, x = f i := ⟨_, rfl⟩
      obtain ⟨y, hy⟩ : ∃ x, x = f j := ⟨_, rfl⟩
      rw [← hx] at c1 HS HO
      rw [← hy] at c2 HS HO
      clear hx hy s1 s2 e1 e2 hown hob
      have hd : decide ((i : Int) < (j : Int)) = true := by simp; omega
      go_wp2
      go_region
      have HS2 : Hid ((((wr.setCell ⟨g, i, none⟩ (.int .i64 (y : Int))).setCell ⟨g, j, none⟩ (.int .i64 (x : Int))).drew).ownsRow base 3 1 (.slice (some ⟨g, 0, none⟩) n cap) n ((cnts n (swp n (i + 1) f)).map (Value.int .i64))) := HS.out
      have HO2 := Lib.hid HO.out.drew
      clear HS HO c1 c2 f1 f2
      go_wp2
      go_roundw
      case rel => exact ⟨i + 1, by go_num, by rw [Value.int.injEq]; exact ⟨rfl, by omega⟩, by omega, HS2.out, HO2.out⟩
      case measure => simp [intOf]; omega
    · have HE : Hid (wr.ownsRow base 3 1 (.slice (some ⟨g, 0, none⟩) n cap) n ((cnts n (fun k => f (n - 1 - k))).map (Value.int .i64))) := by
        rw [cnts_congr n _ (swp n i f) (fun k hk => ?_)]
        · exact hown
        · unfold swp
          by_cases c : k < i ∨ (n - i ≤ k ∧ k < n)
          · rw [if_pos c]
          · rw [if_neg c]
            have : n - 1 - k = k := by omega
            rw [this]
      have hd : decide ((i : Int) < (n : Int) - 1 - i) = false := by simp; omega
      clear hown
      go_wp2
      go_end0
      exact ⟨rfl, HE.out, hob⟩

set_option maxHeartbeats 800000 in
theorem isCycle_any (v u : Value) (es : List (Int × Int)) (l : List Nat) (w : World) (h : PairsAt w v es) (hl : IntsAt w u (ints l)) (h0 : 0 < l.length) (hl6 : l.length ≤ 600)
    (hed : ∀ i, i < l.length → hasE es (l.getD i 0 : Nat) (l.getD ((i + 1) % l.length) 0 : Nat) = true) (hd : ∀ i k, i < l.length → k < i → l.getD k 0 ≠ l.getD i 0) :
    Calls Tryd.prog 26 #[v, u] w fun e w' => e = .returned (.bool true) ∧ Below w.heap.size w w' := by
  obtain ⟨ao, cap, hu, _, hcap⟩ := hl.val
  subst hu
  rw [ints_len] at hl hcap ⊢
  obtain ⟨b, off, hao, hbl, _⟩ := hl.get (i := 0) (by rw [ints_len]; exact h0)
  subst hao
  have hc : ∀ i, i < l.length → w.cell? ⟨b, off + i, none⟩ = some (.int .i64 (l.getD i 0 : Nat)) := fun i hi => by
    obtain ⟨b2, off2, hao, _, hc⟩ := hl.get (i := i) (by rw [ints_len]; exact hi)
    cases hao
    rw [ints_take] at hc
    exact hc
  obtain ⟨n, hn⟩ : ∃ n, n = l.length := ⟨_, rfl⟩
  rw [← hn] at hc hed hd h0 hl6 hcap ⊢
  have HC := Lib.hid hc
  have HED := Lib.hid hed
  have HD := Lib.hid hd
  clear hc hl hed hd hn
  go_enter Tryd.func26, Tryd.ntmps26
  go_wp2
  go_loopw [9] (fun v9 wr => ∃ i : Nat, i ≤ n ∧ v9 = .int .i64 i ∧ Below w.heap.size w wr) (fun v9 _ => n - (intOf v9).toNat)
  case atStart => exact ⟨0, Nat.zero_le _, rfl, Below.refl _ _⟩
  case round =>
    obtain ⟨i, hi, rfl, hb⟩ := hrel
    by_cases hlt : i < n
    · have c1 := (hb.cell (p := ⟨b, off + i, none⟩) hbl).trans (HC.out i hlt)
      have hm : (i + 1) % n < n := Nat.mod_lt _ h0
      have c2 := (hb.cell (p := ⟨b, off + (i + 1) % n, none⟩) hbl).trans (HC.out _ hm)
      have hmi : Int.tmod ((i : Int) + 1) (n : Int) = (((i + 1) % n : Nat) : Int) := by
        rw [Int.tmod_eq_emod_of_nonneg (by omega)]; simp
      have HA := has_any v es (l.getD i 0 : Nat) (l.getD ((i + 1) % n) 0 : Nat) wr.drew (h.mono hb.drew)
      rw [HED.out i hlt] at HA
      obtain ⟨x, hx⟩ : ∃ x, x = l.getD i 0 := ⟨_, rfl⟩
      rw [← hx] at c1 HA
      generalize l.getD ((i + 1) % n) 0 = y at c2 HA
      have HX := Lib.hid hx
      generalize (i + 1) % n = j at hm c2 hmi
      have hn0 : ¬ n = 0 := by omega
      have hw1 : IntKind.i64.wrap ((i : Int) + 1) = (i : Int) + 1 := by rw [IntKind.wrap_i64]; omega
      have hw2 : IntKind.i64.wrap (j : Int) = (j : Int) := by rw [IntKind.wrap_i64]; omega
      clear h hx
      go_wp2
      refine still_drew 13 (by kernel_rfl) (by kernel_rfl) ?_
      simp only [List.take_succ_cons, List.take_zero, List.drop_succ_cons, List.drop_zero]
      repeat still_step
      refine wpStill_nil ?_
      go_wp2_with fail
      refine HA.mono ?_
      rintro e w' ⟨rfl, rfl⟩
      go_wp2
      have hbd : Below w.heap.size w wr.drew := hb.drew
      have hc1 : ∀ wr2, Below w.heap.size w wr2 → wr2.cell? ⟨b, off + i, none⟩ = some (.int .i64 (x : Int)) := fun wr2 h2 => by
        rw [(h2.cell (p := ⟨b, off + i, none⟩) hbl), HC.out i hlt, ← HX.out]
      have HC1 := Lib.hid hc1
      clear hb HA c1 c2 hm hmi hw1 hw2 hc1
      go_loopw [6] (fun v6 wr => ∃ k : Nat, k ≤ i ∧ v6 = .int .i64 k ∧ Below w.heap.size w wr) (fun v6 _ => i - (intOf v6).toNat)
      case atStart => exact ⟨0, Nat.zero_le _, rfl, hbd⟩
      case round =>
        obtain ⟨k, hk, rfl, hb⟩ := hrel
        clear hbd
        by_cases hki : k < i
        · have c1 := HC1.out _ hb
          have c2 := (hb.cell (p := ⟨b, off + k, none⟩) hbl).trans (HC.out k (by omega))
          have hne := HD.out i k hlt hki
          rw [← HX.out] at hne
          obtain ⟨y, hy⟩ : ∃ y, y = l.getD k 0 := ⟨_, rfl⟩
          rw [← hy] at hne c2
          have hne2 : ((y : Int) == (x : Int)) = false := by rw [beq_eq_false_iff_ne]; omega
          have hkn : k < n := by omega
          have hd : decide ((k : Int) < (i : Int)) = true := by simp; omega
          clear hy
          go_wp2
          go_quiet (fail)
          go_wp2
          go_roundw
          case rel => exact ⟨k + 1, by omega, by go_num, below_drewN hb _⟩
          case measure => simp [intOf]; omega
        · go_wp2
          go_roundw
          case rel => exact ⟨i + 1, by omega, by go_num, hb⟩
          case measure => simp [intOf]; omega
    · have hd : decide ((0 : Int) < (n : Int)) = true := by simp; omega
      go_wp2
      go_ret
      exact ⟨rfl, hb⟩

end Go.Proofs.YtelioljmhlabjaaDoor
