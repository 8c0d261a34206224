/- Plain: the chain's rows, whatever addresses hold their parts: the plan that is made of them, and its order. No walk. -/
import Derived.Test.YtnjbdedmalpccaaDoorPnU
import Derived.Test.YtnjbdedmalpccaaDoorPnH
namespace Go.Proofs.YtnjbdedmalpccaaDoor
set_option maxRecDepth 100000

/-- The chain's rows, the parts held at D's addresses. -/
def instY (how i : Nat) (a : Option Addr × Nat) : IX := (⟨nameC i, [116], 6, false, [], none, 0, 0, none, 0, 0, actC how, false, a.1, i, a.2⟩, depsC i)
def recY (i : Nat) (a : Option Addr × Nat) : RX := (⟨nameC i, [116], nameC i, 6, false, [], none, 0, 0, none, 0, 0, a.1, i, a.2⟩, depsC i)
def xsY (how n : Nat) (D : Nat → Option Addr × Nat) : List IX := if how = 1 then [] else (List.range n).map fun i => instY how i (D i)
def rsY (how n : Nat) (D : Nat → Option Addr × Nat) : List RX := if how = 0 then [] else (List.range n).map fun i => recY i (D i)
theorem depsC_len (i : Nat) : (depsC i).length = i := by simp [depsC]
theorem depsC_snoc (i : Nat) : depsC (i + 1) = depsC i ++ [nameC i] := by simp [depsC, List.range_succ]
theorem depsC_get {i j : Nat} (h : j < i) : (depsC i).getD j [] = nameC j := by simp [depsC, List.getD, h]
theorem xsC_len (how n : Nat) : (xsC how n).length ≤ n := by unfold xsC; split <;> simp
theorem rsC_len (how n : Nat) : (rsC how n).length ≤ n := by unfold rsC; split <;> simp
theorem xsY_len (how n : Nat) (D : Nat → Option Addr × Nat) : (xsY how n D).length ≤ n := by unfold xsY; split <;> simp
theorem rsY_len (how n : Nat) (D : Nat → Option Addr × Nat) : (rsY how n D).length ≤ n := by unfold rsY; split <;> simp
theorem xsY_alike (how n : Nat) (D : Nat → Option Addr × Nat) : (xsY how n D).map eraseX = (xsC how n).map eraseX := by
  unfold xsY xsC
  split
  · rfl
  · rw [List.map_map, List.map_map]
    rfl
theorem rsY_alike (how n : Nat) (D : Nat → Option Addr × Nat) : (rsY how n D).map eraseY = (rsC how n).map eraseY := by
  unfold rsY rsC
  split
  · rfl
  · rw [List.map_map, List.map_map]
    rfl
theorem makeY (how n : Nat) (D : Nat → Option Addr × Nat) : (makeS (xsY how n D) (rsY how n D)).steps = (planC how n).steps ∧ (makeS (xsY how n D) (rsY how n D)).edges = (planC how n).edges := by
  have h := makeS_alike (xsY_alike how n D) (rsY_alike how n D)
  have hp : makeS (xsC how n) (rsC how n) = planC how n := by
    unfold makeS planC
    rw [merge_fuel (2 * n) _ _ _ (by have := xsC_len how n; have := rsC_len how n; omega)]
  rw [hp] at h
  exact h
theorem xsY_mem {how n : Nat} {D : Nat → Option Addr × Nat} {x : IX} (h : x ∈ xsY how n D) : ∃ i, i < n ∧ x = instY how i (D i) := by
  unfold xsY at h
  split at h
  · cases h
  · obtain ⟨i, hi, rfl⟩ := List.mem_map.1 h
    exact ⟨i, by simpa using hi, rfl⟩
theorem rsY_mem {how n : Nat} {D : Nat → Option Addr × Nat} {x : RX} (h : x ∈ rsY how n D) : ∃ i, i < n ∧ x = recY i (D i) := by
  unfold rsY at h
  split at h
  · cases h
  · obtain ⟨i, hi, rfl⟩ := List.mem_map.1 h
    exact ⟨i, by simpa using hi, rfl⟩

/-- What the law adds to want in its two loops. -/
def wantA (how n i : Nat) : S8 := if how = 0 ∨ how = 3 then 43 :: nameC i else 45 :: nameC (n - 1 - i)
def wantB (how n i : Nat) : S8 := if how = 2 then 43 :: nameC i else 45 :: (nameC (n - 1 - i) ++ [126])
theorem want_two {how n : Nat} (h : how < 4) : (List.range n).map (wantA how n) ++ (if 1 < how then (List.range n).map (wantB how n) else []) = wantC how n := by
  match how, h with
  | 0, _ =>
    have e : wantA 0 n = fun i => 43 :: nameC i := by funext i; simp [wantA]
    rw [e]
    simp [wantC]
  | 1, _ =>
    have e : wantA 1 n = fun i => 45 :: nameC (n - 1 - i) := by funext i; simp [wantA]
    rw [e]
    simp [wantC]
  | 2, _ =>
    have e : wantA 2 n = fun i => 45 :: nameC (n - 1 - i) := by funext i; simp [wantA]
    have e2 : wantB 2 n = fun i => 43 :: nameC i := by funext i; simp [wantB]
    rw [e, e2]
    simp [wantC]
  | 3, _ =>
    have e : wantA 3 n = fun i => 43 :: nameC i := by funext i; simp [wantA]
    have e2 : wantB 3 n = fun i => 45 :: (nameC (n - 1 - i) ++ [126]) := by funext i; simp [wantB]
    rw [e, e2]
    simp [wantC]
theorem nameC_len (i : Nat) : (nameC i).length = 4 := rfl
theorem wantC_short {how n : Nat} {x : S8} (h : x ∈ wantC how n) : x.length ≤ 6 := by
  unfold wantC at h
  split at h
  · obtain ⟨i, _, rfl⟩ := List.mem_map.1 h
    simp [nameC_len]
  · split at h
    · obtain ⟨i, _, rfl⟩ := List.mem_map.1 h
      simp [nameC_len]
    · split at h
      · rcases List.mem_append.1 h with h | h <;> (obtain ⟨i, _, rfl⟩ := List.mem_map.1 h; simp [nameC_len])
      · rcases List.mem_append.1 h with h | h <;> (obtain ⟨i, _, rfl⟩ := List.mem_map.1 h; simp [nameC_len])
theorem ord_want_len (how n : Nat) : (wantC how n).length = (ordC how n).length := by
  unfold wantC ordC
  split
  · simp
  · split
    · simp
    · split <;> simp

/-- All that the law wants of the chain's plan. -/
structure ChainP (how n : Nat) : Prop where
  steps : (planC how n).steps.length ≤ 40
  edges : (planC how n).edges.length ≤ 4096
  nodup : (planC how n).edges.Nodup
  red : ∀ ts : List (Int × Int), ts.Perm (planC how n).edges → reduceR (planC how n).steps.length ts = (redL (planC how n).steps.length (planC how n).edges, 0)
  ord : orderR (planC how n).steps.length (redL (planC how n).steps.length (planC how n).edges) = ((ordC how n).map (fun i : Nat => (i : Int)), 0)
  at_ : ∀ j, j < (ordC how n).length → (ordC how n).getD j 0 < (planC how n).steps.length ∧ signS ((planC how n).steps.getD ((ordC how n).getD j 0) step0) = (wantC how n).getD j []
theorem chain_ok {how n : Nat} (hh : how < 4) (h1 : 1 ≤ n) (h2 : n ≤ 20) : ChainP how n := by
  have hc := chk_all how n hh h1 h2
  unfold chkC at hc
  generalize hF : planC how n = F at hc
  simp only [Bool.and_eq_true, beq_iff_eq, decide_eq_true_eq] at hc
  obtain ⟨⟨⟨⟨c1, c2⟩, c3⟩, c4⟩, c5⟩ := hc
  obtain ⟨hr, hn⟩ := chk_row c3 c2 c4 c5
  have hlen : F.edges.length ≤ 4096 := by
    unfold chkE at c4
    rw [Bool.and_eq_true] at c4
    have hm := (onceB_nodup _ 0 c4.2).1
    have hs : ∀ x ∈ F.edges.map edgeN, x ∈ List.range 4096 := fun x hx => by
      obtain ⟨e, he, rfl⟩ := List.mem_map.1 hx
      have := hr.rng e he
      unfold edgeN
      rw [List.mem_range]
      omega
    have := hm.length_le_of_subset hs
    simpa using this
  obtain ⟨r1, r2⟩ := hr.reduce (by omega) hlen
  refine ⟨by rw [hF]; exact c3, by rw [hF]; exact hlen, by rw [hF]; exact hn, fun ts hp => ?_, ?_, fun j hj => ?_⟩
  · rw [hF] at hp ⊢
    exact r1 ts hp
  · rw [hF]
    exact r2
  · rw [hF]
    have e1 : (ordC how n).getD j 0 = (ordC how n)[j] := by simp [List.getD, hj]
    have hk := hr.ok.lt _ (List.getElem_mem hj)
    rw [e1]
    refine ⟨hk, ?_⟩
    have h3 : (F.steps.map signS).getD (ordC how n)[j] [] = ((List.range F.steps.length).map fun k => (wantC how n).getD ((ordC how n).idxOf k) []).getD (ordC how n)[j] [] := by rw [c1]
    have e2 : (F.steps.map signS).getD (ordC how n)[j] [] = signS (F.steps.getD (ordC how n)[j] step0) := by simp [List.getD, hk]
    have e3 : ((List.range F.steps.length).map fun k => (wantC how n).getD ((ordC how n).idxOf k) []).getD (ordC how n)[j] [] = (wantC how n).getD ((ordC how n).idxOf (ordC how n)[j]) [] := by simp [List.getD, hk]
    rw [e2, e3, idx_get hr.ok.nd hj] at h3
    exact h3

end Go.Proofs.YtnjbdedmalpccaaDoor
