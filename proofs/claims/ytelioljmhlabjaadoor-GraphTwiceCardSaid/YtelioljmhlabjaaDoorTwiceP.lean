/- Plain: a reduced graph is reduced to itself, its order is the graph's, and edges that ways stand for change nothing. No program in sight. -/
import Derived.Test.YtelioljmhlabjaaDoorRedP
import Derived.Test.YtelioljmhlabjaaDoorReach
namespace Go.Proofs.YtelioljmhlabjaaDoor

/-- The edges from f to each node of a list but f. -/
def moreL (f : Nat) (r : List Nat) : List (Int × Int) := (r.filter fun k => !(k == f)).map fun k : Nat => ((f : Int), (k : Int))
theorem moreL_nil (f : Nat) : moreL f [] = [] := rfl
theorem moreL_snoc (f : Nat) (r : List Nat) (k : Nat) : moreL f (r ++ [k]) = if k = f then moreL f r else moreL f r ++ [((f : Int), (k : Int))] := by
  unfold moreL
  rw [List.filter_append, List.map_append]
  by_cases h : k = f <;> simp [h]
theorem moreL_len (f : Nat) (r : List Nat) : (moreL f r).length ≤ r.length := by
  unfold moreL
  rw [List.length_map]
  exact List.length_filter_le _ _
theorem mem_moreL {f : Nat} {r : List Nat} {e : Int × Int} (h : e ∈ moreL f r) : ∃ k ∈ r, k ≠ f ∧ e = ((f : Int), (k : Int)) := by
  unfold moreL at h
  obtain ⟨k, hk, rfl⟩ := List.mem_map.1 h
  have := List.mem_filter.1 hk
  exact ⟨k, this.1, by simpa using this.2, rfl⟩

theorem look_zero {n : Nat} {es : List (Int × Int)} {fr : List Int} (hn : n ≤ 512) (hl : es.length ≤ 4096) (hes : ∀ e ∈ es, 0 ≤ e.1 ∧ e.1 < n ∧ 0 ≤ e.2 ∧ e.2 < n) (hf : ∀ i ∈ fr, 0 ≤ i ∧ i < n) : lookE n es fr = 0 := by
  unfold lookE
  rw [if_neg (by omega), if_neg ?_, if_neg (by omega)]
  rw [Bool.or_eq_true, List.any_eq_true, List.any_eq_true]
  rintro (⟨e, he, h⟩ | ⟨i, hi, h⟩)
  · have := hes e he
    unfold outE at h
    simp at h
    omega
  · have := hf i hi
    unfold outE at h
    simp at h
    omega
theorem order_good {n : Nat} {es : List (Int × Int)} (h : lookE n es [] = 0) (hk : (kahn n es).length = n) : orderR n es = ((kahn n es).map (fun i : Nat => (i : Int)), 0) := by
  unfold orderR
  rw [if_pos h, Int.toNat_natCast, if_neg (by omega)]
theorem reduce_good {n : Nat} {es : List (Int × Int)} (h : lookE n es [] = 0) (hk : (kahn n es).length = n) : reduceR n es = (redL n es, 0) := by
  unfold reduceR
  rw [order_good h hk, if_pos rfl, Int.toNat_natCast]

theorem allL_len (n : Nat) (es : List (Int × Int)) (fr : List Nat) : (allL n es fr).length ≤ n := by
  unfold allL
  exact Nat.le_trans (List.length_filter_le _ _) (by simp)

/-- All that the law asks of a graph that is reduced once more. -/
theorem twice_facts {m : Nat} {es : List (Int × Int)} (hm : m ≤ 512) (hl : es.length ≤ 120) (hes : ∀ e ∈ es, 0 ≤ e.1 ∧ e.1 < m ∧ 0 ≤ e.2 ∧ e.2 < m) (h : (kahn m es).length = m) (f : Nat) (hf : f < m) :
    (redL m es).length ≤ 120 ∧ reduceR m (redL m es) = (redL m es, 0) ∧ orderR m (redL m es) = orderR m es ∧ reachR m (redL m es) [(f : Int)] = (ints (allL m (redL m es) [f]), 0) ∧
      reduceR m (redL m es ++ moreL f (allL m (redL m es) [f])) = (redL m es, 0) := by
  have hlen : (redL m es).length ≤ es.length := (gridL_nodup m _).length_le_of_subset redL_sub
  have hin : ∀ e ∈ redL m es, 0 ≤ e.1 ∧ e.1 < m ∧ 0 ≤ e.2 ∧ e.2 < m := fun e he => hes e (redL_sub e he)
  have hw := way_redL hes h
  have hk : kahn m (redL m es) = kahn m es := kahn_ways hin hes hw
  have h0 : lookE m es [] = 0 := look_zero hm (by omega) hes (by simp)
  have h1 : lookE m (redL m es) [] = 0 := look_zero hm (by omega) hin (by simp)
  have h2 : lookE m (redL m es) [(f : Int)] = 0 := look_zero hm (by omega) hin (by intro i hi; simp at hi; subst hi; omega)
  have hr : redL m (redL m es) = redL m es := redL_congr hw
  have hal := allL_len m (redL m es) [f]
  have hml := moreL_len f (allL m (redL m es) [f])
  have hmw : ∀ e ∈ moreL f (allL m (redL m es) [f]), ∃ k : Nat, k < m ∧ e = ((f : Int), (k : Int)) ∧ Way (EdgeL (redL m es)) f k := by
    intro e he
    obtain ⟨k, hk, hkf, rfl⟩ := mem_moreL he
    obtain ⟨hkm, g, hg, hgw⟩ := mem_allL.1 hk
    obtain rfl : g = f := by simpa using hg
    rw [edge_none] at hgw
    rcases hgw with rfl | hgw
    · exact absurd rfl hkf
    · exact ⟨k, hkm, rfl, hgw⟩
  have hin2 : ∀ e ∈ redL m es ++ moreL f (allL m (redL m es) [f]), 0 ≤ e.1 ∧ e.1 < m ∧ 0 ≤ e.2 ∧ e.2 < m := by
    intro e he
    rcases List.mem_append.1 he with he | he
    · exact hin e he
    · obtain ⟨k, hkm, rfl, _⟩ := hmw e he
      simp only
      omega
  have hw2 : ∀ a b, Way (EdgeL (redL m es ++ moreL f (allL m (redL m es) [f]))) a b ↔ Way (EdgeL (redL m es)) a b := way_more (fun a b hab => List.mem_append_left _ hab) (fun a b hab => by
    rcases List.mem_append.1 hab with hab | hab
    · exact .one hab
    · obtain ⟨k, _, e, hw⟩ := hmw _ hab
      have e1 := congrArg Prod.fst e
      have e2 := congrArg Prod.snd e
      simp only at e1 e2
      obtain rfl : a = f := by omega
      obtain rfl : b = k := by omega
      exact hw)
  have h3 : lookE m (redL m es ++ moreL f (allL m (redL m es) [f])) [] = 0 := look_zero hm (by rw [List.length_append]; omega) hin2 (by simp)
  have hk2 : kahn m (redL m es ++ moreL f (allL m (redL m es) [f])) = kahn m es := (kahn_ways hin2 hin hw2).trans hk
  refine ⟨by omega, ?_, ?_, ?_, ?_⟩
  · rw [reduce_good h1 (by rw [hk]; exact h), hr]
  · rw [order_good h1 (by rw [hk]; exact h), order_good h0 h, hk]
  · unfold reachR
    rw [if_pos h2, Int.toNat_natCast]
    simp
  · rw [reduce_good h3 (by rw [hk2]; exact h), redL_congr hw2, hr]

theorem redL_zero (es : List (Int × Int)) : redL 0 es = [] := rfl

end Go.Proofs.YtelioljmhlabjaaDoor
