/- Plain: ways in a graph, what is reached, and the searches that find it. No program in sight. -/
import Derived.Test.YtnjbdedmalpccaaDoorGrOrdP
import Derived.Test.YtnjbdedmalpccaaDoorGrSetP
namespace Go.Proofs.YtnjbdedmalpccaaDoor

/-- An edge of the graph, without one. -/
def Edge (es : List (Int × Int)) (wo : Int × Int) (a b : Nat) : Prop := ((a : Int), (b : Int)) ∈ es ∧ ((a : Int), (b : Int)) ≠ wo
/-- A way of one edge or more. -/
inductive Way (E : Nat → Nat → Prop) (a : Nat) : Nat → Prop
  | one {b : Nat} : E a b → Way E a b
  | snoc {b c : Nat} : Way E a b → E b c → Way E a c

theorem Way.trans {E : Nat → Nat → Prop} {a b c : Nat} (h : Way E a b) (k : Way E b c) : Way E a c := by
  induction k with
  | one e => exact .snoc h e
  | snoc _ e ih => exact .snoc ih e
theorem Way.cons {E : Nat → Nat → Prop} {a b c : Nat} (h : E a b) (k : Way E b c) : Way E a c := (Way.one h).trans k
theorem Way.mono {E F : Nat → Nat → Prop} {a b : Nat} (h : Way E a b) (hEF : ∀ x y, E x y → F x y) : Way F a b := by
  induction h with
  | one e => exact .one (hEF _ _ e)
  | snoc _ e ih => exact .snoc ih (hEF _ _ e)
theorem Edge.none {es : List (Int × Int)} {a b : Nat} : Edge es (-1, -1) a b ↔ ((a : Int), (b : Int)) ∈ es := by
  unfold Edge
  refine ⟨fun h => h.1, fun h => ⟨h, fun e => ?_⟩⟩
  have := congrArg Prod.fst e
  simp at this

open Classical in
/-- All to which a way goes. -/
noncomputable def wayL (n : Nat) (es : List (Int × Int)) (wo : Int × Int) (a : Nat) : List Nat := (List.range n).filter fun k => decide (Way (Edge es wo) a k)
theorem mem_wayL {n : Nat} {es : List (Int × Int)} {wo : Int × Int} {a k : Nat} : k ∈ wayL n es wo a ↔ k < n ∧ Way (Edge es wo) a k := by simp [wayL]

open Classical in
/-- The nodes of a list, and all that are reached from one of them. -/
noncomputable def allL (n : Nat) (es : List (Int × Int)) (fr : List Nat) : List Nat := (List.range n).filter fun k => decide (∃ f ∈ fr, f = k ∨ Way (Edge es (-1, -1)) f k)
theorem mem_allL {n : Nat} {es : List (Int × Int)} {fr : List Nat} {k : Nat} : k ∈ allL n es fr ↔ k < n ∧ ∃ f ∈ fr, f = k ∨ Way (Edge es (-1, -1)) f k := by simp [allL]

theorem marks_congr {n : Nat} {o o' : List Nat} (h : ∀ k, k < n → (k ∈ o ↔ k ∈ o')) : marks n o = marks n o' := by
  unfold marks
  apply List.map_congr_left
  intro k hk
  have := h k (by simpa using hk)
  rw [Bool.eq_iff_iff]
  simpa using this

theorem way_in {n : Nat} {es : List (Int × Int)} {wo : Int × Int} {a b : Nat} (hes : ∀ e ∈ es, 0 ≤ e.1 ∧ e.1 < n ∧ 0 ≤ e.2 ∧ e.2 < n) (h : Way (Edge es wo) a b) : b < n := by
  cases h with
  | one e => have := hes _ e.1; simp at this; omega
  | snoc _ e => have := hes _ e.1; simp at this; omega

/-- The reference's search is at its end: what is found is what is reached. -/
theorem way_found {n : Nat} {es : List (Int × Int)} {wo : Int × Int} {a : Nat} {o : List Nat}
    (ho : ∀ k ∈ o, Way (Edge es wo) a k) (hc : ∀ e ∈ es, e ≠ wo → (e.1 = (a : Int) ∨ e.1.toNat ∈ o) → e.2.toNat ∈ o) : marks n o = marks n (wayL n es wo a) := by
  apply marks_congr
  intro k hk
  rw [mem_wayL]
  refine ⟨fun h => ⟨hk, ho k h⟩, fun h => ?_⟩
  have h2 := h.2
  clear h hk
  induction h2 with
  | one e => simpa using hc _ e.1 e.2 (Or.inl rfl)
  | snoc _ e ih => simpa using hc _ e.1 e.2 (Or.inr (by simpa using ih))

/-- The search with a list of what is to be looked at. -/
structure RInv (n : Nat) (es : List (Int × Int)) (fr : List Nat) (F : Nat) (t : List Nat) : Prop where
  src : ∀ f ∈ fr, F.testBit f = true ∨ f ∈ t
  step : ∀ i k, F.testBit i = true → Edge es (-1, -1) i k → F.testBit k = true ∨ k ∈ t
  just : ∀ i, F.testBit i = true ∨ i ∈ t → i < n ∧ ∃ f ∈ fr, f = i ∨ Way (Edge es (-1, -1)) f i

theorem RInv.start {n : Nat} {es : List (Int × Int)} {fr : List Nat} (h : ∀ f ∈ fr, f < n) : RInv n es fr 0 fr :=
  ⟨fun f hf => Or.inr hf, fun i k hi => by simp at hi, fun i hi => by
    rcases hi with hi | hi
    · simp at hi
    · exact ⟨h i hi, i, hi, Or.inl rfl⟩⟩
theorem RInv.skip {n : Nat} {es : List (Int × Int)} {fr : List Nat} {F : Nat} {t : List Nat} {i : Nat} (h : RInv n es fr F (t ++ [i])) (hi : F.testBit i = true) : RInv n es fr F t := by
  have aux : ∀ k, F.testBit k = true ∨ k ∈ t ++ [i] → F.testBit k = true ∨ k ∈ t := by
    intro k hk
    rcases hk with hk | hk
    · exact Or.inl hk
    · rw [List.mem_append, List.mem_singleton] at hk
      rcases hk with hk | rfl
      · exact Or.inr hk
      · exact Or.inl hi
  exact ⟨fun f hf => aux f (h.src f hf), fun i k hi he => aux k (h.step i k hi he), fun k hk => h.just k (by
    rcases hk with hk | hk
    · exact Or.inl hk
    · exact Or.inr (List.mem_append_left _ hk))⟩
theorem RInv.take {n : Nat} {es : List (Int × Int)} {fr : List Nat} {F : Nat} {t : List Nat} {i : Nat} (h : RInv n es fr F (t ++ [i])) (hn : n ≤ 512) (hes : ∀ e ∈ es, 0 ≤ e.1 ∧ e.1 < n ∧ 0 ≤ e.2 ∧ e.2 < n) : RInv n es fr (F ||| 2 ^ i) (t ++ nodes (succS es i)) := by
  have hb : ∀ k, (F ||| 2 ^ i).testBit k = true ↔ F.testBit k = true ∨ k = i := by
    intro k
    rw [Nat.testBit_or, Nat.testBit_two_pow, Bool.or_eq_true, decide_eq_true_eq]
    constructor
    · rintro (h | h); exact Or.inl h; exact Or.inr h.symm
    · rintro (h | h); exact Or.inl h; exact Or.inr h.symm
  have hnx : ∀ k, k ∈ nodes (succS es i) ↔ Edge es (-1, -1) i k := by
    intro k
    rw [mem_nodes, succS_bit es i k (fun e he => (hes e he).2.2.1), Edge.none]
    refine ⟨fun h => h.2, fun h => ⟨?_, h⟩⟩
    have := hes _ h; simp at this; omega
  have aux : ∀ k, F.testBit k = true ∨ k ∈ t ++ [i] → (F ||| 2 ^ i).testBit k = true ∨ k ∈ t ++ nodes (succS es i) := by
    intro k hk
    rw [hb, List.mem_append]
    rw [List.mem_append, List.mem_singleton] at hk
    rcases hk with hk | hk | hk
    · exact Or.inl (Or.inl hk)
    · exact Or.inr (Or.inl hk)
    · exact Or.inl (Or.inr hk)
  have hji := h.just i (Or.inr (List.mem_append_right _ (List.mem_singleton.2 rfl)))
  refine ⟨fun f hf => aux f (h.src f hf), fun j k hj he => ?_, fun k hk => ?_⟩
  · rw [hb] at hj
    rcases hj with hj | rfl
    · exact aux k (h.step j k hj he)
    · exact Or.inr (List.mem_append_right _ ((hnx k).2 he))
  · rw [hb, List.mem_append] at hk
    rcases hk with (hk | rfl) | hk | hk
    · exact h.just k (Or.inl hk)
    · exact hji
    · exact h.just k (Or.inr (List.mem_append_left _ hk))
    · have he := (hnx k).1 hk
      have hkn : k < n := by have := hes _ he.1; simp at this; omega
      obtain ⟨f, hf, hw⟩ := hji.2
      refine ⟨hkn, f, hf, Or.inr ?_⟩
      rcases hw with rfl | hw
      · exact .one he
      · exact .snoc hw he
theorem nodes_filter {n F : Nat} (hn : n ≤ 512) (h : ∀ k, F.testBit k = true → k < n) : nodes F = (List.range n).filter fun k => F.testBit k := by
  unfold nodes below
  obtain ⟨d, hd⟩ : ∃ d, 512 = n + d := ⟨512 - n, by omega⟩
  rw [hd, List.range_add, List.filter_append]
  have : ((List.range d).map (n + ·)).filter (fun k => F.testBit k) = [] := by
    rw [List.filter_eq_nil_iff]
    intro x hx hb
    have := h x (by simpa using hb)
    obtain ⟨y, _, rfl⟩ := List.mem_map.1 hx
    omega
  rw [this, List.append_nil]
open Classical in
theorem RInv.done {n : Nat} {es : List (Int × Int)} {fr : List Nat} {F : Nat} (h : RInv n es fr F []) (hn : n ≤ 512) : nodes F = allL n es fr := by
  rw [nodes_filter hn (fun k hk => (h.just k (Or.inl hk)).1)]
  unfold allL
  apply List.filter_congr
  intro k hk
  rw [Bool.eq_iff_iff, decide_eq_true_eq]
  refine ⟨fun hb => (h.just k (Or.inl hb)).2, ?_⟩
  rintro ⟨f, hf, hw⟩
  have hbf : F.testBit f = true := by
    rcases h.src f hf with h1 | h1
    · exact h1
    · cases h1
  rcases hw with rfl | hw
  · exact hbf
  · have hst : ∀ i k, F.testBit i = true → Edge es (-1, -1) i k → F.testBit k = true := fun i k hi he => by
      rcases h.step i k hi he with h1 | h1
      · exact h1
      · cases h1
    clear hk
    induction hw with
    | one e => exact hst _ _ hbf e
    | snoc _ e ih => exact hst _ _ ih e

theorem nodes_put {F i : Nat} (hi : i < 512) (h : F.testBit i = false) : (nodes (F ||| 2 ^ i)).length = (nodes F).length + 1 := by
  unfold nodes below
  have hp : ∀ k, (F ||| 2 ^ i).testBit k = (F.testBit k || decide (i = k)) := fun k => by rw [Nat.testBit_or, Nat.testBit_two_pow]
  simp only [hp]
  generalize (512 : Nat) = m at hi
  induction m with
  | zero => omega
  | succ m ih =>
    rw [List.range_succ]
    simp only [List.filter_append, List.length_append, List.filter_cons, List.filter_nil]
    by_cases e : i = m
    · subst e
      have : (List.range i).filter (fun k => F.testBit k || decide (i = k)) = (List.range i).filter (fun k => F.testBit k) := by
        apply List.filter_congr
        intro k hk
        have : ¬ i = k := by simp at hk; omega
        simp [this]
      rw [this]
      simp [h]
    · have := ih (by omega)
      rw [this]
      simp only [e, decide_false, Bool.or_false]
      split <;> simp <;> omega
theorem nodes_le (F : Nat) : (nodes F).length ≤ 512 := below_len F 512

end Go.Proofs.YtnjbdedmalpccaaDoor
