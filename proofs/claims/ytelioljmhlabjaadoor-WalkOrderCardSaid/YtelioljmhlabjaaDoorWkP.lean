/- Plain: a walk through a graph: each node's status, what is ahead, what may be done, and what is behind each call. No program in sight. -/
import Derived.Test.YtelioljmhlabjaaDoorReach
namespace Go.Proofs.YtelioljmhlabjaaDoor

/-- The status that is told of a node. -/
def statusR (n : Nat) (st : List Int) (i : Int) : Int := if i < 0 ∨ (n : Int) ≤ i then -1 else st.getD i.toNat 0
/-- How many edges come from nodes that aren't done. -/
def aheadN (es : List (Int × Int)) (st : List Int) (k : Nat) : Nat := (es.filter fun e => e.2 == (k : Int) && !(st.getD e.1.toNat 0 == 2)).length
/-- The nodes behind one, an edge each. -/
def nxN (es : List (Int × Int)) (i : Nat) : List Nat := (es.filter fun e => e.1 == (i : Int)).map fun e => e.2.toNat
def withB (es : List (Int × Int)) (st : List Int) (s : Int) (i : Nat) : Bool := st.getD i 0 == s && (!(s == 0) || aheadN es st i == 0)
def withL (n : Nat) (es : List (Int × Int)) (st : List Int) (s : Int) : List Nat := (List.range n).filter (withB es st s)
def startsL (n : Nat) (es : List (Int × Int)) (lim : Int) (st : List Int) : List Nat := if lim ≤ (withL n es st 1).length then [] else withL n es st 0
def choicesL (n : Nat) (es : List (Int × Int)) (lim : Int) (st : List Int) : List Nat := startsL n es lim st ++ withL n es st 1

theorem withL_len (n : Nat) (es : List (Int × Int)) (st : List Int) (s : Int) : (withL n es st s).length ≤ n := by
  unfold withL
  exact Nat.le_trans (List.length_filter_le _ _) (by simp)
theorem startsL_len (n : Nat) (es : List (Int × Int)) (lim : Int) (st : List Int) : (startsL n es lim st).length ≤ n := by
  unfold startsL
  split
  · simp
  · exact withL_len _ _ _ _
theorem mem_withL {n : Nat} {es : List (Int × Int)} {st : List Int} {s : Int} {i : Nat} : i ∈ withL n es st s ↔ i < n ∧ withB es st s i = true := by simp [withL]

theorem aheadN_snoc (es : List (Int × Int)) (e : Int × Int) (st : List Int) (k : Nat) : aheadN (es ++ [e]) st k = aheadN es st k + if e.2 = (k : Int) ∧ st.getD e.1.toNat 0 ≠ 2 then 1 else 0 := by
  unfold aheadN
  rw [List.filter_append, List.length_append]
  congr 1
  by_cases h : e.2 = (k : Int) <;> by_cases h2 : st.getD e.1.toNat 0 = 2 <;> simp_all
theorem aheadN_le (es : List (Int × Int)) (st : List Int) (k : Nat) : aheadN es st k ≤ es.length := List.length_filter_le _ _
theorem aheadN_zero {es : List (Int × Int)} {st : List Int} {k : Nat} : aheadN es st k = 0 ↔ ∀ e ∈ es, e.2 = (k : Int) → st.getD e.1.toNat 0 = 2 := by
  unfold aheadN
  rw [List.length_eq_zero_iff, List.filter_eq_nil_iff]
  simp only [Bool.and_eq_true, beq_iff_eq, Bool.not_eq_true', beq_eq_false_iff_ne, not_and, ne_eq, Classical.not_not]
theorem nxN_snoc (es : List (Int × Int)) (e : Int × Int) (i : Nat) : nxN (es ++ [e]) i = if e.1 = (i : Int) then nxN es i ++ [e.2.toNat] else nxN es i := by
  unfold nxN
  rw [List.filter_append, List.map_append]
  by_cases h : e.1 = (i : Int) <;> simp [h]
theorem nxN_len (es : List (Int × Int)) (i : Nat) : (nxN es i).length ≤ es.length := by
  unfold nxN
  rw [List.length_map]
  exact List.length_filter_le _ _
theorem mem_nxN {es : List (Int × Int)} {i k : Nat} (hes : ∀ e ∈ es, 0 ≤ e.2) : k ∈ nxN es i ↔ ((i : Int), (k : Int)) ∈ es := by
  unfold nxN
  simp only [List.mem_map, List.mem_filter, beq_iff_eq]
  constructor
  · rintro ⟨⟨x, y⟩, ⟨he, rfl⟩, rfl⟩
    have := hes _ he
    simp only at this ⊢
    rw [Int.toNat_of_nonneg this]
    exact he
  · intro h
    exact ⟨_, ⟨h, rfl⟩, by simp⟩

/-- A node is done: the edges from it are ahead no more. -/
theorem ahead_done {es : List (Int × Int)} {st : List Int} {i : Nat} (hes : ∀ e ∈ es, 0 ≤ e.1 ∧ 0 ≤ e.2) (hi : i < st.length) (h : st.getD i 0 ≠ 2) (k : Nat) :
    aheadN es (st.set i 2) k + (nxN es i).count k = aheadN es st k := by
  unfold aheadN nxN
  induction es with
  | nil => simp
  | cons e es ih =>
    have ih := ih (fun e he => hes e (List.mem_cons_of_mem _ he))
    obtain ⟨x, y⟩ := e
    obtain ⟨hx, hy⟩ := hes (x, y) (by simp)
    simp only at hx hy
    obtain ⟨p, rfl⟩ := Int.eq_ofNat_of_zero_le hx
    obtain ⟨q, rfl⟩ := Int.eq_ofNat_of_zero_le hy
    have e1 : (((p : Nat) : Int) == (i : Int)) = decide (p = i) := by rw [Bool.eq_iff_iff]; simp; omega
    have e2 : (((q : Nat) : Int) == (k : Int)) = decide (q = k) := by rw [Bool.eq_iff_iff]; simp; omega
    simp only [List.filter_cons, e1, e2, Int.toNat_natCast]
    by_cases hp : p = i
    · subst hp
      have g1 : (st.set p 2).getD p 0 = 2 := by simp [List.getD, hi]
      by_cases hq : q = k
      · subst hq
        simp only [g1, decide_true, Bool.true_and, beq_self_eq_true, Bool.not_true, Bool.false_eq_true, if_false, if_true, List.map_cons, Int.toNat_natCast, List.count_cons_self]
        have g2 : (!(st.getD p 0 == 2)) = true := by simpa using h
        rw [if_pos g2, List.length_cons]
        omega
      · simp only [hq, decide_false, Bool.false_and, Bool.false_eq_true, if_false, decide_true, if_true, List.map_cons, Int.toNat_natCast]
        rw [List.count_cons_of_ne hq]
        exact ih
    · have g1 : (st.set i 2).getD p 0 = st.getD p 0 := by
        have : i ≠ p := fun e => hp e.symm
        simp [List.getD, List.getElem?_set_ne this]
      simp only [g1, hp, decide_false, Bool.false_eq_true, if_false]
      split
      · simp only [List.length_cons]; omega
      · exact ih

/-- A walk under way: what has started has all done that is ahead. -/
def WInv (es : List (Int × Int)) (st : List Int) : Prop := ∀ e ∈ es, (st.getD e.2.toNat 0 = 1 ∨ st.getD e.2.toNat 0 = 2 ∨ st.getD e.2.toNat 0 = 3) → st.getD e.1.toNat 0 = 2

theorem WInv.way {es : List (Int × Int)} {st : List Int} (h : WInv es st) {a b : Nat} (hw : Way (Edge es (-1, -1)) a b) : (st.getD b 0 = 1 ∨ st.getD b 0 = 2 ∨ st.getD b 0 = 3) → st.getD a 0 = 2 := by
  induction hw with
  | one e => intro hb; simpa using h _ e.1 (by simpa using hb)
  | snoc _ e ih => intro hb; exact ih (Or.inr (Or.inl (by simpa using h _ e.1 (by simpa using hb))))

open Classical in
/-- Behind a failure: the node failed, all behind it are skipped. -/
noncomputable def skipL (n : Nat) (es : List (Int × Int)) (st : List Int) (i : Nat) : List Int := (List.range n).map fun k => if Way (Edge es (-1, -1)) i k then 4 else if k = i then 3 else st.getD k 0
theorem skipL_len (n : Nat) (es : List (Int × Int)) (st : List Int) (i : Nat) : (skipL n es st i).length = n := by simp [skipL]
open Classical in
theorem skipL_get (n : Nat) (es : List (Int × Int)) (st : List Int) (i k : Nat) (h : k < n) : (skipL n es st i).getD k 0 = if Way (Edge es (-1, -1)) i k then 4 else if k = i then 3 else st.getD k 0 := by
  simp [skipL, List.getD, h]

/-- The program's way to it: the nodes of a list are skipped, one by one. -/
def skipG (n : Nat) (st : List Int) (i : Nat) (l : List Nat) : List Int := (List.range n).map fun k => if k ∈ l then 4 else if k = i then 3 else st.getD k 0
theorem skipG_len (n : Nat) (st : List Int) (i : Nat) (l : List Nat) : (skipG n st i l).length = n := by simp [skipG]
theorem skipG_nil {n : Nat} {st : List Int} {i : Nat} (hl : st.length = n) : st.set i 3 = skipG n st i [] := by
  apply List.ext_getElem
  · simp [skipG, hl]
  · intro k h1 h2
    have hk : k < n := by simpa [skipG] using h2
    rw [List.getElem_set]
    simp only [skipG, List.getElem_map, List.getElem_range, List.not_mem_nil, if_false]
    by_cases e : i = k
    · subst e; simp
    · have : ¬ k = i := fun h => e h.symm
      simp [e, this, List.getD, hl, hk]
theorem skipG_snoc (n : Nat) (st : List Int) (i : Nat) (l : List Nat) (k : Nat) : (skipG n st i l).set k 4 = skipG n st i (l ++ [k]) := by
  apply List.ext_getElem
  · simp [skipG]
  · intro j h1 h2
    rw [List.getElem_set]
    simp only [skipG, List.getElem_map, List.getElem_range, List.mem_append, List.mem_singleton]
    by_cases e : k = j
    · subst e; simp
    · have : ¬ j = k := fun h => e h.symm
      simp [e, this]
theorem Way.head' {E : Nat → Nat → Prop} {a b : Nat} (h : Way E a b) : E a b ∨ ∃ m, E a m ∧ Way E m b := by
  induction h with
  | one e => exact Or.inl e
  | snoc _ e ih =>
    rcases ih with h | ⟨m, h1, h2⟩
    · exact Or.inr ⟨_, h, .one e⟩
    · exact Or.inr ⟨m, h1, .snoc h2 e⟩
theorem skipG_all {n : Nat} {es : List (Int × Int)} {st : List Int} {i : Nat} (hes : ∀ e ∈ es, 0 ≤ e.1 ∧ e.1 < n ∧ 0 ≤ e.2 ∧ e.2 < n) : skipG n st i (allL n es (nxN es i)) = skipL n es st i := by
  unfold skipG skipL
  apply List.map_congr_left
  intro k hk
  have hk' : k < n := by simpa using hk
  have : k ∈ allL n es (nxN es i) ↔ Way (Edge es (-1, -1)) i k := by
    rw [mem_allL]
    have hm : ∀ f, f ∈ nxN es i ↔ Edge es (-1, -1) i f := fun f => by rw [mem_nxN (fun e he => (hes e he).2.2.1), Edge.none]
    constructor
    · rintro ⟨_, f, hf, h⟩
      have he := (hm f).1 hf
      rcases h with rfl | h
      · exact .one he
      · exact Way.cons he h
    · intro h
      refine ⟨hk', ?_⟩
      cases h.head' with
      | inl e => exact ⟨k, (hm k).2 e, Or.inl rfl⟩
      | inr e => obtain ⟨m, e1, e2⟩ := e; exact ⟨m, (hm m).2 e1, Or.inr e2⟩
  by_cases h : Way (Edge es (-1, -1)) i k
  · rw [if_pos h, if_pos (this.2 h)]
  · rw [if_neg h, if_neg (fun hh => h (this.1 hh))]

/-- What a call answers, and the statuses behind it. -/
def startR (n : Nat) (es : List (Int × Int)) (lim : Int) (st : List Int) (i : Int) : List Int × Int :=
  if statusR n st i ≠ 0 ∨ 0 < aheadN es st i.toNat then (st, 4) else if lim ≤ (withL n es st 1).length then (st, 3) else (st.set i.toNat 1, 0)
noncomputable def finishR (n : Nat) (es : List (Int × Int)) (st : List Int) (i : Int) (ok : Bool) : List Int × Int :=
  if statusR n st i ≠ 1 then (st, 4) else if ok = true then (st.set i.toNat 2, 0) else (skipL n es st i.toNat, 0)
def chooseR (n : Nat) (es : List (Int × Int)) (lim : Int) (st : List Int) (pick : Nat) : Int × Bool :=
  if (choicesL n es lim st).length = 0 then (-1, false) else
    (((choicesL n es lim st).getD (pick % (choicesL n es lim st).length) 0 : Nat), decide (pick % (choicesL n es lim st).length < (startsL n es lim st).length))

theorem statusR_in {n : Nat} {st : List Int} {i : Int} {s : Int} (h : statusR n st i = s) (hs : s ≠ -1) : ∃ k : Nat, i = (k : Int) ∧ k < n ∧ st.getD k 0 = s := by
  unfold statusR at h
  split at h
  · exact absurd h.symm hs
  · rename_i h1
    obtain ⟨k, rfl⟩ := Int.eq_ofNat_of_zero_le (show 0 ≤ i by omega)
    exact ⟨k, rfl, by omega, by simpa using h⟩

theorem getD_set {st : List Int} {i k : Nat} {x : Int} (hi : i < st.length) : (st.set i x).getD k 0 = if k = i then x else st.getD k 0 := by
  by_cases h : k = i
  · subst h; simp [List.getD, hi]
  · have : i ≠ k := fun e => h e.symm
    simp [List.getD, h, List.getElem?_set_ne this]

theorem WInv.zeros (es : List (Int × Int)) (n : Nat) : WInv es (List.replicate n 0) := by
  intro e _ h
  have : (List.replicate n (0 : Int)).getD e.2.toNat 0 = 0 := by
    simp only [List.getD, List.getElem?_replicate]
    split <;> rfl
  rw [this] at h
  rcases h with h | h | h <;> cases h

theorem WInv.start {n : Nat} {es : List (Int × Int)} {lim : Int} {st : List Int} {i : Int} (h : WInv es st) (hl : st.length = n) (hes : ∀ e ∈ es, 0 ≤ e.1 ∧ 0 ≤ e.2) : WInv es (startR n es lim st i).1 := by
  unfold startR
  split
  · exact h
  · rename_i h1
    split
    · exact h
    · have h2 : statusR n st i = 0 ∧ aheadN es st i.toNat = 0 := by
        constructor
        · exact Classical.byContradiction fun hh => h1 (Or.inl hh)
        · apply Classical.byContradiction
          intro hh
          exact h1 (Or.inr (by omega))
      obtain ⟨k, rfl, hk, hs⟩ := statusR_in h2.1 (by decide)
      have ha := aheadN_zero.1 h2.2
      rw [Int.toNat_natCast] at ha ⊢
      intro e he hh
      rw [getD_set (by omega)] at hh
      rw [getD_set (by omega)]
      obtain ⟨p1, p2⟩ := hes e he
      by_cases hek : e.2.toNat = k
      · have h3 := ha e he (by omega)
        have : ¬ e.1.toNat = k := fun hh => by rw [hh, hs] at h3; cases h3
        rw [if_neg this]; exact h3
      · rw [if_neg hek] at hh
        have h3 := h e he hh
        have : ¬ e.1.toNat = k := fun hh => by rw [hh, hs] at h3; cases h3
        rw [if_neg this]; exact h3
theorem WInv.finish {n : Nat} {es : List (Int × Int)} {st : List Int} {i : Int} {ok : Bool} (h : WInv es st) (hl : st.length = n) (hes : ∀ e ∈ es, 0 ≤ e.1 ∧ e.1 < n ∧ 0 ≤ e.2 ∧ e.2 < n) : WInv es (finishR n es st i ok).1 := by
  unfold finishR
  split
  · exact h
  · rename_i h1
    have h2 : statusR n st i = 1 := Classical.byContradiction fun hh => h1 hh
    obtain ⟨k, rfl, hk, hs⟩ := statusR_in h2 (by decide)
    rw [Int.toNat_natCast]
    split
    · intro e he hh
      simp only at hh ⊢
      rw [getD_set (by omega)] at hh ⊢
      by_cases hek : e.1.toNat = k
      · rw [if_pos hek]
      · rw [if_neg hek]
        by_cases hek2 : e.2.toNat = k
        · exact h e he (Or.inl (by rw [hek2]; exact hs))
        · rw [if_neg hek2] at hh
          exact h e he hh
    · intro e he hh
      obtain ⟨p1, p2, p3, p4⟩ := hes e he
      simp only at hh ⊢
      rw [skipL_get _ _ _ _ _ (by omega)] at hh ⊢
      have hnw : ∀ b : Nat, st.getD b 0 = 1 ∨ st.getD b 0 = 2 ∨ st.getD b 0 = 3 → ¬ Way (Edge es (-1, -1)) k b := fun b hb hw => by
        have := h.way hw hb
        rw [hs] at this; cases this
      have key : st.getD e.2.toNat 0 = 1 ∨ st.getD e.2.toNat 0 = 2 ∨ st.getD e.2.toNat 0 = 3 := by
        split at hh
        · rcases hh with hh | hh | hh <;> cases hh
        · split at hh
          · rename_i h3; rw [h3]; exact Or.inl hs
          · exact hh
      have h3 := h e he key
      rw [if_neg (hnw _ (Or.inr (Or.inl h3))), if_neg (fun hh => by rw [hh, hs] at h3; cases h3)]
      exact h3

/-- A failure and its skips leave what is ahead. -/
theorem ahead_skip {n : Nat} {es : List (Int × Int)} {st : List Int} {i : Nat} (h : WInv es st) (hes : ∀ e ∈ es, 0 ≤ e.1 ∧ e.1 < n ∧ 0 ≤ e.2 ∧ e.2 < n) (hs : st.getD i 0 = 1) (k : Nat) : aheadN es (skipL n es st i) k = aheadN es st k := by
  unfold aheadN
  congr 1
  apply List.filter_congr
  intro e he
  congr 2
  obtain ⟨p1, p2, p3, p4⟩ := hes e he
  rw [skipL_get _ _ _ _ _ (by omega)]
  by_cases h1 : Way (Edge es (-1, -1)) i e.1.toNat
  · rw [if_pos h1]
    have : st.getD e.1.toNat 0 ≠ 2 := fun hh => by
      have := h.way h1 (Or.inr (Or.inl hh))
      rw [hs] at this; cases this
    rw [Bool.eq_iff_iff, beq_iff_eq, beq_iff_eq]
    exact ⟨fun h => (by cases h), fun h => absurd h this⟩
  · rw [if_neg h1]
    by_cases h2 : e.1.toNat = i
    · rw [if_pos h2, h2, hs]; rfl
    · rw [if_neg h2]

end Go.Proofs.YtelioljmhlabjaaDoor
