/- Plain: the program's order: how many nodes are ahead, a heap's nodes as a set, and that the least of the free ones is the document's next. No program in sight. -/
import Derived.Test.YtnjbdedmalpccaaDoorGrKahn
import Derived.Test.YtnjbdedmalpccaaDoorGrSetP
namespace Go.Proofs.YtnjbdedmalpccaaDoor

/-- The nodes behind node k, as a set. -/
def succS (es : List (Int × Int)) (k : Nat) : Nat := (es.filter fun e => e.1 == (k : Int)).foldl (fun S e => S ||| 2 ^ e.2.toNat) 0

theorem succS_snoc (es : List (Int × Int)) (e : Int × Int) (k : Nat) : succS (es ++ [e]) k = if e.1 = (k : Int) then succS es k ||| 2 ^ e.2.toNat else succS es k := by
  unfold succS
  by_cases h : e.1 = (k : Int) <;> simp [List.filter_append, h]

theorem succS_bit (es : List (Int × Int)) (i k : Nat) (hes : ∀ e ∈ es, 0 ≤ e.2) : (succS es i).testBit k = true ↔ ((i : Int), (k : Int)) ∈ es := by
  have key : ∀ (l : List (Int × Int)) (S : Nat), (∀ e ∈ l, 0 ≤ e.2) → ((l.foldl (fun S e => S ||| 2 ^ e.2.toNat) S).testBit k = true ↔ S.testBit k = true ∨ ∃ e ∈ l, e.2 = (k : Int)) := by
    intro l
    induction l with
    | nil => intro S _; simp
    | cons e l ih =>
      intro S hl
      rw [List.foldl_cons, ih _ (fun e he => hl e (List.mem_cons_of_mem _ he)), Nat.testBit_or, Nat.testBit_two_pow]
      have h0 := hl e (by simp)
      simp only [Bool.or_eq_true, decide_eq_true_eq, List.mem_cons, exists_eq_or_imp]
      have : e.2.toNat = k ↔ e.2 = (k : Int) := by omega
      rw [this, or_assoc]
  unfold succS
  rw [key _ _ (fun e he => hes e (List.mem_filter.1 he).1)]
  simp only [Nat.zero_testBit, Bool.false_eq_true, false_or, List.mem_filter, beq_iff_eq]
  constructor
  · rintro ⟨⟨a, b⟩, ⟨h1, h2⟩, h3⟩; simp only at h2 h3; rw [← h2, ← h3]; exact h1
  · intro h; exact ⟨_, ⟨h, rfl⟩, rfl⟩

/-- How many of the nodes of p are ahead of k. -/
def cntOf (es : List (Int × Int)) (l : List Nat) (k : Nat) : Nat := (l.filter fun i => (succS es i).testBit k).length
/-- Nodes ahead that aren't in order yet. -/
def cntN (n : Nat) (es : List (Int × Int)) (o : List Nat) (k : Nat) : Nat := cntOf es ((List.range n).filter fun i => !o.contains i) k

theorem cntOf_nil (es : List (Int × Int)) (k : Nat) : cntOf es [] k = 0 := rfl
theorem cntOf_snoc (es : List (Int × Int)) (l : List Nat) (i k : Nat) : cntOf es (l ++ [i]) k = cntOf es l k + if (succS es i).testBit k then 1 else 0 := by
  unfold cntOf
  rw [List.filter_append, List.length_append]
  cases h : (succS es i).testBit k <;> simp [h]
theorem cntN_nil (n : Nat) (es : List (Int × Int)) (k : Nat) : cntN n es [] k = cntOf es (List.range n) k := by
  unfold cntN
  rw [List.filter_eq_self.2 (by simp)]
theorem cntN_le (n : Nat) (es : List (Int × Int)) (o : List Nat) (k : Nat) : cntN n es o k ≤ n := by
  unfold cntN cntOf
  refine Nat.le_trans (List.length_filter_le _ _) ?_
  refine Nat.le_trans (List.length_filter_le _ _) (by simp)
theorem cntOf_range_le (es : List (Int × Int)) (n k : Nat) : cntOf es (List.range n) k ≤ n := by
  unfold cntOf
  refine Nat.le_trans (List.length_filter_le _ _) (by simp)

theorem cntN_snoc (n : Nat) (es : List (Int × Int)) (o : List Nat) (x k : Nat) (hx : x < n) (hxo : x ∉ o) :
    cntN n es o k = cntN n es (o ++ [x]) k + if (succS es x).testBit k then 1 else 0 := by
  have key : ∀ l : List Nat, l.Nodup → (l.filter fun i => !o.contains i && (succS es i).testBit k).length = (l.filter fun i => !(o ++ [x]).contains i && (succS es i).testBit k).length + if x ∈ l ∧ (succS es x).testBit k = true then 1 else 0 := by
    intro l
    induction l with
    | nil => intro _; simp
    | cons a l ih =>
      intro hnd
      rw [List.nodup_cons] at hnd
      have h := ih hnd.2
      by_cases ha : a = x
      · subst ha
        have e1 : o.contains a = false := by simpa using hxo
        have e2 : (o ++ [a]).contains a = true := by simp
        rw [if_neg (by simp [hnd.1])] at h
        simp only [List.filter_cons, e1, e2, Bool.not_false, Bool.true_and, Bool.not_true, Bool.false_and, Bool.false_eq_true, if_false, List.mem_cons_self, true_and]
        cases (succS es a).testBit k <;> simp_all
      · have e1 : (o ++ [x]).contains a = o.contains a := by simp [ha]
        have e2 : (x ∈ a :: l) = (x ∈ l) := by
          apply propext
          rw [List.mem_cons]
          exact ⟨fun h => h.resolve_left (fun e => ha e.symm), Or.inr⟩
        simp only [List.filter_cons, e1, e2]
        split
        · rename_i h1; simp only [List.length_cons]; omega
        · exact h
  have h := key (List.range n) List.nodup_range
  unfold cntN cntOf
  rw [List.filter_filter, List.filter_filter]
  have c : ∀ o : List Nat, (fun a => (succS es a).testBit k && !o.contains a) = fun i => !o.contains i && (succS es i).testBit k := fun o => funext fun a => Bool.and_comm _ _
  rw [c, c, h]
  simp [hx]

theorem cntN_zero (n : Nat) (es : List (Int × Int)) (o : List Nat) (k : Nat) (hes : ∀ e ∈ es, 0 ≤ e.1 ∧ e.1 < n ∧ 0 ≤ e.2 ∧ e.2 < n) :
    rdy es o k = true ↔ k ∉ o ∧ cntN n es o k = 0 := by
  unfold rdy cntN cntOf
  simp only [Bool.and_eq_true, Bool.not_eq_true', List.contains_eq_mem, decide_eq_false_iff_not, List.all_eq_true, Bool.or_eq_true, beq_eq_false_iff_ne, decide_eq_true_eq, List.length_eq_zero_iff, List.filter_eq_nil_iff, List.mem_filter, List.mem_range]
  constructor
  · rintro ⟨h1, h2⟩
    refine ⟨h1, fun a ⟨ha, hao⟩ hb => ?_⟩
    have hm := (succS_bit es a k (fun e he => (hes e he).2.2.1)).1 hb
    rcases h2 _ hm with h | h
    · exact h rfl
    · simp only [Int.toNat_natCast] at h; exact hao h
  · rintro ⟨h1, h2⟩
    refine ⟨h1, fun e he => ?_⟩
    by_cases hek : e.2 = (k : Int)
    · right
      obtain ⟨p1, p2, p3, p4⟩ := hes e he
      apply Classical.byContradiction
      intro hno
      refine h2 e.1.toNat ⟨by omega, hno⟩ ((succS_bit es _ k (fun e he => (hes e he).2.2.1)).2 ?_)
      have : (((e.1.toNat : Nat) : Int), (k : Int)) = e := by
        rw [← hek, Int.toNat_of_nonneg p1]
      rw [this]; exact he
    · left; exact hek

/-- An order under way holds with each node all that are ahead of it. -/
def Closed (n : Nat) (es : List (Int × Int)) (o : List Nat) : Prop := ∀ k ∈ o, ∀ i, i < n → (succS es i).testBit k = true → i ∈ o
theorem Closed.nil (n : Nat) (es : List (Int × Int)) : Closed n es [] := fun k hk => by cases hk

theorem rdy_preds {n : Nat} {es : List (Int × Int)} {o : List Nat} {k : Nat} (hes : ∀ e ∈ es, 0 ≤ e.1 ∧ e.1 < n ∧ 0 ≤ e.2 ∧ e.2 < n) (h : rdy es o k = true) : ∀ i, (succS es i).testBit k = true → i ∈ o := by
  intro i hb
  have hm := (succS_bit es i k (fun e he => (hes e he).2.2.1)).1 hb
  unfold rdy at h
  simp only [Bool.and_eq_true, List.all_eq_true, Bool.or_eq_true, Bool.not_eq_true', beq_eq_false_iff_ne, List.contains_eq_mem, decide_eq_true_eq] at h
  rcases h.2 _ hm with h | h
  · exact absurd rfl h
  · simpa using h

theorem Closed.snoc {n : Nat} {es : List (Int × Int)} {o : List Nat} {x : Nat} (h : Closed n es o) (hes : ∀ e ∈ es, 0 ≤ e.1 ∧ e.1 < n ∧ 0 ≤ e.2 ∧ e.2 < n) (hr : rdy es o x = true) : Closed n es (o ++ [x]) := by
  intro k hk i hi hb
  rcases List.mem_append.1 hk with hk | hk
  · exact List.mem_append_left _ (h k hk i hi hb)
  · simp at hk; subst hk; exact List.mem_append_left _ (rdy_preds hes hr i hb)

/-- What is free behind a step: what was free but that node, and what it alone was ahead of. -/
theorem rdy_snoc {n : Nat} {es : List (Int × Int)} {o : List Nat} {x : Nat} (hc : Closed n es o) (hes : ∀ e ∈ es, 0 ≤ e.1 ∧ e.1 < n ∧ 0 ≤ e.2 ∧ e.2 < n) (hx : x < n) (hr : rdy es o x = true) (k : Nat) :
    rdy es (o ++ [x]) k = true ↔ (rdy es o k = true ∧ k ≠ x) ∨ ((succS es x).testBit k = true ∧ cntN n es (o ++ [x]) k = 0) := by
  have hxo := rdy_notin hr
  rw [cntN_zero n es _ k hes, cntN_zero n es o k hes]
  have hs := cntN_snoc n es o x k hx hxo
  by_cases hb : (succS es x).testBit k = true
  · rw [if_pos hb] at hs
    have hk : k ∉ o ++ [x] := by
      intro hk
      rcases List.mem_append.1 hk with hk | hk
      · exact hxo (hc k hk x hx hb)
      · simp at hk; subst hk; exact hxo (rdy_preds hes hr k hb)
    constructor
    · rintro ⟨_, h⟩; exact Or.inr ⟨hb, h⟩
    · rintro (⟨⟨_, h⟩, _⟩ | ⟨_, h⟩)
      · omega
      · exact ⟨hk, h⟩
  · rw [if_neg hb] at hs
    constructor
    · rintro ⟨h1, h2⟩
      refine Or.inl ⟨⟨fun h => h1 (List.mem_append_left _ h), by omega⟩, fun e => h1 (by simp [e])⟩
    · rintro (⟨⟨h1, h2⟩, h3⟩ | ⟨h1, _⟩)
      · exact ⟨by simp [h1, h3], by omega⟩
      · exact absurd h1 hb

/-- A list of ints that holds, once each, the nodes that P tells. -/
structure HSet (xs : List Int) (P : Nat → Prop) : Prop where
  nd : xs.Nodup
  mem : ∀ y, y ∈ xs ↔ ∃ k : Nat, y = (k : Int) ∧ P k
theorem HSet.congr {xs : List Int} {P Q : Nat → Prop} (h : HSet xs P) (hpq : ∀ k, P k ↔ Q k) : HSet xs Q :=
  ⟨h.nd, fun y => by rw [h.mem]; exact ⟨fun ⟨k, e, p⟩ => ⟨k, e, (hpq k).1 p⟩, fun ⟨k, e, p⟩ => ⟨k, e, (hpq k).2 p⟩⟩⟩
theorem HSet.push {xs xs' : List Int} {P : Nat → Prop} {k : Nat} (h : HSet xs P) (hk : ¬ P k) (hp : xs'.Perm ((k : Int) :: xs)) : HSet xs' (fun j => j = k ∨ P j) := by
  refine ⟨hp.nodup_iff.2 (List.nodup_cons.2 ⟨fun hm => ?_, h.nd⟩), fun y => ?_⟩
  · obtain ⟨j, e, p⟩ := (h.mem _).1 hm
    have : k = j := by omega
    subst this; exact hk p
  · rw [hp.mem_iff, List.mem_cons, h.mem]
    constructor
    · rintro (rfl | ⟨j, rfl, p⟩)
      · exact ⟨k, rfl, Or.inl rfl⟩
      · exact ⟨j, rfl, Or.inr p⟩
    · rintro ⟨j, rfl, rfl | p⟩
      · exact Or.inl rfl
      · exact Or.inr ⟨j, rfl, p⟩
theorem HSet.pop {xs xs' : List Int} {P : Nat → Prop} {x : Int} (h : HSet xs P) (hp : xs.Perm (x :: xs')) : ∃ k : Nat, x = (k : Int) ∧ P k ∧ HSet xs' (fun j => P j ∧ j ≠ k) := by
  have hnd := List.nodup_cons.1 (hp.nodup_iff.1 h.nd)
  obtain ⟨k, e, p⟩ := (h.mem x).1 (hp.mem_iff.2 (by simp))
  refine ⟨k, e, p, hnd.2, fun y => ?_⟩
  constructor
  · intro hy
    obtain ⟨j, e2, p2⟩ := (h.mem y).1 (hp.mem_iff.2 (by simp [hy]))
    refine ⟨j, e2, p2, fun e3 => hnd.1 ?_⟩
    rw [e, ← e3, ← e2]; exact hy
  · rintro ⟨j, rfl, p2, hne⟩
    have := hp.mem_iff.1 ((h.mem (j : Int)).2 ⟨j, rfl, p2⟩)
    rcases List.mem_cons.1 this with e3 | e3
    · omega
    · exact e3
theorem HSet.len {xs : List Int} {P : Nat → Prop} {n : Nat} (h : HSet xs P) (hP : ∀ k, P k → k < n) : xs.length ≤ n := by
  have := h.nd.length_le_of_subset (l₂ := (List.range n).map fun k : Nat => (k : Int)) (fun y hy => by
    obtain ⟨k, e, p⟩ := (h.mem y).1 hy
    exact List.mem_map.2 ⟨k, by simpa using hP k p, e.symm⟩)
  simpa using this

/-- The least of the free nodes is the document's next. -/
theorem next_least {n : Nat} {es : List (Int × Int)} {o : List Nat} {xs : List Int} {x : Nat} (h : HSet xs (fun k => k < n ∧ rdy es o k = true)) (hx : x < n ∧ rdy es o x = true) (hm : ∀ y ∈ xs, (x : Int) ≤ y) : nextOf n es o = some x := by
  unfold nextOf
  rw [List.find?_eq_some_iff_getElem]
  refine ⟨hx.2, x, by simpa using hx.1, by simp, fun j hj => ?_⟩
  simp only [List.getElem_range]
  cases hr : rdy es o j with
  | false => rfl
  | true =>
    have := hm (j : Int) ((h.mem _).2 ⟨j, rfl, by omega, hr⟩)
    omega
theorem next_none {n : Nat} {es : List (Int × Int)} {o : List Nat} (h : HSet [] (fun k => k < n ∧ rdy es o k = true)) : nextOf n es o = none := by
  unfold nextOf
  rw [List.find?_eq_none]
  intro k hk hr
  have := (h.mem (k : Int)).2 ⟨k, rfl, by simpa using hk, hr⟩
  cases this

end Go.Proofs.YtnjbdedmalpccaaDoor
