/- Plain: where a walk ends: every node is done, failed or skipped, and alike whatever was picked; one at a time and the first thing first it goes in the document's order. No program in sight. -/
import Derived.Test.YtelioljmhlabjaaDoorRunP
import Derived.Test.YtelioljmhlabjaaDoorTopP
namespace Go.Proofs.YtelioljmhlabjaaDoor

theorem fwd_idx {n : Nat} {es : List (Int × Int)} {L : List Nat} (hL : Ok n L) (hf : L.length = n) (hw : Fwd es L) {a b : Nat} (ha : a < n) (hb : b < n) (he : Edge es (-1, -1) a b) : L.idxOf a < L.idxOf b := by
  have ga := hL.all hf a ha
  have gb := hL.all hf b hb
  have h1 := List.idxOf_lt_length_of_mem ga
  have h2 := List.idxOf_lt_length_of_mem gb
  refine hw.lt _ he.1 _ _ ?_ ?_
  · rw [List.getElem?_eq_getElem h1]; simp
  · rw [List.getElem?_eq_getElem h2]; simp

theorem AInv.ends {n : Nat} {es : List (Int × Int)} {lim : Int} {ok : Nat → Bool} {s : RunS} (hes : ∀ e ∈ es, 0 ≤ e.1 ∧ e.1 < n ∧ 0 ≤ e.2 ∧ e.2 < n) {L : List Nat} (hL : Ok n L) (hf : L.length = n) (hw : Fwd es L)
    (h : AInv n es lim ok s) (ho : overR n es s.st = true) : ∀ i, i < n → s.st.getD i 0 = 2 ∨ s.st.getD i 0 = 3 ∨ s.st.getD i 0 = 4 := by
  obtain ⟨o1, o0⟩ := over_of ho
  have key : ∀ (m i : Nat), i < n → L.idxOf i = m → s.st.getD i 0 ≠ 0 := by
    intro m
    induction m using Nat.strongRecOn with
    | ind m ih =>
      intro i hi hm h0
      have ha := o0 i hi h0
      have hne : ¬ aheadN es s.st i = 0 := by omega
      rw [aheadN_zero] at hne
      apply hne
      intro e he h2
      apply Classical.byContradiction
      intro hj
      obtain ⟨p1, p2, p3, p4⟩ := hes e he
      have hed : Edge es (-1, -1) e.1.toNat i := by
        rw [Edge.none, Int.toNat_of_nonneg p1, ← h2]
        exact he
      have hjn : e.1.toNat < n := by omega
      have r := h.rng _ hjn
      have r1 := o1 _ hjn
      have r0 := ih _ (by rw [← hm]; exact fwd_idx hL hf hw hjn hi hed) _ hjn rfl
      have := h.cls _ _ hed (by omega)
      rw [h0] at this
      cases this
  intro i hi
  have r := h.rng i hi
  have r1 := o1 i hi
  have r0 := key _ i hi rfl
  omega

/-- All behind what isn't done is skipped. -/
theorem AInv.behind {n : Nat} {es : List (Int × Int)} {lim : Int} {ok : Nat → Bool} {s : RunS} (h : AInv n es lim ok s) {i k : Nat} (hw : Way (Edge es (-1, -1)) i k) (hs : s.st.getD i 0 = 3 ∨ s.st.getD i 0 = 4) : s.st.getD k 0 = 4 := by
  induction hw with
  | one e => exact h.cls _ _ e hs
  | snoc _ e ih => exact h.cls _ _ e (Or.inr ih)

/-- The ends of two walks are alike. -/
theorem AInv.alike {n : Nat} {es : List (Int × Int)} {lim lim' : Int} {ok : Nat → Bool} {s s' : RunS} (hes : ∀ e ∈ es, 0 ≤ e.1 ∧ e.1 < n ∧ 0 ≤ e.2 ∧ e.2 < n) {L : List Nat} (hL : Ok n L) (hf : L.length = n) (hw : Fwd es L)
    (h : AInv n es lim ok s) (ho : overR n es s.st = true) (h' : AInv n es lim' ok s') (ho' : overR n es s'.st = true) : ∀ i, i < n → s.st.getD i 0 = s'.st.getD i 0 := by
  have e := h.ends hes hL hf hw ho
  have e' := h'.ends hes hL hf hw ho'
  have key : ∀ (m i : Nat), i < n → L.idxOf i = m → s.st.getD i 0 = s'.st.getD i 0 := by
    intro m
    induction m using Nat.strongRecOn with
    | ind m ih =>
      intro i hi hm
      have four : s.st.getD i 0 = 4 ↔ s'.st.getD i 0 = 4 := by
        constructor
        · intro h4
          obtain ⟨j, hj, hs⟩ := h.src i h4
          have hjn := (Edge_lt hes hj).1
          rw [ih _ (by rw [← hm]; exact fwd_idx hL hf hw hjn hi hj) j hjn rfl] at hs
          exact h'.cls j i hj hs
        · intro h4
          obtain ⟨j, hj, hs⟩ := h'.src i h4
          have hjn := (Edge_lt hes hj).1
          rw [← ih _ (by rw [← hm]; exact fwd_idx hL hf hw hjn hi hj) j hjn rfl] at hs
          exact h.cls j i hj hs
      have a := e i hi
      have a' := e' i hi
      obtain ⟨k2, k3⟩ := h.okt i hi
      obtain ⟨k2', k3'⟩ := h'.okt i hi
      cases hk : ok i with
      | true =>
        rw [hk] at k3 k3'
        have : s.st.getD i 0 ≠ 3 := fun e => by cases k3 e
        have : s'.st.getD i 0 ≠ 3 := fun e => by cases k3' e
        omega
      | false =>
        rw [hk] at k2 k2'
        have : s.st.getD i 0 ≠ 2 := fun e => by cases k2 e
        have : s'.st.getD i 0 ≠ 2 := fun e => by cases k2' e
        omega
  exact fun i hi => key _ i hi rfl

/-! ### One at a time -/

theorem kahnF_succ {n : Nat} {es : List (Int × Int)} : ∀ (f : Nat) (o : List Nat), kahnF n es (f + 1) o = match nextOf n es (kahnF n es f o) with
    | none => kahnF n es f o
    | some i => kahnF n es f o ++ [i]
  | 0, o => by
    show (match nextOf n es o with | none => o | some i => kahnF n es 0 (o ++ [i])) = _
    rfl
  | f + 1, o => by
    cases h : nextOf n es o with
    | none => rw [kahnF_none _ h, kahnF_none _ h, h]
    | some i => rw [kahnF_some _ h, kahnF_succ f, kahnF_some _ h]

/-- Just the nodes of a list are done. -/
def DoneL (n : Nat) (st : List Int) (o : List Nat) : Prop := st.length = n ∧ ∀ i, i < n → st.getD i 0 = if i ∈ o then 2 else 0

theorem done_ready {n : Nat} {es : List (Int × Int)} {st : List Int} {o : List Nat} (hes : ∀ e ∈ es, 0 ≤ e.1 ∧ e.1 < n ∧ 0 ≤ e.2 ∧ e.2 < n) (h : DoneL n st o) : withL n es st 0 = (List.range n).filter (rdy es o) := by
  unfold withL
  apply List.filter_congr
  intro i hi
  have hi : i < n := by simpa using hi
  have hs := h.2 i hi
  rw [Bool.eq_iff_iff]
  unfold withB rdy
  simp only [Bool.and_eq_true, beq_iff_eq, Bool.or_eq_true, Bool.not_eq_true', List.all_eq_true, List.contains_eq_mem, decide_eq_false_iff_not, decide_eq_true_eq, beq_eq_false_iff_ne]
  rw [aheadN_zero, hs]
  constructor
  · rintro ⟨h0, h1⟩
    have hni : i ∉ o := fun hh => by rw [if_pos hh] at h0; cases h0
    refine ⟨hni, fun e he => ?_⟩
    rcases h1 with h1 | h1
    · exact absurd rfl h1
    · by_cases e2 : e.2 = (i : Int)
      · right
        have := h1 e he e2
        obtain ⟨p1, p2, p3, p4⟩ := hes e he
        rw [h.2 _ (by omega)] at this
        apply Classical.byContradiction
        intro hh
        rw [if_neg hh] at this
        cases this
      · exact Or.inl e2
  · rintro ⟨hni, h1⟩
    rw [if_neg hni]
    refine ⟨rfl, Or.inr fun e he e2 => ?_⟩
    obtain ⟨p1, p2, p3, p4⟩ := hes e he
    rw [h.2 _ (by omega)]
    rcases h1 e he with h2 | h2
    · exact absurd e2 h2
    · rw [if_pos h2]
theorem done_running {n : Nat} {es : List (Int × Int)} {st : List Int} {o : List Nat} (h : DoneL n st o) : withL n es st 1 = [] := by
  rw [withL1, List.filter_eq_nil_iff]
  intro i hi
  rw [h.2 i (by simpa using hi)]
  split <;> decide

theorem least {n : Nat} {es : List (Int × Int)} (hes : ∀ e ∈ es, 0 ≤ e.1 ∧ e.1 < n ∧ 0 ≤ e.2 ∧ e.2 < n) (hk : (kahn n es).length = n) : ∀ j, j ≤ n →
    DoneL n (runR n es 1 (fun _ => true) (fun _ => 0) (2 * j)).st (runR n es 1 (fun _ => true) (fun _ => 0) (2 * j)).o ∧ (runR n es 1 (fun _ => true) (fun _ => 0) (2 * j)).o = kahnF n es j [] ∧ (runR n es 1 (fun _ => true) (fun _ => 0) (2 * j)).o.length = j ∧ (runR n es 1 (fun _ => true) (fun _ => 0) (2 * j)).m = min j 1
  | 0, _ => by
    refine ⟨⟨by simp [runR], fun i hi => ?_⟩, rfl, rfl, rfl⟩
    show (List.replicate n (0 : Int)).getD i 0 = if i ∈ ([] : List Nat) then 2 else 0
    simp [List.getD, hi]
  | j + 1, hj => by
    obtain ⟨hd, ho, hlen, hm⟩ := least hes hk j (by omega)
    have hok : Ok n (runR n es 1 (fun _ => true) (fun _ => 0) (2 * j)).o := by rw [ho]; exact kahnF_ok j (Ok.nil n)
    have hesp : ∀ e ∈ es, 0 ≤ e.1 ∧ 0 ≤ e.2 := fun e he => ⟨(hes e he).1, (hes e he).2.2.1⟩
    obtain ⟨i, hnx⟩ := next_of_full hes (kahn_ok n es) hk (kahn_fwd hesp) (o := (runR n es 1 (fun _ => true) (fun _ => 0) (2 * j)).o) (by omega)
    have hr := done_ready hes hd
    have hrun := done_running (es := es) hd
    rw [show 2 * (j + 1) = 2 * j + 1 + 1 by omega]
    have ho1 : kahnF n es (j + 1) [] = (runR n es 1 (fun _ => true) (fun _ => 0) (2 * j)).o ++ [i] := by rw [kahnF_succ, ← ho, hnx]
    rw [ho1]
    generalize hsx : runR n es 1 (fun _ => true) (fun _ => 0) (2 * j) = s at hd ho hlen hm hok hnx hr hrun
    obtain ⟨hi, hri⟩ := nextOf_some hnx
    have hni := rdy_notin hri
    -- the first of the ready
    obtain ⟨tl, htl⟩ : ∃ tl, withL n es s.st 0 = i :: tl := by
      have h1 : ((List.range n).filter (rdy es s.o)).head? = some i := by
        unfold nextOf at hnx
        rw [List.head?_filter]
        exact hnx
      rw [hr]
      cases hl : (List.range n).filter (rdy es s.o) with
      | nil => rw [hl] at h1; cases h1
      | cons x xs => rw [hl] at h1; injection h1 with h1; exact ⟨xs, by rw [h1]⟩
    have hnov : overR n es s.st = false := by
      unfold overR
      rw [htl]
      simp
    have hch : chooseR n es 1 s.st 0 = ((i : Int), true) := by
      have hs1 : startsL n es 1 s.st = i :: tl := by
        unfold startsL
        rw [hrun, if_neg (by simp), htl]
      unfold chooseR choicesL
      rw [hs1, hrun]
      simp
    have hil : i < s.st.length := by rw [hd.1]; exact hi
    have h0 : s.st.getD i 0 = 0 := by rw [hd.2 i hi, if_neg hni]
    have ha0 : aheadN es s.st i = 0 := by
      have : i ∈ withL n es s.st 0 := by rw [htl]; simp
      have := (mem_withL.1 this).2
      unfold withB at this
      rw [h0] at this
      simpa using this
    have e1 : runR n es 1 (fun _ => true) (fun _ => 0) (2 * j + 1) = ⟨s.st.set i 1, s.o ++ [i], max s.m (withL n es (s.st.set i 1) 1).length⟩ := by
      show (if overR n es (runR n es 1 (fun _ => true) (fun _ => 0) (2 * j)).st = true then _ else _) = _
      rw [hsx, if_neg (by rw [hnov]; simp)]
      unfold stepR
      rw [hch, if_pos rfl, start_zero hi h0 ha0 (by rw [hrun]; simp), Int.toNat_natCast]
    have hg : ∀ k, (s.st.set i 1).getD k 0 = if k = i then 1 else s.st.getD k 0 := fun k => getD_set hil
    have hw1 : withL n es (s.st.set i 1) 1 = [i] := by
      have hmem : ∀ k, k ∈ withL n es (s.st.set i 1) 1 ↔ k = i := by
        intro k
        rw [withL1, List.mem_filter, hg]
        constructor
        · rintro ⟨hk, h1⟩
          apply Classical.byContradiction
          intro e
          rw [if_neg e, hd.2 k (by simpa using hk)] at h1
          split at h1 <;> cases h1
        · rintro rfl
          simp [hi]
      have hnd : (withL n es (s.st.set i 1) 1).Nodup := by unfold withL; exact List.nodup_range.filter _
      cases hl : withL n es (s.st.set i 1) 1 with
      | nil => have := (hmem i).2 rfl; rw [hl] at this; cases this
      | cons x xs =>
        rw [hl] at hmem hnd
        obtain rfl := (hmem x).1 (by simp)
        cases xs with
        | nil => rfl
        | cons y ys =>
          have := (hmem y).1 (by simp)
          subst this
          simp at hnd
    rw [hw1] at e1
    have hnov2 : overR n es (s.st.set i 1) = false := by
      unfold overR
      rw [hw1]
      simp
    have hch2 : chooseR n es 1 (s.st.set i 1) 0 = ((i : Int), false) := by
      have hs1 : startsL n es 1 (s.st.set i 1) = [] := by
        unfold startsL
        rw [hw1, if_pos (by simp)]
      unfold chooseR choicesL
      rw [hs1, hw1]
      simp
    have hil2 : i < (s.st.set i 1).length := by rw [List.length_set]; exact hil
    have h12 : (s.st.set i 1).getD i 0 = 1 := by rw [hg, if_pos rfl]
    have e2 : runR n es 1 (fun _ => true) (fun _ => 0) (2 * j + 1 + 1) = ⟨(s.st.set i 1).set i 2, s.o ++ [i], max (max s.m 1) (withL n es ((s.st.set i 1).set i 2) 1).length⟩ := by
      show (if overR n es (runR n es 1 (fun _ => true) (fun _ => 0) (2 * j + 1)).st = true then _ else _) = _
      rw [e1, if_neg (by simp only; rw [hnov2]; simp)]
      unfold stepR
      simp only
      rw [hch2, if_neg (by simp)]
      simp only
      rw [finish_zero hi h12, if_pos rfl]
      rfl
    rw [e2]
    have hd2 : DoneL n ((s.st.set i 1).set i 2) (s.o ++ [i]) := by
      refine ⟨by rw [List.length_set, List.length_set]; exact hd.1, fun k hkn => ?_⟩
      rw [getD_set hil2, hg]
      by_cases e : k = i
      · rw [if_pos e, if_pos (by simp [e])]
      · rw [if_neg e, if_neg e, hd.2 k hkn]
        by_cases hko : k ∈ s.o
        · rw [if_pos hko, if_pos (by simp [hko])]
        · rw [if_neg hko, if_neg (by simp [hko, e])]
    refine ⟨hd2, rfl, by simp [hlen], ?_⟩
    rw [done_running hd2]
    simp only [List.length_nil]
    rw [hm]
    omega

end Go.Proofs.YtelioljmhlabjaaDoor
