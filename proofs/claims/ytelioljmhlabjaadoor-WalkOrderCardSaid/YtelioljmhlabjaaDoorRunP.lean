/- Plain: a walk to its end by picks: what holds all the way, and at the end. No program in sight. -/
import Derived.Test.YtelioljmhlabjaaDoorWkP
namespace Go.Proofs.YtelioljmhlabjaaDoor

/-- A walk under way: the statuses, the nodes in the order in which they started, how many ran at most. -/
structure RunS where
  st : List Int
  o : List Nat
  m : Nat
def overR (n : Nat) (es : List (Int × Int)) (st : List Int) : Bool := (withL n es st 0).length + (withL n es st 1).length == 0
open Classical in
noncomputable def stepR (n : Nat) (es : List (Int × Int)) (lim : Int) (ok : Nat → Bool) (p : Nat) (s : RunS) : RunS :=
  if (chooseR n es lim s.st p).2 = true then
    ⟨(startR n es lim s.st (chooseR n es lim s.st p).1).1, s.o ++ [(chooseR n es lim s.st p).1.toNat], max s.m (withL n es (startR n es lim s.st (chooseR n es lim s.st p).1).1 1).length⟩
  else
    ⟨(finishR n es s.st (chooseR n es lim s.st p).1 (ok (chooseR n es lim s.st p).1.toNat)).1, s.o, max s.m (withL n es (finishR n es s.st (chooseR n es lim s.st p).1 (ok (chooseR n es lim s.st p).1.toNat)).1 1).length⟩
noncomputable def runR (n : Nat) (es : List (Int × Int)) (lim : Int) (ok : Nat → Bool) (pk : Nat → Nat) : Nat → RunS
  | 0 => ⟨List.replicate n 0, [], 0⟩
  | k + 1 => if overR n es (runR n es lim ok pk k).st = true then runR n es lim ok pk k else stepR n es lim ok (pk k) (runR n es lim ok pk k)

/-- What may be done next, where it isn't over. -/
theorem choose_cases {n : Nat} {es : List (Int × Int)} {lim : Int} {st : List Int} (p : Nat) (hl : 1 ≤ lim) (h : overR n es st = false) :
    (∃ i : Nat, i < n ∧ chooseR n es lim st p = ((i : Int), true) ∧ st.getD i 0 = 0 ∧ aheadN es st i = 0 ∧ ¬ lim ≤ (withL n es st 1).length) ∨
    (∃ i : Nat, i < n ∧ chooseR n es lim st p = ((i : Int), false) ∧ st.getD i 0 = 1) := by
  have h0 : (choicesL n es lim st).length ≠ 0 := by
    intro e
    unfold choicesL startsL at e
    rw [List.length_append] at e
    unfold overR at h
    have h1 : (withL n es st 1).length = 0 := by omega
    rw [if_neg (by omega)] at e
    have : (withL n es st 0).length + (withL n es st 1).length = 0 := e
    rw [this] at h
    cases h
  have hr : chooseR n es lim st p = ((((choicesL n es lim st).getD (p % (choicesL n es lim st).length) 0 : Nat) : Int), decide (p % (choicesL n es lim st).length < (startsL n es lim st).length)) := by
    unfold chooseR; rw [if_neg h0]
  have hlt := Nat.mod_lt p (show 0 < (choicesL n es lim st).length by omega)
  generalize p % (choicesL n es lim st).length = k at hr hlt
  by_cases hk : k < (startsL n es lim st).length
  · left
    have hm : (choicesL n es lim st).getD k 0 ∈ startsL n es lim st := by
      have : (choicesL n es lim st).getD k 0 = (startsL n es lim st)[k] := by
        unfold choicesL
        simp [List.getD, List.getElem?_append_left hk, List.getElem?_eq_getElem hk]
      rw [this]
      exact List.getElem_mem hk
    rw [decide_eq_true hk] at hr
    by_cases hlm : lim ≤ (withL n es st 1).length
    · unfold startsL at hm
      rw [if_pos hlm] at hm
      cases hm
    · unfold startsL at hm
      rw [if_neg hlm] at hm
      obtain ⟨a, b⟩ := mem_withL.1 hm
      unfold withB at b
      simp at b
      exact ⟨_, a, hr, by simpa using b.1, by simpa using b.2, hlm⟩
  · right
    have hm : (choicesL n es lim st).getD k 0 ∈ withL n es st 1 := by
      have hkl : k - (startsL n es lim st).length < (withL n es st 1).length := by
        unfold choicesL at hlt
        rw [List.length_append] at hlt
        omega
      have : (choicesL n es lim st).getD k 0 = (withL n es st 1)[k - (startsL n es lim st).length] := by
        unfold choicesL
        simp [List.getD, List.getElem?_append_right (Nat.le_of_not_lt hk), List.getElem?_eq_getElem hkl]
      rw [this]
      exact List.getElem_mem hkl
    rw [decide_eq_false hk] at hr
    obtain ⟨a, b⟩ := mem_withL.1 hm
    unfold withB at b
    simp at b
    exact ⟨_, a, hr, by simpa using b⟩

theorem start_zero {n : Nat} {es : List (Int × Int)} {lim : Int} {st : List Int} {i : Nat} (hi : i < n) (h : st.getD i 0 = 0) (ha : aheadN es st i = 0) (hl : ¬ lim ≤ (withL n es st 1).length) : startR n es lim st i = (st.set i 1, 0) := by
  unfold startR statusR
  rw [Int.toNat_natCast, if_neg (by rw [if_neg (by omega), h, ha]; simp), if_neg hl]
theorem finish_zero {n : Nat} {es : List (Int × Int)} {st : List Int} {i : Nat} {ok : Bool} (hi : i < n) (h : st.getD i 0 = 1) : finishR n es st i ok = if ok = true then (st.set i 2, 0) else (skipL n es st i, 0) := by
  unfold finishR statusR
  rw [Int.toNat_natCast, if_neg (by rw [if_neg (by omega), h]; simp)]

theorem stepR_cases {n : Nat} {es : List (Int × Int)} {lim : Int} {ok : Nat → Bool} {p : Nat} {s : RunS} (hl : 1 ≤ lim) (h : overR n es s.st = false) :
    (∃ i : Nat, i < n ∧ s.st.getD i 0 = 0 ∧ aheadN es s.st i = 0 ∧ ¬ lim ≤ (withL n es s.st 1).length ∧ stepR n es lim ok p s = ⟨s.st.set i 1, s.o ++ [i], max s.m (withL n es (s.st.set i 1) 1).length⟩) ∨
    (∃ i : Nat, i < n ∧ s.st.getD i 0 = 1 ∧ ok i = true ∧ stepR n es lim ok p s = ⟨s.st.set i 2, s.o, max s.m (withL n es (s.st.set i 2) 1).length⟩) ∨
    (∃ i : Nat, i < n ∧ s.st.getD i 0 = 1 ∧ ok i = false ∧ stepR n es lim ok p s = ⟨skipL n es s.st i, s.o, max s.m (withL n es (skipL n es s.st i) 1).length⟩) := by
  rcases choose_cases p hl h with ⟨i, hi, hc, h0, ha, hm⟩ | ⟨i, hi, hc, h1⟩
  · refine Or.inl ⟨i, hi, h0, ha, hm, ?_⟩
    unfold stepR
    rw [hc, if_pos rfl, start_zero hi h0 ha hm, Int.toNat_natCast]
  · right
    cases hk : ok i with
    | true =>
      refine Or.inl ⟨i, hi, h1, hk, ?_⟩
      unfold stepR
      rw [hc, if_neg (by simp), Int.toNat_natCast, hk, finish_zero hi h1, if_pos rfl]
    | false =>
      refine Or.inr ⟨i, hi, h1, hk, ?_⟩
      unfold stepR
      rw [hc, if_neg (by simp), Int.toNat_natCast, hk, finish_zero hi h1, if_neg (by simp)]

/-! ### It ends -/

def potN (x : Int) : Nat := if x = 0 then 2 else if x = 1 then 1 else 0
def pot (n : Nat) (st : List Int) : Nat := ((List.range n).map fun i => potN (st.getD i 0)).sum
theorem sum_le {l : List Nat} {f g : Nat → Nat} (h : ∀ i ∈ l, f i ≤ g i) : (l.map f).sum ≤ (l.map g).sum := by
  induction l with
  | nil => simp
  | cons x xs ih =>
    simp only [List.map_cons, List.sum_cons]
    have := h x (by simp)
    have := ih fun i hi => h i (by simp [hi])
    omega
theorem sum_lt {l : List Nat} {f g : Nat → Nat} (h : ∀ i ∈ l, f i ≤ g i) {k : Nat} (hk : k ∈ l) (hlt : f k < g k) : (l.map f).sum < (l.map g).sum := by
  induction l with
  | nil => cases hk
  | cons x xs ih =>
    simp only [List.map_cons, List.sum_cons]
    have h0 := h x (by simp)
    rcases List.mem_cons.1 hk with rfl | hm
    · have := sum_le (l := xs) (f := f) (g := g) fun i hi => h i (by simp [hi])
      omega
    · have := ih (fun i hi => h i (by simp [hi])) hm
      omega
theorem pot_zeros (n : Nat) : pot n (List.replicate n 0) = 2 * n := by
  unfold pot
  have : (List.range n).map (fun i => potN ((List.replicate n (0 : Int)).getD i 0)) = (List.range n).map fun _ => 2 := by
    apply List.map_congr_left
    intro i hi
    have : (List.replicate n (0 : Int)).getD i 0 = 0 := by
      simp only [List.getD, List.getElem?_replicate]
      split <;> rfl
    rw [this]; rfl
  rw [this]
  clear this
  induction n with
  | zero => rfl
  | succ n ih => rw [List.range_succ, List.map_append, List.sum_append, ih]; simp; omega
theorem pot_lt {n : Nat} {st st' : List Int} (h : ∀ i, i < n → potN (st'.getD i 0) ≤ potN (st.getD i 0)) {k : Nat} (hk : k < n) (hlt : potN (st'.getD k 0) < potN (st.getD k 0)) : pot n st' < pot n st :=
  sum_lt (fun i hi => h i (by simpa using hi)) (by simpa using hk) hlt
theorem pot_zero {n : Nat} {es : List (Int × Int)} {st : List Int} (h : pot n st = 0) : overR n es st = true := by
  have h0 : ∀ i, i < n → potN (st.getD i 0) = 0 := by
    intro i hi
    apply Classical.byContradiction
    intro hh
    have := sum_lt (l := List.range n) (f := fun _ => 0) (g := fun i => potN (st.getD i 0)) (fun _ _ => Nat.zero_le _) (k := i) (by simpa using hi) (by show 0 < potN (st.getD i 0); omega)
    unfold pot at h
    omega
  have hw : ∀ s, (s = 0 ∨ s = 1) → withL n es st s = [] := by
    intro s hs
    rw [List.eq_nil_iff_forall_not_mem]
    intro i hi
    obtain ⟨a, b⟩ := mem_withL.1 hi
    unfold withB at b
    simp at b
    have := h0 i a
    have hb : st.getD i 0 = s := by simpa using b.1
    rw [hb] at this
    rcases hs with rfl | rfl <;> simp [potN] at this
  unfold overR
  rw [hw 0 (Or.inl rfl), hw 1 (Or.inr rfl)]
  rfl
theorem over_of {n : Nat} {es : List (Int × Int)} {st : List Int} (h : overR n es st = true) : (∀ i, i < n → st.getD i 0 ≠ 1) ∧ ∀ i, i < n → st.getD i 0 = 0 → 0 < aheadN es st i := by
  unfold overR at h
  simp at h
  obtain ⟨h0, h1⟩ := h
  constructor
  · intro i hi e
    have : i ∈ withL n es st 1 := mem_withL.2 ⟨hi, by unfold withB; rw [e]; rfl⟩
    rw [h1] at this
    cases this
  · intro i hi e
    apply Classical.byContradiction
    intro hh
    have : i ∈ withL n es st 0 := mem_withL.2 ⟨hi, by unfold withB; rw [e, show aheadN es st i = 0 by omega]; rfl⟩
    rw [h0] at this
    cases this

/-- What holds all the way. -/
structure AInv (n : Nat) (es : List (Int × Int)) (lim : Int) (ok : Nat → Bool) (s : RunS) : Prop where
  len : s.st.length = n
  inv : WInv es s.st
  rng : ∀ i, i < n → 0 ≤ s.st.getD i 0 ∧ s.st.getD i 0 ≤ 4
  mem : ∀ i, i ∈ s.o ↔ i < n ∧ (s.st.getD i 0 = 1 ∨ s.st.getD i 0 = 2 ∨ s.st.getD i 0 = 3)
  nod : s.o.Nodup
  ord : ∀ i k, Way (Edge es (-1, -1)) i k → k ∈ s.o → s.o.idxOf i < s.o.idxOf k
  okt : ∀ i, i < n → (s.st.getD i 0 = 2 → ok i = true) ∧ (s.st.getD i 0 = 3 → ok i = false)
  cls : ∀ i k, Edge es (-1, -1) i k → (s.st.getD i 0 = 3 ∨ s.st.getD i 0 = 4) → s.st.getD k 0 = 4
  src : ∀ k, s.st.getD k 0 = 4 → ∃ i, Edge es (-1, -1) i k ∧ (s.st.getD i 0 = 3 ∨ s.st.getD i 0 = 4)
  mst : (s.m : Int) ≤ lim ∧ ((withL n es s.st 1).length : Int) ≤ lim

theorem count_le {l : List Nat} (hn : l.Nodup) {f g : Nat → Bool} {i : Nat} (h : ∀ x ∈ l, x ≠ i → f x = true → g x = true) : (l.filter f).length ≤ (l.filter g).length + 1 := by
  induction l with
  | nil => simp
  | cons x xs ih =>
    obtain ⟨hx, hxs⟩ := List.nodup_cons.1 hn
    have ih := ih hxs fun y hy => h y (by simp [hy])
    by_cases e : x = i
    · subst e
      have : (xs.filter f).length ≤ (xs.filter g).length := by
        rw [← List.countP_eq_length_filter, ← List.countP_eq_length_filter]
        exact List.countP_mono_left fun y hy hf => h y (by simp [hy]) (fun e => hx (e ▸ hy)) hf
      rw [List.filter_cons, List.filter_cons]
      split <;> split <;> (try simp only [List.length_cons]) <;> omega
    · have := h x (by simp) e
      rw [List.filter_cons, List.filter_cons]
      by_cases hf : f x = true
      · rw [if_pos hf, if_pos (this hf)]; simp only [List.length_cons]; omega
      · rw [if_neg hf]
        split <;> (try simp only [List.length_cons]) <;> omega
theorem count_le' {l : List Nat} {f g : Nat → Bool} (h : ∀ x ∈ l, f x = true → g x = true) : (l.filter f).length ≤ (l.filter g).length := by
  rw [← List.countP_eq_length_filter, ← List.countP_eq_length_filter]
  exact List.countP_mono_left h

theorem withL1 (n : Nat) (es : List (Int × Int)) (st : List Int) : withL n es st 1 = (List.range n).filter fun i => st.getD i 0 == 1 := by
  unfold withL
  congr 1
  funext i
  unfold withB
  simp

theorem idxOf_snoc {l : List Nat} {i k : Nat} (h : i ∈ l) : (l ++ [k]).idxOf i = l.idxOf i := by
  rw [List.idxOf_append, if_pos h]
theorem idxOf_snoc_new {l : List Nat} {k : Nat} (h : k ∉ l) : (l ++ [k]).idxOf k = l.length := by
  rw [List.idxOf_append, if_neg h]; simp

theorem AInv.zeros {n : Nat} {es : List (Int × Int)} {lim : Int} {ok : Nat → Bool} (hl : 1 ≤ lim) : AInv n es lim ok ⟨List.replicate n 0, [], 0⟩ := by
  have hz : ∀ i, (List.replicate n (0 : Int)).getD i 0 = 0 := fun i => by
    simp only [List.getD, List.getElem?_replicate]
    split <;> rfl
  have hw : withL n es (List.replicate n 0) 1 = [] := by
    rw [withL1, List.filter_eq_nil_iff]
    intro i _
    rw [hz]
    decide
  refine ⟨by simp, WInv.zeros es n, fun i _ => by simp only [hz]; omega, fun i => ?_, List.nodup_nil, fun _ _ _ h => (by cases h), fun i _ => ?_, fun i k _ h => ?_, fun k h => ?_, ?_⟩
  · simp only [hz]; simp
  · simp only [hz]; exact ⟨fun e => (by cases e), fun e => (by cases e)⟩
  · simp only [hz] at h
    rcases h with h | h <;> cases h
  · simp only [hz] at h
    cases h
  · simp only [hw]
    exact ⟨by simp; omega, by simp; omega⟩

theorem Edge_lt {es : List (Int × Int)} {n i k : Nat} (hes : ∀ e ∈ es, 0 ≤ e.1 ∧ e.1 < n ∧ 0 ≤ e.2 ∧ e.2 < n) (h : Edge es (-1, -1) i k) : i < n ∧ k < n := by
  have := hes _ h.1
  simp only at this
  omega
theorem Way_lt {es : List (Int × Int)} {n i k : Nat} (hes : ∀ e ∈ es, 0 ≤ e.1 ∧ e.1 < n ∧ 0 ≤ e.2 ∧ e.2 < n) (h : Way (Edge es (-1, -1)) i k) : i < n ∧ k < n := by
  induction h with
  | one e => exact Edge_lt hes e
  | snoc _ e ih => exact ⟨ih.1, (Edge_lt hes e).2⟩
theorem WInv.edge {es : List (Int × Int)} {st : List Int} (h : WInv es st) {a b : Nat} (he : Edge es (-1, -1) a b) : (st.getD b 0 = 1 ∨ st.getD b 0 = 2 ∨ st.getD b 0 = 3) → st.getD a 0 = 2 := h.way (.one he)

open Classical in
theorem AInv.step {n : Nat} {es : List (Int × Int)} {lim : Int} {ok : Nat → Bool} {p : Nat} {s : RunS} (hl : 1 ≤ lim) (hes : ∀ e ∈ es, 0 ≤ e.1 ∧ e.1 < n ∧ 0 ≤ e.2 ∧ e.2 < n) (ho : overR n es s.st = false) (h : AInv n es lim ok s) :
    AInv n es lim ok (stepR n es lim ok p s) ∧ pot n (stepR n es lim ok p s).st < pot n s.st := by
  rcases stepR_cases (ok := ok) (p := p) hl ho with ⟨i, hi, h0, ha, hm, hs⟩ | ⟨i, hi, h1, hk, hs⟩ | ⟨i, hi, h1, hk, hs⟩
  · rw [hs]
    have hil : i < s.st.length := by rw [h.len]; exact hi
    have hg : ∀ k, (s.st.set i 1).getD k 0 = if k = i then 1 else s.st.getD k 0 := fun k => getD_set hil
    have hno : i ∉ s.o := fun hh => by
      have := ((h.mem i).1 hh).2
      rw [h0] at this
      omega
    have hw := WInv.start (lim := lim) (i := (i : Int)) (n := n) h.inv h.len fun e he => ⟨(hes e he).1, (hes e he).2.2.1⟩
    rw [start_zero hi h0 ha hm] at hw
    have hw : WInv es (s.st.set i 1) := hw
    have hcnt : ((withL n es (s.st.set i 1) 1).length : Int) ≤ lim := by
      have : (withL n es (s.st.set i 1) 1).length ≤ (withL n es s.st 1).length + 1 := by
        rw [withL1, withL1]
        refine count_le (i := i) List.nodup_range fun x _ hx hf => ?_
        rw [hg, if_neg hx] at hf
        exact hf
      omega
    refine ⟨⟨by simp only [List.length_set]; exact h.len, hw, fun k hkn => ?_, fun k => ?_, ?_, fun a b hab hb => ?_, fun k hkn => ?_, fun a b hab hh => ?_, fun k hh => ?_, ?_⟩, ?_⟩
    · simp only [hg]
      split
      · omega
      · exact h.rng k hkn
    · simp only [hg, List.mem_append, List.mem_singleton]
      split
      · rename_i e; subst e; simp [hi]
      · rename_i e
        rw [h.mem k]
        simp [e]
    · exact List.nodup_append.2 ⟨h.nod, by simp, fun a hx b hb => by
        have hbi := List.mem_singleton.1 hb
        exact fun e => hno (by rw [← hbi, ← e]; exact hx)⟩
    · have ha2 : s.st.getD a 0 = 2 := by
        have h2 := hw.way hab
        simp only at hb
        have hbb : (s.st.set i 1).getD b 0 = 1 ∨ (s.st.set i 1).getD b 0 = 2 ∨ (s.st.set i 1).getD b 0 = 3 := by
          rw [hg]
          rcases List.mem_append.1 hb with hb | hb
          · by_cases e : b = i
            · rw [if_pos e]; exact Or.inl rfl
            · rw [if_neg e]; exact ((h.mem b).1 hb).2
          · rw [if_pos (List.mem_singleton.1 hb)]; exact Or.inl rfl
        have := h2 hbb
        rw [hg] at this
        split at this
        · cases this
        · exact this
      have hao : a ∈ s.o := (h.mem a).2 ⟨(Way_lt hes hab).1, Or.inr (Or.inl ha2)⟩
      simp only at hb ⊢
      rw [idxOf_snoc hao]
      rcases List.mem_append.1 hb with hb | hb
      · rw [idxOf_snoc hb]; exact h.ord a b hab hb
      · rcases List.mem_singleton.1 hb with rfl
        rw [idxOf_snoc_new hno]
        exact List.idxOf_lt_length_of_mem hao
    · simp only [hg]
      split
      · exact ⟨fun e => (by cases e), fun e => (by cases e)⟩
      · exact h.okt k hkn
    · simp only [hg] at hh ⊢
      split at hh
      · rcases hh with hh | hh <;> cases hh
      · have := h.cls a b hab hh
        split
        · rename_i e; rw [e, h0] at this; cases this
        · exact this
    · simp only [hg] at hh ⊢
      split at hh
      · cases hh
      · obtain ⟨j, hj, hjs⟩ := h.src k hh
        refine ⟨j, hj, ?_⟩
        rw [if_neg (fun e => by rw [e, h0] at hjs; omega)]
        exact hjs
    · have := h.mst.1
      simp only
      exact ⟨by omega, hcnt⟩
    · refine pot_lt (k := i) (fun k hkn => ?_) hi ?_
      · simp only [hg]
        split
        · rename_i e; rw [e, h0]; decide
        · exact Nat.le_refl _
      · show potN ((s.st.set i 1).getD i 0) < _
        rw [hg, if_pos rfl, h0]; decide
  · rw [hs]
    have hil : i < s.st.length := by rw [h.len]; exact hi
    have hg : ∀ k, (s.st.set i 2).getD k 0 = if k = i then 2 else s.st.getD k 0 := fun k => getD_set hil
    have hw := WInv.finish (i := (i : Int)) (ok := true) h.inv h.len hes
    rw [finish_zero hi h1, if_pos rfl] at hw
    have hw : WInv es (s.st.set i 2) := hw
    have hcnt : ((withL n es (s.st.set i 2) 1).length : Int) ≤ lim := by
      have : (withL n es (s.st.set i 2) 1).length ≤ (withL n es s.st 1).length := by
        rw [withL1, withL1]
        refine count_le' fun x _ hf => ?_
        rw [hg] at hf
        split at hf
        · cases hf
        · exact hf
      have := h.mst.2
      omega
    refine ⟨⟨by simp only [List.length_set]; exact h.len, hw, fun k hkn => ?_, fun k => ?_, h.nod, h.ord, fun k hkn => ?_, fun a b hab hh => ?_, fun k hh => ?_, ?_⟩, ?_⟩
    · simp only [hg]
      split
      · omega
      · exact h.rng k hkn
    · simp only [hg]
      rw [h.mem k]
      split
      · rename_i e; rw [e, h1]; simp
      · exact Iff.rfl
    · simp only [hg]
      split
      · rename_i e; rw [e]; exact ⟨fun _ => hk, fun e => (by cases e)⟩
      · exact h.okt k hkn
    · simp only [hg] at hh ⊢
      split at hh
      · rcases hh with hh | hh <;> cases hh
      · have := h.cls a b hab hh
        split
        · rename_i e; rw [e, h1] at this; cases this
        · exact this
    · simp only [hg] at hh ⊢
      split at hh
      · cases hh
      · obtain ⟨j, hj, hjs⟩ := h.src k hh
        refine ⟨j, hj, ?_⟩
        rw [if_neg (fun e => by rw [e, h1] at hjs; omega)]
        exact hjs
    · have := h.mst.1
      simp only
      exact ⟨by omega, hcnt⟩
    · refine pot_lt (k := i) (fun k hkn => ?_) hi ?_
      · simp only [hg]
        split
        · rename_i e; rw [e, h1]; decide
        · exact Nat.le_refl _
      · show potN ((s.st.set i 2).getD i 0) < _
        rw [hg, if_pos rfl, h1]; decide
  · rw [hs]
    have hw := WInv.finish (i := (i : Int)) (ok := false) h.inv h.len hes
    rw [finish_zero hi h1, if_neg (by decide)] at hw
    have hw : WInv es (skipL n es s.st i) := hw
    have hg : ∀ k, k < n → (skipL n es s.st i).getD k 0 = if Way (Edge es (-1, -1)) i k then 4 else if k = i then 3 else s.st.getD k 0 := fun k hk => skipL_get n es s.st i k hk
    have hnii : ¬ Way (Edge es (-1, -1)) i i := fun hh => by
      have := h.inv.way hh (Or.inl h1)
      rw [h1] at this
      cases this
    have hbh : ∀ k, Way (Edge es (-1, -1)) i k → s.st.getD k 0 = 0 ∨ s.st.getD k 0 = 4 := fun k hk => by
      have h1' := h.inv.way hk
      have h2 := h.rng k (Way_lt hes hk).2
      rw [h1] at h1'
      apply Classical.byContradiction
      intro hh
      have : (1 : Int) = 2 := h1' (by omega)
      cases this
    have hcnt : ((withL n es (skipL n es s.st i) 1).length : Int) ≤ lim := by
      have : (withL n es (skipL n es s.st i) 1).length ≤ (withL n es s.st 1).length := by
        rw [withL1, withL1]
        refine count_le' fun x hx hf => ?_
        rw [hg x (by simpa using hx)] at hf
        split at hf
        · cases hf
        · split at hf
          · cases hf
          · exact hf
      have := h.mst.2
      omega
    refine ⟨⟨skipL_len n es s.st i, hw, fun k hkn => ?_, fun k => ?_, h.nod, h.ord, fun k hkn => ?_, fun a b hab hh => ?_, fun k hh => ?_, ?_⟩, ?_⟩
    · simp only [hg k hkn]
      split
      · omega
      · split
        · omega
        · exact h.rng k hkn
    · by_cases hkn : k < n
      · simp only [hg k hkn]
        rw [h.mem k]
        split
        · rename_i e
          have := hbh k e
          constructor
          · rintro ⟨_, h3⟩; omega
          · rintro ⟨_, h3⟩; omega
        · split
          · rename_i e; rw [e, h1]; simp
          · exact Iff.rfl
      · rw [h.mem k]
        simp [hkn]
    · simp only [hg k hkn]
      split
      · exact ⟨fun e => (by cases e), fun e => (by cases e)⟩
      · split
        · rename_i e; rw [e]; exact ⟨fun e => (by cases e), fun _ => hk⟩
        · exact h.okt k hkn
    · obtain ⟨han, hbn⟩ := Edge_lt hes hab
      simp only [hg a han] at hh
      simp only [hg b hbn]
      by_cases hwa : Way (Edge es (-1, -1)) i a
      · rw [if_pos (.snoc hwa hab)]
      · rw [if_neg hwa] at hh
        by_cases e : a = i
        · rw [e] at hab
          rw [if_pos (.one hab)]
        · rw [if_neg e] at hh
          have := h.cls a b hab hh
          split
          · rfl
          · split
            · rename_i e2; rw [e2, h1] at this; cases this
            · exact this
    · by_cases hkn : k < n
      · simp only [hg k hkn] at hh
        by_cases hwk : Way (Edge es (-1, -1)) i k
        · cases hwk with
          | one e => exact ⟨i, e, Or.inl (by show (skipL n es s.st i).getD i 0 = 3; rw [hg i hi, if_neg hnii, if_pos rfl])⟩
          | snoc hw' e => exact ⟨_, e, by simp only [hg _ (Way_lt hes hw').2]; rw [if_pos hw']; exact Or.inr rfl⟩
        · rw [if_neg hwk] at hh
          by_cases e : k = i
          · rw [if_pos e] at hh; cases hh
          · rw [if_neg e] at hh
            obtain ⟨j, hj, hjs⟩ := h.src k hh
            refine ⟨j, hj, ?_⟩
            simp only [hg j (Edge_lt hes hj).1]
            split
            · exact Or.inr rfl
            · rw [if_neg (fun e2 => by rw [e2, h1] at hjs; omega)]
              exact hjs
      · have : (skipL n es s.st i).getD k 0 = 0 := by simp [List.getD, skipL, hkn]
        rw [this] at hh
        cases hh
    · have := h.mst.1
      simp only
      exact ⟨by omega, hcnt⟩
    · refine pot_lt (k := i) (fun k hkn => ?_) hi ?_
      · simp only [hg k hkn]
        split
        · exact Nat.zero_le _
        · split
          · exact Nat.zero_le _
          · exact Nat.le_refl _
      · show potN ((skipL n es s.st i).getD i 0) < _
        rw [hg i hi, if_neg hnii, if_pos rfl, h1]; decide

theorem run_inv {n : Nat} {es : List (Int × Int)} {lim : Int} {ok : Nat → Bool} {pk : Nat → Nat} (hl : 1 ≤ lim) (hes : ∀ e ∈ es, 0 ≤ e.1 ∧ e.1 < n ∧ 0 ≤ e.2 ∧ e.2 < n) : ∀ k, AInv n es lim ok (runR n es lim ok pk k) ∧ (overR n es (runR n es lim ok pk k).st = false → pot n (runR n es lim ok pk k).st + k ≤ 2 * n)
  | 0 => ⟨AInv.zeros hl, fun _ => by show pot n (List.replicate n 0) + 0 ≤ 2 * n; rw [pot_zeros]; omega⟩
  | k + 1 => by
    have ih := run_inv (n := n) (ok := ok) (pk := pk) hl hes k
    rw [runR]
    by_cases ho : overR n es (runR n es lim ok pk k).st = true
    · rw [if_pos ho]
      exact ⟨ih.1, fun h => by rw [ho] at h; cases h⟩
    · rw [if_neg ho]
      have ho' : overR n es (runR n es lim ok pk k).st = false := by simpa using ho
      have := ih.2 ho'
      obtain ⟨h1, h2⟩ := ih.1.step (p := pk k) hl hes ho'
      exact ⟨h1, fun _ => by omega⟩
theorem run_over {n : Nat} {es : List (Int × Int)} {lim : Int} {ok : Nat → Bool} {pk : Nat → Nat} (hl : 1 ≤ lim) (hes : ∀ e ∈ es, 0 ≤ e.1 ∧ e.1 < n ∧ 0 ≤ e.2 ∧ e.2 < n) : overR n es (runR n es lim ok pk (2 * n)).st = true := by
  apply Classical.byContradiction
  intro hh
  have ho : overR n es (runR n es lim ok pk (2 * n)).st = false := by simpa using hh
  have := (run_inv (ok := ok) (pk := pk) hl hes (2 * n)).2 ho
  exact hh (pot_zero (by omega))
theorem run_stays {n : Nat} {es : List (Int × Int)} {lim : Int} {ok : Nat → Bool} {pk : Nat → Nat} {k : Nat} (h : overR n es (runR n es lim ok pk k).st = true) : ∀ j, runR n es lim ok pk (k + j) = runR n es lim ok pk k
  | 0 => rfl
  | j + 1 => by
    show runR n es lim ok pk (k + j + 1) = _
    rw [runR, run_stays h j, if_pos h]

/-- The end of a walk. -/
noncomputable def endR (n : Nat) (es : List (Int × Int)) (lim : Int) (ok : Nat → Bool) (pk : Nat → Nat) : RunS := runR n es lim ok pk (2 * n)
theorem endR_of {n : Nat} {es : List (Int × Int)} {lim : Int} {ok : Nat → Bool} {pk : Nat → Nat} {k : Nat} (hk : k ≤ 2 * n) (h : overR n es (runR n es lim ok pk k).st = true) : endR n es lim ok pk = runR n es lim ok pk k := by
  have := run_stays h (2 * n - k)
  rw [show k + (2 * n - k) = 2 * n by omega] at this
  exact this

end Go.Proofs.YtelioljmhlabjaaDoor
