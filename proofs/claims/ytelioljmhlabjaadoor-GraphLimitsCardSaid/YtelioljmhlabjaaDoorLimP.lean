/- Plain: a chain of nodes: its order, its reduced edges, what is reached, and the cycle that one more edge makes. No program in sight. -/
import Derived.Test.YtelioljmhlabjaaDoorRedP
import Derived.Test.YtelioljmhlabjaaDoorCycP
namespace Go.Proofs.YtelioljmhlabjaaDoor

/-- All edges go from a node to the next one. -/
def ChainE (n : Nat) (es : List (Int × Int)) : Prop := ∀ e ∈ es, ∃ k : Nat, e = ((k : Int), (k : Int) + 1) ∧ k + 1 < n
/-- .. and from each node but the last one. -/
def ChainF (n : Nat) (es : List (Int × Int)) : Prop := ∀ k : Nat, k + 1 < n → ((k : Int), (k : Int) + 1) ∈ es

theorem find_first {n k : Nat} {p : Nat → Bool} (hk : k < n) (hp : p k = true) (hl : ∀ i, i < k → p i = false) : (List.range n).find? p = some k := by
  have e : List.range n = List.range k ++ (k :: (List.range (n - k - 1)).map (fun i => k + 1 + i)) := by
    apply List.ext_getElem
    · simp; omega
    · intro i h1 h2
      rw [List.getElem_append]
      split
      · simp
      · rename_i h
        simp only [List.length_range] at h
        have h1' : i < n := by simpa using h1
        cases hd : i - k with
        | zero => simp [hd]; omega
        | succ d => simp [hd]; omega
  rw [e, List.find?_append]
  have : (List.range k).find? p = none := by
    rw [List.find?_eq_none]
    intro x hx
    simp [hl x (by simpa using hx)]
  rw [this]
  simp [hp]

theorem chain_next {n : Nat} {es : List (Int × Int)} (h : ChainE n es) {k : Nat} (hk : k < n) : nextOf n es (List.range k) = some k := by
  unfold nextOf
  refine find_first hk ?_ fun i hi => ?_
  · unfold rdy
    simp only [Bool.and_eq_true, Bool.not_eq_true', List.contains_eq_mem, decide_eq_false_iff_not, List.mem_range, Nat.lt_irrefl, not_false_eq_true, true_and, List.all_eq_true, Bool.or_eq_true, beq_eq_false_iff_ne, decide_eq_true_eq]
    intro e he
    obtain ⟨j, rfl, hj⟩ := h e he
    by_cases e2 : ((j : Int) + 1) = (k : Int)
    · right; simp; omega
    · exact Or.inl e2
  · unfold rdy
    simp [hi]
theorem chain_kahnF {n : Nat} {es : List (Int × Int)} (h : ChainE n es) : ∀ (f k : Nat), k + f ≤ n → kahnF n es f (List.range k) = List.range (k + f)
  | 0, _, _ => rfl
  | f + 1, k, hf => by
    rw [kahnF_some f (chain_next h (by omega)), ← List.range_succ, chain_kahnF h f (k + 1) (by omega)]
    congr 1
    omega
theorem chain_kahn {n : Nat} {es : List (Int × Int)} (h : ChainE n es) : kahn n es = List.range n := by
  have := chain_kahnF h n 0 (by omega)
  rw [Nat.zero_add] at this
  exact this

theorem chain_way {n : Nat} {es : List (Int × Int)} (h : ChainE n es) (hf : ChainF n es) (a b : Nat) : Way (EdgeL es) a b ↔ a < b ∧ b < n := by
  have he : ∀ x y, EdgeL es x y → y = x + 1 ∧ y < n := fun x y hxy => by
    obtain ⟨j, hj, hjn⟩ := h _ hxy
    have h1 := congrArg Prod.fst hj
    have h2 := congrArg Prod.snd hj
    simp only at h1 h2
    omega
  constructor
  · intro hw
    induction hw with
    | one e => have := he _ _ e; omega
    | snoc _ e ih => have := he _ _ e; omega
  · rintro ⟨hab, hb⟩
    obtain ⟨d, rfl⟩ : ∃ d, b = a + d + 1 := ⟨b - a - 1, by omega⟩
    clear hab
    induction d with
    | zero => exact .one (by have := hf a (by omega); unfold EdgeL; simpa using this)
    | succ d ih =>
      refine .snoc (ih (by omega)) ?_
      have := hf (a + d + 1) (by omega)
      unfold EdgeL
      have e : ((a + (d + 1) + 1 : Nat) : Int) = ((a + d + 1 : Nat) : Int) + 1 := by omega
      rw [e]
      exact this

theorem chain_red {n : Nat} {es : List (Int × Int)} (h : ChainE n es) (hf : ChainF n es) (a b : Nat) : Red (EdgeL es) a b ↔ b = a + 1 ∧ b < n := by
  unfold Red
  simp only [chain_way h hf]
  constructor
  · rintro ⟨⟨h1, h2⟩, h3⟩
    refine ⟨?_, h2⟩
    apply Classical.byContradiction
    intro hne
    exact h3 (a + 1) ⟨by omega, by omega⟩ ⟨by omega, h2⟩
  · rintro ⟨rfl, h2⟩
    exact ⟨⟨by omega, h2⟩, fun m h3 h4 => by omega⟩

theorem len_of_same {α : Type} [BEq α] [LawfulBEq α] {l m : List α} (hl : l.Nodup) (hm : m.Nodup) (h : ∀ x, x ∈ l ↔ x ∈ m) : l.length = m.length :=
  Nat.le_antisymm (hl.length_le_of_subset fun x hx => (h x).1 hx) (hm.length_le_of_subset fun x hx => (h x).2 hx)

theorem nodup_map_inj {α β : Type} {f : α → β} (hf : ∀ a b, f a = f b → a = b) {l : List α} (h : l.Nodup) : (l.map f).Nodup := by
  rw [List.nodup_iff_pairwise_ne, List.pairwise_map]
  exact (List.nodup_iff_pairwise_ne.1 h).imp fun hab e => hab (hf _ _ e)

theorem chain_redL {n : Nat} {es : List (Int × Int)} (h : ChainE n es) (hf : ChainF n es) : (redL n es).length = n - 1 := by
  have e : (redL n es).length = ((List.range (n - 1)).map fun a : Nat => ((a : Int), (a : Int) + 1)).length := by
    refine len_of_same (gridL_nodup n _) (nodup_map_inj (fun a b hab => by have := congrArg Prod.fst hab; simp only at this; omega) List.nodup_range) fun x => ?_
    unfold redL
    rw [mem_gridL]
    simp only [redB_true, chain_red h hf, List.mem_map, List.mem_range]
    constructor
    · rintro ⟨a, b, h1, h2, ⟨h3, h4⟩, rfl⟩
      exact ⟨a, by omega, by rw [h3]; simp⟩
    · rintro ⟨a, h1, rfl⟩
      exact ⟨a, a + 1, by omega, by omega, ⟨rfl, by omega⟩, by simp⟩
  rw [e]
  simp

theorem chain_all {n : Nat} {es : List (Int × Int)} (h : ChainE n es) (hf : ChainF n es) (a : Nat) : (allL n es [a]).length = n - a := by
  have e : (allL n es [a]).length = ((List.range (n - a)).map fun i => a + i).length := by
    refine len_of_same ?_ (nodup_map_inj (fun x y hxy => by omega) List.nodup_range) fun x => ?_
    · unfold allL; exact List.nodup_range.filter _
    · rw [mem_allL]
      simp only [List.mem_singleton, edge_none, chain_way h hf, List.mem_map, List.mem_range]
      constructor
      · rintro ⟨h1, f, rfl, h2⟩
        exact ⟨x - f, by omega, by omega⟩
      · rintro ⟨i, h1, rfl⟩
        exact ⟨by omega, a, rfl, by omega⟩
  rw [e]
  simp

/-! ### The chain, and an edge back from its end -/

/-- Each edge is one of the chain, or the one back. -/
def BackE (n a : Nat) (es : List (Int × Int)) : Prop := (∀ e ∈ es, (∃ k : Nat, e = ((k : Int), (k : Int) + 1) ∧ k + 1 < n) ∨ e = (((n - 1 : Nat) : Int), (a : Int))) ∧ ChainF n es ∧ (((n - 1 : Nat) : Int), (a : Int)) ∈ es

theorem back_next {n a : Nat} {es : List (Int × Int)} (h : BackE n a es) (ha : a < n) {k : Nat} (hk : k < a) : nextOf n es (List.range k) = some k := by
  unfold nextOf
  refine find_first (by omega) ?_ fun i hi => ?_
  · unfold rdy
    simp only [Bool.and_eq_true, Bool.not_eq_true', List.contains_eq_mem, decide_eq_false_iff_not, List.mem_range, Nat.lt_irrefl, not_false_eq_true, true_and, List.all_eq_true, Bool.or_eq_true, beq_eq_false_iff_ne, decide_eq_true_eq]
    intro e he
    rcases h.1 e he with ⟨j, rfl, hj⟩ | rfl
    · by_cases e2 : ((j : Int) + 1) = (k : Int)
      · right; simp; omega
      · exact Or.inl e2
    · left; simp; omega
  · unfold rdy
    simp [hi]
theorem back_none {n a : Nat} {es : List (Int × Int)} (h : BackE n a es) (ha : a < n) : nextOf n es (List.range a) = none := by
  unfold nextOf
  rw [List.find?_eq_none]
  intro i hi
  have hi : i < n := by simpa using hi
  unfold rdy
  simp only [Bool.and_eq_true, Bool.not_eq_true', List.contains_eq_mem, decide_eq_false_iff_not, List.mem_range, List.all_eq_true, Bool.or_eq_true, beq_eq_false_iff_ne, decide_eq_true_eq, not_and]
  intro hia hall
  by_cases e : i = a
  · subst e
    rcases hall _ h.2.2 with h1 | h1
    · exact h1 rfl
    · simp only [Int.toNat_natCast] at h1; omega
  · obtain ⟨j, rfl⟩ : ∃ j, i = j + 1 := ⟨i - 1, by omega⟩
    rcases hall _ (h.2.1 j (by omega)) with h1 | h1
    · exact h1 (by simp)
    · simp only [Int.toNat_natCast] at h1; omega
theorem back_kahnF {n a : Nat} {es : List (Int × Int)} (h : BackE n a es) (ha : a < n) : ∀ (f k : Nat), k ≤ a → a - k ≤ f → kahnF n es f (List.range k) = List.range a
  | 0, k, h1, h2 => by
    obtain rfl : k = a := by omega
    rfl
  | f + 1, k, h1, h2 => by
    by_cases e : k = a
    · subst e
      exact kahnF_none _ (back_none h ha)
    · rw [kahnF_some f (back_next h ha (by omega)), ← List.range_succ, back_kahnF h ha f (k + 1) (by omega) (by omega)]
theorem back_kahn {n a : Nat} {es : List (Int × Int)} (h : BackE n a es) (ha : a < n) : kahn n es = List.range a := back_kahnF h ha n 0 (by omega) (by omega)

theorem back_of {n a : Nat} {es : List (Int × Int)} (h : BackE n a es) (ha : a < n) {k : Nat} (h1 : a ≤ k) (h2 : k < n) : backOf es (List.range a) k = if k = a then n - 1 else k - 1 := by
  have hex : ∃ e ∈ es, e.1.toNat ∉ List.range a ∧ e.2 = (k : Int) := by
    by_cases e : k = a
    · subst e
      exact ⟨_, h.2.2, by simp; omega, rfl⟩
    · obtain ⟨j, rfl⟩ : ∃ j, k = j + 1 := ⟨k - 1, by omega⟩
      exact ⟨_, h.2.1 j (by omega), by simp; omega, by simp⟩
  obtain ⟨e, he, ⟨h3, h4⟩, h5⟩ := backOf_mem hex
  rw [h5]
  rcases h.1 e he with ⟨j, rfl, hj⟩ | rfl
  · simp only [Int.toNat_natCast, List.mem_range] at h3 h4 ⊢
    rw [if_neg (by omega)]
    omega
  · simp only [Int.toNat_natCast] at h4 ⊢
    rw [if_pos (by omega)]

theorem back_iter {n a : Nat} {B : Nat → Nat} (hB : ∀ k, a ≤ k → k < n → B k = if k = a then n - 1 else k - 1) {j : Nat} (hj : a + j < n) : ∀ q, q ≤ n - a → iter B q (a + j) = if q ≤ j then a + j - q else n + j - q
  | 0, _ => by simp [iter]
  | q + 1, hq => by
    have ih := back_iter hB hj q (by omega)
    rw [Nat.add_comm q 1, iter_add, ih]
    simp only [iter]
    by_cases e : q ≤ j
    · rw [if_pos e, hB (a + j - q) (by omega) (by omega)]
      split <;> split <;> omega
    · rw [if_neg e, hB (n + j - q) (by omega) (by omega)]
      split <;> split <;> omega

theorem back_per {n a : Nat} {B : Nat → Nat} (hB : ∀ k, a ≤ k → k < n → B k = if k = a then n - 1 else k - 1) {x : Nat} (h1 : a ≤ x) (h2 : x < n) : per B n x = n - a := by
  obtain ⟨j, rfl⟩ : ∃ j, x = a + j := ⟨x - a, by omega⟩
  have it := back_iter hB h2
  have hp : iter B (n - a) (a + j) = a + j := by
    rw [it _ (Nat.le_refl _), if_neg (by omega)]; omega
  obtain ⟨p1, p2, p3, p4⟩ := per_spec (B := B) (n := n) (x := a + j) ⟨n - a, by omega, by omega, hp⟩
  apply Classical.byContradiction
  intro hne
  by_cases hlt : per B n (a + j) < n - a
  · rw [it _ (by omega)] at p3
    split at p3 <;> omega
  · exact p4 (n - a) (by omega) (by omega) hp

theorem back_cycle {n a : Nat} {es : List (Int × Int)} (h : BackE n a es) (ha : a < n) (hl : lookE n es [] = 0) : (cycR n es).2 = 0 ∧ (cycR n es).1.length = n - a := by
  unfold cycR
  rw [if_pos hl, Int.toNat_natCast, back_kahn h ha]
  have hf : (List.range n).find? (fun k => !(List.range a).contains k) = some a := find_first ha (by simp) fun i hi => by simp [hi]
  rw [hf]
  simp only
  refine ⟨trivial, ?_⟩
  rw [cycL_len]
  have hB : ∀ k, a ≤ k → k < n → backOf es (List.range a) k = if k = a then n - 1 else k - 1 := fun k h1 h2 => back_of h ha h1 h2
  have hin : a ≤ iter (backOf es (List.range a)) n a ∧ iter (backOf es (List.range a)) n a < n :=
    iter_in (P := fun k => a ≤ k ∧ k < n) (fun k hk => by rw [hB k hk.1 hk.2]; split <;> omega) ⟨Nat.le_refl _, ha⟩ n
  exact back_per hB hin.1 hin.2

/-! ### The law's edges -/

def limE (k : Nat) : List (Int × Int) := (List.range k).map fun i => (((i % 511 : Nat) : Int), ((i % 511 : Nat) : Int) + 1)
theorem limE_len (k : Nat) : (limE k).length = k := by simp [limE]
theorem limE_succ (k : Nat) : limE (k + 1) = limE k ++ [(((k % 511 : Nat) : Int), ((k % 511 : Nat) : Int) + 1)] := by
  unfold limE
  rw [List.range_succ, List.map_append]
  rfl
theorem limE_chain (k : Nat) : ChainE 512 (limE k) := fun e he => by
  unfold limE at he
  obtain ⟨i, _, rfl⟩ := List.mem_map.1 he
  have := Nat.mod_lt i (show 0 < 511 by decide)
  exact ⟨i % 511, rfl, by omega⟩
theorem limE_full {k : Nat} (h : 511 ≤ k) : ChainF 512 (limE k) := fun i hi => by
  unfold limE
  refine List.mem_map.2 ⟨i, by simp; omega, ?_⟩
  rw [Nat.mod_eq_of_lt (by omega)]
theorem chain_in {n : Nat} {es : List (Int × Int)} (h : ChainE n es) : ∀ e ∈ es, 0 ≤ e.1 ∧ e.1 < n ∧ 0 ≤ e.2 ∧ e.2 < n := fun e he => by
  obtain ⟨k, rfl, hk⟩ := h e he
  simp only
  omega
theorem lookE_of {n : Nat} {es : List (Int × Int)} {fr : List Int} (hn : n ≤ 512) (hl : es.length ≤ 4096) (hes : ∀ e ∈ es, 0 ≤ e.1 ∧ e.1 < n ∧ 0 ≤ e.2 ∧ e.2 < n) (hfr : ∀ i ∈ fr, 0 ≤ i ∧ i < (n : Int)) : lookE n es fr = 0 := by
  unfold lookE
  rw [if_neg (by omega), if_neg, if_neg (by omega)]
  simp only [Bool.or_eq_true, List.any_eq_true, not_or, not_exists, not_and]
  constructor
  · intro e he
    have := hes e he
    unfold outE
    simp only [Bool.or_eq_true, decide_eq_true_eq]
    omega
  · intro i hi
    have := hfr i hi
    unfold outE
    simp only [Bool.or_eq_true, decide_eq_true_eq]
    omega
theorem lim_order : orderR 512 (limE 4096) = ((List.range 512).map (fun i : Nat => (i : Int)), 0) := by
  have hl : lookE ((512 : Nat) : Int) (limE 4096) [] = 0 := lookE_of (by decide) (by rw [limE_len]; decide) (chain_in (limE_chain _)) (fun i hi => by cases hi)
  have hl : lookE 512 (limE 4096) [] = 0 := hl
  unfold orderR
  rw [if_pos hl, show (512 : Int).toNat = 512 from rfl, chain_kahn (limE_chain 4096), if_neg (by simp)]
theorem lim_513 : orderR 513 (limE 4096) = ([], 1) := by
  have hl : lookE 513 (limE 4096) [] = 1 := by unfold lookE; rw [if_pos (by decide)]
  unfold orderR
  rw [if_neg (by rw [hl]; decide), hl]
theorem lim_long : orderR 512 (limE 4096 ++ [(0, 1)]) = ([], 3) := by
  have hc : ChainE 512 (limE 4096 ++ [(0, 1)]) := fun e he => by
    rcases List.mem_append.1 he with he | he
    · exact limE_chain _ e he
    · rw [List.mem_singleton.1 he]; exact ⟨0, by simp, by decide⟩
  have hes := chain_in hc
  have hl : lookE 512 (limE 4096 ++ [(0, 1)]) [] = 3 := by
    unfold lookE
    rw [if_neg (by decide), if_neg, if_pos (by rw [List.length_append, limE_len]; decide)]
    simp only [Bool.or_eq_true, List.any_eq_true, not_or, not_exists, not_and]
    constructor
    · intro e he
      have := hes e he
      unfold outE
      simp only [Bool.or_eq_true, decide_eq_true_eq]
      omega
    · intro i hi; cases hi
  unfold orderR
  rw [if_neg (by rw [hl]; decide), hl]
theorem lim_reduce : (reduceR 512 (limE 4096)).2 = 0 ∧ (reduceR 512 (limE 4096)).1.length = 511 := by
  unfold reduceR
  rw [if_pos (by rw [lim_order])]
  have e := chain_redL (n := 512) (limE_chain 4096) (limE_full (by decide))
  rw [show (512 : Int).toNat = 512 from rfl]
  generalize redL 512 (limE 4096) = l at e ⊢
  exact ⟨rfl, e⟩
theorem lim_look (a : Nat) (ha : a < 512) : lookE 512 (limE 4096) [(a : Int)] = 0 :=
  lookE_of (n := 512) (by decide) (by rw [limE_len]; decide) (chain_in (limE_chain _)) (fun i hi => by rw [List.mem_singleton.1 hi]; omega)
theorem lim_all (a : Nat) : (allL 512 (limE 4096) [a]).length = 512 - a := chain_all (limE_chain 4096) (limE_full (by decide)) a
theorem lim_back (a : Nat) : BackE 512 a (limE 511 ++ [(511, (a : Int))]) := by
  refine ⟨fun e he => ?_, fun k hk => List.mem_append_left _ (limE_full (Nat.le_refl _) k hk), List.mem_append_right _ (by simp)⟩
  rcases List.mem_append.1 he with he | he
  · exact Or.inl (limE_chain _ e he)
  · exact Or.inr (by rw [List.mem_singleton.1 he]; rfl)
theorem lim_cycle (a : Nat) (ha : a < 512) : (cycR 512 (limE 511 ++ [(511, (a : Int))])).2 = 0 ∧ (cycR 512 (limE 511 ++ [(511, (a : Int))])).1.length = 512 - a := by
  refine back_cycle (n := 512) (lim_back a) ha ?_
  refine lookE_of (by decide) (by rw [List.length_append, limE_len]; simp) (fun e he => ?_) (fun i hi => by cases hi)
  rcases List.mem_append.1 he with he | he
  · exact chain_in (limE_chain 511) e he
  · rw [List.mem_singleton.1 he]; simp only; omega

end Go.Proofs.YtelioljmhlabjaaDoor
