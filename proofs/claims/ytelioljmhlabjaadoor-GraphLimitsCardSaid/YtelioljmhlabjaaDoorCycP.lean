/- Plain: what can't be put in order has something ahead of it that can't either; going back so from node to node comes round. No program in sight. -/
import Derived.Test.YtelioljmhlabjaaDoorKahn
namespace Go.Proofs.YtelioljmhlabjaaDoor

def backOf (es : List (Int × Int)) (o : List Nat) (k : Nat) : Nat := es.foldl (fun acc e => if e.1.toNat ∉ o ∧ e.2 = (k : Int) then e.1.toNat else acc) 0
theorem backOf_snoc (es : List (Int × Int)) (e : Int × Int) (o : List Nat) (k : Nat) : backOf (es ++ [e]) o k = if e.1.toNat ∉ o ∧ e.2 = (k : Int) then e.1.toNat else backOf es o k := by
  unfold backOf; rw [List.foldl_append]; rfl
theorem backOf_mem {es : List (Int × Int)} {o : List Nat} {k : Nat} (h : ∃ e ∈ es, e.1.toNat ∉ o ∧ e.2 = (k : Int)) : ∃ e ∈ es, (e.1.toNat ∉ o ∧ e.2 = (k : Int)) ∧ backOf es o k = e.1.toNat := by
  have key : ∀ (l : List (Int × Int)) (acc : Nat), (∃ e ∈ l, (e.1.toNat ∉ o ∧ e.2 = (k : Int)) ∧ l.foldl (fun acc e => if e.1.toNat ∉ o ∧ e.2 = (k : Int) then e.1.toNat else acc) acc = e.1.toNat) ∨
      ((∀ e ∈ l, ¬ (e.1.toNat ∉ o ∧ e.2 = (k : Int))) ∧ l.foldl (fun acc e => if e.1.toNat ∉ o ∧ e.2 = (k : Int) then e.1.toNat else acc) acc = acc) := by
    intro l
    induction l with
    | nil => intro acc; exact Or.inr ⟨fun e he => (by cases he), rfl⟩
    | cons a l ih =>
      intro acc
      rw [List.foldl_cons]
      rcases ih (if a.1.toNat ∉ o ∧ a.2 = (k : Int) then a.1.toNat else acc) with ⟨e, he, h1, h2⟩ | ⟨h1, h2⟩
      · exact Or.inl ⟨e, List.mem_cons_of_mem _ he, h1, h2⟩
      · rw [h2]
        by_cases hc : a.1.toNat ∉ o ∧ a.2 = (k : Int)
        · exact Or.inl ⟨a, by simp, hc, by rw [if_pos hc]⟩
        · refine Or.inr ⟨fun e he => ?_, by rw [if_neg hc]⟩
          rcases List.mem_cons.1 he with rfl | he
          · exact hc
          · exact h1 e he
  rcases key es 0 with h1 | ⟨h1, _⟩
  · exact h1
  · obtain ⟨e, he, hc⟩ := h
    exact absurd hc (h1 e he)

theorem kahnF_stuck {n : Nat} {es : List (Int × Int)} : ∀ (f : Nat) {o : List Nat}, Ok n o → n - o.length ≤ f → nextOf n es (kahnF n es f o) = none
  | 0, o, h, hf => by
    unfold kahnF
    exact h.full (by omega)
  | f + 1, o, h, hf => by
    unfold kahnF
    cases hn : nextOf n es o with
    | none => exact hn
    | some i =>
      obtain ⟨h1, h2⟩ := nextOf_some hn
      exact kahnF_stuck f (h.snoc h1 (rdy_notin h2)) (by simp; omega)
theorem kahn_stuck (n : Nat) (es : List (Int × Int)) : nextOf n es (kahn n es) = none := kahnF_stuck n (Ok.nil n) (by simp)

theorem stuck_ahead {n : Nat} {es : List (Int × Int)} {o : List Nat} (h : nextOf n es o = none) {k : Nat} (hk : k < n) (hko : k ∉ o) : ∃ e ∈ es, e.1.toNat ∉ o ∧ e.2 = (k : Int) := by
  unfold nextOf at h
  rw [List.find?_eq_none] at h
  have h2 := h k (by simpa using hk)
  unfold rdy at h2
  simp only [List.contains_eq_mem, hko, decide_false, Bool.not_false, Bool.true_and, Bool.not_eq_true] at h2
  rw [List.all_eq_false] at h2
  obtain ⟨e, he, hx⟩ := h2
  simp at hx
  exact ⟨e, he, hx.2, hx.1⟩

def iter (B : Nat → Nat) : Nat → Nat → Nat
  | 0, x => x
  | i + 1, x => B (iter B i x)
theorem iter_add (B : Nat → Nat) (i j x : Nat) : iter B (i + j) x = iter B i (iter B j x) := by
  induction i with
  | zero => simp [iter]
  | succ i ih => rw [show i + 1 + j = (i + j) + 1 by omega]; simp only [iter, ih]

/-- The least number of steps that come round. -/
def per (B : Nat → Nat) (n x : Nat) : Nat := match (List.range n).find? (fun i => iter B (i + 1) x == x) with
  | some i => i + 1
  | none => 0
theorem per_spec {B : Nat → Nat} {n x : Nat} (h : ∃ p, 1 ≤ p ∧ p ≤ n ∧ iter B p x = x) : 1 ≤ per B n x ∧ per B n x ≤ n ∧ iter B (per B n x) x = x ∧ ∀ q, 1 ≤ q → q < per B n x → iter B q x ≠ x := by
  obtain ⟨p, h1, h2, h3⟩ := h
  unfold per
  cases hf : (List.range n).find? (fun i => iter B (i + 1) x == x) with
  | none =>
    rw [List.find?_eq_none] at hf
    have := hf (p - 1) (by simp; omega)
    rw [show p - 1 + 1 = p by omega] at this
    simp [h3] at this
  | some i =>
    rw [List.find?_range_eq_some] at hf
    obtain ⟨h4, h5, h6⟩ := hf
    simp only [List.mem_range] at h5
    show 1 ≤ i + 1 ∧ i + 1 ≤ n ∧ iter B (i + 1) x = x ∧ ∀ q, 1 ≤ q → q < i + 1 → iter B q x ≠ x
    refine ⟨by omega, by omega, by simpa using h4, fun q hq1 hq2 he => ?_⟩
    have := h6 (q - 1) (by omega)
    rw [show q - 1 + 1 = q by omega] at this
    simp [he] at this

theorem pigeon {n : Nat} {f : Nat → Nat} (h : ∀ i, f i < n) : ∃ i j, i < j ∧ j ≤ n ∧ f i = f j := by
  apply Classical.byContradiction
  intro hn
  have hnd : ((List.range (n + 1)).map f).Nodup := by
    unfold List.Nodup
    rw [List.pairwise_map]
    refine (List.Pairwise.imp_of_mem ?_ List.pairwise_lt_range)
    intro a b ha hb hab he
    simp at hb
    exact hn ⟨a, b, hab, by omega, he⟩
  have := hnd.length_le_of_subset (l₂ := List.range n) (fun x hx => by
    obtain ⟨y, _, rfl⟩ := List.mem_map.1 hx
    simpa using h y)
  simp at this
  omega

theorem iter_in {B : Nat → Nat} {P : Nat → Prop} (hB : ∀ k, P k → P (B k)) {a : Nat} (ha : P a) : ∀ i, P (iter B i a)
  | 0 => ha
  | i + 1 => hB _ (iter_in hB ha i)
theorem round_per {B : Nat → Nat} {P : Nat → Prop} {n a : Nat} (hB : ∀ k, P k → P (B k)) (hP : ∀ k, P k → k < n) (ha : P a) : ∃ p, 1 ≤ p ∧ p ≤ n ∧ iter B p (iter B n a) = iter B n a := by
  obtain ⟨i, j, hij, hj, he⟩ := pigeon (f := fun i => iter B i a) (fun i => hP _ (iter_in hB ha i))
  refine ⟨j - i, by omega, by omega, ?_⟩
  rw [← iter_add, show j - i + n = (n - i) + j by omega, iter_add, ← he, ← iter_add, show n - i + i = n by omega]

/-- The cycle, as it is told. -/
def cycL (B : Nat → Nat) (p x : Nat) : List Nat := ((List.range p).map fun i => iter B i x).reverse
theorem cycL_len (B : Nat → Nat) (p x : Nat) : (cycL B p x).length = p := by simp [cycL]
theorem cycL_get (B : Nat → Nat) (p x i : Nat) (h : i < p) : (cycL B p x).getD i 0 = iter B (p - 1 - i) x := by
  unfold cycL
  rw [List.getD_eq_getElem?_getD, List.getElem?_reverse (by simpa using h)]
  have hlt : p - 1 - i < p := by omega
  simp only [List.length_map, List.length_range, List.getElem?_map, List.getElem?_range hlt, Option.map_some, Option.getD_some]

theorem cycL_edge {B : Nat → Nat} {p x : Nat} (hp : 1 ≤ p) (hx : iter B p x = x) (i : Nat) (hi : i < p) : (cycL B p x).getD i 0 = B ((cycL B p x).getD ((i + 1) % p) 0) := by
  rw [cycL_get _ _ _ _ hi, cycL_get _ _ _ _ (Nat.mod_lt _ hp)]
  by_cases h : i + 1 < p
  · rw [Nat.mod_eq_of_lt h, show p - 1 - i = (p - 1 - (i + 1)) + 1 by omega]; rfl
  · have : i + 1 = p := by omega
    rw [this, Nat.mod_self, show p - 1 - i = 0 by omega, Nat.sub_zero]
    have h2 : p = (p - 1) + 1 := by omega
    rw [h2] at hx
    exact hx.symm
theorem cycL_distinct {B : Nat → Nat} {p x : Nat} (hx : iter B p x = x) (hl : ∀ q, 1 ≤ q → q < p → iter B q x ≠ x) (i k : Nat) (hi : i < p) (hk : k < i) : (cycL B p x).getD k 0 ≠ (cycL B p x).getD i 0 := by
  rw [cycL_get _ _ _ _ hi, cycL_get _ _ _ _ (by omega)]
  intro he
  -- a = p-1-k > b = p-1-i
  have h1 : iter B (p - (p - 1 - k) + (p - 1 - k)) x = iter B (p - (p - 1 - k) + (p - 1 - i)) x := by rw [iter_add, iter_add, he]
  rw [show p - (p - 1 - k) + (p - 1 - k) = p by omega, hx] at h1
  exact hl _ (by omega) (by omega) h1.symm

/-- What Cycle answers. -/
def cycR (n : Int) (es : List (Int × Int)) : List Nat × Int :=
  if lookE n es [] = 0 then
    match (List.range n.toNat).find? (fun k => !(kahn n.toNat es).contains k) with
    | none => ([], 0)
    | some a => (cycL (backOf es (kahn n.toNat es)) (per (backOf es (kahn n.toNat es)) n.toNat (iter (backOf es (kahn n.toNat es)) n.toNat a)) (iter (backOf es (kahn n.toNat es)) n.toNat a), 0)
  else ([], lookE n es [])

/-- Of a graph that can't be put in order: what going back does. -/
theorem back_in {n : Nat} {es : List (Int × Int)} (hes : ∀ e ∈ es, 0 ≤ e.1 ∧ e.1 < n ∧ 0 ≤ e.2 ∧ e.2 < n) (k : Nat) (hk : k < n ∧ k ∉ kahn n es) :
    (backOf es (kahn n es) k < n ∧ backOf es (kahn n es) k ∉ kahn n es) ∧ ((backOf es (kahn n es) k : Int), (k : Int)) ∈ es := by
  obtain ⟨e, he, ⟨h1, h2⟩, h3⟩ := backOf_mem (stuck_ahead (kahn_stuck n es) hk.1 hk.2)
  have := hes e he
  refine ⟨⟨by omega, by rw [h3]; exact h1⟩, ?_⟩
  rw [h3, Int.toNat_of_nonneg this.1, ← h2]
  exact he

theorem find_out_none {n : Nat} {es : List (Int × Int)} : (List.range n).find? (fun k => !(kahn n es).contains k) = none ↔ (kahn n es).length = n := by
  rw [List.find?_eq_none]
  constructor
  · intro h
    apply Nat.le_antisymm (kahn_ok n es).len
    have := (List.nodup_range (n := n)).length_le_of_subset (l₂ := kahn n es) (fun k hk => by simpa using h k hk)
    simpa using this
  · intro hl k hk
    have hkn : k < n := by simpa using hk
    have : k ∈ kahn n es := by
      apply Classical.byContradiction
      intro hn
      have := ((kahn_ok n es).snoc hkn hn).len
      simp at this
      omega
    simpa using this
theorem find_out_some {n : Nat} {es : List (Int × Int)} {a : Nat} (h : (List.range n).find? (fun k => !(kahn n es).contains k) = some a) : a < n ∧ a ∉ kahn n es :=
  ⟨by simpa using List.mem_of_find?_eq_some h, by simpa using List.find?_some h⟩

end Go.Proofs.YtelioljmhlabjaaDoor
