/- Plain: the document's order of a graph (the least node with nothing left ahead of it, again and again), on lists. No program in sight. -/
namespace Go.Proofs.YtnjbdedmalpccaaDoor

/-- What is wrong with a graph: 0, 1 or 3. -/
def outE (n : Int) (i : Int) : Bool := decide (i < 0) || decide (n ≤ i)
def lookE (n : Int) (es : List (Int × Int)) (fr : List Int) : Int :=
  if n < 0 ∨ 512 < n then 1 else if (es.any fun e => outE n e.1 || outE n e.2) || fr.any (outE n) then 1 else if 4096 < es.length then 3 else 0

/-- May node i come next, o being put in order already? -/
def rdy (es : List (Int × Int)) (o : List Nat) (i : Nat) : Bool := !o.contains i && es.all fun e => !(e.2 == (i : Int)) || o.contains e.1.toNat
def nextOf (n : Nat) (es : List (Int × Int)) (o : List Nat) : Option Nat := (List.range n).find? (rdy es o)
def kahnF (n : Nat) (es : List (Int × Int)) : Nat → List Nat → List Nat
  | 0, o => o
  | f + 1, o => match nextOf n es o with
    | none => o
    | some i => kahnF n es f (o ++ [i])
def kahn (n : Nat) (es : List (Int × Int)) : List Nat := kahnF n es n []

/-- The order, and what is wrong. -/
def orderR (n : Int) (es : List (Int × Int)) : List Int × Int :=
  if lookE n es [] = 0 then
    (if ((kahn n.toNat es).length : Int) < n then ([], 130) else ((kahn n.toNat es).map (fun i : Nat => (i : Int)), 0))
  else ([], lookE n es [])

theorem lookE_zero {n : Int} {es : List (Int × Int)} {fr : List Int} (h : lookE n es fr = 0) :
    0 ≤ n ∧ n ≤ 512 ∧ es.length ≤ 4096 ∧ (∀ e ∈ es, 0 ≤ e.1 ∧ e.1 < n ∧ 0 ≤ e.2 ∧ e.2 < n) ∧ (∀ i ∈ fr, 0 ≤ i ∧ i < n) := by
  unfold lookE at h
  split at h
  · omega
  · rename_i h1
    split at h
    · omega
    · rename_i h2
      split at h
      · omega
      · rename_i h3
        simp only [Bool.or_eq_true, List.any_eq_true, not_or, not_exists, not_and] at h2
        refine ⟨by omega, by omega, by omega, fun e he => ?_, fun i hi => ?_⟩
        · have := h2.1 e he
          unfold outE at this
          simp only [Bool.or_eq_true, decide_eq_true_eq] at this
          omega
        · have := h2.2 i hi
          unfold outE at this
          simp only [Bool.or_eq_true, decide_eq_true_eq] at this
          omega

/-- An order under way: all its nodes are nodes, each once. -/
structure Ok (n : Nat) (o : List Nat) : Prop where
  lt : ∀ i ∈ o, i < n
  nd : o.Nodup

theorem Ok.len {n : Nat} {o : List Nat} (h : Ok n o) : o.length ≤ n := by
  have := h.nd.length_le_of_subset (l₂ := List.range n) (fun i hi => by simpa using h.lt i hi)
  simpa using this

theorem Ok.nil (n : Nat) : Ok n [] := ⟨by simp, by simp⟩

theorem nextOf_some {n : Nat} {es : List (Int × Int)} {o : List Nat} {i : Nat} (h : nextOf n es o = some i) : i < n ∧ rdy es o i = true :=
  ⟨by simpa using List.mem_of_find?_eq_some h, List.find?_some h⟩

theorem rdy_notin {es : List (Int × Int)} {o : List Nat} {i : Nat} (h : rdy es o i = true) : i ∉ o := by
  unfold rdy at h
  simp only [Bool.and_eq_true, Bool.not_eq_true', List.contains_eq_mem, decide_eq_false_iff_not] at h
  exact h.1

theorem Ok.snoc {n : Nat} {o : List Nat} {i : Nat} (h : Ok n o) (hi : i < n) (hn : i ∉ o) : Ok n (o ++ [i]) := by
  refine ⟨fun k hk => ?_, ?_⟩
  · rcases List.mem_append.1 hk with hk | hk
    · exact h.lt k hk
    · simp at hk; omega
  · rw [List.nodup_append]
    exact ⟨h.nd, by simp, fun a ha b hb => by simp at hb; subst hb; exact fun e => hn (e ▸ ha)⟩

/-- A step of the reference's road: with the same fuel behind it. -/
theorem kahnF_some {n : Nat} {es : List (Int × Int)} {o : List Nat} {i : Nat} (f : Nat) (h : nextOf n es o = some i) : kahnF n es (f + 1) o = kahnF n es f (o ++ [i]) := by
  simp [kahnF, h]
theorem kahnF_none {n : Nat} {es : List (Int × Int)} {o : List Nat} (f : Nat) (h : nextOf n es o = none) : kahnF n es f o = o := by
  cases f <;> simp [kahnF, h]

/-- An order with all nodes in it has no next one. -/
theorem Ok.full {n : Nat} {es : List (Int × Int)} {o : List Nat} (h : Ok n o) (hl : n ≤ o.length) : nextOf n es o = none := by
  cases hn : nextOf n es o with
  | none => rfl
  | some i =>
    obtain ⟨h1, h2⟩ := nextOf_some hn
    have := (h.snoc h1 (rdy_notin h2)).len
    simp at this
    omega

theorem kahnF_ok {n : Nat} {es : List (Int × Int)} : ∀ (f : Nat) {o : List Nat}, Ok n o → Ok n (kahnF n es f o)
  | 0, _, h => h
  | f + 1, o, h => by
    unfold kahnF
    cases hn : nextOf n es o with
    | none => exact h
    | some i => obtain ⟨h1, h2⟩ := nextOf_some hn; exact kahnF_ok f (h.snoc h1 (rdy_notin h2))
theorem kahn_ok (n : Nat) (es : List (Int × Int)) : Ok n (kahn n es) := kahnF_ok n (Ok.nil n)

/-- The least ready node from k on. -/
def nextFrom (n : Nat) (es : List (Int × Int)) (o : List Nat) (k : Nat) : Option Nat := ((List.range n).drop k).find? (rdy es o)
theorem nextFrom_zero (n : Nat) (es : List (Int × Int)) (o : List Nat) : nextFrom n es o 0 = nextOf n es o := by simp [nextFrom, nextOf]
theorem nextFrom_end (n : Nat) (es : List (Int × Int)) (o : List Nat) : nextFrom n es o n = none := by
  unfold nextFrom; rw [List.drop_of_length_le (by simp)]; rfl
theorem nextFrom_step (n : Nat) (es : List (Int × Int)) (o : List Nat) (k : Nat) (h : k < n) : nextFrom n es o k = if rdy es o k = true then some k else nextFrom n es o (k + 1) := by
  unfold nextFrom
  rw [List.drop_eq_getElem_cons (by simpa using h), List.find?_cons]
  simp only [List.getElem_range]
  cases rdy es o k <;> simp

def optI : Option Nat → Int
  | none => -1
  | some i => (i : Int)

/-- The marks of an order: which nodes are in it. -/
def marks (n : Nat) (o : List Nat) : List Bool := (List.range n).map fun i => o.contains i
theorem marks_len (n : Nat) (o : List Nat) : (marks n o).length = n := by simp [marks]
theorem marks_get (n : Nat) (o : List Nat) (i : Nat) (h : i < n) : (marks n o).getD i false = o.contains i := by simp [marks, List.getD, h]
theorem marks_nil (n : Nat) : marks n [] = List.replicate n false := by
  simp only [marks, List.contains_nil, List.map_const', List.length_range]
theorem marks_snoc (n : Nat) (o : List Nat) (i : Nat) : marks n (o ++ [i]) = (marks n o).set i true := by
  apply List.ext_getElem
  · simp [marks]
  · intro k h1 h2
    have hk : k < n := by simpa [marks] using h1
    by_cases e : i = k
    · subst e; simp [marks]
    · rw [List.getElem_set_ne e]
      simp [marks]
      omega

/-- The reference's test: is something ahead of a node that isn't done? -/
def waitsE (es : List (Int × Int)) (done : List Bool) (i : Int) : Bool := es.any fun e => e.2 == i && !(done.getD e.1.toNat false)

theorem rdy_waits (n : Nat) (es : List (Int × Int)) (o : List Nat) (i : Nat) (hes : ∀ e ∈ es, 0 ≤ e.1 ∧ e.1 < n ∧ 0 ≤ e.2 ∧ e.2 < n) :
    rdy es o i = (!o.contains i && !waitsE es (marks n o) i) := by
  unfold rdy waitsE
  congr 1
  rw [List.not_any_eq_all_not, Bool.eq_iff_iff, List.all_eq_true, List.all_eq_true]
  have key : ∀ e ∈ es, (!(e.2 == (i : Int)) || o.contains e.1.toNat) = !(e.2 == (i : Int) && !((marks n o).getD e.1.toNat false)) := by
    intro e he
    have hb := marks_get n o e.1.toNat (by have := hes e he; omega)
    rw [hb]
    cases (e.2 == (i : Int)) <;> cases o.contains e.1.toNat <;> rfl
  constructor
  · intro h e he; rw [← key e he]; exact h e he
  · intro h e he; rw [key e he]; exact h e he

end Go.Proofs.YtnjbdedmalpccaaDoor
