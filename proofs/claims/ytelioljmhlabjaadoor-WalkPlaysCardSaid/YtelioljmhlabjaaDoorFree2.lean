/- A region that draws its order, whose calls only add to memory: what each operation's slot holds, told once. -/
import Derived.Test.YtelioljmhlabjaaDoorFree
namespace Go.Proofs.YtelioljmhlabjaaDoor
open Go.RowKit

theorem yielded_of {ops : List Oper} {a : Act} {j t : Nat} {o : Oper} {b : Bool} (ho : ops[j]? = some o) (hd : o.dst = some t) (ht : t < a.tmps.size) (h : a.eval (.tmp t) = .bool b) : yielded ops.toArray a.tmps j = some b := by
  unfold yielded
  simp only [Act.eval, Array.getD_eq_getD_getElem?] at h
  rw [Array.getElem?_eq_getElem ht] at h
  simp only [Option.getD_some] at h
  simp only [List.getElem?_toArray, ho, Option.bind_some, hd, Array.getElem?_eq_getElem ht, h]

/-- What stands ahead of an operation's guard, and what it must be. -/
def guardsIn (ops : List Oper) (gl : List (Nat × Bool)) : Bool := ops.all fun o => match o.guard with
  | none => true
  | some (j, want) => (depsOf o).contains j && gl.contains (j, want)

theorem wp_region_told_s {P : Program} {id : Nat} {Q : Exit → Act → World → Prop} {a : Act} {w : World} {ops : List Oper} (dsts : List Nat) (D : Nat → Value → World → Prop) (gl : List (Nat × Bool)) (hm : P.follows .mixedOrders = true)
    (hB : backB ops = true) (hd : ops.map (fun o => o.dst) = dsts.map some) (hgs : guardsIn ops gl = true) (hgl : ∀ p ∈ gl, ∀ v w, D p.1 v w → v = .bool p.2) (hnd : dsts.Nodup) (hin : ∀ d ∈ dsts, d < a.tmps.size)
    (mono : ∀ j v w w', D j v w → Below w.heap.size w w' → D j v w')
    (step : ∀ (w1 : World), Below w.drew.heap.size w.drew w1 → ∀ (i : Nat) (o : Oper), ops[i]? = some o → ∀ a' : Act, (∀ t, t ∉ dsts → a'.eval (.tmp t) = a.eval (.tmp t)) → (∀ d ∈ depsOf o, D d (a'.eval (.tmp (dsts.getD d 0))) w1) →
      ∀ K : Act → World → Prop, (∀ v w', Below w1.heap.size w1 w' → D i v w' → K (a'.put o.dst v) w') → Oper.wp P o a' w1 K Q)
    (hend : ∀ (s : Nat → Value) (w' : World), Below w.drew.heap.size w.drew w' → (∀ i, i < dsts.length → D i (s i) w') → Q .normal (putAll dsts (fun _ => true) s dsts.length a) w') :
    (Code.region id ops.toArray true).wp P Q a w := by
  have hlen : dsts.length = ops.length := by
    have := congrArg List.length hd
    simpa using this.symm
  refine wp_region_free (fun L a' w1 => (∃ s, a' = putAll dsts L s dsts.length a ∧ (∀ j, j < dsts.length → L j = true → D j (s j) w1)) ∧ Below w.drew.heap.size w.drew w1) hm hB ⟨⟨fun _ => undef, ?_, fun _ _ h => by cases h⟩, Below.refl _ _⟩ ?_ ?_
  · have : ∀ k, putAll dsts (fun _ => false) (fun _ => undef) k a = a := by
      intro k
      induction k with
      | zero => rfl
      | succ k ih => unfold putAll; simp [ih]
    exact (this _).symm
  · rintro L a' w1 ⟨⟨s, rfl, hG⟩, hbel⟩ i o ho hL hdep K hK
    have hi : i < ops.length := (List.getElem?_eq_some_iff.1 ho).1
    have hdo : (ops.map (fun o => o.dst))[i]? = some o.dst := by rw [List.getElem?_map, ho]; rfl
    rw [hd, List.getElem?_map, List.getElem?_eq_getElem (by omega)] at hdo
    simp only [Option.map_some, Option.some.injEq] at hdo
    have hsd : ∀ d ∈ depsOf o, D d ((putAll dsts L s dsts.length a).eval (.tmp (dsts.getD d 0))) w1 := fun d hd' => by
      have h1 := backB_at hB ho d hd'
      rw [eval_done hnd L s a hin (hdep d hd') (by omega) _ (by omega) (Nat.le_refl _)]
      exact hG d (by omega) (hdep d hd')
    have hw : Region.wanted o (yielded ops.toArray (putAll dsts L s dsts.length a).tmps) = true := by
      unfold Region.wanted
      cases hgo : o.guard with
      | none => rfl
      | some p =>
        obtain ⟨j, want⟩ := p
        have := (List.all_eq_true.1 hgs) o (List.mem_of_getElem? ho)
        rw [hgo] at this
        simp only [Bool.and_eq_true, List.contains_iff_mem] at this
        have hj := backB_at hB ho j this.1
        have hv := hgl _ this.2 _ _ (hsd j this.1)
        have hoj : ops[j]? = some ops[j] := List.getElem?_eq_getElem (by omega)
        have hdj : ops[j].dst = some (dsts.getD j 0) := by
          have : (ops.map (fun o => o.dst))[j]? = some ops[j].dst := by rw [List.getElem?_map, hoj]; rfl
          rw [hd, List.getElem?_map, List.getElem?_eq_getElem (by omega)] at this
          simp only [Option.map_some, Option.some.injEq] at this
          rw [← this]
          simp [List.getD, show j < dsts.length by omega]
        have hmj : dsts.getD j 0 ∈ dsts := by simp [List.getD, show j < dsts.length by omega]
        have := yielded_of hoj hdj (by rw [putAll_size]; exact hin _ hmj) hv
        simp only [this, beq_self_eq_true]
    rw [if_pos hw]
    refine step w1 hbel i o ho _ (fun t ht => eval_other L s a t ht hin _ (Nat.le_refl _)) hsd K (fun v w' hb hv => hK _ _ ⟨⟨updS s i v, ?_, fun j hj hLj => ?_⟩, hbel.trans (hb.mono hbel.size)⟩)
    · have hg2 : dsts.getD i 0 = dsts[i] := by simp [List.getD, show i < dsts.length by omega]
      rw [← hdo, ← hg2]
      exact (putAll_step hnd L s i v a hL (by omega) _ (by omega) (Nat.le_refl _)).symm
    · by_cases e : j = i
      · subst e; simpa [updS] using hv
      · have : (j == i) = false := by simpa using e
        simp only [this, Bool.or_false] at hLj
        simp only [updS, e, if_false]
        exact mono _ _ _ _ (hG j hj hLj) hb
  · rintro L a' w1 ⟨⟨s, rfl, hG⟩, hbel⟩ hall
    have : ∀ k, k ≤ dsts.length → putAll dsts L s k a = putAll dsts (fun _ => true) s k a := by
      intro k
      induction k with
      | zero => intro _; rfl
      | succ k ih =>
        intro hk
        unfold putAll
        rw [ih (by omega), if_pos (hall k (by omega)), if_pos rfl]
    rw [this _ (Nat.le_refl _)]
    exact hend s _ hbel fun i hi => hG i hi (hall i (by omega))

theorem wp_region_told {P : Program} {id : Nat} {Q : Exit → Act → World → Prop} {a : Act} {w : World} {ops : List Oper} (dsts : List Nat) (D : Nat → Value → World → Prop) (gl : List (Nat × Bool)) (hm : P.follows .mixedOrders = true)
    (hB : backB ops = true) (hd : ops.map (fun o => o.dst) = dsts.map some) (hgs : guardsIn ops gl = true) (hgl : ∀ p ∈ gl, ∀ v w, D p.1 v w → v = .bool p.2) (hnd : dsts.Nodup) (hin : ∀ d ∈ dsts, d < a.tmps.size)
    (mono : ∀ j v w w', D j v w → Below w.heap.size w w' → D j v w')
    (step : ∀ (w1 : World), Below w.drew.heap.size w.drew w1 → ∀ (i : Nat) (o : Oper), ops[i]? = some o → ∀ a' : Act, (∀ t, t ∉ dsts → a'.eval (.tmp t) = a.eval (.tmp t)) → (∀ d ∈ depsOf o, D d (a'.eval (.tmp (dsts.getD d 0))) w1) →
      ∀ K : Act → World → Prop, (∀ v w', Below w1.heap.size w1 w' → D i v w' → K (a'.put o.dst v) w') → Oper.wp P o a' w1 K Q)
    (hend : ∀ (a' : Act) (w' : World), Below w.drew.heap.size w.drew w' → a'.tmps.size = a.tmps.size → a'.defers = a.defers → (∀ t, t ∉ dsts → a'.eval (.tmp t) = a.eval (.tmp t)) → (∀ i, i < dsts.length → D i (a'.eval (.tmp (dsts.getD i 0))) w') → Q .normal a' w') :
    (Code.region id ops.toArray true).wp P Q a w := by
  refine wp_region_told_s dsts D gl hm hB hd hgs hgl hnd hin mono step fun s w' hb hD => ?_
  refine hend _ _ hb (putAll_size _ _ _ _ _) (putAll_defers _ _ _ _ _) (fun t ht => eval_other _ s a t ht hin _ (Nat.le_refl _)) (fun i hi => ?_)
  rw [eval_done hnd _ s a hin rfl hi _ hi (Nat.le_refl _)]
  exact hD i hi

/-- A slot holds a value, or a slice of such ints. -/
def toldD (l : List (Value ⊕ List Int)) (j : Nat) (v : Value) (w : World) : Prop := match l.getD j (.inl undef) with
  | .inl x => v = x
  | .inr xs => IntsAt w v xs
theorem toldD_mono (l : List (Value ⊕ List Int)) (j : Nat) (v : Value) (w w' : World) (h : toldD l j v w) (hb : Below w.heap.size w w') : toldD l j v w' := by
  unfold toldD at h ⊢
  split
  · next e => rw [e] at h; exact h
  · next e => rw [e] at h; exact h.mono hb

end Go.Proofs.YtelioljmhlabjaaDoor
