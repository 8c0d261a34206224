/- A region that draws its order: what holds whatever has been carried out so far, told of each operation once. -/
import Derived.Test.YtgbalofdfdafmaaDoorProg
import Derived.WalkKit
import Derived.BigQuiet
import Derived.Deep.QuietTactic
import Derived.Lib.Hide
import Derived.StillTailTactics
namespace Go.Proofs.YtgbalofdfdafmaaDoor
open Go.RowKit

/-- The operations of a code's region. -/
def findRegion (id : Nat) : Code → Option (List Oper)
  | .region i ops _ => if i = id then some ops.toList else none
  | .seq a b => match findRegion id a with
    | some l => some l
    | none => findRegion id b
  | .cond _ a b => match findRegion id a with
    | some l => some l
    | none => findRegion id b
  | .block _ a => findRegion id a
  | .loop a => findRegion id a
  | .scope a => findRegion id a
  | _ => none
def opsOf (f : Func) (id : Nat) : List Oper := match f.body with
  | some c => (findRegion id c).getD []
  | none => []

/-- What an operation waits for. -/
def depsOf (o : Oper) : List Nat := (o.after.toList.filter fun e => Region.binds .any e).map fun e => e.on
/-- All that an operation waits for stands ahead of it. -/
def backB (ops : List Oper) : Bool := (List.range ops.length).all fun i => match ops[i]? with
  | some o => (depsOf o).all fun d => decide (d < i)
  | none => true
theorem backB_at {ops : List Oper} (h : backB ops = true) {i : Nat} {o : Oper} (ho : ops[i]? = some o) : ∀ d ∈ depsOf o, d < i := by
  have hi : i < ops.length := (List.getElem?_eq_some_iff.1 ho).1
  have := (List.all_eq_true.1 h) i (by simpa using hi)
  rw [ho] at this
  simpa using this

theorem ready_mem {ops : List Oper} {listed : Array Bool} {i : Nat} : i ∈ Region.ready .any ops.toArray listed ↔ ∃ o, ops[i]? = some o ∧ listed.getD i true = false ∧ ∀ d ∈ depsOf o, listed.getD d false = true := by
  unfold Region.ready depsOf
  rw [List.mem_filter, List.mem_range]
  simp only [List.size_toArray, List.getElem?_toArray, Bool.and_eq_true, Bool.not_eq_true']
  constructor
  · rintro ⟨hi, h1, h2⟩
    refine ⟨ops[i], List.getElem?_eq_getElem hi, h1, ?_⟩
    rw [List.getElem?_eq_getElem hi] at h2
    simp only [Option.map_some, Option.getD_some] at h2
    intro d hd
    obtain ⟨e, he, rfl⟩ := List.mem_map.1 hd
    obtain ⟨he1, he2⟩ := List.mem_filter.1 he
    have := Array.all_eq_true'.1 h2 e (by simpa using he1)
    simpa [he2] using this
  · rintro ⟨o, ho, h1, h2⟩
    have hi : i < ops.length := (List.getElem?_eq_some_iff.1 ho).1
    refine ⟨hi, h1, ?_⟩
    rw [ho]
    simp only [Option.map_some, Option.getD_some]
    rw [Array.all_eq_true']
    intro e he
    by_cases hb : Region.binds .any e = true
    · have := h2 e.on (List.mem_map.2 ⟨e, List.mem_filter.2 ⟨by simpa using he, hb⟩, rfl⟩)
      rw [this, Bool.or_true]
    · have : Region.binds .any e = false := by simpa using hb
      rw [this]; rfl

def openL (n : Nat) (listed : Array Bool) : List Nat := (List.range n).filter fun j => !(listed.getD j false)
theorem openL_set {n i : Nat} {listed : Array Bool} (hs : listed.size = n) (hi : i < n) (h : listed.getD i false = false) : (openL n (listed.setIfInBounds i true)).length + 1 ≤ (openL n listed).length := by
  have hnd : (i :: openL n (listed.setIfInBounds i true)).Nodup := by
    rw [List.nodup_cons]
    refine ⟨fun hm => ?_, List.Pairwise.filter _ List.nodup_range⟩
    have := (List.mem_filter.1 hm).2
    simp [Array.getD, hs, hi] at this
  refine hnd.length_le_of_subset fun j hj => ?_
  rcases List.mem_cons.1 hj with rfl | hj
  · exact List.mem_filter.2 ⟨by simpa using hi, by simp [h]⟩
  · obtain ⟨h1, h2⟩ := List.mem_filter.1 hj
    refine List.mem_filter.2 ⟨h1, ?_⟩
    have hjn : j < n := by simpa using h1
    by_cases e : i = j
    · subst e; simp [h]
    · simp [Array.getD, hs, hjn, e] at h2 ⊢
      exact h2

theorem wp_region_free {P : Program} {id : Nat} {Q : Exit → Act → World → Prop} {a : Act} {w : World} {ops : List Oper} (I : (Nat → Bool) → Act → World → Prop) (hm : P.follows .mixedOrders = true) (hB : backB ops = true)
    (h0 : I (fun _ => false) a w.drew)
    (step : ∀ (L : Nat → Bool) (a : Act) (w : World), I L a w → ∀ (i : Nat) (o : Oper), ops[i]? = some o → L i = false → (∀ d ∈ depsOf o, L d = true) →
      ∀ K : Act → World → Prop, (∀ a w, I (fun j => L j || j == i) a w → K a w) → if Region.wanted o (yielded ops.toArray a.tmps) = true then Oper.wp P o a w K Q else K (a.put o.dst undef) w)
    (hend : ∀ (L : Nat → Bool) (a : Act) (w : World), I L a w → (∀ i, i < ops.length → L i = true) → Q .normal a w) : (Code.region id ops.toArray true).wp P Q a w := by
  refine wp_region_any hm ?_
  have key : ∀ (fuel : Nat) (listed : Array Bool) (a : Act) (w : World), listed.size = ops.length → (openL ops.length listed).length ≤ fuel → I (fun j => listed.getD j false) a w → wpAny P .any ops.toArray Q fuel listed a w := by
    intro fuel
    induction fuel with
    | zero =>
      intro listed a w hs hf hI
      have hall : ∀ i, i < ops.length → listed.getD i false = true := fun i hi => by
        apply Classical.byContradiction
        intro hn
        have : i ∈ openL ops.length listed := List.mem_filter.2 ⟨by simpa using hi, by simpa using hn⟩
        have := List.length_pos_of_mem this
        omega
      refine ⟨?_, hend _ _ _ hI hall⟩
      rw [List.eq_nil_iff_forall_not_mem]
      intro i hi
      obtain ⟨o, ho, h1, _⟩ := ready_mem.1 hi
      have hil : i < ops.length := (List.getElem?_eq_some_iff.1 ho).1
      have h2 := hall i hil
      simp [Array.getD, hs, hil] at h1 h2
      rw [h1] at h2
      cases h2
    | succ fuel ih =>
      intro listed a w hs hf hI
      refine ⟨fun hr => hend _ _ _ hI fun i hi => ?_, fun i hi => ?_⟩
      · induction i using Nat.strongRecOn with
        | _ i ihh =>
          apply Classical.byContradiction
          intro hn
          have hmem : i ∈ Region.ready .any ops.toArray listed := by
            refine ready_mem.2 ⟨ops[i], List.getElem?_eq_getElem hi, ?_, fun d hd => ?_⟩
            · simp [Array.getD, hs, hi] at hn ⊢
              exact hn
            · have := backB_at hB (List.getElem?_eq_getElem hi) d hd
              exact ihh d this (by omega)
          rw [hr] at hmem
          cases hmem
      · obtain ⟨o, ho, h1, h2⟩ := ready_mem.1 hi
        have hil : i < ops.length := (List.getElem?_eq_some_iff.1 ho).1
        have h1' : listed.getD i false = false := by
          simp [Array.getD, hs, hil] at h1 ⊢
          exact h1
        refine wpOp_step (o := o) (by simpa using ho) fun K hK => step _ a w hI i o ho h1' h2 K fun a' w' hI' => hK a' w' (ih _ a' w' (by simpa using hs) ?_ ?_)
        · have := openL_set hs hil h1'
          omega
        · have e : (fun j => (listed.setIfInBounds i true).getD j false) = fun j => listed.getD j false || j == i := by
            funext j
            by_cases e : i = j
            · subst e
              simp [Array.getD, hs, hil]
            · have : (j == i) = false := by simp; omega
              rw [this, Bool.or_false]
              by_cases hj : j < ops.length
              · simp [Array.getD, hs, hj, e]
              · simp [Array.getD, hs, hj]
          rw [e]
          exact hI'
  refine key _ _ _ _ (by simp) ?_ ?_
  · refine Nat.le_trans (List.length_filter_le _ _) (by simp)
  · have e : (fun j => (Array.replicate ops.toArray.size false).getD j false) = fun _ => false := by
      funext j
      exact getD_replicate_false _ j
    rw [e]
    exact h0

/-- The frame behind some of a region's operations: of k in all, those that L tells have put their values. -/
def putAll (dsts : List Nat) (L : Nat → Bool) (s : Nat → Value) : Nat → Act → Act
  | 0, a => a
  | k + 1, a => if L k = true then (putAll dsts L s k a).put (some (dsts.getD k 0)) (s k) else putAll dsts L s k a

theorem put_size (a : Act) (d : Nat) (v : Value) : (a.put (some d) v).tmps.size = a.tmps.size := by simp [Act.put]
theorem putAll_size (dsts : List Nat) (L : Nat → Bool) (s : Nat → Value) (a : Act) : ∀ k, (putAll dsts L s k a).tmps.size = a.tmps.size
  | 0 => rfl
  | k + 1 => by
    unfold putAll
    split
    · rw [put_size, putAll_size dsts L s a k]
    · exact putAll_size dsts L s a k
theorem putAll_defers (dsts : List Nat) (L : Nat → Bool) (s : Nat → Value) (a : Act) : ∀ k, (putAll dsts L s k a).defers = a.defers
  | 0 => rfl
  | k + 1 => by
    unfold putAll
    split
    · simp only [Act.put]; exact putAll_defers dsts L s a k
    · exact putAll_defers dsts L s a k
theorem eval_put (a : Act) (d t : Nat) (v : Value) (hd : d < a.tmps.size) : (a.put (some d) v).eval (.tmp t) = if t = d then v else a.eval (.tmp t) := by
  simp only [Act.put, Act.eval, Array.getD_eq_getD_getElem?, Array.getElem?_setIfInBounds]
  by_cases h : d = t
  · subst h; simp [hd]
  · have : ¬ t = d := fun e => h e.symm
    simp [h, this]
/-- A slot that no operation writes. -/
theorem eval_other {dsts : List Nat} (L : Nat → Bool) (s : Nat → Value) (a : Act) (t : Nat) (ht : t ∉ dsts) (hin : ∀ d ∈ dsts, d < a.tmps.size) : ∀ k, k ≤ dsts.length → (putAll dsts L s k a).eval (.tmp t) = a.eval (.tmp t)
  | 0, _ => rfl
  | k + 1, hk => by
    unfold putAll
    have hm : dsts.getD k 0 ∈ dsts := by simp [List.getD, show k < dsts.length by omega]
    split
    · rw [eval_put _ _ _ _ (by rw [putAll_size]; exact hin _ hm), if_neg (fun e => ht (by rw [e]; exact hm))]
      exact eval_other L s a t ht hin k (by omega)
    · exact eval_other L s a t ht hin k (by omega)
theorem getD_inj {dsts : List Nat} (hnd : dsts.Nodup) {i j : Nat} (hi : i < dsts.length) (hj : j < dsts.length) (h : dsts.getD i 0 = dsts.getD j 0) : i = j := by
  simp only [List.getD, List.getElem?_eq_getElem hi, List.getElem?_eq_getElem hj, Option.getD_some] at h
  have e1 := hnd.idxOf_getElem i hi
  have e2 := hnd.idxOf_getElem j hj
  rw [← e1, ← e2, h]
/-- A slot that an operation has written. -/
theorem eval_done {dsts : List Nat} (hnd : dsts.Nodup) (L : Nat → Bool) (s : Nat → Value) (a : Act) (hin : ∀ d ∈ dsts, d < a.tmps.size) {i : Nat} (hL : L i = true) (hi : i < dsts.length) : ∀ k, i < k → k ≤ dsts.length → (putAll dsts L s k a).eval (.tmp (dsts.getD i 0)) = s i
  | 0, h, _ => by omega
  | k + 1, h, hk => by
    unfold putAll
    have hm : dsts.getD k 0 ∈ dsts := by simp [List.getD, show k < dsts.length by omega]
    by_cases hik : i = k
    · subst hik
      rw [if_pos hL, eval_put _ _ _ _ (by rw [putAll_size]; exact hin _ hm), if_pos rfl]
    · have hne : ¬ dsts.getD i 0 = dsts.getD k 0 := fun e => hik (getD_inj hnd hi (by omega) e)
      split
      · rw [eval_put _ _ _ _ (by rw [putAll_size]; exact hin _ hm), if_neg hne]
        exact eval_done hnd L s a hin hL hi k (by omega) (by omega)
      · exact eval_done hnd L s a hin hL hi k (by omega) (by omega)

def updS (s : Nat → Value) (i : Nat) (v : Value) (j : Nat) : Value := if j = i then v else s j
theorem put_comm (a : Act) (d e : Nat) (x y : Value) (h : d ≠ e) : (a.put (some d) x).put (some e) y = (a.put (some e) y).put (some d) x := by
  simp only [Act.put]
  congr 1
  exact Array.setIfInBounds_comm x y h

theorem putAll_below {dsts : List Nat} (L : Nat → Bool) (s : Nat → Value) (i : Nat) (v : Value) (a : Act) : ∀ k, k ≤ i → putAll dsts (fun j => L j || j == i) (updS s i v) k a = putAll dsts L s k a
  | 0, _ => rfl
  | k + 1, h => by
    have e1 : (k == i) = false := by simp; omega
    have e2 : updS s i v k = s k := by unfold updS; rw [if_neg (by omega)]
    unfold putAll
    simp only [e1, Bool.or_false, e2]
    rw [putAll_below L s i v a k (by omega)]
/-- One more operation has put its value. -/
theorem putAll_step {dsts : List Nat} (hnd : dsts.Nodup) (L : Nat → Bool) (s : Nat → Value) (i : Nat) (v : Value) (a : Act) (hL : L i = false) (hi : i < dsts.length) : ∀ k, i < k → k ≤ dsts.length → putAll dsts (fun j => L j || j == i) (updS s i v) k a = (putAll dsts L s k a).put (some (dsts.getD i 0)) v
  | 0, h, _ => by omega
  | k + 1, h, hk => by
    by_cases hik : i = k
    · subst hik
      unfold putAll
      simp only [hL, beq_self_eq_true, Bool.or_true, if_true, Bool.false_eq_true, if_false]
      rw [putAll_below L s i v a i (Nat.le_refl _)]
      simp [updS]
    · have e1 : (k == i) = false := by simp; omega
      have e2 : updS s i v k = s k := by unfold updS; rw [if_neg (by omega)]
      have hne : dsts.getD i 0 ≠ dsts.getD k 0 := fun e => hik (getD_inj hnd hi (by omega) e)
      unfold putAll
      simp only [e1, Bool.or_false, e2]
      rw [putAll_step hnd L s i v a hL hi k (by omega) (by omega)]
      split
      · rw [put_comm _ _ _ _ _ hne]
      · rfl

/-- What an operation may look at: the slots of the operations ahead of it that are done, and those that no operation of the region writes. -/
structure Env (dsts : List Nat) (L : Nat → Bool) (s : Nat → Value) (a a' : Act) : Prop where
  done : ∀ i, i < dsts.length → L i = true → a'.eval (.tmp (dsts.getD i 0)) = s i
  other : ∀ t, t ∉ dsts → a'.eval (.tmp t) = a.eval (.tmp t)

/-- A region that draws its order, each operation of which puts a value into a slot of its own: G tells what holds when the operations of L are done, with the values s. -/
theorem wp_region_puts {P : Program} {id : Nat} {Q : Exit → Act → World → Prop} {a : Act} {w : World} {ops : List Oper} (dsts : List Nat) (G : (Nat → Bool) → (Nat → Value) → World → Prop) (hm : P.follows .mixedOrders = true)
    (hB : backB ops = true) (hd : ops.map (fun o => o.dst) = dsts.map some ++ List.replicate (ops.length - dsts.length) none) (hg : ops.all (fun o => o.guard.isNone) = true) (hnd : dsts.Nodup) (hin : ∀ d ∈ dsts, d < a.tmps.size)
    (h0 : G (fun _ => false) (fun _ => undef) w.drew)
    (step : ∀ (L : Nat → Bool) (s : Nat → Value) (w : World), G L s w → ∀ (i : Nat) (o : Oper), ops[i]? = some o → L i = false → (∀ d ∈ depsOf o, L d = true) → (∀ (j : Nat) (o : Oper), ops[j]? = some o → L j = true → ∀ d ∈ depsOf o, L d = true) →
      ∀ a', Env dsts L s a a' → ∀ K : Act → World → Prop, (∀ v w', G (fun j => L j || j == i) (updS s i v) w' → K (a'.put o.dst v) w') → Oper.wp P o a' w K Q)
    (hend : ∀ (s : Nat → Value) (w : World) (L : Nat → Bool), (∀ i, i < ops.length → L i = true) → G L s w → Q .normal (putAll dsts (fun _ => true) s dsts.length a) w) :
    (Code.region id ops.toArray true).wp P Q a w := by
  have hlen : dsts.length ≤ ops.length := by
    have := congrArg List.length hd
    simp at this
    omega
  refine wp_region_free (fun L a' w => ∃ s, a' = putAll dsts L s dsts.length a ∧ G L s w ∧ ∀ (j : Nat) (o : Oper), ops[j]? = some o → L j = true → ∀ d ∈ depsOf o, L d = true) hm hB ⟨_, ?_, h0, fun _ _ _ h => by cases h⟩ ?_ ?_
  · have : ∀ k, putAll dsts (fun _ => false) (fun _ => undef) k a = a := by
      intro k
      induction k with
      | zero => rfl
      | succ k ih => unfold putAll; simp [ih]
    exact (this _).symm
  · rintro L a' w1 ⟨s, rfl, hG, hcl⟩ i o ho hL hdep K hK
    have hi : i < ops.length := (List.getElem?_eq_some_iff.1 ho).1
    have hgo : o.guard = none := by
      have := (List.all_eq_true.1 hg) o (List.mem_of_getElem? ho)
      simpa using this
    have hdo : (ops.map (fun o => o.dst))[i]? = some o.dst := by rw [List.getElem?_map, ho]; rfl
    rw [hd] at hdo
    have hw : Region.wanted o (yielded ops.toArray (putAll dsts L s dsts.length a).tmps) = true := by
      unfold Region.wanted
      rw [hgo]
    rw [if_pos hw]
    have hcl2 : ∀ (j : Nat) (o' : Oper), ops[j]? = some o' → (L j || j == i) = true → ∀ d ∈ depsOf o', (L d || d == i) = true := by
      intro j o' ho' hj d hd
      rcases (Bool.or_eq_true _ _).mp hj with hj | hj
      · rw [hcl j o' ho' hj d hd]; rfl
      · have e : j = i := by simpa using hj
        subst e
        rw [ho] at ho'
        obtain rfl := Option.some.inj ho'
        rw [hdep d hd]; rfl
    refine step L s w1 hG i o ho hL hdep hcl _ ⟨fun j hj hLj => ?_, fun t ht => ?_⟩ K (fun v w' hG' => hK _ _ ⟨_, ?_, hG', hcl2⟩)
    · exact eval_done hnd L s a hin hLj hj _ hj (Nat.le_refl _)
    · exact eval_other L s a t ht hin _ (Nat.le_refl _)
    · by_cases hid : i < dsts.length
      · rw [List.getElem?_append_left (by simpa using hid), List.getElem?_map, List.getElem?_eq_getElem hid] at hdo
        simp only [Option.map_some, Option.some.injEq] at hdo
        have hg2 : dsts.getD i 0 = dsts[i] := by simp [List.getD, hid]
        rw [← hdo, ← hg2]
        exact (putAll_step hnd L s i v a hL hid _ hid (Nat.le_refl _)).symm
      · rw [List.getElem?_append_right (by simpa using Nat.le_of_not_lt hid)] at hdo
        have hn : o.dst = none := by
          have := List.mem_of_getElem? hdo
          exact (List.mem_replicate.1 this).2
        rw [hn, putAll_below L s i v a _ (Nat.le_of_not_lt hid)]
        rfl
  · rintro L a' w1 ⟨s, rfl, hG, _⟩ hall
    have : ∀ k, k ≤ dsts.length → putAll dsts L s k a = putAll dsts (fun _ => true) s k a := by
      intro k
      induction k with
      | zero => intro _; rfl
      | succ k ih =>
        intro hk
        unfold putAll
        rw [ih (by omega), if_pos (hall k (by omega)), if_pos rfl]
    rw [this _ (Nat.le_refl _)]
    exact hend s w1 L hall hG


/-! A front whose order is free, and a tail whose order is forced. -/

/-- d stands, by however many steps, ahead of i. -/
def underB (ops : List Oper) : Nat → Nat → Nat → Bool
  | 0, _, _ => false
  | f + 1, i, d => match ops[i]? with
    | some o => (depsOf o).any fun e => e == d || underB ops f e d
    | none => false
def tailB (ops : List Oper) (n : Nat) : Bool := (List.range ops.length).all fun i => decide (i < n) || (List.range i).all fun d => underB ops ops.length i d
def plainB (ops : List Oper) : Bool := ops.all fun o => o.guard.isNone
theorem under_done {ops : List Oper} {L : Nat → Bool} (hc : ∀ (j : Nat) (o : Oper), L j = true → ops[j]? = some o → ∀ d ∈ depsOf o, L d = true) : ∀ (f i d : Nat), underB ops f i d = true → (∀ o, ops[i]? = some o → ∀ e ∈ depsOf o, L e = true) → L d = true
  | 0, _, _, h, _ => by cases h
  | f + 1, i, d, h, hi => by
    unfold underB at h
    cases ho : ops[i]? with
    | none => rw [ho] at h; cases h
    | some o =>
      rw [ho] at h
      obtain ⟨e, he, h2⟩ := List.any_eq_true.1 h
      have hLe := hi o ho e he
      rw [Bool.or_eq_true, beq_iff_eq] at h2
      rcases h2 with rfl | h2
      · exact hLe
      · exact under_done hc f e d h2 fun o' ho' => hc e o' hLe ho'

/-- The forced tail, one operation after another. -/
def tailWp (P : Program) (Q : Exit → Act → World → Prop) : List Oper → Act → World → Prop
  | [], a, w => Q .normal a w
  | o :: r, a, w => ∀ K : Act → World → Prop, (∀ a' w', tailWp P Q r a' w' → K a' w') → Oper.wp P o a w K Q

theorem wp_region_tail {P : Program} {id : Nat} {Q : Exit → Act → World → Prop} {a : Act} {w : World} {ops : List Oper} (n : Nat) (dsts : List Nat) (D : Nat → Value → World → Prop) (Inv : (Nat → Bool) → World → Prop) (Rel : Nat → World → World → Prop) (hm : P.follows .mixedOrders = true)
    (hB : backB ops = true) (hpl : plainB ops = true) (htl : tailB ops n = true) (hn : n ≤ ops.length) (hd : (ops.take n).map (fun o => o.dst) = dsts.map some) (hnd : dsts.Nodup) (hin : ∀ d ∈ dsts, d < a.tmps.size)
    (hi0 : Inv (fun _ => false) w.drew)
    (inv : ∀ L i w w', i < n → Inv L w → Rel i w w' → Inv (fun j => L j || j == i) w')
    (mono : ∀ j i v w w', j < n → i < n → j ≠ i → (∀ o, ops[j]? = some o → i ∉ depsOf o) → D j v w → Rel i w w' → D j v w')
    (step : ∀ (L : Nat → Bool) (w1 : World), Inv L w1 → ∀ (i : Nat) (o : Oper), i < n → ops[i]? = some o → L i = false → ∀ a' : Act, (∀ t, t ∉ dsts → a'.eval (.tmp t) = a.eval (.tmp t)) → (∀ d ∈ depsOf o, D d (a'.eval (.tmp (dsts.getD d 0))) w1) →
      ∀ K : Act → World → Prop, (∀ v w', Rel i w1 w' → D i v w' → K (a'.put o.dst v) w') → Oper.wp P o a' w1 K Q)
    (hend : ∀ (s : Nat → Value) (L : Nat → Bool) (w' : World), Inv L w' → (∀ i, i < n → D i (s i) w') → tailWp P Q (ops.drop n) (putAll dsts (fun _ => true) s n a) w') :
    (Code.region id ops.toArray true).wp P Q a w := by
  have hlen : dsts.length = n := by
    have := congrArg List.length hd
    simp only [List.length_map, List.length_take] at this
    omega
  have hgn : ∀ (i : Nat) (o : Oper), ops[i]? = some o → o.guard = none := fun i o ho => by
    have := List.all_eq_true.1 hpl o (List.mem_of_getElem? ho)
    simpa using this
  have htail : ∀ i, n ≤ i → i < ops.length → ∀ d, d < i → underB ops ops.length i d = true := fun i h1 h2 d h3 => by
    have := List.all_eq_true.1 htl i (by simpa using h2)
    rw [Bool.or_eq_true, decide_eq_true_eq] at this
    rcases this with h | h
    · omega
    · exact List.all_eq_true.1 h d (by simpa using h3)
  refine wp_region_free (fun L a' w1 => (∀ (j : Nat) (o : Oper), L j = true → ops[j]? = some o → ∀ d ∈ depsOf o, L d = true) ∧
    (((∃ s, a' = putAll dsts L s n a ∧ (∀ j, j < n → L j = true → D j (s j) w1)) ∧ Inv L w1 ∧ (∀ j, n ≤ j → L j = false)) ∨
     (∃ k, 1 ≤ k ∧ n + k ≤ ops.length ∧ (∀ j, j < ops.length → (L j = true ↔ j < n + k)) ∧ tailWp P Q (ops.drop (n + k)) a' w1))) hm hB ⟨(fun _ _ h => by cases h), .inl ⟨⟨fun _ => undef, ?_, (fun _ _ h => by cases h)⟩, hi0, fun _ _ => rfl⟩⟩ ?_ ?_
  · have : ∀ k, putAll dsts (fun _ => false) (fun _ => undef) k a = a := by
      intro k
      induction k with
      | zero => rfl
      | succ k ih => unfold putAll; simp [ih]
    exact (this _).symm
  · rintro L a' w1 ⟨hcl, hst⟩ i o ho hL hdep K hK
    have hi : i < ops.length := (List.getElem?_eq_some_iff.1 ho).1
    have hw : Region.wanted o (yielded ops.toArray a'.tmps) = true := by
      unfold Region.wanted
      rw [hgn i o ho]
    rw [if_pos hw]
    have hcl2 : ∀ j o', (L j || j == i) = true → ops[j]? = some o' → ∀ d ∈ depsOf o', (L d || d == i) = true := fun j o' hj ho' d hd' => by
      rw [Bool.or_eq_true, beq_iff_eq] at hj
      rcases hj with hj | rfl
      · rw [hcl j o' hj ho' d hd']; rfl
      · rw [ho] at ho'
        cases ho'
        rw [hdep d hd']; rfl
    have hunder : n ≤ i → ∀ d, d < i → L d = true := fun hni d hdi => under_done hcl _ i d (htail i hni hi d hdi) fun o' ho' e he => by
      rw [ho] at ho'
      cases ho'
      exact hdep e he
    rcases hst with ⟨⟨s, rfl, hG⟩, hI, hno⟩ | ⟨k, hk1, hk2, hk3, ht⟩
    · by_cases hin' : i < n
      · have hdo : ((ops.take n).map (fun o => o.dst))[i]? = some o.dst := by rw [List.getElem?_map, List.getElem?_take, if_pos hin', ho]; rfl
        rw [hd, List.getElem?_map, List.getElem?_eq_getElem (by omega)] at hdo
        simp only [Option.map_some, Option.some.injEq] at hdo
        have hsd : ∀ d ∈ depsOf o, D d ((putAll dsts L s n a).eval (.tmp (dsts.getD d 0))) w1 := fun d hd' => by
          have h1 := backB_at hB ho d hd'
          rw [eval_done hnd L s a hin (hdep d hd') (by omega) _ (by omega) (by omega)]
          exact hG d (by omega) (hdep d hd')
        refine step L w1 hI i o hin' ho hL _ (fun t ht => eval_other L s a t ht hin _ (by omega)) hsd K (fun v w' hr hv => hK _ _ ⟨hcl2, .inl ⟨⟨updS s i v, ?_, fun j hj hLj => ?_⟩, inv L i w1 w' hin' hI hr, fun j hj => ?_⟩⟩)
        · have hg2 : dsts.getD i 0 = dsts[i]'(by omega) := by simp [List.getD, show i < dsts.length by omega]
          rw [← hdo, ← hg2]
          exact (putAll_step hnd L s i v a hL (by omega) _ (by omega) (by omega)).symm
        · by_cases e : j = i
          · subst e; simpa [updS] using hv
          · have hji : (j == i) = false := by simpa using e
            simp only [hji, Bool.or_false] at hLj
            simp only [updS, e, if_false]
            refine mono _ _ _ _ _ hj hin' e (fun o' ho' hm' => ?_) (hG j hj hLj) hr
            have := hcl j o' hLj ho' i hm'
            rw [hL] at this
            cases this
        · have hji : (j == i) = false := by simp; omega
          show (L j || j == i) = false
          rw [hji, hno j hj]; rfl
      · have hni : i = n := by
          apply Classical.byContradiction
          intro hne
          have h1 := hunder (by omega) n (by omega)
          rw [hno n (Nat.le_refl _)] at h1
          cases h1
        subst hni
        have hall := hunder (Nat.le_refl _)
        have hp : ∀ k, k ≤ i → putAll dsts L s k a = putAll dsts (fun _ => true) s k a := by
          intro k
          induction k with
          | zero => intro _; rfl
          | succ k ih =>
            intro hk
            unfold putAll
            rw [ih (by omega), if_pos (hall k (by omega)), if_pos rfl]
        have ht := hend s L w1 hI fun j hj => hG j hj (hall j hj)
        rw [← hp _ (Nat.le_refl _), List.drop_eq_getElem_cons hi] at ht
        have hoe : ops[i] = o := by
          have := List.getElem?_eq_getElem hi
          rw [ho] at this
          exact (Option.some.inj this).symm
        rw [hoe] at ht
        refine ht K fun a'' w'' h'' => hK _ _ ⟨hcl2, .inr ⟨1, by omega, by omega, fun j hj => ?_, h''⟩⟩
        simp only [Bool.or_eq_true, beq_iff_eq]
        constructor
        · rintro (h | h)
          · apply Classical.byContradiction
            intro hnj
            rw [hno j (by omega)] at h
            cases h
          · omega
        · intro h
          by_cases e : j = i
          · exact .inr e
          · exact .inl (hall j (by omega))
    · have hge : n + k ≤ i := by
        apply Classical.byContradiction
        intro h
        have := (hk3 i hi).2 (by omega)
        rw [hL] at this
        cases this
      have hni : i = n + k := by
        apply Classical.byContradiction
        intro hne
        have h1 := hunder (by omega) (n + k) (by omega)
        have := (hk3 (n + k) (by omega)).1 h1
        omega
      subst hni
      rw [List.drop_eq_getElem_cons hi] at ht
      have hoe : ops[n + k] = o := by
        have := List.getElem?_eq_getElem hi
        rw [ho] at this
        exact (Option.some.inj this).symm
      rw [hoe] at ht
      refine ht K fun a'' w'' h'' => hK _ _ ⟨hcl2, .inr ⟨k + 1, by omega, by omega, fun j hj => ?_, h''⟩⟩
      simp only [Bool.or_eq_true, beq_iff_eq, hk3 j hj]
      omega
  · rintro L a' w1 ⟨hcl, hst⟩ hall
    rcases hst with ⟨⟨s, rfl, hG⟩, hI, hno⟩ | ⟨k, hk1, hk2, hk3, ht⟩
    · have hnl : n = ops.length := by
        apply Classical.byContradiction
        intro hne
        have := hall n (by omega)
        rw [hno n (Nat.le_refl _)] at this
        cases this
      have hp : ∀ k, k ≤ n → putAll dsts L s k a = putAll dsts (fun _ => true) s k a := by
        intro k
        induction k with
        | zero => intro _; rfl
        | succ k ih =>
          intro hk
          unfold putAll
          rw [ih (by omega), if_pos (hall k (by omega)), if_pos rfl]
      have ht := hend s L w1 hI fun j hj => hG j hj (hall j (by omega))
      rw [← hp _ (Nat.le_refl _), List.drop_of_length_le (by omega)] at ht
      exact ht
    · have hkl : n + k = ops.length := by
        apply Classical.byContradiction
        intro hne
        have := (hk3 (n + k) (by omega)).1 (hall _ (by omega))
        omega
      rw [hkl, List.drop_length] at ht
      exact ht

end Go.Proofs.YtgbalofdfdafmaaDoor
