/- A region that draws its order, all but its last operations being still, within a round of a loop over a function: the same law as without a round. -/
import Derived.Test.YtnjbdedmalpccaaDoorGrBack
import Derived.StillTail
import Derived.OrdersIn
namespace Go.Proofs.YtnjbdedmalpccaaDoor
open Go.RowKit

/-- No operation is a defer statement. -/
def noDeferB (ops : List Oper) : Bool := ops.all fun o => match o.op with
  | .defer _ => false
  | _ => true
theorem noDefer_at {ops : List Oper} (h : noDeferB ops = true) {i : Nat} {o : Oper} (ho : ops.toArray[i]? = some o) : ∀ c, o.op ≠ .defer c := by
  intro c hc
  have hm : o ∈ ops := List.mem_of_getElem? (by simpa using ho)
  have := (List.all_eq_true.1 h) o hm
  rw [hc] at this
  cases this

theorem oper_round {P : Program} {o : Oper} {a : Act} {w : World} {K : Act → World → Prop} {Q : Exit → Act → World → Prop} (l n : Nat) (hd : ∀ c, o.op ≠ .defer c) (h : o.wp P a w K Q) : o.wpIn (Fence.wide.inRound l) n P a w K Q := by
  refine ⟨fun _ _ => trivial, ?_⟩
  rw [Oper.semAt_eq _ _ _ hd]
  unfold Oper.wp at h
  generalize (execOp a.eval o).run P w = r at h ⊢
  cases r with
  | ok x w' =>
    cases x with
    | enter f args => exact ⟨fun h => (by cases h), CallsIn.inRound l (callsIn_wide.2 h)⟩
    | row row args =>
      refine ⟨fun h => (by cases h), fun c cs _ => ?_⟩
      obtain ⟨v, w2, r, s⟩ := h c cs
      exact ⟨v, w2, r, stepsIn_wide.2 s⟩
    | value v => exact h
    | skip => exact h
    | defer d => exact h
    | _ => exact False.elim h
  | halt x w' =>
    cases x with
    | panic v => exact h
    | _ => exact False.elim h

theorem any_round {P : Program} {md : Region.Mode} {ops : List Oper} {Q : Exit → Act → World → Prop} (l n : Nat) (hd : noDeferB ops = true) (hq : ¬ LetsOut Q) :
    ∀ (fuel : Nat) (listed : Array Bool) (a : Act) (w : World), wpAny P md ops.toArray Q fuel listed a w → wpAnyIn (Fence.wide.inRound l) n P md ops.toArray Q fuel listed a w
  | 0, _, _, _, h => h
  | fuel + 1, listed, a, w, h => by
    refine ⟨h.1, fun i hi => ?_⟩
    have h2 := h.2 i hi
    unfold wpOp at h2
    unfold wpOpIn
    cases ho : ops.toArray[i]? with
    | none =>
      rw [ho] at h2
      exact any_round l n hd hq fuel _ _ _ h2
    | some o =>
      rw [ho] at h2
      simp only at h2 ⊢
      by_cases hw : Region.wanted o (yielded ops.toArray a.tmps) = true
      · rw [if_pos hw] at h2 ⊢
        rcases h2 with h2 | h2
        · exact Oper.wpIn_mono (fun a w h => any_round l n hd hq fuel _ a w h) (oper_round l n (noDefer_at hd ho) h2)
        · exact absurd h2.2 hq
      · rw [if_neg hw] at h2 ⊢
        exact ⟨fun _ _ => trivial, any_round l n hd hq fuel _ _ _ h2⟩

/-- A post that lets nothing out. -/
def NoOut (Q : Exit → Act → World → Prop) : Exit → Act → World → Prop := fun e a w => e ≠ .outgrown ∧ Q e a w

/-- A region that draws its order within a round, all but its last operations being still. -/
theorem still_round {P : Program} {id : Nat} {Q : Exit → Act → World → Prop} {a : Act} {w : World} {ops : List Oper} (l m n : Nat) (hm : P.follows .mixedOrders = true) (hd : noDeferB ops = true) (hB : Region.lexTailB .any ops.toArray n = true)
    (h : wpStill P ops.toArray w.drew (fun a' => wpList P ops.toArray (NoOut Q) (ops.drop n) a' w.drew) (ops.take n) a) : (Code.region id ops.toArray true).wpIn (Fence.wide.inRound l) m P Q a w := by
  simp only [Region.lexTailB, Bool.and_eq_true, decide_eq_true_eq] at hB
  obtain ⟨⟨⟨⟨hsel, hn⟩, hs⟩, hc⟩, hlex⟩ := hB
  have hn' : n < ops.length := by simpa using hn
  have htl : (ops.take n).length = n := by simp; omega
  have hdl : (ops.drop n).length = ops.toArray.size - n := by simp
  have inv0 : HeadInv .any ops.toArray n (Array.replicate ops.toArray.size false) :=
    ⟨by simp, fun j oj _ hl => (by rw [getD_replicate_false] at hl; cases hl), fun t _ ht => getD_in (by simpa using ht) (getD_replicate_false _ _)⟩
  have H := wpAnyL_lex (md := .any) (g := ops.toArray.size - n) hsel hs hc hn (ops.take n) 0 _ a (fun j hj => by
    have hj' : j < n := by rw [htl] at hj; exact hj
    simp [hj']) (by simpa using htl) inv0 (by rw [htl]; exact hlex) h
  refine wpIn_mono (Q := NoOut Q) (wpIn_region_any hm ?_) (fun e a w h => h.2)
  refine any_round l m hd (fun ⟨_, _, h⟩ => h.1 rfl) _ _ _ _ ?_
  have := wpAny_of_head (Q' := NoOut Q) (g := ops.toArray.size - n) (fun listed a' hL => by
    have := wpAny_of_seq (md := .any) (Q' := NoOut Q) (ops.drop n) n listed a' w.drew (fun j => by simp [List.getElem?_drop]) (by rw [hdl]; exact hL.1) hL.2
    rwa [hdl] at this) _ _ _ H
  rw [htl, show n + (ops.toArray.size - n) = ops.toArray.size by omega] at this
  exact this

end Go.Proofs.YtnjbdedmalpccaaDoor
