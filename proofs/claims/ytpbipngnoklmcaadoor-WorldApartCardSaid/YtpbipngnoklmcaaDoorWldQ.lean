/- What a range over the world's map has collected. No walk. -/
import Derived.Test.YtpbipngnoklmcaaDoorWldM
import Derived.Maps.RangeWalk
namespace Go.Proofs.YtpbipngnoklmcaaDoor
open Go.RowKit
set_option maxRecDepth 100000

theorem same_klW {a b t i : S8} (ha : fitS a) (hb : fitS b) (ht : fitS t) (hi : fitS i) : (klW a b).sameKey (klW t i) = ((a == t) && (b == i)) := by
  by_cases he : a = t ∧ b = i
  · obtain ⟨rfl, rfl⟩ := he
    simp only [beq_self_eq_true, Bool.and_self]
    unfold klW Lit.sameKey
    simp
  · have hne : klW a b ≠ klW t i := fun e => he (klW_inj ha hb ht hi e)
    rw [Maps.sameKey_ne hne]
    symm
    rw [Bool.and_eq_false_iff]
    by_cases h1 : a = t
    · exact .inr (by simpa using fun e => he ⟨h1, e⟩)
    · exact .inl (by simpa using h1)

/-- acc is what has come of objs; left says of each key whether it is still to come. -/
structure ColR (left : Lit → Bool) (objs acc : List O3) : Prop where
  left : ∀ t i, fitS t → fitS i → left (klW t i) = (hasO objs t i && !hasO acc t i)
  mem : ∀ o ∈ acc, o ∈ objs
theorem ColR.start {D : DataW Value} {objs : List O3} {val : S8 → S8 → Value} (h : MapRel D objs val) : ColR (Maps.has D) objs [] :=
  ⟨fun t i ht hi => by rw [(h t i ht hi).1]; simp [hasO], fun o ho => by cases ho⟩
theorem hasO_snoc (acc : List O3) (o : O3) (t i : S8) : hasO (acc ++ [o]) t i = (hasO acc t i || ((o.1 == t) && (o.2.1 == i))) := by
  unfold hasO isO
  rw [List.any_append]
  simp
theorem ColR.step {left : Lit → Bool} {objs acc : List O3} (h : ColR left objs acc) {t i : S8} (ht : fitS t) (hi : fitS i) (hl : left (klW t i) = true) :
    ∃ x, (t, i, x) ∈ objs ∧ hasO acc t i = false ∧ ColR (fun z => left z && !z.sameKey (klW t i)) objs (acc ++ [(t, i, x)]) := by
  have h1 := h.left t i ht hi
  rw [hl] at h1
  obtain ⟨h2, h3⟩ := (Bool.and_eq_true _ _).mp h1.symm
  obtain ⟨x, hx⟩ := hasO_iff.1 h2
  refine ⟨x, hx, by simpa using h3, fun a b ha hb => ?_, fun o ho => ?_⟩
  · show (left (klW a b) && !(klW a b).sameKey (klW t i)) = _
    rw [h.left a b ha hb, same_klW ha hb ht hi, hasO_snoc]
    show _ = (hasO objs a b && !(hasO acc a b || ((t == a) && (i == b))))
    rw [show (t == a) = (a == t) from BEq.comm, show (i == b) = (b == i) from BEq.comm]
    cases hasO objs a b <;> cases hasO acc a b <;> cases (a == t) <;> cases (b == i) <;> rfl
  · rcases List.mem_append.1 ho with ho | ho
    · exact h.mem o ho
    · simp at ho
      subst ho
      exact hx
theorem ColR.done {left : Lit → Bool} {objs acc : List O3} (h : ColR left objs acc) (hl : ∀ z, left z = false) (hf : fitO objs) (hr : risO objs) (o : O3) : o ∈ acc ↔ o ∈ objs := by
  refine ⟨h.mem o, fun ho => ?_⟩
  obtain ⟨f1, f2⟩ := hf o ho
  have h1 := h.left o.1 o.2.1 f1 f2
  rw [hl, hasO_iff.2 ⟨o.2.2, ho⟩] at h1
  have h2 : hasO acc o.1 o.2.1 = true := by simpa using h1
  obtain ⟨v, hv⟩ := hasO_iff.1 h2
  have := ris_one hr (h.mem _ hv) ho
  subst this
  exact hv
/-- The collected objects, put in order, are the world's. -/
theorem ColR.sorted {left : Lit → Bool} {objs acc l : List O3} (h : ColR left objs acc) (hl : ∀ z, left z = false) (hf : fitO objs) (hr : risO objs) (hp : l.Perm acc) (hs : risO l) : l = objs :=
  ris_ext hs hr fun o => by rw [hp.mem_iff, h.done hl hf hr]

end Go.Proofs.YtpbipngnoklmcaaDoor
