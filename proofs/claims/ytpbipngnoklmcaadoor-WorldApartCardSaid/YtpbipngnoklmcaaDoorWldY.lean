/- Plain: rows of objects of the call's own, with their values; what Objects leaves. No walk. -/
import Derived.Test.YtpbipngnoklmcaaDoorWldR
import Derived.Test.YtpbipngnoklmcaaDoorWldQ
import Derived.Test.YtpbipngnoklmcaaDoorStepA
namespace Go.Proofs.YtpbipngnoklmcaaDoor
open Go.RowKit
set_option maxRecDepth 100000

theorem strNeO : (9 : TypeId) ≠ 57 := by decide
theorem valNeO : (27 : TypeId) ≠ 57 := by decide
theorem owns_kinds {w : World} : ∀ {ts : List VT} {vs : List Value} {F : List Nat}, OwnVals w ts vs F → ∀ q ∈ F, ∃ cs fz, w.heap[q]? = some (.cells cs 9 fz) ∨ w.heap[q]? = some (.cells cs 27 fz)
  | [], vs, F, h => by rw [OwnVals] at h; rw [h.2]; intro q hq; cases hq
  | t :: r, vs, F, h => by
    obtain ⟨x, ys, Fx, Fr, rfl, rfl, hx, hr⟩ := h.head
    intro q hq
    rcases List.mem_append.1 hq with hq | hq
    · exact own_kinds hx q hq
    · exact owns_kinds hr q hq
/-- A row of objects of the call's own, with their values, all in memory behind w0. -/
def ObjL (w0 : World) (rs : List R3) (v : Value) (F : List Nat) (w : World) : Prop :=
  w.ownsRow w0.heap.size 57 7 v rs.length (rowC rs) ∧ OwnVals w (rs.map fun r => r.1.2.2) (rs.map rV) F ∧ F.Nodup ∧ (∀ q ∈ F, w0.heap.size ≤ q) ∧ Below w0.heap.size w0 w
theorem ObjL.nil (w : World) : ObjL w [] (.slice none 0 0) [] w := ⟨World.ownsRow_nil _ _ _ _, by rw [List.map_nil, List.map_nil, OwnVals]; exact ⟨rfl, rfl⟩, by simp, (fun q hq => by cases hq), Below.refl _ _⟩
theorem ObjL.apart {w0 w : World} {rs : List R3} {v : Value} {F : List Nat} (h : ObjL w0 rs v F w) {q : Nat} (hq : q ∈ F) : v.ownBlock ≠ some q := fun e => by
  obtain ⟨cs, hh⟩ := row_block h.1 e
  obtain ⟨cs', fz, hk⟩ := owns_kinds h.2.1 q hq
  rcases hk with hk | hk <;> rw [hh] at hk <;> injection hk with hk <;> injection hk with _ e _
  · exact strNeO e.symm
  · exact valNeO e.symm
theorem ObjL.stays {w0 w w' : World} {rs : List R3} {v : Value} {F : List Nat} (h : ObjL w0 rs v F w) (hb : Below w.heap.size w w') : ObjL w0 rs v F w' := by
  obtain ⟨h1, h2, h3, h4, h5⟩ := h
  refine ⟨row_keep h1 fun q hq => ?_, h2.keep fun q hq => hb.block q (h2.lt q hq), h3, h4, h5.trans (hb.mono h5.size)⟩
  obtain ⟨_, hh⟩ := row_block h1 hq
  exact hb.block q (heap_lt hh)
theorem ObjL.push {w0 wr w1 w3 : World} {rs : List R3} {r : R3} {vo v' : Value} {F Fx : List Nat} {o : Obj} (h : ObjL w0 rs vo F wr) (hb : Below wr.heap.size wr w1) (hx : OwnVal w1 r.1.2.2 (rV r) Fx) (hd : Fx.Nodup) (hF : ∀ q ∈ Fx, wr.heap.size ≤ q)
    (hown : w3.ownsRow w0.heap.size 57 7 v' (rs.length + 1) (rowC rs ++ rcells r)) (hg : (w1.alloc o).grownBy w3 vo.ownBlock) : ObjL w0 (rs ++ [r]) v' (F ++ Fx) w3 := by
  have h1 := h.stays hb
  have hap := fun q (hq : q ∈ F) => h1.apart hq
  obtain ⟨h1, h2, h3, h4, h5⟩ := h1
  have hlt := h.2.1.lt
  have hk : ∀ q, q < w1.heap.size → vo.ownBlock ≠ some q → w3.heap[q]? = w1.heap[q]? := fun q hq hn => by
    rw [hg.block q (by simp only [World.alloc, Array.size_push]; omega) (fun e => hn e.symm)]
    exact Below.heap_alloc _ _ q hq
  have hxk : ∀ q ∈ Fx, vo.ownBlock ≠ some q := fun q hq e => by
    have := (h.1.lt q e).2
    have := hF q hq
    omega
  refine ⟨?_, ?_, ?_, ?_, ?_⟩
  · rw [List.length_append, rowC_snoc]
    exact hown
  · rw [List.map_append, List.map_append]
    exact (h2.keep fun q hq => hk q (h2.lt q hq) (hap q hq)).append (OwnVals.one (hx.keep fun q hq => hk q (hx.lt q hq) (hxk q hq)))
  · rw [List.nodup_append]
    exact ⟨h3, hd, fun a ha b hb' e => by have := hlt a ha; have := hF b hb'; omega⟩
  · intro q hq
    rcases List.mem_append.1 hq with hq | hq
    · exact h4 q hq
    · have := hF q hq
      have := h.2.2.2.2.size
      omega
  · have hb1 : Below w0.heap.size w0 (w1.alloc o) := h5.alloc h5.size _
    exact hb1.grown hg hb1.size fun k e => (h.1.lt k e).1
/-- The row reads as objects. -/
theorem ObjL.objs {w0 w : World} {rs : List R3} {v : Value} {F : List Nat} (h : ObjL w0 rs v F w) (hf : fitO (osR rs)) : ObjsAt w v (osR rs) := by
  refine objs_of_rows (CellsAt.row h.1) (fun r hr => ?_) hf
  obtain ⟨h1, h2, _⟩ := h
  have go : ∀ (l : List R3) (F : List Nat), OwnVals w (l.map fun r => r.1.2.2) (l.map rV) F → ∀ r ∈ l, ValAt w r.1.2.2 (rV r) := by
    intro l
    induction l with
    | nil => intro F _ r hr; cases hr
    | cons x l ih =>
      intro F hF r hr
      rw [List.map_cons, List.map_cons, OwnVals] at hF
      obtain ⟨y, ys, Fx, Fr, he, rfl, hx, hrr⟩ := hF
      injection he with e1 e2
      subst e1 e2
      rcases List.mem_cons.1 hr with rfl | hr
      · exact hx.at
      · exact ih Fr hrr r hr
  exact go rs F h2 r hr
variable {w : World} {p b n : Nat} {S : WS} {val : S8 → S8 → Value} {vf vt : Value} {D : DataW Value}
/-- What Objects leaves. -/
def ObjPost (S : WS) (w : World) (e : Ending) (w' : World) : Prop := ∃ rs v F, e = .returned v ∧ osR rs = S.objs ∧ ObjL w rs v F w'
theorem ObjPost.done {left : Lit → Bool} {rs ts : List R3} {v : Value} {F : List Nat} {w' : World} (hc : ColR left S.objs (osR rs)) (hl : ∀ z, left z = false) (hf : fitO S.objs) (hr : risO S.objs) (hp : ts.Perm rs) (hs : risO (osR ts)) (h : ObjL w ts v F w') : ObjPost S w (.returned v) w' :=
  ⟨ts, v, F, rfl, hc.sorted hl hf hr (hp.map _) hs, h⟩

theorem val_cells {x : VT} {v : Value} {F : List Nat} (h : OwnVal w x v F) : ∃ ai ci ak ck, v = .agg #[.int .i64 x.kind, .bool x.flag, str x.text, .slice ai x.items.length ci, .slice ak x.keys.length ck] := by
  obtain ⟨ai, ci, ak, ck, h⟩ := h.at.form
  exact ⟨ai, ci, ak, ck, h⟩

/-- Names that differ, two by two. -/
def apartO (l : List O3) : Prop := l.Pairwise fun a b => ¬ (a.1 = b.1 ∧ a.2.1 = b.2.1)
theorem apart_len : ∀ {acc l : List O3}, apartO acc → (∀ o ∈ acc, o ∈ l) → acc.length ≤ l.length
  | [], _, _, _ => Nat.zero_le _
  | a :: acc, l, h, hm => by
    obtain ⟨h1, h2⟩ := List.pairwise_cons.1 h
    have hlt : (outO l a.1 a.2.1).length < l.length := by
      unfold outO
      exact List.length_filter_lt_length_iff_exists.2 ⟨a, hm a (by simp), by simp [isO_self]⟩
    have := apart_len (acc := acc) (l := outO l a.1 a.2.1) h2 fun o ho => mem_outO.2 ⟨hm o (by simp [ho]), isO_of_ne fun e => h1 o ho ⟨e.1.symm, e.2.symm⟩⟩
    rw [List.length_cons]
    omega
theorem apart_snoc {acc : List O3} {t i : S8} {x : VT} (h : apartO acc) (hn : hasO acc t i = false) : apartO (acc ++ [(t, i, x)]) := by
  unfold apartO
  rw [List.pairwise_append]
  refine ⟨h, List.pairwise_singleton _ _, fun o ho q hq e => ?_⟩
  have : q = (t, i, x) := by simpa using hq
  subst this
  have : hasO acc t i = true := List.any_eq_true.2 ⟨o, ho, isO_iff.2 e⟩
  rw [hn] at this
  cases this
theorem osR_snoc (rs : List R3) (r : R3) : osR (rs ++ [r]) = osR rs ++ [r.1] := by unfold osR; rw [List.map_append]; rfl

end Go.Proofs.YtpbipngnoklmcaaDoor
