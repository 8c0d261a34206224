/- Plain: numbers of new IDs; two addresses don't hang on one another. No walk. Plain: the document's world, made of new rows and of what it was; two boxes that a call keeps. No walk. -/
import Derived.Test.YtpbipngnoklmcaaGreatDoorMWldD
import Derived.Test.YtpbipngnoklmcaaGreatDoorMWldU
namespace Go.Proofs.YtpbipngnoklmcaaGreatDoor
set_option maxRecDepth 100000

theorem min_free (f : Nat → Bool) : ∀ (n : Nat), f n = false → ∃ j, j ≤ n ∧ f j = false ∧ ∀ m, m < j → f m = true
  | 0, h => ⟨0, Nat.le_refl _, h, fun m hm => by omega⟩
  | n + 1, h => by
    by_cases ha : ∀ m, m < n + 1 → f m = true
    · exact ⟨n + 1, Nat.le_refl _, h, ha⟩
    · have : ∃ m, m < n + 1 ∧ f m = false := by
        apply Classical.byContradiction
        intro hh
        exact ha fun m hm => by
          cases hf : f m with
          | true => rfl
          | false => exact absurd ⟨m, hm, hf⟩ hh
      obtain ⟨m, hm, hf⟩ := this
      -- the least below m
      have go : ∀ k, k ≤ n → f k = false → ∃ j, j ≤ k ∧ f j = false ∧ ∀ m, m < j → f m = true := by
        intro k
        induction k using Nat.strongRecOn with
        | _ k ih =>
          intro hk hfk
          by_cases hb : ∀ m, m < k → f m = true
          · exact ⟨k, Nat.le_refl _, hfk, hb⟩
          · have : ∃ m, m < k ∧ f m = false := by
              apply Classical.byContradiction
              intro hh
              exact hb fun m hm => by
                cases hf : f m with
                | true => rfl
                | false => exact absurd ⟨m, hm, hf⟩ hh
            obtain ⟨m, hm, hf⟩ := this
            obtain ⟨j, h1, h2, h3⟩ := ih m hm (by omega) hf
            exact ⟨j, by omega, h2, h3⟩
      obtain ⟨j, h1, h2, h3⟩ := go m (by omega) hf
      exact ⟨j, by omega, h2, h3⟩

/-- The new ID is the first free one. -/
theorem newId_spec (l : List O3) (addr typ after : S8) : ∃ j : Nat, j ≤ l.length ∧ newId l addr typ after = idN addr (behindP addr after + j) ∧ hasO l typ (idN addr (behindP addr after + j)) = false ∧ ∀ m : Nat, m < j → hasO l typ (idN addr (behindP addr after + m)) = true := by
  obtain ⟨n, hn, hf⟩ := free_id (fun _ _ h => itoa_inj h) typ addr l.length l (behindP addr after) (Nat.le_refl _)
  obtain ⟨j, hj, h1, h2⟩ := min_free (fun m => hasO l typ (idN addr (behindP addr after + (m : Nat)))) n hf
  refine ⟨j, by omega, ?_, h1, h2⟩
  unfold newId
  rw [next_is l typ addr j (l.length + 1) _ h2 h1 (by omega)]
theorem newId_is {l : List O3} {addr typ after : S8} {j : Nat} (h1 : hasO l typ (idN addr (behindP addr after + j)) = false) (h2 : ∀ m : Nat, m < j → hasO l typ (idN addr (behindP addr after + m)) = true) : newId l addr typ after = idN addr (behindP addr after + j) := by
  obtain ⟨k, _, he, g1, g2⟩ := newId_spec l addr typ after
  have hjk : j = k := by
    rcases Nat.lt_trichotomy j k with h | h | h
    · rw [g2 j h] at h1; cases h1
    · exact h
    · rw [h2 k h] at g1; cases g1
  rw [he, hjk]
theorem newId_free (l : List O3) (addr typ after : S8) : hasO l typ (newId l addr typ after) = false := by
  obtain ⟨j, _, he, h, _⟩ := newId_spec l addr typ after
  rw [he, h]
theorem newId_form (l : List O3) (addr typ after : S8) : ∃ k : Int, newId l addr typ after = idN addr k := by
  obtain ⟨j, _, he, _⟩ := newId_spec l addr typ after
  exact ⟨_, he⟩
theorem newId_congr {l l' : List O3} {addr typ after : S8} (h : ∀ k : Int, hasO l' typ (idN addr k) = hasO l typ (idN addr k)) : newId l' addr typ after = newId l addr typ after := by
  obtain ⟨j, _, he, h1, h2⟩ := newId_spec l addr typ after
  rw [he]
  exact newId_is (by rw [h]; exact h1) (fun m hm => by rw [h]; exact h2 m hm)

/-- IDs of two addresses, none of which is the beginning of the other's IDs. -/
theorem idN_apart {a b : S8} (h1 : (a ++ [35]).isPrefixOf (b ++ [35]) = false) (h2 : (b ++ [35]).isPrefixOf (a ++ [35]) = false) (j k : Int) : idN a j ≠ idN b k := by
  intro h
  have pa : (a ++ [35]) <+: idN b k := by rw [← h]; exact List.prefix_append _ _
  have pb : (b ++ [35]) <+: idN b k := List.prefix_append _ _
  rcases List.prefix_or_prefix_of_prefix pa pb with h | h
  · rw [List.isPrefixOf_iff_prefix.2 h] at h1; cases h1
  · rw [List.isPrefixOf_iff_prefix.2 h] at h2; cases h2
theorem with_comm {l : List O3} (hr : risO l) {o q : O3} (hne : ¬ (o.1 = q.1 ∧ o.2.1 = q.2.1)) : withO (withO l o) q = withO (withO l q) o := by
  refine ris_ext (ris_with (ris_with hr _) _) (ris_with (ris_with hr _) _) fun x => ?_
  rw [mem_withO, mem_withO, mem_withO, mem_withO]
  have e1 : isO q.1 q.2.1 o = false := isO_of_ne hne
  have e2 : isO o.1 o.2.1 q = false := isO_of_ne fun e => hne ⟨e.1.symm, e.2.symm⟩
  constructor
  · rintro (rfl | ⟨rfl | ⟨h1, h2⟩, h3⟩)
    · exact .inr ⟨.inl rfl, e2⟩
    · exact .inl rfl
    · exact .inr ⟨.inr ⟨h1, h3⟩, h2⟩
  · rintro (rfl | ⟨rfl | ⟨h1, h2⟩, h3⟩)
    · exact .inr ⟨.inl rfl, e1⟩
    · exact .inl rfl
    · exact .inr ⟨.inr ⟨h1, h3⟩, h2⟩
/-- Creating for two such addresses, in either order. -/
theorem create_apart {l : List O3} (hr : risO l) {a b ta tb fa fb : S8} {xa xb : VT} (h1 : (a ++ [35]).isPrefixOf (b ++ [35]) = false) (h2 : (b ++ [35]).isPrefixOf (a ++ [35]) = false) :
    newId (withO l (tb, newId l b tb fb, xb)) a ta fa = newId l a ta fa ∧ newId (withO l (ta, newId l a ta fa, xa)) b tb fb = newId l b tb fb ∧
    withO (withO l (ta, newId l a ta fa, xa)) (tb, newId l b tb fb, xb) = withO (withO l (tb, newId l b tb fb, xb)) (ta, newId l a ta fa, xa) := by
  obtain ⟨i, hi⟩ := newId_form l a ta fa
  obtain ⟨j, hj⟩ := newId_form l b tb fb
  refine ⟨newId_congr fun k => ?_, newId_congr fun k => ?_, with_comm hr fun e => ?_⟩
  · rw [hasO_with]
    have : (newId l b tb fb == idN a k) = false := by rw [hj]; simpa using fun e => idN_apart h1 h2 k j e.symm
    show (tb == ta && newId l b tb fb == idN a k || hasO l ta (idN a k)) = _
    rw [this, Bool.and_false, Bool.false_or]
  · rw [hasO_with]
    have : (newId l a ta fa == idN b k) = false := by rw [hi]; simpa using fun e => idN_apart h1 h2 i k e
    show (ta == tb && newId l a ta fa == idN b k || hasO l tb (idN b k)) = _
    rw [this, Bool.and_false, Bool.false_or]
  · have := e.2
    dsimp only at this
    rw [hi, hj] at this
    exact idN_apart h1 h2 i j this

theorem len_ins (o : O3) : ∀ (l : List O3), (insO o l).length = l.length + 1
  | [] => rfl
  | x :: r => by
    rw [insO]
    split
    · rfl
    · rw [List.length_cons, len_ins o r, List.length_cons]
theorem out_none {l : List O3} {t i : S8} (h : hasO l t i = false) : outO l t i = l := by
  unfold outO
  rw [List.filter_eq_self]
  intro o ho
  cases hh : isO t i o with
  | false => rfl
  | true =>
    have : hasO l t i = true := List.any_eq_true.2 ⟨o, ho, hh⟩
    rw [h] at this
    cases this
theorem len_with_new {l : List O3} {o : O3} (h : hasO l o.1 o.2.1 = false) : (withO l o).length = l.length + 1 := by
  unfold withO
  rw [len_ins, out_none h]
theorem len_with_le (l : List O3) (o : O3) : (withO l o).length ≤ l.length + 1 := by
  unfold withO
  rw [len_ins]
  have : (outO l o.1 o.2.1).length ≤ l.length := List.length_filter_le _ _
  omega
theorem len_out_le (l : List O3) (t i : S8) : (outO l t i).length ≤ l.length := List.length_filter_le _ _
theorem out_with_new {l : List O3} (hr : risO l) {o : O3} (h : hasO l o.1 o.2.1 = false) : outO (withO l o) o.1 o.2.1 = l := by
  refine ris_ext (ris_out (ris_with hr _) _ _) hr fun x => ?_
  rw [mem_outO, mem_withO]
  have hself := isO_self o
  constructor
  · rintro ⟨rfl | ⟨h1, _⟩, h2⟩
    · rw [hself] at h2; cases h2
    · exact h1
  · intro hx
    refine ⟨.inr ⟨hx, ?_⟩, ?_⟩ <;>
    · cases hh : isO o.1 o.2.1 x with
      | false => rfl
      | true =>
        have : hasO l o.1 o.2.1 = true := List.any_eq_true.2 ⟨x, hx, hh⟩
        rw [h] at this
        cases this
theorem with_with (l : List O3) (hr : risO l) {o q : O3} (h : o.1 = q.1 ∧ o.2.1 = q.2.1) : withO (withO l o) q = withO l q := by
  refine ris_ext (ris_with (ris_with hr _) _) (ris_with hr _) fun x => ?_
  rw [mem_withO, mem_withO, mem_withO]
  have e1 : isO q.1 q.2.1 o = true := isO_iff.2 h
  constructor
  · rintro (rfl | ⟨rfl | ⟨h1, _⟩, h3⟩)
    · exact .inl rfl
    · rw [e1] at h3; cases h3
    · exact .inr ⟨h1, h3⟩
  · rintro (rfl | ⟨h1, h3⟩)
    · exact .inl rfl
    · exact .inr ⟨.inr ⟨h1, by rw [h.1, h.2]; exact h3⟩, h3⟩
theorem len_out {l : List O3} (hr : risO l) {t i : S8} (h : hasO l t i = true) : (outO l t i).length + 1 = l.length := by
  obtain ⟨v, hv⟩ := hasO_iff.1 h
  have e : withO (outO l t i) (t, i, v) = l := by
    refine ris_ext (ris_with (ris_out hr _ _) _) hr fun x => ?_
    rw [mem_withO, mem_outO]
    constructor
    · rintro (rfl | ⟨⟨h1, _⟩, _⟩)
      · exact hv
      · exact h1
    · intro hx
      cases hh : isO t i x with
      | false => exact .inr ⟨⟨hx, rfl⟩, rfl⟩
      | true =>
        obtain ⟨a, b, y⟩ := x
        obtain ⟨rfl, rfl⟩ := isO_iff.1 hh
        rw [ris_one hr hx hv]
        exact .inl rfl
  have h2 : hasO (outO l t i) t i = false := by
    rw [hasO_out]
    simp
  have := len_with_new (o := (t, i, v)) h2
  rw [e] at this
  omega

end Go.Proofs.YtpbipngnoklmcaaGreatDoor
namespace Go.Proofs.YtpbipngnoklmcaaGreatDoor
open Go.RowKit
set_option maxRecDepth 100000

theorem RAt.parts {F : List Nat} {w : World} {v1 v2 v3 : Value} {rs : List R3} {S : WS} (h : RAt F w (.agg #[v1, v2, v3]) rs S) : ∃ ao co af cf at' ct, v1 = .slice ao rs.length co ∧ v2 = .slice af S.fails.length cf ∧ v3 = .slice at' S.trace.length ct ∧
    (Kept F w fun w' => CellsAt w' (.slice ao rs.length co) rs.length (rowC rs)) ∧ (Kept F w fun w' => CellsAt w' (.slice af S.fails.length cf) S.fails.length (failCells S.fails)) ∧
    (Kept F w fun w' => CellsAt w' (.slice at' S.trace.length ct) S.trace.length (callCells S.trace)) := by
  obtain ⟨ao, co, af, cf, at', ct, hm, h1, h2, h3⟩ := h.form
  injection hm with hm
  injection hm with hm
  injection hm with e1 hm
  injection hm with e2 hm
  injection hm with e3 _
  exact ⟨ao, co, af, cf, at', ct, e1, e2, e3, h1, h2, h3⟩
/-- A world of other objects and another trace. -/
theorem RAt.both {F : List Nat} {w w' : World} {v1 v2 v3 : Value} {rs rs' : List R3} {S : WS} {os' : List O3} {ts' : List T5} {a1 : Option Addr} {c1 : Nat} {a3 : Option Addr} {c3 : Nat} (h : RAt F w (.agg #[v1, v2, v3]) rs S) (hb : Below w.heap.size w w')
    (h1 : Kept F w' fun W => CellsAt W (.slice a1 rs'.length c1) rs'.length (rowC rs')) (h3 : Kept F w' fun W => CellsAt W (.slice a3 ts'.length c3) ts'.length (callCells ts'))
    (hm : ∀ r ∈ rs', r ∈ rs ∨ Kept F w' fun W => ValAt W r.1.2.2 (rV r)) (ho : osR rs' = os') (hf : fitO os') (hr : risO os') : RAt F w' (.agg #[.slice a1 rs'.length c1, v2, .slice a3 ts'.length c3]) rs' ⟨os', S.fails, ts'⟩ := by
  obtain ⟨ao, co, af, cf, at', ct, rfl, rfl, rfl, k1, k2, k3⟩ := h.parts
  exact ⟨⟨a1, c1, af, cf, a3, c3, rfl, h1, k2.below hb, h3⟩, fun r hr => (hm r hr).elim (fun e => (h.vals r e).below hb) id, ho, hf, hr⟩
/-- The same objects, another trace. -/
theorem RAt.told {F : List Nat} {w w' : World} {v1 v2 v3 : Value} {rs : List R3} {S : WS} {ts' : List T5} {a3 : Option Addr} {c3 : Nat} (h : RAt F w (.agg #[v1, v2, v3]) rs S) (hb : Below w.heap.size w w')
    (h3 : Kept F w' fun W => CellsAt W (.slice a3 ts'.length c3) ts'.length (callCells ts')) : RAt F w' (.agg #[v1, v2, .slice a3 ts'.length c3]) rs ⟨S.objs, S.fails, ts'⟩ := by
  have h0 := h
  obtain ⟨ao, co, af, cf, at', ct, rfl, rfl, rfl, k1, k2, k3⟩ := h.parts
  exact h0.both hb (k1.below hb) h3 (fun r hr => .inl hr) h.os h.fit h.ris
/-- Other objects, the same trace. -/
theorem RAt.held {F : List Nat} {w w' : World} {v1 v2 v3 : Value} {rs rs' : List R3} {S : WS} {os' : List O3} {a1 : Option Addr} {c1 : Nat} (h : RAt F w (.agg #[v1, v2, v3]) rs S) (hb : Below w.heap.size w w')
    (h1 : Kept F w' fun W => CellsAt W (.slice a1 rs'.length c1) rs'.length (rowC rs'))
    (hm : ∀ r ∈ rs', r ∈ rs ∨ Kept F w' fun W => ValAt W r.1.2.2 (rV r)) (ho : osR rs' = os') (hf : fitO os') (hr : risO os') : RAt F w' (.agg #[.slice a1 rs'.length c1, v2, v3]) rs' ⟨os', S.fails, S.trace⟩ := by
  have h0 := h
  obtain ⟨ao, co, af, cf, at', ct, rfl, rfl, rfl, k1, k2, k3⟩ := h.parts
  exact h0.both hb h1 (k3.below hb) hm ho hf hr

/-- Two boxes of three cells: what the world is, and what is answered. -/
structure Box2 (g h : Nat) (x y : Array Value) (T : TypeId) (w : World) : Prop where
  one : w.heap[g]? = some (.cells x T (0, 0))
  two : w.heap[h]? = some (.cells y T (0, 0))
theorem Box2.made (w : World) (x y : Array Value) (T : TypeId) : Box2 w.heap.size (w.heap.size + 1) x y T ((w.alloc (.cells x T)).alloc (.cells y T)) := by
  have s : (w.alloc (.cells x T)).heap.size = w.heap.size + 1 := by simp only [World.alloc, Array.size_push]
  refine ⟨(Below.heap_alloc _ _ _ (by rw [s]; omega)).trans (heap_alloc_new _ _), ?_⟩
  have := heap_alloc_new (w.alloc (.cells x T)) (.cells y T)
  rw [s] at this
  exact this
theorem Box2.made_below (w : World) (x y : Array Value) (T : TypeId) : Below w.heap.size w ((w.alloc (.cells x T)).alloc (.cells y T)) := ((Below.refl _ w).alloc (Nat.le_refl _) _).alloc (by simp only [World.alloc, Array.size_push]; omega) _
theorem Box2.below {g h : Nat} {x y : Array Value} {T : TypeId} {w w' : World} (k : Box2 g h x y T w) (hb : Below w.heap.size w w') : Box2 g h x y T w' := ⟨(hb.block _ (heap_lt k.one)).trans k.one, (hb.block _ (heap_lt k.two)).trans k.two⟩
theorem Box2.set {g h : Nat} {x y : Array Value} {T : TypeId} {w : World} (k : Box2 g h x y T w) (hne : h ≠ g) (o : Nat) (u : Value) : Box2 g h (x.setIfInBounds o u) y T (w.setCell ⟨g, o, none⟩ u) := ⟨setC k.one o u, (Below.heap_setCell _ _ _ _ hne).trans k.two⟩
theorem Box2.cells {g h : Nat} {x0 x1 x2 y0 y1 y2 : Value} {T : TypeId} {w : World} (k : Box2 g h #[x0, x1, x2] #[y0, y1, y2] T w) :
    w.cell? ⟨g, 0, none⟩ = some x0 ∧ w.cell? ⟨g, 1, none⟩ = some x1 ∧ w.cell? ⟨g, 2, none⟩ = some x2 ∧ w.frozen? ⟨g, 0, none⟩ = false ∧
    w.cell? ⟨h, 0, none⟩ = some y0 ∧ w.cell? ⟨h, 1, none⟩ = some y1 ∧ w.cell? ⟨h, 2, none⟩ = some y2 ∧ w.frozen? ⟨h, 0, none⟩ = false ∧ w.frozen? ⟨h, 1, none⟩ = false ∧ w.frozen? ⟨h, 2, none⟩ = false := by
  obtain ⟨a0, a1, a2⟩ := box3 k.one
  obtain ⟨b0, b1, b2⟩ := box3 k.two
  exact ⟨a0, a1, a2, Lib.frozen_of_heap k.one 0, b0, b1, b2, Lib.frozen_of_heap k.two 0, Lib.frozen_of_heap k.two 1, Lib.frozen_of_heap k.two 2⟩
theorem put3_spares (w : World) (h : Nat) (x0 x1 x2 : Value) : Spares [h] w (((w.setCell ⟨h, 0, none⟩ x0).setCell ⟨h, 1, none⟩ x1).setCell ⟨h, 2, none⟩ x2) :=
  ((setC_spares w h 0 x0).trans (setC_spares _ h 1 x1)).trans (setC_spares _ h 2 x2)
theorem box_three (w : World) (x z y : Array Value) (T U : TypeId) : Box2 w.heap.size (w.heap.size + 2) x y T (((w.alloc (.cells x T)).alloc (.cells z U)).alloc (.cells y T)) ∧ (((w.alloc (.cells x T)).alloc (.cells z U)).alloc (.cells y T)).heap[w.heap.size + 1]? = some (.cells z U (0, 0)) ∧ Below w.heap.size w (((w.alloc (.cells x T)).alloc (.cells z U)).alloc (.cells y T)) := by
  have s1 : (w.alloc (.cells x T)).heap.size = w.heap.size + 1 := by simp only [World.alloc, Array.size_push]
  have s2 : ((w.alloc (.cells x T)).alloc (.cells z U)).heap.size = w.heap.size + 2 := by simp only [World.alloc, Array.size_push]
  have n1 := heap_alloc_new w (.cells x T)
  have n2 := heap_alloc_new (w.alloc (.cells x T)) (.cells z U)
  have n3 := heap_alloc_new ((w.alloc (.cells x T)).alloc (.cells z U)) (.cells y T)
  rw [s1] at n2
  rw [s2] at n3
  refine ⟨⟨?_, n3⟩, ?_, (((Below.refl _ w).alloc (Nat.le_refl _) _).alloc (by rw [s1]; omega) _).alloc (by rw [s2]; omega) _⟩
  · exact (Below.heap_alloc _ _ _ (by rw [s2]; omega)).trans ((Below.heap_alloc _ _ _ (by rw [s1]; omega)).trans n1)
  · exact (Below.heap_alloc _ _ _ (by rw [s2]; omega)).trans n2
/-- A row that lies away from the boxes. -/
theorem row_away {F : List Nat} {w w' : World} {base e size n : Nat} {v : Value} {xs : List Value} (h : w.ownsRow base e size v n xs) (hs : Spares F w w') (hF : ∀ q ∈ F, q < base) : w'.ownsRow base e size v n xs := row_keep h fun q hq => by
  obtain ⟨_, hh⟩ := row_block h hq
  exact hs.block q (heap_lt hh) fun hm => by have := hF q hm; have := (h.lt q hq).1; omega

end Go.Proofs.YtpbipngnoklmcaaGreatDoor
