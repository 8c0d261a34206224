/- The memory of the program's order under way: the counts, the sets of what is behind each node, the heap, what is in order. -/
import Derived.Test.YtnjbdedmalpccaaDoorGrH3
import Derived.Test.YtnjbdedmalpccaaDoorGrS3
import Derived.Test.YtnjbdedmalpccaaDoorGrS2
namespace Go.Proofs.YtnjbdedmalpccaaDoor
open Go.RowKit

/-- A row of ints of the call's own. -/
def OwnInts (w : World) (b : Nat) (xs : List Int) : Prop := w.heap[b]? = some (.cells (xs.map (Value.int .i64)).toArray 3 (0, 0))
theorem OwnInts.lt {w : World} {b : Nat} {xs : List Int} (h : OwnInts w b xs) : b < w.heap.size := (Array.getElem?_eq_some_iff.1 h).1
theorem OwnInts.cell {w : World} {b : Nat} {xs : List Int} (h : OwnInts w b xs) {i : Nat} (hi : i < xs.length) : w.cell? ⟨b, i, none⟩ = some (.int .i64 (xs.getD i 0)) := by
  simp [World.cell?, show w.heap[b]? = _ from h, List.getD, hi]
theorem OwnInts.free {w : World} {b : Nat} {xs : List Int} (h : OwnInts w b xs) (i : Nat) : w.frozen? ⟨b, i, none⟩ = false := by
  simp [World.frozen?, show w.heap[b]? = _ from h]
theorem OwnInts.set {w : World} {b : Nat} {xs : List Int} (h : OwnInts w b xs) (i : Nat) (x : Int) : OwnInts (w.setCell ⟨b, i, none⟩ (.int .i64 x)) b (xs.set i x) := by
  unfold OwnInts at h ⊢
  simp [World.setCell, Array.getElem?_modify, h, List.map_set]
theorem OwnInts.kept {w w' : World} {b : Nat} {xs : List Int} (h : OwnInts w b xs) (hk : w'.heap[b]? = w.heap[b]?) : OwnInts w' b xs := hk.trans h
theorem OwnInts.at {w : World} {b : Nat} {xs : List Int} (h : OwnInts w b xs) (hl : xs.length ≤ 17592186044416) : IntsAt w (.slice (some ⟨b, 0, none⟩) xs.length xs.length) xs :=
  ⟨_, _, rfl, hl, ⟨Nat.le_refl _, by omega, fun e => by cases e⟩, fun _ => ⟨b, 0, rfl, h.lt, fun i hi => by rw [Nat.zero_add]; exact h.cell hi⟩⟩

theorem made_ints (n : Nat) : (madeCells #[Value.int .i64 0] n).toList = (List.replicate n (0 : Int)).map (Value.int .i64) := by
  simp [madeCells, Nat.mod_one, List.map_const']

/-- The counts of all nodes. -/
def cnts (n : Nat) (f : Nat → Nat) : List Int := (List.range n).map fun k => (f k : Int)
theorem cnts_len (n : Nat) (f : Nat → Nat) : (cnts n f).length = n := by simp [cnts]
theorem cnts_get (n : Nat) (f : Nat → Nat) (k : Nat) (h : k < n) : (cnts n f).getD k 0 = (f k : Int) := by simp [cnts, List.getD, h]
theorem cnts_congr (n : Nat) (f g : Nat → Nat) (h : ∀ k, k < n → f k = g k) : cnts n f = cnts n g := by
  unfold cnts
  apply List.map_congr_left
  intro k hk
  simp only [List.mem_range] at hk
  rw [h k hk]
theorem cnts_set (n : Nat) (f : Nat → Nat) (k x : Nat) : (cnts n f).set k (x : Int) = cnts n (fun j => if j = k then x else f j) := by
  apply List.ext_getElem
  · simp [cnts]
  · intro j h1 h2
    have hj : j < n := by simpa [cnts] using h2
    rw [List.getElem_set]
    by_cases e : k = j
    · subst e; simp [cnts]
    · have e2 : ¬ j = k := fun e' => e e'.symm
      simp [cnts, e, e2]

structure OMem (w wr : World) (A N n : Nat) (es : List (Int × Int)) (ah : List Int) : Prop where
  tab : Tab wr
  old : Below w.heap.size w wr
  ah : OwnInts wr A ah
  nx : WRow wr N 88 n (fun k j => wd (succS es k) j)
  ge : w.heap.size ≤ A
  lt : A < N

theorem OMem.below {w wr w' : World} {A N n : Nat} {es : List (Int × Int)} {ah : List Int} (h : OMem w wr A N n es ah) (hb : Below wr.heap.size wr w') : OMem w w' A N n es ah :=
  ⟨h.tab.mono hb, h.old.trans (hb.mono h.old.size), h.ah.kept (hb.block A h.ah.lt), h.nx.kept (hb.block N h.nx.lt), h.ge, h.lt⟩
theorem OMem.set {w wr : World} {A N n : Nat} {es : List (Int × Int)} {ah : List Int} (h : OMem w wr A N n es ah) (ht : 0 < w.heap.size) (i : Nat) (x : Int) : OMem w (wr.setCell ⟨A, i, none⟩ (.int .i64 x)) A N n es (ah.set i x) := by
  refine ⟨⟨by simp [World.setCell]; exact h.tab.1, fun k hk => ?_⟩, h.old.setCell h.ge _, h.ah.set i x, h.nx.kept (Below.heap_setCell _ _ _ _ (Nat.ne_of_gt h.lt)), h.ge, h.lt⟩
  have hA : (0 : Nat) ≠ A := by have := h.ge; omega
  rw [World.cell?_of_block (w := wr) (a := ⟨0, k, none⟩) (Below.heap_setCell _ _ _ _ hA)]
  exact h.tab.2 k hk

/-- The same with the heap of free nodes, and what is in order. -/
structure PMem (w wr : World) (A N hb n : Nat) (es : List (Int × Int)) (ah : List Int) (g cap : Nat) (xs : List Int) (v : Value) (o : List Nat) : Prop where
  m : OMem w wr A N n es ah
  hp : HeapAt wr hb g cap xs
  heap : HeapN xs xs.length
  out : wr.ownsRow (hb + 1) 3 1 v o.length (o.map fun k : Nat => Value.int .i64 k)
  ne : v.ownBlock ≠ some g
  lt : N < hb
  lg : N < g

theorem PMem.below {w wr w' : World} {A N hb n : Nat} {es : List (Int × Int)} {ah : List Int} {g cap : Nat} {xs : List Int} {v : Value} {o : List Nat} (h : PMem w wr A N hb n es ah g cap xs v o) (k : Below wr.heap.size wr w') :
    PMem w w' A N hb n es ah g cap xs v o := by
  obtain ⟨h1, cur, h2, _⟩ := h.hp
  have l1 : hb < wr.heap.size := (Array.getElem?_eq_some_iff.1 h1).1
  have l2 : g < wr.heap.size := (Array.getElem?_eq_some_iff.1 h2).1
  exact ⟨h.m.below k, h.hp.kept (k.block hb l1) (k.block g l2), h.heap,
    h.out.kept (row := none) ⟨k.os, k.tape, k.output, k.size, fun i hi _ => k.block i hi⟩ (by cases v.ownBlock <;> simp), h.ne, h.lt, h.lg⟩
theorem PMem.set {w wr : World} {A N hb n : Nat} {es : List (Int × Int)} {ah : List Int} {g cap : Nat} {xs : List Int} {v : Value} {o : List Nat} (h : PMem w wr A N hb n es ah g cap xs v o) (ht : 0 < w.heap.size) (i : Nat) (x : Int) :
    PMem w (wr.setCell ⟨A, i, none⟩ (.int .i64 x)) A N hb n es (ah.set i x) g cap xs v o := by
  have hA := h.m.lt
  have := h.lt
  have := h.lg
  exact ⟨h.m.set ht i x, h.hp.kept (Below.heap_setCell _ _ _ _ (show hb ≠ A by omega)) (Below.heap_setCell _ _ _ _ (show g ≠ A by omega)), h.heap,
    ownsRow_setCell_below h.out (a := ⟨A, i, none⟩) (show A < hb + 1 by omega) _, h.ne, h.lt, h.lg⟩
theorem OMem.but {w wr w' : World} {A N n hb g : Nat} {es : List (Int × Int)} {ah : List Int} (h : OMem w wr A N n es ah) (k : But2 hb g wr w') (h1 : N < hb) (h2 : N < g) : OMem w w' A N n es ah := by
  have := h.lt
  have := h.ge
  have hA := h.ah.lt
  have hN := h.nx.lt
  refine ⟨⟨Nat.lt_of_lt_of_le h.tab.1 k.size, fun j hj => ?_⟩, h.old.trans ⟨k.os, k.tape, k.output, k.size, fun i hi => k.block i (by omega) (by omega) (by omega)⟩, h.ah.kept (k.block A hA (by omega) (by omega)), h.nx.kept (k.block N hN (by omega) (by omega)), h.ge, h.lt⟩
  rw [World.cell?_of_block (w := wr) (a := ⟨0, j, none⟩) (k.block 0 h.tab.1 (by omega) (by omega))]
  exact h.tab.2 j hj
theorem PMem.push {w wr w' : World} {A N hb n : Nat} {es : List (Int × Int)} {ah : List Int} {g cap : Nat} {xs : List Int} {v : Value} {o : List Nat} (h : PMem w wr A N hb n es ah g cap xs v o)
    {g' cap' : Nat} {xs' : List Int} (h1 : HeapAt w' hb g' cap' xs') (h2 : HeapN xs' xs'.length) (hg : g' = g ∨ wr.heap.size ≤ g') (k : But2 hb g wr w') : PMem w w' A N hb n es ah g' cap' xs' v o := by
  have hN := h.m.nx.lt
  have hlg := h.lg
  refine ⟨h.m.but k h.lt h.lg, h1, h2, ?_, ?_, h.lt, by rcases hg with e | e <;> omega⟩
  · refine ⟨h.out.1, ?_⟩
    rcases h.out.2 with e | ⟨b, c, cur, e, eb, eh, r⟩
    · exact .inl e
    · have hbl : b < wr.heap.size := (Array.getElem?_eq_some_iff.1 eh).1
      have hbg : b ≠ g := by intro e2; apply h.ne; rw [e, e2]; rfl
      exact .inr ⟨b, c, cur, e, eb, (k.block b hbl (by omega) hbg).trans eh, r⟩
  · intro e
    have hl := (h.out.lt _ e).2
    rcases hg with e2 | e2
    · rw [e2] at e; exact h.ne e
    · omega
theorem PMem.pop {w wr w' : World} {A N hb n : Nat} {es : List (Int × Int)} {ah : List Int} {g cap : Nat} {xs : List Int} {v : Value} {o : List Nat} (h : PMem w wr A N hb n es ah g cap xs v o)
    {xs' : List Int} (h1 : HeapAt w' hb g cap xs') (h2 : HeapN xs' xs'.length) (k : But2 hb g wr w') : PMem w w' A N hb n es ah g cap xs' v o := h.push h1 h2 (Or.inl rfl) k
/-- An append to what is in order: the row may lie in a new block. -/
theorem PMem.append {w wr w' : World} {A N hb n : Nat} {es : List (Int × Int)} {ah : List Int} {g cap : Nat} {xs : List Int} {v v' : Value} {o : List Nat} {x : Nat} (h : PMem w wr A N hb n es ah g cap xs v o)
    (h1 : w'.ownsRow (hb + 1) 3 1 v' (o.length + 1) ((o.map fun k : Nat => Value.int .i64 k) ++ [.int .i64 x])) (hg : wr.grownBy w' v.ownBlock) (hf : v'.ownBlock = v.ownBlock ∨ ∃ b, v'.ownBlock = some b ∧ wr.heap.size ≤ b) : PMem w w' A N hb n es ah g cap xs v' (o ++ [x]) := by
  have hA := h.m.lt
  have hge := h.m.ge
  have hlt := h.lt
  have hlg := h.lg
  obtain ⟨p1, cur, p2, _⟩ := id h.hp
  have l1 : hb < wr.heap.size := (Array.getElem?_eq_some_iff.1 p1).1
  have l2 : g < wr.heap.size := (Array.getElem?_eq_some_iff.1 p2).1
  have hrow : ∀ k, k ≤ hb → some k ≠ v.ownBlock := fun k hk e => by have := (h.out.lt _ e.symm).1; omega
  have hb0 : Below (hb + 1) wr w' := ⟨hg.os, hg.tape, hg.output, hg.size, fun k hk => hg.block k (by omega) (hrow k (by omega))⟩
  refine ⟨⟨⟨Nat.lt_of_lt_of_le h.m.tab.1 hg.size, fun j hj => (hb0.cell (p := ⟨0, j, none⟩) (show 0 < hb + 1 by omega)).trans (h.m.tab.2 j hj)⟩, h.m.old.trans (hb0.mono (by omega)), h.m.ah.kept (hb0.block A (by omega)), h.m.nx.kept (hb0.block N (by omega)), h.m.ge, h.m.lt⟩,
    h.hp.kept (hb0.block hb (by omega)) (hg.block g l2 (fun e => h.ne e.symm)), h.heap, by simpa using h1, ?_, h.lt, h.lg⟩
  intro e
  rcases hf with e2 | ⟨b, e2, hb2⟩
  · rw [e2] at e; exact h.ne e
  · rw [e2] at e; have := Option.some.inj e; omega

end Go.Proofs.YtnjbdedmalpccaaDoor
