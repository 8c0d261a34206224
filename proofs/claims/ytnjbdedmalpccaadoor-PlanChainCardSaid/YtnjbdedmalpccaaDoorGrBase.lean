/- Predicates on memory for the walks of this seat: slices of ints and of pairs of ints, read in a world. No condition. -/
import Derived.Test.YtnjbdedmalpccaaDoorProg
import Derived.WalkKit
import Derived.WalkSpells
import Derived.WalkLawsBesides
import Derived.BigQuiet
import Derived.Deep.QuietTactic
import Derived.Lib.Hide
import Derived.Laws.StructEq
import Derived.StillTailTactics
namespace Go.Proofs.YtnjbdedmalpccaaDoor
open Go.RowKit

/-- v is a slice (perhaps nil) of ints xs. -/
def IntsAt (w : World) (v : Value) (xs : List Int) : Prop :=
  ∃ (ao : Option Addr) (cap : Nat), v = .slice ao xs.length cap ∧ xs.length ≤ 17592186044416 ∧ (xs.length ≤ cap ∧ cap ≤ 9223372036854775807 ∧ (ao = none → cap = 0)) ∧
    (xs ≠ [] → ∃ b off, ao = some ⟨b, off, none⟩ ∧ b < w.heap.size ∧ ∀ i, i < xs.length → w.cell? ⟨b, off + i, none⟩ = some (.int .i64 (xs.getD i 0)))

/-- v is a slice (perhaps nil) of pairs of ints. -/
def PairsAt (w : World) (v : Value) (es : List (Int × Int)) : Prop :=
  ∃ (ao : Option Addr) (cap : Nat), v = .slice ao es.length cap ∧ es.length ≤ 17592186044416 ∧ (es.length ≤ cap ∧ cap ≤ 9223372036854775807 ∧ (ao = none → cap = 0)) ∧
    (es ≠ [] → ∃ b off, ao = some ⟨b, off, none⟩ ∧ b < w.heap.size ∧
      ∀ i, i < es.length → w.cell? ⟨b, off + i * 2, none⟩ = some (.int .i64 (es.getD i (0, 0)).1) ∧ w.cell? ⟨b, off + i * 2 + 1, none⟩ = some (.int .i64 (es.getD i (0, 0)).2))

theorem IntsAt.mono {w w' : World} {v : Value} {xs : List Int} (h : IntsAt w v xs) (hb : Below w.heap.size w w') : IntsAt w' v xs := by
  obtain ⟨ao, cap, hv, hl, hm, hc⟩ := h
  refine ⟨ao, cap, hv, hl, hm, fun hne => ?_⟩
  obtain ⟨b, off, ha, hlt, hcell⟩ := hc hne
  exact ⟨b, off, ha, Nat.lt_of_lt_of_le hlt hb.size, fun i hi => (hb.cell (p := ⟨b, off + i, none⟩) hlt).trans (hcell i hi)⟩

theorem PairsAt.mono {w w' : World} {v : Value} {es : List (Int × Int)} (h : PairsAt w v es) (hb : Below w.heap.size w w') : PairsAt w' v es := by
  obtain ⟨ao, cap, hv, hl, hm, hc⟩ := h
  refine ⟨ao, cap, hv, hl, hm, fun hne => ?_⟩
  obtain ⟨b, off, ha, hlt, hcell⟩ := hc hne
  exact ⟨b, off, ha, Nat.lt_of_lt_of_le hlt hb.size, fun i hi => ⟨(hb.cell (p := ⟨b, off + i * 2, none⟩) hlt).trans (hcell i hi).1, (hb.cell (p := ⟨b, off + i * 2 + 1, none⟩) hlt).trans (hcell i hi).2⟩⟩

/-- A slice of ints reads on where its block stays. -/
theorem IntsAt.keep {w w' : World} {v : Value} {xs : List Int} (h : IntsAt w v xs) (hs : w.heap.size ≤ w'.heap.size) (hk : ∀ k, v.ownBlock = some k → k < w.heap.size → w'.heap[k]? = w.heap[k]?) : IntsAt w' v xs := by
  obtain ⟨ao, cap, hv, hl, hm, hc⟩ := h
  refine ⟨ao, cap, hv, hl, hm, fun hne => ?_⟩
  obtain ⟨b, off, ha, hlt, hcell⟩ := hc hne
  refine ⟨b, off, ha, Nat.lt_of_lt_of_le hlt hs, fun i hi => ?_⟩
  rw [World.cell?_of_block (w := w) (a := ⟨b, off + i, none⟩) (hk b (by rw [hv, ha]; rfl) hlt)]
  exact hcell i hi

theorem IntsAt.get {w : World} {ao : Option Addr} {n cap : Nat} {xs : List Int} (h : IntsAt w (.slice ao n cap) xs) {i : Nat} (hi : i < xs.length) : ∃ b off, ao = some ⟨b, off, none⟩ ∧ b < w.heap.size ∧ w.cell? ⟨b, off + i, none⟩ = some (.int .i64 (xs.getD i 0)) := by
  obtain ⟨ao', cap', hv, hl, hm, hc⟩ := h
  cases hv
  obtain ⟨b, off, ha, hb, hcell⟩ := hc (by intro e; simp [e] at hi)
  exact ⟨b, off, ha, hb, hcell i hi⟩
theorem IntsAt.val {w : World} {v : Value} {xs : List Int} (h : IntsAt w v xs) : ∃ ao cap, v = .slice ao xs.length cap ∧ xs.length ≤ 17592186044416 ∧ xs.length ≤ cap := by
  obtain ⟨ao, cap, hv, hl, hm, _⟩ := h
  exact ⟨ao, cap, hv, hl, hm.1⟩

theorem IntsAt.nil (w : World) : IntsAt w (.slice none 0 0) [] := ⟨none, 0, rfl, by simp, by simp, fun h => absurd rfl h⟩
theorem PairsAt.nil (w : World) : PairsAt w (.slice none 0 0) [] := ⟨none, 0, rfl, by simp, by simp, fun h => absurd rfl h⟩

/-- Two steps of growth: each keeps all that was there. -/
theorem Below.then {a b c : World} (h : Below a.heap.size a b) (k : Below b.heap.size b c) : Below a.heap.size a c := h.trans (k.mono h.size)

theorem ret_bool {a b : Bool} (h : a = b) : Ending.returned (.bool a) = .returned (.bool b) := by rw [h]
theorem ret_int {a b : Int} (h : a = b) : Ending.returned (.int .i64 a) = .returned (.int .i64 b) := by rw [h]

theorem take_next {α : Type} (xs : List α) (k : Nat) (d : α) (h : k < xs.length) : xs.take (k + 1) = xs.take k ++ [xs.getD k d] := by
  rw [List.take_add_one]; simp [List.getD, h]

/-- The length of a slice value: for a loop's measure. -/
def lenOf : Value → Nat
  | .slice _ n _ => n
  | _ => 0

/-- A full row of the call's own is its block. -/
theorem ownsRow_block {w : World} {base e size g n : Nat} {xs : List Value} (h : w.ownsRow base e size (.slice (some ⟨g, 0, none⟩) n n) n xs) : w.heap[g]? = some (.cells xs.toArray e (0, 0)) := by
  obtain ⟨_, h2⟩ := h
  rcases h2 with ⟨h0, _⟩ | ⟨g', cap, cur, hv, _, hh, _, _, hs, ht⟩
  · cases h0
  · cases hv
    rw [hh]
    congr 2
    rw [← ht, ← hs, ← Array.length_toList, List.take_length]

/-- What the call owns reads as ints. -/
theorem ints_of_own {w : World} {base e : Nat} {v : Value} {xs : List Int} (h : w.ownsRow base e 1 v xs.length (xs.map (Value.int .i64))) (hl : xs.length ≤ 17592186044416) : IntsAt w v xs := by
  obtain ⟨_, h2⟩ := h
  rcases h2 with ⟨rfl, h0⟩ | ⟨g, cap, cur, rfl, _, hh, hn, hcap, hs, ht⟩
  · have : xs = [] := List.eq_nil_of_length_eq_zero h0
    subst this
    exact IntsAt.nil w
  · refine ⟨_, cap, rfl, hl, ⟨hn, by unfold maxLen at hcap; omega, fun e => by cases e⟩, fun _ => ⟨g, 0, rfl, (Array.getElem?_eq_some_iff.1 hh).1, fun i hi => ?_⟩⟩
    rw [Nat.zero_add, cell_of_row w g i cur e (0, 0) hh]
    have h3 : (cur.toList.take (xs.length * 1))[i]? = (xs.map (Value.int .i64))[i]? := by rw [ht]
    rw [List.getElem?_take, if_pos (by omega)] at h3
    simpa [List.getD, hi] using h3

theorem pairs_of_own {w : World} {base e : Nat} {v : Value} {es : List (Int × Int)} (h : w.ownsRow base e 2 v es.length (es.flatMap fun p => [Value.int .i64 p.1, Value.int .i64 p.2])) (hl : es.length ≤ 17592186044416) : PairsAt w v es := by
  obtain ⟨_, h2⟩ := h
  rcases h2 with ⟨rfl, h0⟩ | ⟨g, cap, cur, rfl, _, hh, hn, hcap, hs, ht⟩
  · have : es = [] := List.eq_nil_of_length_eq_zero h0
    subst this
    exact PairsAt.nil w
  · have key : ∀ (l : List (Int × Int)) (i : Nat), i < l.length → (l.flatMap fun p => [Value.int .i64 p.1, Value.int .i64 p.2])[i * 2]? = some (.int .i64 (l.getD i (0, 0)).1) ∧ (l.flatMap fun p => [Value.int .i64 p.1, Value.int .i64 p.2])[i * 2 + 1]? = some (.int .i64 (l.getD i (0, 0)).2) := by
      intro l
      induction l with
      | nil => intro i hi; simp at hi
      | cons p l ih =>
        intro i hi
        cases i with
        | zero => simp
        | succ i =>
          have := ih i (by simpa using hi)
          have e1 : (i + 1) * 2 = i * 2 + 1 + 1 := by omega
          simp only [e1, List.flatMap_cons, List.cons_append, List.nil_append, List.getElem?_cons_succ, List.getD_cons_succ]
          exact this
    refine ⟨_, cap, rfl, hl, ⟨hn, by unfold maxLen at hcap; omega, fun e => by cases e⟩, fun _ => ⟨g, 0, rfl, (Array.getElem?_eq_some_iff.1 hh).1, fun i hi => ?_⟩⟩
    rw [Nat.zero_add, cell_of_row w g _ cur e (0, 0) hh, cell_of_row w g _ cur e (0, 0) hh]
    have h3 : ∀ j : Nat, (cur.toList.take (es.length * 2))[j]? = (es.flatMap fun p => [Value.int .i64 p.1, Value.int .i64 p.2])[j]? := by rw [ht]; exact fun _ => rfl
    have k := key es i hi
    constructor
    · have := h3 (i * 2)
      rw [List.getElem?_take, if_pos (by omega)] at this
      rw [k.1] at this
      simpa using this
    · have := h3 (i * 2 + 1)
      rw [List.getElem?_take, if_pos (by omega)] at this
      rw [k.2] at this
      simpa using this

/-- A region that draws its order, all but its last operations being still: the draw under its own name. -/
theorem still_drew {P : Program} {id : Nat} {Q : Exit → Act → World → Prop} {a : Act} {w : World} {l : List Oper} (n : Nat) (hm : P.follows .mixedOrders = true) (hB : Region.lexTailB .any l.toArray n = true)
    (h : wpStill P l.toArray w.drew (fun a' => wpList P l.toArray Q (l.drop n) a' w.drew) (l.take n) a) : (Code.region id l.toArray true).wp P Q a w := wp_region_still_tail n hm hB h

theorem Tryd.info3 : (Tryd.prog.info? 3).map (fun i => (i.zero, i.size, i.bytes)) = some (some (.int .i64 0), 1, 8) := by kernel_rfl

/- The comparing of two pairs. -/
theorem size3 (w : World) : (sizeOf 3).run Tryd.prog w = .ok 1 w := by kernel_rfl
theorem part3_0 (a b : Value) (w : World) : (part 3 #[a, b] 0).run Tryd.prog w = .ok a w := by kernel_rfl
theorem part3_1 (a b : Value) (w : World) : (part 3 #[a, b] 1).run Tryd.prog w = .ok b w := by kernel_rfl
@[go_sem] theorem run_equalIn_pair (d : Nat) (x x' y y' : Int) (w : World) :
    (Op.equalIn (d + 1 + 1) 56 (.agg #[.int .i64 x, .int .i64 x']) (.agg #[.int .i64 y, .int .i64 y'])).run Tryd.prog w = .ok (x == y && x' == y') w := by
  have h : ∀ w a b, (Op.equalIn (d + 1) 3 (.int .i64 a) (.int .i64 b)).run Tryd.prog w = .ok (a == b) w := fun w a b => run_equalIn_int w d 3 .i64 .i64 a b Tryd.underlying3
  generalize d + 1 = d' at h ⊢
  simp only [Op.equalIn, Sem.run_bind, run_underlying Tryd.underlying56, Result.andThen_ok, size3]
  simp only [Std.Legacy.Range.forIn_eq_forIn_range', Std.Legacy.Range.size]
  simp [List.range', h, part3_0, part3_1]
  by_cases e : x = y <;> by_cases e' : x' = y' <;> simp [e, e']

end Go.Proofs.YtnjbdedmalpccaaDoor
