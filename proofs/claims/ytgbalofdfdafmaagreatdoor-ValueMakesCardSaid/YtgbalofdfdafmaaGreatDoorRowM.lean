/- Slices of texts and of values that came in read as lists. No condition. -/
import Derived.Test.YtgbalofdfdafmaaGreatDoorRowV
namespace Go.Proofs.YtgbalofdfdafmaaGreatDoor
open Go.ChangeShapes Go.WideShapes Go.ChangeAt Go.RowKit
set_option maxRecDepth 100000
section
variable {H : Type} {enc : TypeId × Value → H} {W : World}

theorem vals_of_trod {n : Nat} {c3 : Value} {y3 : DataW H × List MemPlace} (h3 : DataW.trod enc Tryz.prog W 0 (fun _ => true) true n 23 [c3] = some y3) : ∃ (ts : List VT) (vs : Nat → Value), RowAt W c3 ts.length vs ∧ ValsAt W ts vs := by
  rcases DataW.trod_slice Tryz.underlying23 h3 with ⟨hcs, _⟩ | ⟨a, len, cap, elems, rest, p, hp, hcs, _, _, hlc, hm, hel, hx, _⟩
  · obtain rfl : c3 = .slice none 0 0 := by simpa using hcs
    exact ⟨[], fun _ => .bool false, RowAt.nil W _, by rw [ValsAt]; trivial⟩
  · obtain rfl : c3 = .slice (some a) len cap := by simpa using hcs
    have each : ∀ i, i < len → ∃ q : VT × Value, (∃ c0 c1 c2 c3 c4, q.2 = .agg #[c0, c1, c2, c3, c4] ∧ W.cell? (a.add (i * 5)) = some c0 ∧ W.cell? ((a.add (i * 5)).add 1) = some c1 ∧ W.cell? ((a.add (i * 5)).add 2) = some c2 ∧ W.cell? ((a.add (i * 5)).add 3) = some c3 ∧ W.cell? ((a.add (i * 5)).add 4) = some c4) ∧ ValAt W q.1 q.2 := fun i hi => by
      have hxi := hx i hi
      rw [List.getElem?_eq_getElem (by omega)] at hxi
      obtain ⟨cs', g1, g2⟩ := Option.bind_eq_some_iff.1 hxi
      obtain ⟨d0, d1, d2, d3, d4, t, rfl, ht⟩ := val_of_trod p cs' _ g2
      rw [cellsVal] at g1
      obtain ⟨_, _, g3⟩ := World.cells?_some g1
      exact ⟨(t, .agg #[d0, d1, d2, d3, d4]), ⟨d0, d1, d2, d3, d4, rfl, by have := g3 0 (by decide); simpa [Addr.add] using this, by simpa using g3 1 (by decide), by simpa using g3 2 (by decide), by simpa using g3 3 (by decide), by simpa using g3 4 (by decide)⟩, ht⟩
    obtain ⟨f, hf2⟩ := Deep.choose_lt each
    refine ⟨(List.range len).map fun i => (f i).1, fun i => (f i).2, ?_, ?_⟩
    · rw [List.length_map, List.length_range]
      refine ⟨some a, cap, rfl, ⟨hlc, by unfold maxLen at hm; omega, fun e => by cases e⟩, fun hne => ?_⟩
      obtain ⟨⟨c0, _, _, _, _, _, g0, _⟩, _⟩ := hf2 0 (by omega)
      have ea := addr_plain (by simpa [Addr.add] using g0 : W.cell? a = some _)
      refine ⟨a.block, a.off, by rw [ea], World.block_lt_of_cell? W a (by simpa [Addr.add] using g0), fun i hi => ?_⟩
      obtain ⟨⟨d0, d1, d2, d3, d4, e, g0, g1, g2, g3, g4⟩, _⟩ := hf2 i hi
      rw [ea, Addr.add_lit] at g0 g1 g2 g3 g4
      rw [Addr.add_lit] at g1 g2 g3 g4
      exact ⟨d0, d1, d2, d3, d4, e, g0, g1, g2, g3, g4⟩
    · rw [ValsAt_iff]
      intro i hi
      have hi' : i < len := by simpa using hi
      simpa using (hf2 i hi').2
theorem open_strs {b0 : Nat} {v : Value} {d : DataW H} {ps : List MemPlace} (hval : Value.okWide Tryz.prog W .any b0 24 v) (h : DataW.Trod enc Tryz.prog W 0 (fun _ => true) true 24 v d ps) : ∃ ks, StrsAt W v ks := by
  obtain ⟨a0, len, cap, rfl⟩ := okWide_slice Tryz.underlying24 hval
  obtain ⟨fuel, hf⟩ := h
  exact strs_of_trod (c := .slice a0 len cap) hf
theorem open_vals {b0 : Nat} {v : Value} {d : DataW H} {ps : List MemPlace} (hval : Value.okWide Tryz.prog W .any b0 23 v) (h : DataW.Trod enc Tryz.prog W 0 (fun _ => true) true 23 v d ps) : ∃ (ts : List VT) (vs : Nat → Value), RowAt W v ts.length vs ∧ ValsAt W ts vs := by
  obtain ⟨a0, len, cap, rfl⟩ := okWide_slice Tryz.underlying23 hval
  obtain ⟨fuel, hf⟩ := h
  exact vals_of_trod (c3 := .slice a0 len cap) hf
end

end Go.Proofs.YtgbalofdfdafmaaGreatDoor
