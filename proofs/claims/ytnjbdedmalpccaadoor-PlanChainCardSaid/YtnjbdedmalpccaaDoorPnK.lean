/- Plain: the planner's edges, sorted by the library. Printed by genpnk.py. No walk. -/
import Derived.Test.YtnjbdedmalpccaaDoorPnC
import Derived.Shelf.SlSortCmp.WholeK
import Derived.Shelf.SlSortCmp.NoneTotal
namespace Go.Proofs.YtnjbdedmalpccaaDoor
open Go.RowKit Go.Sort
set_option maxRecDepth 100000

def pairC (p : Int × Int) : List Value := [.int .i64 p.1, .int .i64 p.2]
theorem flat_row (rs : List (Int × Int)) : flatK pairC 2 rs.toArray = (pairCells rs).toArray := by
  refine ext_get! (by simp [pairCells_len]) fun t ht => ?_
  have ht' : t < rs.toArray.size * 2 := by simpa using ht
  rw [get_flatK _ _ _ t ht']
  have hl : t < rs.length * 2 := by simpa using ht'
  have hi : t / 2 < rs.length := by omega
  have hd : rs.toArray[t / 2]! = rs[t / 2] := by simp [hi]
  have h : (pairCells rs)[t / 2 * 2 + t % 2]? = (pairC rs[t / 2])[t % 2]? := flat_get pairC 2 (fun _ => rfl) rs (t / 2) rs[t / 2] (t % 2) (List.getElem?_eq_getElem hi) (by omega)
  rw [show t / 2 * 2 + t % 2 = t by omega] at h
  rw [hd]
  have hl2 : t < (pairCells rs).length := by rw [pairCells_len]; exact hl
  have hl3 : t % 2 < (pairC rs[t / 2]).length := by simp only [pairC, List.length_cons, List.length_nil]; omega
  rw [List.getElem?_eq_getElem hl2, List.getElem?_eq_getElem hl3] at h
  have h := Option.some.inj h
  rw [getElem!_pos (pairC rs[t / 2]) (t % 2) hl3, getElem!_pos (pairCells rs).toArray t (by simpa using hl2)]
  simpa using h.symm
theorem take_put (cur : Array Value) (cs : List Value) (h : cs.length ≤ cur.size) : (putCells id 0 cs.toArray cur).toList.take cs.length = cs := by
  apply List.ext_getElem?
  intro j
  by_cases hj : j < cs.length
  · rw [List.getElem?_take_of_lt hj, Array.getElem?_toList]
    simp [putCells, hj, show j < cur.size by omega]
  · rw [List.getElem?_take_eq_none (by omega), List.getElem?_eq_none (by omega)]
/-- What the sort is told of the row. -/
theorem holds_row {w : World} {base e : Nat} {g cap n : Nat} {rs : List (Int × Int)} (h : w.ownsRow base e 2 (.slice (some ⟨g, 0, none⟩) n cap) rs.length (pairCells rs)) : HoldsK pairC 2 w g 0 rs.toArray := by
  unfold HoldsK
  rw [flat_row]
  rcases h.2 with ⟨h1, _⟩ | ⟨g', c', cur, hv, _, hh, _, _, _, ht⟩
  · cases h1
  · cases hv
    intro j hj
    have hj' : j < (pairCells rs).length := by simpa using hj
    refine ⟨?_, Lib.frozen_of_heap hh _⟩
    have := h.cells rfl j (pairCells rs)[j] (List.getElem?_eq_getElem hj')
    rw [Addr.add_lit] at this
    rw [this]
    simp [hj']
/-- The row behind the sort. -/
theorem row_sorted {w : World} {base e : Nat} {g cap n m : Nat} {os : Array Obj} {rs ts : List (Int × Int)} (h : w.ownsRow base e 2 (.slice (some ⟨g, 0, none⟩) n cap) rs.length (pairCells rs)) (hl : ts.length = rs.length) :
    (Go.Proofs.sortWorldK pairC 2 w g 0 m ts.toArray os).ownsRow base e 2 (.slice (some ⟨g, 0, none⟩) n cap) rs.length (pairCells ts) := by
  rcases h.2 with ⟨h1, _⟩ | ⟨g', c', cur, hv, hb, hh, h3, h4, h5, ht⟩
  · cases h1
  · cases hv
    have hg : g < w.heap.size := heap_lt hh
    refine ⟨by rw [pairCells_len, hl], .inr ⟨g, cap, putCells id 0 (pairCells ts).toArray cur, rfl, hb, ?_, h3, h4, by simp [putCells, h5], ?_⟩⟩
    · unfold Go.Proofs.sortWorldK putRowK
      rw [flat_row, Sort.heap_grow_old _ _ (by simpa using hg)]
      simp [putRow, mapBlock, Sort.ahead, Array.getElem?_modify, hh, onCells]
    · rw [show rs.length * 2 = (pairCells ts).length by rw [pairCells_len, hl]]
      exact take_put cur _ (by rw [pairCells_len, hl, h5]; exact Nat.mul_le_mul_right 2 h3)
theorem sorted_spares {w : World} {g m : Nat} {os : Array Obj} (d : Array (Int × Int)) : OnlyM g w (Go.Proofs.sortWorldK pairC 2 w g 0 m d os) := by
  refine ⟨rfl, rfl, rfl, by simp [Go.Proofs.sortWorldK, putRowK, Sort.grow, putRow, mapBlock, Sort.ahead], fun k hk hn => ?_⟩
  have hne : g ≠ k := fun e => hn e.symm
  unfold Go.Proofs.sortWorldK putRowK
  rw [Sort.heap_grow_old _ _ (by simpa using hk)]
  simp [putRow, mapBlock, Sort.ahead, Array.getElem?_modify, hne]

theorem perm_in {d d' : Array (Int × Int)} (h : PermIn 0 d.size d d') : d'.toList.Perm d.toList := by
  obtain ⟨h1, _, h3⟩ := h
  have e1 : d'.extract 0 d.size = d' := by rw [← h1]; simp
  have e2 : d.extract 0 d.size = d := by simp
  rw [e1, e2] at h3
  exact h3


theorem cmp2_lt (p q : Int × Int) : cmp2 p q < 0 ↔ p.1 < q.1 ∨ (p.1 = q.1 ∧ p.2 < q.2) := by
  unfold cmp2 Lib.compareInt
  by_cases a : p.1 < q.1 <;> by_cases b : q.1 < p.1 <;> by_cases c : p.2 < q.2 <;> by_cases d : q.2 < p.2 <;> simp [a, b, c, d] <;> omega
theorem ltE (p q : Int × Int) : Go.Proofs.ltOf cmp2 p q = decide (p.1 < q.1 ∨ (p.1 = q.1 ∧ p.2 < q.2)) := by
  unfold Go.Proofs.ltOf
  rw [decide_eq_decide]
  exact cmp2_lt p q
theorem swoE : SWO (Go.Proofs.ltOf cmp2) := by
  refine ⟨fun x => ?_, fun x y z h1 h2 => ?_, fun x y z h1 h2 => ?_⟩
  · rw [ltE, decide_eq_false_iff_not]
    omega
  · rw [ltE, decide_eq_true_eq] at *
    omega
  · rw [ltE, decide_eq_false_iff_not] at *
    omega
/-- Sorted, and each once: no two neighbours are alike. -/
theorem apart_sorted {es ts : List (Int × Int)} (hn : es.Nodup) (hp : ts.Perm es) : ∀ i (h : i + 1 < ts.length), ts[i + 1] ≠ ts[i] := by
  have ht := hp.nodup_iff.2 hn
  intro i h e
  exact List.pairwise_iff_getElem.1 ht i (i + 1) (by omega) h (by omega) e.symm

end Go.Proofs.YtnjbdedmalpccaaDoor
