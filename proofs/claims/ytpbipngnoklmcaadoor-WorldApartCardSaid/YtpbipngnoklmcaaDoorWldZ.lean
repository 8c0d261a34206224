/- Plain: a row of objects of the call's own, sorted by the library; values of one's own in another order. No walk. -/
import Derived.Test.YtpbipngnoklmcaaDoorWldY
import Derived.Test.YtpbipngnoklmcaaDoorWldT
import Derived.Shelf.SlSortCmp.WholeK
import Derived.Shelf.SlSortCmp.NoneTotal
namespace Go.Proofs.YtpbipngnoklmcaaDoor
open Go.RowKit Go.Sort
set_option maxRecDepth 100000

instance : Inhabited R3 := ⟨((([], [], VT.none) : O3), (none, 0, none, 0))⟩

theorem flat_row (rs : List R3) : flatK rcells 7 rs.toArray = (rowC rs).toArray := by
  refine ext_get! (by simp [rowC_len]) fun t ht => ?_
  have ht' : t < rs.toArray.size * 7 := by simpa using ht
  rw [get_flatK _ _ _ t ht']
  have hl : t < rs.length * 7 := by simpa using ht'
  have hi : t / 7 < rs.length := by omega
  have hd : rs.toArray[t / 7]! = rs[t / 7] := by simp [hi]
  have h := rowC_get rs (t / 7) rs[t / 7] (t % 7) (List.getElem?_eq_getElem hi) (by omega)
  rw [show t / 7 * 7 + t % 7 = t by omega] at h
  rw [hd]
  have hl2 : t < (rowC rs).length := by rw [rowC_len]; exact hl
  have hl3 : t % 7 < (rcells rs[t / 7]).length := by simp only [rcells, List.length_cons, List.length_nil]; omega
  rw [List.getElem?_eq_getElem hl2, List.getElem?_eq_getElem hl3] at h
  have h := Option.some.inj h
  rw [getElem!_pos (rcells rs[t / 7]) (t % 7) hl3, getElem!_pos (rowC rs).toArray t (by simpa using hl2)]
  simpa using h.symm
theorem take_put (cur : Array Value) (cs : List Value) (h : cs.length ≤ cur.size) : (putCells id 0 cs.toArray cur).toList.take cs.length = cs := by
  apply List.ext_getElem?
  intro j
  by_cases hj : j < cs.length
  · rw [List.getElem?_take_of_lt hj, Array.getElem?_toList]
    simp [putCells, hj, show j < cur.size by omega]
  · rw [List.getElem?_take_eq_none (by omega), List.getElem?_eq_none (by omega)]
/-- What the sort is told of the row. -/
theorem holds_row {w : World} {base e : Nat} {g cap n : Nat} {rs : List R3} (h : w.ownsRow base e 7 (.slice (some ⟨g, 0, none⟩) n cap) rs.length (rowC rs)) : HoldsK rcells 7 w g 0 rs.toArray := by
  unfold HoldsK
  rw [flat_row]
  rcases h.2 with ⟨h1, _⟩ | ⟨g', c', cur, hv, _, hh, _, _, _, ht⟩
  · cases h1
  · cases hv
    intro j hj
    have hj' : j < (rowC rs).length := by simpa using hj
    refine ⟨?_, Lib.frozen_of_heap hh _⟩
    have := h.cells rfl j (rowC rs)[j] (List.getElem?_eq_getElem hj')
    rw [Addr.add_lit] at this
    rw [this]
    simp [hj']
/-- The row behind the sort. -/
theorem row_sorted {w : World} {base e : Nat} {g cap n m : Nat} {os : Array Obj} {rs ts : List R3} (h : w.ownsRow base e 7 (.slice (some ⟨g, 0, none⟩) n cap) rs.length (rowC rs)) (hl : ts.length = rs.length) :
    (Go.Proofs.sortWorldK rcells 7 w g 0 m ts.toArray os).ownsRow base e 7 (.slice (some ⟨g, 0, none⟩) n cap) rs.length (rowC ts) := by
  rcases h.2 with ⟨h1, _⟩ | ⟨g', c', cur, hv, hb, hh, h3, h4, h5, ht⟩
  · cases h1
  · cases hv
    have hg : g < w.heap.size := heap_lt hh
    refine ⟨by rw [rowC_len, hl], .inr ⟨g, cap, putCells id 0 (rowC ts).toArray cur, rfl, hb, ?_, h3, h4, by simp [putCells, h5], ?_⟩⟩
    · unfold Go.Proofs.sortWorldK putRowK
      rw [flat_row, Sort.heap_grow_old _ _ (by simpa using hg)]
      simp [putRow, mapBlock, Sort.ahead, Array.getElem?_modify, hh, onCells]
    · rw [show rs.length * 7 = (rowC ts).length by rw [rowC_len, hl]]
      exact take_put cur _ (by rw [rowC_len, hl, h5]; exact Nat.mul_le_mul_right 7 h3)
theorem sorted_spares {w : World} {g m : Nat} {os : Array Obj} (d : Array R3) : Spares [g] w (Go.Proofs.sortWorldK rcells 7 w g 0 m d os) := by
  refine ⟨rfl, rfl, rfl, by simp [Go.Proofs.sortWorldK, putRowK, Sort.grow, putRow, mapBlock, Sort.ahead], fun k hk hn => ?_⟩
  have hne : g ≠ k := fun e => hn (by simp [e])
  unfold Go.Proofs.sortWorldK putRowK
  rw [Sort.heap_grow_old _ _ (by simpa using hk)]
  simp [putRow, mapBlock, Sort.ahead, Array.getElem?_modify, hne]

/-- By type, then by ID: a strict weak order. -/
theorem swoO : SWO (Go.Proofs.ltOf fun x y : R3 => ordO x.1 y.1) := by
  have e : ∀ x y : R3, Go.Proofs.ltOf (fun x y : R3 => ordO x.1 y.1) x y = ltO x.1 y.1 := fun x y => by
    unfold Go.Proofs.ltOf
    rw [Bool.eq_iff_iff, decide_eq_true_eq]
    exact ordO_lt x.1 y.1
  refine ⟨fun x => by rw [e]; exact ltO_irr _, fun x y z h1 h2 => by rw [e] at *; exact ltO_trans h1 h2, fun x y z h1 h2 => ?_⟩
  rw [e] at *
  cases h : ltO x.1 z.1 with
  | false => rfl
  | true =>
    exfalso
    cases h3 : ltO y.1 x.1 with
    | true =>
      have := ltO_trans h3 h
      rw [h2] at this
      cases this
    | false =>
      obtain ⟨e1, e2⟩ := ltO_tri h1 h3
      have : ltO y.1 z.1 = true := by
        rw [ltO_iff] at h ⊢
        rw [← e1, ← e2]
        exact h
      rw [h2] at this
      cases this
/-- Sorted, and each name once: rising. -/
theorem sorted_ris {rs ts : List R3} (hs : SortedIn (Go.Proofs.ltOf fun x y : R3 => ordO x.1 y.1) 0 rs.length ts.toArray) (hp : ts.Perm rs) (ha : apartO (osR rs)) : risO (osR ts) := by
  have hl := hp.length_eq
  have hat : apartO (osR ts) := by
    unfold apartO at ha ⊢
    exact ((hp.map fun r : R3 => r.1).pairwise_iff (fun {a b} h e => h ⟨e.1.symm, e.2.symm⟩)).2 ha
  refine List.pairwise_iff_getElem.2 fun i j hi hj hij => ?_
  have h1 := List.pairwise_iff_getElem.1 hat i j hi hj hij
  rw [osR_len] at hi hj
  have h2 := hs i j (Nat.zero_le _) hij (by omega)
  have e : ltO (osR ts)[j] (osR ts)[i] = false := by
    unfold Go.Proofs.ltOf at h2
    rw [decide_eq_false_iff_not, ordO_lt] at h2
    simp only [List.getElem!_toArray, getElem!_pos ts i hi, getElem!_pos ts j hj] at h2
    simpa [osR] using h2
  cases h3 : ltO (osR ts)[i] (osR ts)[j] with
  | true => rfl
  | false => exact absurd (ltO_tri h3 e) h1

/-- Values of one's own, in another order. -/
theorem OwnVals.perm {w : World} {rs ts : List R3} (hp : rs.Perm ts) : ∀ {F : List Nat}, OwnVals w (rs.map fun r => r.1.2.2) (rs.map rV) F → ∃ G, F.Perm G ∧ OwnVals w (ts.map fun r => r.1.2.2) (ts.map rV) G := by
  induction hp with
  | nil => intro F h; exact ⟨F, List.Perm.refl _, h⟩
  | cons x p ih =>
    intro F h
    rw [List.map_cons, List.map_cons, OwnVals] at h
    obtain ⟨v, vs, Fx, Fr, he, rfl, hx, hr⟩ := h
    injection he with e1 e2
    subst e1 e2
    obtain ⟨G, hG, hv⟩ := ih hr
    refine ⟨Fx ++ G, List.Perm.append_left _ hG, ?_⟩
    rw [List.map_cons, List.map_cons, OwnVals]
    exact ⟨_, _, Fx, G, rfl, rfl, hx, hv⟩
  | swap x y l =>
    intro F h
    rw [List.map_cons, List.map_cons, List.map_cons, List.map_cons, OwnVals] at h
    obtain ⟨v, vs, Fx, Fr, he, rfl, hx, hr⟩ := h
    injection he with e1 e2
    subst e1 e2
    rw [OwnVals] at hr
    obtain ⟨v, vs, Fy, Fs, he, rfl, hy, hr⟩ := hr
    injection he with e1 e2
    subst e1 e2
    refine ⟨Fy ++ (Fx ++ Fs), ?_, ?_⟩
    · rw [← List.append_assoc, ← List.append_assoc]
      exact List.Perm.append_right _ List.perm_append_comm
    · rw [List.map_cons, List.map_cons, List.map_cons, List.map_cons, OwnVals]
      refine ⟨_, _, Fy, _, rfl, rfl, hy, ?_⟩
      rw [OwnVals]
      exact ⟨_, _, Fx, _, rfl, rfl, hx, hr⟩
  | trans p q ih1 ih2 =>
    intro F h
    obtain ⟨G, h1, h2⟩ := ih1 h
    obtain ⟨K, h3, h4⟩ := ih2 h2
    exact ⟨K, h1.trans h3, h4⟩
theorem perm_in {d d' : Array R3} (h : PermIn 0 d.size d d') : d'.toList.Perm d.toList := by
  obtain ⟨h1, _, h3⟩ := h
  have e1 : d'.extract 0 d.size = d' := by rw [← h1]; simp
  have e2 : d.extract 0 d.size = d := by simp
  rw [e1, e2] at h3
  exact h3

/-- Behind the sort. -/
theorem ObjL.sorted {w0 w : World} {rs ts : List R3} {g cap m : Nat} {os : Array Obj} {F : List Nat} (h : ObjL w0 rs (.slice (some ⟨g, 0, none⟩) rs.length cap) F w) (hp : rs.Perm ts) : ∃ G, ObjL w0 ts (.slice (some ⟨g, 0, none⟩) ts.length cap) G (Go.Proofs.sortWorldK rcells 7 w g 0 m ts.toArray os) := by
  have hl := hp.length_eq
  have hap := fun q (hq : q ∈ F) => h.apart hq
  have hgb := (h.1.lt g rfl).1
  obtain ⟨h1, h2, h3, h4, h5⟩ := h
  have hs : Spares [g] w (Go.Proofs.sortWorldK rcells 7 w g 0 m ts.toArray os) := sorted_spares _
  obtain ⟨G, hG, hv⟩ := OwnVals.perm hp (h2.keep fun q hq => hs.block q (h2.lt q hq) fun hm => hap q hq (by
    have : q = g := by simpa using hm
    rw [this]
    rfl))
  refine ⟨G, ?_, hv, hG.nodup_iff.1 h3, fun q hq => h4 q (hG.mem_iff.2 hq), Below.spared h5 hs h5.size fun k hk => ?_⟩
  · have := row_sorted (m := m) (os := os) h1 hl.symm
    rw [← hl]
    exact this
  · have : k = g := by simpa using hk
    omega

end Go.Proofs.YtpbipngnoklmcaaDoor
