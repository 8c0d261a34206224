/- Plain: the document's rows of objects, each with the addresses of its parts. No walk. -/
import Derived.Test.YtpbipngnoklmcaaDoorWldN
namespace Go.Proofs.YtpbipngnoklmcaaDoor
open Go.RowKit
set_option maxRecDepth 100000

/-- An object with the addresses and capacities of its items and its keys. -/
abbrev R3 := O3 × (Option Addr × Nat × Option Addr × Nat)
def rV (r : R3) : Value := .agg #[.int .i64 r.1.2.2.kind, .bool r.1.2.2.flag, str r.1.2.2.text, .slice r.2.1 r.1.2.2.items.length r.2.2.1, .slice r.2.2.2.1 r.1.2.2.keys.length r.2.2.2.2]
def rcells (r : R3) : List Value := [str r.1.1, str r.1.2.1, .int .i64 r.1.2.2.kind, .bool r.1.2.2.flag, str r.1.2.2.text, .slice r.2.1 r.1.2.2.items.length r.2.2.1, .slice r.2.2.2.1 r.1.2.2.keys.length r.2.2.2.2]
def rowC (rs : List R3) : List Value := rs.flatMap rcells
def outR (rs : List R3) (t i : S8) : List R3 := rs.filter fun r => !isO t i r.1
def insR (r : R3) : List R3 → List R3
  | [] => [r]
  | x :: l => if ltO r.1 x.1 = true then r :: x :: l else x :: insR r l
def withR (rs : List R3) (r : R3) : List R3 := insR r (outR rs r.1.1 r.1.2.1)
def osR (rs : List R3) : List O3 := rs.map fun r => r.1

theorem outR_os (rs : List R3) (t i : S8) : osR (outR rs t i) = outO (osR rs) t i := by
  unfold osR outR outO
  rw [List.filter_map]
  rfl
theorem insR_os (r : R3) : ∀ (l : List R3), osR (insR r l) = insO r.1 (osR l)
  | [] => rfl
  | x :: l => by
    show osR (if ltO r.1 x.1 = true then r :: x :: l else x :: insR r l) = if ltO r.1 x.1 = true then r.1 :: x.1 :: osR l else x.1 :: insO r.1 (osR l)
    split
    · rfl
    · rw [← insR_os r l]
      rfl
theorem withR_os (rs : List R3) (r : R3) : osR (withR rs r) = withO (osR rs) r.1 := by
  unfold withR withO
  rw [insR_os, outR_os]
theorem mem_insR {r x : R3} : ∀ {l : List R3}, x ∈ insR r l ↔ x = r ∨ x ∈ l
  | [] => by simp [insR]
  | y :: l => by
    rw [insR]
    split
    · simp
    · rw [List.mem_cons, mem_insR (l := l), List.mem_cons]
      constructor
      · rintro (h | h | h)
        · exact .inr (.inl h)
        · exact .inl h
        · exact .inr (.inr h)
      · rintro (h | h | h)
        · exact .inr (.inl h)
        · exact .inl h
        · exact .inr (.inr h)
theorem mem_outR {rs : List R3} {t i : S8} {x : R3} (h : x ∈ outR rs t i) : x ∈ rs := (List.mem_filter.1 h).1
theorem mem_withR {rs : List R3} {r x : R3} (h : x ∈ withR rs r) : x = r ∨ x ∈ rs := (mem_insR.1 h).imp id mem_outR
theorem len_outR (rs : List R3) (t i : S8) : (outR rs t i).length ≤ rs.length := List.length_filter_le _ _
theorem len_insR (r : R3) : ∀ (l : List R3), (insR r l).length = l.length + 1
  | [] => rfl
  | x :: l => by
    rw [insR]
    split
    · rfl
    · rw [List.length_cons, len_insR r l, List.length_cons]
theorem len_withR (rs : List R3) (r : R3) : (withR rs r).length ≤ rs.length + 1 := by
  unfold withR
  rw [len_insR]
  have := len_outR rs r.1.1 r.1.2.1
  omega
theorem osR_len (rs : List R3) : (osR rs).length = rs.length := by unfold osR; rw [List.length_map]
theorem osR_get (rs : List R3) (i : Nat) : (osR rs)[i]? = rs[i]?.map fun r => r.1 := by unfold osR; rw [List.getElem?_map]
theorem rowC_len (rs : List R3) : (rowC rs).length = rs.length * 7 := by
  unfold rowC
  induction rs with
  | nil => rfl
  | cons r l ih => rw [List.flatMap_cons, List.length_append, ih, List.length_cons]; simp only [rcells, List.length_cons, List.length_nil]; omega
theorem rowC_one (rs : List R3) : ∀ u ∈ rowC rs, u.oneCell' = true := by
  intro u hu
  unfold rowC at hu
  obtain ⟨r, _, hu⟩ := List.mem_flatMap.1 hu
  simp only [rcells, List.mem_cons, List.not_mem_nil, or_false] at hu
  rcases hu with rfl | rfl | rfl | rfl | rfl | rfl | rfl <;> rfl
theorem rowC_append (a b : List R3) : rowC (a ++ b) = rowC a ++ rowC b := by simp [rowC]
theorem rowC_snoc (a : List R3) (r : R3) : rowC (a ++ [r]) = rowC a ++ rcells r := by simp [rowC]
theorem rowC_get : ∀ (rs : List R3) (i : Nat) (r : R3) (j : Nat), rs[i]? = some r → j < 7 → (rowC rs)[i * 7 + j]? = (rcells r)[j]?
  | [], _, _, _, h, _ => by cases h
  | x :: rs, 0, r, j, h, hj => by
    cases h
    show (rcells x ++ rowC rs)[0 * 7 + j]? = _
    rw [Nat.zero_mul, Nat.zero_add, List.getElem?_append_left (by simp only [rcells, List.length_cons, List.length_nil]; omega)]
  | x :: rs, i + 1, r, j, h, hj => by
    have ih := rowC_get rs i r j h hj
    show (rcells x ++ rowC rs)[(i + 1) * 7 + j]? = _
    rw [List.getElem?_append_right (by simp only [rcells, List.length_cons, List.length_nil]; omega), ← ih]
    congr 1
    simp only [rcells, List.length_cons, List.length_nil]
    omega
/-- What a cell of a row of objects holds. -/
theorem CellsAt.obj {w : World} {ao : Option Addr} {m cap : Nat} {rs : List R3} (h : CellsAt w (.slice ao m cap) rs.length (rowC rs)) {i : Nat} {r : R3} (hi : rs[i]? = some r) :
    ∃ b off, ao = some ⟨b, off, none⟩ ∧ b < w.heap.size ∧ w.cell? ⟨b, off + i * 7, none⟩ = some (str r.1.1) ∧ w.cell? ⟨b, off + i * 7 + 1, none⟩ = some (str r.1.2.1) ∧ w.cell? ⟨b, off + i * 7 + 2, none⟩ = some (.int .i64 r.1.2.2.kind) ∧ w.cell? ⟨b, off + i * 7 + 3, none⟩ = some (.bool r.1.2.2.flag) ∧
      w.cell? ⟨b, off + i * 7 + 4, none⟩ = some (str r.1.2.2.text) ∧ w.cell? ⟨b, off + i * 7 + 5, none⟩ = some (.slice r.2.1 r.1.2.2.items.length r.2.2.1) ∧ w.cell? ⟨b, off + i * 7 + 6, none⟩ = some (.slice r.2.2.2.1 r.1.2.2.keys.length r.2.2.2.2) := by
  obtain ⟨_, _, hv, _, hk⟩ := h
  cases hv
  have hil : i < rs.length := (List.getElem?_eq_some_iff.1 hi).1
  obtain ⟨b, off, rfl, hl, hk⟩ := hk (by omega)
  have q : ∀ j u, j < 7 → (rcells r)[j]? = some u → w.cell? ⟨b, off + i * 7 + j, none⟩ = some u := fun j u hj hu => by
    have := hk (i * 7 + j) u (by rw [rowC_get rs i r j hi hj]; exact hu)
    rw [Addr.add_lit] at this
    rw [Nat.add_assoc]
    exact this
  exact ⟨b, off, rfl, hl, q 0 _ (by omega) rfl, q 1 _ (by omega) rfl, q 2 _ (by omega) rfl, q 3 _ (by omega) rfl, q 4 _ (by omega) rfl, q 5 _ (by omega) rfl, q 6 _ (by omega) rfl⟩

/-- A row of objects that reads as these: each with its addresses. -/
theorem ObjsAt.rows {w : World} {v : Value} {os : List O3} (h : ObjsAt w v os) : ∃ rs, osR rs = os ∧ CellsAt w v rs.length (rowC rs) ∧ ∀ r ∈ rs, ValAt w r.1.2.2 (rV r) := by
  obtain ⟨ao, cap, rfl, hm, _, hk⟩ := h
  by_cases hne : os = []
  · subst hne
    refine ⟨[], rfl, ⟨ao, cap, rfl, hm, fun h => absurd rfl h⟩, fun r hr => by cases hr⟩
  · obtain ⟨b, off, rfl, hl, hk⟩ := hk hne
    have each : ∀ i, i < os.length → ∃ r : R3, os[i]? = some r.1 ∧ ValAt w r.1.2.2 (rV r) ∧ ∀ j u, (rcells r)[j]? = some u → w.cell? ⟨b, off + i * 7 + j, none⟩ = some u := fun i hi => by
      obtain ⟨t, j, x, hx⟩ : ∃ t j x, os[i] = (t, j, x) := ⟨_, _, _, rfl⟩
      have hg : os[i]? = some (t, j, x) := by rw [List.getElem?_eq_getElem hi, hx]
      obtain ⟨ai, ci, ak, ck, h0, h1, h2, h3, h4, h5, h6, h7⟩ := hk i t j x hg
      refine ⟨((t, j, x), (ai, ci, ak, ck)), hg, h0, fun q u hu => ?_⟩
      match q, hu with
      | 0, hu => cases hu; exact h1
      | 1, hu => cases hu; exact h2
      | 2, hu => cases hu; exact h3
      | 3, hu => cases hu; exact h4
      | 4, hu => cases hu; exact h5
      | 5, hu => cases hu; exact h6
      | 6, hu => cases hu; exact h7
      | q + 7, hu => simp [rcells] at hu
    obtain ⟨f, hf⟩ := Deep.choose_lt each
    have hos : osR ((List.range os.length).map f) = os := by
      refine List.ext_getElem? fun i => ?_
      rw [osR_get]
      by_cases hi : i < os.length
      · rw [(hf i hi).1]
        simp [hi]
      · simp [Nat.le_of_not_lt hi]
    have hlen : ((List.range os.length).map f).length = os.length := by simp
    refine ⟨(List.range os.length).map f, hos, ⟨_, cap, by rw [hlen], by rw [hlen]; exact hm, fun _ => ⟨b, off, rfl, hl, fun j u hu => ?_⟩⟩, fun r hr => ?_⟩
    · have hj : j < os.length * 7 := by
        have := (List.getElem?_eq_some_iff.1 hu).1
        rw [rowC_len, hlen] at this
        exact this
      have hi : j / 7 < os.length := by omega
      have hjj : j = j / 7 * 7 + j % 7 := by omega
      have hgi : ((List.range os.length).map f)[j / 7]? = some (f (j / 7)) := by simp [hi]
      rw [hjj, rowC_get _ (j / 7) _ (j % 7) hgi (by omega)] at hu
      have := (hf (j / 7) hi).2.2 (j % 7) u hu
      rw [Addr.add_lit]
      rw [show off + j = off + j / 7 * 7 + j % 7 by omega]
      exact this
    · obtain ⟨i, hi, rfl⟩ := List.mem_map.1 hr
      exact (hf i (by simpa using hi)).2.1
theorem objs_of_rows {w : World} {v : Value} {rs : List R3} (h : CellsAt w v rs.length (rowC rs)) (hv : ∀ r ∈ rs, ValAt w r.1.2.2 (rV r)) (hf : fitO (osR rs)) : ObjsAt w v (osR rs) := by
  have h0 := h
  obtain ⟨ao, cap, rfl, hm, hk⟩ := h
  refine ⟨ao, cap, by rw [osR_len], by rw [osR_len]; exact hm, hf, fun hne => ?_⟩
  have hl : rs.length ≠ 0 := fun e => hne (by rw [List.eq_nil_of_length_eq_zero e]; rfl)
  obtain ⟨b, off, rfl, hlt, _⟩ := hk hl
  refine ⟨b, off, rfl, hlt, fun i t j x hi => ?_⟩
  rw [osR_get] at hi
  obtain ⟨r, hr, he⟩ := Option.map_eq_some_iff.1 hi
  obtain ⟨b', off', hb, _, g⟩ := h0.obj hr
  cases hb
  obtain ⟨⟨t', j', x'⟩, ai, ci, ak, ck⟩ := r
  cases he
  exact ⟨ai, ci, ak, ck, hv _ (List.mem_of_getElem? hr), g⟩

end Go.Proofs.YtpbipngnoklmcaaDoor
