/- Plain: the document's rows of objects, each with the addresses of its parts. No walk. Plain: what stays true whatever a world's calls write; the document's world in memory. No walk. The document's world: At, without, with. -/
import Derived.Test.YtpbipngnoklmcaaGreatDoorMWldF
namespace Go.Proofs.YtpbipngnoklmcaaGreatDoor
open Go.RowKit
set_option maxRecDepth 100000

/-- An object with the addresses and capacities of its items and its keys. -/
abbrev R3 := O3 × (Option Addr × Nat × Option Addr × Nat)
def rV (r : R3) : Value := .agg #[.int .i64 r.1.2.2.kind, .bool r.1.2.2.flag, str r.1.2.2.text, .slice r.2.1 r.1.2.2.items.length r.2.2.1, .slice r.2.2.2.1 r.1.2.2.keys.length r.2.2.2.2]
def rcells (r : R3) : List Value := [str r.1.1, str r.1.2.1, .int .i64 r.1.2.2.kind, .bool r.1.2.2.flag, str r.1.2.2.text, .slice r.2.1 r.1.2.2.items.length r.2.2.1, .slice r.2.2.2.1 r.1.2.2.keys.length r.2.2.2.2]
def rowC (rs : List R3) : List Value := rs.flatMap rcells
def outR (rs : List R3) (t i : S8) : List R3 := rs.filter fun r => !isO t i r.1
def insR (r : R3) : List R3 → List R3
  | [] => [r]
  | x :: l => if ltO r.1 x.1 = true then r :: x :: l else x :: insR r l
def withR (rs : List R3) (r : R3) : List R3 := insR r (outR rs r.1.1 r.1.2.1)
def osR (rs : List R3) : List O3 := rs.map fun r => r.1

theorem outR_os (rs : List R3) (t i : S8) : osR (outR rs t i) = outO (osR rs) t i := by
  unfold osR outR outO
  rw [List.filter_map]
  rfl
theorem insR_os (r : R3) : ∀ (l : List R3), osR (insR r l) = insO r.1 (osR l)
  | [] => rfl
  | x :: l => by
    show osR (if ltO r.1 x.1 = true then r :: x :: l else x :: insR r l) = if ltO r.1 x.1 = true then r.1 :: x.1 :: osR l else x.1 :: insO r.1 (osR l)
    split
    · rfl
    · rw [← insR_os r l]
      rfl
theorem withR_os (rs : List R3) (r : R3) : osR (withR rs r) = withO (osR rs) r.1 := by
  unfold withR withO
  rw [insR_os, outR_os]
theorem mem_insR {r x : R3} : ∀ {l : List R3}, x ∈ insR r l ↔ x = r ∨ x ∈ l
  | [] => by simp [insR]
  | y :: l => by
    rw [insR]
    split
    · simp
    · rw [List.mem_cons, mem_insR (l := l), List.mem_cons]
      constructor
      · rintro (h | h | h)
        · exact .inr (.inl h)
        · exact .inl h
        · exact .inr (.inr h)
      · rintro (h | h | h)
        · exact .inr (.inl h)
        · exact .inl h
        · exact .inr (.inr h)
theorem mem_outR {rs : List R3} {t i : S8} {x : R3} (h : x ∈ outR rs t i) : x ∈ rs := (List.mem_filter.1 h).1
theorem mem_withR {rs : List R3} {r x : R3} (h : x ∈ withR rs r) : x = r ∨ x ∈ rs := (mem_insR.1 h).imp id mem_outR
theorem len_outR (rs : List R3) (t i : S8) : (outR rs t i).length ≤ rs.length := List.length_filter_le _ _
theorem len_insR (r : R3) : ∀ (l : List R3), (insR r l).length = l.length + 1
  | [] => rfl
  | x :: l => by
    rw [insR]
    split
    · rfl
    · rw [List.length_cons, len_insR r l, List.length_cons]
theorem len_withR (rs : List R3) (r : R3) : (withR rs r).length ≤ rs.length + 1 := by
  unfold withR
  rw [len_insR]
  have := len_outR rs r.1.1 r.1.2.1
  omega
theorem osR_len (rs : List R3) : (osR rs).length = rs.length := by unfold osR; rw [List.length_map]
theorem osR_get (rs : List R3) (i : Nat) : (osR rs)[i]? = rs[i]?.map fun r => r.1 := by unfold osR; rw [List.getElem?_map]
theorem rowC_len (rs : List R3) : (rowC rs).length = rs.length * 7 := by
  unfold rowC
  induction rs with
  | nil => rfl
  | cons r l ih => rw [List.flatMap_cons, List.length_append, ih, List.length_cons]; simp only [rcells, List.length_cons, List.length_nil]; omega
theorem rowC_one (rs : List R3) : ∀ u ∈ rowC rs, u.oneCell' = true := by
  intro u hu
  unfold rowC at hu
  obtain ⟨r, _, hu⟩ := List.mem_flatMap.1 hu
  simp only [rcells, List.mem_cons, List.not_mem_nil, or_false] at hu
  rcases hu with rfl | rfl | rfl | rfl | rfl | rfl | rfl <;> rfl
theorem rowC_append (a b : List R3) : rowC (a ++ b) = rowC a ++ rowC b := by simp [rowC]
theorem rowC_snoc (a : List R3) (r : R3) : rowC (a ++ [r]) = rowC a ++ rcells r := by simp [rowC]
theorem rowC_get : ∀ (rs : List R3) (i : Nat) (r : R3) (j : Nat), rs[i]? = some r → j < 7 → (rowC rs)[i * 7 + j]? = (rcells r)[j]?
  | [], _, _, _, h, _ => by cases h
  | x :: rs, 0, r, j, h, hj => by
    cases h
    show (rcells x ++ rowC rs)[0 * 7 + j]? = _
    rw [Nat.zero_mul, Nat.zero_add, List.getElem?_append_left (by simp only [rcells, List.length_cons, List.length_nil]; omega)]
  | x :: rs, i + 1, r, j, h, hj => by
    have ih := rowC_get rs i r j h hj
    show (rcells x ++ rowC rs)[(i + 1) * 7 + j]? = _
    rw [List.getElem?_append_right (by simp only [rcells, List.length_cons, List.length_nil]; omega), ← ih]
    congr 1
    simp only [rcells, List.length_cons, List.length_nil]
    omega
/-- What a cell of a row of objects holds. -/
theorem CellsAt.obj {w : World} {ao : Option Addr} {m cap : Nat} {rs : List R3} (h : CellsAt w (.slice ao m cap) rs.length (rowC rs)) {i : Nat} {r : R3} (hi : rs[i]? = some r) :
    ∃ b off, ao = some ⟨b, off, none⟩ ∧ b < w.heap.size ∧ w.cell? ⟨b, off + i * 7, none⟩ = some (str r.1.1) ∧ w.cell? ⟨b, off + i * 7 + 1, none⟩ = some (str r.1.2.1) ∧ w.cell? ⟨b, off + i * 7 + 2, none⟩ = some (.int .i64 r.1.2.2.kind) ∧ w.cell? ⟨b, off + i * 7 + 3, none⟩ = some (.bool r.1.2.2.flag) ∧
      w.cell? ⟨b, off + i * 7 + 4, none⟩ = some (str r.1.2.2.text) ∧ w.cell? ⟨b, off + i * 7 + 5, none⟩ = some (.slice r.2.1 r.1.2.2.items.length r.2.2.1) ∧ w.cell? ⟨b, off + i * 7 + 6, none⟩ = some (.slice r.2.2.2.1 r.1.2.2.keys.length r.2.2.2.2) := by
  obtain ⟨_, _, hv, _, hk⟩ := h
  cases hv
  have hil : i < rs.length := (List.getElem?_eq_some_iff.1 hi).1
  obtain ⟨b, off, rfl, hl, hk⟩ := hk (by omega)
  have q : ∀ j u, j < 7 → (rcells r)[j]? = some u → w.cell? ⟨b, off + i * 7 + j, none⟩ = some u := fun j u hj hu => by
    have := hk (i * 7 + j) u (by rw [rowC_get rs i r j hi hj]; exact hu)
    rw [Addr.add_lit] at this
    rw [Nat.add_assoc]
    exact this
  exact ⟨b, off, rfl, hl, q 0 _ (by omega) rfl, q 1 _ (by omega) rfl, q 2 _ (by omega) rfl, q 3 _ (by omega) rfl, q 4 _ (by omega) rfl, q 5 _ (by omega) rfl, q 6 _ (by omega) rfl⟩

/-- A row of objects that reads as these: each with its addresses. -/
theorem ObjsAt.rows {w : World} {v : Value} {os : List O3} (h : ObjsAt w v os) : ∃ rs, osR rs = os ∧ CellsAt w v rs.length (rowC rs) ∧ ∀ r ∈ rs, ValAt w r.1.2.2 (rV r) := by
  obtain ⟨ao, cap, rfl, hm, _, hk⟩ := h
  by_cases hne : os = []
  · subst hne
    refine ⟨[], rfl, ⟨ao, cap, rfl, hm, fun h => absurd rfl h⟩, fun r hr => by cases hr⟩
  · obtain ⟨b, off, rfl, hl, hk⟩ := hk hne
    have each : ∀ i, i < os.length → ∃ r : R3, os[i]? = some r.1 ∧ ValAt w r.1.2.2 (rV r) ∧ ∀ j u, (rcells r)[j]? = some u → w.cell? ⟨b, off + i * 7 + j, none⟩ = some u := fun i hi => by
      obtain ⟨t, j, x, hx⟩ : ∃ t j x, os[i] = (t, j, x) := ⟨_, _, _, rfl⟩
      have hg : os[i]? = some (t, j, x) := by rw [List.getElem?_eq_getElem hi, hx]
      obtain ⟨ai, ci, ak, ck, h0, h1, h2, h3, h4, h5, h6, h7⟩ := hk i t j x hg
      refine ⟨((t, j, x), (ai, ci, ak, ck)), hg, h0, fun q u hu => ?_⟩
      match q, hu with
      | 0, hu => cases hu; exact h1
      | 1, hu => cases hu; exact h2
      | 2, hu => cases hu; exact h3
      | 3, hu => cases hu; exact h4
      | 4, hu => cases hu; exact h5
      | 5, hu => cases hu; exact h6
      | 6, hu => cases hu; exact h7
      | q + 7, hu => simp [rcells] at hu
    obtain ⟨f, hf⟩ := Deep.choose_lt each
    have hos : osR ((List.range os.length).map f) = os := by
      refine List.ext_getElem? fun i => ?_
      rw [osR_get]
      by_cases hi : i < os.length
      · rw [(hf i hi).1]
        simp [hi]
      · simp [Nat.le_of_not_lt hi]
    have hlen : ((List.range os.length).map f).length = os.length := by simp
    refine ⟨(List.range os.length).map f, hos, ⟨_, cap, by rw [hlen], by rw [hlen]; exact hm, fun _ => ⟨b, off, rfl, hl, fun j u hu => ?_⟩⟩, fun r hr => ?_⟩
    · have hj : j < os.length * 7 := by
        have := (List.getElem?_eq_some_iff.1 hu).1
        rw [rowC_len, hlen] at this
        exact this
      have hi : j / 7 < os.length := by omega
      have hjj : j = j / 7 * 7 + j % 7 := by omega
      have hgi : ((List.range os.length).map f)[j / 7]? = some (f (j / 7)) := by simp [hi]
      rw [hjj, rowC_get _ (j / 7) _ (j % 7) hgi (by omega)] at hu
      have := (hf (j / 7) hi).2.2 (j % 7) u hu
      rw [Addr.add_lit]
      rw [show off + j = off + j / 7 * 7 + j % 7 by omega]
      exact this
    · obtain ⟨i, hi, rfl⟩ := List.mem_map.1 hr
      exact (hf i (by simpa using hi)).2.1
theorem objs_of_rows {w : World} {v : Value} {rs : List R3} (h : CellsAt w v rs.length (rowC rs)) (hv : ∀ r ∈ rs, ValAt w r.1.2.2 (rV r)) (hf : fitO (osR rs)) : ObjsAt w v (osR rs) := by
  have h0 := h
  obtain ⟨ao, cap, rfl, hm, hk⟩ := h
  refine ⟨ao, cap, by rw [osR_len], by rw [osR_len]; exact hm, hf, fun hne => ?_⟩
  have hl : rs.length ≠ 0 := fun e => hne (by rw [List.eq_nil_of_length_eq_zero e]; rfl)
  obtain ⟨b, off, rfl, hlt, _⟩ := hk hl
  refine ⟨b, off, rfl, hlt, fun i t j x hi => ?_⟩
  rw [osR_get] at hi
  obtain ⟨r, hr, he⟩ := Option.map_eq_some_iff.1 hi
  obtain ⟨b', off', hb, _, g⟩ := h0.obj hr
  cases hb
  obtain ⟨⟨t', j', x'⟩, ai, ci, ak, ck⟩ := r
  cases he
  exact ⟨ai, ci, ak, ck, hv _ (List.mem_of_getElem? hr), g⟩

end Go.Proofs.YtpbipngnoklmcaaGreatDoor
namespace Go.Proofs.YtpbipngnoklmcaaGreatDoor
open Go.RowKit
set_option maxRecDepth 100000

/-- True, and true still whatever is written into these blocks. -/
def Kept (F : List Nat) (w : World) (A : World → Prop) : Prop := ∀ w', Spares F w w' → A w'
theorem Kept.now {F : List Nat} {w : World} {A : World → Prop} (h : Kept F w A) : A w := h w (Spares.refl F w)
theorem Kept.step {F F' : List Nat} {w w' : World} {A : World → Prop} (h : Kept F w A) (hs : Spares F w w') (hF : ∀ q ∈ F', q ∈ F ∨ w.heap.size ≤ q) : Kept F' w' A := fun w2 h2 =>
  h w2 ⟨h2.os.trans hs.os, h2.tape.trans hs.tape, h2.output.trans hs.output, Nat.le_trans hs.size h2.size, fun k hk hn =>
    (h2.block k (Nat.lt_of_lt_of_le hk hs.size) fun hf => by rcases hF k hf with h | h; exact hn h; omega).trans (hs.block k hk hn)⟩
theorem Kept.below {F : List Nat} {w w' : World} {A : World → Prop} (h : Kept F w A) (hb : Below w.heap.size w w') : Kept F w' A := h.step (Spares.of_below hb) fun _ hq => .inl hq
/-- What only grows with memory is kept from blocks that are newer. -/
theorem Kept.old {F : List Nat} {w0 w : World} {A : World → Prop} (hA : ∀ w', Below w0.heap.size w0 w' → A w') (hb : Below w0.heap.size w0 w) (hF : ∀ q ∈ F, w0.heap.size ≤ q) : Kept F w A := fun _ hs => hA _ (Below.spared hb hs hb.size hF)
/-- A row of one's own that lies elsewhere. -/
theorem Kept.row {F : List Nat} {w : World} {base e size n : Nat} {v : Value} {cs : List Value} (h : w.ownsRow base e size v n cs) (hF : ∀ q ∈ F, q < base) : Kept F w fun w' => CellsAt w' v n cs := fun w' hs => by
  refine CellsAt.row (base := base) (e := e) (size := size) (row_keep h fun q hq => ?_)
  obtain ⟨_, hh⟩ := row_block h hq
  exact hs.block q (heap_lt hh) fun hf => by have := hF q hf; have := (h.lt q hq).1; omega

/-- The document's world: its objects (each with its addresses), its rules, its trace; kept. -/
structure RAt (F : List Nat) (w : World) (m : Value) (rs : List R3) (S : WS) : Prop where
  form : ∃ ao co af cf at' ct, m = .agg #[.slice ao rs.length co, .slice af S.fails.length cf, .slice at' S.trace.length ct] ∧
    (Kept F w fun w' => CellsAt w' (.slice ao rs.length co) rs.length (rowC rs)) ∧ (Kept F w fun w' => CellsAt w' (.slice af S.fails.length cf) S.fails.length (failCells S.fails)) ∧
    (Kept F w fun w' => CellsAt w' (.slice at' S.trace.length ct) S.trace.length (callCells S.trace))
  vals : ∀ r ∈ rs, Kept F w fun w' => ValAt w' r.1.2.2 (rV r)
  os : osR rs = S.objs
  fit : fitO S.objs
  ris : risO S.objs
theorem RAt.step {F F' : List Nat} {w w' : World} {m : Value} {rs : List R3} {S : WS} (h : RAt F w m rs S) (hs : Spares F w w') (hF : ∀ q ∈ F', q ∈ F ∨ w.heap.size ≤ q) : RAt F' w' m rs S := by
  obtain ⟨ao, co, af, cf, at', ct, hm, h1, h2, h3⟩ := h.form
  exact ⟨⟨ao, co, af, cf, at', ct, hm, h1.step hs hF, h2.step hs hF, h3.step hs hF⟩, fun r hr => (h.vals r hr).step hs hF, h.os, h.fit, h.ris⟩
theorem RAt.below {F : List Nat} {w w' : World} {m : Value} {rs : List R3} {S : WS} (h : RAt F w m rs S) (hb : Below w.heap.size w w') : RAt F w' m rs S := h.step (Spares.of_below hb) fun _ hq => .inl hq
theorem RAt.len {F : List Nat} {w : World} {m : Value} {rs : List R3} {S : WS} (h : RAt F w m rs S) : rs.length = S.objs.length := by rw [← h.os, osR_len]
theorem RAt.objs {F : List Nat} {w : World} {ao : Option Addr} {co : Nat} {x y : Value} {rs : List R3} {S : WS} {k : Nat} (h : RAt F w (.agg #[.slice ao k co, x, y]) rs S) : ObjsAt w (.slice ao k co) S.objs := by
  obtain ⟨_, _, _, _, _, _, hm, h1, _, _⟩ := h.form
  cases hm
  rw [← h.os]
  exact objs_of_rows h1.now (fun r hr => (h.vals r hr).now) (by rw [h.os]; exact h.fit)

end Go.Proofs.YtpbipngnoklmcaaGreatDoor
namespace Go.Proofs.YtpbipngnoklmcaaGreatDoor
open Go.RowKit
set_option maxRecDepth 100000
attribute [local go_sem] str_size str_toList str_get

/-- The place of an object; below 0: there is none. -/
def AtP (rs : List R3) (t i : S8) (z : Int) : Prop := (z = -1 ∧ hasO (osR rs) t i = false) ∨ ∃ (k : Nat) (r : R3), z = k ∧ rs[k]? = some r ∧ r.1.1 = t ∧ r.1.2.1 = i
theorem AtP.has {rs : List R3} {t i : S8} {z : Int} (h : AtP rs t i z) : decide (0 ≤ z) = hasO (osR rs) t i := by
  rcases h with ⟨rfl, h⟩ | ⟨k, r, rfl, hr, h1, h2⟩
  · rw [h]
    rfl
  · have : hasO (osR rs) t i = true := by
      unfold hasO
      rw [List.any_eq_true]
      exact ⟨r.1, List.mem_map.2 ⟨r, List.mem_of_getElem? hr, rfl⟩, isO_iff.2 ⟨h1, h2⟩⟩
    rw [this]
    simp
theorem AtP.none_of {rs : List R3} {t i : S8} (h : ∀ j r, j < rs.length → rs[j]? = some r → isO t i r.1 = false) : AtP rs t i (-1) := by
  refine .inl ⟨rfl, ?_⟩
  unfold hasO
  rw [List.any_eq_false]
  intro o ho
  obtain ⟨r, hr, rfl⟩ := List.mem_map.1 ho
  obtain ⟨j, hj⟩ := List.getElem?_of_mem hr
  rw [h j r (List.getElem?_eq_some_iff.1 hj).1 hj]
  simp

set_option maxHeartbeats 2000000 in
theorem at_r (rs : List R3) (ao : Option Addr) (co : Nat) (vx vy : Value) (t i : S8) (w : World) (h : CellsAt w (.slice ao rs.length co) rs.length (rowC rs)) :
    Calls Tryz.prog 31 #[.agg #[.slice ao rs.length co, vx, vy], str t, str i] w fun e w' => ∃ z : Int, e = .returned (.int .i64 z) ∧ AtP rs t i z ∧ Below w.heap.size w w' := by
  have H := Lib.hid h
  obtain ⟨_, _, hv, hm, _⟩ := h
  cases hv
  obtain ⟨w0, hw0⟩ : ∃ w0, w0 = w.alloc (.cells #[.slice ao rs.length co, vx, vy] 32) := ⟨_, rfl⟩
  have hn0 : w0.heap[w.heap.size]? = some (.cells #[.slice ao rs.length co, vx, vy] 32 (0, 0)) := by rw [hw0]; exact heap_alloc_new _ _
  have hb0 : Below w.heap.size w w0 := by rw [hw0]; exact (Below.refl _ w).alloc (Nat.le_refl _) _
  have e0 : w0.cell? ⟨w.heap.size, 0, none⟩ = some (.slice ao rs.length co) := by rw [Lib.cell_of_heap hn0]; rfl
  have hnm : rs.length ≤ 9223372036854775807 := by omega
  clear hn0
  go_enter Tryz.func31, Tryz.ntmps31
  go_upto_region 1 with fail
  rw [← hw0]
  clear hw0
  go_wp2
  go_loopg [11] rs.length (fun gg v11 wr => ∃ k : Nat, v11 = .int .i64 k ∧ k + gg = rs.length ∧ Hid (∀ j r, j < k → rs[j]? = some r → isO t i r.1 = false) ∧ Below w0.heap.size w0 wr)
  case atStart => exact ⟨0, rfl, by omega, (fun j r hj => by omega), Below.refl _ _⟩
  case round =>
    obtain ⟨k, rfl, hk, HN, hbr⟩ := hrel
    have hB := hb0.trans (hbr.mono hb0.size)
    have hlw : w.heap.size < w0.heap.size := by
      have := World.block_lt_of_cell? w0 _ e0
      exact this
    have d0 := (hbr.cell (p := ⟨w.heap.size, 0, none⟩) hlw).trans e0
    cases gk with
    | zero =>
      obtain rfl : k = rs.length := by omega
      go_wp2
      go_ret
      exact ⟨-1, rfl, AtP.none_of HN.out, hB⟩
    | succ gg =>
      have hkl : k < rs.length := by omega
      have hki : (k : Int) < (rs.length : Int) := by omega
      obtain ⟨r, hr⟩ : ∃ r, rs[k]? = some r := ⟨_, List.getElem?_eq_getElem hkl⟩
      obtain ⟨b, off, rfl, hlt, k0, k1, _⟩ := (H.out.mono hB).obj hr
      have HK := Lib.hid hr
      clear hr
      by_cases h1 : r.1.1 = t
      · by_cases h2 : r.1.2.1 = i
        · have HR := Lib.hid (.inr ⟨k, r, rfl, HK.out, h1, h2⟩ : AtP rs t i k)
          rw [h1] at k0
          rw [h2] at k1
          clear h1 h2
          go_wp2
          go_ret
          exact ⟨_, rfl, HR.out, hB⟩
        · have q2 : (r.1.2.1 == i) = false := by simpa using h2
          have HS := Lib.hid (show ∀ j r', j < k + 1 → rs[j]? = some r' → isO t i r'.1 = false from fun j r' hj hr' => by
            by_cases hjk : j = k
            · subst hjk
              rw [HK.out] at hr'
              cases hr'
              exact isO_of_ne fun e => h2 e.2
            · exact HN.out j r' (by omega) hr')
          rw [h1] at k0
          clear h1 h2
          go_wp2
          go_roundg gg
          case measure => omega
          case rel => exact ⟨k + 1, by go_num, by omega, HS, hbr⟩
      · have q1 : (r.1.1 == t) = false := by simpa using h1
        have HS := Lib.hid (show ∀ j r', j < k + 1 → rs[j]? = some r' → isO t i r'.1 = false from fun j r' hj hr' => by
          by_cases hjk : j = k
          · subst hjk
            rw [HK.out] at hr'
            cases hr'
            exact isO_of_ne fun e => h1 e.1
          · exact HN.out j r' (by omega) hr')
        clear h1
        go_wp2
        go_roundg gg
        case measure => omega
        case rel => exact ⟨k + 1, by go_num, by omega, HS, hbr⟩

/-- A new row of objects. -/
def NewR (w : World) (rs : List R3) (v' : Value) (w' : World) : Prop := w'.ownsRow w.heap.size 47 7 v' rs.length (rowC rs) ∧ Below w.heap.size w w'
theorem NewR.nil (w : World) : NewR w [] (.slice none 0 0) w := ⟨World.ownsRow_nil _ _ _ _, Below.refl _ _⟩
theorem NewR.push {w wr w3 : World} {rs : List R3} {r : R3} {vo v' : Value} {o : Obj} (h : NewR w rs vo wr) (hown : w3.ownsRow w.heap.size 47 7 v' (rs.length + 1) (rowC rs ++ rcells r)) (hg : (wr.alloc o).grownBy w3 vo.ownBlock) : NewR w (rs ++ [r]) v' w3 := by
  refine ⟨?_, ?_⟩
  · rw [List.length_append, rowC_snoc]
    exact hown
  · have hb1 : Below w.heap.size w (wr.alloc o) := h.2.alloc h.2.size _
    exact hb1.grown hg hb1.size fun k e => (h.1.lt k e).1
theorem NewR.alloc {w wr : World} {rs : List R3} {vo : Value} (h : NewR w rs vo wr) (o : Obj) : (wr.alloc o).ownsRow w.heap.size 47 7 vo rs.length (rowC rs) := row_keep h.1 fun q hq => by
  obtain ⟨_, hh⟩ := row_block h.1 hq
  exact Below.heap_alloc _ _ q (heap_lt hh)

theorem outR_take (rs : List R3) (t i : S8) {k : Nat} {r : R3} (hr : rs[k]? = some r) : outR (rs.take (k + 1)) t i = if isO t i r.1 = true then outR (rs.take k) t i else outR (rs.take k) t i ++ [r] := by
  unfold outR
  rw [List.take_add_one, hr, List.filter_append]
  cases h : isO t i r.1 <;> simp [h]

set_option maxHeartbeats 2000000 in
theorem without_r (rs : List R3) (ao : Option Addr) (co : Nat) (t i : S8) (w : World) (h : CellsAt w (.slice ao rs.length co) rs.length (rowC rs)) (hl : rs.length ≤ 1000000) :
    Calls Tryz.prog 63 #[.slice ao rs.length co, str t, str i] w fun e w' => ∃ v', e = .returned v' ∧ NewR w (outR rs t i) v' w' := by
  obtain ⟨i1, hi1, hz1, hzs1, hzb1⟩ := info_parts (P := Tryz.prog) (e := 47) (z := .agg #[.string ⟨#[]⟩, .string ⟨#[]⟩, .int .i64 0, .bool false, .string ⟨#[]⟩, .slice none 0 0, .slice none 0 0]) (size := 7) (bytes := 112) (by kernel_rfl)
  have H := Lib.hid h
  obtain ⟨_, _, hv, hm, _⟩ := h
  cases hv
  have hnm : rs.length ≤ 9223372036854775807 := by omega
  go_enter Tryz.func63, Tryz.ntmps63
  go_wp2
  go_loopg [7, 11] rs.length (fun gg v7 v11 wr => ∃ k : Nat, v11 = .int .i64 k ∧ k + gg = rs.length ∧ Hid (NewR w (outR (rs.take k) t i) v7 wr))
  case atStart => exact ⟨0, rfl, by omega, NewR.nil w⟩
  case round =>
    obtain ⟨k, rfl, hk, HN⟩ := hrel
    have hB := HN.out.2
    cases gk with
    | zero =>
      obtain rfl : k = rs.length := by omega
      have := HN.out
      rw [List.take_length] at this
      have HF := Lib.hid this
      clear this
      go_wp2
      go_ret
      exact ⟨_, rfl, HF.out⟩
    | succ gg =>
      have hkl : k < rs.length := by omega
      have hki : (k : Int) < (rs.length : Int) := by omega
      obtain ⟨r, hr⟩ : ∃ r, rs[k]? = some r := ⟨_, List.getElem?_eq_getElem hkl⟩
      obtain ⟨b, off, rfl, hlt, k0, k1, k2, k3, k4, k5, k6⟩ := (H.out.mono hB).obj hr
      have hs := outR_take rs t i hr
      have hol : (outR (rs.take k) t i).length ≤ k := Nat.le_trans (len_outR _ _ _) (by rw [List.length_take]; omega)
      have hwr := hB.size
      obtain ⟨ai1, ci1, rfl⟩ := slice_form HN.out.1
      have HP := fun w3 v' o => NewR.push (w3 := w3) (v' := v') (r := r) (o := o) HN.out
      have HO := fun o => NewR.alloc HN.out o
      generalize outR (rs.take k) t i = acc at HN hs hol HP HO
      have HS := Lib.hid hs
      have HPH := Lib.hid HP
      have HOH := Lib.hid HO
      clear hr hs HP HO
      by_cases hc : r.1.1 = t ∧ r.1.2.1 = i
      · obtain ⟨h1, h2⟩ := hc
        have hs := HS.out
        rw [if_pos (isO_iff.2 ⟨h1, h2⟩)] at hs
        have HS2 := Lib.hid hs
        clear hs
        rw [h1] at k0
        rw [h2] at k1
        have n1 : (t != t) = false := by simp
        have n2 : (i != i) = false := by simp
        clear HS HPH HOH h1 h2
        go_wp2
        go_roundg gg
        case measure => omega
        case rel => exact ⟨k + 1, by go_num, by omega, Lib.hid (by rw [HS2.out]; exact HN.out)⟩
      · have hs := HS.out
        rw [if_neg (by rw [isO_iff]; exact hc)] at hs
        have HS2 := Lib.hid hs
        clear HS hs
        have hqq : (r.1.1 != t) = true ∨ (r.1.1 = t ∧ (r.1.2.1 != i) = true) := by
          by_cases e1 : r.1.1 = t
          · exact .inr ⟨e1, by simpa [bne] using fun e => hc ⟨e1, e⟩⟩
          · exact .inl (by simpa [bne] using e1)
        clear hc
        have hend : ∀ w3 v', w3.ownsRow w.heap.size 47 7 v' (acc.length + 1) (rowC acc ++ [str r.1.1, str r.1.2.1, .int .i64 r.1.2.2.kind, .bool r.1.2.2.flag, str r.1.2.2.text, .slice r.2.1 r.1.2.2.items.length r.2.2.1, .slice r.2.2.2.1 r.1.2.2.keys.length r.2.2.2.2]) → (wr.alloc (.cells #[str r.1.1, str r.1.2.1, .int .i64 r.1.2.2.kind, .bool r.1.2.2.flag, str r.1.2.2.text, .slice r.2.1 r.1.2.2.items.length r.2.2.1, .slice r.2.2.2.1 r.1.2.2.keys.length r.2.2.2.2] 47)).grownBy w3 (Value.slice ai1 acc.length ci1).ownBlock → NewR w (outR (rs.take (k + 1)) t i) v' w3 := fun w3 v' h1 h2 => by
          rw [HS2.out]
          exact HPH.out w3 v' _ h1 h2
        have HE := Lib.hid hend
        have HOC := Lib.hid (HOH.out (.cells #[str r.1.1, str r.1.2.1, .int .i64 r.1.2.2.kind, .bool r.1.2.2.flag, str r.1.2.2.text, .slice r.2.1 r.1.2.2.items.length r.2.2.1, .slice r.2.2.2.1 r.1.2.2.keys.length r.2.2.2.2] 47))
        have HCN := Lib.hid (cells_new wr [str r.1.1, str r.1.2.1, .int .i64 r.1.2.2.kind, .bool r.1.2.2.flag, str r.1.2.2.text, .slice r.2.1 r.1.2.2.items.length r.2.2.1, .slice r.2.2.2.1 r.1.2.2.keys.length r.2.2.2.2] 47)
        clear hend HPH HOH HS2
        rcases hqq with hq1 | ⟨rfl, hq2⟩
        · have hq3 : (r.1.1 == t) = false := by simpa [bne] using hq1
          go_wp2_with (at_builtin; refine wpList_append_fresh _ rfl (.tmp 30) (.tmp 35) 22 rfl w.heap.size 47 i1 _ 7 112 Tryz.underlying22 hi1 hz1 hzs1 hzb1 rfl (by decide) _ acc.length (rowC acc) rfl HOC.out ⟨wr.heap.size, 0, none⟩ 1 1 [str r.1.1, str r.1.2.1, .int .i64 r.1.2.2.kind, .bool r.1.2.2.flag, str r.1.2.2.text, .slice r.2.1 r.1.2.2.items.length r.2.2.1, .slice r.2.2.2.1 r.1.2.2.keys.length r.2.2.2.2] rfl rfl HCN.out (by intro y hy; simp at hy; rcases hy with rfl | rfl | rfl | rfl | rfl | rfl | rfl <;> rfl) (by unfold maxLen; omega) (by omega) (by simp; omega) ?_; intro v' w3 hown hgrow hv')
          have HF := Lib.hid (HE.out w3 v' hown hgrow)
          clear hown hgrow hv'
          go_wp2
          go_roundg gg
          case measure => omega
          case rel => exact ⟨k + 1, by go_num, by omega, HF⟩
        · have hq1 : (r.1.1 != r.1.1) = false := by simp
          have hq4 : (r.1.2.1 == i) = false := by simpa [bne] using hq2
          go_wp2_with (at_builtin; refine wpList_append_fresh _ rfl (.tmp 30) (.tmp 35) 22 rfl w.heap.size 47 i1 _ 7 112 Tryz.underlying22 hi1 hz1 hzs1 hzb1 rfl (by decide) _ acc.length (rowC acc) rfl HOC.out ⟨wr.heap.size, 0, none⟩ 1 1 [str r.1.1, str r.1.2.1, .int .i64 r.1.2.2.kind, .bool r.1.2.2.flag, str r.1.2.2.text, .slice r.2.1 r.1.2.2.items.length r.2.2.1, .slice r.2.2.2.1 r.1.2.2.keys.length r.2.2.2.2] rfl rfl HCN.out (by intro y hy; simp at hy; rcases hy with rfl | rfl | rfl | rfl | rfl | rfl | rfl <;> rfl) (by unfold maxLen; omega) (by omega) (by simp; omega) ?_; intro v' w3 hown hgrow hv')
          have HF := Lib.hid (HE.out w3 v' hown hgrow)
          clear hown hgrow hv'
          go_wp2
          go_roundg gg
          case measure => omega
          case rel => exact ⟨k + 1, by go_num, by omega, HF⟩

end Go.Proofs.YtpbipngnoklmcaaGreatDoor
