/- Values in memory: a slice of texts, a value as a tree; both stay where memory only grows. The walks of the sizes of values. Values that lie in memory of their own, with the blocks where they lie; what stays when other blocks are written. No walk. Copies between rows of elements of any size; what a row holds behind an insertion. No walk. -/
import Derived.Test.YtpbipngnoklmcaaDoorStr
import Derived.Test.YtpbipngnoklmcaaDoorMp
import Derived.Deep.Slices
import Derived.Lib.AppendZeros
import Derived.Lib.AppendZerosOnto
import Derived.Lib.Overlaps
import Derived.Laws.Externs
import Derived.Laws.IdiomCopy
import Derived.Laws.CopyRow
namespace Go.Proofs.YtpbipngnoklmcaaDoor
open Go.RowKit
set_option maxRecDepth 100000
attribute [local go_sem] str_size str_toList str_get

/-- v is a slice (perhaps nil) of these texts. -/
def StrsAt (w : World) (v : Value) (ss : List (List UInt8)) : Prop :=
  ∃ (ao : Option Addr) (cap : Nat), v = .slice ao ss.length cap ∧ (ss.length ≤ cap ∧ cap ≤ 9223372036854775807 ∧ (ao = none → cap = 0)) ∧
    (ss ≠ [] → ∃ b off, ao = some ⟨b, off, none⟩ ∧ b < w.heap.size ∧ ∀ i, i < ss.length → w.cell? ⟨b, off + i, none⟩ = some (str (ss.getD i [])))
/-- v is a slice (perhaps nil) of n rows of five cells, which are these values. -/
def RowAt (w : World) (v : Value) (n : Nat) (vs : Nat → Value) : Prop :=
  ∃ (ao : Option Addr) (cap : Nat), v = .slice ao n cap ∧ (n ≤ cap ∧ cap ≤ 9223372036854775807 ∧ (ao = none → cap = 0)) ∧
    (n ≠ 0 → ∃ b off, ao = some ⟨b, off, none⟩ ∧ b < w.heap.size ∧ ∀ i, i < n → ∃ c0 c1 c2 c3 c4, vs i = .agg #[c0, c1, c2, c3, c4] ∧
      w.cell? ⟨b, off + i * 5, none⟩ = some c0 ∧ w.cell? ⟨b, off + i * 5 + 1, none⟩ = some c1 ∧ w.cell? ⟨b, off + i * 5 + 2, none⟩ = some c2 ∧ w.cell? ⟨b, off + i * 5 + 3, none⟩ = some c3 ∧ w.cell? ⟨b, off + i * 5 + 4, none⟩ = some c4)
mutual
/-- v is the value t. -/
def ValAt (w : World) : VT → Value → Prop
  | .mk k b t its ks, v => ∃ vi vk, v = .agg #[.int .i64 k, .bool b, str t, vi, vk] ∧ (-9223372036854775808 ≤ k ∧ k ≤ 9223372036854775807 ∧ t.length ≤ 9223372036854775807) ∧ StrsAt w vk ks ∧ ∃ vs, RowAt w vi its.length vs ∧ ValsAt w its vs
def ValsAt (w : World) : List VT → (Nat → Value) → Prop
  | [], _ => True
  | x :: r, vs => ValAt w x (vs 0) ∧ ValsAt w r (fun i => vs (i + 1))
end

theorem ValsAt_iff (w : World) : ∀ (l : List VT) (vs : Nat → Value), ValsAt w l vs ↔ ∀ i (h : i < l.length), ValAt w l[i] (vs i)
  | [], vs => by simp [ValsAt]
  | x :: r, vs => by
    rw [ValsAt, ValsAt_iff w r]
    constructor
    · rintro ⟨h0, h1⟩ i hi
      cases i with
      | zero => exact h0
      | succ i => exact h1 i (by simpa using hi)
    · intro h
      exact ⟨h 0 (by simp), fun i hi => h (i + 1) (by simpa using hi)⟩

theorem StrsAt.mono {w w' : World} {v : Value} {ss : List (List UInt8)} (h : StrsAt w v ss) (hb : Below w.heap.size w w') : StrsAt w' v ss := by
  obtain ⟨ao, cap, hv, hm, hc⟩ := h
  refine ⟨ao, cap, hv, hm, fun hne => ?_⟩
  obtain ⟨b, off, ha, hlt, hcell⟩ := hc hne
  exact ⟨b, off, ha, Nat.lt_of_lt_of_le hlt hb.size, fun i hi => (hb.cell (p := ⟨b, off + i, none⟩) hlt).trans (hcell i hi)⟩
theorem RowAt.mono {w w' : World} {v : Value} {n : Nat} {vs : Nat → Value} (h : RowAt w v n vs) (hb : Below w.heap.size w w') : RowAt w' v n vs := by
  obtain ⟨ao, cap, hv, hm, hc⟩ := h
  refine ⟨ao, cap, hv, hm, fun hne => ?_⟩
  obtain ⟨b, off, ha, hlt, hcell⟩ := hc hne
  refine ⟨b, off, ha, Nat.lt_of_lt_of_le hlt hb.size, fun i hi => ?_⟩
  obtain ⟨c0, c1, c2, c3, c4, hvs, h0, h1, h2, h3, h4⟩ := hcell i hi
  exact ⟨c0, c1, c2, c3, c4, hvs, (hb.cell (p := ⟨b, off + i * 5, none⟩) hlt).trans h0, (hb.cell (p := ⟨b, off + i * 5 + 1, none⟩) hlt).trans h1, (hb.cell (p := ⟨b, off + i * 5 + 2, none⟩) hlt).trans h2, (hb.cell (p := ⟨b, off + i * 5 + 3, none⟩) hlt).trans h3, (hb.cell (p := ⟨b, off + i * 5 + 4, none⟩) hlt).trans h4⟩
theorem ValAt.mono {w w' : World} (hb : Below w.heap.size w w') {t : VT} : ∀ {v : Value}, ValAt w t v → ValAt w' t v := by
  induction t using VT.ind with
  | h k b t its ks ih =>
    intro v h
    rw [ValAt] at h ⊢
    obtain ⟨vi, vk, hv, hk, hs, vs, hr, hvs⟩ := h
    refine ⟨vi, vk, hv, hk, hs.mono hb, vs, hr.mono hb, ?_⟩
    rw [ValsAt_iff] at hvs ⊢
    exact fun i hi => ih _ (List.getElem_mem hi) (hvs i hi)
theorem ValsAt.mono {w w' : World} (hb : Below w.heap.size w w') {l : List VT} {vs : Nat → Value} (h : ValsAt w l vs) : ValsAt w' l vs := by
  rw [ValsAt_iff] at h ⊢
  exact fun i hi => (h i hi).mono hb

theorem ValAt.agg {w : World} {t : VT} {v : Value} (h : ValAt w t v) : ∃ vi vk vs, v = .agg #[.int .i64 t.kind, .bool t.flag, str t.text, vi, vk] ∧ (-9223372036854775808 ≤ t.kind ∧ t.kind ≤ 9223372036854775807 ∧ t.text.length ≤ 9223372036854775807) ∧ StrsAt w vk t.keys ∧ RowAt w vi t.items.length vs ∧ ValsAt w t.items vs := by
  cases t with
  | mk k b t its ks =>
    rw [ValAt] at h
    obtain ⟨vi, vk, hv, hk, hs, vs, hr, hvs⟩ := h
    exact ⟨vi, vk, vs, hv, hk, hs, hr, hvs⟩

/-- An element of a row, cell by cell. -/
theorem RowAt.get {w : World} {ao : Option Addr} {n n' cap : Nat} {vs : Nat → Value} {l : List VT} (h : RowAt w (.slice ao n cap) n' vs) (hn : n' = l.length) (hv : ValsAt w l vs) {i : Nat} (hi : i < l.length) :
    ∃ b off vi vk, ao = some ⟨b, off, none⟩ ∧ b < w.heap.size ∧ vs i = .agg #[.int .i64 l[i].kind, .bool l[i].flag, str l[i].text, vi, vk] ∧ ValAt w l[i] (vs i) ∧
      w.cell? ⟨b, off + i * 5, none⟩ = some (.int .i64 l[i].kind) ∧ w.cell? ⟨b, off + i * 5 + 1, none⟩ = some (.bool l[i].flag) ∧ w.cell? ⟨b, off + i * 5 + 2, none⟩ = some (str l[i].text) ∧ w.cell? ⟨b, off + i * 5 + 3, none⟩ = some vi ∧ w.cell? ⟨b, off + i * 5 + 4, none⟩ = some vk := by
  subst hn
  obtain ⟨ao', cap', hv', hm, hc⟩ := h
  cases hv'
  obtain ⟨b, off, ha, hb, hcell⟩ := hc (by omega)
  obtain ⟨c0, c1, c2, c3, c4, hvs, h0, h1, h2, h3, h4⟩ := hcell i hi
  have hx := (ValsAt_iff w l vs).1 hv i hi
  obtain ⟨vi, vk, vs', hg, _⟩ := hx.agg
  rw [hvs] at hg
  injection hg with hg
  injection hg with hg
  simp only [List.cons.injEq, and_true] at hg
  obtain ⟨rfl, rfl, rfl, rfl, rfl⟩ := hg
  exact ⟨b, off, _, _, ha, hb, hvs, hx, h0, h1, h2, h3, h4⟩
theorem StrsAt.get {w : World} {ao : Option Addr} {n cap : Nat} {ss : List (List UInt8)} (h : StrsAt w (.slice ao n cap) ss) {i : Nat} (hi : i < ss.length) : ∃ b off, ao = some ⟨b, off, none⟩ ∧ b < w.heap.size ∧ w.cell? ⟨b, off + i, none⟩ = some (str (ss.getD i [])) := by
  obtain ⟨ao', cap', hv, hm, hc⟩ := h
  cases hv
  obtain ⟨b, off, ha, hb, hcell⟩ := hc (by intro e; simp [e] at hi)
  exact ⟨b, off, ha, hb, hcell i hi⟩
theorem StrsAt.nil (w : World) : StrsAt w (.slice none 0 0) [] := ⟨none, 0, rfl, by simp, fun h => absurd rfl h⟩
theorem RowAt.nil (w : World) (vs : Nat → Value) : RowAt w (.slice none 0 0) 0 vs := ⟨none, 0, rfl, by simp, fun h => absurd rfl h⟩

end Go.Proofs.YtpbipngnoklmcaaDoor
namespace Go.Proofs.YtpbipngnoklmcaaDoor
open Go.RowKit
set_option maxRecDepth 100000
attribute [local go_sem] str_size str_toList str_get

/-- A value as it is passed: its slices written out. -/
theorem ValAt.form {w : World} {t : VT} {v : Value} (h : ValAt w t v) : ∃ ai ci ak ck, v = .agg #[.int .i64 t.kind, .bool t.flag, str t.text, .slice ai t.items.length ci, .slice ak t.keys.length ck] := by
  obtain ⟨vi, vk, vs, rfl, _, ⟨ak, ck, rfl, _⟩, ⟨ai, ci, rfl, _⟩, _⟩ := h.agg
  exact ⟨ai, ci, ak, ck, rfl⟩
/-- An element of a row, in a world that has only grown. -/
theorem RowAt.at {w w' : World} {ao : Option Addr} {n cap : Nat} {vs : Nat → Value} {l : List VT} (h : RowAt w (.slice ao n cap) l.length vs) (hv : ValsAt w l vs) (hb : Below w.heap.size w w') {i : Nat} (hi : i < l.length) :
    ∃ b off ai ci ak ck, ao = some ⟨b, off, none⟩ ∧ b < w'.heap.size ∧ ValAt w' l[i] (.agg #[.int .i64 l[i].kind, .bool l[i].flag, str l[i].text, .slice ai l[i].items.length ci, .slice ak l[i].keys.length ck]) ∧
      w'.cell? ⟨b, off + i * 5, none⟩ = some (.int .i64 l[i].kind) ∧ w'.cell? ⟨b, off + i * 5 + 1, none⟩ = some (.bool l[i].flag) ∧ w'.cell? ⟨b, off + i * 5 + 2, none⟩ = some (str l[i].text) ∧ w'.cell? ⟨b, off + i * 5 + 3, none⟩ = some (.slice ai l[i].items.length ci) ∧ w'.cell? ⟨b, off + i * 5 + 4, none⟩ = some (.slice ak l[i].keys.length ck) := by
  obtain ⟨b, off, vi, vk, ha, hlt, he, hx, h0, h1, h2, h3, h4⟩ := RowAt.get h rfl hv hi
  obtain ⟨ai, ci, ak, ck, hf⟩ := hx.form
  rw [he] at hf hx
  injection hf with hf
  injection hf with hf
  simp only [List.cons.injEq, and_true, true_and] at hf
  obtain ⟨rfl, rfl⟩ := hf
  exact ⟨b, off, ai, ci, ak, ck, ha, Nat.lt_of_lt_of_le hlt hb.size, hx.mono hb, (hb.cell (p := ⟨b, off + i * 5, none⟩) hlt).trans h0, (hb.cell (p := ⟨b, off + i * 5 + 1, none⟩) hlt).trans h1, (hb.cell (p := ⟨b, off + i * 5 + 2, none⟩) hlt).trans h2, (hb.cell (p := ⟨b, off + i * 5 + 3, none⟩) hlt).trans h3, (hb.cell (p := ⟨b, off + i * 5 + 4, none⟩) hlt).trans h4⟩

end Go.Proofs.YtpbipngnoklmcaaDoor
namespace Go.Proofs.YtpbipngnoklmcaaDoor
open Go.RowKit
set_option maxRecDepth 100000

theorem sizeL_mem {l : List VT} {x : VT} (h : x ∈ l) : sizeV x ≤ sizeL l := by
  induction l with
  | nil => cases h
  | cons y r ih =>
    rw [sizeL]
    rcases List.mem_cons.1 h with rfl | h
    · omega
    · have := ih h; omega
/-- All blocks but these stay; memory only grows. -/
structure Spares (F : List Nat) (w w' : World) : Prop where
  os : w'.os = w.os
  tape : w'.tape = w.tape
  output : w'.output = w.output
  size : w.heap.size ≤ w'.heap.size
  block : ∀ k, k < w.heap.size → k ∉ F → w'.heap[k]? = w.heap[k]?
theorem Spares.refl (F : List Nat) (w : World) : Spares F w w := ⟨rfl, rfl, rfl, Nat.le_refl _, fun _ _ _ => rfl⟩
theorem Spares.trans {F : List Nat} {a b c : World} (h : Spares F a b) (k : Spares F b c) : Spares F a c :=
  ⟨k.os.trans h.os, k.tape.trans h.tape, k.output.trans h.output, Nat.le_trans h.size k.size, fun i hi hn => (k.block i (Nat.lt_of_lt_of_le hi h.size) hn).trans (h.block i hi hn)⟩
theorem Spares.sub {F G : List Nat} {a b : World} (h : Spares F a b) (hs : ∀ k, k ∈ F → k < a.heap.size → k ∈ G) : Spares G a b :=
  ⟨h.os, h.tape, h.output, h.size, fun k hk hn => h.block k hk (fun hf => hn (hs k hf hk))⟩
theorem Spares.of_below {F : List Nat} {a b : World} (h : Below a.heap.size a b) : Spares F a b := ⟨h.os, h.tape, h.output, h.size, fun k hk _ => h.block k hk⟩
theorem Spares.below {F : List Nat} {B : Nat} {a b : World} (h : Spares F a b) (hB : B ≤ a.heap.size) (hF : ∀ k ∈ F, B ≤ k) : Below B a b :=
  ⟨h.os, h.tape, h.output, h.size, fun k hk => h.block k (by omega) (fun hf => by have := hF k hf; omega)⟩
theorem Spares.grown {F : List Nat} {a b : World} {row : Option Nat} (h : a.grownBy b row) (hF : ∀ k, row = some k → k ∈ F) : Spares F a b :=
  ⟨h.os, h.tape, h.output, h.size, fun k hk hn => h.block k hk (fun e => hn (hF k e.symm))⟩
theorem Below.spared {F : List Nat} {B : Nat} {a b c : World} (h : Below B a b) (k : Spares F b c) (hB : B ≤ b.heap.size) (hF : ∀ k ∈ F, B ≤ k) : Below B a c := h.trans (k.below hB hF)

/-- v is a slice in a row of its own of n elements of so many cells, which hold xs: its one block (none, where it is nil). -/
def OwnS (w : World) (e : TypeId) (size : Nat) (v : Value) (n : Nat) (xs : List Value) (F : List Nat) : Prop := w.ownsRow 0 e size v n xs ∧ F = v.ownBlock.toList
theorem OwnS.nil (w : World) (e : TypeId) (size : Nat) : OwnS w e size (.slice none 0 0) 0 [] [] := ⟨World.ownsRow_nil w 0 e size, rfl⟩
theorem ownsRow_zero {w : World} {base : Nat} {e : TypeId} {size : Nat} {v : Value} {n : Nat} {xs : List Value} (h : w.ownsRow base e size v n xs) : w.ownsRow 0 e size v n xs := by
  refine ⟨h.1, ?_⟩
  rcases h.2 with h2 | ⟨g, cap, cur, hv, hg, r⟩
  · exact .inl h2
  · exact .inr ⟨g, cap, cur, hv, Nat.zero_le _, r⟩
theorem OwnS.row {w : World} {base : Nat} {e : TypeId} {size : Nat} {v : Value} {n : Nat} {xs : List Value} (h : w.ownsRow base e size v n xs) :
    ∃ F, OwnS w e size v n xs F ∧ (∀ b ∈ F, base ≤ b ∧ b < w.heap.size) ∧ F = v.ownBlock.toList :=
  ⟨_, ⟨ownsRow_zero h, rfl⟩, fun b hb => h.lt b (by simpa using hb), rfl⟩
theorem OwnS.lt {w : World} {e : TypeId} {size : Nat} {v : Value} {n : Nat} {xs : List Value} {F : List Nat} (h : OwnS w e size v n xs F) : ∀ b ∈ F, b < w.heap.size := by
  obtain ⟨h, rfl⟩ := h
  exact fun b hb => (h.lt b (by simpa using hb)).2
theorem OwnS.keep {w w' : World} {e : TypeId} {size : Nat} {v : Value} {n : Nat} {xs : List Value} {F : List Nat} (h : OwnS w e size v n xs F) (hk : ∀ b ∈ F, w'.heap[b]? = w.heap[b]?) : OwnS w' e size v n xs F := by
  obtain ⟨h, rfl⟩ := h
  refine ⟨⟨h.1, ?_⟩, rfl⟩
  rcases h.2 with h2 | ⟨g, cap, cur, rfl, hb, hg, r⟩
  · exact .inl h2
  · exact .inr ⟨g, cap, cur, rfl, hb, (hk g (by simp [Value.ownBlock])).trans hg, r⟩
theorem OwnS.nodup {w : World} {e : TypeId} {size : Nat} {v : Value} {n : Nat} {xs : List Value} {F : List Nat} (h : OwnS w e size v n xs F) : F.Nodup := by
  obtain ⟨h, rfl⟩ := h
  cases v.ownBlock <;> simp
theorem OwnS.form {w : World} {e : TypeId} {size : Nat} {v : Value} {n : Nat} {xs : List Value} {F : List Nat} (h : OwnS w e size v n xs F) : ∃ a c, v = .slice a n c ∧ n ≤ c ∧ c ≤ 9223372036854775807 ∧ xs.length = n * size := by
  obtain ⟨h, rfl⟩ := h
  rcases h.2 with ⟨rfl, rfl⟩ | ⟨g, cap, cur, rfl, hb, hg, h1, h2, _⟩
  · exact ⟨_, _, rfl, by omega, by omega, by simpa using h.1⟩
  · exact ⟨_, _, rfl, h1, by unfold maxLen at h2; omega, h.1⟩

theorem infoS : (Tryd.prog.info? 9).map (fun i => (i.zero, i.size, i.bytes)) = some (some (.string ⟨#[]⟩), 1, 16) := by kernel_rfl
theorem infoVal : (Tryd.prog.info? 27).map (fun i => (i.zero, i.size, i.bytes)) = some (some (.agg #[.int .i64 0, .bool false, .string ⟨#[]⟩, .slice none 0 0, .slice none 0 0]), 5, 80) := by kernel_rfl
def strV (ss : List (List UInt8)) : List Value := ss.map str
/-- The cells of values, one after another. -/
def cellsV (vs : List Value) : List Value := vs.flatMap fun v => v.cells.toList
theorem cellsV_len {vs : List Value} (h : ∀ v ∈ vs, v.cells.size = 5) : (cellsV vs).length = vs.length * 5 := by
  induction vs with
  | nil => rfl
  | cons v r ih =>
    have := ih (fun x hx => h x (by simp [hx]))
    have h5 := h v (by simp)
    simp only [cellsV, List.flatMap_cons, List.length_append, Array.length_toList, List.length_cons] at this ⊢
    omega
theorem cellsV_append (a b : List Value) : cellsV (a ++ b) = cellsV a ++ cellsV b := by simp [cellsV]
theorem cellsV_take {vs : List Value} (h : ∀ v ∈ vs, v.cells.size = 5) (i : Nat) : cellsV (vs.take i) = (cellsV vs).take (i * 5) := by
  induction vs generalizing i with
  | nil => simp [cellsV]
  | cons v r ih =>
    have := ih (fun x hx => h x (by simp [hx]))
    have h5 := h v (by simp)
    cases i with
    | zero => simp [cellsV]
    | succ i =>
      have e := this i
      simp only [cellsV, List.take_succ_cons, List.flatMap_cons] at e ⊢
      rw [e, List.take_append]
      congr 1
      · rw [List.take_of_length_le (by simp; omega)]
      · congr 1
        simp
        omega
theorem cellsV_drop {vs : List Value} (h : ∀ v ∈ vs, v.cells.size = 5) (i : Nat) : cellsV (vs.drop i) = (cellsV vs).drop (i * 5) := by
  have e := cellsV_append (vs.take i) (vs.drop i)
  rw [List.take_append_drop, cellsV_take h] at e
  have e2 := List.take_append_drop (i * 5) (cellsV vs)
  exact List.append_cancel_left (e.symm.trans e2.symm)
theorem cellsV_get {vs : List Value} (h : ∀ v ∈ vs, v.cells.size = 5) {i : Nat} (hi : i < vs.length) {j : Nat} (hj : j < 5) : (cellsV vs)[i * 5 + j]? = vs[i].cells[j]? := by
  have e : vs = vs.take i ++ (vs[i] :: vs.drop (i + 1)) := by simp
  have hl : (cellsV (vs.take i)).length = i * 5 := by
    rw [cellsV_len (fun v hv => h v (List.mem_of_mem_take hv)), List.length_take, Nat.min_eq_left (by omega)]
  have h5 := h vs[i] (List.getElem_mem hi)
  have e2 : cellsV vs = cellsV (vs.take i) ++ (vs[i].cells.toList ++ cellsV (vs.drop (i + 1))) := by
    conv => lhs; rw [e, cellsV_append]
    congr 1
  rw [e2, List.getElem?_append_right (by omega), hl, Nat.add_sub_cancel_left, List.getElem?_append_left (by simp; omega)]
  simp

mutual
/-- v is the value t; all that it reaches lies in these blocks, each its own. -/
def OwnVal (w : World) : VT → Value → List Nat → Prop
  | .mk k b t its ks, v, F => ∃ vi vk xs Fk Fi Fs, v = .agg #[.int .i64 k, .bool b, str t, vi, vk] ∧ (-9223372036854775808 ≤ k ∧ k ≤ 9223372036854775807 ∧ t.length ≤ 9223372036854775807) ∧
      OwnS w 9 1 vk ks.length (strV ks) Fk ∧ OwnS w 27 5 vi its.length (cellsV xs) Fi ∧ xs.length = its.length ∧ F = Fk ++ (Fi ++ Fs) ∧ OwnVals w its xs Fs
def OwnVals (w : World) : List VT → List Value → List Nat → Prop
  | [], xs, F => xs = [] ∧ F = []
  | t :: r, xs, F => ∃ x ys Fx Fr, xs = x :: ys ∧ F = Fx ++ Fr ∧ OwnVal w t x Fx ∧ OwnVals w r ys Fr
end
theorem OwnVal.form {w : World} {t : VT} {v : Value} {F : List Nat} (h : OwnVal w t v F) : ∃ vi vk xs Fk Fi Fs, v = .agg #[.int .i64 t.kind, .bool t.flag, str t.text, vi, vk] ∧ (-9223372036854775808 ≤ t.kind ∧ t.kind ≤ 9223372036854775807 ∧ t.text.length ≤ 9223372036854775807) ∧
      OwnS w 9 1 vk t.keys.length (strV t.keys) Fk ∧ OwnS w 27 5 vi t.items.length (cellsV xs) Fi ∧ xs.length = t.items.length ∧ F = Fk ++ (Fi ++ Fs) ∧ OwnVals w t.items xs Fs := by
  cases t with
  | mk k b t its ks =>
    rw [OwnVal] at h
    exact h
theorem OwnVals.len {w : World} : ∀ {ts : List VT} {xs : List Value} {F : List Nat}, OwnVals w ts xs F → xs.length = ts.length
  | [], xs, F, h => by rw [OwnVals] at h; simp [h.1]
  | t :: r, xs, F, h => by
    rw [OwnVals] at h
    obtain ⟨x, ys, Fx, Fr, rfl, rfl, _, h2⟩ := h
    simp [h2.len]
theorem OwnVal.cells {w : World} {t : VT} {v : Value} {F : List Nat} (h : OwnVal w t v F) : v.cells.size = 5 := by
  obtain ⟨vi, vk, xs, Fk, Fi, Fs, rfl, _⟩ := h.form
  rfl
theorem OwnVals.cells {w : World} : ∀ {ts : List VT} {xs : List Value} {F : List Nat}, OwnVals w ts xs F → ∀ x ∈ xs, x.cells.size = 5
  | [], xs, F, h => by rw [OwnVals] at h; simp [h.1]
  | t :: r, xs, F, h => by
    rw [OwnVals] at h
    obtain ⟨x, ys, Fx, Fr, rfl, rfl, h1, h2⟩ := h
    intro y hy
    rcases List.mem_cons.1 hy with rfl | hy
    · exact h1.cells
    · exact h2.cells y hy
theorem OwnVal.keep {w w' : World} {t : VT} : ∀ {v : Value} {F : List Nat}, OwnVal w t v F → (∀ b ∈ F, w'.heap[b]? = w.heap[b]?) → OwnVal w' t v F := by
  induction t using VT.ind with
  | h k b t its ks ih =>
    intro v F h hk
    rw [OwnVal] at h ⊢
    obtain ⟨vi, vk, xs, Fk, Fi, Fs, hv, hb, h1, h2, hl, rfl, h3⟩ := h
    refine ⟨vi, vk, xs, Fk, Fi, Fs, hv, hb, h1.keep (fun b hb => hk b (by simp [hb])), h2.keep (fun b hb => hk b (by simp [hb])), hl, rfl, ?_⟩
    have hk3 : ∀ b ∈ Fs, w'.heap[b]? = w.heap[b]? := fun b hb => hk b (by simp [hb])
    clear hv hl h2 hk
    induction its generalizing xs Fs with
    | nil => rw [OwnVals] at h3 ⊢; exact h3
    | cons t r ihr =>
      rw [OwnVals] at h3 ⊢
      obtain ⟨x, ys, Fx, Fr, rfl, rfl, hx, hr⟩ := h3
      exact ⟨x, ys, Fx, Fr, rfl, rfl, ih t (by simp) hx (fun b hb => hk3 b (by simp [hb])), ihr (fun y hy => ih y (by simp [hy])) ys Fr hr (fun b hb => hk3 b (by simp [hb]))⟩
theorem OwnVals.keep {w w' : World} : ∀ {ts : List VT} {xs : List Value} {F : List Nat}, OwnVals w ts xs F → (∀ b ∈ F, w'.heap[b]? = w.heap[b]?) → OwnVals w' ts xs F
  | [], xs, F, h, _ => by rw [OwnVals] at h ⊢; exact h
  | t :: r, xs, F, h, hk => by
    rw [OwnVals] at h ⊢
    obtain ⟨x, ys, Fx, Fr, rfl, rfl, hx, hr⟩ := h
    exact ⟨x, ys, Fx, Fr, rfl, rfl, hx.keep (fun b hb => hk b (by simp [hb])), hr.keep (fun b hb => hk b (by simp [hb]))⟩
theorem OwnVal.lt {w : World} {t : VT} : ∀ {v : Value} {F : List Nat}, OwnVal w t v F → ∀ b ∈ F, b < w.heap.size := by
  induction t using VT.ind with
  | h k b t its ks ih =>
    intro v F h c hc
    rw [OwnVal] at h
    obtain ⟨vi, vk, xs, Fk, Fi, Fs, hv, hb, h1, h2, hl, rfl, h3⟩ := h
    rw [List.mem_append, List.mem_append] at hc
    rcases hc with hc | hc | hc
    · exact h1.lt c hc
    · exact h2.lt c hc
    · clear hv hl h2 h1
      induction its generalizing xs Fs with
      | nil => rw [OwnVals] at h3; rw [h3.2] at hc; cases hc
      | cons t r ihr =>
        rw [OwnVals] at h3
        obtain ⟨x, ys, Fx, Fr, rfl, rfl, hx, hr⟩ := h3
        rcases List.mem_append.1 hc with hc | hc
        · exact ih t (by simp) hx c hc
        · exact ihr (fun y hy => ih y (by simp [hy])) ys Fr hr hc
theorem OwnVals.lt {w : World} : ∀ {ts : List VT} {xs : List Value} {F : List Nat}, OwnVals w ts xs F → ∀ b ∈ F, b < w.heap.size
  | [], xs, F, h => by rw [OwnVals] at h; simp [h.2]
  | t :: r, xs, F, h => by
    rw [OwnVals] at h
    obtain ⟨x, ys, Fx, Fr, rfl, rfl, hx, hr⟩ := h
    intro b hb
    rcases List.mem_append.1 hb with hb | hb
    · exact hx.lt b hb
    · exact hr.lt b hb
theorem OwnVals.append {w : World} : ∀ {ts us : List VT} {xs ys : List Value} {F G : List Nat}, OwnVals w ts xs F → OwnVals w us ys G → OwnVals w (ts ++ us) (xs ++ ys) (F ++ G)
  | [], us, xs, ys, F, G, h, k => by
    rw [OwnVals] at h
    rw [h.1, h.2]
    exact k
  | t :: r, us, xs, ys, F, G, h, k => by
    rw [OwnVals] at h
    obtain ⟨x, zs, Fx, Fr, rfl, rfl, hx, hr⟩ := h
    rw [List.cons_append, OwnVals]
    exact ⟨x, zs ++ ys, Fx, Fr ++ G, rfl, by simp, hx, hr.append k⟩
theorem OwnVals.split {w : World} : ∀ {ts : List VT} {xs : List Value} {F : List Nat} (i : Nat), OwnVals w ts xs F → ∃ G H, F = G ++ H ∧ OwnVals w (ts.take i) (xs.take i) G ∧ OwnVals w (ts.drop i) (xs.drop i) H
  | [], xs, F, i, h => by
    rw [OwnVals] at h
    obtain ⟨rfl, rfl⟩ := h
    exact ⟨[], [], rfl, by simp [OwnVals], by simp [OwnVals]⟩
  | t :: r, xs, F, 0, h => ⟨[], F, rfl, by simp [OwnVals], by simpa using h⟩
  | t :: r, xs, F, i + 1, h => by
    rw [OwnVals] at h
    obtain ⟨x, zs, Fx, Fr, rfl, rfl, hx, hr⟩ := h
    obtain ⟨G, H, rfl, h1, h2⟩ := hr.split i
    refine ⟨Fx ++ G, H, by simp, ?_, by simpa using h2⟩
    rw [List.take_succ_cons, List.take_succ_cons, OwnVals]
    exact ⟨x, _, Fx, G, rfl, rfl, hx, h1⟩
theorem OwnVals.one {w : World} {t : VT} {x : Value} {F : List Nat} (h : OwnVal w t x F) : OwnVals w [t] [x] F := by
  rw [OwnVals]
  exact ⟨x, [], F, [], rfl, by simp, h, by rw [OwnVals]; exact ⟨rfl, rfl⟩⟩
theorem OwnVals.head {w : World} {t : VT} {ts : List VT} {xs : List Value} {F : List Nat} (h : OwnVals w (t :: ts) xs F) : ∃ x ys Fx Fr, xs = x :: ys ∧ F = Fx ++ Fr ∧ OwnVal w t x Fx ∧ OwnVals w ts ys Fr := by
  rw [OwnVals] at h
  exact h

/-- What is one's own reads as what it is. -/
theorem OwnS.strs {w : World} {v : Value} {ss : List (List UInt8)} {F : List Nat} (h : OwnS w 9 1 v ss.length (strV ss) F) : StrsAt w v ss := by
  obtain ⟨h, rfl⟩ := h
  have h0 := h
  rcases h.2 with ⟨rfl, hz⟩ | ⟨g, cap, cur, rfl, hb, hg, h1, h2, _⟩
  · have : ss = [] := List.eq_nil_of_length_eq_zero hz
    subst this
    exact StrsAt.nil w
  · have hlt := (h0.lt _ rfl).2
    have hc := h0.cellAt
    refine ⟨_, cap, rfl, ⟨h1, by unfold maxLen at h2; omega, fun e => by cases e⟩, fun _ => ⟨g, 0, rfl, hlt, fun i hi => ?_⟩⟩
    rw [Nat.zero_add, hc i (by omega)]
    simp [strV, List.getD, hi]
theorem OwnS.rows {w : World} {v : Value} {n : Nat} {xs : List Value} {F : List Nat} (h : OwnS w 27 5 v n (cellsV xs) F) (hl : xs.length = n) (h5 : ∀ x ∈ xs, ∃ c0 c1 c2 c3 c4, x = .agg #[c0, c1, c2, c3, c4]) : RowAt w v n (fun i => xs.getD i default) := by
  obtain ⟨h, rfl⟩ := h
  have h0 := h
  rcases h.2 with ⟨rfl, rfl⟩ | ⟨g, cap, cur, rfl, hb, hg, h1, h2, _⟩
  · exact RowAt.nil w _
  · have hlt := (h0.lt _ rfl).2
    have hc := h0.cellAt
    have h5' : ∀ x ∈ xs, x.cells.size = 5 := fun x hx => by obtain ⟨_, _, _, _, _, rfl⟩ := h5 x hx; rfl
    · refine ⟨_, cap, rfl, ⟨h1, by unfold maxLen at h2; omega, fun e => by cases e⟩, fun _ => ⟨g, 0, rfl, hlt, fun i hi => ?_⟩⟩
      have hix : i < xs.length := by omega
      obtain ⟨c0, c1, c2, c3, c4, hx⟩ := h5 _ (List.getElem_mem hix)
      have q : ∀ j, j < 5 → w.cell? ⟨g, 0 + i * 5 + j, none⟩ = xs[i].cells[j]? := fun j hj => by
        rw [Nat.zero_add, hc (i * 5 + j) (by omega)]
        exact cellsV_get h5' hix hj
      rw [hx] at q
      refine ⟨c0, c1, c2, c3, c4, by simp [List.getD, hix, hx], ?_, ?_, ?_, ?_, ?_⟩
      · exact q 0 (by omega)
      · exact q 1 (by omega)
      · exact q 2 (by omega)
      · exact q 3 (by omega)
      · exact q 4 (by omega)
theorem OwnVals.agg {w : World} : ∀ {ts : List VT} {xs : List Value} {F : List Nat}, OwnVals w ts xs F → ∀ x ∈ xs, ∃ c0 c1 c2 c3 c4, x = .agg #[c0, c1, c2, c3, c4]
  | [], xs, F, h => by rw [OwnVals] at h; simp [h.1]
  | t :: r, xs, F, h => by
    rw [OwnVals] at h
    obtain ⟨x, ys, Fx, Fr, rfl, rfl, h1, h2⟩ := h
    intro y hy
    rcases List.mem_cons.1 hy with rfl | hy
    · obtain ⟨vi, vk, xs, Fk, Fi, Fs, rfl, _⟩ := h1.form
      exact ⟨_, _, _, _, _, rfl⟩
    · exact h2.agg y hy
theorem OwnVal.at {w : World} {t : VT} : ∀ {v : Value} {F : List Nat}, OwnVal w t v F → ValAt w t v := by
  induction t using VT.ind with
  | h k b t its ks ih =>
    intro v F h
    rw [OwnVal] at h
    rw [ValAt]
    obtain ⟨vi, vk, xs, Fk, Fi, Fs, hv, hb, h1, h2, hl, rfl, h3⟩ := h
    refine ⟨vi, vk, hv, hb, h1.strs, _, h2.rows hl h3.agg, ?_⟩
    rw [ValsAt_iff]
    clear hv hl h2
    induction its generalizing xs Fs with
    | nil => intro i hi; cases hi
    | cons t r ihr =>
      rw [OwnVals] at h3
      obtain ⟨x, ys, Fx, Fr, rfl, rfl, hx, hr⟩ := h3
      intro i hi
      cases i with
      | zero => exact ih t (by simp) hx
      | succ i => exact ihr (fun y hy => ih y (by simp [hy])) ys Fr hr i (by simpa using hi)
theorem OwnVals.at {w : World} {ts : List VT} {xs : List Value} {F : List Nat} (h : OwnVals w ts xs F) : ValsAt w ts (fun i => xs.getD i default) := by
  rw [ValsAt_iff]
  induction ts generalizing xs F with
  | nil => intro i hi; cases hi
  | cons t r ihr =>
    rw [OwnVals] at h
    obtain ⟨x, ys, Fx, Fr, rfl, rfl, hx, hr⟩ := h
    intro i hi
    cases i with
    | zero => exact hx.at
    | succ i => exact ihr hr i (by simpa using hi)

end Go.Proofs.YtpbipngnoklmcaaDoor
namespace Go.Proofs.YtpbipngnoklmcaaDoor
open Go.RowKit
set_option maxRecDepth 100000

theorem run_copy_rowN {P : Program} (w : World) (size : Nat) (dT sT ty elem : TypeId) (g o dLen dCap : Nat) (a : Addr) (sLen sCap : Nat) (cur : Array Value) (t : TypeId) (cs : List Value)
    (hu : P.underlying dT = some (.slice elem)) (hs : (P.info? elem).map (·.size) = some size)
    (hg : w.heap[g]? = some (.cells cur t (0, 0))) (hn : cs.length = Nat.min sLen dLen * size)
    (hsrc : ∀ j v, cs[j]? = some v → w.cell? (a.add j) = some v) (hfit : o + cs.length ≤ cur.size) (h1 : ∀ v ∈ cs, v.oneCell' = true) :
    (Builtin.copy_ #[dT, sT] ty #[.slice (some ⟨g, o, none⟩) dLen dCap, .slice (some a) sLen sCap]).run P w =
      .ok (goInt (Nat.min sLen dLen)) (w.setRow g (cur.toList.take o ++ cs ++ cur.toList.drop (o + cs.length)).toArray) := by
  have hl := run_loadCells_list (P := P) w a cs hsrc
  have hst := run_storeCells_at P g o t cs 0 cur w hg (by simpa using hfit) h1
  cases hq : P.info? elem with
  | none => simp [hq] at hs
  | some i =>
    have hi : i.size = size := by simpa [hq] using hs
    simp [Builtin.copy_, run_underlying hu, Builtin.lenOf, Builtin.firstCells, sizeOf, typeInfo, hq, hi, ← hn, hl, hst]

theorem heap_setRow {w : World} {g : Nat} {cur new : Array Value} {t : TypeId} (h : w.heap[g]? = some (.cells cur t (0, 0))) : (w.setRow g new).heap[g]? = some (.cells new t (0, 0)) := by
  simp [World.setRow, Array.getElem?_modify, h]
theorem heap_setRow_ne {w : World} {g k : Nat} {new : Array Value} (h : k ≠ g) : (w.setRow g new).heap[k]? = w.heap[k]? := by
  simp [World.setRow, Array.getElem?_modify, Ne.symm h]
theorem setRow_size (w : World) (g : Nat) (new : Array Value) : (w.setRow g new).heap.size = w.heap.size := by simp [World.setRow]
theorem grown_setRow (w : World) (g : Nat) (new : Array Value) : w.grownBy (w.setRow g new) (some g) :=
  ⟨rfl, rfl, rfl, by rw [setRow_size]; exact Nat.le_refl _, fun k _ hk => heap_setRow_ne (fun e => hk (by rw [e]))⟩

/-- What two copies make of a row with one element more. -/
theorem shift_row {α : Type} {cur A B news : List α} {s : Nat} (hA : cur.take (A.length + B.length) = A ++ B) (hn : news.length = s) (hl : A.length + B.length + s ≤ cur.length) :
    (((cur.take (A.length + s) ++ B ++ cur.drop (A.length + s + B.length)).take A.length ++ news ++ (cur.take (A.length + s) ++ B ++ cur.drop (A.length + s + B.length)).drop (A.length + news.length)).take (A.length + B.length + s)) = A ++ news ++ B ∧
    ((cur.take (A.length + s) ++ B ++ cur.drop (A.length + s + B.length)).take A.length ++ news ++ (cur.take (A.length + s) ++ B ++ cur.drop (A.length + s + B.length)).drop (A.length + news.length)).length = cur.length := by
  have e1 : cur.take (A.length + s) = A ++ (cur.take (A.length + s)).drop A.length := by
    conv => lhs; rw [← List.take_append_drop A.length (cur.take (A.length + s))]
    rw [List.take_take, Nat.min_eq_left (by omega)]
    have := congrArg (List.take A.length) hA
    rw [List.take_take, Nat.min_eq_left (by omega), List.take_left] at this
    rw [this]
  have hT : ((cur.take (A.length + s)).drop A.length).length = s := by simp; omega
  generalize (cur.take (A.length + s)).drop A.length = T at e1 hT
  have hD : (cur.drop (A.length + s + B.length)).length = cur.length - (A.length + s + B.length) := by simp
  generalize cur.drop (A.length + s + B.length) = D at hD
  rw [e1]
  subst hn
  rw [show (A ++ T ++ B ++ D).take A.length = A by simp, show (A ++ T ++ B ++ D).drop (A.length + news.length) = B ++ D by
    rw [show A ++ T ++ B ++ D = (A ++ T) ++ (B ++ D) by simp, List.drop_append, List.drop_of_length_le (by simp; omega)]
    rw [show A.length + news.length - (A ++ T).length = 0 by simp; omega]
    rfl]
  constructor
  · rw [show A ++ news ++ (B ++ D) = (A ++ news ++ B) ++ D by simp, show A.length + B.length + news.length = (A ++ news ++ B).length by simp; omega, List.take_left]
  · simp
    omega
/-- What two copies make of a new row. -/
theorem grow_row {α : Type} {A B news Z Y : List α} (hZ : Z.length = news.length + B.length) :
    (((A ++ Z ++ Y).take A.length ++ news ++ (A ++ Z ++ Y).drop (A.length + news.length)).take (A.length + news.length) ++ B ++ ((A ++ Z ++ Y).take A.length ++ news ++ (A ++ Z ++ Y).drop (A.length + news.length)).drop (A.length + news.length + B.length)) = A ++ news ++ B ++ Y := by
  rw [show (A ++ Z ++ Y).take A.length = A by simp]
  have e : (A ++ Z ++ Y).drop (A.length + news.length) = Z.drop news.length ++ Y := by
    rw [show A ++ Z ++ Y = A ++ (Z ++ Y) by simp, List.drop_append, List.drop_of_length_le (by omega), Nat.add_sub_cancel_left, List.drop_append, show news.length - Z.length = 0 by omega]
    rfl
  rw [e]
  rw [show (A ++ news ++ (Z.drop news.length ++ Y)).take (A.length + news.length) = A ++ news by
    rw [show A.length + news.length = (A ++ news).length by simp, List.take_left]]
  rw [show (A ++ news ++ (Z.drop news.length ++ Y)).drop (A.length + news.length + B.length) = Y by
    rw [show A ++ news ++ (Z.drop news.length ++ Y) = (A ++ news ++ Z.drop news.length) ++ Y by simp, show A.length + news.length + B.length = (A ++ news ++ Z.drop news.length).length by simp; omega, List.drop_left]]

end Go.Proofs.YtpbipngnoklmcaaDoor
