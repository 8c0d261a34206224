/- Values that lie in memory of their own, with the blocks where they lie; what stays when other blocks are written. No walk. -/
import Derived.Test.YtpbipngnoklmcaaGreatDoorMWldP
namespace Go.Proofs.YtpbipngnoklmcaaGreatDoor
open Go.RowKit
set_option maxRecDepth 100000

theorem sizeL_mem {l : List VT} {x : VT} (h : x ∈ l) : sizeV x ≤ sizeL l := by
  induction l with
  | nil => cases h
  | cons y r ih =>
    rw [sizeL]
    rcases List.mem_cons.1 h with rfl | h
    · omega
    · have := ih h; omega
/-- All blocks but these stay; memory only grows. -/
structure Spares (F : List Nat) (w w' : World) : Prop where
  os : w'.os = w.os
  tape : w'.tape = w.tape
  output : w'.output = w.output
  size : w.heap.size ≤ w'.heap.size
  block : ∀ k, k < w.heap.size → k ∉ F → w'.heap[k]? = w.heap[k]?
theorem Spares.refl (F : List Nat) (w : World) : Spares F w w := ⟨rfl, rfl, rfl, Nat.le_refl _, fun _ _ _ => rfl⟩
theorem Spares.trans {F : List Nat} {a b c : World} (h : Spares F a b) (k : Spares F b c) : Spares F a c :=
  ⟨k.os.trans h.os, k.tape.trans h.tape, k.output.trans h.output, Nat.le_trans h.size k.size, fun i hi hn => (k.block i (Nat.lt_of_lt_of_le hi h.size) hn).trans (h.block i hi hn)⟩
theorem Spares.sub {F G : List Nat} {a b : World} (h : Spares F a b) (hs : ∀ k, k ∈ F → k < a.heap.size → k ∈ G) : Spares G a b :=
  ⟨h.os, h.tape, h.output, h.size, fun k hk hn => h.block k hk (fun hf => hn (hs k hf hk))⟩
theorem Spares.of_below {F : List Nat} {a b : World} (h : Below a.heap.size a b) : Spares F a b := ⟨h.os, h.tape, h.output, h.size, fun k hk _ => h.block k hk⟩
theorem Spares.below {F : List Nat} {B : Nat} {a b : World} (h : Spares F a b) (hB : B ≤ a.heap.size) (hF : ∀ k ∈ F, B ≤ k) : Below B a b :=
  ⟨h.os, h.tape, h.output, h.size, fun k hk => h.block k (by omega) (fun hf => by have := hF k hf; omega)⟩
theorem Spares.grown {F : List Nat} {a b : World} {row : Option Nat} (h : a.grownBy b row) (hF : ∀ k, row = some k → k ∈ F) : Spares F a b :=
  ⟨h.os, h.tape, h.output, h.size, fun k hk hn => h.block k hk (fun e => hn (hF k e.symm))⟩
theorem Below.spared {F : List Nat} {B : Nat} {a b c : World} (h : Below B a b) (k : Spares F b c) (hB : B ≤ b.heap.size) (hF : ∀ k ∈ F, B ≤ k) : Below B a c := h.trans (k.below hB hF)

/-- v is a slice in a row of its own of n elements of so many cells, which hold xs: its one block (none, where it is nil). -/
def OwnS (w : World) (e : TypeId) (size : Nat) (v : Value) (n : Nat) (xs : List Value) (F : List Nat) : Prop := w.ownsRow 0 e size v n xs ∧ F = v.ownBlock.toList
theorem OwnS.nil (w : World) (e : TypeId) (size : Nat) : OwnS w e size (.slice none 0 0) 0 [] [] := ⟨World.ownsRow_nil w 0 e size, rfl⟩
theorem ownsRow_zero {w : World} {base : Nat} {e : TypeId} {size : Nat} {v : Value} {n : Nat} {xs : List Value} (h : w.ownsRow base e size v n xs) : w.ownsRow 0 e size v n xs := by
  refine ⟨h.1, ?_⟩
  rcases h.2 with h2 | ⟨g, cap, cur, hv, hg, r⟩
  · exact .inl h2
  · exact .inr ⟨g, cap, cur, hv, Nat.zero_le _, r⟩
theorem OwnS.row {w : World} {base : Nat} {e : TypeId} {size : Nat} {v : Value} {n : Nat} {xs : List Value} (h : w.ownsRow base e size v n xs) :
    ∃ F, OwnS w e size v n xs F ∧ (∀ b ∈ F, base ≤ b ∧ b < w.heap.size) ∧ F = v.ownBlock.toList :=
  ⟨_, ⟨ownsRow_zero h, rfl⟩, fun b hb => h.lt b (by simpa using hb), rfl⟩
theorem OwnS.lt {w : World} {e : TypeId} {size : Nat} {v : Value} {n : Nat} {xs : List Value} {F : List Nat} (h : OwnS w e size v n xs F) : ∀ b ∈ F, b < w.heap.size := by
  obtain ⟨h, rfl⟩ := h
  exact fun b hb => (h.lt b (by simpa using hb)).2
theorem OwnS.keep {w w' : World} {e : TypeId} {size : Nat} {v : Value} {n : Nat} {xs : List Value} {F : List Nat} (h : OwnS w e size v n xs F) (hk : ∀ b ∈ F, w'.heap[b]? = w.heap[b]?) : OwnS w' e size v n xs F := by
  obtain ⟨h, rfl⟩ := h
  refine ⟨⟨h.1, ?_⟩, rfl⟩
  rcases h.2 with h2 | ⟨g, cap, cur, rfl, hb, hg, r⟩
  · exact .inl h2
  · exact .inr ⟨g, cap, cur, rfl, hb, (hk g (by simp [Value.ownBlock])).trans hg, r⟩
theorem OwnS.nodup {w : World} {e : TypeId} {size : Nat} {v : Value} {n : Nat} {xs : List Value} {F : List Nat} (h : OwnS w e size v n xs F) : F.Nodup := by
  obtain ⟨h, rfl⟩ := h
  cases v.ownBlock <;> simp
theorem OwnS.form {w : World} {e : TypeId} {size : Nat} {v : Value} {n : Nat} {xs : List Value} {F : List Nat} (h : OwnS w e size v n xs F) : ∃ a c, v = .slice a n c ∧ n ≤ c ∧ c ≤ 9223372036854775807 ∧ xs.length = n * size := by
  obtain ⟨h, rfl⟩ := h
  rcases h.2 with ⟨rfl, rfl⟩ | ⟨g, cap, cur, rfl, hb, hg, h1, h2, _⟩
  · exact ⟨_, _, rfl, by omega, by omega, by simpa using h.1⟩
  · exact ⟨_, _, rfl, h1, by unfold maxLen at h2; omega, h.1⟩

theorem infoS : (Tryz.prog.info? 9).map (fun i => (i.zero, i.size, i.bytes)) = some (some (.string ⟨#[]⟩), 1, 16) := by kernel_rfl
theorem infoVal : (Tryz.prog.info? 41).map (fun i => (i.zero, i.size, i.bytes)) = some (some (.agg #[.int .i64 0, .bool false, .string ⟨#[]⟩, .slice none 0 0, .slice none 0 0]), 5, 80) := by kernel_rfl
def strV (ss : List (List UInt8)) : List Value := ss.map str
/-- The cells of values, one after another. -/
def cellsV (vs : List Value) : List Value := vs.flatMap fun v => v.cells.toList
theorem cellsV_len {vs : List Value} (h : ∀ v ∈ vs, v.cells.size = 5) : (cellsV vs).length = vs.length * 5 := by
  induction vs with
  | nil => rfl
  | cons v r ih =>
    have := ih (fun x hx => h x (by simp [hx]))
    have h5 := h v (by simp)
    simp only [cellsV, List.flatMap_cons, List.length_append, Array.length_toList, List.length_cons] at this ⊢
    omega
theorem cellsV_append (a b : List Value) : cellsV (a ++ b) = cellsV a ++ cellsV b := by simp [cellsV]
theorem cellsV_take {vs : List Value} (h : ∀ v ∈ vs, v.cells.size = 5) (i : Nat) : cellsV (vs.take i) = (cellsV vs).take (i * 5) := by
  induction vs generalizing i with
  | nil => simp [cellsV]
  | cons v r ih =>
    have := ih (fun x hx => h x (by simp [hx]))
    have h5 := h v (by simp)
    cases i with
    | zero => simp [cellsV]
    | succ i =>
      have e := this i
      simp only [cellsV, List.take_succ_cons, List.flatMap_cons] at e ⊢
      rw [e, List.take_append]
      congr 1
      · rw [List.take_of_length_le (by simp; omega)]
      · congr 1
        simp
        omega
theorem cellsV_drop {vs : List Value} (h : ∀ v ∈ vs, v.cells.size = 5) (i : Nat) : cellsV (vs.drop i) = (cellsV vs).drop (i * 5) := by
  have e := cellsV_append (vs.take i) (vs.drop i)
  rw [List.take_append_drop, cellsV_take h] at e
  have e2 := List.take_append_drop (i * 5) (cellsV vs)
  exact List.append_cancel_left (e.symm.trans e2.symm)
theorem cellsV_get {vs : List Value} (h : ∀ v ∈ vs, v.cells.size = 5) {i : Nat} (hi : i < vs.length) {j : Nat} (hj : j < 5) : (cellsV vs)[i * 5 + j]? = vs[i].cells[j]? := by
  have e : vs = vs.take i ++ (vs[i] :: vs.drop (i + 1)) := by simp
  have hl : (cellsV (vs.take i)).length = i * 5 := by
    rw [cellsV_len (fun v hv => h v (List.mem_of_mem_take hv)), List.length_take, Nat.min_eq_left (by omega)]
  have h5 := h vs[i] (List.getElem_mem hi)
  have e2 : cellsV vs = cellsV (vs.take i) ++ (vs[i].cells.toList ++ cellsV (vs.drop (i + 1))) := by
    conv => lhs; rw [e, cellsV_append]
    congr 1
  rw [e2, List.getElem?_append_right (by omega), hl, Nat.add_sub_cancel_left, List.getElem?_append_left (by simp; omega)]
  simp

mutual
/-- v is the value t; all that it reaches lies in these blocks, each its own. -/
def OwnVal (w : World) : VT → Value → List Nat → Prop
  | .mk k b t its ks, v, F => ∃ vi vk xs Fk Fi Fs, v = .agg #[.int .i64 k, .bool b, str t, vi, vk] ∧ (-9223372036854775808 ≤ k ∧ k ≤ 9223372036854775807 ∧ t.length ≤ 9223372036854775807) ∧
      OwnS w 9 1 vk ks.length (strV ks) Fk ∧ OwnS w 41 5 vi its.length (cellsV xs) Fi ∧ xs.length = its.length ∧ F = Fk ++ (Fi ++ Fs) ∧ OwnVals w its xs Fs
def OwnVals (w : World) : List VT → List Value → List Nat → Prop
  | [], xs, F => xs = [] ∧ F = []
  | t :: r, xs, F => ∃ x ys Fx Fr, xs = x :: ys ∧ F = Fx ++ Fr ∧ OwnVal w t x Fx ∧ OwnVals w r ys Fr
end
theorem OwnVal.form {w : World} {t : VT} {v : Value} {F : List Nat} (h : OwnVal w t v F) : ∃ vi vk xs Fk Fi Fs, v = .agg #[.int .i64 t.kind, .bool t.flag, str t.text, vi, vk] ∧ (-9223372036854775808 ≤ t.kind ∧ t.kind ≤ 9223372036854775807 ∧ t.text.length ≤ 9223372036854775807) ∧
      OwnS w 9 1 vk t.keys.length (strV t.keys) Fk ∧ OwnS w 41 5 vi t.items.length (cellsV xs) Fi ∧ xs.length = t.items.length ∧ F = Fk ++ (Fi ++ Fs) ∧ OwnVals w t.items xs Fs := by
  cases t with
  | mk k b t its ks =>
    rw [OwnVal] at h
    exact h
theorem OwnVals.len {w : World} : ∀ {ts : List VT} {xs : List Value} {F : List Nat}, OwnVals w ts xs F → xs.length = ts.length
  | [], xs, F, h => by rw [OwnVals] at h; simp [h.1]
  | t :: r, xs, F, h => by
    rw [OwnVals] at h
    obtain ⟨x, ys, Fx, Fr, rfl, rfl, _, h2⟩ := h
    simp [h2.len]
theorem OwnVal.cells {w : World} {t : VT} {v : Value} {F : List Nat} (h : OwnVal w t v F) : v.cells.size = 5 := by
  obtain ⟨vi, vk, xs, Fk, Fi, Fs, rfl, _⟩ := h.form
  rfl
theorem OwnVals.cells {w : World} : ∀ {ts : List VT} {xs : List Value} {F : List Nat}, OwnVals w ts xs F → ∀ x ∈ xs, x.cells.size = 5
  | [], xs, F, h => by rw [OwnVals] at h; simp [h.1]
  | t :: r, xs, F, h => by
    rw [OwnVals] at h
    obtain ⟨x, ys, Fx, Fr, rfl, rfl, h1, h2⟩ := h
    intro y hy
    rcases List.mem_cons.1 hy with rfl | hy
    · exact h1.cells
    · exact h2.cells y hy
theorem OwnVal.keep {w w' : World} {t : VT} : ∀ {v : Value} {F : List Nat}, OwnVal w t v F → (∀ b ∈ F, w'.heap[b]? = w.heap[b]?) → OwnVal w' t v F := by
  induction t using VT.ind with
  | h k b t its ks ih =>
    intro v F h hk
    rw [OwnVal] at h ⊢
    obtain ⟨vi, vk, xs, Fk, Fi, Fs, hv, hb, h1, h2, hl, rfl, h3⟩ := h
    refine ⟨vi, vk, xs, Fk, Fi, Fs, hv, hb, h1.keep (fun b hb => hk b (by simp [hb])), h2.keep (fun b hb => hk b (by simp [hb])), hl, rfl, ?_⟩
    have hk3 : ∀ b ∈ Fs, w'.heap[b]? = w.heap[b]? := fun b hb => hk b (by simp [hb])
    clear hv hl h2 hk
    induction its generalizing xs Fs with
    | nil => rw [OwnVals] at h3 ⊢; exact h3
    | cons t r ihr =>
      rw [OwnVals] at h3 ⊢
      obtain ⟨x, ys, Fx, Fr, rfl, rfl, hx, hr⟩ := h3
      exact ⟨x, ys, Fx, Fr, rfl, rfl, ih t (by simp) hx (fun b hb => hk3 b (by simp [hb])), ihr (fun y hy => ih y (by simp [hy])) ys Fr hr (fun b hb => hk3 b (by simp [hb]))⟩
theorem OwnVals.keep {w w' : World} : ∀ {ts : List VT} {xs : List Value} {F : List Nat}, OwnVals w ts xs F → (∀ b ∈ F, w'.heap[b]? = w.heap[b]?) → OwnVals w' ts xs F
  | [], xs, F, h, _ => by rw [OwnVals] at h ⊢; exact h
  | t :: r, xs, F, h, hk => by
    rw [OwnVals] at h ⊢
    obtain ⟨x, ys, Fx, Fr, rfl, rfl, hx, hr⟩ := h
    exact ⟨x, ys, Fx, Fr, rfl, rfl, hx.keep (fun b hb => hk b (by simp [hb])), hr.keep (fun b hb => hk b (by simp [hb]))⟩
theorem OwnVal.lt {w : World} {t : VT} : ∀ {v : Value} {F : List Nat}, OwnVal w t v F → ∀ b ∈ F, b < w.heap.size := by
  induction t using VT.ind with
  | h k b t its ks ih =>
    intro v F h c hc
    rw [OwnVal] at h
    obtain ⟨vi, vk, xs, Fk, Fi, Fs, hv, hb, h1, h2, hl, rfl, h3⟩ := h
    rw [List.mem_append, List.mem_append] at hc
    rcases hc with hc | hc | hc
    · exact h1.lt c hc
    · exact h2.lt c hc
    · clear hv hl h2 h1
      induction its generalizing xs Fs with
      | nil => rw [OwnVals] at h3; rw [h3.2] at hc; cases hc
      | cons t r ihr =>
        rw [OwnVals] at h3
        obtain ⟨x, ys, Fx, Fr, rfl, rfl, hx, hr⟩ := h3
        rcases List.mem_append.1 hc with hc | hc
        · exact ih t (by simp) hx c hc
        · exact ihr (fun y hy => ih y (by simp [hy])) ys Fr hr hc
theorem OwnVals.lt {w : World} : ∀ {ts : List VT} {xs : List Value} {F : List Nat}, OwnVals w ts xs F → ∀ b ∈ F, b < w.heap.size
  | [], xs, F, h => by rw [OwnVals] at h; simp [h.2]
  | t :: r, xs, F, h => by
    rw [OwnVals] at h
    obtain ⟨x, ys, Fx, Fr, rfl, rfl, hx, hr⟩ := h
    intro b hb
    rcases List.mem_append.1 hb with hb | hb
    · exact hx.lt b hb
    · exact hr.lt b hb
theorem OwnVals.append {w : World} : ∀ {ts us : List VT} {xs ys : List Value} {F G : List Nat}, OwnVals w ts xs F → OwnVals w us ys G → OwnVals w (ts ++ us) (xs ++ ys) (F ++ G)
  | [], us, xs, ys, F, G, h, k => by
    rw [OwnVals] at h
    rw [h.1, h.2]
    exact k
  | t :: r, us, xs, ys, F, G, h, k => by
    rw [OwnVals] at h
    obtain ⟨x, zs, Fx, Fr, rfl, rfl, hx, hr⟩ := h
    rw [List.cons_append, OwnVals]
    exact ⟨x, zs ++ ys, Fx, Fr ++ G, rfl, by simp, hx, hr.append k⟩
theorem OwnVals.split {w : World} : ∀ {ts : List VT} {xs : List Value} {F : List Nat} (i : Nat), OwnVals w ts xs F → ∃ G H, F = G ++ H ∧ OwnVals w (ts.take i) (xs.take i) G ∧ OwnVals w (ts.drop i) (xs.drop i) H
  | [], xs, F, i, h => by
    rw [OwnVals] at h
    obtain ⟨rfl, rfl⟩ := h
    exact ⟨[], [], rfl, by simp [OwnVals], by simp [OwnVals]⟩
  | t :: r, xs, F, 0, h => ⟨[], F, rfl, by simp [OwnVals], by simpa using h⟩
  | t :: r, xs, F, i + 1, h => by
    rw [OwnVals] at h
    obtain ⟨x, zs, Fx, Fr, rfl, rfl, hx, hr⟩ := h
    obtain ⟨G, H, rfl, h1, h2⟩ := hr.split i
    refine ⟨Fx ++ G, H, by simp, ?_, by simpa using h2⟩
    rw [List.take_succ_cons, List.take_succ_cons, OwnVals]
    exact ⟨x, _, Fx, G, rfl, rfl, hx, h1⟩
theorem OwnVals.one {w : World} {t : VT} {x : Value} {F : List Nat} (h : OwnVal w t x F) : OwnVals w [t] [x] F := by
  rw [OwnVals]
  exact ⟨x, [], F, [], rfl, by simp, h, by rw [OwnVals]; exact ⟨rfl, rfl⟩⟩
theorem OwnVals.head {w : World} {t : VT} {ts : List VT} {xs : List Value} {F : List Nat} (h : OwnVals w (t :: ts) xs F) : ∃ x ys Fx Fr, xs = x :: ys ∧ F = Fx ++ Fr ∧ OwnVal w t x Fx ∧ OwnVals w ts ys Fr := by
  rw [OwnVals] at h
  exact h

/-- What is one's own reads as what it is. -/
theorem OwnS.strs {w : World} {v : Value} {ss : List (List UInt8)} {F : List Nat} (h : OwnS w 9 1 v ss.length (strV ss) F) : StrsAt w v ss := by
  obtain ⟨h, rfl⟩ := h
  have h0 := h
  rcases h.2 with ⟨rfl, hz⟩ | ⟨g, cap, cur, rfl, hb, hg, h1, h2, _⟩
  · have : ss = [] := List.eq_nil_of_length_eq_zero hz
    subst this
    exact StrsAt.nil w
  · have hlt := (h0.lt _ rfl).2
    have hc := h0.cellAt
    refine ⟨_, cap, rfl, ⟨h1, by unfold maxLen at h2; omega, fun e => by cases e⟩, fun _ => ⟨g, 0, rfl, hlt, fun i hi => ?_⟩⟩
    rw [Nat.zero_add, hc i (by omega)]
    simp [strV, List.getD, hi]
theorem OwnS.rows {w : World} {v : Value} {n : Nat} {xs : List Value} {F : List Nat} (h : OwnS w 41 5 v n (cellsV xs) F) (hl : xs.length = n) (h5 : ∀ x ∈ xs, ∃ c0 c1 c2 c3 c4, x = .agg #[c0, c1, c2, c3, c4]) : RowAt w v n (fun i => xs.getD i default) := by
  obtain ⟨h, rfl⟩ := h
  have h0 := h
  rcases h.2 with ⟨rfl, rfl⟩ | ⟨g, cap, cur, rfl, hb, hg, h1, h2, _⟩
  · exact RowAt.nil w _
  · have hlt := (h0.lt _ rfl).2
    have hc := h0.cellAt
    have h5' : ∀ x ∈ xs, x.cells.size = 5 := fun x hx => by obtain ⟨_, _, _, _, _, rfl⟩ := h5 x hx; rfl
    · refine ⟨_, cap, rfl, ⟨h1, by unfold maxLen at h2; omega, fun e => by cases e⟩, fun _ => ⟨g, 0, rfl, hlt, fun i hi => ?_⟩⟩
      have hix : i < xs.length := by omega
      obtain ⟨c0, c1, c2, c3, c4, hx⟩ := h5 _ (List.getElem_mem hix)
      have q : ∀ j, j < 5 → w.cell? ⟨g, 0 + i * 5 + j, none⟩ = xs[i].cells[j]? := fun j hj => by
        rw [Nat.zero_add, hc (i * 5 + j) (by omega)]
        exact cellsV_get h5' hix hj
      rw [hx] at q
      refine ⟨c0, c1, c2, c3, c4, by simp [List.getD, hix, hx], ?_, ?_, ?_, ?_, ?_⟩
      · exact q 0 (by omega)
      · exact q 1 (by omega)
      · exact q 2 (by omega)
      · exact q 3 (by omega)
      · exact q 4 (by omega)
theorem OwnVals.agg {w : World} : ∀ {ts : List VT} {xs : List Value} {F : List Nat}, OwnVals w ts xs F → ∀ x ∈ xs, ∃ c0 c1 c2 c3 c4, x = .agg #[c0, c1, c2, c3, c4]
  | [], xs, F, h => by rw [OwnVals] at h; simp [h.1]
  | t :: r, xs, F, h => by
    rw [OwnVals] at h
    obtain ⟨x, ys, Fx, Fr, rfl, rfl, h1, h2⟩ := h
    intro y hy
    rcases List.mem_cons.1 hy with rfl | hy
    · obtain ⟨vi, vk, xs, Fk, Fi, Fs, rfl, _⟩ := h1.form
      exact ⟨_, _, _, _, _, rfl⟩
    · exact h2.agg y hy
theorem OwnVal.at {w : World} {t : VT} : ∀ {v : Value} {F : List Nat}, OwnVal w t v F → ValAt w t v := by
  induction t using VT.ind with
  | h k b t its ks ih =>
    intro v F h
    rw [OwnVal] at h
    rw [ValAt]
    obtain ⟨vi, vk, xs, Fk, Fi, Fs, hv, hb, h1, h2, hl, rfl, h3⟩ := h
    refine ⟨vi, vk, hv, hb, h1.strs, _, h2.rows hl h3.agg, ?_⟩
    rw [ValsAt_iff]
    clear hv hl h2
    induction its generalizing xs Fs with
    | nil => intro i hi; cases hi
    | cons t r ihr =>
      rw [OwnVals] at h3
      obtain ⟨x, ys, Fx, Fr, rfl, rfl, hx, hr⟩ := h3
      intro i hi
      cases i with
      | zero => exact ih t (by simp) hx
      | succ i => exact ihr (fun y hy => ih y (by simp [hy])) ys Fr hr i (by simpa using hi)
theorem OwnVals.at {w : World} {ts : List VT} {xs : List Value} {F : List Nat} (h : OwnVals w ts xs F) : ValsAt w ts (fun i => xs.getD i default) := by
  rw [ValsAt_iff]
  induction ts generalizing xs F with
  | nil => intro i hi; cases hi
  | cons t r ihr =>
    rw [OwnVals] at h
    obtain ⟨x, ys, Fx, Fr, rfl, rfl, hx, hr⟩ := h
    intro i hi
    cases i with
    | zero => exact hx.at
    | succ i => exact ihr hr i (by simpa using hi)

end Go.Proofs.YtpbipngnoklmcaaGreatDoor
