/- Values in memory: a slice of texts, a value as a tree; both stay where memory only grows. -/
import Derived.Test.YtgbalofdfdafmaaDoorStr
import Derived.Test.YtgbalofdfdafmaaDoorValP
import Derived.Deep.Slices
namespace Go.Proofs.YtgbalofdfdafmaaDoor
open Go.RowKit
set_option maxRecDepth 100000
attribute [local go_sem] str_size str_toList str_get

/-- v is a slice (perhaps nil) of these texts. -/
def StrsAt (w : World) (v : Value) (ss : List (List UInt8)) : Prop :=
  ∃ (ao : Option Addr) (cap : Nat), v = .slice ao ss.length cap ∧ (ss.length ≤ cap ∧ cap ≤ 9223372036854775807 ∧ (ao = none → cap = 0)) ∧
    (ss ≠ [] → ∃ b off, ao = some ⟨b, off, none⟩ ∧ b < w.heap.size ∧ ∀ i, i < ss.length → w.cell? ⟨b, off + i, none⟩ = some (str (ss.getD i [])))
/-- v is a slice (perhaps nil) of n rows of five cells, which are these values. -/
def RowAt (w : World) (v : Value) (n : Nat) (vs : Nat → Value) : Prop :=
  ∃ (ao : Option Addr) (cap : Nat), v = .slice ao n cap ∧ (n ≤ cap ∧ cap ≤ 9223372036854775807 ∧ (ao = none → cap = 0)) ∧
    (n ≠ 0 → ∃ b off, ao = some ⟨b, off, none⟩ ∧ b < w.heap.size ∧ ∀ i, i < n → ∃ c0 c1 c2 c3 c4, vs i = .agg #[c0, c1, c2, c3, c4] ∧
      w.cell? ⟨b, off + i * 5, none⟩ = some c0 ∧ w.cell? ⟨b, off + i * 5 + 1, none⟩ = some c1 ∧ w.cell? ⟨b, off + i * 5 + 2, none⟩ = some c2 ∧ w.cell? ⟨b, off + i * 5 + 3, none⟩ = some c3 ∧ w.cell? ⟨b, off + i * 5 + 4, none⟩ = some c4)
mutual
/-- v is the value t. -/
def ValAt (w : World) : VT → Value → Prop
  | .mk k b t its ks, v => ∃ vi vk, v = .agg #[.int .i64 k, .bool b, str t, vi, vk] ∧ (-9223372036854775808 ≤ k ∧ k ≤ 9223372036854775807 ∧ t.length ≤ 9223372036854775807) ∧ StrsAt w vk ks ∧ ∃ vs, RowAt w vi its.length vs ∧ ValsAt w its vs
def ValsAt (w : World) : List VT → (Nat → Value) → Prop
  | [], _ => True
  | x :: r, vs => ValAt w x (vs 0) ∧ ValsAt w r (fun i => vs (i + 1))
end

theorem ValsAt_iff (w : World) : ∀ (l : List VT) (vs : Nat → Value), ValsAt w l vs ↔ ∀ i (h : i < l.length), ValAt w l[i] (vs i)
  | [], vs => by simp [ValsAt]
  | x :: r, vs => by
    rw [ValsAt, ValsAt_iff w r]
    constructor
    · rintro ⟨h0, h1⟩ i hi
      cases i with
      | zero => exact h0
      | succ i => exact h1 i (by simpa using hi)
    · intro h
      exact ⟨h 0 (by simp), fun i hi => h (i + 1) (by simpa using hi)⟩

theorem StrsAt.mono {w w' : World} {v : Value} {ss : List (List UInt8)} (h : StrsAt w v ss) (hb : Below w.heap.size w w') : StrsAt w' v ss := by
  obtain ⟨ao, cap, hv, hm, hc⟩ := h
  refine ⟨ao, cap, hv, hm, fun hne => ?_⟩
  obtain ⟨b, off, ha, hlt, hcell⟩ := hc hne
  exact ⟨b, off, ha, Nat.lt_of_lt_of_le hlt hb.size, fun i hi => (hb.cell (p := ⟨b, off + i, none⟩) hlt).trans (hcell i hi)⟩
theorem RowAt.mono {w w' : World} {v : Value} {n : Nat} {vs : Nat → Value} (h : RowAt w v n vs) (hb : Below w.heap.size w w') : RowAt w' v n vs := by
  obtain ⟨ao, cap, hv, hm, hc⟩ := h
  refine ⟨ao, cap, hv, hm, fun hne => ?_⟩
  obtain ⟨b, off, ha, hlt, hcell⟩ := hc hne
  refine ⟨b, off, ha, Nat.lt_of_lt_of_le hlt hb.size, fun i hi => ?_⟩
  obtain ⟨c0, c1, c2, c3, c4, hvs, h0, h1, h2, h3, h4⟩ := hcell i hi
  exact ⟨c0, c1, c2, c3, c4, hvs, (hb.cell (p := ⟨b, off + i * 5, none⟩) hlt).trans h0, (hb.cell (p := ⟨b, off + i * 5 + 1, none⟩) hlt).trans h1, (hb.cell (p := ⟨b, off + i * 5 + 2, none⟩) hlt).trans h2, (hb.cell (p := ⟨b, off + i * 5 + 3, none⟩) hlt).trans h3, (hb.cell (p := ⟨b, off + i * 5 + 4, none⟩) hlt).trans h4⟩
theorem ValAt.mono {w w' : World} (hb : Below w.heap.size w w') {t : VT} : ∀ {v : Value}, ValAt w t v → ValAt w' t v := by
  induction t using VT.ind with
  | h k b t its ks ih =>
    intro v h
    rw [ValAt] at h ⊢
    obtain ⟨vi, vk, hv, hk, hs, vs, hr, hvs⟩ := h
    refine ⟨vi, vk, hv, hk, hs.mono hb, vs, hr.mono hb, ?_⟩
    rw [ValsAt_iff] at hvs ⊢
    exact fun i hi => ih _ (List.getElem_mem hi) (hvs i hi)
theorem ValsAt.mono {w w' : World} (hb : Below w.heap.size w w') {l : List VT} {vs : Nat → Value} (h : ValsAt w l vs) : ValsAt w' l vs := by
  rw [ValsAt_iff] at h ⊢
  exact fun i hi => (h i hi).mono hb

theorem ValAt.agg {w : World} {t : VT} {v : Value} (h : ValAt w t v) : ∃ vi vk vs, v = .agg #[.int .i64 t.kind, .bool t.flag, str t.text, vi, vk] ∧ (-9223372036854775808 ≤ t.kind ∧ t.kind ≤ 9223372036854775807 ∧ t.text.length ≤ 9223372036854775807) ∧ StrsAt w vk t.keys ∧ RowAt w vi t.items.length vs ∧ ValsAt w t.items vs := by
  cases t with
  | mk k b t its ks =>
    rw [ValAt] at h
    obtain ⟨vi, vk, hv, hk, hs, vs, hr, hvs⟩ := h
    exact ⟨vi, vk, vs, hv, hk, hs, hr, hvs⟩

/-- An element of a row, cell by cell. -/
theorem RowAt.get {w : World} {ao : Option Addr} {n n' cap : Nat} {vs : Nat → Value} {l : List VT} (h : RowAt w (.slice ao n cap) n' vs) (hn : n' = l.length) (hv : ValsAt w l vs) {i : Nat} (hi : i < l.length) :
    ∃ b off vi vk, ao = some ⟨b, off, none⟩ ∧ b < w.heap.size ∧ vs i = .agg #[.int .i64 l[i].kind, .bool l[i].flag, str l[i].text, vi, vk] ∧ ValAt w l[i] (vs i) ∧
      w.cell? ⟨b, off + i * 5, none⟩ = some (.int .i64 l[i].kind) ∧ w.cell? ⟨b, off + i * 5 + 1, none⟩ = some (.bool l[i].flag) ∧ w.cell? ⟨b, off + i * 5 + 2, none⟩ = some (str l[i].text) ∧ w.cell? ⟨b, off + i * 5 + 3, none⟩ = some vi ∧ w.cell? ⟨b, off + i * 5 + 4, none⟩ = some vk := by
  subst hn
  obtain ⟨ao', cap', hv', hm, hc⟩ := h
  cases hv'
  obtain ⟨b, off, ha, hb, hcell⟩ := hc (by omega)
  obtain ⟨c0, c1, c2, c3, c4, hvs, h0, h1, h2, h3, h4⟩ := hcell i hi
  have hx := (ValsAt_iff w l vs).1 hv i hi
  obtain ⟨vi, vk, vs', hg, _⟩ := hx.agg
  rw [hvs] at hg
  injection hg with hg
  injection hg with hg
  simp only [List.cons.injEq, and_true] at hg
  obtain ⟨rfl, rfl, rfl, rfl, rfl⟩ := hg
  exact ⟨b, off, _, _, ha, hb, hvs, hx, h0, h1, h2, h3, h4⟩
theorem StrsAt.get {w : World} {ao : Option Addr} {n cap : Nat} {ss : List (List UInt8)} (h : StrsAt w (.slice ao n cap) ss) {i : Nat} (hi : i < ss.length) : ∃ b off, ao = some ⟨b, off, none⟩ ∧ b < w.heap.size ∧ w.cell? ⟨b, off + i, none⟩ = some (str (ss.getD i [])) := by
  obtain ⟨ao', cap', hv, hm, hc⟩ := h
  cases hv
  obtain ⟨b, off, ha, hb, hcell⟩ := hc (by intro e; simp [e] at hi)
  exact ⟨b, off, ha, hb, hcell i hi⟩
theorem StrsAt.nil (w : World) : StrsAt w (.slice none 0 0) [] := ⟨none, 0, rfl, by simp, fun h => absurd rfl h⟩
theorem RowAt.nil (w : World) (vs : Nat → Value) : RowAt w (.slice none 0 0) 0 vs := ⟨none, 0, rfl, by simp, fun h => absurd rfl h⟩

end Go.Proofs.YtgbalofdfdafmaaDoor
