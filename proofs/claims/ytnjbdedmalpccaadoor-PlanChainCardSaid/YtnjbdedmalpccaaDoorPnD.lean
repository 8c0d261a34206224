/- The walk of plan's read: actions and records. -/
import Derived.Test.YtnjbdedmalpccaaDoorPnI
namespace Go.Proofs.YtnjbdedmalpccaaDoor
open Go.RowKit
set_option maxRecDepth 100000
attribute [local go_sem] str_size str_toList str_get

theorem PnIn.act_store {B N : Nat} {w : World} {p : Nat} {S : PS} {a r m v : Nat} {vs ve : Value} (h : PnIn B N w p S a r m v vs ve) (hn : N < maxLen) {t : S8} (ft : fitS t) (i : Int) :
    ∃ w', (Instr.mapUpdate 59 (.map (some a)) (str t) (.int .i64 i)).run Tryd.prog w = .ok () w' ∧ PnIn B (N + 1) w' p { S with act := upd S.act t i } a r m v vs ve ∧ OnlyM a w w' := by
  obtain ⟨h1, h2, h3, h4, h5, h6, h7, h8, h9⟩ := h
  obtain ⟨w', hr, hm, ho⟩ := h4.store mapA hn ft (.int .i64 i)
  have hpa : p ≠ a := fun e => by
    obtain ⟨es, clock, hh⟩ := h4.block
    rw [← e, h1] at hh
    cases hh
  refine ⟨w', hr, ⟨(ho.block p (heap_lt h1) hpa).trans h1, h2, h3, ?_, (h5.other ho (Ne.symm h3.1)).more (Nat.le_succ _), (h6.other ho (Ne.symm h3.2.1)).more (Nat.le_succ _), (h7.other ho (Ne.symm h3.2.2.1)).more (Nat.le_succ _), row_other h8 ho h4.block, row_other h9 ho h4.block⟩, ho⟩
  show MapF w' a (N + 1) (fun x => (upd S.act t i x).map fun i => Value.int .i64 i)
  rw [upd_map]
  exact hm
theorem PnIn.rcd_store {B N : Nat} {w : World} {p : Nat} {S : PS} {a r m v : Nat} {vs ve : Value} (h : PnIn B N w p S a r m v vs ve) (hn : N < maxLen) {t : S8} (ft : fitS t) (R : RecT) :
    ∃ w', (Instr.mapUpdate 60 (.map (some r)) (str t) (recV R)).run Tryd.prog w = .ok () w' ∧ PnIn B (N + 1) w' p { S with rcd := upd S.rcd t R } a r m v vs ve ∧ OnlyM r w w' := by
  obtain ⟨h1, h2, h3, h4, h5, h6, h7, h8, h9⟩ := h
  obtain ⟨w', hr, hm, ho⟩ := h5.store mapR hn ft (recV R)
  have hpa : p ≠ r := fun e => by
    obtain ⟨es, clock, hh⟩ := h5.block
    rw [← e, h1] at hh
    cases hh
  refine ⟨w', hr, ⟨(ho.block p (heap_lt h1) hpa).trans h1, h2, h3, (h4.other ho h3.1).more (Nat.le_succ _), ?_, (h6.other ho (Ne.symm h3.2.2.2.1)).more (Nat.le_succ _), (h7.other ho (Ne.symm h3.2.2.2.2.1)).more (Nat.le_succ _), row_other h8 ho h5.block, row_other h9 ho h5.block⟩, ho⟩
  show MapF w' r (N + 1) (fun x => (upd S.rcd t R x).map recV)
  rw [upd_map]
  exact hm

abbrev IX := InstT × List S8
abbrev RX := RecT × List S8
/-- A row of instances, or of records, that is read. -/
structure InstsAt (w : World) (v : Value) (xs : List IX) : Prop where
  cells : CellsAt w v xs.length (xs.flatMap fun x => instC x.1)
  deps : ∀ x ∈ xs, StrsAt w (.slice x.1.ad x.1.nd x.1.cd) x.2
  fit : ∀ x ∈ xs, x.1.addr.length ≤ 1000 ∧ (∀ d ∈ x.2, d.length ≤ 1000) ∧ x.2.length ≤ 60
structure RecsAt (w : World) (v : Value) (rs : List RX) : Prop where
  cells : CellsAt w v rs.length (rs.flatMap fun x => recC x.1)
  deps : ∀ x ∈ rs, StrsAt w (.slice x.1.ad x.1.nd x.1.cd) x.2
  fit : ∀ x ∈ rs, x.1.addr.length ≤ 1000 ∧ (∀ d ∈ x.2, d.length ≤ 1000) ∧ x.2.length ≤ 60
theorem InstsAt.mono {w w' : World} {v : Value} {xs : List IX} (h : InstsAt w v xs) (hb : Below w.heap.size w w') : InstsAt w' v xs := ⟨h.cells.mono hb, fun x hx => (h.deps x hx).mono hb, h.fit⟩
theorem RecsAt.mono {w w' : World} {v : Value} {xs : List RX} (h : RecsAt w v xs) (hb : Below w.heap.size w w') : RecsAt w' v xs := ⟨h.cells.mono hb, fun x hx => (h.deps x hx).mono hb, h.fit⟩
theorem flat_get {α : Type} (c : α → List Value) (k : Nat) (hk : ∀ x, (c x).length = k) : ∀ (xs : List α) (i : Nat) (x : α) (j : Nat), xs[i]? = some x → j < k → (xs.flatMap c)[i * k + j]? = (c x)[j]?
  | [], _, _, _, h, _ => by cases h
  | y :: ys, 0, x, j, h, hj => by
    cases h
    rw [List.flatMap_cons, Nat.zero_mul, Nat.zero_add, List.getElem?_append_left (by rw [hk]; exact hj)]
  | y :: ys, i + 1, x, j, h, hj => by
    rw [List.flatMap_cons, List.getElem?_append_right (by rw [hk, Nat.add_mul]; omega), hk, show (i + 1) * k + j - k = i * k + j by rw [Nat.add_mul]; omega]
    exact flat_get c k hk ys i x j h hj
theorem CellsAt.at_ {α : Type} {c : α → List Value} {k : Nat} (hk : ∀ x, (c x).length = k) {w : World} {ao : Option Addr} {m cap : Nat} {xs : List α} (h : CellsAt w (.slice ao m cap) xs.length (xs.flatMap c)) {i : Nat} {x : α} (hi : xs[i]? = some x) :
    ∃ b off, ao = some ⟨b, off, none⟩ ∧ b < w.heap.size ∧ ∀ j u, (c x)[j]? = some u → w.cell? ⟨b, off + i * k + j, none⟩ = some u := by
  obtain ⟨_, _, hv, _, hc⟩ := h
  cases hv
  have hil : i < xs.length := (List.getElem?_eq_some_iff.1 hi).1
  obtain ⟨b, off, rfl, hl, hc⟩ := hc (by omega)
  refine ⟨b, off, rfl, hl, fun j u hu => ?_⟩
  have hj : j < k := by rw [← hk x]; exact (List.getElem?_eq_some_iff.1 hu).1
  have := hc (i * k + j) u (by rw [flat_get c k hk xs i x j hi hj]; exact hu)
  rw [Addr.add_lit] at this
  rw [Nat.add_assoc]
  exact this
theorem InstsAt.row {w : World} {ao : Option Addr} {m cap : Nat} {xs : List IX} (h : InstsAt w (.slice ao m cap) xs) {i : Nat} {x : IX} (hi : xs[i]? = some x) :
    ∃ b off, ao = some ⟨b, off, none⟩ ∧ b < w.heap.size ∧ w.cell? ⟨b, off + i * 10, none⟩ = some (str x.1.addr) ∧ w.cell? ⟨b, off + i * 10 + 1, none⟩ = some (str x.1.typ) ∧ w.cell? ⟨b, off + i * 10 + 2, none⟩ = some (.int .i64 x.1.k) ∧ w.cell? ⟨b, off + i * 10 + 3, none⟩ = some (.bool x.1.f) ∧ w.cell? ⟨b, off + i * 10 + 4, none⟩ = some (str x.1.tx) ∧ w.cell? ⟨b, off + i * 10 + 5, none⟩ = some (.slice x.1.ai x.1.ni x.1.ci) ∧
      w.cell? ⟨b, off + i * 10 + 6, none⟩ = some (.slice x.1.ak x.1.nk x.1.ck) ∧ w.cell? ⟨b, off + i * 10 + 7, none⟩ = some (.int .i64 x.1.action) ∧ w.cell? ⟨b, off + i * 10 + 8, none⟩ = some (.bool x.1.prevent) ∧ w.cell? ⟨b, off + i * 10 + 9, none⟩ = some (.slice x.1.ad x.1.nd x.1.cd) := by
  obtain ⟨b, off, ha, hl, hc⟩ := CellsAt.at_ (c := fun x : IX => instC x.1) (k := 10) (fun _ => rfl) h.cells hi
  exact ⟨b, off, ha, hl, hc 0 _ rfl, hc 1 _ rfl, hc 2 _ rfl, hc 3 _ rfl, hc 4 _ rfl, hc 5 _ rfl, hc 6 _ rfl, hc 7 _ rfl, hc 8 _ rfl, hc 9 _ rfl⟩
theorem RecsAt.row {w : World} {ao : Option Addr} {m cap : Nat} {xs : List RX} (h : RecsAt w (.slice ao m cap) xs) {i : Nat} {x : RX} (hi : xs[i]? = some x) :
    ∃ b off, ao = some ⟨b, off, none⟩ ∧ b < w.heap.size ∧ w.cell? ⟨b, off + i * 9, none⟩ = some (str x.1.addr) ∧ w.cell? ⟨b, off + i * 9 + 1, none⟩ = some (str x.1.typ) ∧ w.cell? ⟨b, off + i * 9 + 2, none⟩ = some (str x.1.id) ∧ w.cell? ⟨b, off + i * 9 + 3, none⟩ = some (.int .i64 x.1.k) ∧ w.cell? ⟨b, off + i * 9 + 4, none⟩ = some (.bool x.1.f) ∧ w.cell? ⟨b, off + i * 9 + 5, none⟩ = some (str x.1.tx) ∧
      w.cell? ⟨b, off + i * 9 + 6, none⟩ = some (.slice x.1.ai x.1.ni x.1.ci) ∧ w.cell? ⟨b, off + i * 9 + 7, none⟩ = some (.slice x.1.ak x.1.nk x.1.ck) ∧ w.cell? ⟨b, off + i * 9 + 8, none⟩ = some (.slice x.1.ad x.1.nd x.1.cd) := by
  obtain ⟨b, off, ha, hl, hc⟩ := CellsAt.at_ (c := fun x : RX => recC x.1) (k := 9) (fun _ => rfl) h.cells hi
  exact ⟨b, off, ha, hl, hc 0 _ rfl, hc 1 _ rfl, hc 2 _ rfl, hc 3 _ rfl, hc 4 _ rfl, hc 5 _ rfl, hc 6 _ rfl, hc 7 _ rfl, hc 8 _ rfl⟩

def rcdOf (rs : List RX) : S8 → Option RecT := rs.foldl (fun f r => upd f r.1.addr r.1) fun _ => none
def actOf (xs : List IX) : S8 → Option Int := xs.foldl (fun f x => upd f x.1.addr x.1.action) fun _ => none
def swapD (f : S8 → Option Int) (ds : List S8) : S8 → Option Int := ds.foldl (fun f d => if (f d).getD 0 = 3 then upd f d 4 else f) f
def swapX (f : S8 → Option Int) (xs : List IX) : S8 → Option Int := xs.foldl (fun f x => if x.1.action = 4 then swapD f x.2 else f) f
def readS (xs : List IX) (rs : List RX) : PS := ⟨swapX (actOf xs) xs, rcdOf rs, [], fun _ => none, fun _ => none, []⟩
theorem fold_next {α β : Type} (g : β → α → β) (z : β) (l : List α) {i : Nat} {x : α} (h : l[i]? = some x) : (l.take (i + 1)).foldl g z = g ((l.take i).foldl g z) x := by
  rw [List.take_add_one, h, List.foldl_append]
  rfl
def solV (vi : Value) : Value := .agg #[vi, .int .i64 0, .bool false, .string ⟨#[]⟩, .slice none 0 0, .slice none 0 0]
def stV (vr : Value) : Value := .agg #[.int .i64 0, vr]
theorem cells2 {w : World} {g : Nat} {c0 c1 : Value} {T : TypeId} (h : w.heap[g]? = some (.cells #[c0, c1] T (0, 0))) : w.cell? ⟨g, 0, none⟩ = some c0 ∧ w.cell? ⟨g, 1, none⟩ = some c1 := by
  refine ⟨?_, ?_⟩ <;> (rw [Lib.cell_of_heap h]; rfl)
theorem OnlyM.keepC {b q : Nat} {w w' : World} {cs : Array Value} {T : TypeId} {fz : Nat × Nat} (ho : OnlyM b w w') (hm : ∃ es clock, w.heap[b]? = some (.map es clock)) (hq : w.heap[q]? = some (.cells cs T fz)) : w'.heap[q]? = some (.cells cs T fz) := by
  obtain ⟨es, clock, hb⟩ := hm
  exact (ho.block q (heap_lt hq) fun e => by rw [e, hb] at hq; cases hq).trans hq

end Go.Proofs.YtnjbdedmalpccaaDoor
