/- What the laws on walks share: a graph's box, its edges copied, a script read, a walk's memory where only other blocks change. -/
import Derived.Test.YtelioljmhlabjaaDoorOwn
import Derived.Test.YtelioljmhlabjaaDoorApp2
import Derived.Test.YtelioljmhlabjaaDoorRw4
import Derived.Test.YtelioljmhlabjaaDoorWk3
namespace Go.Proofs.YtelioljmhlabjaaDoor
open Go.RowKit
set_option maxRecDepth 100000

theorem wpList_append_pairs (w : World) {ops : Array Oper} {rest : List Oper} {o : Oper} {a : Act} {Q : Exit → Act → World → Prop} (hgd : o.guard = none) (s x : Operand)
    (ho : o.op = .call { callee := .builtin .append, args := #[s, x], argTypes := #[22, 22] })
    (base : Nat) (v : Value) (n : Nat) (xs : List Value) (hs : a.eval s = v) (hown : w.ownsRow base 34 2 v n xs)
    (vx : Value) (ys : List (Int × Int)) (hx : a.eval x = vx) (hys : PairsAt w vx ys)
    (hb : n + ys.length ≤ 1000000) (hbase : base ≤ w.heap.size)
    (h : ∀ v' w', w'.ownsRow base 34 2 v' (n + ys.length) (xs ++ pairCells ys) → w.grownBy w' v.ownBlock → (v'.ownBlock = v.ownBlock ∨ v'.ownBlock = some w.heap.size) → wpList Tryd.prog ops Q rest (a.put o.dst v') w') : wpList Tryd.prog ops Q (o :: rest) a w := by
  obtain ⟨i0, hi, hz0, hz1, hz2⟩ := info_parts Tryd.info34
  obtain ⟨ao, cap, rfl, _, hm, hc⟩ := hys
  cases ao with
  | none =>
    obtain rfl := hm.2.2 rfl
    have : ys = [] := List.eq_nil_of_length_eq_zero (by omega)
    subst this
    refine wpList_append_own_none hgd s x 22 ho base 34 i0 2 Tryd.underlying22 hi v n xs hs hown hx ?_
    exact h v w (by simpa [pairCells] using hown) (grown_refl _ _) (Or.inl rfl)
  | some ad =>
    refine wpList_append_fresh w hgd s x 22 ho base 34 i0 _ 2 16 Tryd.underlying22 hi hz0 hz1 hz2 rfl (by decide) v n xs hs hown ad ys.length cap (pairCells ys) hx (pairCells_len ys) ?_ (pairCells_one ys) (by unfold maxLen; omega) (by omega) hbase h
    by_cases he : ys = []
    · subst he; intro j u hu; simp [pairCells] at hu
    · obtain ⟨b, off, had, _, hcell⟩ := hc he
      cases had
      exact pairs_cells hcell

/-- A struct of three cells in a variable. -/
theorem box3g {w : World} {ty q : Nat} {x0 x1 x2 : Value} (h : w.heap[q]? = some (.cells #[x0, x1, x2] ty (0, 0))) :
    w.cell? ⟨q, 0, none⟩ = some x0 ∧ w.cell? ⟨q, 1, none⟩ = some x1 ∧ w.cell? ⟨q, 2, none⟩ = some x2 ∧ w.frozen? ⟨q, 0, none⟩ = false ∧ w.frozen? ⟨q, 1, none⟩ = false ∧ w.frozen? ⟨q, 2, none⟩ = false := by
  simp [World.cell?, World.frozen?, h]

/-- Is a graph small? -/
theorem small19_any (n lim : Int) (ag : Option Addr) (cg len : Nat) (w : World) (hl : len ≤ 17592186044416) :
    Calls Tryd.prog 35 #[.agg #[.int .i64 n, .slice ag len cg, .int .i64 lim]] w fun e w' => e = .returned (.bool (decide (n ≤ 30) && decide (len ≤ 120))) ∧ Below w.heap.size w w' := by
  have hb0 : Below w.heap.size w (w.alloc (.cells #[.int .i64 n, .slice ag len cg, .int .i64 lim] 54)) := (Below.refl _ _).alloc (Nat.le_refl _) _
  obtain ⟨c0, c1, c2, _⟩ := box3g (heap_alloc_new w (.cells #[.int .i64 n, .slice ag len cg, .int .i64 lim] 54))
  by_cases h1 : n ≤ 30
  · by_cases h2 : len ≤ 120
    · have h3 : (len : Int) ≤ 120 := by omega
      rw [decide_eq_true h1, decide_eq_true h2]
      go_enter Tryd.func35, Tryd.ntmps35
      go_wp2
      go_ret
      exact ⟨rfl, hb0⟩
    · have h3 : ¬ (len : Int) ≤ 120 := by omega
      rw [decide_eq_true h1, decide_eq_false h2]
      go_enter Tryd.func35, Tryd.ntmps35
      go_wp2
      go_ret
      exact ⟨rfl, hb0⟩
  · rw [decide_eq_false h1]
    go_enter Tryd.func35, Tryd.ntmps35
    go_wp2
    go_ret
    exact ⟨rfl, hb0⟩

/-- A walk's memory, where all else may change. -/
theorem WkM.kept {w w' : World} {b S A N n : Nat} {ev : Value} {rows : List Value} {es : List (Int × Int)} {lim : Int} {st ah : List Int} (h : WkM w b S A N n ev rows es lim st ah) (B : Nat → Prop)
    (hb : ¬ B b ∧ ¬ B S ∧ ¬ B A ∧ ¬ B N) (he : ∀ k, ev.ownBlock = some k → ¬ B k) (hr : ∀ i, i < n → ∀ k, (rows.getD i (.slice none 0 0)).ownBlock = some k → ¬ B k)
    (hs : w.heap.size ≤ w'.heap.size) (hk : ∀ k, ¬ B k → k < w.heap.size → w'.heap[k]? = w.heap[k]?) : WkM w' b S A N n ev rows es lim st ah :=
  ⟨(hk _ hb.1 h.blt).trans h.blk, h.sst.kept (hk _ hb.2.1 h.sst.lt), h.sah.kept (hk _ hb.2.2.1 h.sah.lt), h.lst, h.lah, (hk _ hb.2.2.2 h.nlt).trans h.nb, h.lrw,
    fun i hi => (h.row i hi).keep hs fun k e hlt => hk k (hr i hi k e) hlt, h.ed.keep hs fun k e hlt => hk k (he k e) hlt, h.hn, h.hl, h.h0, h.h1, h.h2⟩

/-- Ints stay where their block stays. -/
theorem IntsAt.stay {w w' : World} {sa : Option Addr} {n c : Nat} {xs : List Int} (h : IntsAt w (.slice sa n c) xs) (hs : w.heap.size ≤ w'.heap.size) (hk : ∀ a, sa = some a → a.block < w.heap.size → w'.heap[a.block]? = w.heap[a.block]?) : IntsAt w' (.slice sa n c) xs := by
  obtain ⟨ao, cap, hv, h1, h2, h3⟩ := h
  cases hv
  refine ⟨_, _, rfl, h1, h2, fun hne => ?_⟩
  obtain ⟨b, off, ha, hb, hc⟩ := h3 hne
  refine ⟨b, off, ha, by omega, fun i hi => ?_⟩
  have hqb := hk _ ha hb
  have := hc i hi
  unfold World.cell? at this ⊢
  simp only at this hqb ⊢
  rw [hqb]
  exact this

/-- The first edges wiped. -/
def wiped (es : List (Int × Int)) (q : Nat) : List (Int × Int) := List.replicate q (0, 0) ++ es.drop q
theorem wiped_zero (es : List (Int × Int)) : wiped es 0 = es := by simp [wiped]
theorem wiped_len {es : List (Int × Int)} {q : Nat} (h : q ≤ es.length) : (wiped es q).length = es.length := by simp [wiped]; omega
theorem wiped_get {es : List (Int × Int)} {q : Nat} (h : q < es.length) : (wiped es q).getD q (0, 0) = es.getD q (0, 0) := by
  unfold wiped
  simp [List.getD, List.getElem?_append, h]
theorem wiped_set {es : List (Int × Int)} {q : Nat} (h : q < es.length) : (wiped es q).set q (0, 0) = wiped es (q + 1) := by
  unfold wiped
  rw [List.set_append, if_neg (by simp), List.length_replicate, Nat.sub_self, List.replicate_succ', List.append_assoc]
  congr 1
  rw [List.drop_eq_getElem_cons h, List.set_cons_zero]
  rfl
theorem pairCells_set : ∀ (l : List (Int × Int)) (i : Nat) (p : Int × Int), ((pairCells l).set (i * 2) (.int .i64 p.1)).set (i * 2 + 1) (.int .i64 p.2) = pairCells (l.set i p)
  | [], i, p => by simp [pairCells]
  | e :: l, 0, p => by simp [pairCells]
  | e :: l, i + 1, p => by
    have ih := pairCells_set l i p
    have e1 : (i + 1) * 2 = i * 2 + 1 + 1 := by omega
    simp only [pairCells, e1, List.flatMap_cons, List.cons_append, List.nil_append, List.set_cons_succ] at ih ⊢
    rw [ih]

/-- One pair of an owned row is set. -/
theorem own_set {w : World} {base g n cap q : Nat} {cur : Array Value} {l : List (Int × Int)} (hh : w.heap[g]? = some (.cells cur 34 (0, 0))) (hbg : base ≤ g) (hnc : n ≤ cap) (hcm : cap ≤ maxLen) (hcs : cur.size = cap * 2) (hn : l.length = n) (htk : cur.toList.take (n * 2) = pairCells l) (p : Int × Int) :
    ∃ w', w' = (w.setCell ⟨g, q * 2, none⟩ (.int .i64 p.1)).setCell ⟨g, q * 2 + 1, none⟩ (.int .i64 p.2) ∧ w'.ownsRow base 34 2 (.slice (some ⟨g, 0, none⟩) n cap) n (pairCells (l.set q p)) ∧ w'.heap.size = w.heap.size ∧ (∀ k, k ≠ g → w'.heap[k]? = w.heap[k]?) ∧ ∀ (b : Nat) (wb : World), b ≤ g → Below b wb w → Below b wb w' := by
  refine ⟨_, rfl, ⟨?_, .inr ⟨g, cap, (cur.setIfInBounds (q * 2) (.int .i64 p.1)).setIfInBounds (q * 2 + 1) (.int .i64 p.2), rfl, hbg, ?_, hnc, hcm, by simp [hcs], ?_⟩⟩, by simp, fun k hk => (Below.heap_setCell _ _ _ _ hk).trans (Below.heap_setCell _ _ _ _ hk), fun b wb hg hb => (hb.setCell hg _).setCell hg _⟩
  · rw [pairCells_len, List.length_set, hn]
  · simp [World.setCell, Array.getElem?_modify, hh]
  · rw [Array.toList_setIfInBounds, Array.toList_setIfInBounds, List.take_set, List.take_set, htk]
    exact pairCells_set l q p

end Go.Proofs.YtelioljmhlabjaaDoor
