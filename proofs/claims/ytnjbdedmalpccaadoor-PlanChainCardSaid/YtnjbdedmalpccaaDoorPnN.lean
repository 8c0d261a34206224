/- The law's rows in memory, as its first loop lays them: what each statement of a round leaves. No walk. -/
import Derived.Test.YtnjbdedmalpccaaDoorPnZ
import Derived.Test.YtnjbdedmalpccaaDoorPnY
namespace Go.Proofs.YtnjbdedmalpccaaDoor
open Go.RowKit
set_option maxRecDepth 100000

theorem infoStr : (Tryd.prog.info? 9).map (fun i => (i.zero, i.size, i.bytes)) = some (some (.string ⟨#[]⟩), 1, 16) := by kernel_rfl
theorem infoInst : (Tryd.prog.info? 41).map (fun i => (i.zero, i.size, i.bytes)) = some (some (.agg #[.string ⟨#[]⟩, .string ⟨#[]⟩, .int .i64 0, .bool false, .string ⟨#[]⟩, .slice none 0 0, .slice none 0 0, .int .i64 0, .bool false, .slice none 0 0]), 10, 152) := by kernel_rfl
theorem infoRec : (Tryd.prog.info? 37).map (fun i => (i.zero, i.size, i.bytes)) = some (some (.agg #[.string ⟨#[]⟩, .string ⟨#[]⟩, .string ⟨#[]⟩, .int .i64 0, .bool false, .string ⟨#[]⟩, .slice none 0 0, .slice none 0 0, .slice none 0 0]), 9, 152) := by kernel_rfl
theorem strs_one (ss : List S8) : ∀ u ∈ ss.map str, u.oneCell' = true := by
  intro u hu
  obtain ⟨s, _, rfl⟩ := List.mem_map.1 hu
  rfl
theorem strs_row {w : World} {base : Nat} {v : Value} {ss : List S8} (h : w.ownsRow base 9 1 v ss.length (ss.map str)) : StrsAt w v ss := by
  obtain ⟨ao, cap, hv, hm, hc⟩ := CellsAt.row h
  refine ⟨ao, cap, hv, hm, fun hne => ?_⟩
  obtain ⟨b, off, ha, hlt, hk⟩ := hc (by intro e; exact hne (List.eq_nil_of_length_eq_zero e))
  refine ⟨b, off, ha, hlt, fun i hi => ?_⟩
  have := hk i (str (ss.getD i [])) (by simp [List.getD, hi])
  rw [Addr.add_lit] at this
  exact this
theorem strs_row2 {w : World} {base n : Nat} {v : Value} {ss : List S8} (hn : n = ss.length) (h : w.ownsRow base 9 1 v n (ss.map str)) : StrsAt w v ss := by
  subst hn
  exact strs_row h
/-- A copy of a row of texts, told as a row of one's own. -/
theorem run_copy_strs (W : World) (ss : List S8) (ao : Option Addr) (ck : Nat) (h : StrsAt W (.slice ao ss.length ck) ss) (hl : ss.length ≤ 1000000) (ty : TypeId) :
    ∃ v' w', (Builtin.append_ #[27, 27] ty #[.slice (some ⟨W.heap.size, 0, none⟩) 0 0, .slice ao ss.length ck]).run Tryd.prog (W.alloc (.cells #[] 9)) = .ok v' w' ∧ w'.ownsRow W.heap.size 9 1 v' ss.length (ss.map str) ∧ Below W.heap.size W w' := by
  obtain ⟨i0, hi, hz0, hz1, hz2⟩ := info_parts infoStr
  obtain ⟨ao', cap, hv, hm, hc⟩ := id h
  injection hv with e1 e2 e3
  subst e1; subst e3
  have hmade : (W.alloc (.cells #[] 9)).ownsRow W.heap.size 9 1 (.slice (some ⟨W.heap.size, 0, none⟩) 0 0) 0 [] := World.ownsRow_made W #[] 0 (Nat.le_refl _) (by unfold maxLen; omega) rfl
  have hb1 : Below W.heap.size W (W.alloc (.cells #[] 9)) := (Below.refl _ _).alloc (Nat.le_refl _) _
  cases ao with
  | none =>
    obtain rfl := hm.2.2 rfl
    have : ss = [] := List.eq_nil_of_length_eq_zero (by omega)
    subst this
    have ht := Tryd.underlying27
    refine ⟨.slice (some ⟨W.heap.size, 0, none⟩) 0 0, _, ?_, hmade, hb1⟩
    simp [Builtin.append_, run_underlying ht, sizeOf, typeInfo, hi, Builtin.lenOf, Builtin.firstCells, storeCells]
  | some ad =>
    have hnews : ∀ j u, (ss.map str)[j]? = some u → (W.alloc (.cells #[] 9)).cell? (ad.add j) = some u := by
      intro j u hu
      have hj : j < ss.length := by have := (List.getElem?_eq_some_iff.1 hu).1; simpa using this
      obtain ⟨b, off, ha, hb, hcell⟩ := hc (by intro e; simp [e] at hj)
      injection ha with ha
      subst ha
      rw [Addr.add_lit, hb1.cell (p := ⟨b, off + j, none⟩) hb, hcell j hj]
      simp [hj] at hu
      simp [List.getD, hj, hu]
    obtain ⟨v', w', hr, h2, h3, _⟩ := run_append_fresh (P := Tryd.prog) (W.alloc (.cells #[] 9)) W.heap.size 27 ty 9 i0 _ 1 16 Tryd.underlying27 hi hz0 hz1 hz2 rfl (by decide) _ 0 [] hmade ad ss.length ck (ss.map str) (by simp) hnews (strs_one ss) (by unfold maxLen; omega) (by omega) (by simp)
    refine ⟨v', w', hr, by simpa using h2, hb1.grown h3 (by simp) (fun k e => by have := Option.some.inj e; simp at this; omega)⟩
theorem wpList_copy_strs (W : World) {ops : Array Oper} {rest : List Oper} {o : Oper} {a : Act} {Q : Exit → Act → World → Prop} (hgd : o.guard = none) (s x : Operand)
    (ho : o.op = .call { callee := .builtin .append, args := #[s, x], argTypes := #[27, 27] }) (ss : List S8) (ao : Option Addr) (n ck : Nat) (hn : n = ss.length) (hS : StrsAt W (.slice ao n ck) ss) (hl : ss.length ≤ 1000000)
    (hs : a.eval s = .slice (some ⟨W.heap.size, 0, none⟩) 0 0) (hx : a.eval x = .slice ao n ck)
    (h : ∀ v' w', w'.ownsRow W.heap.size 9 1 v' n (ss.map str) → Below W.heap.size W w' → wpList Tryd.prog ops Q rest (a.put o.dst v') w') : wpList Tryd.prog ops Q (o :: rest) a (W.alloc (.cells #[] 9)) := by
  subst hn
  refine wpList_plain hgd fun K hK => ?_
  obtain ⟨v', w', hr, h2, h3⟩ := run_copy_strs W ss ao ck hS hl o.type
  unfold Oper.wp execOp
  simp only [ho, resolve, invoke, builtin, Sem.run_bind, Sem.run_pure, Result.andThen_ok, List.map_toArray, List.map_cons, List.map_nil, hs, hx, hr]
  exact hK _ _ (h v' w' h2 h3)

theorem cells_of_blk {W : World} {g : Nat} {cs : List Value} {T : TypeId} (h : W.heap[g]? = some (.cells cs.toArray T (0, 0))) : ∀ j u, cs[j]? = some u → W.cell? ((⟨g, 0, none⟩ : Addr).add j) = some u := by
  intro j u hu
  rw [Addr.add_lit, Nat.zero_add, Lib.cell_of_heap h]
  simpa using hu
theorem blk_ne {w : World} {a b : Nat} {c1 c2 : Array Value} {T1 T2 : TypeId} {f1 f2 : Nat × Nat} (h1 : w.heap[a]? = some (.cells c1 T1 f1)) (h2 : w.heap[b]? = some (.cells c2 T2 f2)) (hT : T1 ≠ T2) : a ≠ b := fun e => by
  subst e
  rw [h1] at h2
  injection h2 with h2
  injection h2 with _ h' _
  exact hT h'

/-- The rows under way: d's up to m stand; vd is deps, whose block is none of theirs. -/
structure Chn (w0 w : World) (g5 g6 i m : Nat) (vd vi vr : Value) (D : Nat → Option Addr × Nat) (xs : List IX) (rs : List RX) : Prop where
  bel : Below w0.heap.size w0 w
  b5 : w0.heap.size ≤ g5
  b6 : w0.heap.size ≤ g6
  sol : w.heap[g5]? = some (.cells #[vi, .int .i64 0, .bool false, .string ⟨#[]⟩, .slice none 0 0, .slice none 0 0] 31 (0, 0))
  st : w.heap[g6]? = some (.cells #[.int .i64 0, vr] 34 (0, 0))
  dp : w.ownsRow w0.heap.size 9 1 vd i ((depsC i).map str)
  xi : w.ownsRow w0.heap.size 41 10 vi xs.length (xs.flatMap fun x => instC x.1)
  ri : w.ownsRow w0.heap.size 37 9 vr rs.length (rs.flatMap fun x => recC x.1)
  ds : ∀ k, k < m → w.ownsRow w0.heap.size 9 1 (.slice (D k).1 k (D k).2) k ((depsC k).map str) ∧ ∀ q, (Value.slice (D k).1 k (D k).2).ownBlock = some q → vd.ownBlock ≠ some q
variable {w0 w w1 w2 w' : World} {g5 g6 i m : Nat} {vd vi vr v' : Value} {D : Nat → Option Addr × Nat} {xs : List IX} {rs : List RX} {o : Obj}
theorem row_below {base e size n : Nat} {v : Value} {ys : List Value} (h : w.ownsRow base e size v n ys) (hb : Below w.heap.size w w') : w'.ownsRow base e size v n ys := row_keep h fun q hq => by
  obtain ⟨_, hh⟩ := row_block h hq
  exact hb.block q (heap_lt hh)
theorem Chn.lt (h : Chn w0 w g5 g6 i m vd vi vr D xs rs) : w0.heap.size ≤ w.heap.size := h.bel.size
theorem Chn.below (h : Chn w0 w g5 g6 i m vd vi vr D xs rs) (hb : Below w.heap.size w w') : Chn w0 w' g5 g6 i m vd vi vr D xs rs :=
  ⟨h.bel.trans (hb.mono h.bel.size), h.b5, h.b6, (hb.block _ (heap_lt h.sol)).trans h.sol, (hb.block _ (heap_lt h.st)).trans h.st, row_below h.dp hb, row_below h.xi hb, row_below h.ri hb, fun k hk => ⟨row_below (h.ds k hk).1 hb, (h.ds k hk).2⟩⟩

theorem tInstStr : (41 : TypeId) ≠ 9 := by decide
theorem tRecStr : (37 : TypeId) ≠ 9 := by decide
theorem tSolStr : (31 : TypeId) ≠ 9 := by decide
theorem tStStr : (34 : TypeId) ≠ 9 := by decide
theorem tInstRec : (41 : TypeId) ≠ 37 := by decide
theorem tInstSol : (41 : TypeId) ≠ 31 := by decide
theorem tInstSt : (41 : TypeId) ≠ 34 := by decide
theorem tRecSol : (37 : TypeId) ≠ 31 := by decide
theorem tRecSt : (37 : TypeId) ≠ 34 := by decide
theorem tSolSt : (31 : TypeId) ≠ 34 := by decide

theorem Chn.rcd_box (h : Chn w0 w g5 g6 i m vd vi vr D xs rs) (hb1 : Below w.heap.size w w1) (hg : w1.grownBy w2 vr.ownBlock) : w2.heap[g6]? = some (.cells #[.int .i64 0, vr] 34 (0, 0)) := by
  rw [hg.block _ (Nat.lt_of_lt_of_le (heap_lt h.st) hb1.size) fun e => ?_, hb1.block _ (heap_lt h.st)]
  · exact h.st
  · obtain ⟨_, hh⟩ := row_block h.ri e.symm
    exact blk_ne h.st hh (Ne.symm tRecSt) rfl
theorem Chn.ins_box (h : Chn w0 w g5 g6 i m vd vi vr D xs rs) (hb1 : Below w.heap.size w w1) (hg : w1.grownBy w2 vi.ownBlock) : w2.heap[g5]? = some (.cells #[vi, .int .i64 0, .bool false, .string ⟨#[]⟩, .slice none 0 0, .slice none 0 0] 31 (0, 0)) := by
  rw [hg.block _ (Nat.lt_of_lt_of_le (heap_lt h.sol) hb1.size) fun e => ?_, hb1.block _ (heap_lt h.sol)]
  · exact h.sol
  · obtain ⟨_, hh⟩ := row_block h.xi e.symm
    exact blk_ne h.sol hh (Ne.symm tInstSol) rfl
/-- A record appended and stored. -/
theorem Chn.rcd (h : Chn w0 w g5 g6 i m vd vi vr D xs rs) (r : RX) (hown : w2.ownsRow w0.heap.size 37 9 v' (rs.length + 1) ((rs.flatMap fun x => recC x.1) ++ recC r.1)) (hb1 : Below w.heap.size w w1) (hg : w1.grownBy w2 vr.ownBlock) :
    Chn w0 (w2.setCell ⟨g6, 1, none⟩ v') g5 g6 i m vd vi v' D xs (rs ++ [r]) := by
  have hs1 := hb1.size
  have k2 : ∀ (q : Nat) (cs : Array Value) (T : TypeId) (fz : Nat × Nat), w.heap[q]? = some (.cells cs T fz) → T ≠ 37 → w2.heap[q]? = some (.cells cs T fz) := fun q cs T fz hq hT => by
    rw [hg.block q (Nat.lt_of_lt_of_le (heap_lt hq) hs1) fun e => ?_, hb1.block q (heap_lt hq)]
    · exact hq
    · obtain ⟨_, hh⟩ := row_block h.ri e.symm
      exact blk_ne hq hh hT rfl
  have hst2 := k2 _ _ _ _ h.st (Ne.symm tRecSt)
  have k3 : ∀ q, q ≠ g6 → (w2.setCell ⟨g6, 1, none⟩ v').heap[q]? = w2.heap[q]? := fun q hq => Below.heap_setCell _ _ _ _ hq
  have kr : ∀ {e size n : Nat} {v : Value} {ys : List Value}, e ≠ 37 → e ≠ 34 → w.ownsRow w0.heap.size e size v n ys → (w2.setCell ⟨g6, 1, none⟩ v').ownsRow w0.heap.size e size v n ys := fun {e size n v ys} h1 h2 hr => row_keep hr fun q hq => by
    obtain ⟨_, hh⟩ := row_block hr hq
    rw [k3 q (blk_ne hh h.st h2), k2 _ _ _ _ hh h1, hh]
  refine ⟨?_, h.b5, h.b6, (k3 _ (blk_ne h.sol h.st tSolSt)).trans (k2 _ _ _ _ h.sol (Ne.symm tRecSol)), setC hst2 1 v', kr (Ne.symm tRecStr) (Ne.symm tStStr) h.dp, kr tInstRec tInstSt h.xi, ?_, fun k hk => ⟨kr (Ne.symm tRecStr) (Ne.symm tStStr) (h.ds k hk).1, (h.ds k hk).2⟩⟩
  · have b1 : Below w0.heap.size w0 w1 := h.bel.trans (hb1.mono h.lt)
    exact (b1.grown hg (Nat.le_trans h.lt hs1) (fun k e => (h.ri.lt k e).1)).setCell (p := ⟨g6, 1, none⟩) h.b6 v'
  · rw [List.length_append, List.flatMap_append]
    show (w2.setCell ⟨g6, 1, none⟩ v').ownsRow _ _ 9 v' (rs.length + 1) (_ ++ ([r].flatMap fun x => recC x.1))
    rw [List.flatMap_cons, List.flatMap_nil, List.append_nil]
    refine row_keep hown fun q hq => k3 q ?_
    obtain ⟨_, hh⟩ := row_block hown hq
    exact blk_ne hh hst2 tRecSt
/-- An instance appended and stored. -/
theorem Chn.ins (h : Chn w0 w g5 g6 i m vd vi vr D xs rs) (x : IX) (hown : w2.ownsRow w0.heap.size 41 10 v' (xs.length + 1) ((xs.flatMap fun x => instC x.1) ++ instC x.1)) (hb1 : Below w.heap.size w w1) (hg : w1.grownBy w2 vi.ownBlock) :
    Chn w0 (w2.setCell ⟨g5, 0, none⟩ v') g5 g6 i m vd v' vr D (xs ++ [x]) rs := by
  have hs1 := hb1.size
  have k2 : ∀ (q : Nat) (cs : Array Value) (T : TypeId) (fz : Nat × Nat), w.heap[q]? = some (.cells cs T fz) → T ≠ 41 → w2.heap[q]? = some (.cells cs T fz) := fun q cs T fz hq hT => by
    rw [hg.block q (Nat.lt_of_lt_of_le (heap_lt hq) hs1) fun e => ?_, hb1.block q (heap_lt hq)]
    · exact hq
    · obtain ⟨_, hh⟩ := row_block h.xi e.symm
      exact blk_ne hq hh hT rfl
  have hst2 := k2 _ _ _ _ h.sol (Ne.symm tInstSol)
  have k3 : ∀ q, q ≠ g5 → (w2.setCell ⟨g5, 0, none⟩ v').heap[q]? = w2.heap[q]? := fun q hq => Below.heap_setCell _ _ _ _ hq
  have kr : ∀ {e size n : Nat} {v : Value} {ys : List Value}, e ≠ 41 → e ≠ 31 → w.ownsRow w0.heap.size e size v n ys → (w2.setCell ⟨g5, 0, none⟩ v').ownsRow w0.heap.size e size v n ys := fun {e size n v ys} h1 h2 hr => row_keep hr fun q hq => by
    obtain ⟨_, hh⟩ := row_block hr hq
    rw [k3 q (blk_ne hh h.sol h2), k2 _ _ _ _ hh h1, hh]
  refine ⟨?_, h.b5, h.b6, setC hst2 0 v', (k3 _ (blk_ne h.st h.sol (Ne.symm tSolSt))).trans (k2 _ _ _ _ h.st (Ne.symm tInstSt)), kr (Ne.symm tInstStr) (Ne.symm tSolStr) h.dp, ?_, kr (Ne.symm tInstRec) tRecSol h.ri, fun k hk => ⟨kr (Ne.symm tInstStr) (Ne.symm tSolStr) (h.ds k hk).1, (h.ds k hk).2⟩⟩
  · have b1 : Below w0.heap.size w0 w1 := h.bel.trans (hb1.mono h.lt)
    exact (b1.grown hg (Nat.le_trans h.lt hs1) (fun k e => (h.xi.lt k e).1)).setCell (p := ⟨g5, 0, none⟩) h.b5 v'
  · rw [List.length_append, List.flatMap_append]
    show (w2.setCell ⟨g5, 0, none⟩ v').ownsRow _ _ 10 v' (xs.length + 1) (_ ++ ([x].flatMap fun x => instC x.1))
    rw [List.flatMap_cons, List.flatMap_nil, List.append_nil]
    refine row_keep hown fun q hq => k3 q ?_
    obtain ⟨_, hh⟩ := row_block hown hq
    exact blk_ne hh hst2 tInstSol
/-- A name appended to deps. -/
theorem Chn.dep (h : Chn w0 w g5 g6 i m vd vi vr D xs rs) (hown : w2.ownsRow w0.heap.size 9 1 v' (i + 1) ((depsC i).map str ++ [str (nameC i)])) (hg : (w.alloc o).grownBy w2 vd.ownBlock) (hv : v'.ownBlock = vd.ownBlock ∨ v'.ownBlock = some (w.heap.size + 1)) :
    Chn w0 w2 g5 g6 (i + 1) m v' vi vr D xs rs := by
  have hs1 : (w.alloc o).heap.size = w.heap.size + 1 := by simp only [World.alloc, Array.size_push]
  have k2 : ∀ q, q < w.heap.size → vd.ownBlock ≠ some q → w2.heap[q]? = w.heap[q]? := fun q hq hne => by
    rw [hg.block q (by omega) fun e => hne e.symm, Below.heap_alloc _ _ q hq]
  have kt : ∀ (q : Nat) (cs : Array Value) (T : TypeId) (fz : Nat × Nat), w.heap[q]? = some (.cells cs T fz) → T ≠ 9 → w2.heap[q]? = some (.cells cs T fz) := fun q cs T fz hq hT => by
    rw [k2 q (heap_lt hq) fun e => ?_]
    · exact hq
    · obtain ⟨_, hh⟩ := row_block h.dp e
      exact blk_ne hq hh hT rfl
  have kr : ∀ {e size n : Nat} {v : Value} {ys : List Value}, e ≠ 9 → w.ownsRow w0.heap.size e size v n ys → w2.ownsRow w0.heap.size e size v n ys := fun {e size n v ys} h1 hr => row_keep hr fun q hq => by
    obtain ⟨_, hh⟩ := row_block hr hq
    rw [kt _ _ _ _ hh h1, hh]
  refine ⟨?_, h.b5, h.b6, kt _ _ _ _ h.sol tSolStr, kt _ _ _ _ h.st tStStr, ?_, kr tInstStr h.xi, kr tRecStr h.ri, fun k hk => ⟨?_, fun q hq => ?_⟩⟩
  · have b1 : Below w0.heap.size w0 (w.alloc o) := h.bel.alloc h.lt o
    exact b1.grown hg (by have := h.lt; omega) (fun k e => (h.dp.lt k e).1)
  · rw [depsC_snoc, List.map_append]
    exact hown
  · refine row_keep (h.ds k hk).1 fun q hq => ?_
    obtain ⟨_, hh⟩ := row_block (h.ds k hk).1 hq
    exact k2 q (heap_lt hh) ((h.ds k hk).2 q hq)
  · obtain ⟨_, hh⟩ := row_block (h.ds k hk).1 hq
    rcases hv with e | e
    · rw [e]
      exact (h.ds k hk).2 q hq
    · rw [e]
      intro e2
      have := Option.some.inj e2
      have := heap_lt hh
      omega
def updD (D : Nat → Option Addr × Nat) (i : Nat) (a : Option Addr × Nat) : Nat → Option Addr × Nat := fun k => if k = i then a else D k
/-- The copy of deps. -/
theorem Chn.copy (h : Chn w0 w g5 g6 i i vd vi vr D xs rs) {a : Option Addr} {c : Nat} (hown : w'.ownsRow w.heap.size 9 1 (.slice a i c) i ((depsC i).map str)) (hb : Below w.heap.size w w') :
    Chn w0 w' g5 g6 i (i + 1) vd vi vr (updD D i (a, c)) xs rs := by
  have h2 := h.below hb
  refine ⟨h2.bel, h2.b5, h2.b6, h2.sol, h2.st, h2.dp, h2.xi, h2.ri, fun k hk => ?_⟩
  by_cases e : k = i
  · subst e
    rw [show updD D k (a, c) k = (a, c) by unfold updD; rw [if_pos rfl]]
    refine ⟨row_base hown h.lt, fun q hq e2 => ?_⟩
    obtain ⟨_, hh⟩ := row_block h.dp e2
    have := (hown.lt q hq).1
    have := heap_lt hh
    omega
  · rw [show updD D i (a, c) k = D k by unfold updD; rw [if_neg e]]
    exact h2.ds k (by omega)
theorem xsY_upd (how i : Nat) (D : Nat → Option Addr × Nat) (a : Option Addr × Nat) : xsY how i (updD D i a) = xsY how i D := by
  unfold xsY
  split
  · rfl
  · refine List.map_congr_left fun k hk => ?_
    have : k < i := by simpa using hk
    unfold updD
    rw [if_neg (by omega)]
theorem rsY_upd (how i : Nat) (D : Nat → Option Addr × Nat) (a : Option Addr × Nat) : rsY how i (updD D i a) = rsY how i D := by
  unfold rsY
  split
  · rfl
  · refine List.map_congr_left fun k hk => ?_
    have : k < i := by simpa using hk
    unfold updD
    rw [if_neg (by omega)]
theorem xsY_snoc {how : Nat} (i : Nat) (D : Nat → Option Addr × Nat) (h : how ≠ 1) : xsY how (i + 1) D = xsY how i D ++ [instY how i (D i)] := by
  unfold xsY
  rw [if_neg h, if_neg h, List.range_succ, List.map_append]
  rfl
theorem rsY_snoc {how : Nat} (i : Nat) (D : Nat → Option Addr × Nat) (h : how ≠ 0) : rsY how (i + 1) D = rsY how i D ++ [recY i (D i)] := by
  unfold rsY
  rw [if_neg h, if_neg h, List.range_succ, List.map_append]
  rfl
theorem xsY_nil (how : Nat) (D : Nat → Option Addr × Nat) : xsY how 0 D = [] := by unfold xsY; split <;> rfl
theorem rsY_nil (how : Nat) (D : Nat → Option Addr × Nat) : rsY how 0 D = [] := by unfold rsY; split <;> rfl
theorem Chn.start (D : Nat → Option Addr × Nat) (hb : Below w0.heap.size w0 w) (h5 : w0.heap.size ≤ g5) (h6 : w0.heap.size ≤ g6) (hs : w.heap[g5]? = some (.cells #[.slice none 0 0, .int .i64 0, .bool false, .string ⟨#[]⟩, .slice none 0 0, .slice none 0 0] 31 (0, 0)))
    (ht : w.heap[g6]? = some (.cells #[.int .i64 0, .slice none 0 0] 34 (0, 0))) (how : Nat) : Chn w0 w g5 g6 0 0 (.slice none 0 0) (.slice none 0 0) (.slice none 0 0) D (xsY how 0 D) (rsY how 0 D) := by
  rw [xsY_nil, rsY_nil]
  exact ⟨hb, h5, h6, hs, ht, ⟨rfl, .inl ⟨rfl, rfl⟩⟩, ⟨rfl, .inl ⟨rfl, rfl⟩⟩, ⟨rfl, .inl ⟨rfl, rfl⟩⟩, fun k hk => by omega⟩
theorem xsY_one (i : Nat) (D : Nat → Option Addr × Nat) : xsY 1 i D = [] := rfl
theorem rsY_zero (i : Nat) (D : Nat → Option Addr × Nat) : rsY 0 i D = [] := rfl
theorem updD_at (D : Nat → Option Addr × Nat) (i : Nat) (a : Option Addr × Nat) : updD D i a i = a := by unfold updD; rw [if_pos rfl]
theorem depsC_short {i : Nat} {d : S8} (h : d ∈ depsC i) : d.length ≤ 1000 := by
  obtain ⟨k, _, rfl⟩ := List.mem_map.1 h
  simp [nameC_len]
theorem Chn.insts {how n : Nat} (h : Chn w0 w g5 g6 n n vd vi vr D (xsY how n D) rs) (hn : n ≤ 20) : InstsAt w vi (xsY how n D) := by
  refine ⟨CellsAt.row h.xi, fun x hx => ?_, fun x hx => ?_⟩
  · obtain ⟨k, hk, rfl⟩ := xsY_mem hx
    have := (h.ds k hk).1
    refine strs_row (base := w0.heap.size) ?_
    show w.ownsRow _ _ 1 (.slice (D k).1 k (D k).2) (depsC k).length _
    rw [depsC_len]
    exact this
  · obtain ⟨k, hk, rfl⟩ := xsY_mem hx
    exact ⟨by show (nameC k).length ≤ 1000; simp [nameC_len], fun d hd => depsC_short hd, by show (depsC k).length ≤ 60; rw [depsC_len]; omega⟩
theorem Chn.recs {how n : Nat} (h : Chn w0 w g5 g6 n n vd vi vr D xs (rsY how n D)) (hn : n ≤ 20) : RecsAt w vr (rsY how n D) := by
  refine ⟨CellsAt.row h.ri, fun x hx => ?_, fun x hx => ?_⟩
  · obtain ⟨k, hk, rfl⟩ := rsY_mem hx
    have := (h.ds k hk).1
    refine strs_row (base := w0.heap.size) ?_
    show w.ownsRow _ _ 1 (.slice (D k).1 k (D k).2) (depsC k).length _
    rw [depsC_len]
    exact this
  · obtain ⟨k, hk, rfl⟩ := rsY_mem hx
    exact ⟨by show (nameC k).length ≤ 1000; simp [nameC_len], fun d hd => depsC_short hd, by show (depsC k).length ≤ 60; rw [depsC_len]; omega⟩

/-- A text appended to a row of texts. -/
theorem row_push {base n : Nat} {L L' : List S8} {T : S8} (hown : w2.ownsRow base 9 1 v' (n + 1) (L.map str ++ [str T])) (hL : L ++ [T] = L') : w2.ownsRow base 9 1 v' (n + 1) (L'.map str) := by
  rw [← hL, List.map_append]
  exact hown
theorem push_below {B base e size n : Nat} {v : Value} {ys : List Value} {u : World} (h : Below B u w) (hr : w.ownsRow base e size v n ys) (hB : B ≤ base) (hs : B ≤ w.heap.size) (hg : (w.alloc o).grownBy w2 v.ownBlock) : Below B u w2 :=
  (h.alloc hs o).grown hg (by simp only [World.alloc, Array.size_push]; omega) (fun k e => Nat.le_trans hB (hr.lt k e).1)
/-- The text of one letter, made of its byte. -/
theorem str_byte {w : World} (d : Nat) (h : d < 100) (x : Int) (hx : x = 97 + (d : Int)) :
    (convert 35 9 (.slice (some ⟨w.heap.size, 0, none⟩) 1 1)).run Tryd.prog (w.alloc (.cells #[.int .u8 x] 5)) = .ok (.string ⟨[UInt8.ofNat (97 + d)].toArray⟩) (w.alloc (.cells #[.int .u8 x] 5)) := by
  have hc := run_convert_bytes_back (P := Tryd.prog) (w.alloc (.cells #[.int .u8 x] 5)) 35 9 5 ⟨w.heap.size, 0, none⟩ 1 [UInt8.ofNat (97 + d)] Tryd.underlying35 Tryd.underlying5 Tryd.underlying9 (fun j hj => by
    have hj0 : j = 0 := by simpa using hj
    subst hj0
    have : (UInt8.ofNat (97 + d)).toNat = 97 + d := by rw [UInt8.toNat_ofNat']; omega
    refine (cells_new w [.int .u8 x] 5 0 (.int .u8 x) rfl).trans ?_
    rw [hx]
    show some (Value.int .u8 (97 + (d : Int))) = some (Value.int .u8 ((UInt8.ofNat (97 + d)).toNat : Int))
    rw [this]
    rfl)
  simpa using hc

end Go.Proofs.YtnjbdedmalpccaaDoor
