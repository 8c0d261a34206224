/- Objects and calls that came in read as lists and trees. No condition. Plain: one call, the world and the document's world side by side. No walk. The law's play: update. Printed by genplay.py. -/
import Derived.Test.YtpbipngnoklmcaaGreatDoorMWldSe
import Derived.Test.YtpbipngnoklmcaaGreatDoorMWldN
import Derived.Deep.Strs
import Derived.Test.YtpbipngnoklmcaaGreatDoorWldRc
import Derived.Test.YtpbipngnoklmcaaGreatDoorMGoodR
import Derived.Test.YtpbipngnoklmcaaGreatDoorMWldHs
import Derived.Test.YtpbipngnoklmcaaGreatDoorMWldRe
import Derived.Test.YtpbipngnoklmcaaGreatDoorMConH
namespace Go.Proofs.YtpbipngnoklmcaaGreatDoor
open Go.ChangeShapes Go.WideShapes Go.ChangeAt Go.RowKit
set_option maxRecDepth 100000

/-- A call, as a law's argument. -/
structure OpT where
  kind : Int
  addr : S8
  typ : S8
  id : S8
  after : S8
  x : VT
def opV (o : OpT) (ai : Option Addr) (ci : Nat) (ak : Option Addr) (ck : Nat) : Value := .agg #[.int .i64 o.kind, str o.addr, str o.typ, str o.id, str o.after, .int .i64 o.x.kind, .bool o.x.flag, str o.x.text, .slice ai o.x.items.length ci, .slice ak o.x.keys.length ck]
theorem cellsObj : Tryz.prog.cellsOf 47 = 7 := by kernel_rfl
theorem cellsOp : Tryz.prog.cellsOf 43 = 10 := by kernel_rfl
theorem cellsInt1 : Tryz.prog.cellsOf 3 = 1 := by kernel_rfl
theorem fit_max {s : S8} (h : (ByteArray.mk s.toArray).size ≤ maxLen) : fitS s := by
  have h : s.toArray.size ≤ maxLen := h
  unfold maxLen at h
  show s.length ≤ _
  simpa using h

section
variable {H : Type} {enc : TypeId × Value → H} {W : World}

theorem trod_struct6 {P : Program} {w : World} {base : Nat} {spare : Nat → Bool} {held : Bool} {t : TypeId} {f0 f1 f2 f3 f4 f5 : Field} {fuel : Nat} {cs : List Value} {x : DataW H × List MemPlace} (ht : P.underlying t = some (.struct #[f0, f1, f2, f3, f4, f5])) (h : DataW.trod enc P w base spare held fuel t cs = some x) :
    ∃ y0 y1 y2 y3 y4 y5 n, x.1 = .agg [y0.1, y1.1, y2.1, y3.1, y4.1, y5.1] ∧ cs.length = P.cellsOf t ∧ DataW.trod enc P w base spare held n f0.type ((cs.drop f0.offset).take (P.cellsOf f0.type)) = some y0 ∧
      DataW.trod enc P w base spare held n f1.type ((cs.drop f1.offset).take (P.cellsOf f1.type)) = some y1 ∧ DataW.trod enc P w base spare held n f2.type ((cs.drop f2.offset).take (P.cellsOf f2.type)) = some y2 ∧
      DataW.trod enc P w base spare held n f3.type ((cs.drop f3.offset).take (P.cellsOf f3.type)) = some y3 ∧ DataW.trod enc P w base spare held n f4.type ((cs.drop f4.offset).take (P.cellsOf f4.type)) = some y4 ∧
      DataW.trod enc P w base spare held n f5.type ((cs.drop f5.offset).take (P.cellsOf f5.type)) = some y5 := by
  obtain ⟨xs, n, hn, rfl, hl, hlen, hf⟩ := DataW.trod_struct ht h
  match xs, hlen with
  | [y0, y1, y2, y3, y4, y5], _ => exact ⟨y0, y1, y2, y3, y4, y5, n, by simp, hl, by simpa using hf 0 f0 rfl, by simpa using hf 1 f1 rfl, by simpa using hf 2 f2 rfl, by simpa using hf 3 f3 rfl, by simpa using hf 4 f4 rfl, by simpa using hf 5 f5 rfl⟩

theorem obj_of_trod (n : Nat) (cs : List Value) (x : DataW H × List MemPlace) (h : DataW.trod enc Tryz.prog W 0 (fun _ => true) true n 47 cs = some x) : ∃ (t j : S8) (v : VT) (ai : Option Addr) (ci : Nat) (ak : Option Addr) (ck : Nat), cs = [str t, str j, .int .i64 v.kind, .bool v.flag, str v.text, .slice ai v.items.length ci, .slice ak v.keys.length ck] ∧ fitS t ∧ fitS j ∧
    ValAt W v (.agg #[.int .i64 v.kind, .bool v.flag, str v.text, .slice ai v.items.length ci, .slice ak v.keys.length ck]) := by
  obtain ⟨y0, y1, y2, m, _, hl, h0, h1, h2⟩ := Deep.trod_struct3 Tryz.underlying47 h
  rw [cellsObj] at hl
  match cs, hl with
  | [c0, c1, c2, c3, c4, c5, c6], _ =>
    simp only [cellsString, cellsVal, List.drop_zero, List.drop_succ_cons, List.take_succ_cons, List.take_zero] at h0 h1 h2
    obtain ⟨s0, e0, _, m0⟩ := DataW.trod_string Tryz.underlying9 h0
    obtain ⟨s1, e1, _, m1⟩ := DataW.trod_string Tryz.underlying9 h1
    obtain ⟨⟨s0⟩⟩ := s0
    obtain ⟨⟨s1⟩⟩ := s1
    obtain rfl : c0 = .string ⟨⟨s0⟩⟩ := by simpa using e0
    obtain rfl : c1 = .string ⟨⟨s1⟩⟩ := by simpa using e1
    obtain ⟨d0, d1, d2, d3, d4, v, hcs, hv⟩ := val_of_trod m _ _ h2
    obtain ⟨ai, ci, ak, ck, hf⟩ := hv.form
    have hcs : [c2, c3, c4, c5, c6] = [d0, d1, d2, d3, d4] := hcs
    injection hf with hf
    injection hf with hf
    rw [← hcs] at hf
    rw [show (Value.agg #[d0, d1, d2, d3, d4]) = .agg [d0, d1, d2, d3, d4].toArray from rfl, ← hcs, hf] at hv
    exact ⟨s0, s1, v, ai, ci, ak, ck, by rw [hf], fit_max m0, fit_max m1, hv⟩

theorem objs_of_trod {n : Nat} {c : Value} {y : DataW H × List MemPlace} (h : DataW.trod enc Tryz.prog W 0 (fun _ => true) true n 22 [c] = some y) : ∃ os, ObjsAt W c os := by
  rcases DataW.trod_slice Tryz.underlying22 h with ⟨hcs, _⟩ | ⟨a, len, cap, elems, rest, p, hp, hcs, _, _, hlc, hm, hel, hx, _⟩
  · obtain rfl : c = .slice none 0 0 := by simpa using hcs
    exact ⟨[], ObjsAt.nil W⟩
  · obtain rfl : c = .slice (some a) len cap := by simpa using hcs
    have each : ∀ i, i < len → ∃ o : O3, (fitS o.1 ∧ fitS o.2.1) ∧ ∃ ai ci ak ck, ValAt W o.2.2 (.agg #[.int .i64 o.2.2.kind, .bool o.2.2.flag, str o.2.2.text, .slice ai o.2.2.items.length ci, .slice ak o.2.2.keys.length ck]) ∧
        W.cell? (a.add (i * 7)) = some (str o.1) ∧ W.cell? ((a.add (i * 7)).add 1) = some (str o.2.1) ∧ W.cell? ((a.add (i * 7)).add 2) = some (.int .i64 o.2.2.kind) ∧ W.cell? ((a.add (i * 7)).add 3) = some (.bool o.2.2.flag) ∧
        W.cell? ((a.add (i * 7)).add 4) = some (str o.2.2.text) ∧ W.cell? ((a.add (i * 7)).add 5) = some (.slice ai o.2.2.items.length ci) ∧ W.cell? ((a.add (i * 7)).add 6) = some (.slice ak o.2.2.keys.length ck) := fun i hi => by
      have hxi := hx i hi
      rw [List.getElem?_eq_getElem (by omega)] at hxi
      obtain ⟨cs', g1, g2⟩ := Option.bind_eq_some_iff.1 hxi
      obtain ⟨t, j, v, ai, ci, ak, ck, rfl, f1, f2, hv⟩ := obj_of_trod p cs' _ g2
      rw [cellsObj] at g1
      obtain ⟨_, _, g3⟩ := World.cells?_some g1
      exact ⟨(t, j, v), ⟨f1, f2⟩, ai, ci, ak, ck, hv, by have := g3 0 (by decide); simpa [Addr.add] using this, by simpa using g3 1 (by decide), by simpa using g3 2 (by decide), by simpa using g3 3 (by decide), by simpa using g3 4 (by decide), by simpa using g3 5 (by decide), by simpa using g3 6 (by decide)⟩
    obtain ⟨f, hf⟩ := Deep.choose_lt each
    refine ⟨(List.range len).map f, some a, cap, by simp, ⟨by simpa using hlc, by unfold maxLen at hm; omega, fun e => by cases e⟩, fun o ho => ?_, fun hne => ?_⟩
    · obtain ⟨i, hi, rfl⟩ := List.mem_map.1 ho
      exact (hf i (by simpa using hi)).1
    · have hlen : 0 < len := by
        cases len with
        | zero => simp at hne
        | succ n => omega
      obtain ⟨_, _, _, _, _, _, g0, _⟩ := hf 0 hlen
      have ea := addr_plain (by simpa [Addr.add] using g0 : W.cell? a = some _)
      refine ⟨a.block, a.off, by rw [ea], World.block_lt_of_cell? W a (by simpa [Addr.add] using g0), fun i t j x hi => ?_⟩
      have hil : i < len := by
        have := (List.getElem?_eq_some_iff.1 hi).1
        simpa using this
      have he : f i = (t, j, x) := by simpa [hil] using hi
      obtain ⟨_, ai, ci, ak, ck, hv, g0, g1, g2, g3, g4, g5, g6⟩ := hf i hil
      rw [he] at hv g0 g1 g2 g3 g4 g5 g6
      rw [ea, Addr.add_lit] at g0 g1 g2 g3 g4 g5 g6
      rw [Addr.add_lit] at g1 g2 g3 g4 g5 g6
      exact ⟨ai, ci, ak, ck, hv, g0, g1, g2, g3, g4, g5, g6⟩
theorem open_objs {b0 : Nat} {v : Value} {d : DataW H} {ps : List MemPlace} (hval : Value.okWide Tryz.prog W .any b0 22 v) (h : DataW.Trod enc Tryz.prog W 0 (fun _ => true) true 22 v d ps) : ∃ os, ObjsAt W v os := by
  obtain ⟨a0, len, cap, rfl⟩ := okWide_slice Tryz.underlying22 hval
  obtain ⟨fuel, hf⟩ := h
  exact objs_of_trod (c := .slice a0 len cap) hf

/-- The cells of a call. -/
theorem op_of_trod (n : Nat) (cs : List Value) (x : DataW H × List MemPlace) (h : DataW.trod enc Tryz.prog W 0 (fun _ => true) true n 43 cs = some x) (hsz : ∀ m ∈ x.1.weights Tryz.prog 43, m ≤ reachBytes) :
    ∃ (o : OpT) (ai : Option Addr) (ci : Nat) (ak : Option Addr) (ck : Nat), cs = [.int .i64 o.kind, str o.addr, str o.typ, str o.id, str o.after, .int .i64 o.x.kind, .bool o.x.flag, str o.x.text, .slice ai o.x.items.length ci, .slice ak o.x.keys.length ck] ∧
      (-9223372036854775808 ≤ o.kind ∧ o.kind ≤ 9223372036854775807) ∧ (o.addr.length ≤ 140737488351232 ∧ o.after.length ≤ 140737488351232 ∧ o.id.length ≤ 140737488351232 ∧ o.typ.length ≤ 140737488351232) ∧
      ValAt W o.x (.agg #[.int .i64 o.x.kind, .bool o.x.flag, str o.x.text, .slice ai o.x.items.length ci, .slice ak o.x.keys.length ck]) := by
  obtain ⟨y0, y1, y2, y3, y4, y5, m, hx, hl, h0, h1, h2, h3, h4, h5⟩ := trod_struct6 Tryz.underlying43 h
  rw [cellsOp] at hl
  match cs, hl with
  | [c0, c1, c2, c3, c4, c5, c6, c7, c8, c9], _ =>
    simp only [cellsInt1, cellsString, cellsVal, List.drop_zero, List.drop_succ_cons, List.take_succ_cons, List.take_zero] at h0 h1 h2 h3 h4 h5
    obtain ⟨k, e0, _, wf⟩ := DataW.trod_int Tryz.underlying3 h0
    have bd := bounds_i64 wf
    obtain ⟨s1, e1, x1, _⟩ := DataW.trod_string Tryz.underlying9 h1
    obtain ⟨s2, e2, x2, _⟩ := DataW.trod_string Tryz.underlying9 h2
    obtain ⟨s3, e3, x3, _⟩ := DataW.trod_string Tryz.underlying9 h3
    obtain ⟨s4, e4, x4, _⟩ := DataW.trod_string Tryz.underlying9 h4
    obtain ⟨⟨s1⟩⟩ := s1
    obtain ⟨⟨s2⟩⟩ := s2
    obtain ⟨⟨s3⟩⟩ := s3
    obtain ⟨⟨s4⟩⟩ := s4
    obtain rfl : c0 = .int .i64 k := by simpa using e0
    obtain rfl : c1 = .string ⟨⟨s1⟩⟩ := by simpa using e1
    obtain rfl : c2 = .string ⟨⟨s2⟩⟩ := by simpa using e2
    obtain rfl : c3 = .string ⟨⟨s3⟩⟩ := by simpa using e3
    obtain rfl : c4 = .string ⟨⟨s4⟩⟩ := by simpa using e4
    obtain ⟨d0, d1, d2, d3, d4, v, hcs, hv⟩ := val_of_trod m _ _ h5
    obtain ⟨ai, ci, ak, ck, hf⟩ := hv.form
    have hcs : [c5, c6, c7, c8, c9] = [d0, d1, d2, d3, d4] := hcs
    injection hf with hf
    injection hf with hf
    rw [← hcs] at hf
    rw [show (Value.agg #[d0, d1, d2, d3, d4]) = .agg [d0, d1, d2, d3, d4].toArray from rfl, ← hcs, hf] at hv
    have part : ∀ (j : Nat) (s : S8), [y0.1, y1.1, y2.1, y3.1, y4.1, y5.1][j]? = some (.lit (.string s)) → [3, 9, 9, 9, 9, 41][j]? = some 9 → s.length ≤ 140737488351232 := fun j s hj ht => by
      have := hsz s.length (by
        rw [hx]
        simp only [DataW.weights, Tryz.underlying43]
        exact DataW.weights_mem_each (j := j) ht hj s.length (by simp [DataW.weights]))
      simpa [reachBytes] using this
    refine ⟨⟨k, s1, s2, s3, s4, v⟩, ai, ci, ak, ck, ?_, bd, ⟨?_, ?_, ?_, ?_⟩, hv⟩
    · show _ = [Value.int .i64 k, .string ⟨⟨s1⟩⟩, .string ⟨⟨s2⟩⟩, .string ⟨⟨s3⟩⟩, .string ⟨⟨s4⟩⟩] ++ [.int .i64 v.kind, .bool v.flag, str v.text, .slice ai v.items.length ci, .slice ak v.keys.length ck]
      rw [← hf]
      rfl
    · exact part 1 s1 (by rw [x1]; rfl) rfl
    · exact part 4 s4 (by rw [x4]; rfl) rfl
    · exact part 3 s3 (by rw [x3]; rfl) rfl
    · exact part 2 s2 (by rw [x2]; rfl) rfl
theorem open_op {b0 : Nat} {v : Value} {d : DataW H} {ps : List MemPlace} {j : Nat} {ts : List TypeId} {ds : List (DataW H)} (hval : Value.okWide Tryz.prog W .any b0 43 v) (h : DataW.Trod enc Tryz.prog W 0 (fun _ => true) true 43 v d ps)
    (hsz : (DataW.weightsEach Tryz.prog ts ds).all (· ≤ reachBytes) = true) (hts : ts[j]? = some 43) (hds : ds[j]? = some d) :
    ∃ (o : OpT) (ai : Option Addr) (ci : Nat) (ak : Option Addr) (ck : Nat), v = opV o ai ci ak ck ∧ (-9223372036854775808 ≤ o.kind ∧ o.kind ≤ 9223372036854775807) ∧ (o.addr.length ≤ 140737488351232 ∧ o.after.length ≤ 140737488351232 ∧ o.id.length ≤ 140737488351232 ∧ o.typ.length ≤ 140737488351232) ∧
      ValAt W o.x (.agg #[.int .i64 o.x.kind, .bool o.x.flag, str o.x.text, .slice ai o.x.items.length ci, .slice ak o.x.keys.length ck]) := by
  obtain ⟨cs, rfl, hs⟩ := okWide_struct Tryz.underlying43 hval
  obtain ⟨fuel, hf⟩ := h
  obtain ⟨o, ai, ci, ak, ck, e, hk, hl, hv⟩ := op_of_trod fuel _ _ hf (fun m hm => by
    have := List.all_eq_true.1 hsz m (DataW.weights_mem_each hts hds m hm)
    simpa using this)
  obtain ⟨l⟩ := cs
  change l = _ at e
  subst e
  exact ⟨o, ai, ci, ak, ck, rfl, hk, hl, hv⟩
end

end Go.Proofs.YtpbipngnoklmcaaGreatDoor
namespace Go.Proofs.YtpbipngnoklmcaaGreatDoor
open Go.RowKit
set_option maxRecDepth 100000

variable {w w' : World} {p b n : Nat} {S : WS} {val : S8 → S8 → Value} {vf vt : Value} {D : DataW Value}

theorem refNeS : (32 : TypeId) ≠ 9 := by decide
theorem refNeV : (32 : TypeId) ≠ 41 := by decide
theorem refNeC : (32 : TypeId) ≠ 58 := by decide
theorem refNeW : (32 : TypeId) ≠ 74 := by decide
theorem refNeF : (32 : TypeId) ≠ 52 := by decide
/-- A world stays while boxes of the document's world are written. -/
theorem WAt.boxed {X : List Nat} (h : WAt w p b n S val vf vt D) (hs : Spares X w w') (hX : ∀ q ∈ X, ∃ cs fz, w.heap[q]? = some (.cells cs 32 fz)) : WAt w' p b n S val vf vt D := by
  have other : ∀ {q : Nat} {cs : Array Value} {T : TypeId} {fz : Nat × Nat}, w.heap[q]? = some (.cells cs T fz) → 32 ≠ T → w'.heap[q]? = w.heap[q]? := fun {q cs T fz} hq hT => hs.block q (heap_lt hq) fun hm => by
    obtain ⟨cs', fz', hh⟩ := hX q hm
    rw [hq] at hh
    injection hh with hh
    injection hh with _ e _
    exact hT e.symm
  refine ⟨(other h.box refNeW).trans h.box, map_keep h.map ?_, h.rel, h.ris, h.fit, h.vals.keep fun o _ F hF q hq => ?_, row_keep h.fails fun q hq => ?_, row_keep h.trace fun q hq => ?_⟩
  · obtain ⟨es, clock, hb⟩ := map_block h.map
    refine hs.block b (heap_lt hb) fun hm => ?_
    obtain ⟨cs', fz', hh⟩ := hX b hm
    rw [hb] at hh
    cases hh
  · obtain ⟨cs, fz, hh⟩ := own_kinds hF q hq
    rcases hh with hh | hh
    · exact other hh refNeS
    · exact other hh refNeV
  · obtain ⟨_, hh⟩ := row_block h.fails hq
    exact other hh refNeF
  · obtain ⟨_, hh⟩ := row_block h.trace hq
    exact other hh refNeC
theorem Box2.spared {g h : Nat} {x y : Array Value} {T : TypeId} {F : List Nat} (k : Box2 g h x y T w) (hs : Spares F w w') (hg : g ∉ F) (hh : h ∉ F) : Box2 g h x y T w' := ⟨(hs.block _ (heap_lt k.one) hg).trans k.one, (hs.block _ (heap_lt k.two) hh).trans k.two⟩

theorem op_cells {w : World} {g : Nat} {c0 c1 c2 c3 c4 c5 c6 c7 c8 c9 : Value} {T : TypeId} (h : w.heap[g]? = some (.cells #[c0, c1, c2, c3, c4, c5, c6, c7, c8, c9] T (0, 0))) : w.cell? ⟨g, 0, none⟩ = some c0 ∧ w.cell? ⟨g, 1, none⟩ = some c1 ∧ w.cell? ⟨g, 2, none⟩ = some c2 ∧ w.cell? ⟨g, 3, none⟩ = some c3 ∧ w.cell? ⟨g, 4, none⟩ = some c4 ∧ w.cell? ⟨g, 5, none⟩ = some c5 ∧ w.cell? ⟨g, 6, none⟩ = some c6 ∧ w.cell? ⟨g, 7, none⟩ = some c7 ∧ w.cell? ⟨g, 8, none⟩ = some c8 ∧ w.cell? ⟨g, 9, none⟩ = some c9 := by
  refine ⟨?_, ?_, ?_, ?_, ?_, ?_, ?_, ?_, ?_, ?_⟩ <;> (rw [Lib.cell_of_heap h]; rfl)
/-- No more than one object and one call more. -/
def Grow (S S' : WS) : Prop := S'.trace.length ≤ S.trace.length + 1 ∧ S'.objs.length ≤ S.objs.length + 1
theorem Grow.same (S : WS) : Grow S S := ⟨by omega, by omega⟩
theorem grow_note (S : WS) (op : Int) (addr typ i : S8) (e : Int) : Grow S (noteP S op addr typ i e) := ⟨by show (S.trace ++ [_]).length ≤ _; rw [List.length_append]; exact Nat.le_refl _, by show S.objs.length ≤ _; omega⟩
theorem grow_create (S : WS) (addr typ after : S8) (x : VT) : Grow S (createP S addr typ after x).1 := by
  unfold createP
  split
  · exact Grow.same S
  · split
    · exact grow_note S _ _ _ _ _
    · exact ⟨by show (S.trace ++ [_]).length ≤ _; rw [List.length_append]; exact Nat.le_refl _, len_with_le _ _⟩
theorem grow_update (S : WS) (addr typ i : S8) (x : VT) : Grow S (updateP S addr typ i x).1 := by
  unfold updateP
  split
  · exact Grow.same S
  · split
    · exact grow_note S _ _ _ _ _
    · split
      · exact grow_note S _ _ _ _ _
      · exact ⟨by show (S.trace ++ [_]).length ≤ _; rw [List.length_append]; exact Nat.le_refl _, len_with_le _ _⟩
theorem grow_delete (S : WS) (addr typ i : S8) : Grow S (deleteP S addr typ i).1 := by
  unfold deleteP
  split
  · exact grow_note S _ _ _ _ _
  · exact ⟨by show (S.trace ++ [_]).length ≤ _; rw [List.length_append]; exact Nat.le_refl _, Nat.le_trans (len_out_le _ _ _) (by omega)⟩
theorem grow_set (S : WS) (typ i : S8) (x : VT) : Grow S (setP S typ i x).1 := by
  unfold setP
  split
  · exact Grow.same S
  · exact ⟨by show S.trace.length ≤ _; omega, len_with_le _ _⟩
theorem grow_kill (S : WS) (typ i : S8) : Grow S (killP S typ i).1 := by
  unfold killP
  split
  · exact Grow.same S
  · exact ⟨by show S.trace.length ≤ _; omega, Nat.le_trans (len_out_le _ _ _) (by omega)⟩

/-- What one call leaves. -/
def Played (G : List Nat) (p b n : Nat) (S : WS) (vf vt : Value) (w : World) (e : Ending) (w' : World) : Prop :=
  ∃ m' rs' S' n' val' vt' D', e = .returned (.tuple #[m', .bool true]) ∧ n' ≤ n + 1 ∧ Grow S S' ∧ WAt w' p b n' S' val' vf vt' D' ∧ RAt (wF p b vt' ++ G) w' m' rs' S' ∧ Spares (wF p b vt) w w' ∧ ∀ q ∈ wF p b vt', q ∈ wF p b vt ∨ w.heap.size ≤ q
/-- From the two calls to the end: the real one from wA to w2, the document's one from w2 to w3, then the boxes. -/
theorem Played.of {G : List Nat} {g h : Nat} {wA w2 w3 wR : World} {m' : Value} {rs' : List R3} {S' : WS} {n' : Nat} {val' : S8 → S8 → Value} {vt' : Value} {D' : DataW Value} {x y : Array Value}
    (hbA : Below w.heap.size w wA) (hgw : w.heap.size ≤ g ∧ w.heap.size ≤ h) (hsp : Spares (wF p b vt) wA w2) (hF : ∀ q ∈ wF p b vt', q ∈ wF p b vt ∨ wA.heap.size ≤ q) (hW : WAt w2 p b n' S' val' vf vt' D') (hn : n' ≤ n + 1) (hG : Grow S S')
    (hb3 : Below w2.heap.size w2 w3) (r3 : RAt (wF p b vt' ++ (g :: h :: G)) w3 m' rs' S') (bx : Box2 g h x y 32 w3) (hsR : Spares [g, h] w3 wR) : Played G p b n S vf vt w (.returned (.tuple #[m', .bool true])) wR := by
  refine ⟨m', rs', S', n', val', vt', D', rfl, hn, hG, (hW.below hb3).boxed hsR (fun q hq => ?_), r3.step (hsR.sub fun k hk _ => ?_) (fun q hq => .inl ?_), ?_, fun q hq => ?_⟩
  · simp at hq
    rcases hq with rfl | rfl
    · exact ⟨_, _, bx.one⟩
    · exact ⟨_, _, bx.two⟩
  · have hk : k = g ∨ k = h := by simpa using hk
    rcases hk with rfl | rfl
    · exact List.mem_append.2 (.inr (by simp))
    · exact List.mem_append.2 (.inr (by simp))
  · rcases List.mem_append.1 hq with hq | hq
    · exact List.mem_append.2 (.inl hq)
    · exact List.mem_append.2 (.inr (by simp [hq]))
  · have s1 : Spares (wF p b vt ++ [g, h]) w wR := (((Spares.of_below hbA).trans (hsp.sub fun k hk _ => by simp [hk])).trans (Spares.of_below hb3)).trans (hsR.sub fun k hk _ => by simp at hk; simp [hk])
    refine s1.sub fun k hk hl => ?_
    rcases List.mem_append.1 hk with hk | hk
    · exact hk
    · simp at hk
      omega
  · rcases hF q hq with hq | hq
    · exact .inl hq
    · exact .inr (Nat.le_trans hbA.size hq)

end Go.Proofs.YtpbipngnoklmcaaGreatDoor
namespace Go.Proofs.YtpbipngnoklmcaaGreatDoor
open Go.RowKit
set_option maxRecDepth 100000
attribute [local go_sem] str_size str_toList str_get

variable {p b n : Nat} {S : WS} {val : S8 → S8 → Value} {vf vt : Value} {D : DataW Value}

set_option maxHeartbeats 16000000 in
theorem play_update {G : List Nat} {w : World} {m : Value} {rs : List R3} (h : WAt w p b n S val vf vt D) (r : RAt (wF p b vt ++ G) w m rs S) (hG : ∀ q ∈ G, q < w.heap.size) (addr typ i after : S8) (x : VT) (ai : Option Addr) (ci : Nat) (ak : Option Addr) (ck : Nat)
    (hv : Kept (wF p b vt ++ G) w fun W => ValAt W x (.agg #[.int .i64 x.kind, .bool x.flag, str x.text, .slice ai x.items.length ci, .slice ak x.keys.length ck])) (_ha : addr.length ≤ 281474976710656) (_haf : after.length ≤ 281474976710656) (ft : fitS typ) (fi : fitS i) (hl : S.trace.length ≤ 10000) (hn : n ≤ 10000) (ho : S.objs.length ≤ 10000) (hE : ErrW w) (hT : TabW w) :
    Calls Tryz.prog 9 #[.pointer (some ⟨p, 0, none⟩), m, .agg #[.int .i64 2, str addr, str typ, str i, str after, .int .i64 x.kind, .bool x.flag, str x.text, .slice ai x.items.length ci, .slice ak x.keys.length ck]] w (Played G p b n S vf vt w) := by
  have mixed : Tryz.prog.follows .mixedOrders = true := by kernel_rfl
  obtain ⟨ao, co, af, cf, at', ct, rfl, _⟩ := r.form
  obtain ⟨wA, hwA⟩ : ∃ wA, wA = ((w.alloc (.cells #[.slice ao rs.length co, .slice af S.fails.length cf, .slice at' S.trace.length ct] 32)).alloc (.cells #[.int .i64 2, str addr, str typ, str i, str after, .int .i64 x.kind, .bool x.flag, str x.text, .slice ai x.items.length ci, .slice ak x.keys.length ck] 43)).alloc (.cells #[.slice none 0 0, .slice none 0 0, .slice none 0 0] 32) := ⟨_, rfl⟩
  obtain ⟨BX, OX, hbA⟩ := box_three w #[.slice ao rs.length co, .slice af S.fails.length cf, .slice at' S.trace.length ct] #[.int .i64 2, str addr, str typ, str i, str after, .int .i64 x.kind, .bool x.flag, str x.text, .slice ai x.items.length ci, .slice ak x.keys.length ck] #[.slice none 0 0, .slice none 0 0, .slice none 0 0] 32 43
  rw [← hwA] at BX OX hbA
  have hA := h.below hbA
  have hwl := h.lt
  have gl := heap_lt BX.two
  have rA : RAt (wF p b vt ++ (w.heap.size :: (w.heap.size + 2) :: G)) wA (.agg #[.slice ao rs.length co, .slice af S.fails.length cf, .slice at' S.trace.length ct]) rs S := r.step (Spares.of_below hbA) fun q hq => by
    rcases List.mem_append.1 hq with hq | hq
    · exact .inl (List.mem_append.2 (.inl hq))
    · rcases List.mem_cons.1 hq with rfl | hq
      · exact .inr (Nat.le_refl _)
      · rcases List.mem_cons.1 hq with rfl | hq
        · exact .inr (by omega)
        · exact .inl (List.mem_append.2 (.inr hq))
  have vA : Kept (wF p b vt ++ (w.heap.size :: (w.heap.size + 2) :: G)) wA fun W => ValAt W x (.agg #[.int .i64 x.kind, .bool x.flag, str x.text, .slice ai x.items.length ci, .slice ak x.keys.length ck]) := hv.step (Spares.of_below hbA) fun q hq => by
    rcases List.mem_append.1 hq with hq | hq
    · exact .inl (List.mem_append.2 (.inl hq))
    · rcases List.mem_cons.1 hq with rfl | hq
      · exact .inr (Nat.le_refl _)
      · rcases List.mem_cons.1 hq with rfl | hq
        · exact .inr (by omega)
        · exact .inl (List.mem_append.2 (.inr hq))
  have hgF : w.heap.size ∉ wF p b vt := fun hm => by have := hwl _ hm; omega
  have hg1 : w.heap.size + 1 ∉ wF p b vt := fun hm => by have := hwl _ hm; omega
  have hg2 : w.heap.size + 2 ∉ wF p b vt := fun hm => by have := hwl _ hm; omega
  have HGL : Hid (∀ q ∈ (w.heap.size :: (w.heap.size + 2) :: G), q < wA.heap.size) := fun q hq => by
    have hs := hbA.size
    rcases List.mem_cons.1 hq with rfl | hq
    · omega
    · rcases List.mem_cons.1 hq with rfl | hq
      · omega
      · have := hG q hq
        omega
  have RL := update_w hA addr typ i x _ vA.now ft fi (by omega) (by omega)
  have hgr : Grow S (updateP S addr typ i x).1 := grow_update S addr typ i x
  have HREF := Lib.hid (fun (F : List Nat) (W : World) (r2 : RAt F W (.agg #[.slice ao rs.length co, .slice af S.fails.length cf, .slice at' S.trace.length ct]) rs S) (v2 : Kept F W fun W => ValAt W x (.agg #[.int .i64 x.kind, .bool x.flag, str x.text, .slice ai x.items.length ci, .slice ak x.keys.length ck])) (hl2 : ∀ q ∈ F, q < W.heap.size) => update_r r2 hl2 addr typ i x ai ci ak ck v2 ft fi (by omega) (by omega))
  obtain ⟨R, hR⟩ : ∃ R, updateP S addr typ i x = R := ⟨_, rfl⟩
  rw [hR] at RL hgr HREF
  obtain ⟨S', c⟩ := R
  dsimp only at RL hgr HREF
  have HGR := Lib.hid hgr
  clear hR hgr
  obtain ⟨p0, p1, p2, p3, p4, p5, p6, p7, p8, p9⟩ := op_cells OX
  have HBX := Lib.hid BX
  have HOX := Lib.hid OX
  have HRA := Lib.hid rA
  have HVA := Lib.hid vA
  have HBA := Lib.hid hbA
  have HG1 := Lib.hid (⟨hgF, hg1, hg2⟩ : _ ∧ _ ∧ _)
  have HEE := Lib.hid (hE.mono hbA)
  have HTT := Lib.hid (hT.mono hbA)
  clear BX OX rA vA hbA h r hv hA hgF hg1 hg2 hE hT hwl hG
  go_enter Tryz.func9, Tryz.ntmps9
  go_upto_region 1 with fail
  rw [← hwA]
  clear hwA
  go_wp2_with fail
  refine RL.mono ?_
  rintro e w2 ⟨rfl, n', hn', hs⟩
  obtain ⟨val', vt', D', hW2, hsp, hF2⟩ := hs
  have BX2 := HBX.out.spared hsp HG1.out.1 HG1.out.2.2
  have OX2 := (hsp.block _ (heap_lt HOX.out) HG1.out.2.1).trans HOX.out
  have hmv : ∀ q ∈ wF p b vt' ++ (w.heap.size :: (w.heap.size + 2) :: G), q ∈ wF p b vt ++ (w.heap.size :: (w.heap.size + 2) :: G) ∨ wA.heap.size ≤ q := fun q hq => by
    rcases List.mem_append.1 hq with hq | hq
    · exact (hF2 q hq).imp (fun e => List.mem_append.2 (.inl e)) id
    · exact .inl (List.mem_append.2 (.inr hq))
  have hsp' : Spares (wF p b vt ++ (w.heap.size :: (w.heap.size + 2) :: G)) wA w2 := hsp.sub fun k hk _ => List.mem_append.2 (.inl hk)
  have r2 := HRA.out.step hsp' hmv
  have v2 := HVA.out.step hsp' hmv
  have hl2 : ∀ q ∈ wF p b vt' ++ (w.heap.size :: (w.heap.size + 2) :: G), q < w2.heap.size := fun q hq => by
    rcases List.mem_append.1 hq with hq | hq
    · exact hW2.lt q hq
    · exact Nat.lt_of_lt_of_le (HGL.out q hq) hsp.size
  have HPL := Lib.hid (fun (w3 : World) (m' : Value) (rs' : List R3) (X Y : Array Value) (wR : World) (hb3 : Below w2.heap.size w2 w3) (r3 : RAt (wF p b vt' ++ (w.heap.size :: (w.heap.size + 2) :: G)) w3 m' rs' S') (bx : Box2 w.heap.size (w.heap.size + 2) X Y 32 w3) (hsR : Spares [w.heap.size, w.heap.size + 2] w3 wR) =>
    Played.of (w := w) (S := S) (n := n) (n' := n') (vf := vf) (vt := vt) HBA.out ⟨Nat.le_refl _, by omega⟩ hsp hF2 hW2 (by omega) HGR.out hb3 r3 bx hsR)
  have RF := HREF.out _ w2 r2 v2 hl2
  obtain ⟨p0, p1, p2, p3, p4, p5, p6, p7, p8, p9⟩ := op_cells OX2
  obtain ⟨x0, x1, x2, _⟩ := BX2.cells
  have HX2 := Lib.hid BX2
  clear RL BX2 OX2 hmv hsp' r2 v2 hl2 hW2 hsp hF2 HREF
  go_wp2_with fail
  refine RF.mono ?_
  rintro e w3 ⟨m', rs', rfl, r3, hb3⟩
  clear p0 p1 p2 p3 p4 p5 p6 p7 p8 p9 x0 x1 x2 RF
  obtain ⟨a1, k1, a2, k2, a3, k3, rfl, _⟩ := r3.form
  have BX3 := HX2.out.below hb3
  obtain ⟨x0, x1, x2, x3, z0, z1, z2, z3, z4, z5⟩ := BX3.cells
  have x4 := Lib.frozen_of_heap BX3.one 1
  have x5 := Lib.frozen_of_heap BX3.one 2
  obtain ⟨w4, hw4, m4, s4, _⟩ := put_box3 BX3.one (.slice a1 rs'.length k1) (.slice a2 S'.fails.length k2) (.slice a3 S'.trace.length k3)
  have hs4 := put3_spares w3 w.heap.size (.slice a1 rs'.length k1) (.slice a2 S'.fails.length k2) (.slice a3 S'.trace.length k3)
  rw [← hw4] at hs4
  have n4 : w4.heap[w.heap.size + 2]? = some (.cells #[.slice none 0 0, .slice none 0 0, .slice none 0 0] 32 (0, 0)) := (s4 _ (by omega)).trans BX3.two
  have BX4 : Box2 w.heap.size (w.heap.size + 2) #[.slice a1 rs'.length k1, .slice a2 S'.fails.length k2, .slice a3 S'.trace.length k3] #[.slice none 0 0, .slice none 0 0, .slice none 0 0] 32 w4 := ⟨m4, n4⟩
  obtain ⟨y0, y1, y2, y3, u0, u1, u2, u3, u4, u5⟩ := BX4.cells
  obtain ⟨wR, hwR, xR, _, _⟩ := put_box3 BX4.two (.slice a1 rs'.length k1) (.slice a2 S'.fails.length k2) (.slice a3 S'.trace.length k3)
  have hsR := put3_spares w4 (w.heap.size + 2) (.slice a1 rs'.length k1) (.slice a2 S'.fails.length k2) (.slice a3 S'.trace.length k3)
  rw [← hwR] at hsR
  have hsum : Spares [w.heap.size, w.heap.size + 2] w3 wR := (hs4.sub fun k hk _ => by simp at hk; simp [hk]).trans (hsR.sub fun k hk _ => by simp at hk; simp [hk])
  have HP := Lib.hid (HPL.out w3 _ _ _ _ wR hb3 r3 BX3 hsum)
  have HXR := Lib.hid xR
  clear BX3 BX4 hs4 hsR hsum m4 n4 s4 xR hb3 r3
  go_upto_region 26 with fail
  rw [← hw4]
  clear hw4 x0 x1 x2 x3 x4 x5 z0 z1 z2 z3 z4 z5
  go_wp2
  rw [← hwR]
  (try simp only [Exit.inBlock, Exit.then]); refine bodyPost_ret (results_ct rfl _ _ (w.heap.size + 2) _ _ _ _ rfl HXR.out Tryz.underlying32 rfl (by kernel_rfl)) rfl ?_
  exact HP.out

end Go.Proofs.YtpbipngnoklmcaaGreatDoor
