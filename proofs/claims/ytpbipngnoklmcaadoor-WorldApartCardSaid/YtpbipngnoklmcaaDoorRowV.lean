/- A value that came in reads as a tree. No condition. -/
import Derived.Test.YtpbipngnoklmcaaDoorRow
import Derived.Test.YtpbipngnoklmcaaDoorMv
namespace Go.Proofs.YtpbipngnoklmcaaDoor
open Go.ChangeShapes Go.WideShapes Go.ChangeAt Go.RowKit
set_option maxRecDepth 100000

theorem cellsVal : Tryd.prog.cellsOf 27 = 5 := by kernel_rfl
theorem cellsKind : Tryd.prog.cellsOf 23 = 1 := by kernel_rfl
theorem cellsBool : Tryd.prog.cellsOf 4 = 1 := by kernel_rfl
theorem cellsString : Tryd.prog.cellsOf 9 = 1 := by kernel_rfl
theorem cellsVals : Tryd.prog.cellsOf 24 = 1 := by kernel_rfl
theorem cellsStrs : Tryd.prog.cellsOf 25 = 1 := by kernel_rfl

section
variable {H : Type} {enc : TypeId × Value → H} {W : World}

theorem trod_struct5 {P : Program} {w : World} {base : Nat} {spare : Nat → Bool} {held : Bool} {t : TypeId} {f0 f1 f2 f3 f4 : Field} {fuel : Nat} {cs : List Value} {x : DataW H × List MemPlace} (ht : P.underlying t = some (.struct #[f0, f1, f2, f3, f4])) (h : DataW.trod enc P w base spare held fuel t cs = some x) :
    ∃ y0 y1 y2 y3 y4 n, fuel = n + 1 ∧ cs.length = P.cellsOf t ∧ DataW.trod enc P w base spare held n f0.type ((cs.drop f0.offset).take (P.cellsOf f0.type)) = some y0 ∧
      DataW.trod enc P w base spare held n f1.type ((cs.drop f1.offset).take (P.cellsOf f1.type)) = some y1 ∧ DataW.trod enc P w base spare held n f2.type ((cs.drop f2.offset).take (P.cellsOf f2.type)) = some y2 ∧
      DataW.trod enc P w base spare held n f3.type ((cs.drop f3.offset).take (P.cellsOf f3.type)) = some y3 ∧ DataW.trod enc P w base spare held n f4.type ((cs.drop f4.offset).take (P.cellsOf f4.type)) = some y4 := by
  obtain ⟨xs, n, hn, rfl, hl, hlen, hf⟩ := DataW.trod_struct ht h
  match xs, hlen with
  | [y0, y1, y2, y3, y4], _ => exact ⟨y0, y1, y2, y3, y4, n, hn, hl, by simpa using hf 0 f0 rfl, by simpa using hf 1 f1 rfl, by simpa using hf 2 f2 rfl, by simpa using hf 3 f3 rfl, by simpa using hf 4 f4 rfl⟩

theorem addr_plain {a : Addr} {v : Value} (h : W.cell? a = some v) : a = ⟨a.block, a.off, none⟩ := by
  cases a with
  | mk b o s =>
    cases s with
    | none => rfl
    | some s =>
      exfalso
      unfold World.cell? at h
      split at h <;> simp at h

/-- A slice of texts that came in. -/
theorem strs_of_trod {n : Nat} {c : Value} {x : DataW H × List MemPlace} (h : DataW.trod enc Tryd.prog W 0 (fun _ => true) true n 25 [c] = some x) : ∃ ks, StrsAt W c ks := by
  rcases Deep.open_slice1 Tryd.underlying25 cellsString h with ⟨hcs, _⟩ | ⟨a, len, cap, m, _, V, D, Pl, hcs, _, hl, hm, hmm, _, hel⟩
  · obtain rfl : c = .slice none 0 0 := by simpa using hcs
    exact ⟨[], StrsAt.nil W⟩
  · obtain rfl : c = .slice (some a) len cap := by simpa using hcs
    simp only [if_true] at hmm
    subst hmm
    have each : ∀ i, i < m → ∃ s : List UInt8, W.cell? (a.add i) = some (str s) := fun i hi => by
      obtain ⟨h1, h2⟩ := hel i hi
      obtain ⟨s, e, _, _⟩ := DataW.trod_string Tryd.underlying9 h2
      obtain ⟨⟨s⟩⟩ := s
      have e : V i = .string ⟨⟨s⟩⟩ := by simpa using e
      exact ⟨s, by rw [h1, e]⟩
    obtain ⟨f, hf⟩ := Deep.choose_lt each
    refine ⟨(List.range len).map f, some a, m, by simp, ⟨by simpa using hl, by unfold maxLen at hm; omega, fun e => by cases e⟩, fun hne => ?_⟩
    have hlen : 0 < len := by
      cases len with
      | zero => simp at hne
      | succ n => omega
    have ea := addr_plain (by simpa [Addr.add] using hf 0 (by omega) : W.cell? a = some _)
    refine ⟨a.block, a.off, by rw [ea], World.block_lt_of_cell? W a (by simpa [Addr.add] using hf 0 (by omega)), fun i hi => ?_⟩
    have hi' : i < len := by simpa using hi
    have e1 : ((List.range len).map f).getD i [] = f i := by simp [List.getD, hi']
    have h1 := hf i (by omega)
    rw [ea, Addr.add_lit] at h1
    rw [e1]
    exact h1

theorem val_of_trod (n : Nat) : ∀ (cs : List Value) (x : DataW H × List MemPlace), DataW.trod enc Tryd.prog W 0 (fun _ => true) true n 27 cs = some x → ∃ c0 c1 c2 c3 c4 t, cs = [c0, c1, c2, c3, c4] ∧ ValAt W t (.agg #[c0, c1, c2, c3, c4]) := by
  induction n using Nat.strongRecOn with
  | _ n ih =>
    intro cs x h
    obtain ⟨y0, y1, y2, y3, y4, m, rfl, hl, h0, h1, h2, h3, h4⟩ := trod_struct5 Tryd.underlying27 h
    rw [cellsVal] at hl
    match cs, hl with
    | [c0, c1, c2, c3, c4], _ =>
      simp only [cellsKind, cellsBool, cellsString, cellsVals, cellsStrs, List.drop_zero, List.drop_succ_cons, List.take_succ_cons, List.take_zero] at h0 h1 h2 h3 h4
      obtain ⟨k, e0, _, wf⟩ := DataW.trod_int Tryd.underlying23 h0
      obtain ⟨b, e1, _⟩ := DataW.trod_bool Tryd.underlying4 h1
      obtain ⟨s, e2, _, hs⟩ := DataW.trod_string Tryd.underlying9 h2
      obtain ⟨⟨s⟩⟩ := s
      obtain rfl : c0 = .int .i64 k := by simpa using e0
      obtain rfl : c1 = .bool b := by simpa using e1
      obtain rfl : c2 = .string ⟨⟨s⟩⟩ := by simpa using e2
      have bd := bounds_i64 wf
      have hsl : s.length ≤ 9223372036854775807 := by
        have : s.toArray.size ≤ maxLen := hs
        unfold maxLen at this
        simp at this
        omega
      obtain ⟨ks, hks⟩ := strs_of_trod h4
      rcases DataW.trod_slice Tryd.underlying24 h3 with ⟨hcs, _⟩ | ⟨a, len, cap, elems, rest, p, hp, hcs, _, _, hlc, hm, hel, hx, _⟩
      · obtain rfl : c3 = .slice none 0 0 := by simpa using hcs
        refine ⟨_, _, _, _, _, .mk k b s [] ks, rfl, ?_⟩
        rw [ValAt]
        exact ⟨_, _, rfl, ⟨bd.1, bd.2, hsl⟩, hks, fun _ => .bool false, RowAt.nil W _, by rw [ValsAt]; trivial⟩
      · obtain rfl : c3 = .slice (some a) len cap := by simpa using hcs
        have each : ∀ i, i < len → ∃ q : VT × Value, (∃ c0 c1 c2 c3 c4, q.2 = .agg #[c0, c1, c2, c3, c4] ∧ W.cell? (a.add (i * 5)) = some c0 ∧ W.cell? ((a.add (i * 5)).add 1) = some c1 ∧ W.cell? ((a.add (i * 5)).add 2) = some c2 ∧ W.cell? ((a.add (i * 5)).add 3) = some c3 ∧ W.cell? ((a.add (i * 5)).add 4) = some c4) ∧ ValAt W q.1 q.2 := fun i hi => by
          have hxi := hx i hi
          rw [List.getElem?_eq_getElem (by omega)] at hxi
          obtain ⟨cs', g1, g2⟩ := Option.bind_eq_some_iff.1 hxi
          obtain ⟨d0, d1, d2, d3, d4, t, rfl, ht⟩ := ih p (by omega) cs' _ g2
          rw [cellsVal] at g1
          obtain ⟨_, _, g3⟩ := World.cells?_some g1
          exact ⟨(t, .agg #[d0, d1, d2, d3, d4]), ⟨d0, d1, d2, d3, d4, rfl, by have := g3 0 (by decide); simpa [Addr.add] using this, by simpa using g3 1 (by decide), by simpa using g3 2 (by decide), by simpa using g3 3 (by decide), by simpa using g3 4 (by decide)⟩, ht⟩
        obtain ⟨f, hf2⟩ := Deep.choose_lt each
        refine ⟨_, _, _, _, _, .mk k b s ((List.range len).map fun i => (f i).1) ks, rfl, ?_⟩
        rw [ValAt]
        refine ⟨_, _, rfl, ⟨bd.1, bd.2, hsl⟩, hks, fun i => (f i).2, ?_, ?_⟩
        · rw [List.length_map, List.length_range]
          refine ⟨some a, cap, rfl, ⟨hlc, by unfold maxLen at hm; omega, fun e => by cases e⟩, fun hne => ?_⟩
          obtain ⟨⟨c0, _, _, _, _, _, g0, _⟩, _⟩ := hf2 0 (by omega)
          have ea := addr_plain (by simpa [Addr.add] using g0 : W.cell? a = some _)
          refine ⟨a.block, a.off, by rw [ea], World.block_lt_of_cell? W a (by simpa [Addr.add] using g0), fun i hi => ?_⟩
          obtain ⟨⟨d0, d1, d2, d3, d4, e, g0, g1, g2, g3, g4⟩, _⟩ := hf2 i hi
          rw [ea, Addr.add_lit] at g0 g1 g2 g3 g4
          rw [Addr.add_lit] at g1 g2 g3 g4
          exact ⟨d0, d1, d2, d3, d4, e, g0, g1, g2, g3, g4⟩
        · rw [ValsAt_iff]
          intro i hi
          have hi' : i < len := by simpa using hi
          simpa using (hf2 i hi').2

/-- A value that came in. -/
theorem open_val {b0 : Nat} {v : Value} {d : DataW H} {ps : List MemPlace} (hval : Value.okWide Tryd.prog W .any b0 27 v) (h : DataW.Trod enc Tryd.prog W 0 (fun _ => true) true 27 v d ps) : ∃ t, ValAt W t v := by
  obtain ⟨cs, rfl, hs⟩ := okWide_struct Tryd.underlying27 hval
  obtain ⟨fuel, hf⟩ := h
  obtain ⟨c0, c1, c2, c3, c4, t, e, ht⟩ := val_of_trod fuel _ _ hf
  obtain ⟨l⟩ := cs
  have e : l = [c0, c1, c2, c3, c4] := by simpa [Value.cells] using e
  subst e
  exact ⟨t, ht⟩
end

end Go.Proofs.YtpbipngnoklmcaaDoor
