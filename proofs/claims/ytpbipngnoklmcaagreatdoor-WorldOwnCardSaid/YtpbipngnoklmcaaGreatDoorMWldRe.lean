/- The walk of Read. A value that came in reads as a tree. No condition. Objects and calls that came in read as lists and trees. No condition. -/
import Derived.Test.YtpbipngnoklmcaaGreatDoorMWldU
import Derived.Test.YtpbipngnoklmcaaGreatDoorWldE
import Derived.Test.YtpbipngnoklmcaaGreatDoorRow
import Derived.Test.YtpbipngnoklmcaaGreatDoorMWldP
import Derived.Test.YtpbipngnoklmcaaGreatDoorMWldF
import Derived.Deep.Strs
namespace Go.Proofs.YtpbipngnoklmcaaGreatDoor
open Go.RowKit
set_option maxRecDepth 100000
attribute [local go_sem] str_size str_toList str_get

variable {w : World} {p b n : Nat} {S : WS} {val : S8 → S8 → Value} {vf vt : Value} {D : DataW Value}
/-- What Read answers. -/
def readV (l : List O3) (t i : S8) : VT := (atO l t i).getD VT.none
theorem none_own (w : World) : OwnVal w VT.none zeroVal [] := by
  unfold VT.none
  rw [OwnVal]
  exact ⟨.slice none 0 0, .slice none 0 0, [], [], [], [], rfl, by simp, OwnS.nil _ _ _, OwnS.nil _ _ _, rfl, rfl, by rw [OwnVals]; exact ⟨rfl, rfl⟩⟩
/-- What a look-up holds reads as the object's attributes. -/
theorem WAt.read (h : WAt w p b n S val vf vt D) {t i : S8} {V : Value} (h1 : hasO S.objs t i = true → V = val t i) (h2 : hasO S.objs t i = false → V = zeroVal) : ValAt w (readV S.objs t i) V ∧ fitV (readV S.objs t i) = true ∧ sizeV (readV S.objs t i) ≤ 2000 := by
  unfold readV
  cases hh : hasO S.objs t i with
  | true =>
    obtain ⟨x, hx⟩ := hasO_iff.1 hh
    rw [(atO_iff h.ris).2 hx, h1 hh]
    obtain ⟨hg, F, hF⟩ := h.vals _ hx
    obtain ⟨g1, g2⟩ := goodA_facts hg
    exact ⟨hF.at, g1, g2⟩
  | false =>
    have : atO S.objs t i = none := by
      have := hasO_at S.objs t i
      rw [hh] at this
      cases ha : atO S.objs t i with
      | none => rfl
      | some v => rw [ha] at this; cases this
    rw [this, h2 hh]
    exact ⟨(none_own w).at, by decide, by decide⟩

set_option maxHeartbeats 8000000 in
theorem read_w (h : WAt w p b n S val vf vt D) (typ i : S8) (ft : fitS typ) (fi : fitS i) :
    Calls Tryz.prog 17 #[.pointer (some ⟨p, 0, none⟩), str typ, str i] w fun e w' =>
      ∃ v' F, e = .returned (.tuple #[v', .bool (hasO S.objs typ i)]) ∧ OwnVal w' (readV S.objs typ i) v' F ∧ F.Nodup ∧ (∀ q ∈ F, w.heap.size ≤ q) ∧ Below w.heap.size w w' := by
  have mixed : Tryz.prog.follows .mixedOrders = true := by kernel_rfl
  obtain ⟨V, hlk, h1, h2, vk0, vf0, vt0, va0, vn0, vc0, va1, vn1, vc1, rfl⟩ := h.look ft fi
  obtain ⟨r1, r2, r3⟩ := h.read h1 h2
  obtain ⟨B, hB⟩ : ∃ B, hasO S.objs typ i = B := ⟨_, rfl⟩
  rw [hB] at hlk ⊢
  simp only [show nameV typ i = .agg #[str typ, str i] from rfl] at hlk
  generalize readV S.objs typ i = t at r1 r2 r3 ⊢
  obtain ⟨wA, hwA⟩ : ∃ wA, wA = w.alloc (.cells #[.int .i64 0, .bool false, .string ⟨#[]⟩, .slice none 0 0, .slice none 0 0] 41) := ⟨_, rfl⟩
  have nA : wA.heap[w.heap.size]? = some (.cells #[.int .i64 0, .bool false, .string ⟨#[]⟩, .slice none 0 0, .slice none 0 0] 41 (0, 0)) := by rw [hwA]; exact heap_alloc_new _ _
  have bA : Below w.heap.size w wA := by rw [hwA]; exact (Below.refl _ w).alloc (Nat.le_refl _) _
  have hA := h.below bA
  have T1 := hlk _ hA.map
  have c6 : wA.cell? ⟨p, 0, none⟩ = some (.map (some b)) := by rw [Lib.cell_of_heap hA.box]; rfl
  obtain ⟨wB, hwB⟩ : ∃ wB, wB = wA.alloc (.cells #[.int .i64 vk0, .bool vf0, str vt0, .slice va0 vn0 vc0, .slice va1 vn1 vc1] 41) := ⟨_, rfl⟩
  have nB : wB.heap[wA.heap.size]? = some (.cells #[.int .i64 vk0, .bool vf0, str vt0, .slice va0 vn0 vc0, .slice va1 vn1 vc1] 41 (0, 0)) := by rw [hwB]; exact heap_alloc_new _ _
  have bB : Below wA.heap.size wA wB := by rw [hwB]; exact (Below.refl _ wA).alloc (Nat.le_refl _) _
  have sA : wA.heap.size = w.heap.size + 1 := by rw [hwA]; simp only [World.alloc, Array.size_push]
  have hbB := bA.trans (bB.mono bA.size)
  have nAB := (bB.block _ (heap_lt nA)).trans nA
  have CL := clone_val t _ wB (r1.mono hbB) r2 (Nat.le_trans r3 (by decide))
  obtain ⟨d0, d1, d2, d3, d4⟩ : _ ∧ _ ∧ _ ∧ _ ∧ _ := ⟨(by rw [Lib.cell_of_heap nB]; rfl : wB.cell? ⟨wA.heap.size, 0, none⟩ = some (.int .i64 vk0)), (by rw [Lib.cell_of_heap nB]; rfl : wB.cell? ⟨wA.heap.size, 1, none⟩ = some (.bool vf0)), (by rw [Lib.cell_of_heap nB]; rfl : wB.cell? ⟨wA.heap.size, 2, none⟩ = some (str vt0)), (by rw [Lib.cell_of_heap nB]; rfl : wB.cell? ⟨wA.heap.size, 3, none⟩ = some (.slice va0 vn0 vc0)), (by rw [Lib.cell_of_heap nB]; rfl : wB.cell? ⟨wA.heap.size, 4, none⟩ = some (.slice va1 vn1 vc1))⟩
  have HNA := Lib.hid nAB
  have HBB := Lib.hid hbB
  have hsz := bB.size
  clear hlk h1 h2 r1 r2 r3 hB h hA nA nB bA bB hbB nAB sA
  go_enter Tryz.func17, Tryz.ntmps17
  go_upto_region 1 with fail
  rw [← hwA]
  clear hwA
  go_upto_region 2 with fail
  rw [← hwB]
  clear hwB T1 c6
  go_wp2_with fail
  refine CL.mono ?_
  rintro e w2 ⟨v', F, rfl, hov, hnd, hge, hb2⟩
  obtain ⟨si, sc, sk, sd, rfl⟩ := hov.at.form
  have n2 := (hb2.block _ (heap_lt HNA.out)).trans HNA.out
  have hwl := HBB.out.size
  have hwlt := heap_lt HNA.out
  obtain ⟨z0, z1, z2, z3, z4⟩ : _ ∧ _ ∧ _ ∧ _ ∧ _ := ⟨(by rw [Lib.cell_of_heap n2]; rfl : w2.cell? ⟨w.heap.size, 0, none⟩ = some (.int .i64 0)), (by rw [Lib.cell_of_heap n2]; rfl : w2.cell? ⟨w.heap.size, 1, none⟩ = some (.bool false)), (by rw [Lib.cell_of_heap n2]; rfl : w2.cell? ⟨w.heap.size, 2, none⟩ = some (.string ⟨#[]⟩)), (by rw [Lib.cell_of_heap n2]; rfl : w2.cell? ⟨w.heap.size, 3, none⟩ = some (.slice none 0 0)), (by rw [Lib.cell_of_heap n2]; rfl : w2.cell? ⟨w.heap.size, 4, none⟩ = some (.slice none 0 0))⟩
  have y0 := Lib.frozen_of_heap n2 0
  have y1 := Lib.frozen_of_heap n2 1
  have y2 := Lib.frozen_of_heap n2 2
  have y3 := Lib.frozen_of_heap n2 3
  have y4 := Lib.frozen_of_heap n2 4
  obtain ⟨wR, hwR, xR, sR, kR, bR⟩ := put_box5 n2 (.int .i64 t.kind) (.bool t.flag) (str t.text) (.slice si t.items.length sc) (.slice sk t.keys.length sd)
  have hbR : Below w.heap.size w wR := bR w.heap.size w (Nat.le_refl _) (HBB.out.trans (hb2.mono HBB.out.size))
  have hoR : OwnVal wR t (.agg #[.int .i64 t.kind, .bool t.flag, str t.text, .slice si t.items.length sc, .slice sk t.keys.length sd]) F := hov.keep fun q hq => kR q (by have := hge q hq; omega)
  have HP := Lib.hid (⟨hoR, hnd, (fun q hq => by have := hge q hq; omega), hbR⟩ : OwnVal wR t (.agg #[.int .i64 t.kind, .bool t.flag, str t.text, .slice si t.items.length sc, .slice sk t.keys.length sd]) F ∧ F.Nodup ∧ (∀ q ∈ F, w.heap.size ≤ q) ∧ Below w.heap.size w wR)
  have HXR := Lib.hid xR
  clear hov hnd hge hb2 n2 xR sR kR bR hbR hoR d0 d1 d2 d3 d4 CL
  go_wp2
  rw [← hwR]
  (try simp only [Exit.inBlock, Exit.then]); refine bodyPost_ret (results_ct rfl _ _ w.heap.size _ _ _ _ rfl HXR.out Tryz.underlying41 rfl (by kernel_rfl)) rfl ?_
  exact ⟨_, F, rfl, HP.out⟩

end Go.Proofs.YtpbipngnoklmcaaGreatDoor
namespace Go.Proofs.YtpbipngnoklmcaaGreatDoor
open Go.ChangeShapes Go.WideShapes Go.ChangeAt Go.RowKit
set_option maxRecDepth 100000

theorem cellsVal : Tryz.prog.cellsOf 41 = 5 := by kernel_rfl
theorem cellsKind : Tryz.prog.cellsOf 37 = 1 := by kernel_rfl
theorem cellsBool : Tryz.prog.cellsOf 4 = 1 := by kernel_rfl
theorem cellsString : Tryz.prog.cellsOf 9 = 1 := by kernel_rfl
theorem cellsVals : Tryz.prog.cellsOf 38 = 1 := by kernel_rfl
theorem cellsStrs : Tryz.prog.cellsOf 39 = 1 := by kernel_rfl

section
variable {H : Type} {enc : TypeId × Value → H} {W : World}

theorem trod_struct5 {P : Program} {w : World} {base : Nat} {spare : Nat → Bool} {held : Bool} {t : TypeId} {f0 f1 f2 f3 f4 : Field} {fuel : Nat} {cs : List Value} {x : DataW H × List MemPlace} (ht : P.underlying t = some (.struct #[f0, f1, f2, f3, f4])) (h : DataW.trod enc P w base spare held fuel t cs = some x) :
    ∃ y0 y1 y2 y3 y4 n, fuel = n + 1 ∧ cs.length = P.cellsOf t ∧ DataW.trod enc P w base spare held n f0.type ((cs.drop f0.offset).take (P.cellsOf f0.type)) = some y0 ∧
      DataW.trod enc P w base spare held n f1.type ((cs.drop f1.offset).take (P.cellsOf f1.type)) = some y1 ∧ DataW.trod enc P w base spare held n f2.type ((cs.drop f2.offset).take (P.cellsOf f2.type)) = some y2 ∧
      DataW.trod enc P w base spare held n f3.type ((cs.drop f3.offset).take (P.cellsOf f3.type)) = some y3 ∧ DataW.trod enc P w base spare held n f4.type ((cs.drop f4.offset).take (P.cellsOf f4.type)) = some y4 := by
  obtain ⟨xs, n, hn, rfl, hl, hlen, hf⟩ := DataW.trod_struct ht h
  match xs, hlen with
  | [y0, y1, y2, y3, y4], _ => exact ⟨y0, y1, y2, y3, y4, n, hn, hl, by simpa using hf 0 f0 rfl, by simpa using hf 1 f1 rfl, by simpa using hf 2 f2 rfl, by simpa using hf 3 f3 rfl, by simpa using hf 4 f4 rfl⟩

theorem addr_plain {a : Addr} {v : Value} (h : W.cell? a = some v) : a = ⟨a.block, a.off, none⟩ := by
  cases a with
  | mk b o s =>
    cases s with
    | none => rfl
    | some s =>
      exfalso
      unfold World.cell? at h
      split at h <;> simp at h

/-- A slice of texts that came in. -/
theorem strs_of_trod {n : Nat} {c : Value} {x : DataW H × List MemPlace} (h : DataW.trod enc Tryz.prog W 0 (fun _ => true) true n 39 [c] = some x) : ∃ ks, StrsAt W c ks := by
  rcases Deep.open_slice1 Tryz.underlying39 cellsString h with ⟨hcs, _⟩ | ⟨a, len, cap, m, _, V, D, Pl, hcs, _, hl, hm, hmm, _, hel⟩
  · obtain rfl : c = .slice none 0 0 := by simpa using hcs
    exact ⟨[], StrsAt.nil W⟩
  · obtain rfl : c = .slice (some a) len cap := by simpa using hcs
    simp only [if_true] at hmm
    subst hmm
    have each : ∀ i, i < m → ∃ s : List UInt8, W.cell? (a.add i) = some (str s) := fun i hi => by
      obtain ⟨h1, h2⟩ := hel i hi
      obtain ⟨s, e, _, _⟩ := DataW.trod_string Tryz.underlying9 h2
      obtain ⟨⟨s⟩⟩ := s
      have e : V i = .string ⟨⟨s⟩⟩ := by simpa using e
      exact ⟨s, by rw [h1, e]⟩
    obtain ⟨f, hf⟩ := Deep.choose_lt each
    refine ⟨(List.range len).map f, some a, m, by simp, ⟨by simpa using hl, by unfold maxLen at hm; omega, fun e => by cases e⟩, fun hne => ?_⟩
    have hlen : 0 < len := by
      cases len with
      | zero => simp at hne
      | succ n => omega
    have ea := addr_plain (by simpa [Addr.add] using hf 0 (by omega) : W.cell? a = some _)
    refine ⟨a.block, a.off, by rw [ea], World.block_lt_of_cell? W a (by simpa [Addr.add] using hf 0 (by omega)), fun i hi => ?_⟩
    have hi' : i < len := by simpa using hi
    have e1 : ((List.range len).map f).getD i [] = f i := by simp [List.getD, hi']
    have h1 := hf i (by omega)
    rw [ea, Addr.add_lit] at h1
    rw [e1]
    exact h1

theorem val_of_trod (n : Nat) : ∀ (cs : List Value) (x : DataW H × List MemPlace), DataW.trod enc Tryz.prog W 0 (fun _ => true) true n 41 cs = some x → ∃ c0 c1 c2 c3 c4 t, cs = [c0, c1, c2, c3, c4] ∧ ValAt W t (.agg #[c0, c1, c2, c3, c4]) := by
  induction n using Nat.strongRecOn with
  | _ n ih =>
    intro cs x h
    obtain ⟨y0, y1, y2, y3, y4, m, rfl, hl, h0, h1, h2, h3, h4⟩ := trod_struct5 Tryz.underlying41 h
    rw [cellsVal] at hl
    match cs, hl with
    | [c0, c1, c2, c3, c4], _ =>
      simp only [cellsKind, cellsBool, cellsString, cellsVals, cellsStrs, List.drop_zero, List.drop_succ_cons, List.take_succ_cons, List.take_zero] at h0 h1 h2 h3 h4
      obtain ⟨k, e0, _, wf⟩ := DataW.trod_int Tryz.underlying37 h0
      obtain ⟨b, e1, _⟩ := DataW.trod_bool Tryz.underlying4 h1
      obtain ⟨s, e2, _, hs⟩ := DataW.trod_string Tryz.underlying9 h2
      obtain ⟨⟨s⟩⟩ := s
      obtain rfl : c0 = .int .i64 k := by simpa using e0
      obtain rfl : c1 = .bool b := by simpa using e1
      obtain rfl : c2 = .string ⟨⟨s⟩⟩ := by simpa using e2
      have bd := bounds_i64 wf
      have hsl : s.length ≤ 9223372036854775807 := by
        have : s.toArray.size ≤ maxLen := hs
        unfold maxLen at this
        simp at this
        omega
      obtain ⟨ks, hks⟩ := strs_of_trod h4
      rcases DataW.trod_slice Tryz.underlying38 h3 with ⟨hcs, _⟩ | ⟨a, len, cap, elems, rest, p, hp, hcs, _, _, hlc, hm, hel, hx, _⟩
      · obtain rfl : c3 = .slice none 0 0 := by simpa using hcs
        refine ⟨_, _, _, _, _, .mk k b s [] ks, rfl, ?_⟩
        rw [ValAt]
        exact ⟨_, _, rfl, ⟨bd.1, bd.2, hsl⟩, hks, fun _ => .bool false, RowAt.nil W _, by rw [ValsAt]; trivial⟩
      · obtain rfl : c3 = .slice (some a) len cap := by simpa using hcs
        have each : ∀ i, i < len → ∃ q : VT × Value, (∃ c0 c1 c2 c3 c4, q.2 = .agg #[c0, c1, c2, c3, c4] ∧ W.cell? (a.add (i * 5)) = some c0 ∧ W.cell? ((a.add (i * 5)).add 1) = some c1 ∧ W.cell? ((a.add (i * 5)).add 2) = some c2 ∧ W.cell? ((a.add (i * 5)).add 3) = some c3 ∧ W.cell? ((a.add (i * 5)).add 4) = some c4) ∧ ValAt W q.1 q.2 := fun i hi => by
          have hxi := hx i hi
          rw [List.getElem?_eq_getElem (by omega)] at hxi
          obtain ⟨cs', g1, g2⟩ := Option.bind_eq_some_iff.1 hxi
          obtain ⟨d0, d1, d2, d3, d4, t, rfl, ht⟩ := ih p (by omega) cs' _ g2
          rw [cellsVal] at g1
          obtain ⟨_, _, g3⟩ := World.cells?_some g1
          exact ⟨(t, .agg #[d0, d1, d2, d3, d4]), ⟨d0, d1, d2, d3, d4, rfl, by have := g3 0 (by decide); simpa [Addr.add] using this, by simpa using g3 1 (by decide), by simpa using g3 2 (by decide), by simpa using g3 3 (by decide), by simpa using g3 4 (by decide)⟩, ht⟩
        obtain ⟨f, hf2⟩ := Deep.choose_lt each
        refine ⟨_, _, _, _, _, .mk k b s ((List.range len).map fun i => (f i).1) ks, rfl, ?_⟩
        rw [ValAt]
        refine ⟨_, _, rfl, ⟨bd.1, bd.2, hsl⟩, hks, fun i => (f i).2, ?_, ?_⟩
        · rw [List.length_map, List.length_range]
          refine ⟨some a, cap, rfl, ⟨hlc, by unfold maxLen at hm; omega, fun e => by cases e⟩, fun hne => ?_⟩
          obtain ⟨⟨c0, _, _, _, _, _, g0, _⟩, _⟩ := hf2 0 (by omega)
          have ea := addr_plain (by simpa [Addr.add] using g0 : W.cell? a = some _)
          refine ⟨a.block, a.off, by rw [ea], World.block_lt_of_cell? W a (by simpa [Addr.add] using g0), fun i hi => ?_⟩
          obtain ⟨⟨d0, d1, d2, d3, d4, e, g0, g1, g2, g3, g4⟩, _⟩ := hf2 i hi
          rw [ea, Addr.add_lit] at g0 g1 g2 g3 g4
          rw [Addr.add_lit] at g1 g2 g3 g4
          exact ⟨d0, d1, d2, d3, d4, e, g0, g1, g2, g3, g4⟩
        · rw [ValsAt_iff]
          intro i hi
          have hi' : i < len := by simpa using hi
          simpa using (hf2 i hi').2

/-- A value that came in. -/
theorem open_val {b0 : Nat} {v : Value} {d : DataW H} {ps : List MemPlace} (hval : Value.okWide Tryz.prog W .any b0 41 v) (h : DataW.Trod enc Tryz.prog W 0 (fun _ => true) true 41 v d ps) : ∃ t, ValAt W t v := by
  obtain ⟨cs, rfl, hs⟩ := okWide_struct Tryz.underlying41 hval
  obtain ⟨fuel, hf⟩ := h
  obtain ⟨c0, c1, c2, c3, c4, t, e, ht⟩ := val_of_trod fuel _ _ hf
  obtain ⟨l⟩ := cs
  have e : l = [c0, c1, c2, c3, c4] := by simpa [Value.cells] using e
  subst e
  exact ⟨t, ht⟩
end

end Go.Proofs.YtpbipngnoklmcaaGreatDoor
namespace Go.Proofs.YtpbipngnoklmcaaGreatDoor
open Go.ChangeShapes Go.WideShapes Go.ChangeAt Go.RowKit
set_option maxRecDepth 100000

/-- A call, as a law's argument. -/
structure OpT where
  kind : Int
  addr : S8
  typ : S8
  id : S8
  after : S8
  x : VT
def opV (o : OpT) (ai : Option Addr) (ci : Nat) (ak : Option Addr) (ck : Nat) : Value := .agg #[.int .i64 o.kind, str o.addr, str o.typ, str o.id, str o.after, .int .i64 o.x.kind, .bool o.x.flag, str o.x.text, .slice ai o.x.items.length ci, .slice ak o.x.keys.length ck]
theorem cellsObj : Tryz.prog.cellsOf 47 = 7 := by kernel_rfl
theorem cellsOp : Tryz.prog.cellsOf 43 = 10 := by kernel_rfl
theorem cellsInt1 : Tryz.prog.cellsOf 3 = 1 := by kernel_rfl
theorem fit_max {s : S8} (h : (ByteArray.mk s.toArray).size ≤ maxLen) : fitS s := by
  have h : s.toArray.size ≤ maxLen := h
  unfold maxLen at h
  show s.length ≤ _
  simpa using h

section
variable {H : Type} {enc : TypeId × Value → H} {W : World}

theorem trod_struct6 {P : Program} {w : World} {base : Nat} {spare : Nat → Bool} {held : Bool} {t : TypeId} {f0 f1 f2 f3 f4 f5 : Field} {fuel : Nat} {cs : List Value} {x : DataW H × List MemPlace} (ht : P.underlying t = some (.struct #[f0, f1, f2, f3, f4, f5])) (h : DataW.trod enc P w base spare held fuel t cs = some x) :
    ∃ y0 y1 y2 y3 y4 y5 n, x.1 = .agg [y0.1, y1.1, y2.1, y3.1, y4.1, y5.1] ∧ cs.length = P.cellsOf t ∧ DataW.trod enc P w base spare held n f0.type ((cs.drop f0.offset).take (P.cellsOf f0.type)) = some y0 ∧
      DataW.trod enc P w base spare held n f1.type ((cs.drop f1.offset).take (P.cellsOf f1.type)) = some y1 ∧ DataW.trod enc P w base spare held n f2.type ((cs.drop f2.offset).take (P.cellsOf f2.type)) = some y2 ∧
      DataW.trod enc P w base spare held n f3.type ((cs.drop f3.offset).take (P.cellsOf f3.type)) = some y3 ∧ DataW.trod enc P w base spare held n f4.type ((cs.drop f4.offset).take (P.cellsOf f4.type)) = some y4 ∧
      DataW.trod enc P w base spare held n f5.type ((cs.drop f5.offset).take (P.cellsOf f5.type)) = some y5 := by
  obtain ⟨xs, n, hn, rfl, hl, hlen, hf⟩ := DataW.trod_struct ht h
  match xs, hlen with
  | [y0, y1, y2, y3, y4, y5], _ => exact ⟨y0, y1, y2, y3, y4, y5, n, by simp, hl, by simpa using hf 0 f0 rfl, by simpa using hf 1 f1 rfl, by simpa using hf 2 f2 rfl, by simpa using hf 3 f3 rfl, by simpa using hf 4 f4 rfl, by simpa using hf 5 f5 rfl⟩

theorem obj_of_trod (n : Nat) (cs : List Value) (x : DataW H × List MemPlace) (h : DataW.trod enc Tryz.prog W 0 (fun _ => true) true n 47 cs = some x) : ∃ (t j : S8) (v : VT) (ai : Option Addr) (ci : Nat) (ak : Option Addr) (ck : Nat), cs = [str t, str j, .int .i64 v.kind, .bool v.flag, str v.text, .slice ai v.items.length ci, .slice ak v.keys.length ck] ∧ fitS t ∧ fitS j ∧
    ValAt W v (.agg #[.int .i64 v.kind, .bool v.flag, str v.text, .slice ai v.items.length ci, .slice ak v.keys.length ck]) := by
  obtain ⟨y0, y1, y2, m, _, hl, h0, h1, h2⟩ := Deep.trod_struct3 Tryz.underlying47 h
  rw [cellsObj] at hl
  match cs, hl with
  | [c0, c1, c2, c3, c4, c5, c6], _ =>
    simp only [cellsString, cellsVal, List.drop_zero, List.drop_succ_cons, List.take_succ_cons, List.take_zero] at h0 h1 h2
    obtain ⟨s0, e0, _, m0⟩ := DataW.trod_string Tryz.underlying9 h0
    obtain ⟨s1, e1, _, m1⟩ := DataW.trod_string Tryz.underlying9 h1
    obtain ⟨⟨s0⟩⟩ := s0
    obtain ⟨⟨s1⟩⟩ := s1
    obtain rfl : c0 = .string ⟨⟨s0⟩⟩ := by simpa using e0
    obtain rfl : c1 = .string ⟨⟨s1⟩⟩ := by simpa using e1
    obtain ⟨d0, d1, d2, d3, d4, v, hcs, hv⟩ := val_of_trod m _ _ h2
    obtain ⟨ai, ci, ak, ck, hf⟩ := hv.form
    have hcs : [c2, c3, c4, c5, c6] = [d0, d1, d2, d3, d4] := hcs
    injection hf with hf
    injection hf with hf
    rw [← hcs] at hf
    rw [show (Value.agg #[d0, d1, d2, d3, d4]) = .agg [d0, d1, d2, d3, d4].toArray from rfl, ← hcs, hf] at hv
    exact ⟨s0, s1, v, ai, ci, ak, ck, by rw [hf], fit_max m0, fit_max m1, hv⟩

theorem objs_of_trod {n : Nat} {c : Value} {y : DataW H × List MemPlace} (h : DataW.trod enc Tryz.prog W 0 (fun _ => true) true n 22 [c] = some y) : ∃ os, ObjsAt W c os := by
  rcases DataW.trod_slice Tryz.underlying22 h with ⟨hcs, _⟩ | ⟨a, len, cap, elems, rest, p, hp, hcs, _, _, hlc, hm, hel, hx, _⟩
  · obtain rfl : c = .slice none 0 0 := by simpa using hcs
    exact ⟨[], ObjsAt.nil W⟩
  · obtain rfl : c = .slice (some a) len cap := by simpa using hcs
    have each : ∀ i, i < len → ∃ o : O3, (fitS o.1 ∧ fitS o.2.1) ∧ ∃ ai ci ak ck, ValAt W o.2.2 (.agg #[.int .i64 o.2.2.kind, .bool o.2.2.flag, str o.2.2.text, .slice ai o.2.2.items.length ci, .slice ak o.2.2.keys.length ck]) ∧
        W.cell? (a.add (i * 7)) = some (str o.1) ∧ W.cell? ((a.add (i * 7)).add 1) = some (str o.2.1) ∧ W.cell? ((a.add (i * 7)).add 2) = some (.int .i64 o.2.2.kind) ∧ W.cell? ((a.add (i * 7)).add 3) = some (.bool o.2.2.flag) ∧
        W.cell? ((a.add (i * 7)).add 4) = some (str o.2.2.text) ∧ W.cell? ((a.add (i * 7)).add 5) = some (.slice ai o.2.2.items.length ci) ∧ W.cell? ((a.add (i * 7)).add 6) = some (.slice ak o.2.2.keys.length ck) := fun i hi => by
      have hxi := hx i hi
      rw [List.getElem?_eq_getElem (by omega)] at hxi
      obtain ⟨cs', g1, g2⟩ := Option.bind_eq_some_iff.1 hxi
      obtain ⟨t, j, v, ai, ci, ak, ck, rfl, f1, f2, hv⟩ := obj_of_trod p cs' _ g2
      rw [cellsObj] at g1
      obtain ⟨_, _, g3⟩ := World.cells?_some g1
      exact ⟨(t, j, v), ⟨f1, f2⟩, ai, ci, ak, ck, hv, by have := g3 0 (by decide); simpa [Addr.add] using this, by simpa using g3 1 (by decide), by simpa using g3 2 (by decide), by simpa using g3 3 (by decide), by simpa using g3 4 (by decide), by simpa using g3 5 (by decide), by simpa using g3 6 (by decide)⟩
    obtain ⟨f, hf⟩ := Deep.choose_lt each
    refine ⟨(List.range len).map f, some a, cap, by simp, ⟨by simpa using hlc, by unfold maxLen at hm; omega, fun e => by cases e⟩, fun o ho => ?_, fun hne => ?_⟩
    · obtain ⟨i, hi, rfl⟩ := List.mem_map.1 ho
      exact (hf i (by simpa using hi)).1
    · have hlen : 0 < len := by
        cases len with
        | zero => simp at hne
        | succ n => omega
      obtain ⟨_, _, _, _, _, _, g0, _⟩ := hf 0 hlen
      have ea := addr_plain (by simpa [Addr.add] using g0 : W.cell? a = some _)
      refine ⟨a.block, a.off, by rw [ea], World.block_lt_of_cell? W a (by simpa [Addr.add] using g0), fun i t j x hi => ?_⟩
      have hil : i < len := by
        have := (List.getElem?_eq_some_iff.1 hi).1
        simpa using this
      have he : f i = (t, j, x) := by simpa [hil] using hi
      obtain ⟨_, ai, ci, ak, ck, hv, g0, g1, g2, g3, g4, g5, g6⟩ := hf i hil
      rw [he] at hv g0 g1 g2 g3 g4 g5 g6
      rw [ea, Addr.add_lit] at g0 g1 g2 g3 g4 g5 g6
      rw [Addr.add_lit] at g1 g2 g3 g4 g5 g6
      exact ⟨ai, ci, ak, ck, hv, g0, g1, g2, g3, g4, g5, g6⟩
theorem open_objs {b0 : Nat} {v : Value} {d : DataW H} {ps : List MemPlace} (hval : Value.okWide Tryz.prog W .any b0 22 v) (h : DataW.Trod enc Tryz.prog W 0 (fun _ => true) true 22 v d ps) : ∃ os, ObjsAt W v os := by
  obtain ⟨a0, len, cap, rfl⟩ := okWide_slice Tryz.underlying22 hval
  obtain ⟨fuel, hf⟩ := h
  exact objs_of_trod (c := .slice a0 len cap) hf

/-- The cells of a call. -/
theorem op_of_trod (n : Nat) (cs : List Value) (x : DataW H × List MemPlace) (h : DataW.trod enc Tryz.prog W 0 (fun _ => true) true n 43 cs = some x) (hsz : ∀ m ∈ x.1.weights Tryz.prog 43, m ≤ reachBytes) :
    ∃ (o : OpT) (ai : Option Addr) (ci : Nat) (ak : Option Addr) (ck : Nat), cs = [.int .i64 o.kind, str o.addr, str o.typ, str o.id, str o.after, .int .i64 o.x.kind, .bool o.x.flag, str o.x.text, .slice ai o.x.items.length ci, .slice ak o.x.keys.length ck] ∧
      (-9223372036854775808 ≤ o.kind ∧ o.kind ≤ 9223372036854775807) ∧ (o.addr.length ≤ 140737488351232 ∧ o.after.length ≤ 140737488351232 ∧ o.id.length ≤ 140737488351232 ∧ o.typ.length ≤ 140737488351232) ∧
      ValAt W o.x (.agg #[.int .i64 o.x.kind, .bool o.x.flag, str o.x.text, .slice ai o.x.items.length ci, .slice ak o.x.keys.length ck]) := by
  obtain ⟨y0, y1, y2, y3, y4, y5, m, hx, hl, h0, h1, h2, h3, h4, h5⟩ := trod_struct6 Tryz.underlying43 h
  rw [cellsOp] at hl
  match cs, hl with
  | [c0, c1, c2, c3, c4, c5, c6, c7, c8, c9], _ =>
    simp only [cellsInt1, cellsString, cellsVal, List.drop_zero, List.drop_succ_cons, List.take_succ_cons, List.take_zero] at h0 h1 h2 h3 h4 h5
    obtain ⟨k, e0, _, wf⟩ := DataW.trod_int Tryz.underlying3 h0
    have bd := bounds_i64 wf
    obtain ⟨s1, e1, x1, _⟩ := DataW.trod_string Tryz.underlying9 h1
    obtain ⟨s2, e2, x2, _⟩ := DataW.trod_string Tryz.underlying9 h2
    obtain ⟨s3, e3, x3, _⟩ := DataW.trod_string Tryz.underlying9 h3
    obtain ⟨s4, e4, x4, _⟩ := DataW.trod_string Tryz.underlying9 h4
    obtain ⟨⟨s1⟩⟩ := s1
    obtain ⟨⟨s2⟩⟩ := s2
    obtain ⟨⟨s3⟩⟩ := s3
    obtain ⟨⟨s4⟩⟩ := s4
    obtain rfl : c0 = .int .i64 k := by simpa using e0
    obtain rfl : c1 = .string ⟨⟨s1⟩⟩ := by simpa using e1
    obtain rfl : c2 = .string ⟨⟨s2⟩⟩ := by simpa using e2
    obtain rfl : c3 = .string ⟨⟨s3⟩⟩ := by simpa using e3
    obtain rfl : c4 = .string ⟨⟨s4⟩⟩ := by simpa using e4
    obtain ⟨d0, d1, d2, d3, d4, v, hcs, hv⟩ := val_of_trod m _ _ h5
    obtain ⟨ai, ci, ak, ck, hf⟩ := hv.form
    have hcs : [c5, c6, c7, c8, c9] = [d0, d1, d2, d3, d4] := hcs
    injection hf with hf
    injection hf with hf
    rw [← hcs] at hf
    rw [show (Value.agg #[d0, d1, d2, d3, d4]) = .agg [d0, d1, d2, d3, d4].toArray from rfl, ← hcs, hf] at hv
    have part : ∀ (j : Nat) (s : S8), [y0.1, y1.1, y2.1, y3.1, y4.1, y5.1][j]? = some (.lit (.string s)) → [3, 9, 9, 9, 9, 41][j]? = some 9 → s.length ≤ 140737488351232 := fun j s hj ht => by
      have := hsz s.length (by
        rw [hx]
        simp only [DataW.weights, Tryz.underlying43]
        exact DataW.weights_mem_each (j := j) ht hj s.length (by simp [DataW.weights]))
      simpa [reachBytes] using this
    refine ⟨⟨k, s1, s2, s3, s4, v⟩, ai, ci, ak, ck, ?_, bd, ⟨?_, ?_, ?_, ?_⟩, hv⟩
    · show _ = [Value.int .i64 k, .string ⟨⟨s1⟩⟩, .string ⟨⟨s2⟩⟩, .string ⟨⟨s3⟩⟩, .string ⟨⟨s4⟩⟩] ++ [.int .i64 v.kind, .bool v.flag, str v.text, .slice ai v.items.length ci, .slice ak v.keys.length ck]
      rw [← hf]
      rfl
    · exact part 1 s1 (by rw [x1]; rfl) rfl
    · exact part 4 s4 (by rw [x4]; rfl) rfl
    · exact part 3 s3 (by rw [x3]; rfl) rfl
    · exact part 2 s2 (by rw [x2]; rfl) rfl
theorem open_op {b0 : Nat} {v : Value} {d : DataW H} {ps : List MemPlace} {j : Nat} {ts : List TypeId} {ds : List (DataW H)} (hval : Value.okWide Tryz.prog W .any b0 43 v) (h : DataW.Trod enc Tryz.prog W 0 (fun _ => true) true 43 v d ps)
    (hsz : (DataW.weightsEach Tryz.prog ts ds).all (· ≤ reachBytes) = true) (hts : ts[j]? = some 43) (hds : ds[j]? = some d) :
    ∃ (o : OpT) (ai : Option Addr) (ci : Nat) (ak : Option Addr) (ck : Nat), v = opV o ai ci ak ck ∧ (-9223372036854775808 ≤ o.kind ∧ o.kind ≤ 9223372036854775807) ∧ (o.addr.length ≤ 140737488351232 ∧ o.after.length ≤ 140737488351232 ∧ o.id.length ≤ 140737488351232 ∧ o.typ.length ≤ 140737488351232) ∧
      ValAt W o.x (.agg #[.int .i64 o.x.kind, .bool o.x.flag, str o.x.text, .slice ai o.x.items.length ci, .slice ak o.x.keys.length ck]) := by
  obtain ⟨cs, rfl, hs⟩ := okWide_struct Tryz.underlying43 hval
  obtain ⟨fuel, hf⟩ := h
  obtain ⟨o, ai, ci, ak, ck, e, hk, hl, hv⟩ := op_of_trod fuel _ _ hf (fun m hm => by
    have := List.all_eq_true.1 hsz m (DataW.weights_mem_each hts hds m hm)
    simpa using this)
  obtain ⟨l⟩ := cs
  change l = _ at e
  subst e
  exact ⟨o, ai, ci, ak, ck, rfl, hk, hl, hv⟩
end

end Go.Proofs.YtpbipngnoklmcaaGreatDoor
