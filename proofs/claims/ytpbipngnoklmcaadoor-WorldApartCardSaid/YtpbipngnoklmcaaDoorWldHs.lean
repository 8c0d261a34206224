/- A world that a law holds: what each call leaves of it, and of all else. By the contracts alone. -/
import Derived.Test.YtpbipngnoklmcaaDoorWldS
import Derived.Test.YtpbipngnoklmcaaDoorWldO
namespace Go.Proofs.YtpbipngnoklmcaaDoor
open Go.RowKit
set_option maxRecDepth 100000
variable {w w' : World} {p b n : Nat} {S : WS} {val : S8 → S8 → Value} {vf vt : Value} {D : DataW Value} {G : Nat} {L : List Nat} {N : Nat}

theorem WAt.lt (h : WAt w p b n S val vf vt D) : ∀ q ∈ wF p b vt, q < w.heap.size := by
  intro q hq
  simp only [wF, List.mem_cons, Option.mem_toList] at hq
  rcases hq with rfl | rfl | hq
  · exact heap_lt h.box
  · exact h.map.lt
  · obtain ⟨_, hh⟩ := row_block h.trace hq
    exact heap_lt hh
/-- The world that p points to, in blocks behind G, none of which is in L. -/
def Has (G : Nat) (L : List Nat) (p : Nat) (S : WS) (N : Nat) (w : World) : Prop := ∃ b n val vf vt D, n ≤ N ∧ WAt w p b n S val vf vt D ∧ ∀ q ∈ wF p b vt, G ≤ q ∧ q ∉ L
/-- What a call leaves: all below G, and the blocks of L. -/
def Keeps (G : Nat) (L : List Nat) (w w' : World) : Prop := Below G w w' ∧ ∀ q ∈ L, q < w.heap.size → w'.heap[q]? = w.heap[q]?
theorem Keeps.refl (G : Nat) (L : List Nat) (w : World) : Keeps G L w w := ⟨Below.refl _ _, fun _ _ _ => rfl⟩
theorem Keeps.trans {w1 w2 w3 : World} (h : Keeps G L w1 w2) (k : Keeps G L w2 w3) : Keeps G L w1 w3 := ⟨h.1.trans k.1, fun q hq hl => (k.2 q hq (Nat.lt_of_lt_of_le hl h.1.size)).trans (h.2 q hq hl)⟩
theorem Keeps.of_below (hb : Below w.heap.size w w') (hG : G ≤ w.heap.size) : Keeps G L w w' := ⟨hb.mono hG, fun q _ hl => hb.block q hl⟩
theorem Keeps.sub {M : List Nat} (h : Keeps G L w w') (hM : ∀ q ∈ M, q ∈ L) : Keeps G M w w' := ⟨h.1, fun q hq hl => h.2 q (hM q hq) hl⟩
theorem Has.base (h : Has G L p S N w) : G ≤ w.heap.size := by
  obtain ⟨b, n, val, vf, vt, D, hn, hW, hF⟩ := h
  have := (hF p (by simp [wF])).1
  have := heap_lt hW.box
  omega
theorem Has.below (h : Has G L p S N w) (hb : Below w.heap.size w w') : Has G L p S N w' := by
  obtain ⟨b, n, val, vf, vt, D, hn, hW, hF⟩ := h
  exact ⟨b, n, val, vf, vt, D, hn, hW.below hb, hF⟩
theorem Has.guard (h : Has G L p S N w) {q : Nat} (hq : w.heap.size ≤ q) : Has G (q :: L) p S N w := by
  obtain ⟨b, n, val, vf, vt, D, hn, hW, hF⟩ := h
  refine ⟨b, n, val, vf, vt, D, hn, hW, fun k hk => ⟨(hF k hk).1, ?_⟩⟩
  have := hW.lt k hk
  rw [List.mem_cons, not_or]
  exact ⟨by omega, (hF k hk).2⟩
theorem Has.more {N' : Nat} (h : Has G L p S N w) (hN : N ≤ N') : Has G L p S N' w := by
  obtain ⟨b, n, val, vf, vt, D, hn, hW, hF⟩ := h
  exact ⟨b, n, val, vf, vt, D, Nat.le_trans hn hN, hW, hF⟩
theorem Has.fit (h : Has G L p S N w) : fitO S.objs := by obtain ⟨b, n, val, vf, vt, D, hn, hW, hF⟩ := h; exact hW.fit
theorem Has.ris (h : Has G L p S N w) : risO S.objs := by obtain ⟨b, n, val, vf, vt, D, hn, hW, hF⟩ := h; exact hW.ris
theorem WStep.has {S' : WS} {n' N' : Nat} (hG : ∀ q ∈ wF p b vt, G ≤ q ∧ q ∉ L) (hn : n' ≤ N') (hp : p < w.heap.size) (h : WStep w p b n' S' vf vt w') (hL : ∀ q ∈ L, q < w.heap.size) : Has G L p S' N' w' ∧ Keeps G L w w' := by
  obtain ⟨val', vt', D', hW, hs, hF⟩ := h
  have hGp := (hG p (by simp [wF])).1
  refine ⟨⟨b, n', val', vf, vt', D', hn, hW, fun q hq => ?_⟩, hs.below (by omega) (fun k hk => (hG k hk).1), fun q hq hl => hs.block q hl fun hf => (hG q hf).2 hq⟩
  rcases hF q hq with h | h
  · exact hG q h
  · exact ⟨by omega, fun hq => by have := hL q hq; omega⟩

theorem create_h (h : Has G L p S N w) (hL : ∀ q ∈ L, q < w.heap.size) (addr typ after : S8) (x : VT) (v : Value) (hv : ValAt w x v) (ha : addr.length ≤ 281474976710656) (haf : after.length ≤ 281474976710656) (ft : fitS typ)
    (hl : S.trace.length ≤ 100000) (hN : N ≤ 100000) (ho : S.objs.length ≤ 100000) (hE : ErrW w) (hT : TabW w) :
    Calls Tryd.prog 8 #[.pointer (some ⟨p, 0, none⟩), str addr, str typ, str after, v] w fun e w' =>
      e = .returned (.tuple #[str (createP S addr typ after x).2.1, .int .i64 (createP S addr typ after x).2.2]) ∧ Has G L p (createP S addr typ after x).1 (N + 1) w' ∧ Keeps G L w w' := by
  obtain ⟨b, n, val, vf, vt, D, hn, hW, hF⟩ := h
  refine (create_w hW addr typ after x v hv ha haf ft hl (by omega) ho hE hT).mono ?_
  rintro e w' ⟨rfl, n', hn', hs⟩
  exact ⟨rfl, hs.has hF (by omega) (heap_lt hW.box) hL⟩
theorem delete_h (h : Has G L p S N w) (hL : ∀ q ∈ L, q < w.heap.size) (addr typ i : S8) (ft : fitS typ) (fi : fitS i) (hl : S.trace.length ≤ 100000) :
    Calls Tryd.prog 12 #[.pointer (some ⟨p, 0, none⟩), str addr, str typ, str i] w fun e w' => e = .returned (.int .i64 (deleteP S addr typ i).2) ∧ Has G L p (deleteP S addr typ i).1 N w' ∧ Keeps G L w w' := by
  obtain ⟨b, n, val, vf, vt, D, hn, hW, hF⟩ := h
  refine (delete_w hW addr typ i ft fi hl).mono ?_
  rintro e w' ⟨rfl, hs⟩
  exact ⟨rfl, hs.has hF hn (heap_lt hW.box) hL⟩
theorem objects_h (h : Has G L p S N w) (hl : S.objs.length ≤ 100000) : Calls Tryd.prog 10 #[.pointer (some ⟨p, 0, none⟩)] w fun e w' => ∃ v, e = .returned v ∧ ObjsAt w' v S.objs ∧ Below w.heap.size w w' := by
  obtain ⟨b, n, val, vf, vt, D, hn, hW, hF⟩ := h
  refine (objects_w hW hl).mono ?_
  rintro e w' ⟨rs, v, F, rfl, ho, hb⟩
  refine ⟨v, rfl, ?_, hb.2.2.2.2⟩
  rw [← ho]
  exact hb.objs (by rw [ho]; exact hW.fit)
theorem trace_h (h : Has G L p S N w) (hl : S.trace.length ≤ 1000000) : Calls Tryd.prog 13 #[.pointer (some ⟨p, 0, none⟩)] w (ClC 74 5 S.trace.length (callCells S.trace) w) := by
  obtain ⟨b, n, val, vf, vt, D, hn, hW, hF⟩ := h
  exact trace_w hW hl
/-- What New leaves. -/
def NewH (os : List O3) (fs : List F2) (w : World) (e : Ending) (w' : World) : Prop :=
  Below w.heap.size w w' ∧ match newP os fs with
  | (none, c) => e = .returned (.tuple #[.pointer none, .int .i64 c])
  | (some S, c) => ∃ p, e = .returned (.tuple #[.pointer (some ⟨p, 0, none⟩), .int .i64 c]) ∧ Has w.heap.size [] p S os.length w'
theorem new_h (os : List O3) (fs : List F2) (v vf : Value) (w : World) (h : ObjsAt w v os) (hf : CellsAt w vf fs.length (failCells fs)) (hl : os.length ≤ 100000) (hfl : fs.length ≤ 1000000) (hE : ErrW w) (hT : TabW w) :
    Calls Tryd.prog 6 #[v, vf] w (NewH os fs w) := by
  refine (new_w os fs v vf w h hf hl hfl hE hT).mono ?_
  rintro e w' ⟨hb, hx⟩
  refine ⟨hb, ?_⟩
  revert hx
  rcases newP os fs with ⟨_ | S, c⟩
  · exact id
  · rintro ⟨p, b, n, val, vf, vt, D, rfl, hn, hW, hF⟩
    exact ⟨p, rfl, b, n, val, vf, vt, D, hn, hW, fun q hq => ⟨hF q hq, by simp⟩⟩

/-- A value box, as a law makes it. -/
theorem val_box {w : World} {g : Nat} {c0 c1 c2 c3 c4 : Value} {T : TypeId} (h : w.heap[g]? = some (.cells #[c0, c1, c2, c3, c4] T (0, 0))) : w.cell? ⟨g, 0, none⟩ = some c0 ∧ w.cell? ⟨g, 1, none⟩ = some c1 ∧ w.cell? ⟨g, 2, none⟩ = some c2 ∧ w.cell? ⟨g, 3, none⟩ = some c3 ∧ w.cell? ⟨g, 4, none⟩ = some c4 := by
  refine ⟨?_, ?_, ?_, ?_, ?_⟩ <;> (rw [Lib.cell_of_heap h]; rfl)
/-- An object with no keys. -/
def noneV : VT := .mk 6 false [] [] []
theorem none_at (w : World) : ValAt w noneV (.agg #[.int .i64 6, .bool false, .string ⟨#[]⟩, .slice none 0 0, .slice none 0 0]) := by
  unfold noneV
  rw [ValAt]
  exact ⟨_, _, rfl, by simp, StrsAt.nil w, fun _ => .bool false, RowAt.nil w _, by rw [ValsAt]; trivial⟩

end Go.Proofs.YtpbipngnoklmcaaDoor
