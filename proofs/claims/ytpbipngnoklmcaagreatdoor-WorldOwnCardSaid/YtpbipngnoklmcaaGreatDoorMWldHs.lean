/- A world that a law holds: what each call leaves of it, and of all else. By the contracts alone. Plain: what stays true whatever a world's calls write; the document's world in memory. No walk. The document's world: At, without, with. -/
import Derived.Test.YtpbipngnoklmcaaGreatDoorWldS
import Derived.Test.YtpbipngnoklmcaaGreatDoorMWldO
namespace Go.Proofs.YtpbipngnoklmcaaGreatDoor
open Go.RowKit
set_option maxRecDepth 100000
variable {w w' : World} {p b n : Nat} {S : WS} {val : S8 → S8 → Value} {vf vt : Value} {D : DataW Value} {G : Nat} {L : List Nat} {N : Nat}

theorem WAt.lt (h : WAt w p b n S val vf vt D) : ∀ q ∈ wF p b vt, q < w.heap.size := by
  intro q hq
  simp only [wF, List.mem_cons, Option.mem_toList] at hq
  rcases hq with rfl | rfl | hq
  · exact heap_lt h.box
  · exact h.map.lt
  · obtain ⟨_, hh⟩ := row_block h.trace hq
    exact heap_lt hh
/-- The world that p points to, in blocks behind G, none of which is in L. -/
def Has (G : Nat) (L : List Nat) (p : Nat) (S : WS) (N : Nat) (w : World) : Prop := ∃ b n val vf vt D, n ≤ N ∧ WAt w p b n S val vf vt D ∧ ∀ q ∈ wF p b vt, G ≤ q ∧ q ∉ L
/-- What a call leaves: all below G, and the blocks of L. -/
def Keeps (G : Nat) (L : List Nat) (w w' : World) : Prop := Below G w w' ∧ ∀ q ∈ L, q < w.heap.size → w'.heap[q]? = w.heap[q]?
theorem Keeps.refl (G : Nat) (L : List Nat) (w : World) : Keeps G L w w := ⟨Below.refl _ _, fun _ _ _ => rfl⟩
theorem Keeps.trans {w1 w2 w3 : World} (h : Keeps G L w1 w2) (k : Keeps G L w2 w3) : Keeps G L w1 w3 := ⟨h.1.trans k.1, fun q hq hl => (k.2 q hq (Nat.lt_of_lt_of_le hl h.1.size)).trans (h.2 q hq hl)⟩
theorem Keeps.of_below (hb : Below w.heap.size w w') (hG : G ≤ w.heap.size) : Keeps G L w w' := ⟨hb.mono hG, fun q _ hl => hb.block q hl⟩
theorem Keeps.sub {M : List Nat} (h : Keeps G L w w') (hM : ∀ q ∈ M, q ∈ L) : Keeps G M w w' := ⟨h.1, fun q hq hl => h.2 q (hM q hq) hl⟩
theorem Has.base (h : Has G L p S N w) : G ≤ w.heap.size := by
  obtain ⟨b, n, val, vf, vt, D, hn, hW, hF⟩ := h
  have := (hF p (by simp [wF])).1
  have := heap_lt hW.box
  omega
theorem Has.below (h : Has G L p S N w) (hb : Below w.heap.size w w') : Has G L p S N w' := by
  obtain ⟨b, n, val, vf, vt, D, hn, hW, hF⟩ := h
  exact ⟨b, n, val, vf, vt, D, hn, hW.below hb, hF⟩
theorem Has.guard (h : Has G L p S N w) {q : Nat} (hq : w.heap.size ≤ q) : Has G (q :: L) p S N w := by
  obtain ⟨b, n, val, vf, vt, D, hn, hW, hF⟩ := h
  refine ⟨b, n, val, vf, vt, D, hn, hW, fun k hk => ⟨(hF k hk).1, ?_⟩⟩
  have := hW.lt k hk
  rw [List.mem_cons, not_or]
  exact ⟨by omega, (hF k hk).2⟩
theorem Has.more {N' : Nat} (h : Has G L p S N w) (hN : N ≤ N') : Has G L p S N' w := by
  obtain ⟨b, n, val, vf, vt, D, hn, hW, hF⟩ := h
  exact ⟨b, n, val, vf, vt, D, Nat.le_trans hn hN, hW, hF⟩
theorem Has.fit (h : Has G L p S N w) : fitO S.objs := by obtain ⟨b, n, val, vf, vt, D, hn, hW, hF⟩ := h; exact hW.fit
theorem Has.ris (h : Has G L p S N w) : risO S.objs := by obtain ⟨b, n, val, vf, vt, D, hn, hW, hF⟩ := h; exact hW.ris
theorem WStep.has {S' : WS} {n' N' : Nat} (hG : ∀ q ∈ wF p b vt, G ≤ q ∧ q ∉ L) (hn : n' ≤ N') (hp : p < w.heap.size) (h : WStep w p b n' S' vf vt w') (hL : ∀ q ∈ L, q < w.heap.size) : Has G L p S' N' w' ∧ Keeps G L w w' := by
  obtain ⟨val', vt', D', hW, hs, hF⟩ := h
  have hGp := (hG p (by simp [wF])).1
  refine ⟨⟨b, n', val', vf, vt', D', hn, hW, fun q hq => ?_⟩, hs.below (by omega) (fun k hk => (hG k hk).1), fun q hq hl => hs.block q hl fun hf => (hG q hf).2 hq⟩
  rcases hF q hq with h | h
  · exact hG q h
  · exact ⟨by omega, fun hq => by have := hL q hq; omega⟩

theorem create_h (h : Has G L p S N w) (hL : ∀ q ∈ L, q < w.heap.size) (addr typ after : S8) (x : VT) (v : Value) (hv : ValAt w x v) (ha : addr.length ≤ 281474976710656) (haf : after.length ≤ 281474976710656) (ft : fitS typ)
    (hl : S.trace.length ≤ 100000) (hN : N ≤ 100000) (ho : S.objs.length ≤ 100000) (hE : ErrW w) (hT : TabW w) :
    Calls Tryz.prog 18 #[.pointer (some ⟨p, 0, none⟩), str addr, str typ, str after, v] w fun e w' =>
      e = .returned (.tuple #[str (createP S addr typ after x).2.1, .int .i64 (createP S addr typ after x).2.2]) ∧ Has G L p (createP S addr typ after x).1 (N + 1) w' ∧ Keeps G L w w' := by
  obtain ⟨b, n, val, vf, vt, D, hn, hW, hF⟩ := h
  refine (create_w hW addr typ after x v hv ha haf ft hl (by omega) ho hE hT).mono ?_
  rintro e w' ⟨rfl, n', hn', hs⟩
  exact ⟨rfl, hs.has hF (by omega) (heap_lt hW.box) hL⟩
theorem delete_h (h : Has G L p S N w) (hL : ∀ q ∈ L, q < w.heap.size) (addr typ i : S8) (ft : fitS typ) (fi : fitS i) (hl : S.trace.length ≤ 100000) :
    Calls Tryz.prog 22 #[.pointer (some ⟨p, 0, none⟩), str addr, str typ, str i] w fun e w' => e = .returned (.int .i64 (deleteP S addr typ i).2) ∧ Has G L p (deleteP S addr typ i).1 N w' ∧ Keeps G L w w' := by
  obtain ⟨b, n, val, vf, vt, D, hn, hW, hF⟩ := h
  refine (delete_w hW addr typ i ft fi hl).mono ?_
  rintro e w' ⟨rfl, hs⟩
  exact ⟨rfl, hs.has hF hn (heap_lt hW.box) hL⟩
theorem objects_h (h : Has G L p S N w) (hl : S.objs.length ≤ 100000) : Calls Tryz.prog 15 #[.pointer (some ⟨p, 0, none⟩)] w fun e w' => ∃ v, e = .returned v ∧ ObjsAt w' v S.objs ∧ Below w.heap.size w w' := by
  obtain ⟨b, n, val, vf, vt, D, hn, hW, hF⟩ := h
  refine (objects_w hW hl).mono ?_
  rintro e w' ⟨rs, v, F, rfl, ho, hb⟩
  refine ⟨v, rfl, ?_, hb.2.2.2.2⟩
  rw [← ho]
  exact hb.objs (by rw [ho]; exact hW.fit)
theorem trace_h (h : Has G L p S N w) (hl : S.trace.length ≤ 1000000) : Calls Tryz.prog 16 #[.pointer (some ⟨p, 0, none⟩)] w (ClC 58 5 S.trace.length (callCells S.trace) w) := by
  obtain ⟨b, n, val, vf, vt, D, hn, hW, hF⟩ := h
  exact trace_w hW hl
/-- What New leaves. -/
def NewH (os : List O3) (fs : List F2) (w : World) (e : Ending) (w' : World) : Prop :=
  Below w.heap.size w w' ∧ match newP os fs with
  | (none, c) => e = .returned (.tuple #[.pointer none, .int .i64 c])
  | (some S, c) => ∃ p, e = .returned (.tuple #[.pointer (some ⟨p, 0, none⟩), .int .i64 c]) ∧ Has w.heap.size [] p S os.length w'
theorem new_h (os : List O3) (fs : List F2) (v vf : Value) (w : World) (h : ObjsAt w v os) (hf : CellsAt w vf fs.length (failCells fs)) (hl : os.length ≤ 100000) (hfl : fs.length ≤ 1000000) (hE : ErrW w) (hT : TabW w) :
    Calls Tryz.prog 7 #[v, vf] w (NewH os fs w) := by
  refine (new_w os fs v vf w h hf hl hfl hE hT).mono ?_
  rintro e w' ⟨hb, hx⟩
  refine ⟨hb, ?_⟩
  revert hx
  rcases newP os fs with ⟨_ | S, c⟩
  · exact id
  · rintro ⟨p, b, n, val, vf, vt, D, rfl, hn, hW, hF⟩
    exact ⟨p, rfl, b, n, val, vf, vt, D, hn, hW, fun q hq => ⟨hF q hq, by simp⟩⟩

/-- A value box, as a law makes it. -/
theorem val_box {w : World} {g : Nat} {c0 c1 c2 c3 c4 : Value} {T : TypeId} (h : w.heap[g]? = some (.cells #[c0, c1, c2, c3, c4] T (0, 0))) : w.cell? ⟨g, 0, none⟩ = some c0 ∧ w.cell? ⟨g, 1, none⟩ = some c1 ∧ w.cell? ⟨g, 2, none⟩ = some c2 ∧ w.cell? ⟨g, 3, none⟩ = some c3 ∧ w.cell? ⟨g, 4, none⟩ = some c4 := by
  refine ⟨?_, ?_, ?_, ?_, ?_⟩ <;> (rw [Lib.cell_of_heap h]; rfl)
/-- An object with no keys. -/
def noneV : VT := .mk 6 false [] [] []
theorem none_at (w : World) : ValAt w noneV (.agg #[.int .i64 6, .bool false, .string ⟨#[]⟩, .slice none 0 0, .slice none 0 0]) := by
  unfold noneV
  rw [ValAt]
  exact ⟨_, _, rfl, by simp, StrsAt.nil w, fun _ => .bool false, RowAt.nil w _, by rw [ValsAt]; trivial⟩

end Go.Proofs.YtpbipngnoklmcaaGreatDoor
namespace Go.Proofs.YtpbipngnoklmcaaGreatDoor
open Go.RowKit
set_option maxRecDepth 100000

/-- True, and true still whatever is written into these blocks. -/
def Kept (F : List Nat) (w : World) (A : World → Prop) : Prop := ∀ w', Spares F w w' → A w'
theorem Kept.now {F : List Nat} {w : World} {A : World → Prop} (h : Kept F w A) : A w := h w (Spares.refl F w)
theorem Kept.step {F F' : List Nat} {w w' : World} {A : World → Prop} (h : Kept F w A) (hs : Spares F w w') (hF : ∀ q ∈ F', q ∈ F ∨ w.heap.size ≤ q) : Kept F' w' A := fun w2 h2 =>
  h w2 ⟨h2.os.trans hs.os, h2.tape.trans hs.tape, h2.output.trans hs.output, Nat.le_trans hs.size h2.size, fun k hk hn =>
    (h2.block k (Nat.lt_of_lt_of_le hk hs.size) fun hf => by rcases hF k hf with h | h; exact hn h; omega).trans (hs.block k hk hn)⟩
theorem Kept.below {F : List Nat} {w w' : World} {A : World → Prop} (h : Kept F w A) (hb : Below w.heap.size w w') : Kept F w' A := h.step (Spares.of_below hb) fun _ hq => .inl hq
/-- What only grows with memory is kept from blocks that are newer. -/
theorem Kept.old {F : List Nat} {w0 w : World} {A : World → Prop} (hA : ∀ w', Below w0.heap.size w0 w' → A w') (hb : Below w0.heap.size w0 w) (hF : ∀ q ∈ F, w0.heap.size ≤ q) : Kept F w A := fun _ hs => hA _ (Below.spared hb hs hb.size hF)
/-- A row of one's own that lies elsewhere. -/
theorem Kept.row {F : List Nat} {w : World} {base e size n : Nat} {v : Value} {cs : List Value} (h : w.ownsRow base e size v n cs) (hF : ∀ q ∈ F, q < base) : Kept F w fun w' => CellsAt w' v n cs := fun w' hs => by
  refine CellsAt.row (base := base) (e := e) (size := size) (row_keep h fun q hq => ?_)
  obtain ⟨_, hh⟩ := row_block h hq
  exact hs.block q (heap_lt hh) fun hf => by have := hF q hf; have := (h.lt q hq).1; omega

/-- The document's world: its objects (each with its addresses), its rules, its trace; kept. -/
structure RAt (F : List Nat) (w : World) (m : Value) (rs : List R3) (S : WS) : Prop where
  form : ∃ ao co af cf at' ct, m = .agg #[.slice ao rs.length co, .slice af S.fails.length cf, .slice at' S.trace.length ct] ∧
    (Kept F w fun w' => CellsAt w' (.slice ao rs.length co) rs.length (rowC rs)) ∧ (Kept F w fun w' => CellsAt w' (.slice af S.fails.length cf) S.fails.length (failCells S.fails)) ∧
    (Kept F w fun w' => CellsAt w' (.slice at' S.trace.length ct) S.trace.length (callCells S.trace))
  vals : ∀ r ∈ rs, Kept F w fun w' => ValAt w' r.1.2.2 (rV r)
  os : osR rs = S.objs
  fit : fitO S.objs
  ris : risO S.objs
theorem RAt.step {F F' : List Nat} {w w' : World} {m : Value} {rs : List R3} {S : WS} (h : RAt F w m rs S) (hs : Spares F w w') (hF : ∀ q ∈ F', q ∈ F ∨ w.heap.size ≤ q) : RAt F' w' m rs S := by
  obtain ⟨ao, co, af, cf, at', ct, hm, h1, h2, h3⟩ := h.form
  exact ⟨⟨ao, co, af, cf, at', ct, hm, h1.step hs hF, h2.step hs hF, h3.step hs hF⟩, fun r hr => (h.vals r hr).step hs hF, h.os, h.fit, h.ris⟩
theorem RAt.below {F : List Nat} {w w' : World} {m : Value} {rs : List R3} {S : WS} (h : RAt F w m rs S) (hb : Below w.heap.size w w') : RAt F w' m rs S := h.step (Spares.of_below hb) fun _ hq => .inl hq
theorem RAt.len {F : List Nat} {w : World} {m : Value} {rs : List R3} {S : WS} (h : RAt F w m rs S) : rs.length = S.objs.length := by rw [← h.os, osR_len]
theorem RAt.objs {F : List Nat} {w : World} {ao : Option Addr} {co : Nat} {x y : Value} {rs : List R3} {S : WS} {k : Nat} (h : RAt F w (.agg #[.slice ao k co, x, y]) rs S) : ObjsAt w (.slice ao k co) S.objs := by
  obtain ⟨_, _, _, _, _, _, hm, h1, _, _⟩ := h.form
  cases hm
  rw [← h.os]
  exact objs_of_rows h1.now (fun r hr => (h.vals r hr).now) (by rw [h.os]; exact h.fit)

end Go.Proofs.YtpbipngnoklmcaaGreatDoor
namespace Go.Proofs.YtpbipngnoklmcaaGreatDoor
open Go.RowKit
set_option maxRecDepth 100000
attribute [local go_sem] str_size str_toList str_get

/-- The place of an object; below 0: there is none. -/
def AtP (rs : List R3) (t i : S8) (z : Int) : Prop := (z = -1 ∧ hasO (osR rs) t i = false) ∨ ∃ (k : Nat) (r : R3), z = k ∧ rs[k]? = some r ∧ r.1.1 = t ∧ r.1.2.1 = i
theorem AtP.has {rs : List R3} {t i : S8} {z : Int} (h : AtP rs t i z) : decide (0 ≤ z) = hasO (osR rs) t i := by
  rcases h with ⟨rfl, h⟩ | ⟨k, r, rfl, hr, h1, h2⟩
  · rw [h]
    rfl
  · have : hasO (osR rs) t i = true := by
      unfold hasO
      rw [List.any_eq_true]
      exact ⟨r.1, List.mem_map.2 ⟨r, List.mem_of_getElem? hr, rfl⟩, isO_iff.2 ⟨h1, h2⟩⟩
    rw [this]
    simp
theorem AtP.none_of {rs : List R3} {t i : S8} (h : ∀ j r, j < rs.length → rs[j]? = some r → isO t i r.1 = false) : AtP rs t i (-1) := by
  refine .inl ⟨rfl, ?_⟩
  unfold hasO
  rw [List.any_eq_false]
  intro o ho
  obtain ⟨r, hr, rfl⟩ := List.mem_map.1 ho
  obtain ⟨j, hj⟩ := List.getElem?_of_mem hr
  rw [h j r (List.getElem?_eq_some_iff.1 hj).1 hj]
  simp

set_option maxHeartbeats 2000000 in
theorem at_r (rs : List R3) (ao : Option Addr) (co : Nat) (vx vy : Value) (t i : S8) (w : World) (h : CellsAt w (.slice ao rs.length co) rs.length (rowC rs)) :
    Calls Tryz.prog 31 #[.agg #[.slice ao rs.length co, vx, vy], str t, str i] w fun e w' => ∃ z : Int, e = .returned (.int .i64 z) ∧ AtP rs t i z ∧ Below w.heap.size w w' := by
  have H := Lib.hid h
  obtain ⟨_, _, hv, hm, _⟩ := h
  cases hv
  obtain ⟨w0, hw0⟩ : ∃ w0, w0 = w.alloc (.cells #[.slice ao rs.length co, vx, vy] 32) := ⟨_, rfl⟩
  have hn0 : w0.heap[w.heap.size]? = some (.cells #[.slice ao rs.length co, vx, vy] 32 (0, 0)) := by rw [hw0]; exact heap_alloc_new _ _
  have hb0 : Below w.heap.size w w0 := by rw [hw0]; exact (Below.refl _ w).alloc (Nat.le_refl _) _
  have e0 : w0.cell? ⟨w.heap.size, 0, none⟩ = some (.slice ao rs.length co) := by rw [Lib.cell_of_heap hn0]; rfl
  have hnm : rs.length ≤ 9223372036854775807 := by omega
  clear hn0
  go_enter Tryz.func31, Tryz.ntmps31
  go_upto_region 1 with fail
  rw [← hw0]
  clear hw0
  go_wp2
  go_loopg [11] rs.length (fun gg v11 wr => ∃ k : Nat, v11 = .int .i64 k ∧ k + gg = rs.length ∧ Hid (∀ j r, j < k → rs[j]? = some r → isO t i r.1 = false) ∧ Below w0.heap.size w0 wr)
  case atStart => exact ⟨0, rfl, by omega, (fun j r hj => by omega), Below.refl _ _⟩
  case round =>
    obtain ⟨k, rfl, hk, HN, hbr⟩ := hrel
    have hB := hb0.trans (hbr.mono hb0.size)
    have hlw : w.heap.size < w0.heap.size := by
      have := World.block_lt_of_cell? w0 _ e0
      exact this
    have d0 := (hbr.cell (p := ⟨w.heap.size, 0, none⟩) hlw).trans e0
    cases gk with
    | zero =>
      obtain rfl : k = rs.length := by omega
      go_wp2
      go_ret
      exact ⟨-1, rfl, AtP.none_of HN.out, hB⟩
    | succ gg =>
      have hkl : k < rs.length := by omega
      have hki : (k : Int) < (rs.length : Int) := by omega
      obtain ⟨r, hr⟩ : ∃ r, rs[k]? = some r := ⟨_, List.getElem?_eq_getElem hkl⟩
      obtain ⟨b, off, rfl, hlt, k0, k1, _⟩ := (H.out.mono hB).obj hr
      have HK := Lib.hid hr
      clear hr
      by_cases h1 : r.1.1 = t
      · by_cases h2 : r.1.2.1 = i
        · have HR := Lib.hid (.inr ⟨k, r, rfl, HK.out, h1, h2⟩ : AtP rs t i k)
          rw [h1] at k0
          rw [h2] at k1
          clear h1 h2
          go_wp2
          go_ret
          exact ⟨_, rfl, HR.out, hB⟩
        · have q2 : (r.1.2.1 == i) = false := by simpa using h2
          have HS := Lib.hid (show ∀ j r', j < k + 1 → rs[j]? = some r' → isO t i r'.1 = false from fun j r' hj hr' => by
            by_cases hjk : j = k
            · subst hjk
              rw [HK.out] at hr'
              cases hr'
              exact isO_of_ne fun e => h2 e.2
            · exact HN.out j r' (by omega) hr')
          rw [h1] at k0
          clear h1 h2
          go_wp2
          go_roundg gg
          case measure => omega
          case rel => exact ⟨k + 1, by go_num, by omega, HS, hbr⟩
      · have q1 : (r.1.1 == t) = false := by simpa using h1
        have HS := Lib.hid (show ∀ j r', j < k + 1 → rs[j]? = some r' → isO t i r'.1 = false from fun j r' hj hr' => by
          by_cases hjk : j = k
          · subst hjk
            rw [HK.out] at hr'
            cases hr'
            exact isO_of_ne fun e => h1 e.1
          · exact HN.out j r' (by omega) hr')
        clear h1
        go_wp2
        go_roundg gg
        case measure => omega
        case rel => exact ⟨k + 1, by go_num, by omega, HS, hbr⟩

/-- A new row of objects. -/
def NewR (w : World) (rs : List R3) (v' : Value) (w' : World) : Prop := w'.ownsRow w.heap.size 47 7 v' rs.length (rowC rs) ∧ Below w.heap.size w w'
theorem NewR.nil (w : World) : NewR w [] (.slice none 0 0) w := ⟨World.ownsRow_nil _ _ _ _, Below.refl _ _⟩
theorem NewR.push {w wr w3 : World} {rs : List R3} {r : R3} {vo v' : Value} {o : Obj} (h : NewR w rs vo wr) (hown : w3.ownsRow w.heap.size 47 7 v' (rs.length + 1) (rowC rs ++ rcells r)) (hg : (wr.alloc o).grownBy w3 vo.ownBlock) : NewR w (rs ++ [r]) v' w3 := by
  refine ⟨?_, ?_⟩
  · rw [List.length_append, rowC_snoc]
    exact hown
  · have hb1 : Below w.heap.size w (wr.alloc o) := h.2.alloc h.2.size _
    exact hb1.grown hg hb1.size fun k e => (h.1.lt k e).1
theorem NewR.alloc {w wr : World} {rs : List R3} {vo : Value} (h : NewR w rs vo wr) (o : Obj) : (wr.alloc o).ownsRow w.heap.size 47 7 vo rs.length (rowC rs) := row_keep h.1 fun q hq => by
  obtain ⟨_, hh⟩ := row_block h.1 hq
  exact Below.heap_alloc _ _ q (heap_lt hh)

theorem outR_take (rs : List R3) (t i : S8) {k : Nat} {r : R3} (hr : rs[k]? = some r) : outR (rs.take (k + 1)) t i = if isO t i r.1 = true then outR (rs.take k) t i else outR (rs.take k) t i ++ [r] := by
  unfold outR
  rw [List.take_add_one, hr, List.filter_append]
  cases h : isO t i r.1 <;> simp [h]

set_option maxHeartbeats 2000000 in
theorem without_r (rs : List R3) (ao : Option Addr) (co : Nat) (t i : S8) (w : World) (h : CellsAt w (.slice ao rs.length co) rs.length (rowC rs)) (hl : rs.length ≤ 1000000) :
    Calls Tryz.prog 63 #[.slice ao rs.length co, str t, str i] w fun e w' => ∃ v', e = .returned v' ∧ NewR w (outR rs t i) v' w' := by
  obtain ⟨i1, hi1, hz1, hzs1, hzb1⟩ := info_parts (P := Tryz.prog) (e := 47) (z := .agg #[.string ⟨#[]⟩, .string ⟨#[]⟩, .int .i64 0, .bool false, .string ⟨#[]⟩, .slice none 0 0, .slice none 0 0]) (size := 7) (bytes := 112) (by kernel_rfl)
  have H := Lib.hid h
  obtain ⟨_, _, hv, hm, _⟩ := h
  cases hv
  have hnm : rs.length ≤ 9223372036854775807 := by omega
  go_enter Tryz.func63, Tryz.ntmps63
  go_wp2
  go_loopg [7, 11] rs.length (fun gg v7 v11 wr => ∃ k : Nat, v11 = .int .i64 k ∧ k + gg = rs.length ∧ Hid (NewR w (outR (rs.take k) t i) v7 wr))
  case atStart => exact ⟨0, rfl, by omega, NewR.nil w⟩
  case round =>
    obtain ⟨k, rfl, hk, HN⟩ := hrel
    have hB := HN.out.2
    cases gk with
    | zero =>
      obtain rfl : k = rs.length := by omega
      have := HN.out
      rw [List.take_length] at this
      have HF := Lib.hid this
      clear this
      go_wp2
      go_ret
      exact ⟨_, rfl, HF.out⟩
    | succ gg =>
      have hkl : k < rs.length := by omega
      have hki : (k : Int) < (rs.length : Int) := by omega
      obtain ⟨r, hr⟩ : ∃ r, rs[k]? = some r := ⟨_, List.getElem?_eq_getElem hkl⟩
      obtain ⟨b, off, rfl, hlt, k0, k1, k2, k3, k4, k5, k6⟩ := (H.out.mono hB).obj hr
      have hs := outR_take rs t i hr
      have hol : (outR (rs.take k) t i).length ≤ k := Nat.le_trans (len_outR _ _ _) (by rw [List.length_take]; omega)
      have hwr := hB.size
      obtain ⟨ai1, ci1, rfl⟩ := slice_form HN.out.1
      have HP := fun w3 v' o => NewR.push (w3 := w3) (v' := v') (r := r) (o := o) HN.out
      have HO := fun o => NewR.alloc HN.out o
      generalize outR (rs.take k) t i = acc at HN hs hol HP HO
      have HS := Lib.hid hs
      have HPH := Lib.hid HP
      have HOH := Lib.hid HO
      clear hr hs HP HO
      by_cases hc : r.1.1 = t ∧ r.1.2.1 = i
      · obtain ⟨h1, h2⟩ := hc
        have hs := HS.out
        rw [if_pos (isO_iff.2 ⟨h1, h2⟩)] at hs
        have HS2 := Lib.hid hs
        clear hs
        rw [h1] at k0
        rw [h2] at k1
        have n1 : (t != t) = false := by simp
        have n2 : (i != i) = false := by simp
        clear HS HPH HOH h1 h2
        go_wp2
        go_roundg gg
        case measure => omega
        case rel => exact ⟨k + 1, by go_num, by omega, Lib.hid (by rw [HS2.out]; exact HN.out)⟩
      · have hs := HS.out
        rw [if_neg (by rw [isO_iff]; exact hc)] at hs
        have HS2 := Lib.hid hs
        clear HS hs
        have hqq : (r.1.1 != t) = true ∨ (r.1.1 = t ∧ (r.1.2.1 != i) = true) := by
          by_cases e1 : r.1.1 = t
          · exact .inr ⟨e1, by simpa [bne] using fun e => hc ⟨e1, e⟩⟩
          · exact .inl (by simpa [bne] using e1)
        clear hc
        have hend : ∀ w3 v', w3.ownsRow w.heap.size 47 7 v' (acc.length + 1) (rowC acc ++ [str r.1.1, str r.1.2.1, .int .i64 r.1.2.2.kind, .bool r.1.2.2.flag, str r.1.2.2.text, .slice r.2.1 r.1.2.2.items.length r.2.2.1, .slice r.2.2.2.1 r.1.2.2.keys.length r.2.2.2.2]) → (wr.alloc (.cells #[str r.1.1, str r.1.2.1, .int .i64 r.1.2.2.kind, .bool r.1.2.2.flag, str r.1.2.2.text, .slice r.2.1 r.1.2.2.items.length r.2.2.1, .slice r.2.2.2.1 r.1.2.2.keys.length r.2.2.2.2] 47)).grownBy w3 (Value.slice ai1 acc.length ci1).ownBlock → NewR w (outR (rs.take (k + 1)) t i) v' w3 := fun w3 v' h1 h2 => by
          rw [HS2.out]
          exact HPH.out w3 v' _ h1 h2
        have HE := Lib.hid hend
        have HOC := Lib.hid (HOH.out (.cells #[str r.1.1, str r.1.2.1, .int .i64 r.1.2.2.kind, .bool r.1.2.2.flag, str r.1.2.2.text, .slice r.2.1 r.1.2.2.items.length r.2.2.1, .slice r.2.2.2.1 r.1.2.2.keys.length r.2.2.2.2] 47))
        have HCN := Lib.hid (cells_new wr [str r.1.1, str r.1.2.1, .int .i64 r.1.2.2.kind, .bool r.1.2.2.flag, str r.1.2.2.text, .slice r.2.1 r.1.2.2.items.length r.2.2.1, .slice r.2.2.2.1 r.1.2.2.keys.length r.2.2.2.2] 47)
        clear hend HPH HOH HS2
        rcases hqq with hq1 | ⟨rfl, hq2⟩
        · have hq3 : (r.1.1 == t) = false := by simpa [bne] using hq1
          go_wp2_with (at_builtin; refine wpList_append_fresh _ rfl (.tmp 30) (.tmp 35) 22 rfl w.heap.size 47 i1 _ 7 112 Tryz.underlying22 hi1 hz1 hzs1 hzb1 rfl (by decide) _ acc.length (rowC acc) rfl HOC.out ⟨wr.heap.size, 0, none⟩ 1 1 [str r.1.1, str r.1.2.1, .int .i64 r.1.2.2.kind, .bool r.1.2.2.flag, str r.1.2.2.text, .slice r.2.1 r.1.2.2.items.length r.2.2.1, .slice r.2.2.2.1 r.1.2.2.keys.length r.2.2.2.2] rfl rfl HCN.out (by intro y hy; simp at hy; rcases hy with rfl | rfl | rfl | rfl | rfl | rfl | rfl <;> rfl) (by unfold maxLen; omega) (by omega) (by simp; omega) ?_; intro v' w3 hown hgrow hv')
          have HF := Lib.hid (HE.out w3 v' hown hgrow)
          clear hown hgrow hv'
          go_wp2
          go_roundg gg
          case measure => omega
          case rel => exact ⟨k + 1, by go_num, by omega, HF⟩
        · have hq1 : (r.1.1 != r.1.1) = false := by simp
          have hq4 : (r.1.2.1 == i) = false := by simpa [bne] using hq2
          go_wp2_with (at_builtin; refine wpList_append_fresh _ rfl (.tmp 30) (.tmp 35) 22 rfl w.heap.size 47 i1 _ 7 112 Tryz.underlying22 hi1 hz1 hzs1 hzb1 rfl (by decide) _ acc.length (rowC acc) rfl HOC.out ⟨wr.heap.size, 0, none⟩ 1 1 [str r.1.1, str r.1.2.1, .int .i64 r.1.2.2.kind, .bool r.1.2.2.flag, str r.1.2.2.text, .slice r.2.1 r.1.2.2.items.length r.2.2.1, .slice r.2.2.2.1 r.1.2.2.keys.length r.2.2.2.2] rfl rfl HCN.out (by intro y hy; simp at hy; rcases hy with rfl | rfl | rfl | rfl | rfl | rfl | rfl <;> rfl) (by unfold maxLen; omega) (by omega) (by simp; omega) ?_; intro v' w3 hown hgrow hv')
          have HF := Lib.hid (HE.out w3 v' hown hgrow)
          clear hown hgrow hv'
          go_wp2
          go_roundg gg
          case measure => omega
          case rel => exact ⟨k + 1, by go_num, by omega, HF⟩

end Go.Proofs.YtpbipngnoklmcaaGreatDoor
