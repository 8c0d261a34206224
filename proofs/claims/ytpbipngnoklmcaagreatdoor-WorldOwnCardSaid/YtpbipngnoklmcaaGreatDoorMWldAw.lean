/- The walk of the laws' own awake: the document's examples. A row of calls that came in; what the law's loop holds. Putting into an object of one's own: its rows, its blocks. No walk but slices.Insert's. -/
import Derived.Test.YtpbipngnoklmcaaGreatDoorMWldHs
import Derived.Test.YtpbipngnoklmcaaGreatDoorMPlA
import Derived.Test.YtpbipngnoklmcaaGreatDoorWldRn
import Derived.Test.YtpbipngnoklmcaaGreatDoorMWldO
import Derived.Test.YtpbipngnoklmcaaGreatDoorMWldK
import Derived.Test.YtpbipngnoklmcaaGreatDoorValC
namespace Go.Proofs.YtpbipngnoklmcaaGreatDoor
open Go.RowKit
set_option maxRecDepth 100000
attribute [local go_sem] str_size str_toList str_get

def awS0 : WS := ⟨[], [(1, [116, 46, 98])], []⟩
def awS1 : WS := (createP awS0 [116, 46, 97] [116] [] noneV).1
def awS2 : WS := (createP awS1 [116, 46, 97] [116] [116, 46, 97, 35, 54] noneV).1
def awS3 : WS := (createP awS2 [116, 46, 98] [116] [] noneV).1
theorem aw0 : newP [] [(1, [116, 46, 98])] = (some awS0, 0) := rfl
theorem aw1 : (createP awS0 [116, 46, 97] [116] [] noneV).2 = ([116, 46, 97, 35, 49], 0) := by kernel_rfl
theorem aw2 : (createP awS1 [116, 46, 97] [116] [116, 46, 97, 35, 54] noneV).2 = ([116, 46, 97, 35, 55], 0) := by kernel_rfl
theorem aw3 : (createP awS2 [116, 46, 98] [116] [] noneV).2 = ([], 160) := by kernel_rfl
theorem aw4 : awS3.objs.length = 2 := by kernel_rfl
theorem aw5 : awS3.trace.length = 3 := by kernel_rfl
theorem aw6 : awS1.trace.length ≤ 100000 ∧ awS1.objs.length ≤ 100000 ∧ awS2.trace.length ≤ 100000 ∧ awS2.objs.length ≤ 100000 := by
  rw [show awS1.trace.length = 1 by kernel_rfl, show awS1.objs.length = 1 by kernel_rfl, show awS2.trace.length = 2 by kernel_rfl, show awS2.objs.length = 2 by kernel_rfl]
  omega
theorem fit_of {l : S8} (h : l.length ≤ 100000) : fitS l := by
  show l.length ≤ _
  omega
theorem cellsAt_one (w : World) (cs : List Value) (T : TypeId) (n : Nat) (hn : n ≤ 9223372036854775807) : CellsAt (w.alloc (.cells cs.toArray T)) (.slice (some ⟨w.heap.size, 0, none⟩) n n) n cs :=
  ⟨_, n, rfl, ⟨Nat.le_refl _, hn, fun e => by cases e⟩, fun _ => ⟨w.heap.size, 0, rfl, heap_lt (heap_alloc_new w (.cells cs.toArray T)), cells_new w cs T⟩⟩

set_option maxHeartbeats 4000000 in
theorem awake17 (w : World) (hE : ErrW w) (hT : TabW w) : Calls Tryz.prog 6 #[] w fun e w' => e = .returned (.bool true) ∧ Below w.heap.size w w' := by
  obtain ⟨w0, hw0⟩ : ∃ w0, w0 = w.alloc (.cells #[.int .i64 1, .string ⟨#[116, 46, 98]⟩] 52) := ⟨_, rfl⟩
  have hb0 : Below w.heap.size w w0 := by rw [hw0]; exact (Below.refl _ w).alloc (Nat.le_refl _) _
  have hc0 : CellsAt w0 (.slice (some ⟨w.heap.size, 0, none⟩) 1 1) 1 (failCells [(1, [116, 46, 98])]) := by rw [hw0]; exact cellsAt_one w _ _ 1 (by omega)
  have NW := new_h [] [(1, [116, 46, 98])] (.slice none 0 0) _ w0 (ObjsAt.nil w0) hc0 (by simp) (by simp) (hE.mono hb0) (hT.mono hb0)
  have HE := Lib.hid hE
  have HT := Lib.hid hT
  clear hE hT hc0
  go_enter Tryz.func6, Tryz.ntmps6
  go_wp2_with fail
  rw [← hw0]
  clear hw0
  refine NW.mono ?_
  rintro e w1 ⟨hb1, hx⟩
  rw [aw0] at hx
  obtain ⟨p, rfl, hh⟩ := hx
  have hbw1 := hb0.trans (hb1.mono hb0.size)
  obtain ⟨w2, hw2⟩ : ∃ w2, w2 = w1.alloc (.cells #[.int .i64 6, .bool false, .string ⟨#[]⟩, .slice none 0 0, .slice none 0 0] 41) := ⟨_, rfl⟩
  have hn2 : w2.heap[w1.heap.size]? = some (.cells #[.int .i64 6, .bool false, .string ⟨#[]⟩, .slice none 0 0, .slice none 0 0] 41 (0, 0)) := by rw [hw2]; exact heap_alloc_new _ _
  have hb2 : Below w1.heap.size w1 w2 := by rw [hw2]; exact (Below.refl _ w1).alloc (Nat.le_refl _) _
  have h2 := (hh.guard (Nat.le_refl _)).below hb2
  have hbw2 := hbw1.trans (hb2.mono hbw1.size)
  obtain ⟨Q, hQ⟩ : ∃ Q, w1.heap.size = Q := ⟨_, rfl⟩
  rw [hQ] at hn2 h2
  have hG : w.heap.size ≤ w0.heap.size := hb0.size
  obtain ⟨B, hB⟩ : ∃ B, w0.heap.size = B := ⟨_, rfl⟩
  rw [hB] at h2 hG
  have hL2 : ∀ q ∈ [Q], q < w2.heap.size := fun q hq => by
    have : q = Q := by simpa using hq
    rw [this]
    exact heap_lt hn2
  have C1 := create_h h2 hL2 [116, 46, 97] [116] [] noneV _ (none_at w2) (by simp) (by simp) (fit_of (by simp)) (by simp [awS0]) (by simp) (by simp [awS0]) (HE.out.mono hbw2) (HT.out.mono hbw2)
  rw [aw1] at C1
  obtain ⟨c0, c1, c2, c3, c4⟩ := val_box hn2
  have HN2 := Lib.hid hn2
  have HW2 := Lib.hid hw2
  clear NW hb0 hb1 hh hb2 hn2 h2 hw2 hbw1
  go_wp2_with fail
  rw [← HW2.out]
  clear HW2 hQ
  refine C1.mono ?_
  rintro e w3 ⟨rfl, h3, hk3⟩
  have h3 : Has B [Q] p awS1 1 w3 := h3
  have hn3 := (hk3.2 Q (by simp) (heap_lt HN2.out)).trans HN2.out
  have hbw3 := hbw2.trans (hk3.1.mono hG)
  obtain ⟨d0, d1, d2, d3, d4⟩ := val_box hn3
  have HN3 := Lib.hid hn3
  have C2 := create_h h3 (fun q hq => by have : q = Q := by simpa using hq
                                         rw [this]; exact heap_lt hn3) [116, 46, 97] [116] [116, 46, 97, 35, 54] noneV _ (none_at w3) (by simp) (by simp) (fit_of (by simp)) aw6.1 (by simp) aw6.2.1 (HE.out.mono hbw3) (HT.out.mono hbw3)
  rw [aw2] at C2
  clear C1 hn3 h3 hk3 c0 c1 c2 c3 c4
  go_wp2_with fail
  refine C2.mono ?_
  rintro e w4 ⟨rfl, h4, hk4⟩
  have h4 : Has B [Q] p awS2 2 w4 := h4
  have hn4 := (hk4.2 Q (by simp) (heap_lt HN3.out)).trans HN3.out
  have hbw4 := hbw3.trans (hk4.1.mono (Nat.le_trans hG (Nat.le_refl _)))
  obtain ⟨c0, c1, c2, c3, c4⟩ := val_box hn4
  have C3 := create_h h4 (fun q hq => by have : q = Q := by simpa using hq
                                         rw [this]; exact heap_lt hn4) [116, 46, 98] [116] [] noneV _ (none_at w4) (by simp) (by simp) (fit_of (by simp)) aw6.2.2.1 (by simp) aw6.2.2.2 (HE.out.mono hbw4) (HT.out.mono hbw4)
  rw [aw3] at C3
  clear C2 hn4 h4 hk4 d0 d1 d2 d3 d4
  go_wp2_with fail
  refine C3.mono ?_
  rintro e w5 ⟨rfl, h5, hk5⟩
  have h5 : Has B [Q] p awS3 3 w5 := h5
  have hbw5 := hbw4.trans (hk5.1.mono hG)
  have OB := objects_h h5 (by rw [aw4]; omega)
  have TR := fun W (hW : Below w5.heap.size w5 W) => trace_h (h5.below hW) (by rw [aw5]; omega)
  rw [aw5] at TR
  clear C3 h5 hk5 c0 c1 c2 c3 c4
  go_wp2_with fail
  refine OB.mono ?_
  rintro e w6 ⟨v6, rfl, ho6, hb6⟩
  obtain ⟨a6, c6, rfl, _⟩ := ho6
  rw [aw4]
  have TR6 := TR w6 hb6
  have hbw6 := hbw5.trans (hb6.mono hbw5.size)
  clear OB TR
  go_wp2_with fail
  refine TR6.mono ?_
  rintro e w7 ⟨v7, rfl, ho7, hb7⟩
  obtain ⟨a7, c7, rfl⟩ := slice_form ho7
  have hbw7 := hbw6.trans (hb7.mono hbw6.size)
  clear TR6 ho7
  go_wp2
  go_ret
  exact ⟨rfl, hbw7⟩

end Go.Proofs.YtpbipngnoklmcaaGreatDoor
namespace Go.Proofs.YtpbipngnoklmcaaGreatDoor
open Go.RowKit

theorem newP_code (os : List O3) (fs : List F2) : (∃ c : Int, newP os fs = (none, c) ∧ (c == 0) = false ∧ (c != 0) = true) ∨ ∃ S, newP os fs = (some S, 0) ∧ S.fails = fs ∧ S.trace = [] := by
  unfold newP
  split
  · exact .inl ⟨1, rfl, rfl, rfl⟩
  · split
    · exact .inl ⟨2, rfl, rfl, rfl⟩
    · exact .inr ⟨_, rfl, rfl, rfl⟩
theorem loadP_len : ∀ (l m : List O3) {r : List O3}, loadP l m = some r → r.length ≤ l.length + m.length
  | [], m, r, h => by
    rw [loadP] at h
    cases h
    simp
  | o :: l, m, r, h => by
    rw [loadP] at h
    split at h
    · cases h
    · have := loadP_len l _ h
      have h2 : (withO m o).length ≤ m.length + 1 := by
        unfold withO
        have go : ∀ (q : List O3), (insO o q).length = q.length + 1 := by
          intro q
          induction q with
          | nil => rfl
          | cons x r ih =>
            rw [insO]
            split
            · rfl
            · rw [List.length_cons, ih, List.length_cons]
        rw [go]
        have : (outO m o.1 o.2.1).length ≤ m.length := List.length_filter_le _ _
        omega
      rw [List.length_cons]
      omega
theorem newP_len {os : List O3} {fs : List F2} {S : WS} {c : Int} (h : newP os fs = (some S, c)) : S.objs.length ≤ os.length := by
  unfold newP at h
  split at h
  · cases h
  · split at h
    · cases h
    · next l hl =>
      cases h
      have := loadP_len os [] hl
      simpa using this

abbrev OR := OpT × (Option Addr × Nat × Option Addr × Nat)
def oV (r : OR) : Value := .agg #[.int .i64 r.1.x.kind, .bool r.1.x.flag, str r.1.x.text, .slice r.2.1 r.1.x.items.length r.2.2.1, .slice r.2.2.2.1 r.1.x.keys.length r.2.2.2.2]
def oC (r : OR) : List Value := [.int .i64 r.1.kind, str r.1.addr, str r.1.typ, str r.1.id, str r.1.after, .int .i64 r.1.x.kind, .bool r.1.x.flag, str r.1.x.text, .slice r.2.1 r.1.x.items.length r.2.2.1, .slice r.2.2.2.1 r.1.x.keys.length r.2.2.2.2]
def opsC (rs : List OR) : List Value := rs.flatMap oC
theorem opsC_get : ∀ (rs : List OR) (i : Nat) (r : OR) (j : Nat), rs[i]? = some r → j < 10 → (opsC rs)[i * 10 + j]? = (oC r)[j]?
  | [], _, _, _, h, _ => by cases h
  | x :: rs, 0, r, j, h, hj => by
    cases h
    show (oC x ++ opsC rs)[0 * 10 + j]? = _
    rw [Nat.zero_mul, Nat.zero_add, List.getElem?_append_left (by simp only [oC, List.length_cons, List.length_nil]; omega)]
  | x :: rs, i + 1, r, j, h, hj => by
    show (oC x ++ opsC rs)[(i + 1) * 10 + j]? = _
    rw [List.getElem?_append_right (by simp only [oC, List.length_cons, List.length_nil]; omega), show (i + 1) * 10 + j - (oC x).length = i * 10 + j by simp only [oC, List.length_cons, List.length_nil]; omega]
    exact opsC_get rs i r j h hj
theorem CellsAt.op {w : World} {ao : Option Addr} {m cap : Nat} {rs : List OR} (h : CellsAt w (.slice ao m cap) rs.length (opsC rs)) {i : Nat} {r : OR} (hi : rs[i]? = some r) :
    ∃ b off, ao = some ⟨b, off, none⟩ ∧ b < w.heap.size ∧ w.cell? ⟨b, off + i * 10, none⟩ = some (.int .i64 r.1.kind) ∧ w.cell? ⟨b, off + i * 10 + 1, none⟩ = some (str r.1.addr) ∧ w.cell? ⟨b, off + i * 10 + 2, none⟩ = some (str r.1.typ) ∧ w.cell? ⟨b, off + i * 10 + 3, none⟩ = some (str r.1.id) ∧ w.cell? ⟨b, off + i * 10 + 4, none⟩ = some (str r.1.after) ∧
      w.cell? ⟨b, off + i * 10 + 5, none⟩ = some (.int .i64 r.1.x.kind) ∧ w.cell? ⟨b, off + i * 10 + 6, none⟩ = some (.bool r.1.x.flag) ∧ w.cell? ⟨b, off + i * 10 + 7, none⟩ = some (str r.1.x.text) ∧ w.cell? ⟨b, off + i * 10 + 8, none⟩ = some (.slice r.2.1 r.1.x.items.length r.2.2.1) ∧ w.cell? ⟨b, off + i * 10 + 9, none⟩ = some (.slice r.2.2.2.1 r.1.x.keys.length r.2.2.2.2) := by
  obtain ⟨_, _, hv, _, hk⟩ := h
  cases hv
  have hil : i < rs.length := (List.getElem?_eq_some_iff.1 hi).1
  obtain ⟨b, off, rfl, hl, hk⟩ := hk (by omega)
  have q : ∀ j u, j < 10 → (oC r)[j]? = some u → w.cell? ⟨b, off + i * 10 + j, none⟩ = some u := fun j u hj hu => by
    have := hk (i * 10 + j) u (by rw [opsC_get rs i r j hi hj]; exact hu)
    rw [Addr.add_lit] at this
    rw [Nat.add_assoc]
    exact this
  exact ⟨b, off, rfl, hl, q 0 _ (by omega) rfl, q 1 _ (by omega) rfl, q 2 _ (by omega) rfl, q 3 _ (by omega) rfl, q 4 _ (by omega) rfl, q 5 _ (by omega) rfl, q 6 _ (by omega) rfl, q 7 _ (by omega) rfl, q 8 _ (by omega) rfl, q 9 _ (by omega) rfl⟩
/-- A row of calls that reads as these. -/
structure OpsAt (w : World) (v : Value) (rs : List OR) : Prop where
  cells : CellsAt w v rs.length (opsC rs)
  vals : ∀ r ∈ rs, ValAt w r.1.x (oV r)
  len : ∀ r ∈ rs, r.1.addr.length ≤ 281474976710656 ∧ r.1.after.length ≤ 281474976710656 ∧ fitS r.1.typ ∧ fitS r.1.id

/-- What the law's loop holds: both worlds, the box of the document's one. -/
structure LpI (w wr : World) (p b g i n : Nat) (S : WS) (val : S8 → S8 → Value) (vf vt : Value) (D : DataW Value) (m0 m1 m2 : Value) (ms : List R3) : Prop where
  wat : WAt wr p b n S val vf vt D
  ref : RAt (wF p b vt ++ [g]) wr (.agg #[m0, m1, m2]) ms S
  box : wr.heap[g]? = some (.cells #[m0, m1, m2] 32 (0, 0))
  bel : Below w.heap.size w wr
  new : ∀ q ∈ wF p b vt, w.heap.size ≤ q
  old : w.heap.size ≤ g
  out : g ∉ wF p b vt
  tl : S.trace.length ≤ i
  ol : S.objs.length ≤ 40 + i
  nl : n ≤ 40 + i
variable {w wr w' : World} {p b g i n : Nat} {S : WS} {val : S8 → S8 → Value} {vf vt : Value} {D : DataW Value} {m0 m1 m2 : Value} {ms : List R3}
theorem LpI.below (h : LpI w wr p b g i n S val vf vt D m0 m1 m2 ms) (hb : Below wr.heap.size wr w') : LpI w w' p b g i n S val vf vt D m0 m1 m2 ms :=
  ⟨h.wat.below hb, h.ref.below hb, (hb.block _ (heap_lt h.box)).trans h.box, h.bel.trans (hb.mono h.bel.size), h.new, h.old, h.out, h.tl, h.ol, h.nl⟩
theorem LpI.all (h : LpI w wr p b g i n S val vf vt D m0 m1 m2 ms) : ∀ q ∈ wF p b vt ++ [g], w.heap.size ≤ q := fun q hq => by
  rcases List.mem_append.1 hq with hq | hq
  · exact h.new q hq
  · have : q = g := by simpa using hq
    rw [this]
    exact h.old
theorem LpI.next {e : Ending} (h : LpI w wr p b g i n S val vf vt D m0 m1 m2 ms) (hp : Played [g] p b n S vf vt wr e w') :
    ∃ (ao : Option Addr) (co : Nat) (af : Option Addr) (cf : Nat) (at' : Option Addr) (ct : Nat) (ms' : List R3) (S' : WS) (n' : Nat) (val' : S8 → S8 → Value) (vt' : Value) (D' : DataW Value), e = .returned (.tuple #[.agg #[.slice ao ms'.length co, .slice af S'.fails.length cf, .slice at' S'.trace.length ct], .bool true]) ∧ w'.heap[g]? = some (.cells #[m0, m1, m2] 32 (0, 0)) ∧
      LpI w (((w'.setCell ⟨g, 0, none⟩ (.slice ao ms'.length co)).setCell ⟨g, 1, none⟩ (.slice af S'.fails.length cf)).setCell ⟨g, 2, none⟩ (.slice at' S'.trace.length ct)) p b g (i + 1) n' S' val' vf vt' D' (.slice ao ms'.length co) (.slice af S'.fails.length cf) (.slice at' S'.trace.length ct) ms' := by
  obtain ⟨m', ms', S', n', val', vt', D', rfl, hn, hg, hW, hR, hs, hF⟩ := hp
  obtain ⟨ao, co, af, cf, at', ct, rfl, _⟩ := hR.form
  have hbox : w'.heap[g]? = some (.cells #[m0, m1, m2] 32 (0, 0)) := (hs.block g (heap_lt h.box) h.out).trans h.box
  obtain ⟨wR, hwR, xR, _, _⟩ := put_box3 hbox (.slice ao ms'.length co) (.slice af S'.fails.length cf) (.slice at' S'.trace.length ct)
  have hsR := put3_spares w' g (.slice ao ms'.length co) (.slice af S'.fails.length cf) (.slice at' S'.trace.length ct)
  rw [← hwR] at hsR
  refine ⟨ao, co, af, cf, at', ct, ms', S', n', val', vt', D', rfl, hbox, ?_⟩
  rw [← hwR]
  have b1 := Below.spared h.bel hs h.bel.size h.new
  obtain ⟨t1, t2⟩ := hg
  have tl := h.tl
  have ol := h.ol
  have nl := h.nl
  refine ⟨hW.boxed hsR fun q hq => ?_, hR.step (hsR.sub fun q hq _ => List.mem_append.2 (.inr hq)) fun q hq => .inl hq, xR, Below.spared b1 hsR b1.size fun q hq => ?_, fun q hq => ?_, h.old, fun hq => ?_, by omega, by omega, by omega⟩
  · have : q = g := by simpa using hq
    rw [this]
    exact ⟨_, _, hbox⟩
  · have : q = g := by simpa using hq
    rw [this]
    exact h.old
  · rcases hF q hq with hq | hq
    · exact h.new q hq
    · exact Nat.le_trans h.bel.size hq
  · rcases hF g hq with hq | hq
    · exact h.out hq
    · exact Nat.lt_irrefl _ (Nat.lt_of_lt_of_le (heap_lt h.box) hq)

end Go.Proofs.YtpbipngnoklmcaaGreatDoor
namespace Go.Proofs.YtpbipngnoklmcaaGreatDoor
open Go.RowKit
set_option maxRecDepth 100000

theorem Spares.drew' {F : List Nat} {a b : World} (h : Spares F a b) : Spares F a b.drew := h.trans (Spares.of_below (Below.refl _ b).drew)
theorem Spares.alloc' {F : List Nat} {a b : World} (h : Spares F a b) (o : Obj) : Spares F a (b.alloc o) := h.trans (Spares.of_below ((Below.refl _ b).alloc (Nat.le_refl _) o))
theorem Spares.cell {F : List Nat} {a b : World} (h : Spares F a b) {p : Addr} (hp : p.block < a.heap.size) (hn : p.block ∉ F) : b.cell? p = a.cell? p := World.cell?_of_block (h.block _ hp hn)

theorem cells_one {w : World} : ∀ {ts : List VT} {xs : List Value} {F : List Nat}, OwnVals w ts xs F → ∀ v ∈ cellsV xs, v.oneCell' = true
  | [], xs, F, h => by rw [OwnVals] at h; rw [h.1]; intro v hv; cases hv
  | t :: r, xs, F, h => by
    rw [OwnVals] at h
    obtain ⟨x, ys, Fx, Fr, rfl, rfl, h1, h2⟩ := h
    intro v hv
    rw [cellsV, List.flatMap_cons, List.mem_append] at hv
    rcases hv with hv | hv
    · obtain ⟨ai, ci, ak, ck, rfl⟩ := h1.at.form
      simp [Value.cells] at hv
      rcases hv with rfl | rfl | rfl | rfl | rfl <;> rfl
    · exact cells_one h2 v hv
theorem cell_one {w : World} {t : VT} {x : Value} (h : ValAt w t x) : ∀ v ∈ x.cells.toList, v.oneCell' = true := by
  obtain ⟨ai, ci, ak, ck, rfl⟩ := h.form
  intro v hv
  simp [Value.cells] at hv
  rcases hv with rfl | rfl | rfl | rfl | rfl <;> rfl

/-- What an insertion leaves: the row of the new elements, in its old block or in a new one. -/
def InsPost (e : TypeId) (size n : Nat) (xs : List Value) (F : List Nat) (W : World) (en : Ending) (w' : World) : Prop :=
  ∃ v' F', en = .returned v' ∧ OwnS w' e size v' n xs F' ∧ (F' = F ∨ F' = [W.heap.size]) ∧ Spares F W w'
theorem insPost_of {e : TypeId} {size n : Nat} {xs : List Value} {F : List Nat} {v v' : Value} {W w' : World} (hF : F = v.ownBlock.toList) (h1 : w'.ownsRow 0 e size v' n xs) (h2 : W.grownBy w' v.ownBlock) (h3 : v'.ownBlock = v.ownBlock ∨ v'.ownBlock = some W.heap.size) :
    InsPost e size n xs F W (.returned v') w' := by
  refine ⟨v', _, rfl, ⟨h1, rfl⟩, ?_, Spares.grown h2 (fun k hk => by rw [hF, hk]; simp)⟩
  rcases h3 with h3 | h3
  · left; rw [hF, h3]
  · right; rw [h3]; rfl
theorem strV_take (ks : List (List UInt8)) (i : Nat) : strV (ks.take i) = (strV ks).take i := by simp [strV]
theorem strV_ins (ks : List (List UInt8)) (key : List UInt8) (i : Nat) : strV (ks.take i ++ key :: ks.drop i) = (strV ks).take (i * 1) ++ [str key] ++ (strV ks).drop (i * 1) := by simp [strV]
theorem cellsV_one (x : Value) : cellsV [x] = x.cells.toList := by simp [cellsV]
theorem cellsV_ins {xs : List Value} (h : ∀ v ∈ xs, v.cells.size = 5) (x : Value) (i : Nat) : cellsV (xs.take i ++ x :: xs.drop i) = (cellsV xs).take (i * 5) ++ x.cells.toList ++ (cellsV xs).drop (i * 5) := by
  rw [show xs.take i ++ x :: xs.drop i = xs.take i ++ [x] ++ xs.drop i by simp, cellsV_append, cellsV_append, cellsV_take h, cellsV_drop h, cellsV_one]
theorem ins_len {α : Type} (l : List α) (x : α) {i : Nat} (hi : i ≤ l.length) : (l.take i ++ x :: l.drop i).length = l.length + 1 := by
  simp only [List.length_append, List.length_take, List.length_cons, List.length_drop]
  omega

theorem OwnVals.cons {w : World} {t : VT} {ts : List VT} {x : Value} {xs : List Value} {F G : List Nat} (h : OwnVal w t x F) (k : OwnVals w ts xs G) : OwnVals w (t :: ts) (x :: xs) (F ++ G) := by
  rw [OwnVals]
  exact ⟨x, xs, F, G, rfl, rfl, h, k⟩
theorem OwnVals.put {w : World} {ts : List VT} {xs : List Value} {F : List Nat} (h : OwnVals w ts xs F) (i : Nat) : ∃ G H, F = G ++ H ∧ ∀ {w' : World} {t : VT} {x : Value} {Fx : List Nat}, (∀ b ∈ F, w'.heap[b]? = w.heap[b]?) → OwnVal w' t x Fx →
    OwnVals w' (ts.take i ++ t :: ts.drop i) (xs.take i ++ x :: xs.drop i) (G ++ (Fx ++ H)) := by
  obtain ⟨G, H, rfl, h1, h2⟩ := h.split i
  exact ⟨G, H, rfl, fun hk hx => (h1.keep fun b hb => hk b (by simp [hb])).append (OwnVals.cons hx (h2.keep fun b hb => hk b (by simp [hb])))⟩
theorem OwnVals.over {w : World} {ts : List VT} {xs : List Value} {F : List Nat} (h : OwnVals w ts xs F) {i : Nat} (hi : i < ts.length) : ∃ G O H, F = G ++ (O ++ H) ∧ ∀ {w' : World} {t : VT} {x : Value} {Fx : List Nat}, (∀ b ∈ F, w'.heap[b]? = w.heap[b]?) → OwnVal w' t x Fx →
    OwnVals w' (ts.set i t) (xs.set i x) (G ++ (Fx ++ H)) := by
  have hl := h.len
  obtain ⟨G, H, rfl, h1, h2⟩ := h.split i
  rw [List.drop_eq_getElem_cons hi] at h2
  obtain ⟨y, ys, Fy, Fr, e, rfl, h3, h4⟩ := h2.head
  rw [List.drop_eq_getElem_cons (show i < xs.length by omega)] at e
  injection e with e1 e2
  refine ⟨G, Fy, Fr, rfl, fun hk hx => ?_⟩
  rw [List.set_eq_take_append_cons_drop, if_pos hi, List.set_eq_take_append_cons_drop, if_pos (by omega), e2]
  exact (h1.keep fun b hb => hk b (by simp [hb])).append (OwnVals.cons hx (h4.keep fun b hb => hk b (by simp [hb])))

theorem nodup_put {Fk Fi G O H Fx Fk' Fi' : List Nat} {m m1 : Nat} (hF : (Fk ++ (Fi ++ (G ++ (O ++ H)))).Nodup) (hx : Fx.Nodup) (hd : ∀ a ∈ Fk ++ (Fi ++ (G ++ (O ++ H))), ∀ b ∈ Fx, a ≠ b) (hk : Fk'.Nodup) (hi : Fi'.Nodup)
    (hk' : ∀ b ∈ Fk', b ∈ Fk ∨ (m ≤ b ∧ b < m1)) (hi' : ∀ b ∈ Fi', b ∈ Fi ∨ m1 ≤ b) (hlt : ∀ b ∈ Fk ++ (Fi ++ (G ++ (O ++ H))), b < m) (hltx : ∀ b ∈ Fx, b < m) (hm : m ≤ m1) : (Fk' ++ (Fi' ++ (G ++ (Fx ++ H)))).Nodup := by
  simp only [List.nodup_append, List.mem_append] at *
  grind

/-- What putting leaves. -/
def PutPost (t : VT) (F Fx : List Nat) (w : World) (e : Ending) (w' : World) : Prop :=
  ∃ v' F', e = .returned v' ∧ OwnVal w' t v' F' ∧ F'.Nodup ∧ (∀ b ∈ F', b ∈ F ∨ b ∈ Fx ∨ w.heap.size ≤ b) ∧ Spares F w w'

end Go.Proofs.YtpbipngnoklmcaaGreatDoor
