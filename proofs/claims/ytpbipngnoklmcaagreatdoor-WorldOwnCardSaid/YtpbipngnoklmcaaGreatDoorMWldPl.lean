/- Plain: one call, the world and the document's world side by side. No walk. World.Clone: a second world of the same objects. The law's play: update. Printed by genplay.py. -/
import Derived.Test.YtpbipngnoklmcaaGreatDoorWldRc
import Derived.Test.YtpbipngnoklmcaaGreatDoorMGoodR
import Derived.Test.YtpbipngnoklmcaaGreatDoorMWldUp
import Derived.Test.YtpbipngnoklmcaaGreatDoorMWldRe
import Derived.Test.YtpbipngnoklmcaaGreatDoorMWldX
import Derived.Test.YtpbipngnoklmcaaGreatDoorMWldHs
import Derived.Test.YtpbipngnoklmcaaGreatDoorMWldF
import Derived.Test.YtpbipngnoklmcaaGreatDoorSort
import Derived.Shelf.SlMaps.Clone
import Derived.Deep.RegionHeld3
namespace Go.Proofs.YtpbipngnoklmcaaGreatDoor
open Go.RowKit
set_option maxRecDepth 100000

variable {w w' : World} {p b n : Nat} {S : WS} {val : S8 → S8 → Value} {vf vt : Value} {D : DataW Value}

theorem refNeS : (32 : TypeId) ≠ 9 := by decide
theorem refNeV : (32 : TypeId) ≠ 41 := by decide
theorem refNeC : (32 : TypeId) ≠ 58 := by decide
theorem refNeW : (32 : TypeId) ≠ 74 := by decide
theorem refNeF : (32 : TypeId) ≠ 52 := by decide
/-- A world stays while boxes of the document's world are written. -/
theorem WAt.boxed {X : List Nat} (h : WAt w p b n S val vf vt D) (hs : Spares X w w') (hX : ∀ q ∈ X, ∃ cs fz, w.heap[q]? = some (.cells cs 32 fz)) : WAt w' p b n S val vf vt D := by
  have other : ∀ {q : Nat} {cs : Array Value} {T : TypeId} {fz : Nat × Nat}, w.heap[q]? = some (.cells cs T fz) → 32 ≠ T → w'.heap[q]? = w.heap[q]? := fun {q cs T fz} hq hT => hs.block q (heap_lt hq) fun hm => by
    obtain ⟨cs', fz', hh⟩ := hX q hm
    rw [hq] at hh
    injection hh with hh
    injection hh with _ e _
    exact hT e.symm
  refine ⟨(other h.box refNeW).trans h.box, map_keep h.map ?_, h.rel, h.ris, h.fit, h.vals.keep fun o _ F hF q hq => ?_, row_keep h.fails fun q hq => ?_, row_keep h.trace fun q hq => ?_⟩
  · obtain ⟨es, clock, hb⟩ := map_block h.map
    refine hs.block b (heap_lt hb) fun hm => ?_
    obtain ⟨cs', fz', hh⟩ := hX b hm
    rw [hb] at hh
    cases hh
  · obtain ⟨cs, fz, hh⟩ := own_kinds hF q hq
    rcases hh with hh | hh
    · exact other hh refNeS
    · exact other hh refNeV
  · obtain ⟨_, hh⟩ := row_block h.fails hq
    exact other hh refNeF
  · obtain ⟨_, hh⟩ := row_block h.trace hq
    exact other hh refNeC
theorem Box2.spared {g h : Nat} {x y : Array Value} {T : TypeId} {F : List Nat} (k : Box2 g h x y T w) (hs : Spares F w w') (hg : g ∉ F) (hh : h ∉ F) : Box2 g h x y T w' := ⟨(hs.block _ (heap_lt k.one) hg).trans k.one, (hs.block _ (heap_lt k.two) hh).trans k.two⟩

theorem op_cells {w : World} {g : Nat} {c0 c1 c2 c3 c4 c5 c6 c7 c8 c9 : Value} {T : TypeId} (h : w.heap[g]? = some (.cells #[c0, c1, c2, c3, c4, c5, c6, c7, c8, c9] T (0, 0))) : w.cell? ⟨g, 0, none⟩ = some c0 ∧ w.cell? ⟨g, 1, none⟩ = some c1 ∧ w.cell? ⟨g, 2, none⟩ = some c2 ∧ w.cell? ⟨g, 3, none⟩ = some c3 ∧ w.cell? ⟨g, 4, none⟩ = some c4 ∧ w.cell? ⟨g, 5, none⟩ = some c5 ∧ w.cell? ⟨g, 6, none⟩ = some c6 ∧ w.cell? ⟨g, 7, none⟩ = some c7 ∧ w.cell? ⟨g, 8, none⟩ = some c8 ∧ w.cell? ⟨g, 9, none⟩ = some c9 := by
  refine ⟨?_, ?_, ?_, ?_, ?_, ?_, ?_, ?_, ?_, ?_⟩ <;> (rw [Lib.cell_of_heap h]; rfl)
/-- No more than one object and one call more. -/
def Grow (S S' : WS) : Prop := S'.trace.length ≤ S.trace.length + 1 ∧ S'.objs.length ≤ S.objs.length + 1
theorem Grow.same (S : WS) : Grow S S := ⟨by omega, by omega⟩
theorem grow_note (S : WS) (op : Int) (addr typ i : S8) (e : Int) : Grow S (noteP S op addr typ i e) := ⟨by show (S.trace ++ [_]).length ≤ _; rw [List.length_append]; exact Nat.le_refl _, by show S.objs.length ≤ _; omega⟩
theorem grow_create (S : WS) (addr typ after : S8) (x : VT) : Grow S (createP S addr typ after x).1 := by
  unfold createP
  split
  · exact Grow.same S
  · split
    · exact grow_note S _ _ _ _ _
    · exact ⟨by show (S.trace ++ [_]).length ≤ _; rw [List.length_append]; exact Nat.le_refl _, len_with_le _ _⟩
theorem grow_update (S : WS) (addr typ i : S8) (x : VT) : Grow S (updateP S addr typ i x).1 := by
  unfold updateP
  split
  · exact Grow.same S
  · split
    · exact grow_note S _ _ _ _ _
    · split
      · exact grow_note S _ _ _ _ _
      · exact ⟨by show (S.trace ++ [_]).length ≤ _; rw [List.length_append]; exact Nat.le_refl _, len_with_le _ _⟩
theorem grow_delete (S : WS) (addr typ i : S8) : Grow S (deleteP S addr typ i).1 := by
  unfold deleteP
  split
  · exact grow_note S _ _ _ _ _
  · exact ⟨by show (S.trace ++ [_]).length ≤ _; rw [List.length_append]; exact Nat.le_refl _, Nat.le_trans (len_out_le _ _ _) (by omega)⟩
theorem grow_set (S : WS) (typ i : S8) (x : VT) : Grow S (setP S typ i x).1 := by
  unfold setP
  split
  · exact Grow.same S
  · exact ⟨by show S.trace.length ≤ _; omega, len_with_le _ _⟩
theorem grow_kill (S : WS) (typ i : S8) : Grow S (killP S typ i).1 := by
  unfold killP
  split
  · exact Grow.same S
  · exact ⟨by show S.trace.length ≤ _; omega, Nat.le_trans (len_out_le _ _ _) (by omega)⟩

/-- What one call leaves. -/
def Played (G : List Nat) (p b n : Nat) (S : WS) (vf vt : Value) (w : World) (e : Ending) (w' : World) : Prop :=
  ∃ m' rs' S' n' val' vt' D', e = .returned (.tuple #[m', .bool true]) ∧ n' ≤ n + 1 ∧ Grow S S' ∧ WAt w' p b n' S' val' vf vt' D' ∧ RAt (wF p b vt' ++ G) w' m' rs' S' ∧ Spares (wF p b vt) w w' ∧ ∀ q ∈ wF p b vt', q ∈ wF p b vt ∨ w.heap.size ≤ q
/-- From the two calls to the end: the real one from wA to w2, the document's one from w2 to w3, then the boxes. -/
theorem Played.of {G : List Nat} {g h : Nat} {wA w2 w3 wR : World} {m' : Value} {rs' : List R3} {S' : WS} {n' : Nat} {val' : S8 → S8 → Value} {vt' : Value} {D' : DataW Value} {x y : Array Value}
    (hbA : Below w.heap.size w wA) (hgw : w.heap.size ≤ g ∧ w.heap.size ≤ h) (hsp : Spares (wF p b vt) wA w2) (hF : ∀ q ∈ wF p b vt', q ∈ wF p b vt ∨ wA.heap.size ≤ q) (hW : WAt w2 p b n' S' val' vf vt' D') (hn : n' ≤ n + 1) (hG : Grow S S')
    (hb3 : Below w2.heap.size w2 w3) (r3 : RAt (wF p b vt' ++ (g :: h :: G)) w3 m' rs' S') (bx : Box2 g h x y 32 w3) (hsR : Spares [g, h] w3 wR) : Played G p b n S vf vt w (.returned (.tuple #[m', .bool true])) wR := by
  refine ⟨m', rs', S', n', val', vt', D', rfl, hn, hG, (hW.below hb3).boxed hsR (fun q hq => ?_), r3.step (hsR.sub fun k hk _ => ?_) (fun q hq => .inl ?_), ?_, fun q hq => ?_⟩
  · simp at hq
    rcases hq with rfl | rfl
    · exact ⟨_, _, bx.one⟩
    · exact ⟨_, _, bx.two⟩
  · have hk : k = g ∨ k = h := by simpa using hk
    rcases hk with rfl | rfl
    · exact List.mem_append.2 (.inr (by simp))
    · exact List.mem_append.2 (.inr (by simp))
  · rcases List.mem_append.1 hq with hq | hq
    · exact List.mem_append.2 (.inl hq)
    · exact List.mem_append.2 (.inr (by simp [hq]))
  · have s1 : Spares (wF p b vt ++ [g, h]) w wR := (((Spares.of_below hbA).trans (hsp.sub fun k hk _ => by simp [hk])).trans (Spares.of_below hb3)).trans (hsR.sub fun k hk _ => by simp at hk; simp [hk])
    refine s1.sub fun k hk hl => ?_
    rcases List.mem_append.1 hk with hk | hk
    · exact hk
    · simp at hk
      omega
  · rcases hF q hq with hq | hq
    · exact .inl hq
    · exact .inr (Nat.le_trans hbA.size hq)

end Go.Proofs.YtpbipngnoklmcaaGreatDoor
namespace Go.Proofs.YtpbipngnoklmcaaGreatDoor
open Go.RowKit
set_option maxRecDepth 100000
attribute [local go_sem] str_size str_toList str_get
variable {w : World} {p b n : Nat} {S : WS} {val : S8 → S8 → Value} {vf vt : Value} {D : DataW Value}

set_option maxHeartbeats 4000000 in
theorem clonew_w (h : WAt w p b n S val vf vt D) (hl : S.trace.length ≤ 1000000) (hfl : S.fails.length ≤ 1000000) :
    Calls Tryz.prog 14 #[.pointer (some ⟨p, 0, none⟩)] w fun e w' => ∃ p' b' vf' vt', e = .returned (.pointer (some ⟨p', 0, none⟩)) ∧ WAt w' p' b' n S val vf' vt' D ∧ (∀ q ∈ wF p' b' vt', w.heap.size ≤ q) ∧ Below w.heap.size w w' := by
  have mixed : Tryz.prog.follows .mixedOrders = true := by kernel_rfl
  have HH := Lib.hid h
  have hlt := heap_lt h.box
  obtain ⟨x0, x1, x2⟩ := box3 h.box
  have hd : Below w.heap.size w w.drew := (Below.refl _ w).drew
  clear h
  go_enter Tryz.func14, Tryz.ntmps14
  go_upto_region 1 with fail
  go_region_held3 (fun W => W.cell? ⟨p, 0, none⟩ = some (.map (some b)) ∧ W.cell? ⟨p, 1, none⟩ = some vf ∧ W.cell? ⟨p, 2, none⟩ = some vt)
    (first | with_reducible exact ⟨x0, x1, x2⟩ | (obtain ⟨q0, q1, q2⟩ := box3 (HH.out.below hd).box; with_reducible exact ⟨q0, q1, q2⟩) | (obtain ⟨q0, q1, q2⟩ := box3 (HH.out.below (hd.alloc hd.size _)).box; with_reducible exact ⟨q0, q1, q2⟩))
    (first
      | (go_at_call 44; refine (AnyW.maps_Clone_owns Tryz.cloneMap 78 heldR b n D _ (HH.out.below hd).map).mono ?_; rintro e q1 ⟨rfl, hm1, _, hb1⟩; have HM := Lib.hid hm1; have HD1 := Lib.hid hb1; have HE1 := Lib.hid hd; have hd := hd.trans (hb1.mono hd.size); clear hb1 hm1)
      | (go_at_call 26; refine (clone_fails vf S.fails.length (failCells S.fails) _ (CellsAt.row (HH.out.below hd).fails) (fail_len _) (fail_one _) hfl).mono ?_; rintro e q2 ⟨v2, rfl, ho2, hb2⟩; obtain ⟨a2, c2, rfl⟩ := slice_form ho2; have HO2 := Lib.hid ho2; have HD2 := Lib.hid hb2; have HE2 := Lib.hid hd; have hd := hd.trans (hb2.mono hd.size); clear ho2 hb2)
      | (go_at_call 45; refine (clone_calls vt S.trace.length (callCells S.trace) _ (CellsAt.row (HH.out.below hd).trace) (call_len _) (call_one _) hl).mono ?_; rintro e q3 ⟨v3, rfl, ho3, hb3⟩; obtain ⟨a3, c3, rfl⟩ := slice_form ho3; have HO3 := Lib.hid ho3; have HD3 := Lib.hid hb3; have HE3 := Lib.hid hd; have hd := hd.trans (hb3.mono hd.size); clear ho3 hb3))
  all_goals
    have hb4 : Below q3.heap.size q3 (q3.alloc (.cells #[.map (some w.heap.size), .slice a2 S.fails.length c2, .slice a3 S.trace.length c3] 74)) := (Below.refl _ q3).alloc (Nat.le_refl _) _
    have nW := heap_alloc_new q3 (.cells #[.map (some w.heap.size), .slice a2 S.fails.length c2, .slice a3 S.trace.length c3] 74)
    have h34 := HD3.out.trans (hb4.mono HD3.out.size)
    have h24 := HD2.out.trans (h34.mono HD2.out.size)
    have hm4 := map_keep HM.out (h24.block _ HM.out.lt)
    have hw4 := HH.out.below (hd.trans (hb4.mono hd.size))
    have hf4 := row_keep HO2.out fun q hq => by
      obtain ⟨_, hh⟩ := row_block HO2.out hq
      exact h34.block q (heap_lt hh)
    have ht4 := row_keep HO3.out fun q hq => by
      obtain ⟨_, hh⟩ := row_block HO3.out hq
      exact hb4.block q (heap_lt hh)
    have hR := Lib.hid (⟨q3.heap.size, w.heap.size, _, _, rfl, ⟨nW, hm4, hw4.rel, hw4.ris, hw4.fit, hw4.vals, row_zero hf4, row_zero ht4⟩, fun q hq => by
      simp only [wF, List.mem_cons, Option.mem_toList] at hq
      rcases hq with rfl | rfl | hq
      · exact hd.size
      · exact Nat.le_refl _
      · exact Nat.le_trans HE3.out.size (HO3.out.lt q hq).1, hd.trans (hb4.mono hd.size)⟩ : ∃ p' b' vf' vt', (Ending.returned (.pointer (some ⟨q3.heap.size, 0, none⟩))) = .returned (.pointer (some ⟨p', 0, none⟩)) ∧ WAt (q3.alloc (.cells #[.map (some w.heap.size), .slice a2 S.fails.length c2, .slice a3 S.trace.length c3] 74)) p' b' n S val vf' vt' D ∧ (∀ q ∈ wF p' b' vt', w.heap.size ≤ q) ∧ Below w.heap.size w (q3.alloc (.cells #[.map (some w.heap.size), .slice a2 S.fails.length c2, .slice a3 S.trace.length c3] 74)))
    clear hb4 nW h34 h24 hm4 hw4 hf4 ht4
    go_wp2
    go_ret
    exact hR.out

end Go.Proofs.YtpbipngnoklmcaaGreatDoor
namespace Go.Proofs.YtpbipngnoklmcaaGreatDoor
open Go.RowKit
set_option maxRecDepth 100000
attribute [local go_sem] str_size str_toList str_get

variable {p b n : Nat} {S : WS} {val : S8 → S8 → Value} {vf vt : Value} {D : DataW Value}

set_option maxHeartbeats 16000000 in
theorem play_update {G : List Nat} {w : World} {m : Value} {rs : List R3} (h : WAt w p b n S val vf vt D) (r : RAt (wF p b vt ++ G) w m rs S) (hG : ∀ q ∈ G, q < w.heap.size) (addr typ i after : S8) (x : VT) (ai : Option Addr) (ci : Nat) (ak : Option Addr) (ck : Nat)
    (hv : Kept (wF p b vt ++ G) w fun W => ValAt W x (.agg #[.int .i64 x.kind, .bool x.flag, str x.text, .slice ai x.items.length ci, .slice ak x.keys.length ck])) (_ha : addr.length ≤ 281474976710656) (_haf : after.length ≤ 281474976710656) (ft : fitS typ) (fi : fitS i) (hl : S.trace.length ≤ 10000) (hn : n ≤ 10000) (ho : S.objs.length ≤ 10000) (hE : ErrW w) (hT : TabW w) :
    Calls Tryz.prog 9 #[.pointer (some ⟨p, 0, none⟩), m, .agg #[.int .i64 2, str addr, str typ, str i, str after, .int .i64 x.kind, .bool x.flag, str x.text, .slice ai x.items.length ci, .slice ak x.keys.length ck]] w (Played G p b n S vf vt w) := by
  have mixed : Tryz.prog.follows .mixedOrders = true := by kernel_rfl
  obtain ⟨ao, co, af, cf, at', ct, rfl, _⟩ := r.form
  obtain ⟨wA, hwA⟩ : ∃ wA, wA = ((w.alloc (.cells #[.slice ao rs.length co, .slice af S.fails.length cf, .slice at' S.trace.length ct] 32)).alloc (.cells #[.int .i64 2, str addr, str typ, str i, str after, .int .i64 x.kind, .bool x.flag, str x.text, .slice ai x.items.length ci, .slice ak x.keys.length ck] 43)).alloc (.cells #[.slice none 0 0, .slice none 0 0, .slice none 0 0] 32) := ⟨_, rfl⟩
  obtain ⟨BX, OX, hbA⟩ := box_three w #[.slice ao rs.length co, .slice af S.fails.length cf, .slice at' S.trace.length ct] #[.int .i64 2, str addr, str typ, str i, str after, .int .i64 x.kind, .bool x.flag, str x.text, .slice ai x.items.length ci, .slice ak x.keys.length ck] #[.slice none 0 0, .slice none 0 0, .slice none 0 0] 32 43
  rw [← hwA] at BX OX hbA
  have hA := h.below hbA
  have hwl := h.lt
  have gl := heap_lt BX.two
  have rA : RAt (wF p b vt ++ (w.heap.size :: (w.heap.size + 2) :: G)) wA (.agg #[.slice ao rs.length co, .slice af S.fails.length cf, .slice at' S.trace.length ct]) rs S := r.step (Spares.of_below hbA) fun q hq => by
    rcases List.mem_append.1 hq with hq | hq
    · exact .inl (List.mem_append.2 (.inl hq))
    · rcases List.mem_cons.1 hq with rfl | hq
      · exact .inr (Nat.le_refl _)
      · rcases List.mem_cons.1 hq with rfl | hq
        · exact .inr (by omega)
        · exact .inl (List.mem_append.2 (.inr hq))
  have vA : Kept (wF p b vt ++ (w.heap.size :: (w.heap.size + 2) :: G)) wA fun W => ValAt W x (.agg #[.int .i64 x.kind, .bool x.flag, str x.text, .slice ai x.items.length ci, .slice ak x.keys.length ck]) := hv.step (Spares.of_below hbA) fun q hq => by
    rcases List.mem_append.1 hq with hq | hq
    · exact .inl (List.mem_append.2 (.inl hq))
    · rcases List.mem_cons.1 hq with rfl | hq
      · exact .inr (Nat.le_refl _)
      · rcases List.mem_cons.1 hq with rfl | hq
        · exact .inr (by omega)
        · exact .inl (List.mem_append.2 (.inr hq))
  have hgF : w.heap.size ∉ wF p b vt := fun hm => by have := hwl _ hm; omega
  have hg1 : w.heap.size + 1 ∉ wF p b vt := fun hm => by have := hwl _ hm; omega
  have hg2 : w.heap.size + 2 ∉ wF p b vt := fun hm => by have := hwl _ hm; omega
  have HGL : Hid (∀ q ∈ (w.heap.size :: (w.heap.size + 2) :: G), q < wA.heap.size) := fun q hq => by
    have hs := hbA.size
    rcases List.mem_cons.1 hq with rfl | hq
    · omega
    · rcases List.mem_cons.1 hq with rfl | hq
      · omega
      · have := hG q hq
        omega
  have RL := update_w hA addr typ i x _ vA.now ft fi (by omega) (by omega)
  have hgr : Grow S (updateP S addr typ i x).1 := grow_update S addr typ i x
  have HREF := Lib.hid (fun (F : List Nat) (W : World) (r2 : RAt F W (.agg #[.slice ao rs.length co, .slice af S.fails.length cf, .slice at' S.trace.length ct]) rs S) (v2 : Kept F W fun W => ValAt W x (.agg #[.int .i64 x.kind, .bool x.flag, str x.text, .slice ai x.items.length ci, .slice ak x.keys.length ck])) (hl2 : ∀ q ∈ F, q < W.heap.size) => update_r r2 hl2 addr typ i x ai ci ak ck v2 ft fi (by omega) (by omega))
  obtain ⟨R, hR⟩ : ∃ R, updateP S addr typ i x = R := ⟨_, rfl⟩
  rw [hR] at RL hgr HREF
  obtain ⟨S', c⟩ := R
  dsimp only at RL hgr HREF
  have HGR := Lib.hid hgr
  clear hR hgr
  obtain ⟨p0, p1, p2, p3, p4, p5, p6, p7, p8, p9⟩ := op_cells OX
  have HBX := Lib.hid BX
  have HOX := Lib.hid OX
  have HRA := Lib.hid rA
  have HVA := Lib.hid vA
  have HBA := Lib.hid hbA
  have HG1 := Lib.hid (⟨hgF, hg1, hg2⟩ : _ ∧ _ ∧ _)
  have HEE := Lib.hid (hE.mono hbA)
  have HTT := Lib.hid (hT.mono hbA)
  clear BX OX rA vA hbA h r hv hA hgF hg1 hg2 hE hT hwl hG
  go_enter Tryz.func9, Tryz.ntmps9
  go_upto_region 1 with fail
  rw [← hwA]
  clear hwA
  go_wp2_with fail
  refine RL.mono ?_
  rintro e w2 ⟨rfl, n', hn', hs⟩
  obtain ⟨val', vt', D', hW2, hsp, hF2⟩ := hs
  have BX2 := HBX.out.spared hsp HG1.out.1 HG1.out.2.2
  have OX2 := (hsp.block _ (heap_lt HOX.out) HG1.out.2.1).trans HOX.out
  have hmv : ∀ q ∈ wF p b vt' ++ (w.heap.size :: (w.heap.size + 2) :: G), q ∈ wF p b vt ++ (w.heap.size :: (w.heap.size + 2) :: G) ∨ wA.heap.size ≤ q := fun q hq => by
    rcases List.mem_append.1 hq with hq | hq
    · exact (hF2 q hq).imp (fun e => List.mem_append.2 (.inl e)) id
    · exact .inl (List.mem_append.2 (.inr hq))
  have hsp' : Spares (wF p b vt ++ (w.heap.size :: (w.heap.size + 2) :: G)) wA w2 := hsp.sub fun k hk _ => List.mem_append.2 (.inl hk)
  have r2 := HRA.out.step hsp' hmv
  have v2 := HVA.out.step hsp' hmv
  have hl2 : ∀ q ∈ wF p b vt' ++ (w.heap.size :: (w.heap.size + 2) :: G), q < w2.heap.size := fun q hq => by
    rcases List.mem_append.1 hq with hq | hq
    · exact hW2.lt q hq
    · exact Nat.lt_of_lt_of_le (HGL.out q hq) hsp.size
  have HPL := Lib.hid (fun (w3 : World) (m' : Value) (rs' : List R3) (X Y : Array Value) (wR : World) (hb3 : Below w2.heap.size w2 w3) (r3 : RAt (wF p b vt' ++ (w.heap.size :: (w.heap.size + 2) :: G)) w3 m' rs' S') (bx : Box2 w.heap.size (w.heap.size + 2) X Y 32 w3) (hsR : Spares [w.heap.size, w.heap.size + 2] w3 wR) =>
    Played.of (w := w) (S := S) (n := n) (n' := n') (vf := vf) (vt := vt) HBA.out ⟨Nat.le_refl _, by omega⟩ hsp hF2 hW2 (by omega) HGR.out hb3 r3 bx hsR)
  have RF := HREF.out _ w2 r2 v2 hl2
  obtain ⟨p0, p1, p2, p3, p4, p5, p6, p7, p8, p9⟩ := op_cells OX2
  obtain ⟨x0, x1, x2, _⟩ := BX2.cells
  have HX2 := Lib.hid BX2
  clear RL BX2 OX2 hmv hsp' r2 v2 hl2 hW2 hsp hF2 HREF
  go_wp2_with fail
  refine RF.mono ?_
  rintro e w3 ⟨m', rs', rfl, r3, hb3⟩
  clear p0 p1 p2 p3 p4 p5 p6 p7 p8 p9 x0 x1 x2 RF
  obtain ⟨a1, k1, a2, k2, a3, k3, rfl, _⟩ := r3.form
  have BX3 := HX2.out.below hb3
  obtain ⟨x0, x1, x2, x3, z0, z1, z2, z3, z4, z5⟩ := BX3.cells
  have x4 := Lib.frozen_of_heap BX3.one 1
  have x5 := Lib.frozen_of_heap BX3.one 2
  obtain ⟨w4, hw4, m4, s4, _⟩ := put_box3 BX3.one (.slice a1 rs'.length k1) (.slice a2 S'.fails.length k2) (.slice a3 S'.trace.length k3)
  have hs4 := put3_spares w3 w.heap.size (.slice a1 rs'.length k1) (.slice a2 S'.fails.length k2) (.slice a3 S'.trace.length k3)
  rw [← hw4] at hs4
  have n4 : w4.heap[w.heap.size + 2]? = some (.cells #[.slice none 0 0, .slice none 0 0, .slice none 0 0] 32 (0, 0)) := (s4 _ (by omega)).trans BX3.two
  have BX4 : Box2 w.heap.size (w.heap.size + 2) #[.slice a1 rs'.length k1, .slice a2 S'.fails.length k2, .slice a3 S'.trace.length k3] #[.slice none 0 0, .slice none 0 0, .slice none 0 0] 32 w4 := ⟨m4, n4⟩
  obtain ⟨y0, y1, y2, y3, u0, u1, u2, u3, u4, u5⟩ := BX4.cells
  obtain ⟨wR, hwR, xR, _, _⟩ := put_box3 BX4.two (.slice a1 rs'.length k1) (.slice a2 S'.fails.length k2) (.slice a3 S'.trace.length k3)
  have hsR := put3_spares w4 (w.heap.size + 2) (.slice a1 rs'.length k1) (.slice a2 S'.fails.length k2) (.slice a3 S'.trace.length k3)
  rw [← hwR] at hsR
  have hsum : Spares [w.heap.size, w.heap.size + 2] w3 wR := (hs4.sub fun k hk _ => by simp at hk; simp [hk]).trans (hsR.sub fun k hk _ => by simp at hk; simp [hk])
  have HP := Lib.hid (HPL.out w3 _ _ _ _ wR hb3 r3 BX3 hsum)
  have HXR := Lib.hid xR
  clear BX3 BX4 hs4 hsR hsum m4 n4 s4 xR hb3 r3
  go_upto_region 26 with fail
  rw [← hw4]
  clear hw4 x0 x1 x2 x3 x4 x5 z0 z1 z2 z3 z4 z5
  go_wp2
  rw [← hwR]
  (try simp only [Exit.inBlock, Exit.then]); refine bodyPost_ret (results_ct rfl _ _ (w.heap.size + 2) _ _ _ _ rfl HXR.out Tryz.underlying32 rfl (by kernel_rfl)) rfl ?_
  exact HP.out

end Go.Proofs.YtpbipngnoklmcaaGreatDoor
