/- The law's play: reading. -/
import Derived.Test.YtpbipngnoklmcaaGreatDoorMWldPl
import Derived.Test.YtpbipngnoklmcaaGreatDoorValE
import Derived.Deep.RegionHeld3
namespace Go.Proofs.YtpbipngnoklmcaaGreatDoor
open Go.RowKit
set_option maxRecDepth 100000
attribute [local go_sem] str_size str_toList str_get undef

variable {p b n : Nat} {S : WS} {val : S8 → S8 → Value} {vf vt : Value} {D : DataW Value}

theorem put3_cell (w : World) (h : Nat) (x0 x1 x2 : Value) (q o : Nat) (hq : q ≠ h) : (((w.setCell ⟨h, 0, none⟩ x0).setCell ⟨h, 1, none⟩ x1).setCell ⟨h, 2, none⟩ x2).cell? ⟨q, o, none⟩ = w.cell? ⟨q, o, none⟩ := by
  rw [World.cell?_setCell_far _ _ _ _ (Ne.symm hq), World.cell?_setCell_far _ _ _ _ (Ne.symm hq), World.cell?_setCell_far _ _ _ _ (Ne.symm hq)]
theorem read_none {l : List O3} {t i : S8} (h : hasO l t i = false) : readV l t i = VT.none := by
  unfold readV
  have := hasO_at l t i
  rw [h] at this
  cases ha : atO l t i with
  | none => rfl
  | some v => rw [ha] at this; cases this
theorem read_at {l : List O3} {t i : S8} {x : VT} (hr : risO l) (h : (t, i, x) ∈ l) : readV l t i = x := by
  unfold readV
  rw [(atO_iff hr).2 h]
  rfl

set_option maxHeartbeats 16000000 in
theorem play_read {G : List Nat} {w : World} {m : Value} {rs : List R3} (h : WAt w p b n S val vf vt D) (r : RAt (wF p b vt ++ G) w m rs S) (_hG : ∀ q ∈ G, q < w.heap.size) (kd : Int) (k1 : kd ≠ 1) (k2 : kd ≠ 2) (k3 : kd ≠ 3) (k4 : kd ≠ 4) (k5 : kd ≠ 5) (addr typ i after : S8) (x : VT) (ai : Option Addr) (ci : Nat) (ak : Option Addr) (ck : Nat) (ft : fitS typ) (fi : fitS i) :
    Calls Tryz.prog 9 #[.pointer (some ⟨p, 0, none⟩), m, .agg #[.int .i64 kd, str addr, str typ, str i, str after, .int .i64 x.kind, .bool x.flag, str x.text, .slice ai x.items.length ci, .slice ak x.keys.length ck]] w (Played G p b n S vf vt w) := by
  have mixed : Tryz.prog.follows .mixedOrders = true := by kernel_rfl
  obtain ⟨ao, co, af, cf, at', ct, rfl, q1, _⟩ := r.form
  obtain ⟨wA, hwA⟩ : ∃ wA, wA = ((w.alloc (.cells #[.slice ao rs.length co, .slice af S.fails.length cf, .slice at' S.trace.length ct] 32)).alloc (.cells #[.int .i64 kd, str addr, str typ, str i, str after, .int .i64 x.kind, .bool x.flag, str x.text, .slice ai x.items.length ci, .slice ak x.keys.length ck] 43)).alloc (.cells #[.slice none 0 0, .slice none 0 0, .slice none 0 0] 32) := ⟨_, rfl⟩
  obtain ⟨BX, OX, hbA⟩ := box_three w #[.slice ao rs.length co, .slice af S.fails.length cf, .slice at' S.trace.length ct] #[.int .i64 kd, str addr, str typ, str i, str after, .int .i64 x.kind, .bool x.flag, str x.text, .slice ai x.items.length ci, .slice ak x.keys.length ck] #[.slice none 0 0, .slice none 0 0, .slice none 0 0] 32 43
  rw [← hwA] at BX OX hbA
  have hA := h.below hbA
  have rA : RAt (wF p b vt ++ (w.heap.size :: (w.heap.size + 2) :: G)) wA (.agg #[.slice ao rs.length co, .slice af S.fails.length cf, .slice at' S.trace.length ct]) rs S := r.step (Spares.of_below hbA) fun q hq => by
    rcases List.mem_append.1 hq with hq | hq
    · exact .inl (List.mem_append.2 (.inl hq))
    · rcases List.mem_cons.1 hq with rfl | hq
      · exact .inr (Nat.le_refl _)
      · rcases List.mem_cons.1 hq with rfl | hq
        · exact .inr (by omega)
        · exact .inl (List.mem_append.2 (.inr hq))
  have e1 : (kd == 1) = false := by simpa using k1
  have e2 : (kd == 2) = false := by simpa using k2
  have e3 : (kd == 3) = false := by simpa using k3
  have e4 : (kd == 4) = false := by simpa using k4
  have e5 : (kd == 5) = false := by simpa using k5
  have RD := read_w hA typ i ft fi
  obtain ⟨p0, p1, p2, p3, p4, p5, p6, p7, p8, p9⟩ := op_cells OX
  have HBX := Lib.hid BX
  have HOX := Lib.hid OX
  have HRA := Lib.hid rA
  have HA := Lib.hid hA
  have HBA := Lib.hid hbA
  clear BX OX rA hbA h r hA k1 k2 k3 k4 k5 _hG q1
  go_enter Tryz.func9, Tryz.ntmps9
  go_upto_region 1 with fail
  rw [← hwA]
  clear hwA
  go_wp2_with fail
  refine RD.mono ?_
  rintro e w2 ⟨v', Fv, rfl, hov, _, _, hb2⟩
  obtain ⟨si, sc, sk, sd, rfl⟩ := hov.at.form
  have BX2 := HBX.out.below hb2
  have OX2 := (hb2.block _ (heap_lt HOX.out)).trans HOX.out
  have HPL := Lib.hid (fun (w3 : World) (m' : Value) (X Y : Array Value) (wR : World) (hb3 : Below w2.heap.size w2 w3) (r3 : RAt (wF p b vt ++ (w.heap.size :: (w.heap.size + 2) :: G)) w3 m' rs S) (bx : Box2 w.heap.size (w.heap.size + 2) X Y 32 w3) (hsR : Spares [w.heap.size + 2] w3 wR) =>
    Played.of (w := w) (S := S) (n := n) (n' := n) (vf := vf) (vt := vt) HBA.out ⟨Nat.le_refl _, by omega⟩ (Spares.of_below hb2) (fun q hq => .inl hq) (HA.out.below hb2) (Nat.le_succ _) ⟨Nat.le_succ _, Nat.le_succ _⟩ hb3 r3 bx (hsR.sub fun k hk _ => by simp at hk; simp [hk]))
  have hnb : w2.heap.size ≠ w.heap.size + 1 + 1 := by
    have h1 := hb2.size
    have h2 := heap_lt HBX.out.two
    omega
  generalize htv : readV S.objs typ i = tv at hov
  obtain ⟨w3, hw3⟩ : ∃ w3, w3 = w2.alloc (.cells #[.int .i64 tv.kind, .bool tv.flag, str tv.text, .slice si tv.items.length sc, .slice sk tv.keys.length sd] 41) := ⟨_, rfl⟩
  have nV : w3.heap[w2.heap.size]? = some (.cells #[.int .i64 tv.kind, .bool tv.flag, str tv.text, .slice si tv.items.length sc, .slice sk tv.keys.length sd] 41 (0, 0)) := by rw [hw3]; exact heap_alloc_new _ _
  have hb23 : Below w2.heap.size w2 w3 := by rw [hw3]; exact (Below.refl _ w2).alloc (Nat.le_refl _) _
  have hbA3 := hb2.trans (hb23.mono hb2.size)
  have BX3 := HBX.out.below hbA3
  have OX3 := (hbA3.block _ (heap_lt HOX.out)).trans HOX.out
  have r3 := HRA.out.below hbA3
  have AT := fun (W : World) (hW : Below w3.heap.size w3 W) => at_r rs ao co (.slice af S.fails.length cf) (.slice at' S.trace.length ct) typ i W (by
    obtain ⟨_, _, _, _, _, _, e, k1, _⟩ := (r3.below hW).form
    cases e
    exact k1.now)
  have hvA := fun (W : World) (hW : Below w3.heap.size w3 W) => hov.at.mono (hb23.trans (hW.mono hb23.size))
  have HV := Lib.hid hvA
  have HAT := Lib.hid AT
  have HR3 := Lib.hid r3
  have HX3 := Lib.hid BX3
  have HO3 := Lib.hid OX3
  have HNV := Lib.hid nV
  have HBA3 := Lib.hid hbA3
  have HB23 := Lib.hid hb23
  have HTV := Lib.hid htv
  obtain ⟨B, hB⟩ : ∃ B, hasO S.objs typ i = B := ⟨_, rfl⟩
  have HB := Lib.hid hB
  rw [hB]
  obtain ⟨p0', p1', p2', p3', _⟩ := op_cells OX2
  clear p0 p1 p2 p3 p4 p5 p6 p7 p8 p9 RD hov BX2 OX2 hb23 hbA3 BX3 r3 AT hvA nV htv hB hb2
  go_upto_region 4 with fail
  rw [← hw3]
  clear hw3 p0' p1' p2' p3'
  obtain ⟨p0, p1, p2, p3, _⟩ := op_cells OX3
  obtain ⟨x0, x1, x2, _⟩ := HX3.out.cells
  have AT3 := HAT.out w3 (Below.refl _ _)
  go_wp2_with fail
  refine AT3.mono ?_
  rintro e w4 ⟨z, rfl, hz, hb4⟩
  have hh := hz.has
  rw [HR3.out.os, HB.out] at hh
  have BX4 := HX3.out.below hb4
  have nV4 := (hb4.block _ (heap_lt HNV.out)).trans HNV.out
  clear AT3 p0 p1 p2 p3 x0 x1 x2 OX3
  obtain ⟨x0, x1, x2, x3, z0, z1, z2, z3, z4, z5⟩ := BX4.cells
  obtain ⟨d0, d1, d2, d3, d4⟩ := val_box nV4
  have HX4 := Lib.hid BX4
  have HN4 := Lib.hid nV4
  have HB4 := Lib.hid hb4
  have HZ := Lib.hid hz
  have HH := Lib.hid hh
  clear BX4 nV4 hb4 hz hh
  have HEND := fun (q5 : World) (hd : Below w4.heap.size w4 q5) => by
    have r5 := HR3.out.below (HB4.out.trans (hd.mono HB4.out.size))
    have b5 : Below w2.heap.size w2 q5 := (HB23.out).trans ((HB4.out.trans (hd.mono HB4.out.size)).mono HB23.out.size)
    exact HPL.out q5 _ _ _ (((q5.setCell ⟨w.heap.size + 1 + 1, 0, none⟩ (.slice ao rs.length co)).setCell ⟨w.heap.size + 1 + 1, 1, none⟩ (.slice af S.fails.length cf)).setCell ⟨w.heap.size + 1 + 1, 2, none⟩ (.slice at' S.trace.length ct)) b5 r5 (HX4.out.below hd) (put3_spares q5 (w.heap.size + 2) (.slice ao rs.length co) (.slice af S.fails.length cf) (.slice at' S.trace.length ct))
  have HEND := Lib.hid HEND
  by_cases hz0 : z < 0
  · have hB0 : B = false := by rw [← HH.out]; simp; omega
    subst hB0
    have hg0 : ¬ 0 ≤ z := by omega
    have hg1 : decide (0 ≤ z) = false := by simpa using hg0
    have hg2 : decide (z < 0) = true := by simpa using hz0
    have htn : tv = VT.none := by rw [← HTV.out]; exact read_none HB.out
    subst htn
    have SM := fun (W : World) (hW : Below w4.heap.size w4 W) => same_rval VT.none VT.none _ _ W (HV.out W (HB4.out.trans (hW.mono HB4.out.size))) (none_own W).at
    rw [(sameV_iff VT.none VT.none).2 rfl] at SM
    have HSM := Lib.hid SM
    have hd : Below w4.heap.size w4 w4.drew := (Below.refl _ w4).drew
    clear SM
    go_upto_region 5 with fail
    refine wp_region_held_drew (S := fun W => W.cell? ⟨w.heap.size, 0, none⟩ = some (.slice ao rs.length co) ∧ W.cell? ⟨w.heap.size, 1, none⟩ = some (.slice af S.fails.length cf) ∧ W.cell? ⟨w.heap.size, 2, none⟩ = some (.slice at' S.trace.length ct) ∧ W.cell? ⟨w2.heap.size, 0, none⟩ = some (.int .i64 VT.none.kind) ∧ W.cell? ⟨w2.heap.size, 1, none⟩ = some (.bool VT.none.flag) ∧ W.cell? ⟨w2.heap.size, 2, none⟩ = some (str VT.none.text) ∧ W.cell? ⟨w2.heap.size, 3, none⟩ = some (.slice si VT.none.items.length sc) ∧ W.cell? ⟨w2.heap.size, 4, none⟩ = some (.slice sk VT.none.keys.length sd)) (by kernel_rfl) ?_ (fun hHeld => ?_)
    · exact ⟨x0, x1, x2, d0, d1, d2, d3, d4⟩
    refine wpAnyH_take (i := 0) (oi := ⟨some 34, _, _, _, _, _⟩) (v := ?_) rfl (by kernel_rfl) (by kernel_rfl) (by kernel_rfl) (fun _ _ _ h => h) (Or.inl ⟨by rfl, ?_⟩) (by assumption) ?_
    rotate_left
    · intro W hSW; (try dsimp only at hSW); go_simp; try with_reducible rfl
    try simp only [Act.put, List.setIfInBounds_toArray, List.set_cons_zero, List.set_cons_succ]
    refine wpAnyH_take (i := 1) (oi := ⟨some 35, _, _, _, _, _⟩) (v := ?_) rfl (by kernel_rfl) (by kernel_rfl) (by kernel_rfl) (fun _ _ _ h => h) (Or.inl ⟨by rfl, ?_⟩) (by assumption) ?_
    rotate_left
    · intro W hSW; (try dsimp only at hSW); go_simp; try with_reducible rfl
    try simp only [Act.put, List.setIfInBounds_toArray, List.set_cons_zero, List.set_cons_succ]
    refine wpAnyH_take (i := 2) (oi := ⟨some 36, _, _, _, _, _⟩) (v := ?_) rfl (by kernel_rfl) (by kernel_rfl) (by kernel_rfl) (fun _ _ _ h => h) (Or.inl ⟨by rfl, ?_⟩) (by assumption) ?_
    rotate_left
    · intro W hSW; (try dsimp only at hSW); go_simp; try with_reducible rfl
    try simp only [Act.put, List.setIfInBounds_toArray, List.set_cons_zero, List.set_cons_succ]
    refine wpAnyH_take (i := 3) (oi := ⟨some 37, _, _, _, _, _⟩) (v := ?_) rfl (by kernel_rfl) (by kernel_rfl) (by kernel_rfl) (fun _ _ _ h => h) (Or.inl ⟨by rfl, ?_⟩) (by assumption) ?_
    rotate_left
    · intro W hSW; (try dsimp only at hSW); go_simp; try with_reducible rfl
    try simp only [Act.put, List.setIfInBounds_toArray, List.set_cons_zero, List.set_cons_succ]
    refine wpAnyH_take (i := 4) (oi := ⟨some 38, _, _, _, _, _⟩) (v := ?_) rfl (by kernel_rfl) (by kernel_rfl) (by kernel_rfl) (fun _ _ _ h => h) (Or.inl ⟨by rfl, ?_⟩) (by assumption) ?_
    rotate_left
    · intro W hSW; (try dsimp only at hSW); go_simp; try with_reducible rfl
    try simp only [Act.put, List.setIfInBounds_toArray, List.set_cons_zero, List.set_cons_succ]
    refine wpAnyH_take (i := 5) (oi := ⟨some 39, _, _, _, _, _⟩) (v := ?_) rfl (by kernel_rfl) (by kernel_rfl) (by kernel_rfl) (fun _ _ _ h => h) (Or.inl ⟨by rfl, ?_⟩) (by assumption) ?_
    rotate_left
    · intro W hSW; (try dsimp only at hSW); go_simp; try with_reducible rfl
    try simp only [Act.put, List.setIfInBounds_toArray, List.set_cons_zero, List.set_cons_succ]
    refine wpAnyH_take (i := 6) (oi := ⟨some 40, _, _, _, _, _⟩) (v := ?_) rfl (by kernel_rfl) (by kernel_rfl) (by kernel_rfl) (fun _ _ _ h => h) (Or.inl ⟨by rfl, ?_⟩) (by assumption) ?_
    rotate_left
    · intro W hSW; (try dsimp only at hSW); go_simp; try with_reducible rfl
    try simp only [Act.put, List.setIfInBounds_toArray, List.set_cons_zero, List.set_cons_succ]
    refine wpAnyH_take (i := 7) (oi := ⟨some 41, _, _, _, _, _⟩) (v := ?_) rfl (by kernel_rfl) (by kernel_rfl) (by kernel_rfl) (fun _ _ _ h => h) (Or.inl ⟨by rfl, ?_⟩) (by assumption) ?_
    rotate_left
    · intro W hSW; (try dsimp only at hSW); go_simp; try with_reducible rfl
    try simp only [Act.put, List.setIfInBounds_toArray, List.set_cons_zero, List.set_cons_succ]
    refine wpAnyH_take (i := 8) (oi := ⟨some 42, _, _, _, _, _⟩) (v := ?_) rfl (by kernel_rfl) (by kernel_rfl) (by kernel_rfl) (fun _ _ _ h => h) (Or.inl ⟨by rfl, ?_⟩) (by assumption) ?_
    rotate_left
    · intro W hSW; (try dsimp only at hSW); go_simp; try with_reducible rfl
    try simp only [Act.put, List.setIfInBounds_toArray, List.set_cons_zero, List.set_cons_succ]
    refine wpAnyH_take (i := 9) (oi := ⟨some 43, _, _, _, _, _⟩) (v := ?_) rfl (by kernel_rfl) (by kernel_rfl) (by kernel_rfl) (fun _ _ _ h => h) (Or.inl ⟨by rfl, ?_⟩) (by assumption) ?_
    rotate_left
    · intro W hSW; (try dsimp only at hSW); go_simp; try with_reducible rfl
    try simp only [Act.put, List.setIfInBounds_toArray, List.set_cons_zero, List.set_cons_succ]
    refine wpAnyH_take (i := 10) (oi := ⟨some 44, _, _, _, _, _⟩) (v := ?_) rfl (by kernel_rfl) (by kernel_rfl) (by kernel_rfl) (fun _ _ _ h => h) (Or.inl ⟨by rfl, ?_⟩) (by assumption) ?_
    rotate_left
    · intro W hSW; (try dsimp only at hSW); go_simp; try with_reducible rfl
    try simp only [Act.put, List.setIfInBounds_toArray, List.set_cons_zero, List.set_cons_succ]
    refine wpAnyH_ready (rs := [11]) (by kernel_rfl) (by simp) ?_
    refine AllReadyH.cons (o := ⟨some 45, _, _, _, _, _⟩) rfl (fun K hK => ?_) AllReadyH.nil
    go_simp
    go_at_call 23
    refine (HSM.out _ hd).mono ?_
    rintro e q5 ⟨rfl, hq⟩
    have hd := hd.trans (hq.mono hd.size)
    clear hq
    obtain ⟨_, _, _, _, u0, u1, u2, u3, u4, u5⟩ := (HX4.out.below hd).cells
    refine hK.out _ _ ?_ (fun hHeld => ?_)
    · obtain ⟨q0, q1, q2, _⟩ := (HX4.out.below hd).cells; obtain ⟨r0, r1, r2, r3, r4⟩ := val_box ((hd.block _ (heap_lt HN4.out)).trans HN4.out); with_reducible exact ⟨q0, q1, q2, r0, r1, r2, r3, r4⟩
    clear hK K
    try simp only [Act.put, List.setIfInBounds_toArray, List.set_cons_zero, List.set_cons_succ]
    refine wpAnyH_take (i := 12) (oi := ⟨some 46, _, _, _, _, _⟩) (v := ?_) rfl (by kernel_rfl) (by kernel_rfl) (by kernel_rfl) (fun _ _ _ h => h) (Or.inl ⟨by rfl, ?_⟩) (by assumption) ?_
    rotate_left
    · intro W hSW; (try dsimp only at hSW); go_simp; try with_reducible rfl
    try simp only [Act.put, List.setIfInBounds_toArray, List.set_cons_zero, List.set_cons_succ]
    refine wpAnyH_take (i := 13) (oi := ⟨some 47, _, _, _, _, _⟩) (v := ?_) rfl (by kernel_rfl) (by kernel_rfl) (by kernel_rfl) (fun _ _ _ h => h) (Or.inl ⟨by rfl, ?_⟩) (by assumption) ?_
    rotate_left
    · intro W hSW; (try dsimp only at hSW); go_simp; try with_reducible rfl
    try simp only [Act.put, List.setIfInBounds_toArray, List.set_cons_zero, List.set_cons_succ]
    refine wpAnyH_take (i := 14) (oi := ⟨some 48, _, _, _, _, _⟩) (v := undef) rfl (by kernel_rfl) (by kernel_rfl) (by kernel_rfl) (fun _ _ _ h => h) (Or.inr ⟨by rfl, rfl⟩) (by assumption) ?_
    try simp only [Act.put, List.setIfInBounds_toArray, List.set_cons_zero, List.set_cons_succ]
    refine wpAnyH_take (i := 15) (oi := ⟨some 49, _, _, _, _, _⟩) (v := undef) rfl (by kernel_rfl) (by kernel_rfl) (by kernel_rfl) (fun _ _ _ h => h) (Or.inr ⟨by rfl, rfl⟩) (by assumption) ?_
    try simp only [Act.put, List.setIfInBounds_toArray, List.set_cons_zero, List.set_cons_succ]
    refine wpAnyH_take (i := 16) (oi := ⟨some 50, _, _, _, _, _⟩) (v := undef) rfl (by kernel_rfl) (by kernel_rfl) (by kernel_rfl) (fun _ _ _ h => h) (Or.inr ⟨by rfl, rfl⟩) (by assumption) ?_
    try simp only [Act.put, List.setIfInBounds_toArray, List.set_cons_zero, List.set_cons_succ]
    refine wpAnyH_take (i := 17) (oi := ⟨some 51, _, _, _, _, _⟩) (v := undef) rfl (by kernel_rfl) (by kernel_rfl) (by kernel_rfl) (fun _ _ _ h => h) (Or.inr ⟨by rfl, rfl⟩) (by assumption) ?_
    try simp only [Act.put, List.setIfInBounds_toArray, List.set_cons_zero, List.set_cons_succ]
    refine wpAnyH_take (i := 18) (oi := ⟨some 52, _, _, _, _, _⟩) (v := undef) rfl (by kernel_rfl) (by kernel_rfl) (by kernel_rfl) (fun _ _ _ h => h) (Or.inr ⟨by rfl, rfl⟩) (by assumption) ?_
    try simp only [Act.put, List.setIfInBounds_toArray, List.set_cons_zero, List.set_cons_succ]
    refine wpAnyH_take (i := 19) (oi := ⟨some 53, _, _, _, _, _⟩) (v := undef) rfl (by kernel_rfl) (by kernel_rfl) (by kernel_rfl) (fun _ _ _ h => h) (Or.inr ⟨by rfl, rfl⟩) (by assumption) ?_
    try simp only [Act.put, List.setIfInBounds_toArray, List.set_cons_zero, List.set_cons_succ]
    refine wpAnyH_take (i := 20) (oi := ⟨some 54, _, _, _, _, _⟩) (v := undef) rfl (by kernel_rfl) (by kernel_rfl) (by kernel_rfl) (fun _ _ _ h => h) (Or.inr ⟨by rfl, rfl⟩) (by assumption) ?_
    try simp only [Act.put, List.setIfInBounds_toArray, List.set_cons_zero, List.set_cons_succ]
    refine wpAnyH_take (i := 21) (oi := ⟨some 55, _, _, _, _, _⟩) (v := undef) rfl (by kernel_rfl) (by kernel_rfl) (by kernel_rfl) (fun _ _ _ h => h) (Or.inr ⟨by rfl, rfl⟩) (by assumption) ?_
    try simp only [Act.put, List.setIfInBounds_toArray, List.set_cons_zero, List.set_cons_succ]
    refine wpAnyH_take (i := 22) (oi := ⟨some 56, _, _, _, _, _⟩) (v := undef) rfl (by kernel_rfl) (by kernel_rfl) (by kernel_rfl) (fun _ _ _ h => h) (Or.inr ⟨by rfl, rfl⟩) (by assumption) ?_
    try simp only [Act.put, List.setIfInBounds_toArray, List.set_cons_zero, List.set_cons_succ]
    refine wpAnyH_take (i := 23) (oi := ⟨some 57, _, _, _, _, _⟩) (v := undef) rfl (by kernel_rfl) (by kernel_rfl) (by kernel_rfl) (fun _ _ _ h => h) (Or.inr ⟨by rfl, rfl⟩) (by assumption) ?_
    try simp only [Act.put, List.setIfInBounds_toArray, List.set_cons_zero, List.set_cons_succ]
    refine wpAnyH_take (i := 24) (oi := ⟨some 58, _, _, _, _, _⟩) (v := undef) rfl (by kernel_rfl) (by kernel_rfl) (by kernel_rfl) (fun _ _ _ h => h) (Or.inr ⟨by rfl, rfl⟩) (by assumption) ?_
    try simp only [Act.put, List.setIfInBounds_toArray, List.set_cons_zero, List.set_cons_succ]
    refine wpAnyH_take (i := 25) (oi := ⟨some 59, _, _, _, _, _⟩) (v := undef) rfl (by kernel_rfl) (by kernel_rfl) (by kernel_rfl) (fun _ _ _ h => h) (Or.inr ⟨by rfl, rfl⟩) (by assumption) ?_
    try simp only [Act.put, List.setIfInBounds_toArray, List.set_cons_zero, List.set_cons_succ]
    refine wpAnyH_take (i := 26) (oi := ⟨some 60, _, _, _, _, _⟩) (v := ?_) rfl (by kernel_rfl) (by kernel_rfl) (by kernel_rfl) (fun _ _ _ h => h) (Or.inl ⟨by rfl, ?_⟩) (by assumption) ?_
    rotate_left
    · intro W hSW; (try dsimp only at hSW); go_simp; try with_reducible rfl
    try simp only [Act.put, List.setIfInBounds_toArray, List.set_cons_zero, List.set_cons_succ]
    refine wpAnyH_take (i := 27) (oi := ⟨some 61, _, _, _, _, _⟩) (v := ?_) rfl (by kernel_rfl) (by kernel_rfl) (by kernel_rfl) (fun _ _ _ h => h) (Or.inl ⟨by rfl, ?_⟩) (by assumption) ?_
    rotate_left
    · intro W hSW; (try dsimp only at hSW); go_simp; try with_reducible rfl
    try simp only [Act.put, List.setIfInBounds_toArray, List.set_cons_zero, List.set_cons_succ]
    refine wpAnyH_ready (rs := [28]) (by kernel_rfl) (by simp) ?_
    refine AllReadyH.cons (o := ⟨none, _, _, _, _, _⟩) rfl (fun K hK => ?_) AllReadyH.nil
    go_simp
    refine hK.out _ _ ?_ (fun hHeld => ?_)
    · obtain ⟨q0, q1, q2, _⟩ := (HX4.out.below hd).cells; obtain ⟨r0, r1, r2, r3, r4⟩ := val_box ((hd.block _ (heap_lt HN4.out)).trans HN4.out); with_reducible exact ⟨(put3_cell _ _ _ _ _ _ _ (by omega)).trans q0, (put3_cell _ _ _ _ _ _ _ (by omega)).trans q1, (put3_cell _ _ _ _ _ _ _ (by omega)).trans q2, (put3_cell _ _ _ _ _ _ _ hnb).trans r0, (put3_cell _ _ _ _ _ _ _ hnb).trans r1, (put3_cell _ _ _ _ _ _ _ hnb).trans r2, (put3_cell _ _ _ _ _ _ _ hnb).trans r3, (put3_cell _ _ _ _ _ _ _ hnb).trans r4⟩
    clear hK K
    try simp only [Act.put, List.setIfInBounds_toArray, List.set_cons_zero, List.set_cons_succ]
    refine wpAnyH_take (i := 29) (oi := ⟨some 7, _, _, _, _, _⟩) (v := ?_) rfl (by kernel_rfl) (by kernel_rfl) (by kernel_rfl) (fun _ _ _ h => h) (Or.inl ⟨by rfl, ?_⟩) (by assumption) ?_
    rotate_left
    · intro W hSW; (try dsimp only at hSW); go_simp; try with_reducible rfl
    try simp only [Act.put, List.setIfInBounds_toArray, List.set_cons_zero, List.set_cons_succ]
    refine wpAnyH_done (by kernel_rfl) ?_ _
    obtain ⟨wR, hwR, xR, _, _⟩ := put_box3 (q := w.heap.size + 1 + 1) (HX4.out.below hd).two (.slice ao rs.length co) (.slice af S.fails.length cf) (.slice at' S.trace.length ct)
    have HP := HEND.out q5 hd
    rw [← hwR] at HP ⊢
    have HP := Lib.hid HP
    have HXR := Lib.hid xR
    clear hwR xR hHeld
    go_wp2
    (try simp only [Exit.inBlock, Exit.then]); refine bodyPost_ret (results_ct rfl _ _ (w.heap.size + 1 + 1) _ _ _ _ rfl HXR.out Tryz.underlying32 rfl (by kernel_rfl)) rfl ?_
    exact HP.out
  · rcases HZ.out with ⟨e, _⟩ | ⟨k, r, e, hr, h1, h2⟩
    · exact absurd (by rw [e]; decide) hz0
    subst e
    have hB0 : B = true := by rw [← HH.out]; simp
    subst hB0
    have hkl := (List.getElem?_eq_some_iff.1 hr).1
    have hrm : r ∈ rs := List.mem_of_getElem? hr
    have htn : tv = r.1.2.2 := by
      rw [← HTV.out]
      refine read_at HR3.out.ris ?_
      rw [← HR3.out.os, ← h1, ← h2]
      exact List.mem_map.2 ⟨r, hrm, rfl⟩
    subst htn
    have r4 := HR3.out.below HB4.out
    obtain ⟨b1, off, rfl, _⟩ : ∃ b1 off, ao = some ⟨b1, off, none⟩ ∧ True := by
      obtain ⟨_, _, _, _, _, _, e, k1, _⟩ := r4.form
      cases e
      obtain ⟨b1, off, e, _⟩ := CellsAt.obj k1.now hr
      exact ⟨b1, off, e, trivial⟩
    have HG := Lib.hid (fun (W : World) (hR : RAt (wF p b vt ++ (w.heap.size :: (w.heap.size + 2) :: G)) W (.agg #[.slice (some ⟨b1, off, none⟩) rs.length co, .slice af S.fails.length cf, .slice at' S.trace.length ct]) rs S) => show W.cell? ⟨b1, off + k * 7 + 2, none⟩ = some (.int .i64 r.1.2.2.kind) ∧ W.cell? ⟨b1, off + k * 7 + 2 + 1, none⟩ = some (.bool r.1.2.2.flag) ∧ W.cell? ⟨b1, off + k * 7 + 2 + 2, none⟩ = some (str r.1.2.2.text) ∧ W.cell? ⟨b1, off + k * 7 + 2 + 3, none⟩ = some (.slice r.2.1 r.1.2.2.items.length r.2.2.1) ∧ W.cell? ⟨b1, off + k * 7 + 2 + 4, none⟩ = some (.slice r.2.2.2.1 r.1.2.2.keys.length r.2.2.2.2) from by
      obtain ⟨_, _, _, _, _, _, e, k1, _⟩ := hR.form
      cases e
      obtain ⟨_, _, e, _, _, _, g2, g3, g4, g5, g6⟩ := CellsAt.obj k1.now hr
      cases e
      exact ⟨g2, g3, g4, g5, g6⟩)
    have HRW := Lib.hid (fun (W : World) (hW : Below w4.heap.size w4 W) => r4.below hW)
    have HRP := Lib.hid (fun (W : World) (hW : Below w4.heap.size w4 W) => (r4.below hW).step (put3_spares W (w.heap.size + 2) (.slice (some ⟨b1, off, none⟩) rs.length co) (.slice af S.fails.length cf) (.slice at' S.trace.length ct) |>.sub fun q hq _ => (by
      have : q = w.heap.size + 2 := by simpa using hq
      subst this
      exact List.mem_append.2 (.inr (by simp)))) fun q hq => .inl hq)
    obtain ⟨g2, g3, g4, g5, g6⟩ := HG.out w4 r4
    have SM := fun (W : World) (hW : Below w4.heap.size w4 W) => same_rval r.1.2.2 r.1.2.2 _ _ W (HV.out W (HB4.out.trans (hW.mono HB4.out.size))) ((r4.below hW).vals r hrm).now
    rw [(sameV_iff r.1.2.2 r.1.2.2).2 rfl] at SM
    have HSM := Lib.hid SM
    have hk0 : (0 : Int) ≤ (k : Int) := by omega
    have hk1 : (k : Int) < (rs.length : Int) := by omega
    have hg1 : decide (0 ≤ (k : Int)) = true := by simp
    have hg2 : decide ((k : Int) < 0) = false := by simp
    have hd : Below w4.heap.size w4 w4.drew := (Below.refl _ w4).drew
    clear SM r4 hr h1 h2
    go_upto_region 5 with fail
    refine wp_region_held_drew (S := fun W => W.cell? ⟨w.heap.size, 0, none⟩ = some (.slice (some ⟨b1, off, none⟩) rs.length co) ∧ W.cell? ⟨w.heap.size, 1, none⟩ = some (.slice af S.fails.length cf) ∧ W.cell? ⟨w.heap.size, 2, none⟩ = some (.slice at' S.trace.length ct) ∧ W.cell? ⟨w2.heap.size, 0, none⟩ = some (.int .i64 r.1.2.2.kind) ∧ W.cell? ⟨w2.heap.size, 1, none⟩ = some (.bool r.1.2.2.flag) ∧ W.cell? ⟨w2.heap.size, 2, none⟩ = some (str r.1.2.2.text) ∧ W.cell? ⟨w2.heap.size, 3, none⟩ = some (.slice si r.1.2.2.items.length sc) ∧ W.cell? ⟨w2.heap.size, 4, none⟩ = some (.slice sk r.1.2.2.keys.length sd) ∧ W.cell? ⟨b1, off + k * 7 + 2, none⟩ = some (.int .i64 r.1.2.2.kind) ∧ W.cell? ⟨b1, off + k * 7 + 2 + 1, none⟩ = some (.bool r.1.2.2.flag) ∧ W.cell? ⟨b1, off + k * 7 + 2 + 2, none⟩ = some (str r.1.2.2.text) ∧ W.cell? ⟨b1, off + k * 7 + 2 + 3, none⟩ = some (.slice r.2.1 r.1.2.2.items.length r.2.2.1) ∧ W.cell? ⟨b1, off + k * 7 + 2 + 4, none⟩ = some (.slice r.2.2.2.1 r.1.2.2.keys.length r.2.2.2.2)) (by kernel_rfl) ?_ (fun hHeld => ?_)
    · exact ⟨x0, x1, x2, d0, d1, d2, d3, d4, g2, g3, g4, g5, g6⟩
    refine wpAnyH_take (i := 0) (oi := ⟨some 34, _, _, _, _, _⟩) (v := ?_) rfl (by kernel_rfl) (by kernel_rfl) (by kernel_rfl) (fun _ _ _ h => h) (Or.inl ⟨by rfl, ?_⟩) (by assumption) ?_
    rotate_left
    · intro W hSW; (try dsimp only at hSW); go_simp; try with_reducible rfl
    try simp only [Act.put, List.setIfInBounds_toArray, List.set_cons_zero, List.set_cons_succ]
    refine wpAnyH_take (i := 1) (oi := ⟨some 35, _, _, _, _, _⟩) (v := ?_) rfl (by kernel_rfl) (by kernel_rfl) (by kernel_rfl) (fun _ _ _ h => h) (Or.inl ⟨by rfl, ?_⟩) (by assumption) ?_
    rotate_left
    · intro W hSW; (try dsimp only at hSW); go_simp; try with_reducible rfl
    try simp only [Act.put, List.setIfInBounds_toArray, List.set_cons_zero, List.set_cons_succ]
    refine wpAnyH_take (i := 2) (oi := ⟨some 36, _, _, _, _, _⟩) (v := ?_) rfl (by kernel_rfl) (by kernel_rfl) (by kernel_rfl) (fun _ _ _ h => h) (Or.inl ⟨by rfl, ?_⟩) (by assumption) ?_
    rotate_left
    · intro W hSW; (try dsimp only at hSW); go_simp; try with_reducible rfl
    try simp only [Act.put, List.setIfInBounds_toArray, List.set_cons_zero, List.set_cons_succ]
    refine wpAnyH_take (i := 3) (oi := ⟨some 37, _, _, _, _, _⟩) (v := ?_) rfl (by kernel_rfl) (by kernel_rfl) (by kernel_rfl) (fun _ _ _ h => h) (Or.inl ⟨by rfl, ?_⟩) (by assumption) ?_
    rotate_left
    · intro W hSW; (try dsimp only at hSW); go_simp; try with_reducible rfl
    try simp only [Act.put, List.setIfInBounds_toArray, List.set_cons_zero, List.set_cons_succ]
    refine wpAnyH_take (i := 4) (oi := ⟨some 38, _, _, _, _, _⟩) (v := ?_) rfl (by kernel_rfl) (by kernel_rfl) (by kernel_rfl) (fun _ _ _ h => h) (Or.inl ⟨by rfl, ?_⟩) (by assumption) ?_
    rotate_left
    · intro W hSW; (try dsimp only at hSW); go_simp; try with_reducible rfl
    try simp only [Act.put, List.setIfInBounds_toArray, List.set_cons_zero, List.set_cons_succ]
    refine wpAnyH_take (i := 5) (oi := ⟨some 39, _, _, _, _, _⟩) (v := ?_) rfl (by kernel_rfl) (by kernel_rfl) (by kernel_rfl) (fun _ _ _ h => h) (Or.inl ⟨by rfl, ?_⟩) (by assumption) ?_
    rotate_left
    · intro W hSW; (try dsimp only at hSW); go_simp; try with_reducible rfl
    try simp only [Act.put, List.setIfInBounds_toArray, List.set_cons_zero, List.set_cons_succ]
    refine wpAnyH_take (i := 6) (oi := ⟨some 40, _, _, _, _, _⟩) (v := ?_) rfl (by kernel_rfl) (by kernel_rfl) (by kernel_rfl) (fun _ _ _ h => h) (Or.inl ⟨by rfl, ?_⟩) (by assumption) ?_
    rotate_left
    · intro W hSW; (try dsimp only at hSW); go_simp; try with_reducible rfl
    try simp only [Act.put, List.setIfInBounds_toArray, List.set_cons_zero, List.set_cons_succ]
    refine wpAnyH_take (i := 7) (oi := ⟨some 41, _, _, _, _, _⟩) (v := ?_) rfl (by kernel_rfl) (by kernel_rfl) (by kernel_rfl) (fun _ _ _ h => h) (Or.inl ⟨by rfl, ?_⟩) (by assumption) ?_
    rotate_left
    · intro W hSW; (try dsimp only at hSW); go_simp; try with_reducible rfl
    try simp only [Act.put, List.setIfInBounds_toArray, List.set_cons_zero, List.set_cons_succ]
    refine wpAnyH_take (i := 8) (oi := ⟨some 42, _, _, _, _, _⟩) (v := ?_) rfl (by kernel_rfl) (by kernel_rfl) (by kernel_rfl) (fun _ _ _ h => h) (Or.inl ⟨by rfl, ?_⟩) (by assumption) ?_
    rotate_left
    · intro W hSW; (try dsimp only at hSW); go_simp; try with_reducible rfl
    try simp only [Act.put, List.setIfInBounds_toArray, List.set_cons_zero, List.set_cons_succ]
    refine wpAnyH_take (i := 9) (oi := ⟨some 43, _, _, _, _, _⟩) (v := undef) rfl (by kernel_rfl) (by kernel_rfl) (by kernel_rfl) (fun _ _ _ h => h) (Or.inr ⟨by rfl, rfl⟩) (by assumption) ?_
    try simp only [Act.put, List.setIfInBounds_toArray, List.set_cons_zero, List.set_cons_succ]
    refine wpAnyH_take (i := 10) (oi := ⟨some 44, _, _, _, _, _⟩) (v := undef) rfl (by kernel_rfl) (by kernel_rfl) (by kernel_rfl) (fun _ _ _ h => h) (Or.inr ⟨by rfl, rfl⟩) (by assumption) ?_
    try simp only [Act.put, List.setIfInBounds_toArray, List.set_cons_zero, List.set_cons_succ]
    refine wpAnyH_take (i := 11) (oi := ⟨some 45, _, _, _, _, _⟩) (v := undef) rfl (by kernel_rfl) (by kernel_rfl) (by kernel_rfl) (fun _ _ _ h => h) (Or.inr ⟨by rfl, rfl⟩) (by assumption) ?_
    try simp only [Act.put, List.setIfInBounds_toArray, List.set_cons_zero, List.set_cons_succ]
    refine wpAnyH_take (i := 12) (oi := ⟨some 46, _, _, _, _, _⟩) (v := ?_) rfl (by kernel_rfl) (by kernel_rfl) (by kernel_rfl) (fun _ _ _ h => h) (Or.inl ⟨by rfl, ?_⟩) (by assumption) ?_
    rotate_left
    · intro W hSW; (try dsimp only at hSW); go_simp; try with_reducible rfl
    try simp only [Act.put, List.setIfInBounds_toArray, List.set_cons_zero, List.set_cons_succ]
    refine wpAnyH_take (i := 13) (oi := ⟨some 47, _, _, _, _, _⟩) (v := ?_) rfl (by kernel_rfl) (by kernel_rfl) (by kernel_rfl) (fun _ _ _ h => h) (Or.inl ⟨by rfl, ?_⟩) (by assumption) ?_
    rotate_left
    · intro W hSW; (try dsimp only at hSW); go_simp; try with_reducible rfl
    try simp only [Act.put, List.setIfInBounds_toArray, List.set_cons_zero, List.set_cons_succ]
    refine wpAnyH_take (i := 14) (oi := ⟨some 48, _, _, _, _, _⟩) (v := ?_) rfl (by kernel_rfl) (by kernel_rfl) (by kernel_rfl) (fun _ _ _ h => h) (Or.inl ⟨by rfl, ?_⟩) (by assumption) ?_
    rotate_left
    · intro W hSW; (try dsimp only at hSW); go_simp; try with_reducible rfl
    try simp only [Act.put, List.setIfInBounds_toArray, List.set_cons_zero, List.set_cons_succ]
    refine wpAnyH_take (i := 15) (oi := ⟨some 49, _, _, _, _, _⟩) (v := ?_) rfl (by kernel_rfl) (by kernel_rfl) (by kernel_rfl) (fun _ _ _ h => h) (Or.inl ⟨by rfl, ?_⟩) (by assumption) ?_
    rotate_left
    · intro W hSW; (try dsimp only at hSW); go_simp; try with_reducible rfl
    try simp only [Act.put, List.setIfInBounds_toArray, List.set_cons_zero, List.set_cons_succ]
    refine wpAnyH_take (i := 16) (oi := ⟨some 50, _, _, _, _, _⟩) (v := ?_) rfl (by kernel_rfl) (by kernel_rfl) (by kernel_rfl) (fun _ _ _ h => h) (Or.inl ⟨by rfl, ?_⟩) (by assumption) ?_
    rotate_left
    · intro W hSW; (try dsimp only at hSW); go_simp; try with_reducible rfl
    try simp only [Act.put, List.setIfInBounds_toArray, List.set_cons_zero, List.set_cons_succ]
    refine wpAnyH_take (i := 17) (oi := ⟨some 51, _, _, _, _, _⟩) (v := ?_) rfl (by kernel_rfl) (by kernel_rfl) (by kernel_rfl) (fun _ _ _ h => h) (Or.inl ⟨by rfl, ?_⟩) (by assumption) ?_
    rotate_left
    · intro W hSW; (try dsimp only at hSW); go_simp; try with_reducible rfl
    try simp only [Act.put, List.setIfInBounds_toArray, List.set_cons_zero, List.set_cons_succ]
    refine wpAnyH_take (i := 18) (oi := ⟨some 52, _, _, _, _, _⟩) (v := ?_) rfl (by kernel_rfl) (by kernel_rfl) (by kernel_rfl) (fun _ _ _ h => h) (Or.inl ⟨by rfl, ?_⟩) (by assumption) ?_
    rotate_left
    · intro W hSW; (try dsimp only at hSW); go_simp; try with_reducible rfl
    try simp only [Act.put, List.setIfInBounds_toArray, List.set_cons_zero, List.set_cons_succ]
    refine wpAnyH_take (i := 19) (oi := ⟨some 53, _, _, _, _, _⟩) (v := ?_) rfl (by kernel_rfl) (by kernel_rfl) (by kernel_rfl) (fun _ _ _ h => h) (Or.inl ⟨by rfl, ?_⟩) (by assumption) ?_
    rotate_left
    · intro W hSW; (try dsimp only at hSW); go_simp; try with_reducible rfl
    try simp only [Act.put, List.setIfInBounds_toArray, List.set_cons_zero, List.set_cons_succ]
    refine wpAnyH_take (i := 20) (oi := ⟨some 54, _, _, _, _, _⟩) (v := ?_) rfl (by kernel_rfl) (by kernel_rfl) (by kernel_rfl) (fun _ _ _ h => h) (Or.inl ⟨by rfl, ?_⟩) (by assumption) ?_
    rotate_left
    · intro W hSW; (try dsimp only at hSW); go_simp; try with_reducible rfl
    try simp only [Act.put, List.setIfInBounds_toArray, List.set_cons_zero, List.set_cons_succ]
    refine wpAnyH_take (i := 21) (oi := ⟨some 55, _, _, _, _, _⟩) (v := ?_) rfl (by kernel_rfl) (by kernel_rfl) (by kernel_rfl) (fun _ _ _ h => h) (Or.inl ⟨by rfl, ?_⟩) (by assumption) ?_
    rotate_left
    · intro W hSW; (try dsimp only at hSW); go_simp; try with_reducible rfl
    try simp only [Act.put, List.setIfInBounds_toArray, List.set_cons_zero, List.set_cons_succ]
    refine wpAnyH_take (i := 22) (oi := ⟨some 56, _, _, _, _, _⟩) (v := ?_) rfl (by kernel_rfl) (by kernel_rfl) (by kernel_rfl) (fun _ _ _ h => h) (Or.inl ⟨by rfl, ?_⟩) (by assumption) ?_
    rotate_left
    · intro W hSW; (try dsimp only at hSW); go_simp; try with_reducible rfl
    try simp only [Act.put, List.setIfInBounds_toArray, List.set_cons_zero, List.set_cons_succ]
    refine wpAnyH_take (i := 23) (oi := ⟨some 57, _, _, _, _, _⟩) (v := ?_) rfl (by kernel_rfl) (by kernel_rfl) (by kernel_rfl) (fun _ _ _ h => h) (Or.inl ⟨by rfl, ?_⟩) (by assumption) ?_
    rotate_left
    · intro W hSW; (try dsimp only at hSW); go_simp; try with_reducible rfl
    try simp only [Act.put, List.setIfInBounds_toArray, List.set_cons_zero, List.set_cons_succ]
    refine wpAnyH_ready (rs := [24]) (by kernel_rfl) (by simp) ?_
    refine AllReadyH.cons (o := ⟨some 58, _, _, _, _, _⟩) rfl (fun K hK => ?_) AllReadyH.nil
    go_simp
    go_at_call 23
    refine (HSM.out _ hd).mono ?_
    rintro e q5 ⟨rfl, hq⟩
    have hd := hd.trans (hq.mono hd.size)
    clear hq
    obtain ⟨_, _, _, _, u0, u1, u2, u3, u4, u5⟩ := (HX4.out.below hd).cells
    refine hK.out _ _ ?_ (fun hHeld => ?_)
    · obtain ⟨q0, q1, q2, _⟩ := (HX4.out.below hd).cells; obtain ⟨r0, r1, r2, r3, r4⟩ := val_box ((hd.block _ (heap_lt HN4.out)).trans HN4.out); obtain ⟨g2, g3, g4, g5, g6⟩ := HG.out _ (HRW.out _ hd); with_reducible exact ⟨q0, q1, q2, r0, r1, r2, r3, r4, g2, g3, g4, g5, g6⟩
    clear hK K
    try simp only [Act.put, List.setIfInBounds_toArray, List.set_cons_zero, List.set_cons_succ]
    refine wpAnyH_take (i := 25) (oi := ⟨some 59, _, _, _, _, _⟩) (v := ?_) rfl (by kernel_rfl) (by kernel_rfl) (by kernel_rfl) (fun _ _ _ h => h) (Or.inl ⟨by rfl, ?_⟩) (by assumption) ?_
    rotate_left
    · intro W hSW; (try dsimp only at hSW); go_simp; try with_reducible rfl
    try simp only [Act.put, List.setIfInBounds_toArray, List.set_cons_zero, List.set_cons_succ]
    refine wpAnyH_take (i := 26) (oi := ⟨some 60, _, _, _, _, _⟩) (v := ?_) rfl (by kernel_rfl) (by kernel_rfl) (by kernel_rfl) (fun _ _ _ h => h) (Or.inl ⟨by rfl, ?_⟩) (by assumption) ?_
    rotate_left
    · intro W hSW; (try dsimp only at hSW); go_simp; try with_reducible rfl
    try simp only [Act.put, List.setIfInBounds_toArray, List.set_cons_zero, List.set_cons_succ]
    refine wpAnyH_take (i := 27) (oi := ⟨some 61, _, _, _, _, _⟩) (v := ?_) rfl (by kernel_rfl) (by kernel_rfl) (by kernel_rfl) (fun _ _ _ h => h) (Or.inl ⟨by rfl, ?_⟩) (by assumption) ?_
    rotate_left
    · intro W hSW; (try dsimp only at hSW); go_simp; try with_reducible rfl
    try simp only [Act.put, List.setIfInBounds_toArray, List.set_cons_zero, List.set_cons_succ]
    refine wpAnyH_ready (rs := [28]) (by kernel_rfl) (by simp) ?_
    refine AllReadyH.cons (o := ⟨none, _, _, _, _, _⟩) rfl (fun K hK => ?_) AllReadyH.nil
    go_simp
    refine hK.out _ _ ?_ (fun hHeld => ?_)
    · obtain ⟨q0, q1, q2, _⟩ := (HX4.out.below hd).cells; obtain ⟨r0, r1, r2, r3, r4⟩ := val_box ((hd.block _ (heap_lt HN4.out)).trans HN4.out); obtain ⟨g2, g3, g4, g5, g6⟩ := HG.out _ (HRP.out _ hd); with_reducible exact ⟨(put3_cell _ _ _ _ _ _ _ (by omega)).trans q0, (put3_cell _ _ _ _ _ _ _ (by omega)).trans q1, (put3_cell _ _ _ _ _ _ _ (by omega)).trans q2, (put3_cell _ _ _ _ _ _ _ hnb).trans r0, (put3_cell _ _ _ _ _ _ _ hnb).trans r1, (put3_cell _ _ _ _ _ _ _ hnb).trans r2, (put3_cell _ _ _ _ _ _ _ hnb).trans r3, (put3_cell _ _ _ _ _ _ _ hnb).trans r4, g2, g3, g4, g5, g6⟩
    clear hK K
    try simp only [Act.put, List.setIfInBounds_toArray, List.set_cons_zero, List.set_cons_succ]
    refine wpAnyH_take (i := 29) (oi := ⟨some 7, _, _, _, _, _⟩) (v := ?_) rfl (by kernel_rfl) (by kernel_rfl) (by kernel_rfl) (fun _ _ _ h => h) (Or.inl ⟨by rfl, ?_⟩) (by assumption) ?_
    rotate_left
    · intro W hSW; (try dsimp only at hSW); go_simp; try with_reducible rfl
    try simp only [Act.put, List.setIfInBounds_toArray, List.set_cons_zero, List.set_cons_succ]
    refine wpAnyH_done (by kernel_rfl) ?_ _
    obtain ⟨wR, hwR, xR, _, _⟩ := put_box3 (q := w.heap.size + 1 + 1) (HX4.out.below hd).two (.slice (some ⟨b1, off, none⟩) rs.length co) (.slice af S.fails.length cf) (.slice at' S.trace.length ct)
    have HP := HEND.out q5 hd
    rw [← hwR] at HP ⊢
    have HP := Lib.hid HP
    have HXR := Lib.hid xR
    clear hwR xR hHeld
    go_wp2
    (try simp only [Exit.inBlock, Exit.then]); refine bodyPost_ret (results_ct rfl _ _ (w.heap.size + 1 + 1) _ _ _ _ rfl HXR.out Tryz.underlying32 rfl (by kernel_rfl)) rfl ?_
    exact HP.out

end Go.Proofs.YtpbipngnoklmcaaGreatDoor
