/- The law's play: create. Printed by genplay.py. The law's play: set. Printed by genplay.py. -/
import Derived.Test.YtpbipngnoklmcaaGreatDoorMWldPl
namespace Go.Proofs.YtpbipngnoklmcaaGreatDoor
open Go.RowKit
set_option maxRecDepth 100000
attribute [local go_sem] str_size str_toList str_get

variable {p b n : Nat} {S : WS} {val : S8 → S8 → Value} {vf vt : Value} {D : DataW Value}

set_option maxHeartbeats 16000000 in
theorem play_create {G : List Nat} {w : World} {m : Value} {rs : List R3} (h : WAt w p b n S val vf vt D) (r : RAt (wF p b vt ++ G) w m rs S) (hG : ∀ q ∈ G, q < w.heap.size) (addr typ i after : S8) (x : VT) (ai : Option Addr) (ci : Nat) (ak : Option Addr) (ck : Nat)
    (hv : Kept (wF p b vt ++ G) w fun W => ValAt W x (.agg #[.int .i64 x.kind, .bool x.flag, str x.text, .slice ai x.items.length ci, .slice ak x.keys.length ck])) (ha : addr.length ≤ 281474976710656) (haf : after.length ≤ 281474976710656) (ft : fitS typ) (_fi : fitS i) (hl : S.trace.length ≤ 10000) (hn : n ≤ 10000) (ho : S.objs.length ≤ 10000) (hE : ErrW w) (hT : TabW w) :
    Calls Tryz.prog 9 #[.pointer (some ⟨p, 0, none⟩), m, .agg #[.int .i64 1, str addr, str typ, str i, str after, .int .i64 x.kind, .bool x.flag, str x.text, .slice ai x.items.length ci, .slice ak x.keys.length ck]] w (Played G p b n S vf vt w) := by
  have mixed : Tryz.prog.follows .mixedOrders = true := by kernel_rfl
  obtain ⟨ao, co, af, cf, at', ct, rfl, _⟩ := r.form
  obtain ⟨wA, hwA⟩ : ∃ wA, wA = ((w.alloc (.cells #[.slice ao rs.length co, .slice af S.fails.length cf, .slice at' S.trace.length ct] 32)).alloc (.cells #[.int .i64 1, str addr, str typ, str i, str after, .int .i64 x.kind, .bool x.flag, str x.text, .slice ai x.items.length ci, .slice ak x.keys.length ck] 43)).alloc (.cells #[.slice none 0 0, .slice none 0 0, .slice none 0 0] 32) := ⟨_, rfl⟩
  obtain ⟨BX, OX, hbA⟩ := box_three w #[.slice ao rs.length co, .slice af S.fails.length cf, .slice at' S.trace.length ct] #[.int .i64 1, str addr, str typ, str i, str after, .int .i64 x.kind, .bool x.flag, str x.text, .slice ai x.items.length ci, .slice ak x.keys.length ck] #[.slice none 0 0, .slice none 0 0, .slice none 0 0] 32 43
  rw [← hwA] at BX OX hbA
  have hA := h.below hbA
  have hwl := h.lt
  have gl := heap_lt BX.two
  have rA : RAt (wF p b vt ++ (w.heap.size :: (w.heap.size + 2) :: G)) wA (.agg #[.slice ao rs.length co, .slice af S.fails.length cf, .slice at' S.trace.length ct]) rs S := r.step (Spares.of_below hbA) fun q hq => by
    rcases List.mem_append.1 hq with hq | hq
    · exact .inl (List.mem_append.2 (.inl hq))
    · rcases List.mem_cons.1 hq with rfl | hq
      · exact .inr (Nat.le_refl _)
      · rcases List.mem_cons.1 hq with rfl | hq
        · exact .inr (by omega)
        · exact .inl (List.mem_append.2 (.inr hq))
  have vA : Kept (wF p b vt ++ (w.heap.size :: (w.heap.size + 2) :: G)) wA fun W => ValAt W x (.agg #[.int .i64 x.kind, .bool x.flag, str x.text, .slice ai x.items.length ci, .slice ak x.keys.length ck]) := hv.step (Spares.of_below hbA) fun q hq => by
    rcases List.mem_append.1 hq with hq | hq
    · exact .inl (List.mem_append.2 (.inl hq))
    · rcases List.mem_cons.1 hq with rfl | hq
      · exact .inr (Nat.le_refl _)
      · rcases List.mem_cons.1 hq with rfl | hq
        · exact .inr (by omega)
        · exact .inl (List.mem_append.2 (.inr hq))
  have hgF : w.heap.size ∉ wF p b vt := fun hm => by have := hwl _ hm; omega
  have hg1 : w.heap.size + 1 ∉ wF p b vt := fun hm => by have := hwl _ hm; omega
  have hg2 : w.heap.size + 2 ∉ wF p b vt := fun hm => by have := hwl _ hm; omega
  have HGL : Hid (∀ q ∈ (w.heap.size :: (w.heap.size + 2) :: G), q < wA.heap.size) := fun q hq => by
    have hs := hbA.size
    rcases List.mem_cons.1 hq with rfl | hq
    · omega
    · rcases List.mem_cons.1 hq with rfl | hq
      · omega
      · have := hG q hq
        omega
  have RL := create_w hA addr typ after x _ vA.now ha haf ft (by omega) (by omega) (by omega) (hE.mono hbA) (hT.mono hbA)
  have hgr : Grow S (createP S addr typ after x).1 := grow_create S addr typ after x
  have HREF := Lib.hid (fun (F : List Nat) (W : World) (r2 : RAt F W (.agg #[.slice ao rs.length co, .slice af S.fails.length cf, .slice at' S.trace.length ct]) rs S) (v2 : Kept F W fun W => ValAt W x (.agg #[.int .i64 x.kind, .bool x.flag, str x.text, .slice ai x.items.length ci, .slice ak x.keys.length ck])) (hl2 : ∀ q ∈ F, q < W.heap.size) => create_r r2 hl2 addr typ after x ai ci ak ck v2 ha haf ft (by omega) (by omega))
  obtain ⟨R, hR⟩ : ∃ R, createP S addr typ after x = R := ⟨_, rfl⟩
  rw [hR] at RL hgr HREF
  obtain ⟨S', idd, c⟩ := R
  dsimp only at RL hgr HREF
  have HGR := Lib.hid hgr
  clear hR hgr
  obtain ⟨p0, p1, p2, p3, p4, p5, p6, p7, p8, p9⟩ := op_cells OX
  have HBX := Lib.hid BX
  have HOX := Lib.hid OX
  have HRA := Lib.hid rA
  have HVA := Lib.hid vA
  have HBA := Lib.hid hbA
  have HG1 := Lib.hid (⟨hgF, hg1, hg2⟩ : _ ∧ _ ∧ _)
  have HEE := Lib.hid (hE.mono hbA)
  have HTT := Lib.hid (hT.mono hbA)
  clear BX OX rA vA hbA h r hv hA hgF hg1 hg2 hE hT hwl hG
  go_enter Tryz.func9, Tryz.ntmps9
  go_upto_region 1 with fail
  rw [← hwA]
  clear hwA
  go_wp2_with fail
  refine RL.mono ?_
  rintro e w2 ⟨rfl, n', hn', hs⟩
  obtain ⟨val', vt', D', hW2, hsp, hF2⟩ := hs
  have BX2 := HBX.out.spared hsp HG1.out.1 HG1.out.2.2
  have OX2 := (hsp.block _ (heap_lt HOX.out) HG1.out.2.1).trans HOX.out
  have hmv : ∀ q ∈ wF p b vt' ++ (w.heap.size :: (w.heap.size + 2) :: G), q ∈ wF p b vt ++ (w.heap.size :: (w.heap.size + 2) :: G) ∨ wA.heap.size ≤ q := fun q hq => by
    rcases List.mem_append.1 hq with hq | hq
    · exact (hF2 q hq).imp (fun e => List.mem_append.2 (.inl e)) id
    · exact .inl (List.mem_append.2 (.inr hq))
  have hsp' : Spares (wF p b vt ++ (w.heap.size :: (w.heap.size + 2) :: G)) wA w2 := hsp.sub fun k hk _ => List.mem_append.2 (.inl hk)
  have r2 := HRA.out.step hsp' hmv
  have v2 := HVA.out.step hsp' hmv
  have hl2 : ∀ q ∈ wF p b vt' ++ (w.heap.size :: (w.heap.size + 2) :: G), q < w2.heap.size := fun q hq => by
    rcases List.mem_append.1 hq with hq | hq
    · exact hW2.lt q hq
    · exact Nat.lt_of_lt_of_le (HGL.out q hq) hsp.size
  have HPL := Lib.hid (fun (w3 : World) (m' : Value) (rs' : List R3) (X Y : Array Value) (wR : World) (hb3 : Below w2.heap.size w2 w3) (r3 : RAt (wF p b vt' ++ (w.heap.size :: (w.heap.size + 2) :: G)) w3 m' rs' S') (bx : Box2 w.heap.size (w.heap.size + 2) X Y 32 w3) (hsR : Spares [w.heap.size, w.heap.size + 2] w3 wR) =>
    Played.of (w := w) (S := S) (n := n) (n' := n') (vf := vf) (vt := vt) HBA.out ⟨Nat.le_refl _, by omega⟩ hsp hF2 hW2 (by omega) HGR.out hb3 r3 bx hsR)
  have RF := HREF.out _ w2 r2 v2 hl2
  obtain ⟨p0, p1, p2, p3, p4, p5, p6, p7, p8, p9⟩ := op_cells OX2
  obtain ⟨x0, x1, x2, _⟩ := BX2.cells
  have HX2 := Lib.hid BX2
  clear RL BX2 OX2 hmv hsp' r2 v2 hl2 hW2 hsp hF2 HREF
  go_wp2_with fail
  refine RF.mono ?_
  rintro e w3 ⟨m', rs', rfl, r3, hb3⟩
  clear p0 p1 p2 p3 p4 p5 p6 p7 p8 p9 x0 x1 x2 RF
  obtain ⟨a1, k1, a2, k2, a3, k3, rfl, _⟩ := r3.form
  have BX3 := HX2.out.below hb3
  obtain ⟨x0, x1, x2, x3, z0, z1, z2, z3, z4, z5⟩ := BX3.cells
  have x4 := Lib.frozen_of_heap BX3.one 1
  have x5 := Lib.frozen_of_heap BX3.one 2
  obtain ⟨w4, hw4, m4, s4, _⟩ := put_box3 BX3.one (.slice a1 rs'.length k1) (.slice a2 S'.fails.length k2) (.slice a3 S'.trace.length k3)
  have hs4 := put3_spares w3 w.heap.size (.slice a1 rs'.length k1) (.slice a2 S'.fails.length k2) (.slice a3 S'.trace.length k3)
  rw [← hw4] at hs4
  have n4 : w4.heap[w.heap.size + 2]? = some (.cells #[.slice none 0 0, .slice none 0 0, .slice none 0 0] 32 (0, 0)) := (s4 _ (by omega)).trans BX3.two
  have BX4 : Box2 w.heap.size (w.heap.size + 2) #[.slice a1 rs'.length k1, .slice a2 S'.fails.length k2, .slice a3 S'.trace.length k3] #[.slice none 0 0, .slice none 0 0, .slice none 0 0] 32 w4 := ⟨m4, n4⟩
  obtain ⟨y0, y1, y2, y3, u0, u1, u2, u3, u4, u5⟩ := BX4.cells
  obtain ⟨wR, hwR, xR, _, _⟩ := put_box3 BX4.two (.slice a1 rs'.length k1) (.slice a2 S'.fails.length k2) (.slice a3 S'.trace.length k3)
  have hsR := put3_spares w4 (w.heap.size + 2) (.slice a1 rs'.length k1) (.slice a2 S'.fails.length k2) (.slice a3 S'.trace.length k3)
  rw [← hwR] at hsR
  have hsum : Spares [w.heap.size, w.heap.size + 2] w3 wR := (hs4.sub fun k hk _ => by simp at hk; simp [hk]).trans (hsR.sub fun k hk _ => by simp at hk; simp [hk])
  have HP := Lib.hid (HPL.out w3 _ _ _ _ wR hb3 r3 BX3 hsum)
  have HXR := Lib.hid xR
  clear BX3 BX4 hs4 hsR hsum m4 n4 s4 xR hb3 r3
  go_upto_region 10 with fail
  rw [← hw4]
  clear hw4 x0 x1 x2 x3 x4 x5 z0 z1 z2 z3 z4 z5
  go_wp2
  rw [← hwR]
  (try simp only [Exit.inBlock, Exit.then]); refine bodyPost_ret (results_ct rfl _ _ (w.heap.size + 2) _ _ _ _ rfl HXR.out Tryz.underlying32 rfl (by kernel_rfl)) rfl ?_
  exact HP.out

end Go.Proofs.YtpbipngnoklmcaaGreatDoor
namespace Go.Proofs.YtpbipngnoklmcaaGreatDoor
open Go.RowKit
set_option maxRecDepth 100000
attribute [local go_sem] str_size str_toList str_get

variable {p b n : Nat} {S : WS} {val : S8 → S8 → Value} {vf vt : Value} {D : DataW Value}

set_option maxHeartbeats 16000000 in
theorem play_set {G : List Nat} {w : World} {m : Value} {rs : List R3} (h : WAt w p b n S val vf vt D) (r : RAt (wF p b vt ++ G) w m rs S) (hG : ∀ q ∈ G, q < w.heap.size) (addr typ i after : S8) (x : VT) (ai : Option Addr) (ci : Nat) (ak : Option Addr) (ck : Nat)
    (hv : Kept (wF p b vt ++ G) w fun W => ValAt W x (.agg #[.int .i64 x.kind, .bool x.flag, str x.text, .slice ai x.items.length ci, .slice ak x.keys.length ck])) (_ha : addr.length ≤ 281474976710656) (_haf : after.length ≤ 281474976710656) (ft : fitS typ) (fi : fitS i) (_hl : S.trace.length ≤ 10000) (hn : n ≤ 10000) (ho : S.objs.length ≤ 10000) (hE : ErrW w) (hT : TabW w) :
    Calls Tryz.prog 9 #[.pointer (some ⟨p, 0, none⟩), m, .agg #[.int .i64 4, str addr, str typ, str i, str after, .int .i64 x.kind, .bool x.flag, str x.text, .slice ai x.items.length ci, .slice ak x.keys.length ck]] w (Played G p b n S vf vt w) := by
  have mixed : Tryz.prog.follows .mixedOrders = true := by kernel_rfl
  obtain ⟨ao, co, af, cf, at', ct, rfl, _⟩ := r.form
  obtain ⟨wA0, hwA0⟩ : ∃ wA, wA = ((w.alloc (.cells #[.slice ao rs.length co, .slice af S.fails.length cf, .slice at' S.trace.length ct] 32)).alloc (.cells #[.int .i64 4, str addr, str typ, str i, str after, .int .i64 x.kind, .bool x.flag, str x.text, .slice ai x.items.length ci, .slice ak x.keys.length ck] 43)).alloc (.cells #[.slice none 0 0, .slice none 0 0, .slice none 0 0] 32) := ⟨_, rfl⟩
  obtain ⟨BX0, OX0, hbA0⟩ := box_three w #[.slice ao rs.length co, .slice af S.fails.length cf, .slice at' S.trace.length ct] #[.int .i64 4, str addr, str typ, str i, str after, .int .i64 x.kind, .bool x.flag, str x.text, .slice ai x.items.length ci, .slice ak x.keys.length ck] #[.slice none 0 0, .slice none 0 0, .slice none 0 0] 32 43
  rw [← hwA0] at BX0 OX0 hbA0
  obtain ⟨wA, hwA⟩ : ∃ wA, wA = wA0.alloc (.cells #[str typ, str i, .int .i64 x.kind, .bool x.flag, str x.text, .slice ai x.items.length ci, .slice ak x.keys.length ck] 47) := ⟨_, rfl⟩
  have OB : wA.heap[wA0.heap.size]? = some (.cells #[str typ, str i, .int .i64 x.kind, .bool x.flag, str x.text, .slice ai x.items.length ci, .slice ak x.keys.length ck] 47 (0, 0)) := by rw [hwA]; exact heap_alloc_new _ _
  have hb0A : Below wA0.heap.size wA0 wA := by rw [hwA]; exact (Below.refl _ wA0).alloc (Nat.le_refl _) _
  have BX := BX0.below hb0A
  have OX := (hb0A.block _ (heap_lt OX0)).trans OX0
  have hbA := hbA0.trans (hb0A.mono hbA0.size)
  have hs0 := hbA0.size
  obtain ⟨o0, o1, o2, o3, o4, o5, o6⟩ := obj_box OB
  have HOB := Lib.hid OB
  have HOL := Lib.hid (fun (F : List Nat) (hF : ∀ q ∈ F, q < w.heap.size) => (fun hm => by have := hF _ hm; omega : wA0.heap.size ∉ F))
  have HON := Lib.hid (HOL.out _ h.lt)
  clear OB HOL hb0A
  have hA := h.below hbA
  have hwl := h.lt
  have gl := heap_lt BX.two
  have rA : RAt (wF p b vt ++ (w.heap.size :: (w.heap.size + 2) :: G)) wA (.agg #[.slice ao rs.length co, .slice af S.fails.length cf, .slice at' S.trace.length ct]) rs S := r.step (Spares.of_below hbA) fun q hq => by
    rcases List.mem_append.1 hq with hq | hq
    · exact .inl (List.mem_append.2 (.inl hq))
    · rcases List.mem_cons.1 hq with rfl | hq
      · exact .inr (Nat.le_refl _)
      · rcases List.mem_cons.1 hq with rfl | hq
        · exact .inr (by omega)
        · exact .inl (List.mem_append.2 (.inr hq))
  have vA : Kept (wF p b vt ++ (w.heap.size :: (w.heap.size + 2) :: G)) wA fun W => ValAt W x (.agg #[.int .i64 x.kind, .bool x.flag, str x.text, .slice ai x.items.length ci, .slice ak x.keys.length ck]) := hv.step (Spares.of_below hbA) fun q hq => by
    rcases List.mem_append.1 hq with hq | hq
    · exact .inl (List.mem_append.2 (.inl hq))
    · rcases List.mem_cons.1 hq with rfl | hq
      · exact .inr (Nat.le_refl _)
      · rcases List.mem_cons.1 hq with rfl | hq
        · exact .inr (by omega)
        · exact .inl (List.mem_append.2 (.inr hq))
  have hgF : w.heap.size ∉ wF p b vt := fun hm => by have := hwl _ hm; omega
  have hg1 : w.heap.size + 1 ∉ wF p b vt := fun hm => by have := hwl _ hm; omega
  have hg2 : w.heap.size + 2 ∉ wF p b vt := fun hm => by have := hwl _ hm; omega
  have HGL : Hid (∀ q ∈ (w.heap.size :: (w.heap.size + 2) :: G), q < wA.heap.size) := fun q hq => by
    have hs := hbA.size
    rcases List.mem_cons.1 hq with rfl | hq
    · omega
    · rcases List.mem_cons.1 hq with rfl | hq
      · omega
      · have := hG q hq
        omega
  have RL := set_w hA typ i x ai ci ak ck vA.now ft fi (by omega)
  have hgr : Grow S (setP S typ i x).1 := grow_set S typ i x
  have HREF := Lib.hid (fun (F : List Nat) (W : World) (r2 : RAt F W (.agg #[.slice ao rs.length co, .slice af S.fails.length cf, .slice at' S.trace.length ct]) rs S) (v2 : Kept F W fun W => ValAt W x (.agg #[.int .i64 x.kind, .bool x.flag, str x.text, .slice ai x.items.length ci, .slice ak x.keys.length ck])) (hl2 : ∀ q ∈ F, q < W.heap.size) => set_r r2 hl2 typ i x ai ci ak ck v2 ft fi (by omega))
  obtain ⟨R, hR⟩ : ∃ R, setP S typ i x = R := ⟨_, rfl⟩
  rw [hR] at RL hgr HREF
  obtain ⟨S', c⟩ := R
  dsimp only at RL hgr HREF
  have HGR := Lib.hid hgr
  clear hR hgr
  obtain ⟨p0, p1, p2, p3, p4, p5, p6, p7, p8, p9⟩ := op_cells OX0
  clear BX0 OX0 hbA0 hs0
  have HBX := Lib.hid BX
  have HOX := Lib.hid OX
  have HRA := Lib.hid rA
  have HVA := Lib.hid vA
  have HBA := Lib.hid hbA
  have HG1 := Lib.hid (⟨hgF, hg1, hg2⟩ : _ ∧ _ ∧ _)
  have HEE := Lib.hid (hE.mono hbA)
  have HTT := Lib.hid (hT.mono hbA)
  clear BX OX rA vA hbA h r hv hA hgF hg1 hg2 hE hT hwl hG
  go_enter Tryz.func9, Tryz.ntmps9
  go_upto_region 1 with fail
  rw [← hwA0]
  clear hwA0
  go_upto_region 21 with fail
  rw [← hwA]
  clear hwA p0 p1 p2 p3 p4 p5 p6 p7 p8 p9
  go_wp2_with fail
  refine RL.mono ?_
  rintro e w2 ⟨rfl, n', hn', hs⟩
  obtain ⟨val', vt', D', hW2, hsp, hF2⟩ := hs
  have BX2 := HBX.out.spared hsp HG1.out.1 HG1.out.2.2
  have OX2 := (hsp.block _ (heap_lt HOX.out) HG1.out.2.1).trans HOX.out
  have hmv : ∀ q ∈ wF p b vt' ++ (w.heap.size :: (w.heap.size + 2) :: G), q ∈ wF p b vt ++ (w.heap.size :: (w.heap.size + 2) :: G) ∨ wA.heap.size ≤ q := fun q hq => by
    rcases List.mem_append.1 hq with hq | hq
    · exact (hF2 q hq).imp (fun e => List.mem_append.2 (.inl e)) id
    · exact .inl (List.mem_append.2 (.inr hq))
  have hsp' : Spares (wF p b vt ++ (w.heap.size :: (w.heap.size + 2) :: G)) wA w2 := hsp.sub fun k hk _ => List.mem_append.2 (.inl hk)
  have r2 := HRA.out.step hsp' hmv
  have v2 := HVA.out.step hsp' hmv
  have hl2 : ∀ q ∈ wF p b vt' ++ (w.heap.size :: (w.heap.size + 2) :: G), q < w2.heap.size := fun q hq => by
    rcases List.mem_append.1 hq with hq | hq
    · exact hW2.lt q hq
    · exact Nat.lt_of_lt_of_le (HGL.out q hq) hsp.size
  have HPL := Lib.hid (fun (w3 : World) (m' : Value) (rs' : List R3) (X Y : Array Value) (wR : World) (hb3 : Below w2.heap.size w2 w3) (r3 : RAt (wF p b vt' ++ (w.heap.size :: (w.heap.size + 2) :: G)) w3 m' rs' S') (bx : Box2 w.heap.size (w.heap.size + 2) X Y 32 w3) (hsR : Spares [w.heap.size, w.heap.size + 2] w3 wR) =>
    Played.of (w := w) (S := S) (n := n) (n' := n') (vf := vf) (vt := vt) HBA.out ⟨Nat.le_refl _, by omega⟩ hsp hF2 hW2 (by omega) HGR.out hb3 r3 bx hsR)
  have RF := HREF.out _ w2 r2 v2 hl2
  have OB2 := (hsp.block _ (heap_lt HOB.out) HON.out).trans HOB.out
  clear o0 o1 o2 o3 o4 o5 o6
  obtain ⟨p0, p1, p2, p3, p4, p5, p6⟩ := obj_box OB2
  clear OB2
  obtain ⟨x0, x1, x2, _⟩ := BX2.cells
  have HX2 := Lib.hid BX2
  clear RL BX2 OX2 hmv hsp' r2 v2 hl2 hW2 hsp hF2 HREF
  go_wp2_with fail
  refine RF.mono ?_
  rintro e w3 ⟨m', rs', rfl, r3, hb3⟩
  clear p0 p1 p2 p3 p4 p5 p6 x0 x1 x2 RF
  obtain ⟨a1, k1, a2, k2, a3, k3, rfl, _⟩ := r3.form
  have BX3 := HX2.out.below hb3
  obtain ⟨x0, x1, x2, x3, z0, z1, z2, z3, z4, z5⟩ := BX3.cells
  have x4 := Lib.frozen_of_heap BX3.one 1
  have x5 := Lib.frozen_of_heap BX3.one 2
  obtain ⟨w4, hw4, m4, s4, _⟩ := put_box3 BX3.one (.slice a1 rs'.length k1) (.slice a2 S'.fails.length k2) (.slice a3 S'.trace.length k3)
  have hs4 := put3_spares w3 w.heap.size (.slice a1 rs'.length k1) (.slice a2 S'.fails.length k2) (.slice a3 S'.trace.length k3)
  rw [← hw4] at hs4
  have n4 : w4.heap[w.heap.size + 2]? = some (.cells #[.slice none 0 0, .slice none 0 0, .slice none 0 0] 32 (0, 0)) := (s4 _ (by omega)).trans BX3.two
  have BX4 : Box2 w.heap.size (w.heap.size + 2) #[.slice a1 rs'.length k1, .slice a2 S'.fails.length k2, .slice a3 S'.trace.length k3] #[.slice none 0 0, .slice none 0 0, .slice none 0 0] 32 w4 := ⟨m4, n4⟩
  obtain ⟨y0, y1, y2, y3, u0, u1, u2, u3, u4, u5⟩ := BX4.cells
  obtain ⟨wR, hwR, xR, _, _⟩ := put_box3 BX4.two (.slice a1 rs'.length k1) (.slice a2 S'.fails.length k2) (.slice a3 S'.trace.length k3)
  have hsR := put3_spares w4 (w.heap.size + 2) (.slice a1 rs'.length k1) (.slice a2 S'.fails.length k2) (.slice a3 S'.trace.length k3)
  rw [← hwR] at hsR
  have hsum : Spares [w.heap.size, w.heap.size + 2] w3 wR := (hs4.sub fun k hk _ => by simp at hk; simp [hk]).trans (hsR.sub fun k hk _ => by simp at hk; simp [hk])
  have HP := Lib.hid (HPL.out w3 _ _ _ _ wR hb3 r3 BX3 hsum)
  have HXR := Lib.hid xR
  clear BX3 BX4 hs4 hsR hsum m4 n4 s4 xR hb3 r3
  go_upto_region 26 with fail
  rw [← hw4]
  clear hw4 x0 x1 x2 x3 x4 x5 z0 z1 z2 z3 z4 z5
  go_wp2
  rw [← hwR]
  (try simp only [Exit.inBlock, Exit.then]); refine bodyPost_ret (results_ct rfl _ _ (w.heap.size + 2) _ _ _ _ rfl HXR.out Tryz.underlying32 rfl (by kernel_rfl)) rfl ?_
  exact HP.out

end Go.Proofs.YtpbipngnoklmcaaGreatDoor
