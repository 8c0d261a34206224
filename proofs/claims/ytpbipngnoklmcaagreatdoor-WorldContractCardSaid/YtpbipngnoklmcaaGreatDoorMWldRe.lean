/- The walk of Read. The walk of the laws' own awake: the document's examples. -/
import Derived.Test.YtpbipngnoklmcaaGreatDoorMWldU
import Derived.Test.YtpbipngnoklmcaaGreatDoorMWldE
import Derived.Test.YtpbipngnoklmcaaGreatDoorMWldHs
namespace Go.Proofs.YtpbipngnoklmcaaGreatDoor
open Go.RowKit
set_option maxRecDepth 100000
attribute [local go_sem] str_size str_toList str_get

variable {w : World} {p b n : Nat} {S : WS} {val : S8 → S8 → Value} {vf vt : Value} {D : DataW Value}
/-- What Read answers. -/
def readV (l : List O3) (t i : S8) : VT := (atO l t i).getD VT.none
theorem none_own (w : World) : OwnVal w VT.none zeroVal [] := by
  unfold VT.none
  rw [OwnVal]
  exact ⟨.slice none 0 0, .slice none 0 0, [], [], [], [], rfl, by simp, OwnS.nil _ _ _, OwnS.nil _ _ _, rfl, rfl, by rw [OwnVals]; exact ⟨rfl, rfl⟩⟩
/-- What a look-up holds reads as the object's attributes. -/
theorem WAt.read (h : WAt w p b n S val vf vt D) {t i : S8} {V : Value} (h1 : hasO S.objs t i = true → V = val t i) (h2 : hasO S.objs t i = false → V = zeroVal) : ValAt w (readV S.objs t i) V ∧ fitV (readV S.objs t i) = true ∧ sizeV (readV S.objs t i) ≤ 2000 := by
  unfold readV
  cases hh : hasO S.objs t i with
  | true =>
    obtain ⟨x, hx⟩ := hasO_iff.1 hh
    rw [(atO_iff h.ris).2 hx, h1 hh]
    obtain ⟨hg, F, hF⟩ := h.vals _ hx
    obtain ⟨g1, g2⟩ := goodA_facts hg
    exact ⟨hF.at, g1, g2⟩
  | false =>
    have : atO S.objs t i = none := by
      have := hasO_at S.objs t i
      rw [hh] at this
      cases ha : atO S.objs t i with
      | none => rfl
      | some v => rw [ha] at this; cases this
    rw [this, h2 hh]
    exact ⟨(none_own w).at, by decide, by decide⟩

set_option maxHeartbeats 8000000 in
theorem read_w (h : WAt w p b n S val vf vt D) (typ i : S8) (ft : fitS typ) (fi : fitS i) :
    Calls Tryz.prog 17 #[.pointer (some ⟨p, 0, none⟩), str typ, str i] w fun e w' =>
      ∃ v' F, e = .returned (.tuple #[v', .bool (hasO S.objs typ i)]) ∧ OwnVal w' (readV S.objs typ i) v' F ∧ F.Nodup ∧ (∀ q ∈ F, w.heap.size ≤ q) ∧ Below w.heap.size w w' := by
  have mixed : Tryz.prog.follows .mixedOrders = true := by kernel_rfl
  obtain ⟨V, hlk, h1, h2, vk0, vf0, vt0, va0, vn0, vc0, va1, vn1, vc1, rfl⟩ := h.look ft fi
  obtain ⟨r1, r2, r3⟩ := h.read h1 h2
  obtain ⟨B, hB⟩ : ∃ B, hasO S.objs typ i = B := ⟨_, rfl⟩
  rw [hB] at hlk ⊢
  simp only [show nameV typ i = .agg #[str typ, str i] from rfl] at hlk
  generalize readV S.objs typ i = t at r1 r2 r3 ⊢
  obtain ⟨wA, hwA⟩ : ∃ wA, wA = w.alloc (.cells #[.int .i64 0, .bool false, .string ⟨#[]⟩, .slice none 0 0, .slice none 0 0] 41) := ⟨_, rfl⟩
  have nA : wA.heap[w.heap.size]? = some (.cells #[.int .i64 0, .bool false, .string ⟨#[]⟩, .slice none 0 0, .slice none 0 0] 41 (0, 0)) := by rw [hwA]; exact heap_alloc_new _ _
  have bA : Below w.heap.size w wA := by rw [hwA]; exact (Below.refl _ w).alloc (Nat.le_refl _) _
  have hA := h.below bA
  have T1 := hlk _ hA.map
  have c6 : wA.cell? ⟨p, 0, none⟩ = some (.map (some b)) := by rw [Lib.cell_of_heap hA.box]; rfl
  obtain ⟨wB, hwB⟩ : ∃ wB, wB = wA.alloc (.cells #[.int .i64 vk0, .bool vf0, str vt0, .slice va0 vn0 vc0, .slice va1 vn1 vc1] 41) := ⟨_, rfl⟩
  have nB : wB.heap[wA.heap.size]? = some (.cells #[.int .i64 vk0, .bool vf0, str vt0, .slice va0 vn0 vc0, .slice va1 vn1 vc1] 41 (0, 0)) := by rw [hwB]; exact heap_alloc_new _ _
  have bB : Below wA.heap.size wA wB := by rw [hwB]; exact (Below.refl _ wA).alloc (Nat.le_refl _) _
  have sA : wA.heap.size = w.heap.size + 1 := by rw [hwA]; simp only [World.alloc, Array.size_push]
  have hbB := bA.trans (bB.mono bA.size)
  have nAB := (bB.block _ (heap_lt nA)).trans nA
  have CL := clone_val t _ wB (r1.mono hbB) r2 (Nat.le_trans r3 (by decide))
  obtain ⟨d0, d1, d2, d3, d4⟩ : _ ∧ _ ∧ _ ∧ _ ∧ _ := ⟨(by rw [Lib.cell_of_heap nB]; rfl : wB.cell? ⟨wA.heap.size, 0, none⟩ = some (.int .i64 vk0)), (by rw [Lib.cell_of_heap nB]; rfl : wB.cell? ⟨wA.heap.size, 1, none⟩ = some (.bool vf0)), (by rw [Lib.cell_of_heap nB]; rfl : wB.cell? ⟨wA.heap.size, 2, none⟩ = some (str vt0)), (by rw [Lib.cell_of_heap nB]; rfl : wB.cell? ⟨wA.heap.size, 3, none⟩ = some (.slice va0 vn0 vc0)), (by rw [Lib.cell_of_heap nB]; rfl : wB.cell? ⟨wA.heap.size, 4, none⟩ = some (.slice va1 vn1 vc1))⟩
  have HNA := Lib.hid nAB
  have HBB := Lib.hid hbB
  have hsz := bB.size
  clear hlk h1 h2 r1 r2 r3 hB h hA nA nB bA bB hbB nAB sA
  go_enter Tryz.func17, Tryz.ntmps17
  go_upto_region 1 with fail
  rw [← hwA]
  clear hwA
  go_upto_region 2 with fail
  rw [← hwB]
  clear hwB T1 c6
  go_wp2_with fail
  refine CL.mono ?_
  rintro e w2 ⟨v', F, rfl, hov, hnd, hge, hb2⟩
  obtain ⟨si, sc, sk, sd, rfl⟩ := hov.at.form
  have n2 := (hb2.block _ (heap_lt HNA.out)).trans HNA.out
  have hwl := HBB.out.size
  have hwlt := heap_lt HNA.out
  obtain ⟨z0, z1, z2, z3, z4⟩ : _ ∧ _ ∧ _ ∧ _ ∧ _ := ⟨(by rw [Lib.cell_of_heap n2]; rfl : w2.cell? ⟨w.heap.size, 0, none⟩ = some (.int .i64 0)), (by rw [Lib.cell_of_heap n2]; rfl : w2.cell? ⟨w.heap.size, 1, none⟩ = some (.bool false)), (by rw [Lib.cell_of_heap n2]; rfl : w2.cell? ⟨w.heap.size, 2, none⟩ = some (.string ⟨#[]⟩)), (by rw [Lib.cell_of_heap n2]; rfl : w2.cell? ⟨w.heap.size, 3, none⟩ = some (.slice none 0 0)), (by rw [Lib.cell_of_heap n2]; rfl : w2.cell? ⟨w.heap.size, 4, none⟩ = some (.slice none 0 0))⟩
  have y0 := Lib.frozen_of_heap n2 0
  have y1 := Lib.frozen_of_heap n2 1
  have y2 := Lib.frozen_of_heap n2 2
  have y3 := Lib.frozen_of_heap n2 3
  have y4 := Lib.frozen_of_heap n2 4
  obtain ⟨wR, hwR, xR, sR, kR, bR⟩ := put_box5 n2 (.int .i64 t.kind) (.bool t.flag) (str t.text) (.slice si t.items.length sc) (.slice sk t.keys.length sd)
  have hbR : Below w.heap.size w wR := bR w.heap.size w (Nat.le_refl _) (HBB.out.trans (hb2.mono HBB.out.size))
  have hoR : OwnVal wR t (.agg #[.int .i64 t.kind, .bool t.flag, str t.text, .slice si t.items.length sc, .slice sk t.keys.length sd]) F := hov.keep fun q hq => kR q (by have := hge q hq; omega)
  have HP := Lib.hid (⟨hoR, hnd, (fun q hq => by have := hge q hq; omega), hbR⟩ : OwnVal wR t (.agg #[.int .i64 t.kind, .bool t.flag, str t.text, .slice si t.items.length sc, .slice sk t.keys.length sd]) F ∧ F.Nodup ∧ (∀ q ∈ F, w.heap.size ≤ q) ∧ Below w.heap.size w wR)
  have HXR := Lib.hid xR
  clear hov hnd hge hb2 n2 xR sR kR bR hbR hoR d0 d1 d2 d3 d4 CL
  go_wp2
  rw [← hwR]
  (try simp only [Exit.inBlock, Exit.then]); refine bodyPost_ret (results_ct rfl _ _ w.heap.size _ _ _ _ rfl HXR.out Tryz.underlying41 rfl (by kernel_rfl)) rfl ?_
  exact ⟨_, F, rfl, HP.out⟩

end Go.Proofs.YtpbipngnoklmcaaGreatDoor
namespace Go.Proofs.YtpbipngnoklmcaaGreatDoor
open Go.RowKit
set_option maxRecDepth 100000
attribute [local go_sem] str_size str_toList str_get

def awS0 : WS := ⟨[], [(1, [116, 46, 98])], []⟩
def awS1 : WS := (createP awS0 [116, 46, 97] [116] [] noneV).1
def awS2 : WS := (createP awS1 [116, 46, 97] [116] [116, 46, 97, 35, 54] noneV).1
def awS3 : WS := (createP awS2 [116, 46, 98] [116] [] noneV).1
theorem aw0 : newP [] [(1, [116, 46, 98])] = (some awS0, 0) := rfl
theorem aw1 : (createP awS0 [116, 46, 97] [116] [] noneV).2 = ([116, 46, 97, 35, 49], 0) := by kernel_rfl
theorem aw2 : (createP awS1 [116, 46, 97] [116] [116, 46, 97, 35, 54] noneV).2 = ([116, 46, 97, 35, 55], 0) := by kernel_rfl
theorem aw3 : (createP awS2 [116, 46, 98] [116] [] noneV).2 = ([], 160) := by kernel_rfl
theorem aw4 : awS3.objs.length = 2 := by kernel_rfl
theorem aw5 : awS3.trace.length = 3 := by kernel_rfl
theorem aw6 : awS1.trace.length ≤ 100000 ∧ awS1.objs.length ≤ 100000 ∧ awS2.trace.length ≤ 100000 ∧ awS2.objs.length ≤ 100000 := by
  rw [show awS1.trace.length = 1 by kernel_rfl, show awS1.objs.length = 1 by kernel_rfl, show awS2.trace.length = 2 by kernel_rfl, show awS2.objs.length = 2 by kernel_rfl]
  omega
theorem fit_of {l : S8} (h : l.length ≤ 100000) : fitS l := by
  show l.length ≤ _
  omega
theorem cellsAt_one (w : World) (cs : List Value) (T : TypeId) (n : Nat) (hn : n ≤ 9223372036854775807) : CellsAt (w.alloc (.cells cs.toArray T)) (.slice (some ⟨w.heap.size, 0, none⟩) n n) n cs :=
  ⟨_, n, rfl, ⟨Nat.le_refl _, hn, fun e => by cases e⟩, fun _ => ⟨w.heap.size, 0, rfl, heap_lt (heap_alloc_new w (.cells cs.toArray T)), cells_new w cs T⟩⟩

set_option maxHeartbeats 4000000 in
theorem awake17 (w : World) (hE : ErrW w) (hT : TabW w) : Calls Tryz.prog 6 #[] w fun e w' => e = .returned (.bool true) ∧ Below w.heap.size w w' := by
  obtain ⟨w0, hw0⟩ : ∃ w0, w0 = w.alloc (.cells #[.int .i64 1, .string ⟨#[116, 46, 98]⟩] 52) := ⟨_, rfl⟩
  have hb0 : Below w.heap.size w w0 := by rw [hw0]; exact (Below.refl _ w).alloc (Nat.le_refl _) _
  have hc0 : CellsAt w0 (.slice (some ⟨w.heap.size, 0, none⟩) 1 1) 1 (failCells [(1, [116, 46, 98])]) := by rw [hw0]; exact cellsAt_one w _ _ 1 (by omega)
  have NW := new_h [] [(1, [116, 46, 98])] (.slice none 0 0) _ w0 (ObjsAt.nil w0) hc0 (by simp) (by simp) (hE.mono hb0) (hT.mono hb0)
  have HE := Lib.hid hE
  have HT := Lib.hid hT
  clear hE hT hc0
  go_enter Tryz.func6, Tryz.ntmps6
  go_wp2_with fail
  rw [← hw0]
  clear hw0
  refine NW.mono ?_
  rintro e w1 ⟨hb1, hx⟩
  rw [aw0] at hx
  obtain ⟨p, rfl, hh⟩ := hx
  have hbw1 := hb0.trans (hb1.mono hb0.size)
  obtain ⟨w2, hw2⟩ : ∃ w2, w2 = w1.alloc (.cells #[.int .i64 6, .bool false, .string ⟨#[]⟩, .slice none 0 0, .slice none 0 0] 41) := ⟨_, rfl⟩
  have hn2 : w2.heap[w1.heap.size]? = some (.cells #[.int .i64 6, .bool false, .string ⟨#[]⟩, .slice none 0 0, .slice none 0 0] 41 (0, 0)) := by rw [hw2]; exact heap_alloc_new _ _
  have hb2 : Below w1.heap.size w1 w2 := by rw [hw2]; exact (Below.refl _ w1).alloc (Nat.le_refl _) _
  have h2 := (hh.guard (Nat.le_refl _)).below hb2
  have hbw2 := hbw1.trans (hb2.mono hbw1.size)
  obtain ⟨Q, hQ⟩ : ∃ Q, w1.heap.size = Q := ⟨_, rfl⟩
  rw [hQ] at hn2 h2
  have hG : w.heap.size ≤ w0.heap.size := hb0.size
  obtain ⟨B, hB⟩ : ∃ B, w0.heap.size = B := ⟨_, rfl⟩
  rw [hB] at h2 hG
  have hL2 : ∀ q ∈ [Q], q < w2.heap.size := fun q hq => by
    have : q = Q := by simpa using hq
    rw [this]
    exact heap_lt hn2
  have C1 := create_h h2 hL2 [116, 46, 97] [116] [] noneV _ (none_at w2) (by simp) (by simp) (fit_of (by simp)) (by simp [awS0]) (by simp) (by simp [awS0]) (HE.out.mono hbw2) (HT.out.mono hbw2)
  rw [aw1] at C1
  obtain ⟨c0, c1, c2, c3, c4⟩ := val_box hn2
  have HN2 := Lib.hid hn2
  have HW2 := Lib.hid hw2
  clear NW hb0 hb1 hh hb2 hn2 h2 hw2 hbw1
  go_wp2_with fail
  rw [← HW2.out]
  clear HW2 hQ
  refine C1.mono ?_
  rintro e w3 ⟨rfl, h3, hk3⟩
  have h3 : Has B [Q] p awS1 1 w3 := h3
  have hn3 := (hk3.2 Q (by simp) (heap_lt HN2.out)).trans HN2.out
  have hbw3 := hbw2.trans (hk3.1.mono hG)
  obtain ⟨d0, d1, d2, d3, d4⟩ := val_box hn3
  have HN3 := Lib.hid hn3
  have C2 := create_h h3 (fun q hq => by have : q = Q := by simpa using hq
                                         rw [this]; exact heap_lt hn3) [116, 46, 97] [116] [116, 46, 97, 35, 54] noneV _ (none_at w3) (by simp) (by simp) (fit_of (by simp)) aw6.1 (by simp) aw6.2.1 (HE.out.mono hbw3) (HT.out.mono hbw3)
  rw [aw2] at C2
  clear C1 hn3 h3 hk3 c0 c1 c2 c3 c4
  go_wp2_with fail
  refine C2.mono ?_
  rintro e w4 ⟨rfl, h4, hk4⟩
  have h4 : Has B [Q] p awS2 2 w4 := h4
  have hn4 := (hk4.2 Q (by simp) (heap_lt HN3.out)).trans HN3.out
  have hbw4 := hbw3.trans (hk4.1.mono (Nat.le_trans hG (Nat.le_refl _)))
  obtain ⟨c0, c1, c2, c3, c4⟩ := val_box hn4
  have C3 := create_h h4 (fun q hq => by have : q = Q := by simpa using hq
                                         rw [this]; exact heap_lt hn4) [116, 46, 98] [116] [] noneV _ (none_at w4) (by simp) (by simp) (fit_of (by simp)) aw6.2.2.1 (by simp) aw6.2.2.2 (HE.out.mono hbw4) (HT.out.mono hbw4)
  rw [aw3] at C3
  clear C2 hn4 h4 hk4 d0 d1 d2 d3 d4
  go_wp2_with fail
  refine C3.mono ?_
  rintro e w5 ⟨rfl, h5, hk5⟩
  have h5 : Has B [Q] p awS3 3 w5 := h5
  have hbw5 := hbw4.trans (hk5.1.mono hG)
  have OB := objects_h h5 (by rw [aw4]; omega)
  have TR := fun W (hW : Below w5.heap.size w5 W) => trace_h (h5.below hW) (by rw [aw5]; omega)
  rw [aw5] at TR
  clear C3 h5 hk5 c0 c1 c2 c3 c4
  go_wp2_with fail
  refine OB.mono ?_
  rintro e w6 ⟨v6, rfl, ho6, hb6⟩
  obtain ⟨a6, c6, rfl, _⟩ := ho6
  rw [aw4]
  have TR6 := TR w6 hb6
  have hbw6 := hbw5.trans (hb6.mono hbw5.size)
  clear OB TR
  go_wp2_with fail
  refine TR6.mono ?_
  rintro e w7 ⟨v7, rfl, ho7, hb7⟩
  obtain ⟨a7, c7, rfl⟩ := slice_form ho7
  have hbw7 := hbw6.trans (hb7.mono hbw6.size)
  clear TR6 ho7
  go_wp2
  go_ret
  exact ⟨rfl, hbw7⟩

end Go.Proofs.YtpbipngnoklmcaaGreatDoor
