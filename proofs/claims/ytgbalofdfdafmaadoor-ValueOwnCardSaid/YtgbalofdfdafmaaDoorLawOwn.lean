/- ValueOwn: values that are handed in stay, and answers share no memory with them. Printed by genlawown.py. -/
import Derived.Test.YtgbalofdfdafmaaDoorAwk
import Derived.Test.YtgbalofdfdafmaaDoorGoodR
import Derived.Test.YtgbalofdfdafmaaDoorOwnA
import Derived.Test.YtgbalofdfdafmaaDoorOwnB
import Derived.Test.YtgbalofdfdafmaaDoorSpoil
import Derived.Test.YtgbalofdfdafmaaDoorLawKeys
namespace Go.Proofs.YtgbalofdfdafmaaDoor
open Go.RowKit
set_option maxRecDepth 100000
attribute [local go_sem] str_size str_toList str_get

/-- Six values in a row, the first i of them spoiled. -/
def SixR (wA : World) (g : Nat) (ts : List VT) (xs : List Value) (i : Nat) (wr : World) : Prop :=
  Below wA.heap.size wA wr ∧ wr.heap[g]? = some (.cells (cellsV xs).toArray 26 (0, 0)) ∧ ∃ H, OwnVals wr (ts.drop i) (xs.drop i) H ∧ H.Nodup ∧ ∀ b ∈ H, wA.heap.size ≤ b ∧ b ≠ g
theorem SixR.next {wA : World} {g : Nat} {ts : List VT} {xs : List Value} {i : Nat} {wr : World} (h : SixR wA g ts xs i wr) (hi : i < ts.length) (hl : xs.length = ts.length) (h5 : ∀ v ∈ xs, v.cells.size = 5) (hg : wA.heap.size ≤ g) :
    ∃ F, OwnVal wr ts[i] (xs[i]'(by omega)) F ∧ F.Nodup ∧ (∀ j, j < 5 → wr.cell? ⟨g, i * 5 + j, none⟩ = (xs[i]'(by omega)).cells[j]?) ∧
      ∀ wN w', Below wr.heap.size wr wN → Spares F wN w' → SixR wA g ts xs (i + 1) w' := by
  obtain ⟨h1, h2, H, h3, h4, h6⟩ := h
  rw [List.drop_eq_getElem_cons hi] at h3
  obtain ⟨y, ys, Fy, Fr, e, rfl, g3, g4⟩ := h3.head
  rw [List.drop_eq_getElem_cons (show i < xs.length by omega)] at e
  injection e with e1 e2
  subst e1
  rw [List.nodup_append] at h4
  refine ⟨Fy, g3, h4.1, fun j hj => ?_, fun wN w' hN hS => ?_⟩
  · simp only [World.cell?, h2]
    rw [← cellsV_get h5 (show i < xs.length by omega) hj]
    simp
  · have hglt : g < wr.heap.size := (Array.getElem?_eq_some_iff.1 h2).1
    have hNs := hN.size
    have hwr := h1.size
    have hk : ∀ b, b < wr.heap.size → b ∉ Fy → w'.heap[b]? = wr.heap[b]? := fun b hb hn => (hS.block b (by omega) hn).trans (hN.block b hb)
    refine ⟨Below.spared (h1.trans (hN.mono hwr)) hS (by omega) (fun k hk => (h6 k (by simp [hk])).1), (hk g hglt (fun hm => (h6 g (by simp [hm])).2 rfl)).trans h2, Fr, ?_, h4.2.1, fun b hb => h6 b (by simp [hb])⟩
    rw [e2]
    exact g4.keep fun b hb => hk b (g4.lt b hb) fun hm => h4.2.2 b hm b hb rfl

set_option maxHeartbeats 16000000 in
theorem vown_true (w : World) (hT : TabW w) (t : VT) (v : Value) (x : VT) (vx : Value) (key : List UInt8) (ht : ValAt w t v) (hx : ValAt w x vx) : Calls Tryd.prog 5 #[v, vx, str key] w fun e w' => e = .returned (.bool true) ∧ Below w.heap.size w w' := by
  obtain ⟨ti, tp, tk, tq, rfl⟩ := ht.form
  obtain ⟨xi, xp, xk, xq, rfl⟩ := hx.form
  obtain ⟨wP, hwP⟩ : ∃ wP, wP = w.alloc (.cells #[.int .i64 t.kind, .bool t.flag, str t.text, .slice ti t.items.length tp, .slice tk t.keys.length tq] 26) := ⟨_, rfl⟩
  obtain ⟨m0, m1, m2, m3, m4, hsP, hbP⟩ := box5 hwP
  obtain ⟨wQ, hwQ⟩ : ∃ wQ, wQ = wP.alloc (.cells #[.int .i64 x.kind, .bool x.flag, str x.text, .slice xi x.items.length xp, .slice xk x.keys.length xq] 26) := ⟨_, rfl⟩
  obtain ⟨n0, n1, n2, n3, n4, hsQ, hbQ⟩ := box5 hwQ
  have hb0 : Below w.heap.size w wQ := hbP.trans (hbQ.mono (by omega))
  have hs0 : wQ.heap.size = w.heap.size + 2 := by omega
  have hqq : wQ.heap[w.heap.size]? = some (.cells (Value.cells (.agg #[.int .i64 t.kind, .bool t.flag, str t.text, .slice ti t.items.length tp, .slice tk t.keys.length tq])) 26 (0, 0)) := by
    rw [hwQ, Below.heap_alloc _ _ _ (by omega), hwP]; exact heap_alloc_new _ _
  have hqr : wQ.heap[w.heap.size + 1]? = some (.cells (Value.cells (.agg #[.int .i64 x.kind, .bool x.flag, str x.text, .slice xi x.items.length xp, .slice xk x.keys.length xq])) 26 (0, 0)) := by
    rw [hwQ, ← hsP]; exact heap_alloc_new _ _
  have hS : ∀ W, Below wQ.heap.size wQ W → W.cell? ⟨w.heap.size, 0, none⟩ = some (.int .i64 t.kind) ∧ W.cell? ⟨w.heap.size, 1, none⟩ = some (.bool t.flag) ∧ W.cell? ⟨w.heap.size, 2, none⟩ = some (str t.text) ∧ W.cell? ⟨w.heap.size, 3, none⟩ = some (.slice ti t.items.length tp) ∧ W.cell? ⟨w.heap.size, 4, none⟩ = some (.slice tk t.keys.length tq) ∧ W.cell? ⟨w.heap.size + 1, 0, none⟩ = some (.int .i64 x.kind) ∧ W.cell? ⟨w.heap.size + 1, 1, none⟩ = some (.bool x.flag) ∧ W.cell? ⟨w.heap.size + 1, 2, none⟩ = some (str x.text) ∧ W.cell? ⟨w.heap.size + 1, 3, none⟩ = some (.slice xi x.items.length xp) ∧ W.cell? ⟨w.heap.size + 1, 4, none⟩ = some (.slice xk x.keys.length xq) := fun W hW => by
    have g := fun (q j : Nat) (hq : q < wQ.heap.size) => hW.cell (p := ⟨q, j, none⟩) hq
    have g1 := fun (j : Nat) => hbQ.cell (p := ⟨w.heap.size, j, none⟩) (by show w.heap.size < wP.heap.size; omega)
    rw [hsP] at n0 n1 n2 n3 n4
    exact ⟨((g _ _ (by omega)).trans (g1 0)).trans m0, ((g _ _ (by omega)).trans (g1 1)).trans m1, ((g _ _ (by omega)).trans (g1 2)).trans m2, ((g _ _ (by omega)).trans (g1 3)).trans m3, ((g _ _ (by omega)).trans (g1 4)).trans m4,
      (g _ _ (by omega)).trans n0, (g _ _ (by omega)).trans n1, (g _ _ (by omega)).trans n2, (g _ _ (by omega)).trans n3, (g _ _ (by omega)).trans n4⟩
  have HS := Lib.hid hS
  have CA := awake02 wQ (hT.mono hb0)
  have CG := fun t v W (hv : ValAt w t v) (hW : Below wQ.heap.size wQ W) => good_rval t v W (hv.mono (hb0.trans (hW.mono hb0.size)))
  have hfin : ∀ W, Below wQ.heap.size wQ W → Below w.heap.size w W := fun W hW => hb0.trans (hW.mono hb0.size)
  have HF := Lib.hid hfin
  have HA := Lib.hid ht
  have HX := Lib.hid hx
  have HQQ := Lib.hid hqq
  have HQR := Lib.hid hqr
  have HZ := Lib.hid hs0
  clear hS hT ht hx hfin m0 m1 m2 m3 m4 n0 n1 n2 n3 n4 hb0 hbP hbQ hqq hqr hs0
  go_enter Tryd.func5, Tryd.ntmps5
  go_upto_region 1 with fail
  rw [← hwP, ← hwQ]
  clear hwP hwQ hsP hsQ
  go_wp2_with fail
  refine CA.mono ?_
  rintro e w1 ⟨rfl, h1⟩
  clear CA
  obtain ⟨k0, k1, k2, k3, k4, l0, l1, l2, l3, l4⟩ := HS.out _ h1
  obtain ⟨R0, hR0⟩ : ∃ R, goodV t = R := ⟨_, rfl⟩
  have C0 := CG t _ w1 HA.out h1
  rw [hR0] at C0
  have HR0 := Lib.hid hR0
  clear hR0
  go_wp2_with fail
  refine (C0).mono ?_
  rintro e w2 ⟨rfl, hq⟩
  have h2 := h1.trans (hq.mono h1.size)
  clear hq C0
  clear k0 k1 k2 k3 k4 l0 l1 l2 l3 l4
  cases R0 with
  | false =>
    go_wp2
    go_ret
    exact ⟨rfl, HF.out _ h2⟩
  | true =>
    obtain ⟨k0, k1, k2, k3, k4, l0, l1, l2, l3, l4⟩ := HS.out _ h2
    obtain ⟨R1, hR1⟩ : ∃ R, goodV x = R := ⟨_, rfl⟩
    have C1 := CG x _ w2 HX.out h2
    rw [hR1] at C1
    have HR1 := Lib.hid hR1
    clear hR1
    go_wp2_with fail
    refine (C1).mono ?_
    rintro e w3 ⟨rfl, hq⟩
    have h3 := h2.trans (hq.mono h2.size)
    clear hq C1 CG
    clear k0 k1 k2 k3 k4 l0 l1 l2 l3 l4
    cases R1 with
    | false =>
      go_wp2
      go_ret
      exact ⟨rfl, HF.out _ h3⟩
    | true =>
      have KT := kept_of HR0.out
      have KX := kept_of HR1.out
      have hst := KT.size
      have hsx := KX.size
      have hft := KT.fit
      have hfx := KX.fit
      have HRT := Lib.hid KT.rise
      have HKT : Hid (t.kind = 6 → t.keys.length = t.items.length) := fun h => (KT.obj h).2.2
      have hz := HZ.out
      have h3s := h3.size
      go_upto_region 5 with fail
      refine region_ownA _ w3 _ w.heap.size (w.heap.size + 1) t x _ _ _ _ _ _ _ _ _ _ rfl rfl rfl ((h3.block _ (by omega)).trans HQQ.out) ((h3.block _ (by omega)).trans HQR.out) (HA.out.mono (HF.out _ h3)) (HX.out.mono (HF.out _ h3)) hft hfx (by omega) (by omega) ?_
      intro w4 s b4 b5 F G hb4 hO1 hO3 hs0 hs2 hs4 hs5 hB4 hB5
      obtain ⟨ai, ap, ak, aq, hf1⟩ := hO1.at.form
      obtain ⟨ci, cp, ck, cq, hf3⟩ := hO3.at.form
      have h4 := h3.trans (hb4.mono h3s)
      have hV4 := hO1.at
      have hX4 := hO3.at
      rw [hf1] at hV4 hB4
      rw [hf3] at hX4 hB5
      have HV4 := Lib.hid hV4
      have HX4 := Lib.hid hX4
      have HB4 := Lib.hid hB4
      have HB5 := Lib.hid hB5
      have hb4lt : b4 < w4.heap.size := (Array.getElem?_eq_some_iff.1 hB4).1
      have hb5lt : b5 < w4.heap.size := (Array.getElem?_eq_some_iff.1 hB5).1
      have h4s := h4.size
      simp only [putAll, dstOwnA, if_true, List.getD_cons_zero, List.getD_cons_succ, hs0, hs2, hs4, hs5, hf1, hf3, Act.put, List.setIfInBounds_toArray, List.set_cons_succ, List.set_cons_zero]
      clear hO1 hO3 hs0 hs2 hs4 hs5 hB4 hB5 hf1 hf3 hV4 hX4 hb4 KT KX HR0 HR1
      have D1 := fun W (hW : Below wQ.heap.size wQ W) => get_val t _ key W (HA.out.mono (HF.out W hW)) HRT.out hft (by omega)
      obtain ⟨TG, hTG⟩ : ∃ TG, (getT t key).1 = TG := ⟨_, rfl⟩
      obtain ⟨gb, hgb⟩ : ∃ gb, (getT t key).2 = gb := ⟨_, rfl⟩
      rw [hTG, hgb] at D1
      clear hTG hgb
      obtain ⟨k0, k1, k2, k3, k4, l0, l1, l2, l3, l4⟩ := HS.out _ h4
      go_wp2_with fail
      refine (D1 _ h4).mono ?_
      rintro e w5 ⟨v5, FG, rfl, g5, n5, ge5, hq⟩
      have h5 := h4.trans (hq.mono h4s)
      obtain ⟨gi, gp, gk, gq, rfl⟩ := g5.at.form
      obtain ⟨w6, hw6⟩ : ∃ w6, w6 = w5.alloc (.cells #[.int .i64 TG.kind, .bool TG.flag, str TG.text, .slice gi TG.items.length gp, .slice gk TG.keys.length gq] 26) := ⟨_, rfl⟩
      have hbg : w6.heap[w5.heap.size]? = some (.cells (Value.cells (.agg #[.int .i64 TG.kind, .bool TG.flag, str TG.text, .slice gi TG.items.length gp, .slice gk TG.keys.length gq])) 26 (0, 0)) := by rw [hw6]; exact heap_alloc_new _ _
      obtain ⟨_, _, _, _, _, hs6, hb6⟩ := box5 hw6
      have h46 : Below w4.heap.size w4 w6 := hq.trans (hb6.mono hq.size)
      have h6 := h4.trans (h46.mono h4s)
      have hG6 := Lib.hid (g5.keep (w' := w6) fun b hb => hb6.block b (g5.lt b hb))
      have hGlt := Lib.hid (g5.lt)
      have HBG := Lib.hid hbg
      have H46 := Lib.hid h46
      have hs45 := hq.size
      have HS6 : Hid (w6.heap.size = w5.heap.size + 1) := hs6
      clear k0 k1 k2 k3 k4 l0 l1 l2 l3 l4 hq g5 hbg D1 h5 hb6 hs6
      go_upto_region 7 with fail
      rw [← hw6]
      clear hw6
      obtain ⟨k0, k1, k2, k3, k4, l0, l1, l2, l3, l4⟩ := HS.out _ h6
      obtain ⟨w7, hw7⟩ : ∃ w7, w7 = w6.alloc (.cells #[.string ⟨#[112]⟩, .string ⟨#[113]⟩] 9) := ⟨_, rfl⟩
      have hr7 : w7.heap[w6.heap.size]? = some (.cells #[.string ⟨#[112]⟩, .string ⟨#[113]⟩] 9 (0, 0)) := by rw [hw7]; exact heap_alloc_new _ _
      have hb7 : Below w6.heap.size w6 w7 := by rw [hw7]; exact (Below.refl _ _).alloc (Nat.le_refl _) _
      have hs7 : w7.heap.size = w6.heap.size + 1 := by rw [hw7, alloc_size]
      have h7 := h6.trans (hb7.mono h6.size)
      obtain ⟨w8, hw8⟩ : ∃ w8, w8 = w7.alloc (.cells #[.int .i64 t.kind, .bool t.flag, str t.text, .slice ti t.items.length tp, .slice tk t.keys.length tq, .int .i64 x.kind, .bool x.flag, str x.text, .slice xi x.items.length xp, .slice xk x.keys.length xq] 26) := ⟨_, rfl⟩
      have hr8 : w8.heap[w6.heap.size + 1]? = some (.cells #[.int .i64 t.kind, .bool t.flag, str t.text, .slice ti t.items.length tp, .slice tk t.keys.length tq, .int .i64 x.kind, .bool x.flag, str x.text, .slice xi x.items.length xp, .slice xk x.keys.length xq] 26 (0, 0)) := by rw [hw8, ← hs7]; exact heap_alloc_new _ _
      have hb8 : Below w7.heap.size w7 w8 := by rw [hw8]; exact (Below.refl _ _).alloc (Nat.le_refl _) _
      have h8 := h7.trans (hb8.mono h7.size)
      have hks8 : StrsAt w8 (.slice (some ⟨w6.heap.size, 0, none⟩) 2 2) [[112], [113]] := by
        have hr7' := (hb8.block w6.heap.size (by omega)).trans hr7
        refine ⟨_, 2, rfl, ⟨by simp, by omega, fun e => by cases e⟩, fun _ => ⟨w6.heap.size, 0, rfl, (Array.getElem?_eq_some_iff.1 hr7').1, fun i hi => ?_⟩⟩
        have hi2 : i = 0 ∨ i = 1 := by simp at hi; omega
        rcases hi2 with rfl | rfl <;> simp [World.cell?, hr7', List.getD]
      obtain ⟨hrow, hvals⟩ := row_both (w := w8) hr8 (HA.out.mono (HF.out _ h8)) (HX.out.mono (HF.out _ h8))
      have CO := object_val [[112], [113]] [t, x] _ _ _ w8 hks8 hrow hvals (by simp) (by simp [sizeL]; omega) (by intro y hy; simp at hy; rcases hy with rfl | rfl <;> assumption)
      obtain ⟨RES, hRES⟩ : ∃ RES, (if ([[112], [113]] : List (List UInt8)).length = [t, x].length then objT (.mk 6 false [] [] []) [[112], [113]] [t, x] else (VT.none, 1)) = RES := ⟨_, rfl⟩
      rw [hRES] at CO
      obtain ⟨TO, cd⟩ := RES
      have H8 := Lib.hid hb8
      have H7 := Lib.hid hb7
      have HW7 := Lib.hid hw7
      have HW8 := Lib.hid hw8
      clear hRES hks8 hrow hvals hr8 hr7 hb7 hb8 hs7
      have F7 := HS.out w7 h7
      rw [hw7] at F7
      obtain ⟨j0, j1, j2, j3, j4, i0, i1, i2, i3, i4⟩ := F7
      clear hw7 hw8
      go_wp2_with fail
      have e8 : (w6.alloc (.cells #[.string ⟨#[112]⟩, .string ⟨#[113]⟩] 9)).alloc (.cells #[.int .i64 t.kind, .bool t.flag, str t.text, .slice ti t.items.length tp, .slice tk t.keys.length tq, .int .i64 x.kind, .bool x.flag, str x.text, .slice xi x.items.length xp, .slice xk x.keys.length xq] 26) = w8 := by rw [← HW7.out, ← HW8.out]
      rw [e8]
      refine CO.mono ?_
      rintro e w9 ⟨v9, FO, rfl, g9, n9, ge9, hq⟩
      clear e8 CO k0 k1 k2 k3 k4 l0 l1 l2 l3 l4 j0 j1 j2 j3 j4 i0 i1 i2 i3 i4
      have hb69 : Below w6.heap.size w6 w9 := (H7.out.trans (H8.out.mono H7.out.size)).trans (hq.mono (Nat.le_trans H7.out.size H8.out.size))
      obtain ⟨oi, op, ok, oq, rfl⟩ := g9.at.form
      obtain ⟨wA, hwA⟩ : ∃ wA, wA = w9.alloc (.cells #[.int .i64 TO.kind, .bool TO.flag, str TO.text, .slice oi TO.items.length op, .slice ok TO.keys.length oq] 26) := ⟨_, rfl⟩
      have hbo : wA.heap[w9.heap.size]? = some (.cells (Value.cells (.agg #[.int .i64 TO.kind, .bool TO.flag, str TO.text, .slice oi TO.items.length op, .slice ok TO.keys.length oq])) 26 (0, 0)) := by rw [hwA]; exact heap_alloc_new _ _
      obtain ⟨_, _, _, _, _, hsA, hbA⟩ := box5 hwA
      have hs69 := hb69.size
      have hb6A : Below w6.heap.size w6 wA := hb69.trans (hbA.mono hs69)
      have hA : Below wQ.heap.size wQ wA := h6.trans (hb6A.mono h6.size)
      have hgO := g9.keep (w' := wA) fun b hb => hbA.block b (g9.lt b hb)
      have hgOlt := g9.lt
      have hgG := hG6.out.keep (w' := wA) fun b hb => hb6A.block b (by have := hGlt.out b hb; have := HS6.out; omega)
      have hbgA := (hb6A.block w5.heap.size (by have := HS6.out; omega)).trans HBG.out
      have hqA := (hA.block w.heap.size (by omega)).trans HQQ.out
      have hrA := (hA.block (w.heap.size + 1) (by omega)).trans HQR.out
      have hge9 : ∀ b ∈ FO, w6.heap.size ≤ b := fun b hb => by have := ge9 b hb; have := Nat.le_trans H7.out.size H8.out.size; omega
      have hb4A : Below w4.heap.size w4 wA := H46.out.trans (hb6A.mono H46.out.size)
      have hs46 := H46.out.size
      have HS69 := HS6.out
      have hsA6 := hb6A.size
      have HGG := Lib.hid hgG
      have HGO := Lib.hid hgO
      have HGOL := Lib.hid hgOlt
      have HGE := Lib.hid hge9
      have HB4A := Lib.hid hb4A
      have HNA := Lib.hid (show FG.Nodup from n5)
      have HNO := Lib.hid (show FO.Nodup from n9)
      have HG5 := Lib.hid ge5
      have HAV := Lib.hid (HA.out.mono (HF.out _ hA))
      have HAX := Lib.hid (HX.out.mono (HF.out _ hA))
      have HAA := Lib.hid hA
      clear g9 ge9 hq hgG hgO hgOlt hge9 hb4A hb6A hb69 hbA n5 n9 ge5 HW7 HW8 H7 H8 h8 h7 hA
      go_upto_region 8 with fail
      rw [← hwA]
      clear hwA
      refine region_ownB _ wA _ w.heap.size (w.heap.size + 1) w5.heap.size w9.heap.size t x TG TO key _ _ _ _ _ _ _ _ _ _ _ _ _ _ _ _ rfl rfl rfl rfl rfl rfl hqA hrA hbgA hbo HAV.out HAX.out hft hfx (by omega) (by omega) HRT.out HKT.out ?_
      intro wC s b F3 F6 F8 F12 hbC o3 o6 o8 o12 hnd hge hbb hs15 hs16 hs17 hrow
      have hbCs := hbC.size
      have hG9 := HGG.out.keep (w' := wC) fun b hb => hbC.block b (HGG.out.lt b hb)
      have hO9 := HGO.out.keep (w' := wC) fun b hb => hbC.block b (HGO.out.lt b hb)
      obtain ⟨xs, hxs⟩ : ∃ xs : List Value, xs = [s 3, s 6, s 8, s 12, .agg #[.int .i64 TG.kind, .bool TG.flag, str TG.text, .slice gi TG.items.length gp, .slice gk TG.keys.length gq], .agg #[.int .i64 TO.kind, .bool TO.flag, str TO.text, .slice oi TO.items.length op, .slice ok TO.keys.length oq]] := ⟨_, rfl⟩
      rw [← hxs] at hrow
      have hB4C : Below w4.heap.size w4 wC := HB4A.out.trans (hbC.mono HB4A.out.size)
      have hall : OwnVals wC [putO t key x, dropT t key, t, .mk 5 false [] [t, x] [], TG, TO] xs (F3 ++ (F6 ++ (F8 ++ (F12 ++ (FG ++ (FO ++ [])))))) := by
        rw [hxs]
        exact OwnVals.cons o3 (OwnVals.cons o6 (OwnVals.cons o8 (OwnVals.cons o12 (OwnVals.cons hG9 (OwnVals.cons hO9 (by rw [OwnVals]; exact ⟨rfl, rfl⟩))))))
      have hgglt : ∀ c ∈ FG, w4.heap.size ≤ c ∧ c < w6.heap.size := fun c hc => by have := HG5.out c hc; have := hGlt.out c hc; omega
      have hgolt : ∀ c ∈ FO, w6.heap.size ≤ c ∧ c < wA.heap.size := fun c hc => ⟨HGE.out c hc, by have := HGOL.out c hc; omega⟩
      have hndA : (F3 ++ (F6 ++ (F8 ++ (F12 ++ (FG ++ (FO ++ [])))))).Nodup := by
        have hlow : ∀ c ∈ FG ++ FO, c < wA.heap.size := fun c hc => by
          rcases List.mem_append.1 hc with hc | hc
          · have := hgglt c hc; omega
          · exact (hgolt c hc).2
        have hgo : (FG ++ FO).Nodup := by
          rw [List.nodup_append]
          exact ⟨HNA.out, HNO.out, fun a ha b hb e => by have := hgglt a ha; have := hgolt b hb; omega⟩
        have : F3 ++ (F6 ++ (F8 ++ (F12 ++ (FG ++ (FO ++ []))))) = (F3 ++ (F6 ++ (F8 ++ F12))) ++ (FG ++ FO) := by simp
        rw [this, List.nodup_append]
        exact ⟨hnd, hgo, fun a ha b hb e => by have := (hge a ha).1; have := hlow b hb; omega⟩
      have hgeA : ∀ c ∈ F3 ++ (F6 ++ (F8 ++ (F12 ++ (FG ++ (FO ++ []))))), w4.heap.size ≤ c ∧ c ≠ b := fun c hc => by
        have hc' : c ∈ F3 ++ (F6 ++ (F8 ++ F12)) ∨ c ∈ FG ∨ c ∈ FO := by
          simp only [List.mem_append, List.append_nil] at hc ⊢
          rcases hc with hc | hc | hc | hc | hc | hc <;> simp [hc]
        rcases hc' with hc | hc | hc
        · have := hge c hc
          exact ⟨by omega, this.2⟩
        · have := hgglt c hc; exact ⟨this.1, by omega⟩
        · have := hgolt c hc; exact ⟨by omega, by omega⟩
      have h5all : ∀ v ∈ xs, v.cells.size = 5 := hall.cells
      have hxl : xs.length = 6 := by rw [hxs]; rfl
      have hS0 : SixR w4 b [putO t key x, dropT t key, t, .mk 5 false [] [t, x] [], TG, TO] xs 0 wC := ⟨hB4C, hrow, _, hall, hndA, hgeA⟩
      obtain ⟨l3, l3p, l3k, l3q, hf3⟩ := o3.at.form
      obtain ⟨l6, l6p, l6k, l6q, hf6⟩ := o6.at.form
      obtain ⟨l8, l8p, l8k, l8q, hf8⟩ := o8.at.form
      obtain ⟨l12, l12p, l12k, l12q, hf12⟩ := o12.at.form
      obtain ⟨lv, lvt⟩ : ∃ lv, lv = [putO t key x, dropT t key, t, VT.mk 5 false [] [t, x] [], TG, TO] := ⟨_, rfl⟩
      have hlv : lv.length = 6 := by rw [lvt]; rfl
      rw [← lvt] at hS0
      have HS0 := Lib.hid hS0
      have H5 := Lib.hid h5all
      have HXL := Lib.hid hxl
      have HLV := Lib.hid hlv
      have hwb : w4.heap.size ≤ b := by omega
      simp only [putAll, dstOwnB, if_true, List.getD_cons_zero, List.getD_cons_succ, hs15, hs16, hs17, Act.put, List.setIfInBounds_toArray, List.set_cons_succ, List.set_cons_zero]
      clear hs15 hs16 hs17 hall hndA hgeA hgglt hgolt hG9 hO9 hrow o3 o6 o8 o12 hge hnd hf3 hf6 hf8 hf12 hxs lvt hxl hlv h5all hS0 hB4C hbC hqA hrA hbgA hbo HGG HGO HGOL HGE HNA HNO HG5 hG6 hGlt HBG HS6 HS69 H46
      go_wp2
      go_loopg [60] 6 (fun g v60 wr => ∃ i : Nat, i + g = 6 ∧ v60 = .int .i64 i ∧ Hid (SixR w4 b lv xs i wr))
      case atStart => exact ⟨0, by omega, by go_num, HS0⟩
      case round =>
        clear HS0
        obtain ⟨i, hig, rfl, HR⟩ := hrel
        cases gk with
        | zero =>
          obtain rfl : i = 6 := by omega
          have hbl := HR.out.1
          have h4r : Below wQ.heap.size wQ wr := h4.trans (hbl.mono h4s)
          have HV := HA.out.mono (HF.out _ h4r)
          have HXV := HX.out.mono (HF.out _ h4r)
          obtain ⟨k0, k1, k2, k3, k4, l0, l1, l2, l3, l4⟩ := HS.out _ h4r
          obtain ⟨p0, p1, p2, p3, p4, _, _⟩ := cell_box5 ((hbl.block b4 hb4lt).trans HB4.out)
          obtain ⟨r0, r1, r2, r3, r4, _, _⟩ := cell_box5 ((hbl.block b5 hb5lt).trans HB5.out)
          have hsame : ∀ T : VT, sameV T T = true := fun T => (sameV_iff T T).2 rfl
          have CS1 := same_rval t t _ _ wr HV (HV4.out.mono hbl)
          have CS2 := fun W (hW : Below wr.heap.size wr W) => same_rval x x _ _ W (HXV.mono hW) ((HX4.out.mono hbl).mono hW)
          rw [hsame] at CS1
          simp only [hsame] at CS2
          clear HV HXV HR hsame
          go_wp2_with fail
          refine CS1.mono ?_
          rintro e wS ⟨rfl, hq⟩
          have h4S := h4r.trans (hq.mono h4r.size)
          have hwr4 : w4.heap.size ≤ wr.heap.size := hbl.size
          have r0 := (hq.cell (p := ⟨b5, 0, none⟩) (by show b5 < wr.heap.size; omega)).trans r0
          have r1 := (hq.cell (p := ⟨b5, 1, none⟩) (by show b5 < wr.heap.size; omega)).trans r1
          have r2 := (hq.cell (p := ⟨b5, 2, none⟩) (by show b5 < wr.heap.size; omega)).trans r2
          have r3 := (hq.cell (p := ⟨b5, 3, none⟩) (by show b5 < wr.heap.size; omega)).trans r3
          have r4 := (hq.cell (p := ⟨b5, 4, none⟩) (by show b5 < wr.heap.size; omega)).trans r4
          clear CS1 k0 k1 k2 k3 k4 l0 l1 l2 l3 l4 p0 p1 p2 p3 p4
          obtain ⟨k0, k1, k2, k3, k4, l0, l1, l2, l3, l4⟩ := HS.out _ h4S
          go_wp2_with fail
          refine (CS2 _ hq).mono ?_
          rintro e wT ⟨rfl, hq2⟩
          have hend := HF.out _ (h4S.trans (hq2.mono h4S.size))
          clear CS2 hq hq2
          go_wp2
          go_ret
          exact ⟨rfl, hend⟩
        | succ g =>
          have hil : i < lv.length := by rw [HLV.out]; omega
          have hix : i < xs.length := by rw [HXL.out]; omega
          obtain ⟨Fy, gy, ny, hcell, hnext⟩ := HR.out.next hil (by rw [HXL.out, HLV.out]) H5.out hwb
          have hie : (i : Int) < 6 := by omega
          obtain ⟨T, hT⟩ : ∃ T, lv[i] = T := ⟨_, rfl⟩
          obtain ⟨y, hy⟩ : ∃ y, xs[i] = y := ⟨_, rfl⟩
          rw [hT, hy] at gy
          rw [hy] at hcell
          clear hT hy
          obtain ⟨yi, yp, yk, yq, rfl⟩ := gy.at.form
          have q0 := hcell 0 (by decide)
          have q1 := hcell 1 (by decide)
          have q2 := hcell 2 (by decide)
          have q3 := hcell 3 (by decide)
          have q4 := hcell 4 (by decide)
          simp only [Nat.add_zero, Value.cells, List.getElem?_toArray, List.getElem?_cons_zero, List.getElem?_cons_succ] at q0 q1 q2 q3 q4
          obtain ⟨wN, hwN⟩ : ∃ wN, wN = wr.alloc (.cells #[.int .i64 T.kind, .bool T.flag, str T.text, .slice yi T.items.length yp, .slice yk T.keys.length yq] 26) := ⟨_, rfl⟩
          obtain ⟨u0, u1, u2, u3, u4, hsN, hbN⟩ := box5 hwN
          have gyN := gy.keep (w' := wN) fun b hb => hbN.block b (gy.lt b hb)
          have CSP := spoil_own T _ Fy wN gyN ny
          have HNX := Lib.hid hnext
          have HBN := Lib.hid hbN
          clear hcell hnext gy gyN HR hbN
          go_upto_region 11 with fail
          rw [← hwN]
          clear hwN q0 q1 q2 q3 q4
          go_wp2_with fail
          refine CSP.mono ?_
          rintro e wM ⟨rfl, hSp⟩
          have HR2 := Lib.hid (HNX.out wN wM HBN.out hSp)
          clear CSP hSp HNX HBN u0 u1 u2 u3 u4 hsN
          go_wp2
          go_roundg g
          case measure => omega
          case rel => exact ⟨i + 1, by omega, by go_num, HR2⟩

end Go.Proofs.YtgbalofdfdafmaaDoor
