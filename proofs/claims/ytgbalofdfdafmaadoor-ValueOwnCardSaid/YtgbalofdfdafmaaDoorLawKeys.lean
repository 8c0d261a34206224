/- ValueKeys: keys are got, put and dropped as the document says, of any good value. Printed by genkeys.py. -/
import Derived.Test.YtgbalofdfdafmaaDoorAwk
import Derived.Test.YtgbalofdfdafmaaDoorGoodR
import Derived.Test.YtgbalofdfdafmaaDoorGetR
import Derived.Test.YtgbalofdfdafmaaDoorPutU
import Derived.Test.YtgbalofdfdafmaaDoorPutO
import Derived.Test.YtgbalofdfdafmaaDoorDrop
import Derived.Deep.RegionHeld3
namespace Go.Proofs.YtgbalofdfdafmaaDoor
open Go.RowKit
set_option maxRecDepth 100000
attribute [local go_sem] str_size str_toList str_get

theorem goodV_facts3 {t : VT} (h : goodV t = true) : sizeV t ≤ 2000 ∧ plainV t = true := by
  unfold goodV at h
  rw [Bool.and_eq_true, Bool.and_eq_true, decide_eq_true_eq] at h
  exact ⟨h.1.1, h.2⟩
theorem plain_obj {t : VT} (h : plainV t = true) (h6 : t.kind = 6) : t.flag = false ∧ t.text = [] ∧ t.keys.length = t.items.length := by
  obtain ⟨k, b, tx, its, ks⟩ := t
  replace h6 : k = 6 := h6
  subst h6
  rw [plainV, Bool.and_eq_true] at h
  have h := h.1
  unfold nodeOk aOk bOk at h
  simp only [Bool.and_eq_true] at h
  show b = false ∧ tx = [] ∧ ks.length = its.length
  simp at h
  refine ⟨?_, ?_, ?_⟩
  · cases b with
    | false => rfl
    | true => simp at h
  · have := h.1.1
    cases tx with
    | nil => rfl
    | cons a r => simp at this
  · have := h.1.2
    simpa using this

/-- What ValueKeys asks of a value: that a key is got, put and dropped of it. -/
structure Kept (t : VT) : Prop where
  fit : fitV t = true
  rise : rising t.keys = true
  obj : t.kind = 6 → t.flag = false ∧ t.text = [] ∧ t.keys.length = t.items.length
  size : sizeV t ≤ 2000
theorem kept_of {t : VT} (h : goodV t = true) : Kept t := by
  obtain ⟨h1, h2⟩ := goodV_facts3 h
  exact ⟨plain_fit t h2, plainV_rising h2, plain_obj h2, h1⟩

set_option maxHeartbeats 16000000 in
theorem vkeys_true (w : World) (hT : TabW w) (t : VT) (v : Value) (key : List UInt8) (x : VT) (vx : Value) (ht : ValAt w t v) (hx : ValAt w x vx) : Calls Tryd.prog 4 #[v, str key, vx] w fun e w' => e = .returned (.bool true) ∧ Below w.heap.size w w' := by
  obtain ⟨ti, tp, tk, tq, rfl⟩ := ht.form
  obtain ⟨xi, xp, xk, xq, rfl⟩ := hx.form
  obtain ⟨wP, hwP⟩ : ∃ wP, wP = w.alloc (.cells #[.int .i64 t.kind, .bool t.flag, str t.text, .slice ti t.items.length tp, .slice tk t.keys.length tq] 26) := ⟨_, rfl⟩
  obtain ⟨m0, m1, m2, m3, m4, hsP, hbP⟩ := box5 hwP
  obtain ⟨wQ, hwQ⟩ : ∃ wQ, wQ = wP.alloc (.cells #[.int .i64 x.kind, .bool x.flag, str x.text, .slice xi x.items.length xp, .slice xk x.keys.length xq] 26) := ⟨_, rfl⟩
  obtain ⟨n0, n1, n2, n3, n4, hsQ, hbQ⟩ := box5 hwQ
  have hb0 : Below w.heap.size w wQ := hbP.trans (hbQ.mono (by omega))
  have hs0 : wQ.heap.size = w.heap.size + 2 := by omega
  have hS : ∀ W, Below wQ.heap.size wQ W → W.cell? ⟨w.heap.size, 0, none⟩ = some (.int .i64 t.kind) ∧ W.cell? ⟨w.heap.size, 1, none⟩ = some (.bool t.flag) ∧ W.cell? ⟨w.heap.size, 2, none⟩ = some (str t.text) ∧ W.cell? ⟨w.heap.size, 3, none⟩ = some (.slice ti t.items.length tp) ∧ W.cell? ⟨w.heap.size, 4, none⟩ = some (.slice tk t.keys.length tq) ∧ W.cell? ⟨w.heap.size + 1, 0, none⟩ = some (.int .i64 x.kind) ∧ W.cell? ⟨w.heap.size + 1, 1, none⟩ = some (.bool x.flag) ∧ W.cell? ⟨w.heap.size + 1, 2, none⟩ = some (str x.text) ∧ W.cell? ⟨w.heap.size + 1, 3, none⟩ = some (.slice xi x.items.length xp) ∧ W.cell? ⟨w.heap.size + 1, 4, none⟩ = some (.slice xk x.keys.length xq) := fun W hW => by
    have g := fun (q j : Nat) (hq : q < wQ.heap.size) => hW.cell (p := ⟨q, j, none⟩) hq
    have g1 := fun (j : Nat) => hbQ.cell (p := ⟨w.heap.size, j, none⟩) (by show w.heap.size < wP.heap.size; omega)
    rw [hsP] at n0 n1 n2 n3 n4
    exact ⟨((g _ _ (by omega)).trans (g1 0)).trans m0, ((g _ _ (by omega)).trans (g1 1)).trans m1, ((g _ _ (by omega)).trans (g1 2)).trans m2, ((g _ _ (by omega)).trans (g1 3)).trans m3, ((g _ _ (by omega)).trans (g1 4)).trans m4,
      (g _ _ (by omega)).trans n0, (g _ _ (by omega)).trans n1, (g _ _ (by omega)).trans n2, (g _ _ (by omega)).trans n3, (g _ _ (by omega)).trans n4⟩
  have HS := Lib.hid hS
  have CA := awake02 wQ (hT.mono hb0)
  have CG := fun t v W (hv : ValAt w t v) (hW : Below wQ.heap.size wQ W) => good_rval t v W (hv.mono (hb0.trans (hW.mono hb0.size)))
  have hfin : ∀ W, Below wQ.heap.size wQ W → Below w.heap.size w W := fun W hW => hb0.trans (hW.mono hb0.size)
  have HF := Lib.hid hfin
  have HA := Lib.hid ht
  have HX := Lib.hid hx
  clear hS hT ht hx hfin m0 m1 m2 m3 m4 n0 n1 n2 n3 n4 hb0 hbP hbQ
  go_enter Tryd.func4, Tryd.ntmps4
  go_upto_region 1 with fail
  rw [← hwP, ← hwQ]
  clear hwP hwQ
  go_wp2_with fail
  refine CA.mono ?_
  rintro e w1 ⟨rfl, h1⟩
  clear CA
  obtain ⟨k0, k1, k2, k3, k4, l0, l1, l2, l3, l4⟩ := HS.out _ h1
  obtain ⟨R0, hR0⟩ : ∃ R, goodV t = R := ⟨_, rfl⟩
  have C0 := CG t _ w1 HA.out h1
  rw [hR0] at C0
  have HR0 := Lib.hid hR0
  clear hR0
  go_wp2_with fail
  refine (C0).mono ?_
  rintro e w2 ⟨rfl, hq⟩
  have h2 := h1.trans (hq.mono h1.size)
  clear hq C0
  clear k0 k1 k2 k3 k4 l0 l1 l2 l3 l4
  cases R0 with
  | false =>
    go_wp2
    go_ret
    exact ⟨rfl, HF.out _ h2⟩
  | true =>
    obtain ⟨k0, k1, k2, k3, k4, l0, l1, l2, l3, l4⟩ := HS.out _ h2
    obtain ⟨R1, hR1⟩ : ∃ R, goodV x = R := ⟨_, rfl⟩
    have C1 := CG x _ w2 HX.out h2
    rw [hR1] at C1
    have HR1 := Lib.hid hR1
    clear hR1
    go_wp2_with fail
    refine (C1).mono ?_
    rintro e w3 ⟨rfl, hq⟩
    have h3 := h2.trans (hq.mono h2.size)
    clear hq C1
    clear k0 k1 k2 k3 k4 l0 l1 l2 l3 l4
    cases R1 with
    | false =>
      go_wp2
      go_ret
      exact ⟨rfl, HF.out _ h3⟩
    | true =>
      obtain ⟨k0, k1, k2, k3, k4, l0, l1, l2, l3, l4⟩ := HS.out _ h3
      have KT := kept_of HR0.out
      have KX := kept_of HR1.out
      have hst := KT.size
      have hsx := KX.size
      have hkl := fit_len KT.fit
      have hl6 : t.keys.length ≤ 1000000 := by have := sizeV_len t; omega
      have D1 := fun W (hW : Below wQ.heap.size wQ W) => get_val t _ key W (HA.out.mono (HF.out W hW)) KT.rise KT.fit (by omega)
      have D2 := fun W (hW : Below wQ.heap.size wQ W) => get_rval t _ key W (HA.out.mono (HF.out W hW)) KT.rise hkl
      have D3 := fun W (hW : Below wQ.heap.size wQ W) => putO_val t _ key x _ W (HA.out.mono (HF.out W hW)) (HX.out.mono (HF.out W hW)) KT.fit KT.rise (fun h => (KT.obj h).2.2) (by omega) KX.fit (by omega)
      have D4 := fun W (hW : Below wQ.heap.size wQ W) => put_rval t x _ _ key W (HA.out.mono (HF.out W hW)) (HX.out.mono (HF.out W hW)) hkl hl6
      have D5 := fun W (hW : Below wQ.heap.size wQ W) => dropO_val t _ key W (HA.out.mono (HF.out W hW)) KT.fit KT.rise (fun h => (KT.obj h).2.2) (by omega)
      have D6 := fun W (hW : Below wQ.heap.size wQ W) => drop_rval t _ key W (HA.out.mono (HF.out W hW)) hkl hl6
      have eP : putR t key x = putO t key x := putR_eq KT.rise KT.obj
      have eD : dropR t key = dropT t key := dropR_eq KT.rise KT.obj
      rw [eP] at D4
      rw [eD] at D6
      have CS := fun (T : VT) (v1 v2 : Value) W (g1 : ValAt W T v1) (g2 : ValAt W T v2) => same_rval T T v1 v2 W g1 g2
      have hsame : ∀ T : VT, sameV T T = true := fun T => (sameV_iff T T).2 rfl
      have CS : ∀ (T : VT) (v1 v2 : Value) W, ValAt W T v1 → ValAt W T v2 → Calls Tryd.prog 14 #[v1, v2] W fun e w' => e = .returned (.bool true) ∧ Below W.heap.size W w' := fun T v1 v2 W g1 g2 => by
        have := CS T v1 v2 W g1 g2
        rw [hsame] at this
        exact this
      obtain ⟨G, hG⟩ : ∃ G, (getT t key).1 = G := ⟨_, rfl⟩
      obtain ⟨gb, hgb⟩ : ∃ gb, (getT t key).2 = gb := ⟨_, rfl⟩
      obtain ⟨TP, hTP⟩ : ∃ TP, putO t key x = TP := ⟨_, rfl⟩
      obtain ⟨TD, hTD⟩ : ∃ TD, dropT t key = TD := ⟨_, rfl⟩
      rw [hG, hgb] at D1 D2
      rw [hTP] at D3 D4
      rw [hTD] at D5 D6
      have HD3 := Lib.hid D3
      have HD4 := Lib.hid D4
      have HD5 := Lib.hid D5
      have HD6 := Lib.hid D6
      have HCS := Lib.hid CS
      clear hG hgb hTP hTD eP eD KT KX hsame HR0 HR1 CG hkl hl6 hst hsx D3 D4 D5 D6 CS
      go_wp2_with fail
      refine (D1 _ h3).mono ?_
      rintro e w4 ⟨v4, F4, rfl, g4, _, _, hq⟩
      have h4 := h3.trans (hq.mono h3.size)
      have g4 := g4.at
      obtain ⟨gi, gp, gk, gq, rfl⟩ := g4.form
      obtain ⟨w5, hw5⟩ : ∃ w5, w5 = w4.alloc (.cells #[.int .i64 G.kind, .bool G.flag, str G.text, .slice gi G.items.length gp, .slice gk G.keys.length gq] 26) := ⟨_, rfl⟩
      obtain ⟨a0, a1, a2, a3, a4, hs5, hb5⟩ := box5 hw5
      have h5 := h4.trans (hb5.mono h4.size)
      have HG4 := Lib.hid (g4.mono hb5)
      clear g4 hq h4 k0 k1 k2 k3 k4 l0 l1 l2 l3 l4
      obtain ⟨k0, k1, k2, k3, k4, l0, l1, l2, l3, l4⟩ := HS.out _ h5
      go_upto_region 6 with fail
      rw [← hw5]
      clear hw5
      go_wp2_with fail
      refine (D2 _ h5).mono ?_
      rintro e w6 ⟨⟨v6, rfl, g6⟩, hq⟩
      have h6 := h5.trans (hq.mono h5.size)
      obtain ⟨ui, up, uk, uq, rfl⟩ := g6.form
      obtain ⟨w7, hw7⟩ : ∃ w7, w7 = w6.alloc (.cells #[.int .i64 G.kind, .bool G.flag, str G.text, .slice ui G.items.length up, .slice uk G.keys.length uq] 26) := ⟨_, rfl⟩
      obtain ⟨b0, b1, b2, b3, b4, hs7, hb7⟩ := box5 hw7
      have hq57 : Below w5.heap.size w5 w7 := hq.trans (hb7.mono hq.size)
      have h7 := h6.trans (hb7.mono h6.size)
      have a0 := box_at a0 hs5 hq57
      have a1 := box_at a1 hs5 hq57
      have a2 := box_at a2 hs5 hq57
      have a3 := box_at a3 hs5 hq57
      have a4 := box_at a4 hs5 hq57
      have C7 := HCS.out G _ _ w7 (HG4.out.mono hq57) (g6.mono hb7)
      clear g6 HG4 hq hq57 h6 hs5 hb5 hb7 hs7 k0 k1 k2 k3 k4 l0 l1 l2 l3 l4
      go_upto_region 7 with fail
      rw [← hw7]
      clear hw7
      go_wp2_with fail
      refine (C7).mono ?_
      rintro e w8 ⟨rfl, hq⟩
      have h8 := h7.trans (hq.mono h7.size)
      clear C7 hq h7 h5 a0 a1 a2 a3 a4 b0 b1 b2 b3 b4 D1 D2
      obtain ⟨k0, k1, k2, k3, k4, l0, l1, l2, l3, l4⟩ := HS.out _ h8
      have H8 := Lib.hid h8
      have hd : Below wQ.heap.size wQ w8.drew := h8.drew
      go_upto_region 9 with fail
      go_region_held3 (fun W => W.cell? ⟨w.heap.size, 0, none⟩ = some (.int .i64 t.kind) ∧ W.cell? ⟨w.heap.size, 1, none⟩ = some (.bool t.flag) ∧ W.cell? ⟨w.heap.size, 2, none⟩ = some (str t.text) ∧ W.cell? ⟨w.heap.size, 3, none⟩ = some (.slice ti t.items.length tp) ∧ W.cell? ⟨w.heap.size, 4, none⟩ = some (.slice tk t.keys.length tq) ∧ W.cell? ⟨w.heap.size + 1, 0, none⟩ = some (.int .i64 x.kind) ∧ W.cell? ⟨w.heap.size + 1, 1, none⟩ = some (.bool x.flag) ∧ W.cell? ⟨w.heap.size + 1, 2, none⟩ = some (str x.text) ∧ W.cell? ⟨w.heap.size + 1, 3, none⟩ = some (.slice xi x.items.length xp) ∧ W.cell? ⟨w.heap.size + 1, 4, none⟩ = some (.slice xk x.keys.length xq))
        (first | exact HS.out _ hd | exact ⟨k0, k1, k2, k3, k4, l0, l1, l2, l3, l4⟩)
        (first
          | (go_at_call 18; refine (HD3.out _ hd).mono ?_; rintro e q1 ⟨v1, rfl, F1, g1, _, _, hq⟩; have hd := hd.trans (hq.mono hd.size); have HP1 := Lib.hid g1.at; obtain ⟨r1, r2, r3, r4, rfl⟩ := g1.at.form; clear hq g1 HD3)
          | (go_at_call 19; refine (HD4.out _ hd).mono ?_; rintro e q2 ⟨⟨v2, rfl, g2⟩, hq⟩; have hd := hd.trans (hq.mono hd.size); have HP2 := Lib.hid g2; have HP3 := Lib.hid (HP1.out.mono hq); obtain ⟨r5, r6, r7, r8, rfl⟩ := g2.form; clear hq g2 HP1 HD4)
          | (go_at_call 20; refine (HD5.out _ hd).mono ?_; rintro e q3 ⟨v3, F3, rfl, g3, _, _, hq⟩; have hd := hd.trans (hq.mono hd.size); have HT1 := Lib.hid g3.at; obtain ⟨s1, s2, s3, s4, rfl⟩ := g3.at.form; clear hq g3 HD5)
          | (go_at_call 21; refine (HD6.out _ hd).mono ?_; rintro e q4 ⟨⟨v4, rfl, g4⟩, hq⟩; have hd := hd.trans (hq.mono hd.size); have HT2 := Lib.hid g4; have HT3 := Lib.hid (HT1.out.mono hq); obtain ⟨s5, s6, s7, s8, rfl⟩ := g4.form; clear hq g4 HT1 HD6)
          | (go_at_call 14; refine (HCS.out _ _ _ _ HP3.out HP2.out).mono ?_; rintro e q5 ⟨rfl, hq⟩; have hd := hd.trans (hq.mono hd.size); clear hq HP3 HP2)
          | (go_at_call 14; refine (HCS.out _ _ _ _ HT3.out HT2.out).mono ?_; rintro e q6 ⟨rfl, hq⟩; have hd := hd.trans (hq.mono hd.size); clear hq HT3 HT2))
      have hb := HF.out _ hd
      clear hd HS
      go_wp2
      go_ret
      exact ⟨rfl, hb⟩

end Go.Proofs.YtgbalofdfdafmaaDoor
