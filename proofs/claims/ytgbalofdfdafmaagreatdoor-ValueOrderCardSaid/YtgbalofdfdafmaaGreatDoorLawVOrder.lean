/- ValueOrder: of any two good values the order is the document's, and Equal says that they are the same. Printed by genorder.py. -/
import Derived.Test.YtgbalofdfdafmaaGreatDoorAwk
import Derived.Test.YtgbalofdfdafmaaGreatDoorGoodR
import Derived.Test.YtgbalofdfdafmaaGreatDoorCmpR
import Derived.Test.YtgbalofdfdafmaaGreatDoorEqual
namespace Go.Proofs.YtgbalofdfdafmaaGreatDoor
open Go.RowKit
set_option maxRecDepth 100000
attribute [local go_sem] str_size str_toList str_get

theorem goodV_plain {t : VT} (h : goodV t = true) : plainV t = true := by
  unfold goodV at h
  rw [Bool.and_eq_true] at h
  exact h.2

set_option maxHeartbeats 8000000 in
theorem vorder_true (w : World) (hT : TabW w) (a : VT) (va : Value) (b : VT) (vb : Value) (c : VT) (vc : Value) (ha : ValAt w a va) (hb : ValAt w b vb) (hc : ValAt w c vc) : Calls Tryz.prog 3 #[va, vb, vc] w fun e w' => e = .returned (.bool true) ∧ Below w.heap.size w w' := by
  obtain ⟨xi, xp, xk, xq, rfl⟩ := ha.form
  obtain ⟨yi, yp, yk, yq, rfl⟩ := hb.form
  obtain ⟨zi, zp, zk, zq, rfl⟩ := hc.form
  obtain ⟨wP, hwP⟩ : ∃ wP, wP = w.alloc (.cells #[.int .i64 a.kind, .bool a.flag, str a.text, .slice xi a.items.length xp, .slice xk a.keys.length xq] 26) := ⟨_, rfl⟩
  obtain ⟨m0, m1, m2, m3, m4, hsP, hbP⟩ := box5 hwP
  obtain ⟨wQ, hwQ⟩ : ∃ wQ, wQ = wP.alloc (.cells #[.int .i64 b.kind, .bool b.flag, str b.text, .slice yi b.items.length yp, .slice yk b.keys.length yq] 26) := ⟨_, rfl⟩
  obtain ⟨n0, n1, n2, n3, n4, hsQ, hbQ⟩ := box5 hwQ
  obtain ⟨wR, hwR⟩ : ∃ wR, wR = wQ.alloc (.cells #[.int .i64 c.kind, .bool c.flag, str c.text, .slice zi c.items.length zp, .slice zk c.keys.length zq] 26) := ⟨_, rfl⟩
  obtain ⟨r0, r1, r2, r3, r4, hsR, hbR⟩ := box5 hwR
  have hbPR : Below wP.heap.size wP wR := hbQ.trans (hbR.mono (by omega))
  have hb0 : Below w.heap.size w wR := hbP.trans (hbPR.mono (by omega))
  have hs0 : wR.heap.size = w.heap.size + 3 := by omega
  have hS : ∀ W, Below wR.heap.size wR W → W.cell? ⟨w.heap.size, 0, none⟩ = some (.int .i64 a.kind) ∧ W.cell? ⟨w.heap.size, 1, none⟩ = some (.bool a.flag) ∧ W.cell? ⟨w.heap.size, 2, none⟩ = some (str a.text) ∧ W.cell? ⟨w.heap.size, 3, none⟩ = some (.slice xi a.items.length xp) ∧ W.cell? ⟨w.heap.size, 4, none⟩ = some (.slice xk a.keys.length xq) ∧ W.cell? ⟨w.heap.size + 1, 0, none⟩ = some (.int .i64 b.kind) ∧ W.cell? ⟨w.heap.size + 1, 1, none⟩ = some (.bool b.flag) ∧ W.cell? ⟨w.heap.size + 1, 2, none⟩ = some (str b.text) ∧ W.cell? ⟨w.heap.size + 1, 3, none⟩ = some (.slice yi b.items.length yp) ∧ W.cell? ⟨w.heap.size + 1, 4, none⟩ = some (.slice yk b.keys.length yq) ∧ W.cell? ⟨w.heap.size + 1 + 1, 0, none⟩ = some (.int .i64 c.kind) ∧ W.cell? ⟨w.heap.size + 1 + 1, 1, none⟩ = some (.bool c.flag) ∧ W.cell? ⟨w.heap.size + 1 + 1, 2, none⟩ = some (str c.text) ∧ W.cell? ⟨w.heap.size + 1 + 1, 3, none⟩ = some (.slice zi c.items.length zp) ∧ W.cell? ⟨w.heap.size + 1 + 1, 4, none⟩ = some (.slice zk c.keys.length zq) := fun W hW => by
    have g := fun (q j : Nat) (hq : q < wR.heap.size) => hW.cell (p := ⟨q, j, none⟩) hq
    have g1 := fun (j : Nat) => hbPR.cell (p := ⟨w.heap.size, j, none⟩) (by show w.heap.size < wP.heap.size; omega)
    have g2 := fun (j : Nat) => hbR.cell (p := ⟨w.heap.size + 1, j, none⟩) (by show w.heap.size + 1 < wQ.heap.size; omega)
    rw [hsP] at n0 n1 n2 n3 n4
    rw [hsQ, hsP] at r0 r1 r2 r3 r4
    exact ⟨((g _ _ (by omega)).trans (g1 0)).trans m0, ((g _ _ (by omega)).trans (g1 1)).trans m1, ((g _ _ (by omega)).trans (g1 2)).trans m2, ((g _ _ (by omega)).trans (g1 3)).trans m3, ((g _ _ (by omega)).trans (g1 4)).trans m4,
      ((g _ _ (by omega)).trans (g2 0)).trans n0, ((g _ _ (by omega)).trans (g2 1)).trans n1, ((g _ _ (by omega)).trans (g2 2)).trans n2, ((g _ _ (by omega)).trans (g2 3)).trans n3, ((g _ _ (by omega)).trans (g2 4)).trans n4,
      (g _ _ (by omega)).trans r0, (g _ _ (by omega)).trans r1, (g _ _ (by omega)).trans r2, (g _ _ (by omega)).trans r3, (g _ _ (by omega)).trans r4⟩
  have HS := Lib.hid hS
  have CA := awake02 wR (hT.mono hb0)
  have CG := fun t v W (hv : ValAt w t v) (hW : Below wR.heap.size wR W) => good_rval t v W (hv.mono (hb0.trans (hW.mono hb0.size)))
  have CC := fun t u v v' W (hv : ValAt w t v) (hv' : ValAt w u v') (hW : Below wR.heap.size wR W) => cmp_val t u v v' W (hv.mono (hb0.trans (hW.mono hb0.size))) (hv'.mono (hb0.trans (hW.mono hb0.size))) (hT.mono (hb0.trans (hW.mono hb0.size)))
  have CD := fun t u v v' W (hv : ValAt w t v) (hv' : ValAt w u v') (hp : plainV t = true) (hp' : plainV u = true) (hW : Below wR.heap.size wR W) => cmp_rval t u v v' W (hv.mono (hb0.trans (hW.mono hb0.size))) (hv'.mono (hb0.trans (hW.mono hb0.size))) hp hp'
  have CE := fun t u v v' W (hv : ValAt w t v) (hv' : ValAt w u v') (hW : Below wR.heap.size wR W) => equal_val t u v v' W (hv.mono (hb0.trans (hW.mono hb0.size))) (hv'.mono (hb0.trans (hW.mono hb0.size))) (hT.mono (hb0.trans (hW.mono hb0.size)))
  have CS := fun t u v v' W (hv : ValAt w t v) (hv' : ValAt w u v') (hW : Below wR.heap.size wR W) => same_rval t u v v' W (hv.mono (hb0.trans (hW.mono hb0.size))) (hv'.mono (hb0.trans (hW.mono hb0.size)))
  have HA := Lib.hid ha
  have HB := Lib.hid hb
  have HC := Lib.hid hc
  have hfin : ∀ W, Below wR.heap.size wR W → Below w.heap.size w W := fun W hW => hb0.trans (hW.mono hb0.size)
  have HF := Lib.hid hfin
  clear hS hT ha hb hc hfin m0 m1 m2 m3 m4 n0 n1 n2 n3 n4 r0 r1 r2 r3 r4 hbPR hb0 hbP hbQ hbR
  go_enter Tryz.func3, Tryz.ntmps3
  go_upto_region 1 with fail
  rw [← hwP, ← hwQ, ← hwR]
  clear hwP hwQ hwR
  go_wp2_with fail
  refine CA.mono ?_
  rintro e w1 ⟨rfl, h1⟩
  clear CA

  obtain ⟨k0, k1, k2, k3, k4, l0, l1, l2, l3, l4, m0, m1, m2, m3, m4⟩ := HS.out _ h1
  obtain ⟨R0, hR0⟩ : ∃ R, goodV a = R := ⟨_, rfl⟩
  have C0 := CG a _ w1 HA.out h1
  rw [hR0] at C0
  have HR0 := Lib.hid hR0
  clear hR0
  go_wp2_with fail
  refine (C0).mono ?_
  rintro e w2 ⟨rfl, hq⟩
  have h2 := h1.trans (hq.mono h1.size)
  clear hq
  clear C0
  clear k0 k1 k2 k3 k4 l0 l1 l2 l3 l4 m0 m1 m2 m3 m4
  cases R0 with
  | false =>
    go_wp2
    go_ret
    exact ⟨rfl, HF.out _ h2⟩
  | true =>
    obtain ⟨k0, k1, k2, k3, k4, l0, l1, l2, l3, l4, m0, m1, m2, m3, m4⟩ := HS.out _ h2
    obtain ⟨R1, hR1⟩ : ∃ R, goodV b = R := ⟨_, rfl⟩
    have C1 := CG b _ w2 HB.out h2
    rw [hR1] at C1
    have HR1 := Lib.hid hR1
    clear hR1
    go_wp2_with fail
    refine (C1).mono ?_
    rintro e w3 ⟨rfl, hq⟩
    have h3 := h2.trans (hq.mono h2.size)
    clear hq
    clear C1
    clear k0 k1 k2 k3 k4 l0 l1 l2 l3 l4 m0 m1 m2 m3 m4
    cases R1 with
    | false =>
      go_wp2
      go_ret
      exact ⟨rfl, HF.out _ h3⟩
    | true =>
      obtain ⟨k0, k1, k2, k3, k4, l0, l1, l2, l3, l4, m0, m1, m2, m3, m4⟩ := HS.out _ h3
      obtain ⟨R2, hR2⟩ : ∃ R, goodV c = R := ⟨_, rfl⟩
      have C2 := CG c _ w3 HC.out h3
      rw [hR2] at C2
      have HR2 := Lib.hid hR2
      clear hR2
      go_wp2_with fail
      refine (C2).mono ?_
      rintro e w4 ⟨rfl, hq⟩
      have h4 := h3.trans (hq.mono h3.size)
      clear hq
      clear C2
      clear k0 k1 k2 k3 k4 l0 l1 l2 l3 l4 m0 m1 m2 m3 m4
      cases R2 with
      | false =>
        go_wp2
        go_ret
        exact ⟨rfl, HF.out _ h4⟩
      | true =>
        obtain ⟨k0, k1, k2, k3, k4, l0, l1, l2, l3, l4, m0, m1, m2, m3, m4⟩ := HS.out _ h4
        have pa := goodV_plain HR0.out
        have pb := goodV_plain HR1.out
        have pc := goodV_plain HR2.out
        have hbd := (cmpV_all a).1 b
        have htn := (cmpV_all a).2.1 b
        have hO := (cmpV_all a).2.2 pa
        have hsm := hO.same b pb
        have hnx := hO.next b c pb pc
        have hsame : sameV a b = (cmpV a b == 0) := by
          rw [Bool.eq_iff_iff, sameV_iff, beq_iff_eq]
          exact ⟨fun e => by subst e; exact hO.self, hsm⟩
        have C4 := CC a b _ _ w4 HA.out HB.out h4
        have C5 := fun W hW => CD a b _ _ W HA.out HB.out pa pb hW
        have C6 := fun W hW => CC b a _ _ W HB.out HA.out hW
        have C7 := fun W hW => CE a b _ _ W HA.out HB.out hW
        have C8 := fun W hW => CS a b _ _ W HA.out HB.out hW
        have C9 := fun W hW => CC b c _ _ W HB.out HC.out hW
        have C10 := fun W hW => CC a c _ _ W HA.out HC.out hW
        rw [htn] at C6
        rw [hsame] at C8
        obtain ⟨X, hX⟩ : ∃ X, cmpV a b = X := ⟨_, rfl⟩
        obtain ⟨Y, hY⟩ : ∃ Y, cmpV b c = Y := ⟨_, rfl⟩
        obtain ⟨Z, hZ⟩ : ∃ Z, cmpV a c = Z := ⟨_, rfl⟩
        rw [hX] at C4 C5 C6 C7 C8 hbd hnx
        rw [hY] at C9 hnx
        rw [hZ] at C10 hnx
        have HNX := Lib.hid hnx
        clear hX hY hZ hsm hsame hO htn pa pb pc HR0 HR1 HR2 CG CC CD CE CS hnx
        have hX3 : X = -1 ∨ X = 0 ∨ X = 1 := by omega
        clear hbd
        rcases hX3 with rfl | rfl | rfl
        · go_wp2_with fail
          refine (C4).mono ?_
          rintro e w5 ⟨rfl, hq⟩
          have h5 := h4.trans (hq.mono h4.size)
          clear hq
          clear k0 k1 k2 k3 k4 l0 l1 l2 l3 l4 m0 m1 m2 m3 m4
          obtain ⟨k0, k1, k2, k3, k4, l0, l1, l2, l3, l4, m0, m1, m2, m3, m4⟩ := HS.out _ h5
          go_wp2_with fail
          refine (C5 w5 h5).mono ?_
          rintro e w6 ⟨rfl, hq⟩
          have h6 := h5.trans (hq.mono h5.size)
          clear hq
          clear k0 k1 k2 k3 k4 l0 l1 l2 l3 l4 m0 m1 m2 m3 m4
          obtain ⟨k0, k1, k2, k3, k4, l0, l1, l2, l3, l4, m0, m1, m2, m3, m4⟩ := HS.out _ h6
          go_wp2_with fail
          refine (C6 w6 h6).mono ?_
          rintro e w7 ⟨rfl, hq⟩
          have h7 := h6.trans (hq.mono h6.size)
          clear hq
          clear k0 k1 k2 k3 k4 l0 l1 l2 l3 l4 m0 m1 m2 m3 m4
          obtain ⟨k0, k1, k2, k3, k4, l0, l1, l2, l3, l4, m0, m1, m2, m3, m4⟩ := HS.out _ h7
          go_wp2_with fail
          refine (C7 w7 h7).mono ?_
          rintro e w8 ⟨rfl, hq⟩
          have h8 := h7.trans (hq.mono h7.size)
          clear hq
          clear k0 k1 k2 k3 k4 l0 l1 l2 l3 l4 m0 m1 m2 m3 m4
          obtain ⟨k0, k1, k2, k3, k4, l0, l1, l2, l3, l4, m0, m1, m2, m3, m4⟩ := HS.out _ h8
          go_wp2_with fail
          refine (C8 w8 h8).mono ?_
          rintro e w9 ⟨rfl, hq⟩
          have h9 := h8.trans (hq.mono h8.size)
          clear hq
          clear k0 k1 k2 k3 k4 l0 l1 l2 l3 l4 m0 m1 m2 m3 m4
          obtain ⟨k0, k1, k2, k3, k4, l0, l1, l2, l3, l4, m0, m1, m2, m3, m4⟩ := HS.out _ h9
          clear C4 C5 C6 C7 C8
          go_wp2_with fail
          refine (C9 w9 h9).mono ?_
          rintro e w10 ⟨rfl, hq⟩
          have h10 := h9.trans (hq.mono h9.size)
          clear hq
          clear k0 k1 k2 k3 k4 l0 l1 l2 l3 l4 m0 m1 m2 m3 m4
          obtain ⟨k0, k1, k2, k3, k4, l0, l1, l2, l3, l4, m0, m1, m2, m3, m4⟩ := HS.out _ h10
          by_cases hYp : 0 < Y
          · clear C9 C10
            go_wp2
            go_ret
            exact ⟨rfl, HF.out _ h10⟩
          · have hZ0 := HNX.out (by decide) (by omega)
            go_wp2_with fail
            refine (C10 w10 h10).mono ?_
            rintro e w11 ⟨rfl, hq⟩
            have h11 := h10.trans (hq.mono h10.size)
            clear hq
            clear C9 C10
            go_wp2
            go_ret
            exact ⟨rfl, HF.out _ h11⟩
        · go_wp2_with fail
          refine (C4).mono ?_
          rintro e w5 ⟨rfl, hq⟩
          have h5 := h4.trans (hq.mono h4.size)
          clear hq
          clear k0 k1 k2 k3 k4 l0 l1 l2 l3 l4 m0 m1 m2 m3 m4
          obtain ⟨k0, k1, k2, k3, k4, l0, l1, l2, l3, l4, m0, m1, m2, m3, m4⟩ := HS.out _ h5
          go_wp2_with fail
          refine (C5 w5 h5).mono ?_
          rintro e w6 ⟨rfl, hq⟩
          have h6 := h5.trans (hq.mono h5.size)
          clear hq
          clear k0 k1 k2 k3 k4 l0 l1 l2 l3 l4 m0 m1 m2 m3 m4
          obtain ⟨k0, k1, k2, k3, k4, l0, l1, l2, l3, l4, m0, m1, m2, m3, m4⟩ := HS.out _ h6
          go_wp2_with fail
          refine (C6 w6 h6).mono ?_
          rintro e w7 ⟨rfl, hq⟩
          have h7 := h6.trans (hq.mono h6.size)
          clear hq
          clear k0 k1 k2 k3 k4 l0 l1 l2 l3 l4 m0 m1 m2 m3 m4
          obtain ⟨k0, k1, k2, k3, k4, l0, l1, l2, l3, l4, m0, m1, m2, m3, m4⟩ := HS.out _ h7
          go_wp2_with fail
          refine (C7 w7 h7).mono ?_
          rintro e w8 ⟨rfl, hq⟩
          have h8 := h7.trans (hq.mono h7.size)
          clear hq
          clear k0 k1 k2 k3 k4 l0 l1 l2 l3 l4 m0 m1 m2 m3 m4
          obtain ⟨k0, k1, k2, k3, k4, l0, l1, l2, l3, l4, m0, m1, m2, m3, m4⟩ := HS.out _ h8
          go_wp2_with fail
          refine (C8 w8 h8).mono ?_
          rintro e w9 ⟨rfl, hq⟩
          have h9 := h8.trans (hq.mono h8.size)
          clear hq
          clear k0 k1 k2 k3 k4 l0 l1 l2 l3 l4 m0 m1 m2 m3 m4
          obtain ⟨k0, k1, k2, k3, k4, l0, l1, l2, l3, l4, m0, m1, m2, m3, m4⟩ := HS.out _ h9
          clear C4 C5 C6 C7 C8
          go_wp2_with fail
          refine (C9 w9 h9).mono ?_
          rintro e w10 ⟨rfl, hq⟩
          have h10 := h9.trans (hq.mono h9.size)
          clear hq
          clear k0 k1 k2 k3 k4 l0 l1 l2 l3 l4 m0 m1 m2 m3 m4
          obtain ⟨k0, k1, k2, k3, k4, l0, l1, l2, l3, l4, m0, m1, m2, m3, m4⟩ := HS.out _ h10
          by_cases hYp : 0 < Y
          · clear C9 C10
            go_wp2
            go_ret
            exact ⟨rfl, HF.out _ h10⟩
          · have hZ0 := HNX.out (by decide) (by omega)
            go_wp2_with fail
            refine (C10 w10 h10).mono ?_
            rintro e w11 ⟨rfl, hq⟩
            have h11 := h10.trans (hq.mono h10.size)
            clear hq
            clear C9 C10
            go_wp2
            go_ret
            exact ⟨rfl, HF.out _ h11⟩
        · go_wp2_with fail
          refine (C4).mono ?_
          rintro e w5 ⟨rfl, hq⟩
          have h5 := h4.trans (hq.mono h4.size)
          clear hq
          clear k0 k1 k2 k3 k4 l0 l1 l2 l3 l4 m0 m1 m2 m3 m4
          obtain ⟨k0, k1, k2, k3, k4, l0, l1, l2, l3, l4, m0, m1, m2, m3, m4⟩ := HS.out _ h5
          go_wp2_with fail
          refine (C5 w5 h5).mono ?_
          rintro e w6 ⟨rfl, hq⟩
          have h6 := h5.trans (hq.mono h5.size)
          clear hq
          clear k0 k1 k2 k3 k4 l0 l1 l2 l3 l4 m0 m1 m2 m3 m4
          obtain ⟨k0, k1, k2, k3, k4, l0, l1, l2, l3, l4, m0, m1, m2, m3, m4⟩ := HS.out _ h6
          go_wp2_with fail
          refine (C6 w6 h6).mono ?_
          rintro e w7 ⟨rfl, hq⟩
          have h7 := h6.trans (hq.mono h6.size)
          clear hq
          clear k0 k1 k2 k3 k4 l0 l1 l2 l3 l4 m0 m1 m2 m3 m4
          obtain ⟨k0, k1, k2, k3, k4, l0, l1, l2, l3, l4, m0, m1, m2, m3, m4⟩ := HS.out _ h7
          go_wp2_with fail
          refine (C7 w7 h7).mono ?_
          rintro e w8 ⟨rfl, hq⟩
          have h8 := h7.trans (hq.mono h7.size)
          clear hq
          clear k0 k1 k2 k3 k4 l0 l1 l2 l3 l4 m0 m1 m2 m3 m4
          obtain ⟨k0, k1, k2, k3, k4, l0, l1, l2, l3, l4, m0, m1, m2, m3, m4⟩ := HS.out _ h8
          go_wp2_with fail
          refine (C8 w8 h8).mono ?_
          rintro e w9 ⟨rfl, hq⟩
          have h9 := h8.trans (hq.mono h8.size)
          clear hq
          clear k0 k1 k2 k3 k4 l0 l1 l2 l3 l4 m0 m1 m2 m3 m4
          obtain ⟨k0, k1, k2, k3, k4, l0, l1, l2, l3, l4, m0, m1, m2, m3, m4⟩ := HS.out _ h9
          clear C4 C5 C6 C7 C8
          clear C9 C10
          go_wp2
          go_ret
          exact ⟨rfl, HF.out _ h9⟩

end Go.Proofs.YtgbalofdfdafmaaGreatDoor
