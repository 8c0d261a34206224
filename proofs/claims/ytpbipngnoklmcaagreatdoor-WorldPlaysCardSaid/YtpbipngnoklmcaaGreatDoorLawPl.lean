/- WorldPlays: the world and the document's one, call by call. No condition. -/
import Derived.Test.YtpbipngnoklmcaaGreatDoorMWldAw
namespace Go.Proofs.YtpbipngnoklmcaaGreatDoor
open Go.RowKit
set_option maxRecDepth 100000
attribute [local go_sem] str_size str_toList str_get undef

set_option maxHeartbeats 16000000 in
theorem plays_true (os : List O3) (fs : List F2) (rs : List OR) (v0 v1 v2 : Value) (w : World) (h0 : ObjsAt w v0 os) (h1 : CellsAt w v1 fs.length (failCells fs)) (h2 : OpsAt w v2 rs) (hE : ErrW w) (hT : TabW w) :
    Calls Tryz.prog 3 #[v0, v1, v2] w fun e w' => e = .returned (.bool true) ∧ Below w.heap.size w w' := by
  have mixed : Tryz.prog.follows .mixedOrders = true := by kernel_rfl
  have H0 := Lib.hid h0
  have H1 := Lib.hid h1
  have H2 := Lib.hid h2
  obtain ⟨ao, co, rfl, hm0, hfo, _⟩ := h0
  obtain ⟨af, cf, rfl, hm1, _⟩ := h1
  obtain ⟨aq, cq, rfl, hm2, _⟩ := h2.cells
  have l0 : os.length ≤ 9223372036854775807 := by omega
  have l1 : fs.length ≤ 9223372036854775807 := by omega
  have l2 : rs.length ≤ 9223372036854775807 := by omega
  have HFO := Lib.hid hfo
  have HE := Lib.hid hE
  have HT := Lib.hid hT
  have AW1 := awake17 w hE hT
  clear hm0 hm1 hm2 hfo hE hT h2
  go_enter Tryz.func3, Tryz.ntmps3
  go_wp2_with fail
  refine AW1.mono ?_
  rintro e w1 ⟨rfl, hb1⟩
  have AW2 := awake17 w1 (HE.out.mono hb1) (HT.out.mono hb1)
  have HB1 := Lib.hid hb1
  clear AW1 hb1
  by_cases h40 : os.length ≤ 40
  · by_cases f40 : fs.length ≤ 40
    · have n40 : ¬ (40 : Int) < (os.length : Int) := by omega
      have m40 : ¬ (40 : Int) < (fs.length : Int) := by omega
      have NX := new_w os fs _ _ w1 (H0.out.mono HB1.out) (H1.out.mono HB1.out) (by omega) (by omega) (HE.out.mono HB1.out) (HT.out.mono HB1.out)
      clear AW2
      go_wp2_with fail
      refine NX.mono ?_
      rintro e w2 ⟨hb2, hx2⟩
      have hbw2 := HB1.out.trans (hb2.mono HB1.out.size)
      obtain ⟨ms, hms, hmc, hmv⟩ := (H0.out).rows
      have hml : ms.length = os.length := by rw [← osR_len, hms]
      have NR := fun (F : List Nat) (hF : ∀ q ∈ F, w.heap.size ≤ q) (hF2 : ∀ q ∈ F, q < w2.heap.size) => new_r (F := F) (w := w2) hF2 ms ao co fs af cf
        (Kept.old (w0 := w) (fun W hW => by have := hmc.mono hW; rw [← hml] at this; exact this) hbw2 hF) (Kept.old (w0 := w) (fun W hW => H1.out.mono hW) hbw2 hF) (fun r hr => Kept.old (w0 := w) (fun W hW => (hmv r hr).mono hW) hbw2 hF) (by rw [hms]; exact HFO.out) (by omega)
      rw [hml, hms] at NR
      have HB2 := Lib.hid hbw2
      have HNR := Lib.hid NR
      clear hms hmc hmv hml NR NX hbw2
      rcases newP_code os fs with ⟨c, hc, hc0, hc1⟩ | ⟨S, hS, hSf, hSt⟩
      · rw [hc] at hx2
        obtain rfl := hx2
        have NR := HNR.out [] (by simp) (by simp)
        have HC := Lib.hid hc
        clear hc hb2
        go_wp2_with fail
        refine NR.mono ?_
        rintro e w3 ⟨hb3, hx3⟩
        rw [HC.out] at hx3
        obtain rfl := hx3
        have hcc : (c != c) = false := by simp
        have HB3 := Lib.hid (HB2.out.trans (hb3.mono HB2.out.size))
        have ht : (true != true) = false := rfl
        obtain ⟨wg, hwg⟩ : ∃ wg, wg = w3.alloc (.cells #[.slice none 0 0, .slice none 0 0, .slice none 0 0] 32) := ⟨_, rfl⟩
        have HBG := Lib.hid (HB3.out.trans (show Below w.heap.size w3 wg by rw [hwg]; exact (Below.refl _ w3).alloc HB3.out.size _))
        clear NR hb3
        go_upto_region 5 with fail
        rw [← hwg]
        clear hwg
        go_wp2
        go_loopg [11] 0 (fun gg v11 wr => v11 = .int .i64 0 ∧ Below w.heap.size w wr)
        case atStart => exact ⟨rfl, HBG.out⟩
        case round =>
          obtain ⟨rfl, hbr⟩ := hrel
          go_wp2
          go_ret
          exact ⟨rfl, hbr⟩
      · rw [hS] at hx2
        obtain ⟨p, b, n, val, vf, vt, D, rfl, hn, hW, hF⟩ := hx2
        have hlen := newP_len hS
        have hFw : ∀ q ∈ wF p b vt, w.heap.size ≤ q := fun q hq => Nat.le_trans HB1.out.size (hF q hq)
        have NR := HNR.out (wF p b vt) hFw hW.lt
        have HW := Lib.hid hW
        have HS := Lib.hid hS
        have HS2 := Lib.hid (⟨hSf, hSt, hlen, hn⟩ : _ ∧ _ ∧ _ ∧ _)
        have HFW := Lib.hid hFw
        clear hS hSf hSt hlen hn hW hF hFw hb2 HNR
        go_wp2_with fail
        refine NR.mono ?_
        rintro e w3 ⟨hb3, hx3⟩
        rw [HS.out] at hx3
        obtain ⟨m, ms', rfl, hR⟩ := hx3
        obtain ⟨a1, c1, a2, c2, a3, c3, rfl, _⟩ := hR.form
        obtain ⟨wg, hwg⟩ : ∃ wg, wg = w3.alloc (.cells #[.slice a1 ms'.length c1, .slice a2 S.fails.length c2, .slice a3 S.trace.length c3] 32) := ⟨_, rfl⟩
        have hbg : Below w3.heap.size w3 wg := by rw [hwg]; exact (Below.refl _ w3).alloc (Nat.le_refl _) _
        have nG := heap_alloc_new w3 (.cells #[.slice a1 ms'.length c1, .slice a2 S.fails.length c2, .slice a3 S.trace.length c3] 32)
        rw [← hwg] at nG
        have hb3w := HB2.out.trans (hb3.mono HB2.out.size)
        have HL0 : Hid (LpI w wg p b w3.heap.size 0 n S val vf vt D (.slice a1 ms'.length c1) (.slice a2 S.fails.length c2) (.slice a3 S.trace.length c3) ms') := by
          obtain ⟨_, e2, e3, e4⟩ := HS2.out
          refine ⟨(HW.out.below hb3).below hbg, hR.step (Spares.of_below hbg) fun q hq => ?_, nG, hb3w.trans (hbg.mono hb3w.size), HFW.out, hb3w.size, fun hq => ?_, by rw [e2]; simp, by omega, by omega⟩
          · rcases List.mem_append.1 hq with hq | hq
            · exact .inl hq
            · have : q = w3.heap.size := by simpa using hq
              exact .inr (by rw [this]; exact Nat.le_refl _)
          · exact Nat.lt_irrefl _ (Nat.lt_of_lt_of_le (HW.out.lt _ hq) hb3.size)
        obtain ⟨g, hg⟩ : ∃ g, g = w3.heap.size := ⟨_, rfl⟩
        rw [← hg] at HL0
        clear NR hb3 hR hbg nG hb3w
        go_upto_region 5 with fail
        rw [← hwg, ← hg]
        clear hwg hg
        obtain ⟨N, hN⟩ : ∃ N, N = min rs.length 80 := ⟨_, rfl⟩
        have hN1 : N ≤ rs.length := by omega
        have hN2 : N ≤ 80 := by omega
        have hN3 : N = rs.length ∨ N = 80 := by omega
        clear hN
        go_wp2
        go_loopg [11] N (fun gg v11 wr => ∃ (i n : Nat) (S : WS) (val : S8 → S8 → Value) (vt : Value) (D : DataW Value) (m0 m1 m2 : Value) (ms : List R3), v11 = .int .i64 i ∧ i + gg = N ∧ Hid (LpI w wr p b g i n S val vf vt D m0 m1 m2 ms))
        case atStart => exact ⟨0, n, S, val, vt, D, _, _, _, ms', rfl, by omega, HL0⟩
        case round =>
          clear HL0 HS HS2 HW HFW
          obtain ⟨i, n, S, val, vt, D, m0, m1, m2, ms, rfl, hig, HL⟩ := hrel
          cases gk with
          | zero =>
            obtain rfl : i = N := by omega
            rcases hN3 with e | e
            · have q1 : ¬ (i : Int) < (rs.length : Int) := by omega
              go_wp2
              go_ret
              exact ⟨rfl, HL.out.bel⟩
            · have q2 : ¬ (i : Int) < 80 := by omega
              by_cases q : i < rs.length
              · have q1 : (i : Int) < (rs.length : Int) := by omega
                go_wp2
                go_ret
                exact ⟨rfl, HL.out.bel⟩
              · have q1 : ¬ (i : Int) < (rs.length : Int) := by omega
                go_wp2
                go_ret
                exact ⟨rfl, HL.out.bel⟩
          | succ gg =>
            have hil : i < rs.length := by omega
            have q1 : (i : Int) < (rs.length : Int) := by omega
            have q2 : (i : Int) < 80 := by omega
            have q3 : (0 : Int) ≤ (i : Int) := by omega
            obtain ⟨r, hr⟩ : ∃ r, rs[i]? = some r := ⟨_, List.getElem?_eq_getElem hil⟩
            have hrm := List.mem_of_getElem? hr
            obtain ⟨b', off, rfl, hlt, k0, k1, k2, k3, k4, k5, k6, k7, k8, k9⟩ := (H2.out.cells.mono HL.out.bel).op hr
            obtain ⟨x0, x1, x2⟩ := box3 HL.out.box
            have HPL := Lib.hid (fun (W : World) (hW : Below wr.heap.size wr W) => by
              have hL := HL.out.below hW
              obtain ⟨e1, e2, e3, e4⟩ := H2.out.len r hrm
              have h := play_any (G := [g]) hL.wat hL.ref (fun q hq => by
                have : q = g := by simpa using hq
                rw [this]
                exact heap_lt hL.box) r.1 r.2.1 r.2.2.1 r.2.2.2.1 r.2.2.2.2 (Kept.old (w0 := w) (fun W' hW' => (H2.out.vals r hrm).mono hW') hL.bel hL.all) e1 e2 e3 e4 (by have := hL.tl; omega) (by have := hL.nl; omega) (by have := hL.ol; omega) (HE.out.mono hL.bel) (HT.out.mono hL.bel)
              unfold opV at h
              exact h)
            clear hr hrm
            go_upto_region 11 with fail
            go_region_law_o (go_simp; go_at_call 9; refine (HPL.out _ (Below.refl _ wr).drew).mono ?_; rintro e w3 hP; obtain ⟨z1, c1, z2, c2, z3, c3, ms', S', n', val', vt', D', rfl, hbox, hL⟩ := (HL.out.below (Below.refl _ wr).drew).next hP; obtain ⟨y0, y1, y2⟩ := box3 hbox; have y3 := Lib.frozen_of_heap hbox 0; have y4 := Lib.frozen_of_heap hbox 1; have y5 := Lib.frozen_of_heap hbox 2; have HL3 := Lib.hid hL; clear hP hL hbox)
            all_goals
              obtain ⟨wS, hwS⟩ : ∃ wS, wS = ((w3.setCell ⟨g, 0, none⟩ (.slice z1 ms'.length c1)).setCell ⟨g, 1, none⟩ (.slice z2 S'.fails.length c2)).setCell ⟨g, 2, none⟩ (.slice z3 S'.trace.length c3) := ⟨_, rfl⟩
              rw [← hwS] at HL3 ⊢
              clear hwS y0 y1 y2 y3 y4 y5 x0 x1 x2 k0 k1 k2 k3 k4 k5 k6 k7 k8 k9 HPL
              have TL := tells HL3.out.wat HL3.out.ref (by have := HL3.out.ol; omega) (by have := HL3.out.tl; omega)
              obtain ⟨x0, x1, x2⟩ := box3 HL3.out.box
              go_wp2_with fail
              refine TL.mono ?_
              rintro e w5 ⟨rfl, hb5⟩
              have HL5 := Lib.hid (HL3.out.below hb5)
              clear TL hb5 x0 x1 x2
              go_wp2
              go_roundg gg
              case measure => omega
              case rel => exact ⟨i + 1, n', S', val', vt', D', _, _, _, ms', by go_num, by omega, HL5⟩
    · have n40 : ¬ (40 : Int) < (os.length : Int) := by omega
      have m40 : (40 : Int) < (fs.length : Int) := by omega
      go_wp2_with fail
      refine AW2.mono ?_
      rintro e w2 ⟨rfl, hb2⟩
      clear AW2
      go_wp2
      go_ret
      exact ⟨rfl, HB1.out.trans (hb2.mono HB1.out.size)⟩
  · have n40 : (40 : Int) < (os.length : Int) := by omega
    go_wp2_with fail
    refine AW2.mono ?_
    rintro e w2 ⟨rfl, hb2⟩
    clear AW2
    go_wp2
    go_ret
    exact ⟨rfl, HB1.out.trans (hb2.mono HB1.out.size)⟩

end Go.Proofs.YtpbipngnoklmcaaGreatDoor
