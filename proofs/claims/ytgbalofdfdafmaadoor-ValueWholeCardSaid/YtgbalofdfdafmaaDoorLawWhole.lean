/- ValueWhole: of any good value the size is told, and whether it is known; a clone is the same. -/
import Derived.Test.YtgbalofdfdafmaaDoorAwk
import Derived.Test.YtgbalofdfdafmaaDoorGoods
import Derived.Test.YtgbalofdfdafmaaDoorList
import Derived.Deep.RegionHeld3
namespace Go.Proofs.YtgbalofdfdafmaaDoor
open Go.RowKit
set_option maxRecDepth 100000
attribute [local go_sem] str_size str_toList str_get

theorem goodV_facts {t : VT} (h : goodV t = true) : sizeV t ≤ 2000 ∧ deepV 24 t = true ∧ plainV t = true := by
  unfold goodV at h
  rw [Bool.and_eq_true, Bool.and_eq_true, decide_eq_true_eq] at h
  exact ⟨h.1.1, h.1.2, h.2⟩

set_option maxHeartbeats 8000000 in
theorem whole_true (w : World) (hT : TabW w) (t : VT) (v : Value) (h : ValAt w t v) : Calls Tryd.prog 3 #[v] w fun e w' => e = .returned (.bool true) ∧ Below w.heap.size w w' := by
  obtain ⟨ai, ci, ak, ck, rfl⟩ := h.form
  obtain ⟨wB, hwB⟩ : ∃ wB, wB = w.alloc (.cells #[.int .i64 t.kind, .bool t.flag, str t.text, .slice ai t.items.length ci, .slice ak t.keys.length ck] 26) := ⟨_, rfl⟩
  obtain ⟨b0, b1, b2, b3, b4, hsB, hbB⟩ := box5 hwB
  have CA := awake02 wB (hT.mono hbB)
  have CR := fun W (hW : Below w.heap.size w W) => good_rval t _ W (h.mono hW)
  obtain ⟨R, hR⟩ : ∃ R, goodV t = R := ⟨_, rfl⟩
  rw [hR] at CR
  have HR := Lib.hid hR
  have HV := Lib.hid h
  clear hR h hT
  go_enter Tryd.func3, Tryd.ntmps3
  go_upto_region 1 with fail
  rw [← hwB]
  clear hwB
  go_wp2_with fail
  refine CA.mono ?_
  rintro e w1 ⟨rfl, hq1⟩
  have k0 := box_at b0 hsB hq1
  have k1 := box_at b1 hsB hq1
  have k2 := box_at b2 hsB hq1
  have k3 := box_at b3 hsB hq1
  have k4 := box_at b4 hsB hq1
  have hb1 := hbB.trans (hq1.mono (by omega))
  clear CA
  go_wp2_with fail
  refine (CR w1 hb1).mono ?_
  rintro e w2 ⟨rfl, hq2⟩
  have hq12 := hq1.trans (hq2.mono hq1.size)
  have j0 := box_at b0 hsB hq12
  have j1 := box_at b1 hsB hq12
  have j2 := box_at b2 hsB hq12
  have j3 := box_at b3 hsB hq12
  have j4 := box_at b4 hsB hq12
  have hb2 := hbB.trans (hq12.mono (by omega))
  clear CR k0 k1 k2 k3 k4 hb1 hq1 hq2
  cases R with
  | false =>
    go_wp2
    go_ret
    exact ⟨rfl, hb2⟩
  | true =>
    obtain ⟨hsz, hdp, hpl⟩ := goodV_facts HR.out
    have hft := plain_fit t hpl
    have hs2 := hb2.size
    have hs12 := hq12.size
    obtain ⟨w3, hw3⟩ : ∃ w3, w3 = w2.alloc (.cells #[.int .i64 t.kind, .bool t.flag, str t.text, .slice ai t.items.length ci, .slice ak t.keys.length ck, .int .i64 t.kind, .bool t.flag, str t.text, .slice ai t.items.length ci, .slice ak t.keys.length ck] 26) := ⟨_, rfl⟩
    have hr3 : w3.heap[w2.heap.size]? = some (.cells #[.int .i64 t.kind, .bool t.flag, str t.text, .slice ai t.items.length ci, .slice ak t.keys.length ck, .int .i64 t.kind, .bool t.flag, str t.text, .slice ai t.items.length ci, .slice ak t.keys.length ck] 26 (0, 0)) := by rw [hw3]; exact heap_alloc_new _ _
    have hq3 : Below w2.heap.size w2 w3 := by rw [hw3]; exact (Below.refl _ _).alloc (Nat.le_refl _) _
    have hb3 := hb2.trans (hq3.mono hs2)
    obtain ⟨hrow, hvals⟩ := row_both hr3 (HV.out.mono hb3) (HV.out.mono hb3)
    have CL := list_val [t, t] _ _ w3 hrow hvals (by intro x hx; simp at hx; subst hx; exact hft) (by intro x hx; simp at hx; subst hx; omega) (by simp)
    have hq13 := hq12.trans (hq3.mono hs12)
    have HF := Lib.hid hft
    have HP := Lib.hid hdp
    clear hrow hvals hr3 hq3 hft hdp hpl HR
    go_wp2_with (rw [← hw3])
    clear hw3
    go_wp2_with fail
    refine CL.mono ?_
    rintro e w4 ⟨vl, rfl, FL, hl1, _, _, hq4⟩
    obtain ⟨li, lc, lk, ld, hvl⟩ := hl1.at.form
    have hvl : vl = .agg #[.int .i64 5, .bool false, .string ⟨#[]⟩, .slice li 2 lc, .slice lk 0 ld] := hvl
    subst hvl
    obtain ⟨w5, hw5⟩ : ∃ w5, w5 = w4.alloc (.cells #[.int .i64 5, .bool false, .string ⟨#[]⟩, .slice li 2 lc, .slice lk 0 ld] 26) := ⟨_, rfl⟩
    obtain ⟨m0, m1, m2, m3, m4, hs5, hq5⟩ := box5 hw5
    have hs3 := hb3.size
    have hs4 := hq4.size
    have hqq := hq13.trans ((hq4.trans (hq5.mono hs4)).mono hq13.size)
    have i0 := box_at b0 hsB hqq
    have i1 := box_at b1 hsB hqq
    have i2 := box_at b2 hsB hqq
    have i3 := box_at b3 hsB hqq
    have i4 := box_at b4 hsB hqq
    have hb5 := hbB.trans (hqq.mono (by omega))
    have hvl5 := hl1.at.mono hq5
    obtain ⟨vi', vk', vs', he, _, _, hrow5, hvs5⟩ := hvl5.agg
    cases he
    obtain ⟨eb, eo, ei, ec, ek, ed, hli, hlt5, hx5, x0, x1, x2, x3, x4⟩ := RowAt.at hrow5 hvs5 (Below.refl _ w5) (i := 1) (show 1 < [t, t].length by simp)
    cases hli
    have hx5 : ValAt w5 t (.agg #[.int .i64 t.kind, .bool t.flag, str t.text, .slice ei t.items.length ec, .slice ek t.keys.length ed]) := hx5
    have x0 : w5.cell? ⟨eb, eo + 5, none⟩ = some (.int .i64 t.kind) := x0
    have x1 : w5.cell? ⟨eb, eo + 5 + 1, none⟩ = some (.bool t.flag) := x1
    have x2 : w5.cell? ⟨eb, eo + 5 + 2, none⟩ = some (str t.text) := x2
    have x3 : w5.cell? ⟨eb, eo + 5 + 3, none⟩ = some (.slice ei t.items.length ec) := x3
    have x4 : w5.cell? ⟨eb, eo + 5 + 4, none⟩ = some (.slice ek t.keys.length ed) := x4
    have HVX := Lib.hid hx5
    have hlow : w.heap.size < w5.heap.size := by have := hqq.size; omega
    have hS : ∀ W, Below w5.heap.size w5 W → W.cell? ⟨w.heap.size, 0, none⟩ = some (.int .i64 t.kind) ∧ W.cell? ⟨w.heap.size, 1, none⟩ = some (.bool t.flag) ∧ W.cell? ⟨w.heap.size, 2, none⟩ = some (str t.text) ∧ W.cell? ⟨w.heap.size, 3, none⟩ = some (.slice ai t.items.length ci) ∧ W.cell? ⟨w.heap.size, 4, none⟩ = some (.slice ak t.keys.length ck) ∧
        W.cell? ⟨w4.heap.size, 0, none⟩ = some (.int .i64 5) ∧ W.cell? ⟨w4.heap.size, 3, none⟩ = some (.slice (some ⟨eb, eo, none⟩) 2 lc) ∧
        W.cell? ⟨eb, eo + 5, none⟩ = some (.int .i64 t.kind) ∧ W.cell? ⟨eb, eo + 5 + 1, none⟩ = some (.bool t.flag) ∧ W.cell? ⟨eb, eo + 5 + 2, none⟩ = some (str t.text) ∧ W.cell? ⟨eb, eo + 5 + 3, none⟩ = some (.slice ei t.items.length ec) ∧ W.cell? ⟨eb, eo + 5 + 4, none⟩ = some (.slice ek t.keys.length ed) := fun W hW =>
      have g := fun (q j : Nat) (hq : q < w5.heap.size) => hW.cell (p := ⟨q, j, none⟩) hq
      ⟨(g _ _ hlow).trans i0, (g _ _ hlow).trans i1, (g _ _ hlow).trans i2, (g _ _ hlow).trans i3, (g _ _ hlow).trans i4, (g _ _ (by omega)).trans m0, (g _ _ (by omega)).trans m3,
        (g _ _ hlt5).trans x0, (g _ _ hlt5).trans x1, (g _ _ hlt5).trans x2, (g _ _ hlt5).trans x3, (g _ _ hlt5).trans x4⟩
    have HS := Lib.hid hS
    have hkn : (knownV t == knownV t) = true := by simp
    have hsm : ((sizeV t : Int) == (sizeV t : Int)) = true := by simp
    have hsame : sameV t t = true := (sameV_iff t t).2 rfl
    have C1 := fun W (hW : Below w5.heap.size w5 W) => size_val t _ W (HV.out.mono (hb5.trans (hW.mono hb5.size))) (by omega)
    have C2 := fun W (hW : Below w5.heap.size w5 W) => size_rval t _ W (HV.out.mono (hb5.trans (hW.mono hb5.size)))
    have C3 := fun W (hW : Below w5.heap.size w5 W) => known_val t _ W (HV.out.mono (hb5.trans (hW.mono hb5.size)))
    have C4 := fun W (hW : Below w5.heap.size w5 W) => known_rval t _ W (HV.out.mono (hb5.trans (hW.mono hb5.size)))
    have C5 := fun W (hW : Below w5.heap.size w5 W) => clone_val t _ W (HV.out.mono (hb5.trans (hW.mono hb5.size))) HF.out (by omega)
    have C6 := fun v' W (hv' : ValAt W t v') (hW : Below w5.heap.size w5 W) => same_rval t t v' _ W hv' (HV.out.mono (hb5.trans (hW.mono hb5.size)))
    rw [hsame] at C6
    have hz : ∀ z : Int, (∀ d, d ≤ 1000 → deepV d t = true → z = sizeR t) → z = sizeV t := fun z h => by
      rw [h 24 (by omega) HP.out, (sizeR_iff t).1 hsz]
    have HZ := Lib.hid hz
    obtain ⟨sz, hsze⟩ : ∃ sz : Nat, sizeV t = sz := ⟨_, rfl⟩
    obtain ⟨kn, hkne⟩ : ∃ kn, knownV t = kn := ⟨_, rfl⟩
    rw [hsze] at C1 hsm
    rw [hkne] at C3 C4 hkn
    have HZE := Lib.hid hsze
    have HB5 := Lib.hid hb5
    clear hS hz hsze hkne hsame x0 x1 x2 x3 x4 m0 m1 m2 m3 m4 i0 i1 i2 i3 i4 j0 j1 j2 j3 j4 b0 b1 b2 b3 b4 hrow5 hvs5 hvl5 hx5 hl1 hq5 hqq hq4 hq12 hq13 hb2 hb3 hb5 CL hbB hsz
    go_upto_region 6 with fail
    rw [← hw5]
    clear hw5
    go_region_held3 (fun W => W.cell? ⟨w.heap.size, 0, none⟩ = some (.int .i64 t.kind) ∧ W.cell? ⟨w.heap.size, 1, none⟩ = some (.bool t.flag) ∧ W.cell? ⟨w.heap.size, 2, none⟩ = some (str t.text) ∧ W.cell? ⟨w.heap.size, 3, none⟩ = some (.slice ai t.items.length ci) ∧ W.cell? ⟨w.heap.size, 4, none⟩ = some (.slice ak t.keys.length ck) ∧
        W.cell? ⟨w4.heap.size, 0, none⟩ = some (.int .i64 5) ∧ W.cell? ⟨w4.heap.size, 3, none⟩ = some (.slice (some ⟨eb, eo, none⟩) 2 lc) ∧
        W.cell? ⟨eb, eo + 5, none⟩ = some (.int .i64 t.kind) ∧ W.cell? ⟨eb, eo + 5 + 1, none⟩ = some (.bool t.flag) ∧ W.cell? ⟨eb, eo + 5 + 2, none⟩ = some (str t.text) ∧ W.cell? ⟨eb, eo + 5 + 3, none⟩ = some (.slice ei t.items.length ec) ∧ W.cell? ⟨eb, eo + 5 + 4, none⟩ = some (.slice ek t.keys.length ed))
      (first | exact HS.out _ h7 | exact HS.out _ h6 | exact HS.out _ h5 | exact HS.out _ h4 | exact HS.out _ h3 | exact HS.out _ h2 | exact HS.out _ h1 | exact HS.out _ (Below.refl _ w5).drew)
      (first
        | (go_at_call 10; refine (C1 _ (Below.refl _ w5).drew).mono ?_; rintro e q1 ⟨rfl, hq⟩; have h1 := (Below.refl _ w5).drew.trans (hq.mono (Nat.le_refl _)); clear hq)
        | (go_at_call 11; refine (C2 _ h1).mono ?_; rintro e q2 ⟨⟨z, rfl, hz0, hz1, hzz⟩, hq⟩; obtain rfl : z = (sz : Int) := (HZ.out z hzz).trans (by rw [HZE.out]); have h2 := h1.trans (hq.mono h1.size); clear hq hzz)
        | (go_at_call 12; refine (C3 _ h2).mono ?_; rintro e q3 ⟨rfl, hq⟩; have h3 := h2.trans (hq.mono h2.size); clear hq)
        | (go_at_call 13; refine (C4 _ h3).mono ?_; rintro e q4 ⟨rfl, hq⟩; have h4 := h3.trans (hq.mono h3.size); clear hq)
        | (go_at_call 15; refine (C5 _ h4).mono ?_; rintro e q5 ⟨vc, Fc, rfl, hc1, hc2, hc3, hq⟩; have h5 := h4.trans (hq.mono h4.size); have HC := Lib.hid hc1.at; obtain ⟨r1, r2, r3, r4, rfl⟩ := hc1.at.form; clear hq hc1 hc2 hc3)
        | (go_at_call 14; refine (C6 _ _ HC.out h5).mono ?_; rintro e q6 ⟨rfl, hq⟩; have h6 := h5.trans (hq.mono h5.size); clear hq HC)
        | (go_at_call 14; refine (C6 _ _ (HVX.out.mono h6) h6).mono ?_; rintro e q7 ⟨rfl, hq⟩; have h7 := h6.trans (hq.mono h6.size); clear hq))
    have hB5 := HB5.out
    go_wp2
    go_ret
    exact ⟨rfl, hB5.trans (h7.mono hB5.size)⟩

end Go.Proofs.YtgbalofdfdafmaaDoor
