/- WorldOwn: what is handed in stays and isn't kept, answers are new memory, and a clone goes its own way. No condition. -/
import Derived.Test.YtpbipngnoklmcaaGreatDoorMOwP
import Derived.Test.YtpbipngnoklmcaaGreatDoorMGoodR
import Derived.Test.YtpbipngnoklmcaaGreatDoorClnR
import Derived.Test.YtpbipngnoklmcaaGreatDoorWldRn
import Derived.Test.YtpbipngnoklmcaaGreatDoorMWldAw
import Derived.Test.YtpbipngnoklmcaaGreatDoorMWldRe
namespace Go.Proofs.YtpbipngnoklmcaaGreatDoor
open Go.RowKit
set_option maxRecDepth 100000
attribute [local go_sem] str_size str_toList str_get undef

/-- A row of one block, just made, is kept. -/
theorem kept_one (w : World) (cs : List Value) (T : TypeId) (n : Nat) (hn : n ≤ 9223372036854775807) (F : List Nat) (hF : ∀ q ∈ F, q < w.heap.size) : Kept F (w.alloc (.cells cs.toArray T)) fun w' => CellsAt w' (.slice (some ⟨w.heap.size, 0, none⟩) n n) n cs := fun w' hs => by
  have h0 := heap_alloc_new w (.cells cs.toArray T)
  have hb := (hs.block w.heap.size (heap_lt h0) (fun hm => by have := hF _ hm; omega)).trans h0
  refine ⟨_, n, rfl, ⟨Nat.le_refl _, hn, fun e => by cases e⟩, fun _ => ⟨w.heap.size, 0, rfl, heap_lt hb, fun j u hj => ?_⟩⟩
  rw [Addr.add_lit, Nat.zero_add, Lib.cell_of_heap hb]
  simpa using hj
theorem goodV_facts {x : VT} (h : goodV x = true) : fitV x = true ∧ sizeV x ≤ 2000 := by
  unfold goodV at h
  simp at h
  exact ⟨plain_fit x h.2, h.1.1⟩
theorem osR_push (xs : List R3) (r : R3) : osR (xs ++ [r]) = osR xs ++ [r.1] := by simp [osR]

set_option maxHeartbeats 16000000 in
theorem own_true (os : List O3) (rs : List OR) (v0 v1 : Value) (w : World) (h0 : ObjsAt w v0 os) (h1 : OpsAt w v1 rs) (hE : ErrW w) (hT : TabW w) :
    Calls Tryz.prog 4 #[v0, v1] w fun e w' => e = .returned (.bool true) ∧ Below w.heap.size w w' := by
  have mixed : Tryz.prog.follows .mixedOrders = true := by kernel_rfl
  obtain ⟨i1, hi1, hz1, hzs1, hzb1⟩ := info_parts (P := Tryz.prog) (e := 47) (z := .agg #[.string ⟨#[]⟩, .string ⟨#[]⟩, .int .i64 0, .bool false, .string ⟨#[]⟩, .slice none 0 0, .slice none 0 0]) (size := 7) (bytes := 112) (by kernel_rfl)
  have H0 := Lib.hid h0
  have H1 := Lib.hid h1
  obtain ⟨ao, co, rfl, hm0, hfo, _⟩ := h0
  obtain ⟨aq, cq, rfl, hm2, _⟩ := h1.cells
  have l0 : os.length ≤ 9223372036854775807 := by omega
  have l2 : rs.length ≤ 9223372036854775807 := by omega
  have HFO := Lib.hid hfo
  have HE := Lib.hid hE
  have HT := Lib.hid hT
  have AW1 := awake17 w hE hT
  clear hm0 hm2 hfo hE hT h1
  go_enter Tryz.func4, Tryz.ntmps4
  go_wp2_with fail
  refine AW1.mono ?_
  rintro e w1 ⟨rfl, hb1⟩
  have AW2 := awake17 w1 (HE.out.mono hb1) (HT.out.mono hb1)
  have HB1 := Lib.hid hb1
  clear AW1 hb1
  by_cases h40 : os.length ≤ 40
  · have n40 : ¬ (40 : Int) < (os.length : Int) := by omega
    clear AW2
    go_wp2
    go_loopg [5, 34] os.length (fun gg v5 v34 wr => ∃ (i : Nat) (xs : List R3) (F : List Nat), v34 = .int .i64 i ∧ i + gg = os.length ∧ Hid (ObjL w1 xs v5 F wr ∧ osR xs = os.take i))
    case atStart => exact ⟨0, [], [], rfl, by omega, Lib.hid ⟨ObjL.nil w1, rfl⟩⟩
    case round =>
      obtain ⟨i, xs, F, rfl, hig, HL⟩ := hrel
      obtain ⟨P5, c5, rfl⟩ := slice_form HL.out.1.1
      have HXL : Hid (xs.length = i) := by
        have := congrArg List.length HL.out.2
        rw [osR_len, List.length_take] at this
        show _ = _
        omega
      have hxb : xs.length ≤ 40 := by rw [HXL.out]; omega
      have HBR := Lib.hid (HB1.out.trans (HL.out.1.2.2.2.2.mono HB1.out.size))
      cases gk with
      | succ gg =>
        --[A
        have hin : i < os.length := by omega
        have hie : (i : Int) < (os.length : Int) := by omega
        obtain ⟨_, _, hv0, _, hfit, hk⟩ := H0.out
        cases hv0
        obtain ⟨b, off, rfl, hlt, hk⟩ := hk (by rintro rfl; simp at hin)
        obtain ⟨t, j, x, hox⟩ : ∃ t j x, os[i] = (t, j, x) := ⟨_, _, _, rfl⟩
        have hog : os[i]? = some (t, j, x) := by rw [List.getElem?_eq_getElem hin, hox]
        obtain ⟨ai, ci, ak, ck, hx, k0, k1, k2, k3, k4, k5, k6⟩ := hk i t j x hog
        have q : ∀ {o : Nat} {u : Value}, w.cell? ⟨b, o, none⟩ = some u → wr.cell? ⟨b, o, none⟩ = some u := fun {o u} hu => (HBR.out.cell (p := ⟨b, o, none⟩) hlt).trans hu
        have k0 := q k0
        have k1 := q k1
        have k2 := q k2
        have k3 := q k3
        have k4 := q k4
        have k5 := q k5
        have k6 := q k6
        obtain ⟨w5, hw5⟩ : ∃ w5, w5 = wr.alloc (.cells #[.string ⟨t.toArray⟩, .string ⟨j.toArray⟩, .int .i64 x.kind, .bool x.flag, .string ⟨x.text.toArray⟩, .slice ai x.items.length ci, .slice ak x.keys.length ck] 47) := ⟨_, rfl⟩
        have n5 : w5.heap[wr.heap.size]? = some (.cells #[str t, str j, .int .i64 x.kind, .bool x.flag, str x.text, .slice ai x.items.length ci, .slice ak x.keys.length ck] 47 (0, 0)) := by rw [hw5]; exact heap_alloc_new _ _
        have b5 : Below wr.heap.size wr w5 := by rw [hw5]; exact (Below.refl _ wr).alloc (Nat.le_refl _) _
        obtain ⟨O, hO⟩ : ∃ O, wr.heap.size = O := ⟨_, rfl⟩
        rw [hO] at n5
        have bw5 := HBR.out.trans (b5.mono HBR.out.size)
        have GR := good_rval x _ w5 (hx.mono bw5)
        have HX := Lib.hid hx
        have HL5 := Lib.hid (HL.out.1.stays b5)
        have HBW5 := Lib.hid bw5
        have HN5 := Lib.hid n5
        have HTK := Lib.hid (show os.take (i + 1) = os.take i ++ [(t, j, x)] by rw [List.take_add_one, hog]; rfl)
        have HOS := Lib.hid HL.out.2
        clear q hk hox hx hfit hog b5 bw5 HL HBR
        go_upto_region 7 with fail
        rw [← hw5]
        try rw [hO]
        clear hw5 hO k0 k1 k2 k3 k4 k5 k6
        obtain ⟨o0, o1, o2, o3, o4, o5, o6⟩ := box7 n5
        clear n5
        obtain ⟨g, hg⟩ : ∃ g, goodV x = g := ⟨_, rfl⟩
        rw [hg] at GR
        have HG := Lib.hid hg
        clear hg
        go_wp2_with fail
        refine GR.mono ?_
        rintro e w6 ⟨rfl, hb6⟩
        have HB6 := Lib.hid hb6
        clear GR hb6 o0 o1 o2 o3 o4 o5 o6
        cases g with
        | false =>
          go_wp2
          go_ret
          exact ⟨rfl, HBW5.out.trans (HB6.out.mono HBW5.out.size)⟩
        | true =>
          have n6 := (HB6.out.block _ (heap_lt HN5.out)).trans HN5.out
          obtain ⟨o0, o1, o2, o3, o4, o5, o6⟩ := box7 n6
          have HN6 := Lib.hid n6
          have bw6 := HBW5.out.trans (HB6.out.mono HBW5.out.size)
          obtain ⟨hfv, hsz⟩ := goodV_facts HG.out
          have HCL := Lib.hid (fun W (hW : Below w6.heap.size w6 W) => clone_rval x _ W (HX.out.mono (bw6.trans (hW.mono bw6.size))) hfv (by omega : sizeV x ≤ 1000000))
          have hL6 := HL5.out.stays HB6.out
          have hEND : ∀ (w2 w3 : World) (v' : Value) (F1 : List Nat) (si : Option Addr) (sc : Nat) (sk : Option Addr) (sd : Nat) (o : Obj), Below w6.heap.size w6 w2 → OwnVal w2 x (.agg #[.int .i64 x.kind, .bool x.flag, str x.text, .slice si x.items.length sc, .slice sk x.keys.length sd]) F1 → F1.Nodup → (∀ q ∈ F1, w6.heap.size ≤ q) →
              w3.ownsRow w1.heap.size 47 7 v' (xs.length + 1) (rowC xs ++ [str t, str j, .int .i64 x.kind, .bool x.flag, str x.text, .slice si x.items.length sc, .slice sk x.keys.length sd]) → (w2.alloc o).grownBy w3 (Value.slice P5 xs.length c5).ownBlock →
              ObjL w1 (xs ++ [((t, j, x), (si, sc, sk, sd))]) v' (F ++ F1) w3 := fun w2 w3 v' F1 si sc sk sd o hb hx hd hF hown hg => ObjL.push (r := ((t, j, x), (si, sc, sk, sd))) hL6 hb hx hd hF hown hg
          have HEND := Lib.hid hEND
          have HROW := Lib.hid (fun W (hW : Below w6.heap.size w6 W) => (hL6.stays hW).1)
          have hw16 := hL6.2.2.2.2.size
          clear hEND hL6 n6 bw6 hfv hsz HX HL5
          go_upto_region 9 with fail
          go_region_law_o (first
            | (go_simp; go_at_call 12; refine (HCL.out _ (Below.refl _ w6).drew).mono ?_; rintro e w2 ⟨z1, F1, rfl, hov, hnd, hge, hb1⟩; obtain ⟨si, sc, sk, sd, rfl⟩ := hov.at.form; have hb2 : Below w6.heap.size w6 w2 := (Below.refl _ w6).drew.trans (hb1.mono (Nat.le_refl _)); have hs2 := hb2.size; have HQ1 := Lib.hid (fun w3 v' o => HEND.out w2 w3 v' F1 si sc sk sd o hb2 hov hnd hge); have HO1 := Lib.hid (fun o => HROW.out _ (hb2.alloc (o := o) hs2)); obtain ⟨d0, d1, d2, d3, d4, d5, d6⟩ := box7 ((hb2.block _ (heap_lt HN6.out)).trans HN6.out); clear hov hnd hge hb1 hb2)
            | (refine step_append_fresh rfl (.tmp 42) (.tmp 51) 22 rfl w1.heap.size 47 i1 _ 7 112 Tryz.underlying22 hi1 hz1 hzs1 hzb1 rfl (by decide) (.slice P5 xs.length c5) xs.length (rowC xs) (by simp [Act.eval]) (HO1.out _) ⟨w2.heap.size, 0, none⟩ 1 1 [str t, str j, .int .i64 x.kind, .bool x.flag, str x.text, .slice si x.items.length sc, .slice sk x.keys.length sd] (by simp [Act.eval]) rfl (cells_new w2 _ _) (by intro y hy; simp at hy; rcases hy with rfl | rfl | rfl | rfl | rfl | rfl | rfl <;> rfl) (by unfold maxLen; omega) (by omega) (by simp; omega) ?_; intro v' w3 hown hgrow hv'; have HR := Lib.hid (HQ1.out w3 v' _ hown hgrow); obtain ⟨a', c', rfl⟩ := slice_form hown; clear hown hgrow hv'))
          all_goals
            clear d0 d1 d2 d3 d4 d5 d6 o0 o1 o2 o3 o4 o5 o6 HQ1 HO1 HCL HROW HN6 HEND
            go_wp2
            go_roundg gg
            case measure => omega
            case rel => exact ⟨i + 1, xs ++ [((t, j, x), (si, sc, sk, sd))], _, by go_num, by omega, Lib.hid ⟨HR.out, by rw [osR_push, HOS.out, HTK.out]⟩⟩
        --]A
      | zero =>
        --[Z
        obtain rfl : i = os.length := by omega
        have hxo : osR xs = os := by rw [HL.out.2, List.take_length]
        obtain ⟨wf, hwf⟩ : ∃ wf, wf = wr.alloc (.cells #[.int .i64 1, .string ⟨#[116, 46, 98]⟩] 52) := ⟨_, rfl⟩
        have bf : Below wr.heap.size wr wf := by rw [hwf]; exact (Below.refl _ wr).alloc (Nat.le_refl _) _
        have nf : wf.heap[wr.heap.size]? = some (.cells #[.int .i64 1, .string ⟨#[116, 46, 98]⟩] 52 (0, 0)) := by rw [hwf]; exact heap_alloc_new _ _
        have cf : CellsAt wf (.slice (some ⟨wr.heap.size, 0, none⟩) 1 1) 1 (failCells [(1, [116, 46, 98])]) := by rw [hwf]; exact cellsAt_one wr _ _ 1 (by omega)
        have hB0 : w.heap.size ≤ wr.heap.size := HBR.out.size
        obtain ⟨B, hB⟩ : ∃ B, wr.heap.size = B := ⟨_, rfl⟩
        have bwf := HBR.out.trans (bf.mono HBR.out.size)
        have hLF := HL.out.1.stays bf
        have hxl := HXL.out
        have HXO := Lib.hid hxo
        rw [hxl] at hLF
        have HLF := Lib.hid hLF
        rw [hB] at nf cf hB0
        have NX := new_o (osR xs) [(1, [116, 46, 98])] _ _ wf (HLF.out.objs (by rw [hxo]; exact HFO.out)) cf (by rw [hxo]; omega) (by simp) (HE.out.mono bwf) (HT.out.mono bwf)
        rw [hxo] at NX
        have HBF := Lib.hid bwf
        have HNF := Lib.hid nf
        have hFw : ∀ q ∈ F, w.heap.size ≤ q := fun q hq => Nat.le_trans HB1.out.size (HLF.out.2.2.2.1 q hq)
        have hFl : ∀ q ∈ F, q < wf.heap.size := fun q hq => HLF.out.2.1.lt q hq
        have HFW := Lib.hid (⟨hFw, hFl⟩ : _ ∧ _)
        clear hFw hFl bwf bf nf cf HL HBR hxo hLF hxl
        go_upto_region 12 with fail
        rw [← hwf]
        try rw [hB]
        rw [HXL.out]
        clear hwf hB
        go_wp2_with fail
        refine NX.mono ?_
        rintro e w2 ⟨hb2, hx2⟩
        have hbw2 := HBF.out.trans (hb2.mono HBF.out.size)
        obtain ⟨ms, hms, hmc, hmv⟩ := (H0.out).rows
        have hml : ms.length = os.length := by rw [← osR_len, hms]
        obtain ⟨wG, hwG⟩ : ∃ wG, wG = w2.alloc (.cells #[.int .i64 1, .string ⟨#[116, 46, 98]⟩] 52) := ⟨_, rfl⟩
        have hbG : Below w2.heap.size w2 wG := by rw [hwG]; exact (Below.refl _ w2).alloc (Nat.le_refl _) _
        have hbwG := hbw2.trans (hbG.mono hbw2.size)
        have NR := fun (X : List Nat) (hX : ∀ q ∈ X, w.heap.size ≤ q) (hX2 : ∀ q ∈ X, q < w2.heap.size) => new_r (F := X) (w := wG) (fun q hq => Nat.lt_of_lt_of_le (hX2 q hq) hbG.size) ms ao co [(1, [116, 46, 98])] (some ⟨w2.heap.size, 0, none⟩) 1
          (Kept.old (w0 := w) (fun W hW => by have := hmc.mono hW; rw [← hml] at this; exact this) hbwG hX) (by rw [hwG]; exact kept_one w2 _ _ 1 (by omega) X hX2) (fun r hr => Kept.old (w0 := w) (fun W hW => (hmv r hr).mono hW) hbwG hX) (by rw [hms]; exact HFO.out) (by omega)
        rw [hml, hms] at NR
        have HNR := Lib.hid NR
        have HB2 := Lib.hid hbw2
        have HBG := Lib.hid hbwG
        have hfl2 := hb2.size
        have HB2F := Lib.hid hb2
        obtain ⟨K2, hK2⟩ : ∃ K2, w2.heap.size = K2 := ⟨_, rfl⟩
        rw [hK2] at HNR hfl2
        clear hms hmc hmv hml NR NX hbw2 hbwG hb2
        rcases newP_code os [(1, [116, 46, 98])] with ⟨c, hc, hc0, hc1⟩ | ⟨S, hS, hSf, hSt⟩
        · rw [hc] at hx2
          obtain rfl := hx2
          have NR := HNR.out [] (by simp) (by simp)
          have HC := Lib.hid hc
          clear hc hbG
          go_wp2_with fail
          rw [← hwG]
          try rw [hK2]
          clear hwG hK2
          refine NR.mono ?_
          rintro e w3 ⟨hb3, hx3⟩
          rw [HC.out] at hx3
          obtain rfl := hx3
          have HB3 := Lib.hid (HBG.out.trans (hb3.mono HBG.out.size))
          obtain ⟨wg, hwg⟩ : ∃ wg, wg = w3.alloc (.cells #[.slice none 0 0, .slice none 0 0, .slice none 0 0] 32) := ⟨_, rfl⟩
          have HBg := Lib.hid (HB3.out.trans (show Below w.heap.size w3 wg by rw [hwg]; exact (Below.refl _ w3).alloc HB3.out.size _))
          clear NR hb3
          go_upto_region 14 with fail
          rw [← hwg]
          clear hwg
          go_wp2
          go_ret
          exact ⟨rfl, HBg.out⟩
        · rw [hS] at hx2
          obtain ⟨p, b, n, val, vf, vt, D, rfl, hn, hW, hF, hV, hVf⟩ := hx2
          have hlen := newP_len hS
          have hX0 : ∀ q ∈ wF p b vt ++ (B :: F), w.heap.size ≤ q := fun q hq => by
            rcases List.mem_append.1 hq with hq | hq
            · exact Nat.le_trans HBF.out.size (hF q hq)
            · rcases List.mem_cons.1 hq with rfl | hq
              · exact hB0
              · exact HFW.out.1 q hq
          have hX1 : ∀ q ∈ wF p b vt ++ (B :: F), q < K2 := fun q hq => by
            rcases List.mem_append.1 hq with hq | hq
            · rw [← hK2]
              exact hW.lt q hq
            · rcases List.mem_cons.1 hq with rfl | hq
              · exact Nat.lt_of_lt_of_le (heap_lt HNF.out) hfl2
              · exact Nat.lt_of_lt_of_le (HFW.out.2 q hq) hfl2
          have NR := HNR.out _ hX0 hX1
          have HW := Lib.hid (hW.below hbG)
          have HV := Lib.hid (⟨hF, hV.below hbG, hVf⟩ : _ ∧ _ ∧ _)
          have HS := Lib.hid hS
          have HS2 := Lib.hid (⟨hSf, hSt, hlen, hn⟩ : _ ∧ _ ∧ _ ∧ _)
          have HX := Lib.hid hX0
          have HWL := Lib.hid hW.lt
          rw [hK2] at HWL
          clear hS hSf hSt hlen hn hW hF hV hVf HNR hX0 hX1
          go_wp2_with fail
          rw [← hwG]
          try rw [hK2]
          clear hwG
          refine NR.mono ?_
          rintro e w3 ⟨hb3, hx3⟩
          rw [HS.out] at hx3
          obtain ⟨m, ks, rfl, hR⟩ := hx3
          obtain ⟨a1, c1, a2, c2, a3, c3, rfl, _⟩ := hR.form
          obtain ⟨wg, hwg⟩ : ∃ wg, wg = w3.alloc (.cells #[.slice a1 ks.length c1, .slice a2 S.fails.length c2, .slice a3 S.trace.length c3] 32) := ⟨_, rfl⟩
          have hbg : Below w3.heap.size w3 wg := by rw [hwg]; exact (Below.refl _ w3).alloc (Nat.le_refl _) _
          have nG := heap_alloc_new w3 (.cells #[.slice a1 ks.length c1, .slice a2 S.fails.length c2, .slice a3 S.trace.length c3] 32)
          rw [← hwg] at nG
          have hbGg := hb3.trans (hbg.mono hb3.size)
          have hfg : Below wf.heap.size wf wg := HB2F.out.trans ((hbG.trans (hbGg.mono hbG.size)).mono HB2F.out.size)
          have hrg := (hR.step (F' := (wF p b vt ++ (B :: F)) ++ [w3.heap.size]) (Spares.of_below hbg) fun q hq => by
            rcases List.mem_append.1 hq with hq | hq
            · exact .inl hq
            · have : q = w3.heap.size := by simpa using hq
              exact .inr (by rw [this]; exact Nat.le_refl _))
          have HWG := Lib.hid (HW.out.below hbGg)
          have hV2 : ValsNew wf.heap.size wg S.objs val := HV.out.2.1.below hbGg
          have HLG := Lib.hid (HLF.out.stays hfg)
          have HBGG := Lib.hid (HBG.out.trans (hbGg.mono HBG.out.size))
          have nfg : wg.heap[B]? = some (.cells #[.int .i64 1, .string ⟨#[116, 46, 98]⟩] 52 (0, 0)) := (hfg.block _ (heap_lt HNF.out)).trans HNF.out
          have f0 : wg.cell? ⟨B, 1, none⟩ = some (.string ⟨#[116, 46, 98]⟩) := by rw [Lib.cell_of_heap nfg]; rfl
          have f1 : wg.frozen? ⟨B, 1, none⟩ = false := Lib.frozen_of_heap nfg 1
          have hsp0 := SpR.fail HLG.out.spoils nfg (setC_spares wg B 1 (.string ⟨#[63]⟩))
          obtain ⟨wS, hwS⟩ : ∃ wS, wS = wg.setCell ⟨B, 1, none⟩ (.string ⟨#[63]⟩) := ⟨_, rfl⟩
          rw [← hwS] at hsp0
          obtain ⟨g, hg⟩ : ∃ g, w3.heap.size = g := ⟨_, rfl⟩
          rw [hg] at nG hrg
          have hgg : wf.heap.size ≤ g := by rw [← hg]; exact Nat.le_trans HB2F.out.size (Nat.le_trans hbG.size hb3.size)
          have hgl : g < wg.heap.size := heap_lt nG
          have hgF : ∀ q ∈ wF p b vt, q < g := fun q hq => by
            have := HWL.out q hq
            have := hbG.size
            have := hb3.size
            omega
          have hX9 : ∀ q ∈ B :: F, q < wf.heap.size := fun q hq => by
            rcases List.mem_cons.1 hq with rfl | hq
            · exact heap_lt HNF.out
            · exact HFW.out.2 q hq
          have HNG := Lib.hid nG
          have HRG := Lib.hid hrg
          have HV2 := Lib.hid hV2
          have HSP := Lib.hid hsp0
          have HX9 := Lib.hid hX9
          have HGF := Lib.hid hgF
          have hfgs : wf.heap.size ≤ wg.heap.size := hfg.size
          clear NR hb3 hbg hbGg nG hV2 hfg nfg hsp0 hR hX9 hgF hrg
          go_upto_region 14 with fail
          rw [← hwg]
          try rw [hg]
          clear hwg hg
          go_upto_region 17 with fail
          rw [← hwS]
          clear hwS f0 f1
          go_wp2
          go_loopg [80] os.length (fun gg v80 wr => ∃ k : Nat, v80 = .int .i64 k ∧ k + gg = os.length ∧ Hid (SpR wg (.slice P5 os.length c5) xs (B :: F) k wr))
          case atStart => exact ⟨0, rfl, by omega, HSP⟩
          case round =>
            clear HSP
            obtain ⟨k, rfl, hkg, HK⟩ := hrel
            cases gk with
            | succ gg =>
              have hkl : k < xs.length := by rw [HXL.out]; omega
              have hke : (k : Int) < (os.length : Int) := by omega
              obtain ⟨r, hr⟩ : ∃ r, xs[k]? = some r := ⟨_, List.getElem?_eq_getElem hkl⟩
              obtain ⟨b', off, rfl, hlt, d0, d1, d2, d3, d4, d5, d6⟩ := (CellsAt.row HK.out.row).obj hr
              obtain ⟨M, ho, hnd, hnx⟩ := HK.out.next hr (fun q hq => Nat.lt_of_lt_of_le (HX9.out q hq) hfgs)
              have SP := spoil_own r.1.2.2 (rV r) M wr ho hnd
              unfold rV at SP
              have HNX := Lib.hid hnx
              clear hr ho hnd hnx HK d0 d1
              go_wp2_with fail
              refine SP.mono ?_
              rintro e w5 ⟨rfl, hs⟩
              have HS5 := Lib.hid (HNX.out _ hs)
              clear SP hs HNX d2 d3 d4 d5 d6
              go_wp2
              go_roundg gg
              case measure => omega
              case rel => exact ⟨k + 1, by go_num, by omega, HS5⟩
            | zero =>
              obtain rfl : k = os.length := by omega
              have hsp := HK.out.sp
              have hW5 := HWG.out.older HV.out.1 HV2.out HV.out.2.2 hsp HX9.out
              have hR5 := HRG.out.step (F' := wF p b vt ++ [g]) (hsp.sub fun q hq _ => List.mem_append.2 (.inl (List.mem_append.2 (.inr hq)))) (fun q hq => .inl (by
                rcases List.mem_append.1 hq with hq | hq
                · exact List.mem_append.2 (.inl (List.mem_append.2 (.inl hq)))
                · exact List.mem_append.2 (.inr hq)))
              have n5 := (hsp.block g hgl (fun hm => by have := HX9.out g hm; omega)).trans HNG.out
              have bel5 := Below.spared HBGG.out hsp HBGG.out.size (fun q hq => HX.out q (List.mem_append.2 (.inr hq)))
              have CLN := clonew_w hW5 (by rw [HS2.out.2.1]; simp) (by rw [HS2.out.1]; simp)
              have HW5 := Lib.hid hW5
              have HR5 := Lib.hid hR5
              have HN5 := Lib.hid n5
              have HBL5 := Lib.hid bel5
              have hg5 : g < wr.heap.size := heap_lt n5
              have hF0 : ∀ q ∈ wF p b vt, w.heap.size ≤ q := fun q hq => HX.out q (List.mem_append.2 (.inl hq))
              have HF0 := Lib.hid hF0
              clear hsp hW5 hR5 n5 bel5 HK HWG HV2 HRG HNG HBGG HX9 HLG hF0
              go_wp2_with fail
              refine CLN.mono ?_
              rintro e w6 ⟨p', b', vf', vt', rfl, hW6, hF6, hb6⟩
              have n6 := (hb6.block g hg5).trans HN5.out
              obtain ⟨x0, x1, x2⟩ := box3 n6
              obtain ⟨wh, hwh⟩ : ∃ wh, wh = w6.alloc (.cells #[.slice a1 ks.length c1, .slice a2 S.fails.length c2, .slice a3 S.trace.length c3] 32) := ⟨_, rfl⟩
              have hbh : Below w6.heap.size w6 wh := by rw [hwh]; exact (Below.refl _ w6).alloc (Nat.le_refl _) _
              have nH := heap_alloc_new w6 (.cells #[.slice a1 ks.length c1, .slice a2 S.fails.length c2, .slice a3 S.trace.length c3] 32)
              rw [← hwh] at nH
              have hb5h := hb6.trans (hbh.mono hb6.size)
              have hs6 := hb6.size
              obtain ⟨h, hh⟩ : ∃ h, w6.heap.size = h := ⟨_, rfl⟩
              rw [hh] at nH
              have HL0 : Hid (LpO w wh p b g h 0 n S val vf vt D (.slice a1 ks.length c1) (.slice a2 S.fails.length c2) (.slice a3 S.trace.length c3) ks p' b' n S val vf' vt' D (.slice a1 ks.length c1) (.slice a2 S.fails.length c2) (.slice a3 S.trace.length c3) ks) := by
                obtain ⟨e1, e2, e3, e4⟩ := HS2.out
                refine ⟨⟨HW5.out.below hb5h, HR5.out.below hb5h, (hbh.block _ (heap_lt n6)).trans n6, HBL5.out.trans (hb5h.mono HBL5.out.size), HF0.out, ?_, fun hq => ?_, by rw [e2]; simp, by omega, by omega⟩, hW6.below hbh, HR5.out.below hb5h, nH, by omega, fun hq => ?_, fun q hq hq2 => ?_, by omega, e2⟩
                · exact Nat.le_trans HBF.out.size hgg
                · exact Nat.lt_irrefl _ (HGF.out g hq)
                · have := HGF.out h hq
                  omega
                · have := hF6 q hq
                  have := HGF.out q hq2
                  omega
              clear CLN hb6 hbh nH hb5h n6 hW6 hF6 HW5 HR5 HN5 HBL5
              go_upto_region 26 with fail
              rw [← hwh]
              try rw [hh]
              clear hwh hh x0 x1 x2
              obtain ⟨N, hN⟩ : ∃ N, N = min rs.length 30 := ⟨_, rfl⟩
              have hN1 : N ≤ rs.length := by omega
              have hN2 : N ≤ 30 := by omega
              have hN3 : N = rs.length ∨ N = 30 := by omega
              clear hN
              go_wp2
              go_loopg [16] N (fun gg v16 wr => ∃ (i n1 : Nat) (S1 : WS) (val1 : S8 → S8 → Value) (vt1 : Value) (D1 : DataW Value) (m0 m1 m2 : Value) (ms : List R3), v16 = .int .i64 i ∧ i + gg = N ∧ Hid (LpO w wr p b g h i n1 S1 val1 vf vt1 D1 m0 m1 m2 ms p' b' n S val vf' vt' D (.slice a1 ks.length c1) (.slice a2 S.fails.length c2) (.slice a3 S.trace.length c3) ks))
              case atStart => exact ⟨0, n, S, val, vt, D, _, _, _, ks, rfl, by omega, HL0⟩
              case round =>
                clear HL0
                obtain ⟨i, n1, S1, val1, vt1, D1, m0, m1, m2, ms, rfl, hig, HL⟩ := hrel
                cases gk with
                | zero =>
                  obtain rfl : i = N := by omega
                  by_cases q : i < rs.length
                  · have q1 : (i : Int) < (rs.length : Int) := by omega
                    have q2 : ¬ (i : Int) < 30 := by omega
                    have TL1 := tells HL.out.lp.wat HL.out.lp.ref (by have := HL.out.lp.ol; omega) (by have := HL.out.lp.tl; omega)
                    obtain ⟨x0, x1, x2⟩ := box3 HL.out.lp.box
                    go_wp2_with fail
                    refine TL1.mono ?_
                    rintro e wa ⟨rfl, hba⟩
                    have HLa := Lib.hid (HL.out.below hba)
                    have TL2 := tells HLa.out.cl HLa.out.ref (by have := HLa.out.size.1; omega) (by rw [HLa.out.size.2]; simp)
                    clear TL1 hba x0 x1 x2
                    obtain ⟨x0, x1, x2⟩ := box3 HLa.out.box
                    go_wp2_with fail
                    refine TL2.mono ?_
                    rintro e wb ⟨rfl, hbb⟩
                    have HEN := Lib.hid (HLa.out.below hbb).lp.bel
                    clear TL2 hbb x0 x1 x2
                    go_wp2
                    go_ret
                    exact ⟨rfl, HEN.out⟩
                  · have q1 : ¬ (i : Int) < (rs.length : Int) := by omega
                    have TL1 := tells HL.out.lp.wat HL.out.lp.ref (by have := HL.out.lp.ol; omega) (by have := HL.out.lp.tl; omega)
                    obtain ⟨x0, x1, x2⟩ := box3 HL.out.lp.box
                    go_wp2_with fail
                    refine TL1.mono ?_
                    rintro e wa ⟨rfl, hba⟩
                    have HLa := Lib.hid (HL.out.below hba)
                    have TL2 := tells HLa.out.cl HLa.out.ref (by have := HLa.out.size.1; omega) (by rw [HLa.out.size.2]; simp)
                    clear TL1 hba x0 x1 x2
                    obtain ⟨x0, x1, x2⟩ := box3 HLa.out.box
                    go_wp2_with fail
                    refine TL2.mono ?_
                    rintro e wb ⟨rfl, hbb⟩
                    have HEN := Lib.hid (HLa.out.below hbb).lp.bel
                    clear TL2 hbb x0 x1 x2
                    go_wp2
                    go_ret
                    exact ⟨rfl, HEN.out⟩
                | succ gg =>
                  --[R
                  have hil : i < rs.length := by omega
                  have q1 : (i : Int) < (rs.length : Int) := by omega
                  have q2 : (i : Int) < 30 := by omega
                  have q3 : (0 : Int) ≤ (i : Int) := by omega
                  obtain ⟨r, hr⟩ : ∃ r, rs[i]? = some r := ⟨_, List.getElem?_eq_getElem hil⟩
                  have hrm := List.mem_of_getElem? hr
                  obtain ⟨b9, off, rfl, hlt, k0, k1, k2, k3, k4, k5, k6, k7, k8, k9⟩ := (H1.out.cells.mono HL.out.lp.bel).op hr
                  obtain ⟨x0, x1, x2⟩ := box3 HL.out.lp.box
                  have HPL := Lib.hid (fun (W : World) (hW : Below wr.heap.size wr W) => by
                    have hL := (HL.out.below hW).lp
                    obtain ⟨e1, e2, e3, e4⟩ := H1.out.len r hrm
                    have h := play_any (G := [g]) hL.wat hL.ref (fun q hq => by
                      have : q = g := by simpa using hq
                      rw [this]
                      exact heap_lt hL.box) r.1 r.2.1 r.2.2.1 r.2.2.2.1 r.2.2.2.2 (Kept.old (w0 := w) (fun W' hW' => (H1.out.vals r hrm).mono hW') hL.bel hL.all) e1 e2 e3 e4 (by have := hL.tl; omega) (by have := hL.nl; omega) (by have := hL.ol; omega) (HE.out.mono hL.bel) (HT.out.mono hL.bel)
                    unfold opV at h
                    exact h)
                  have HR := Lib.hid hr
                  have HFI := Lib.hid (H1.out.len r hrm)
                  clear hr hrm
                  go_upto_region 30 with fail
                  go_region_law_o (go_simp; go_at_call 9; refine (HPL.out _ (Below.refl _ wr).drew).mono ?_; rintro e w3 hP; obtain ⟨z1, c1, z2, c2, z3, c3, ms', S', n', val', vt', D', rfl, hbox, hL⟩ := (HL.out.below (Below.refl _ wr).drew).next hP; obtain ⟨y0, y1, y2⟩ := box3 hbox; have y3 := Lib.frozen_of_heap hbox 0; have y4 := Lib.frozen_of_heap hbox 1; have y5 := Lib.frozen_of_heap hbox 2; have HL3 := Lib.hid hL; clear hP hL hbox)
                  all_goals
                    obtain ⟨wS, hwS⟩ : ∃ wS, wS = ((w3.setCell ⟨g, 0, none⟩ (.slice z1 ms'.length c1)).setCell ⟨g, 1, none⟩ (.slice z2 S'.fails.length c2)).setCell ⟨g, 2, none⟩ (.slice z3 S'.trace.length c3) := ⟨_, rfl⟩
                    rw [← hwS] at HL3 ⊢
                    clear hwS y0 y1 y2 y3 y4 y5 x0 x1 x2 k0 k1 k2 k3 k4 k5 k6 k7 k8 k9 HPL HL
                    have OB := objects_w HL3.out.lp.wat (by have := HL3.out.lp.ol; omega)
                    go_wp2_with fail
                    refine OB.mono ?_
                    rintro e w5 ⟨xs5, v5, F5, rfl, ho5, hL5⟩
                    have hx5 : xs5.length ≤ 100 := by
                      have := congrArg List.length ho5
                      rw [osR_len] at this
                      have := HL3.out.lp.ol
                      omega
                    clear ho5
                    obtain ⟨P6, c6, rfl⟩ := slice_form hL5.1
                    have HL5 := Lib.hid hL5
                    clear OB hL5
                    obtain ⟨gO, rfl⟩ : ∃ gO, gO = gg := ⟨_, rfl⟩
                    go_wp2
                    go_loopg [120] xs5.length (fun gg v120 wq => ∃ k : Nat, v120 = .int .i64 k ∧ k + gg = xs5.length ∧ Hid (SpR w5 (.slice P6 xs5.length c6) xs5 F5 k wq))
                    case atStart => exact ⟨0, rfl, by omega, HL5.out.spoils⟩
                    case round =>
                      obtain ⟨k, rfl, hkg, HK⟩ := hrel
                      obtain ⟨wq, rfl⟩ : ∃ wq, wq = wr := ⟨_, rfl⟩
                      cases gk with
                      | succ gg =>
                        have hkl : k < xs5.length := by omega
                        have hke : (k : Int) < (xs5.length : Int) := by omega
                        obtain ⟨r5, hr5⟩ : ∃ r, xs5[k]? = some r := ⟨_, List.getElem?_eq_getElem hkl⟩
                        obtain ⟨b5, off5, rfl, hlt5, d0, d1, d2, d3, d4, d5, d6⟩ := (CellsAt.row HK.out.row).obj hr5
                        obtain ⟨wO, hwO⟩ : ∃ wO, wO = wq.alloc (.cells #[str r5.1.1, str r5.1.2.1, .int .i64 r5.1.2.2.kind, .bool r5.1.2.2.flag, str r5.1.2.2.text, .slice r5.2.1 r5.1.2.2.items.length r5.2.2.1, .slice r5.2.2.2.1 r5.1.2.2.keys.length r5.2.2.2.2] 47) := ⟨_, rfl⟩
                        have hbO : Below wq.heap.size wq wO := by rw [hwO]; exact (Below.refl _ wq).alloc (Nat.le_refl _) _
                        have nO : wO.heap[wq.heap.size]? = some (.cells #[str r5.1.1, str r5.1.2.1, .int .i64 r5.1.2.2.kind, .bool r5.1.2.2.flag, str r5.1.2.2.text, .slice r5.2.1 r5.1.2.2.items.length r5.2.2.1, .slice r5.2.2.2.1 r5.1.2.2.keys.length r5.2.2.2.2] 47 (0, 0)) := by rw [hwO]; exact heap_alloc_new _ _
                        obtain ⟨M, ho, hnd, hnx⟩ := (HK.out.stays hbO).next hr5 HL5.out.2.1.lt
                        have SP := spoil_own r5.1.2.2 (rV r5) M wO ho hnd
                        unfold rV at SP
                        have HNX := Lib.hid hnx
                        obtain ⟨o0, o1, o2, o3, o4, o5, o6⟩ := box7 nO
                        clear hr5 ho hnd hnx HK nO hbO
                        go_upto_region 36 with fail
                        rw [← hwO]
                        clear hwO d0 d1 d2 d3 d4 d5 d6
                        go_wp2_with fail
                        refine SP.mono ?_
                        rintro e w6 ⟨rfl, hs⟩
                        have HS6 := Lib.hid (HNX.out _ hs)
                        clear SP hs HNX o0 o1 o2 o3 o4 o5 o6
                        go_wp2
                        go_roundg gg
                        case measure => omega
                        case rel => exact ⟨k + 1, by go_num, by omega, HS6⟩
                      | zero =>
                        obtain rfl : k = xs5.length := by omega
                        have hbq : Below wS.heap.size wS wq := Below.spared HL5.out.2.2.2.2 HK.out.sp HL5.out.2.2.2.2.size HL5.out.2.2.2.1
                        have HLQ := Lib.hid (HL3.out.below hbq)
                        clear hbq HK HL5
                        have TR := trace_w HLQ.out.lp.wat (by have := HLQ.out.lp.tl; omega)
                        go_wp2_with fail
                        refine TR.mono ?_
                        rintro e w7 ⟨v7, rfl, hown7, hb7⟩
                        obtain ⟨P7, c7, rfl⟩ := slice_form hown7
                        have HT7 := Lib.hid (TrR.start hown7 hb7)
                        obtain ⟨N7, hN7⟩ : ∃ N7, S'.trace.length = N7 := ⟨_, rfl⟩
                        rw [hN7] at HT7
                        clear TR hown7 hb7
                        have hn7 : N7 ≤ 100 := by rw [← hN7]; have := HLQ.out.lp.tl; omega
                        go_wp2
                        try rw [hN7]
                        clear hN7
                        go_loopg [132] N7 (fun gg v132 wt => ∃ k : Nat, v132 = .int .i64 k ∧ k + gg = N7 ∧ Hid (TrR wq P7 N7 wt))
                        case atStart => exact ⟨0, rfl, by omega, HT7⟩
                        case round =>
                          clear HT7
                          obtain ⟨k, rfl, hkg, HK⟩ := hrel
                          obtain ⟨wt, rfl⟩ : ∃ wt, wt = wr := ⟨_, rfl⟩
                          cases gk with
                          | succ gg =>
                            have hkl : k < N7 := by omega
                            have hke : (k : Int) < (N7 : Int) := by omega
                            obtain ⟨q7, u7, rfl, _, d0, d1, hnx⟩ := HK.out.cell hkl
                            have HNX := Lib.hid (hnx (.string ⟨#[63]⟩))
                            clear hnx HK
                            go_wp2
                            go_roundg gg
                            case measure => omega
                            case rel => exact ⟨k + 1, by go_num, by omega, HNX⟩
                          | zero =>
                            obtain rfl : k = N7 := by omega
                            have hd7 : decide ((k : Int) < (k : Int)) = false := by simp
                            have hbt : Below wq.heap.size wq wt := HK.out.1
                            have HLT := Lib.hid (HLQ.out.below hbt)
                            clear HK hbt HLQ
                            obtain ⟨e1, e2, e3, e4⟩ := HFI.out
                            have HRD := Lib.hid (fun (W : World) (hW : Below wt.heap.size wt W) => read_w (HLT.out.below hW).lp.wat r.1.typ r.1.id e3 e4)
                            obtain ⟨b8, off8, hae, hlt8, k0, k1, k2, k3, k4, k5, k6, k7, k8, k9⟩ := (H1.out.cells.mono HLT.out.lp.bel).op HR.out
                            injection hae with hae
                            injection hae with ha1 ha2
                            subst ha1 ha2
                            have hq2 : Below wt.heap.size wt wt.drew := (Below.refl _ wt).drew
                            have hz2 : Below wt.heap.size wt (wt.alloc (.cells #[.int .i64 0, .bool false, .string ⟨#[]⟩, .slice none 0 0, .slice none 0 0] 41)).drew := ((Below.refl _ wt).alloc (Nat.le_refl _) _).drew
                            have nz2 := heap_alloc_new wt (.cells #[.int .i64 0, .bool false, .string ⟨#[]⟩, .slice none 0 0, .slice none 0 0] 41)
                            clear e1 e2 e3 e4 k0 k1 k4 k5 k6 k7 k8 k9
                            generalize hasO S'.objs r.1.typ r.1.id = hB8 at HRD
                            generalize readV S'.objs r.1.typ r.1.id = x8 at HRD
                            go_upto_region 44 with fail
                            go_cut [22, 23] from 140 to 154 (fun s22 _ wc => ∃ q : Nat, s22 = .pointer (some ⟨q, 0, none⟩) ∧ Hid (RdZ wt x8 q wc))
                            case first =>
                              go_region_law_o (first
                                | (go_simp; go_at_call 17; refine (HRD.out _ hq2).mono ?_; rintro e w8 ⟨v8, F8, rfl, hov8, hnd8, hge8, hb8⟩; obtain ⟨si, sc, sk, sd, rfl⟩ := hov8.at.form; have HB8 := Lib.hid (hq2.trans (hb8.mono (Nat.le_refl _))); have HO8 := Lib.hid hov8; have HN8 := Lib.hid (⟨hnd8, fun z hz => Nat.le_trans hq2.size (hge8 z hz)⟩ : F8.Nodup ∧ ∀ z ∈ F8, wt.heap.size ≤ z); obtain ⟨y0, y1, y2, y3, y4, y5, y6, y7, y8, y9⟩ := free5 (heap_alloc_new w8 (.cells #[.int .i64 0, .bool false, .string ⟨#[]⟩, .slice none 0 0, .slice none 0 0] 41)); clear hov8 hnd8 hge8 hb8)
                                | (go_simp; go_at_call 17; refine (HRD.out _ hz2).mono ?_; rintro e w8 ⟨v8, F8, rfl, hov8, hnd8, hge8, hb8⟩; obtain ⟨si, sc, sk, sd, rfl⟩ := hov8.at.form; have HB8 := Lib.hid (hz2.trans (hb8.mono hz2.size)); have HO8 := Lib.hid hov8; have nz8 := (hb8.block wt.heap.size (heap_lt nz2)).trans nz2; have HN8 := Lib.hid (⟨hnd8, fun z hz => Nat.le_trans hz2.size (hge8 z hz), fun hz => Nat.lt_irrefl _ (Nat.lt_of_lt_of_le (heap_lt nz2) (hge8 _ hz))⟩ : F8.Nodup ∧ (∀ z ∈ F8, wt.heap.size ≤ z) ∧ wt.heap.size ∉ F8); have HZ8 := Lib.hid nz8; obtain ⟨y0, y1, y2, y3, y4, y5, y6, y7, y8, y9⟩ := free5 nz8; clear hov8 hnd8 hge8 hb8 nz8))
                              all_goals (try go_wp2)
                              all_goals go_meet
                              all_goals refine ⟨_, rfl, Lib.hid ?_⟩
                              all_goals first
                                | (have hz8 := HZ8.out; exact RdZ.put hz8 HO8.out HN8.out.1 HN8.out.2.1 HN8.out.2.2 HB8.out (Nat.le_refl _))
                                | exact RdZ.made HO8.out HN8.out.1 HN8.out.2 HB8.out
                            case rest =>
                              obtain ⟨q8, rfl, HZ⟩ := hcut
                              obtain ⟨si, sc, sk, sd, F8, n8, o8, d8, g8, b8'⟩ := HZ.out
                              obtain ⟨y0, y1, y2, y3, y4, _⟩ := cell_box5 n8
                              have SP := spoil_own x8 _ F8 wc o8 d8
                              have HB8 := Lib.hid (⟨b8', g8⟩ : _ ∧ _)
                              clear n8 o8 d8 g8 b8' HZ
                              go_wp2_with fail
                              refine SP.mono ?_
                              rintro e w9 ⟨rfl, hs9⟩
                              have HL9 := Lib.hid (HLT.out.below (Below.spared HB8.out.1 hs9 HB8.out.1.size HB8.out.2))
                              clear SP hs9 HB8 HLT y0 y1 y2 y3 y4 HRD
                              go_wp2
                              go_roundg gO
                              case measure => omega
                              case rel => exact ⟨i + 1, n', S', val', vt', D', _, _, _, ms', by go_num, by omega, HL9⟩
                  --]R
  · have n40 : (40 : Int) < (os.length : Int) := by omega
    go_wp2_with fail
    refine AW2.mono ?_
    rintro e w2 ⟨rfl, hb2⟩
    clear AW2
    go_wp2
    go_ret
    exact ⟨rfl, HB1.out.trans (hb2.mono HB1.out.size)⟩

end Go.Proofs.YtpbipngnoklmcaaGreatDoor
