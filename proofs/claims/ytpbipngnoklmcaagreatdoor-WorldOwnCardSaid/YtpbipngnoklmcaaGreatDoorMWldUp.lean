/- The walk of Update. The walk of Set. The walk of Kill. -/
import Derived.Test.YtpbipngnoklmcaaGreatDoorWldE
namespace Go.Proofs.YtpbipngnoklmcaaGreatDoor
open Go.RowKit
set_option maxRecDepth 100000
attribute [local go_sem] str_size str_toList str_get

variable {w : World} {p b n : Nat} {S : WS} {val : S8 → S8 → Value} {vf vt : Value} {D : DataW Value}

set_option maxHeartbeats 8000000 in
theorem update_w (h : WAt w p b n S val vf vt D) (addr typ i : S8) (x : VT) (v : Value) (hv : ValAt w x v) (ft : fitS typ) (fi : fitS i) (hl : S.trace.length ≤ 100000) (hn : n ≤ 100000) :
    Calls Tryz.prog 21 #[.pointer (some ⟨p, 0, none⟩), str addr, str typ, str i, v] w fun e w' =>
      e = .returned (.int .i64 (updateP S addr typ i x).2) ∧ ∃ n', n' ≤ n + 1 ∧ WStep w p b n' (updateP S addr typ i x).1 vf vt w' := by
  have mixed : Tryz.prog.follows .mixedOrders = true := by kernel_rfl
  have HV := Lib.hid hv
  obtain ⟨ai, ci, ak, ck, rfl⟩ := hv.form
  obtain ⟨wB, hwB⟩ : ∃ wB, wB = w.alloc (.cells #[.int .i64 x.kind, .bool x.flag, str x.text, .slice ai x.items.length ci, .slice ak x.keys.length ck] 41) := ⟨_, rfl⟩
  obtain ⟨b0, b1, b2, b3, b4, hsB, hbB⟩ := box5 hwB
  obtain ⟨wN, hwN⟩ : ∃ wN, wN = wB.alloc (.cells #[str typ, str i] 78) := ⟨_, rfl⟩
  have nN : wN.heap[wB.heap.size]? = some (.cells #[str typ, str i] 78 (0, 0)) := by rw [hwN]; exact heap_alloc_new _ _
  have sB : wB.heap.size = w.heap.size + 1 := by rw [hwB]; simp only [World.alloc, Array.size_push]
  rw [sB] at nN
  have bN : Below wB.heap.size wB wN := by rw [hwN]; exact (Below.refl _ wB).alloc (Nat.le_refl _) _
  have hbwN := hbB.trans (bN.mono hbB.size)
  have H := Lib.hid h
  have hur : updateP S addr typ i x = if goodA x = false then (S, 1) else if failsP S.fails 2 addr = true then (noteP S 2 addr typ i 160, 160)
    else if hasO S.objs typ i = false then (noteP S 2 addr typ i 4, 4) else (noteP (putP S (typ, i, x)) 2 addr typ i 0, 0) := rfl
  obtain ⟨R, hR⟩ : ∃ R, updateP S addr typ i x = R := ⟨_, rfl⟩
  rw [hR] at hur ⊢
  obtain ⟨V, hlk, _, _, vk0, vf0, vt0, va0, vn0, vc0, va1, vn1, vc1, rfl⟩ := h.look ft fi
  obtain ⟨B, hB⟩ : ∃ B, hasO S.objs typ i = B := ⟨_, rfl⟩
  rw [hB] at hlk hur
  simp only [show nameV typ i = .agg #[str typ, str i] from rfl] at hlk
  have HLK := Lib.hid hlk
  have HUR := Lib.hid hur
  have hN := h.below hbwN
  have HMO := Lib.hid (fun W (hW : Below wN.heap.size wN W) => (hN.below hW).map)
  have g0 : wN.cell? ⟨w.heap.size + 1, 0, none⟩ = some (str typ) := by rw [Lib.cell_of_heap nN]; rfl
  have g1 : wN.cell? ⟨w.heap.size + 1, 1, none⟩ = some (str i) := by rw [Lib.cell_of_heap nN]; rfl
  have c6 : wN.cell? ⟨p, 0, none⟩ = some (.map (some b)) := by rw [Lib.cell_of_heap hN.box]; rfl
  have hp6 := heap_lt hN.box
  have hN6 := heap_lt nN
  have hp6n : ¬ wN.heap.size = p := by omega
  have hp6m : ¬ p = wN.heap.size := by omega
  have hN6n : ¬ wN.heap.size = w.heap.size + 1 := by omega
  have hN6m : ¬ w.heap.size + 1 = wN.heap.size := by omega
  have HNN := Lib.hid nN
  have HBN := Lib.hid bN
  have HBW := Lib.hid hbwN
  clear hR hur hlk hB h hv hN nN bN hbwN sB
  go_enter Tryz.func21, Tryz.ntmps21
  go_upto_region 2 with fail
  rw [← hwB, ← hwN]
  clear hwB hwN
  go_cut [12, 13] from 17 to 25 (fun s12 s13 wx => s13 = .bool B ∧ Hid (Below wN.heap.size wN wx))
  case first =>
    have T1 := HLK.out _ (HMO.out _ ((Below.refl _ wN).drew))
    have T2 := fun o => HLK.out _ (HMO.out _ (((Below.refl _ wN).alloc (Nat.le_refl _) o).drew))
    obtain ⟨z0, z1, z2, z3, z4, y0, y1, y2, y3, y4⟩ := free5 (heap_alloc_new wN (.cells #[.int .i64 0, .bool false, .string ⟨#[]⟩, .slice none 0 0, .slice none 0 0] 41))
    go_region_law_o fail
    all_goals (try go_wp2)
    all_goals go_meet
    all_goals exact ⟨rfl, ((Below.refl _ wN).alloc (Nat.le_refl _) _).drew⟩
  case rest =>
    obtain ⟨rfl, HW⟩ := hcut
    clear g0 g1 c6 HLK HMO hp6 hp6n hp6m hN6n hN6m
    have hbc := HBW.out.trans (HW.out.mono HBW.out.size)
    have hBc := HBN.out.trans (HW.out.mono HBN.out.size)
    have c0 := box_at b0 hsB hBc
    have c1 := box_at b1 hsB hBc
    have c2 := box_at b2 hsB hBc
    have c3 := box_at b3 hsB hBc
    have c4 := box_at b4 hsB hBc
    have nC := (HW.out.block _ (heap_lt HNN.out)).trans HNN.out
    have GD := good_w x _ wc (HV.out.mono hbc)
    have HCC := Lib.hid (⟨hbc, hBc, nC⟩ : Below w.heap.size w wc ∧ Below wB.heap.size wB wc ∧ wc.heap[w.heap.size + 1]? = some (.cells #[str typ, str i] 78 (0, 0)))
    obtain ⟨g, hg⟩ : ∃ g, goodA x = g := ⟨_, rfl⟩
    rw [hg] at GD HUR
    have HG := Lib.hid hg
    clear hbc hBc nC HW HBN HNN hg
    go_wp2_with fail
    refine GD.mono ?_
    rintro e w1 ⟨rfl, hq1⟩
    have hb1 := HCC.out.1.trans (hq1.mono HCC.out.1.size)
    have hB1 := HCC.out.2.1.trans (hq1.mono HCC.out.2.1.size)
    have n1 := (hq1.block _ (heap_lt HCC.out.2.2)).trans HCC.out.2.2
    have H1 := Lib.hid (⟨hb1, hB1, n1⟩ : Below w.heap.size w w1 ∧ Below wB.heap.size wB w1 ∧ w1.heap[w.heap.size + 1]? = some (.cells #[str typ, str i] 78 (0, 0)))
    clear GD hq1 hb1 hB1 n1 c0 c1 c2 c3 c4 HCC
    cases g with
    | false =>
      have hr := HUR.out
      rw [if_pos rfl] at hr
      have HR := Lib.hid hr
      clear hr HUR
      go_wp2
      go_ret
      refine ⟨by rw [HR.out]; rfl, n, by omega, ?_⟩
      rw [HR.out]
      exact ⟨val, vt, D, H.out.below H1.out.1, Spares.of_below H1.out.1, fun q hq => .inl hq⟩
    | true =>
      have hr := HUR.out
      rw [if_neg (by simp)] at hr
      have FL := fail_w (H.out.below H1.out.1) 2 addr
      generalize failsP S.fails 2 addr = C at FL hr
      have HC2 := Lib.hid hr
      clear hr HUR
      go_wp2_with fail
      refine FL.mono ?_
      rintro e w2 ⟨rfl, hq2⟩
      have hb2 := H1.out.1.trans (hq2.mono H1.out.1.size)
      have hB2 := H1.out.2.1.trans (hq2.mono H1.out.2.1.size)
      have n2 := (hq2.block _ (heap_lt H1.out.2.2)).trans H1.out.2.2
      have d0 : w2.cell? ⟨w.heap.size + 1, 0, none⟩ = some (str typ) := by rw [Lib.cell_of_heap n2]; rfl
      have d1 : w2.cell? ⟨w.heap.size + 1, 1, none⟩ = some (str i) := by rw [Lib.cell_of_heap n2]; rfl
      have H2 := Lib.hid (⟨hb2, hB2, n2⟩ : Below w.heap.size w w2 ∧ Below wB.heap.size wB w2 ∧ w2.heap[w.heap.size + 1]? = some (.cells #[str typ, str i] 78 (0, 0)))
      have hsp2 := Lib.hid (Spares.of_below (F := wF p b vt) hb2)
      clear FL hq2 hb2 hB2 n2 H1
      cases C with
      | true =>
        have hr := HC2.out
        rw [if_pos rfl] at hr
        have HR := Lib.hid hr
        have NT := note_w (H.out.below H2.out.1) 2 addr typ i 160 hl
        rw [show nameV typ i = .agg #[str typ, str i] from rfl] at NT
        clear hr HC2
        go_wp2_with fail
        refine NT.mono ?_
        rintro e w3 ⟨rfl, hs3⟩
        have HS := Lib.hid (WStep.after hsp2.out hs3)
        clear hs3 NT d0 d1
        go_wp2
        go_ret
        refine ⟨by rw [HR.out]; rfl, n, by omega, ?_⟩
        rw [HR.out]
        exact HS.out
      | false =>
        have hr := HC2.out
        rw [if_neg (by simp)] at hr
        cases B with
        | false =>
          rw [if_pos rfl] at hr
          have HR := Lib.hid hr
          have NT := note_w (H.out.below H2.out.1) 2 addr typ i 4 hl
          rw [show nameV typ i = .agg #[str typ, str i] from rfl] at NT
          clear hr HC2
          go_wp2_with fail
          refine NT.mono ?_
          rintro e w3 ⟨rfl, hs3⟩
          have HS := Lib.hid (WStep.after hsp2.out hs3)
          clear hs3 NT d0 d1
          go_wp2
          go_ret
          refine ⟨by rw [HR.out]; rfl, n, by omega, ?_⟩
          rw [HR.out]
          exact HS.out
        | true =>
          rw [if_neg (by simp)] at hr
          have HR := Lib.hid hr
          obtain ⟨hfv, hsz⟩ := goodA_facts HG.out
          have c0 := box_at b0 hsB H2.out.2.1
          have c1 := box_at b1 hsB H2.out.2.1
          have c2 := box_at b2 hsB H2.out.2.1
          have c3 := box_at b3 hsB H2.out.2.1
          have c4 := box_at b4 hsB H2.out.2.1
          have c6 : w2.cell? ⟨p, 0, none⟩ = some (.map (some b)) := by rw [Lib.cell_of_heap (H.out.below H2.out.1).box]; rfl
          have HCL := Lib.hid (fun W (hW : Below w2.heap.size w2 W) => clone_val x _ W (HV.out.mono (H2.out.1.trans (hW.mono H2.out.1.size))) hfv (Nat.le_trans hsz (by decide)))
          have HAF := Lib.hid (fun W (hW : Below w2.heap.size w2 W) => (⟨H.out.below (H2.out.1.trans (hW.mono H2.out.1.size)), H2.out.1.trans (hW.mono H2.out.1.size), (hW.block _ (heap_lt H2.out.2.2)).trans H2.out.2.2⟩ : WAt W p b n S val vf vt D ∧ Below w.heap.size w W ∧ W.heap[w.heap.size + 1]? = some (.cells #[str typ, str i] 78 (0, 0))))
          have hNb : w.heap.size + 1 ≠ b := by
            have := H.out.map.lt
            omega
          have hst : ∀ W v F, WAt W p b n S val vf vt D → OwnVal W x v F → ∃ w', (Instr.mapUpdate 71 (.map (some b)) (.agg #[str typ, str i]) v).run Tryz.prog W = .ok () w' ∧ (WAt w' p b (n + 1) (putP S (typ, i, x)) (putVal val typ i v) vf vt (D.put (klW typ i) (.held v)) ∧ Spares [b] W w') := fun W v F h1 h2 => h1.store (by unfold maxLen; omega) ft fi HG.out h2
          have HST := Lib.hid hst
          clear hst hr HC2 b0 b1 b2 b3 b4 hfv hsz
          go_upto_region 9 with fail
          go_cut [] from 45 to 52 (fun wx => ∃ val' D', Hid (WAt wx p b (n + 1) (putP S (typ, i, x)) val' vf vt D' ∧ Spares (wF p b vt) w wx ∧ wx.heap[w.heap.size + 1]? = some (.cells #[str typ, str i] 78 (0, 0))))
          case first =>
            go_region_law_o (first
              | (go_simp; go_at_call 30; refine (HCL.out _ (Below.refl _ w2).drew).mono ?_; rintro e w3 ⟨v1, F1, rfl, hov, hnd, hge, hb1⟩; obtain ⟨si, sc, sk, sd, rfl⟩ := hov.at.form; have hb3 : Below w2.heap.size w2 w3 := (Below.refl _ w2).drew.trans (hb1.mono (Nat.le_refl _)); obtain ⟨a1, a2, a3⟩ := HAF.out _ hb3; have e0 : w3.cell? ⟨w.heap.size + 1, 0, none⟩ = some (str typ) := (by rw [Lib.cell_of_heap a3]; rfl); have e1 : w3.cell? ⟨w.heap.size + 1, 1, none⟩ = some (str i) := (by rw [Lib.cell_of_heap a3]; rfl); have e6 : w3.cell? ⟨p, 0, none⟩ = some (.map (some b)) := (by rw [Lib.cell_of_heap a1.box]; rfl); obtain ⟨w5, hr5, hW5', hs5'⟩ := HST.out _ _ _ a1 hov; have hW5 := Lib.hid hW5'; have hs5 := Lib.hid hs5'; have HA1 := Lib.hid a2; have HA3 := Lib.hid a3; clear hov hnd hge hb1 hb3 a1 a2 a3 hW5' hs5'))
            all_goals
              have hcut : ∃ val' D', Hid (WAt w5 p b (n + 1) (putP S (typ, i, x)) val' vf vt D' ∧ Spares (wF p b vt) w w5 ∧ w5.heap[w.heap.size + 1]? = some (.cells #[str typ, str i] 78 (0, 0))) := ⟨_, _, Lib.hid ⟨hW5.out, (Spares.of_below HA1.out).trans (hs5.out.sub fun k hk _ => by unfold wF; simp at hk; simp [hk]), (hs5.out.block _ (heap_lt HA3.out) (by simpa using hNb)).trans HA3.out⟩⟩
              clear hW5 hs5 hr5 HA1 HA3 HST HAF HCL e0 e1 e6 c0 c1 c2 c3 c4 d0 d1 c6
              try go_wp2
              go_meet
              exact hcut
          case rest =>
            obtain ⟨val', D', HX⟩ := hcut
            clear c0 c1 c2 c3 c4 d0 d1 c6 HCL HAF HST hNb
            have d0 : wc.cell? ⟨w.heap.size + 1, 0, none⟩ = some (str typ) := by rw [Lib.cell_of_heap HX.out.2.2]; rfl
            have d1 : wc.cell? ⟨w.heap.size + 1, 1, none⟩ = some (str i) := by rw [Lib.cell_of_heap HX.out.2.2]; rfl
            have NT := note_w HX.out.1 2 addr typ i 0 hl
            rw [show nameV typ i = .agg #[str typ, str i] from rfl] at NT
            go_wp2_with fail
            refine NT.mono ?_
            rintro e w3 ⟨rfl, hs3⟩
            have HS := Lib.hid (WStep.after HX.out.2.1 hs3)
            clear hs3 NT d0 d1
            go_wp2
            go_ret
            refine ⟨by rw [HR.out]; rfl, n + 1, Nat.le_refl _, ?_⟩
            rw [HR.out]
            exact HS.out

end Go.Proofs.YtpbipngnoklmcaaGreatDoor
namespace Go.Proofs.YtpbipngnoklmcaaGreatDoor
open Go.RowKit
set_option maxRecDepth 100000
attribute [local go_sem] str_size str_toList str_get

variable {w : World} {p b n : Nat} {S : WS} {val : S8 → S8 → Value} {vf vt : Value} {D : DataW Value}
theorem box7 {w : World} {g : Nat} {c0 c1 c2 c3 c4 c5 c6 : Value} {T : TypeId} (h : w.heap[g]? = some (.cells #[c0, c1, c2, c3, c4, c5, c6] T (0, 0))) : w.cell? ⟨g, 0, none⟩ = some c0 ∧ w.cell? ⟨g, 1, none⟩ = some c1 ∧ w.cell? ⟨g, 2, none⟩ = some c2 ∧ w.cell? ⟨g, 3, none⟩ = some c3 ∧ w.cell? ⟨g, 4, none⟩ = some c4 ∧ w.cell? ⟨g, 5, none⟩ = some c5 ∧ w.cell? ⟨g, 6, none⟩ = some c6 := by
  refine ⟨?_, ?_, ?_, ?_, ?_, ?_, ?_⟩ <;> (rw [Lib.cell_of_heap h]; rfl)

set_option maxHeartbeats 8000000 in
theorem set_w (h : WAt w p b n S val vf vt D) (typ i : S8) (x : VT) (ai : Option Addr) (ci : Nat) (ak : Option Addr) (ck : Nat) (hv : ValAt w x (.agg #[.int .i64 x.kind, .bool x.flag, str x.text, .slice ai x.items.length ci, .slice ak x.keys.length ck])) (ft : fitS typ) (fi : fitS i) (hn : n ≤ 100000) :
    Calls Tryz.prog 36 #[.pointer (some ⟨p, 0, none⟩), .agg #[str typ, str i, .int .i64 x.kind, .bool x.flag, str x.text, .slice ai x.items.length ci, .slice ak x.keys.length ck]] w fun e w' =>
      e = .returned (.int .i64 (setP S typ i x).2) ∧ ∃ n', n' ≤ n + 1 ∧ WStep w p b n' (setP S typ i x).1 vf vt w' := by
  have mixed : Tryz.prog.follows .mixedOrders = true := by kernel_rfl
  have HV := Lib.hid hv
  obtain ⟨wB, hwB⟩ : ∃ wB, wB = w.alloc (.cells #[str typ, str i, .int .i64 x.kind, .bool x.flag, str x.text, .slice ai x.items.length ci, .slice ak x.keys.length ck] 47) := ⟨_, rfl⟩
  have nB : wB.heap[w.heap.size]? = some (.cells #[str typ, str i, .int .i64 x.kind, .bool x.flag, str x.text, .slice ai x.items.length ci, .slice ak x.keys.length ck] 47 (0, 0)) := by rw [hwB]; exact heap_alloc_new _ _
  have hbB : Below w.heap.size w wB := by rw [hwB]; exact (Below.refl _ w).alloc (Nat.le_refl _) _
  have GD := good_w x _ wB (hv.mono hbB)
  have H := Lib.hid h
  have hur : setP S typ i x = if goodA x = false then (S, 1) else (putP S (typ, i, x), 0) := rfl
  obtain ⟨R, hR⟩ : ∃ R, setP S typ i x = R := ⟨_, rfl⟩
  rw [hR] at hur ⊢
  obtain ⟨g, hg⟩ : ∃ g, goodA x = g := ⟨_, rfl⟩
  rw [hg] at hur GD
  have HG := Lib.hid hg
  have HUR := Lib.hid hur
  have HNB := Lib.hid nB
  have HBB := Lib.hid hbB
  obtain ⟨c0, c1, c2, c3, c4, c5, c6⟩ := box7 nB
  clear hR hur hg h hv nB hbB
  go_enter Tryz.func36, Tryz.ntmps36
  go_upto_region 1 with fail
  rw [← hwB]
  clear hwB
  go_wp2_with fail
  refine GD.mono ?_
  rintro e w2 ⟨rfl, hq2⟩
  have hb2 := HBB.out.trans (hq2.mono HBB.out.size)
  have n2 := (hq2.block _ (heap_lt HNB.out)).trans HNB.out
  have H2 := Lib.hid (⟨hb2, n2⟩ : _ ∧ _)
  clear GD hq2 hb2 n2 c0 c1 c2 c3 c4 c5 c6
  cases g with
  | false =>
    have hr := HUR.out
    rw [if_pos rfl] at hr
    have HR := Lib.hid hr
    clear hr HUR
    go_wp2
    go_ret
    refine ⟨by rw [HR.out]; rfl, n, by omega, ?_⟩
    rw [HR.out]
    exact ⟨val, vt, D, H.out.below H2.out.1, Spares.of_below H2.out.1, fun q hq => .inl hq⟩
  | true =>
    have hr := HUR.out
    rw [if_neg (by simp)] at hr
    have HR := Lib.hid hr
    obtain ⟨hfv, hsz⟩ := goodA_facts HG.out
    obtain ⟨c0, c1, c2, c3, c4, c5, c6⟩ := box7 H2.out.2
    have m0 : w2.cell? ⟨p, 0, none⟩ = some (.map (some b)) := by rw [Lib.cell_of_heap (H.out.below H2.out.1).box]; rfl
    have HCL := Lib.hid (fun W (hW : Below w2.heap.size w2 W) => clone_val x _ W (HV.out.mono (H2.out.1.trans (hW.mono H2.out.1.size))) hfv (Nat.le_trans hsz (by decide)))
    have HAF := Lib.hid (fun W (hW : Below w2.heap.size w2 W) => (⟨H.out.below (H2.out.1.trans (hW.mono H2.out.1.size)), H2.out.1.trans (hW.mono H2.out.1.size), (hW.block _ (heap_lt H2.out.2)).trans H2.out.2⟩ : WAt W p b n S val vf vt D ∧ Below w.heap.size w W ∧ W.heap[w.heap.size]? = _))
    have hst : ∀ W v F, WAt W p b n S val vf vt D → OwnVal W x v F → ∃ w', (Instr.mapUpdate 71 (.map (some b)) (.agg #[str typ, str i]) v).run Tryz.prog W = .ok () w' ∧ (WAt w' p b (n + 1) (putP S (typ, i, x)) (putVal val typ i v) vf vt (D.put (klW typ i) (.held v)) ∧ Spares [b] W w') := fun W v F h1 h2 => h1.store (by unfold maxLen; omega) ft fi HG.out h2
    have HST := Lib.hid hst
    clear hst hr HUR hfv hsz
    go_upto_region 3 with fail
    go_cut [] from 9 to 21 (fun wx => ∃ val' D', Hid (WAt wx p b (n + 1) (putP S (typ, i, x)) val' vf vt D' ∧ Spares (wF p b vt) w wx))
    case first =>
      go_region_law_o (first
        | (go_simp; go_at_call 30; refine (HCL.out _ (Below.refl _ w2).drew).mono ?_; rintro e w3 ⟨v1, F1, rfl, hov, hnd, hge, hb1⟩; obtain ⟨si, sc, sk, sd, rfl⟩ := hov.at.form; have hb3 : Below w2.heap.size w2 w3 := (Below.refl _ w2).drew.trans (hb1.mono (Nat.le_refl _)); obtain ⟨a1, a2, a3⟩ := HAF.out _ hb3; obtain ⟨e0, e1, _⟩ := box7 a3; have e6 : w3.cell? ⟨p, 0, none⟩ = some (.map (some b)) := (by rw [Lib.cell_of_heap a1.box]; rfl); obtain ⟨w5, hr5, hW5', hs5'⟩ := HST.out _ _ _ a1 hov; have hW5 := Lib.hid hW5'; have hs5 := Lib.hid hs5'; have HA1 := Lib.hid a2; clear hov hnd hge hb1 hb3 a1 a2 a3 hW5' hs5'))
      all_goals
        have hcut : ∃ val' D', Hid (WAt w5 p b (n + 1) (putP S (typ, i, x)) val' vf vt D' ∧ Spares (wF p b vt) w w5) := ⟨_, _, Lib.hid ⟨hW5.out, (Spares.of_below HA1.out).trans (hs5.out.sub fun k hk _ => by unfold wF; simp at hk; simp [hk])⟩⟩
        clear hW5 hs5 hr5 HA1 HST HAF HCL e0 e1 e6 c0 c1 c2 c3 c4 c5 c6 m0
        try go_wp2
        go_meet
        exact hcut
    case rest =>
      obtain ⟨val', D', HX⟩ := hcut
      clear c0 c1 c2 c3 c4 c5 c6 m0 HCL HAF HST
      go_wp2
      go_ret
      refine ⟨by rw [HR.out]; rfl, n + 1, Nat.le_refl _, ?_⟩
      rw [HR.out]
      exact ⟨val', vt, D', HX.out.1, HX.out.2, fun q hq => .inl hq⟩

end Go.Proofs.YtpbipngnoklmcaaGreatDoor
namespace Go.Proofs.YtpbipngnoklmcaaGreatDoor
open Go.RowKit
set_option maxRecDepth 100000
attribute [local go_sem] str_size str_toList str_get

variable {w : World} {p b n : Nat} {S : WS} {val : S8 → S8 → Value} {vf vt : Value} {D : DataW Value}

set_option maxHeartbeats 8000000 in
theorem kill_w (h : WAt w p b n S val vf vt D) (typ i : S8) (ft : fitS typ) (fi : fitS i) :
    Calls Tryz.prog 38 #[.pointer (some ⟨p, 0, none⟩), str typ, str i] w fun e w' =>
      e = .returned (.int .i64 (killP S typ i).2) ∧ WStep w p b n (killP S typ i).1 vf vt w' := by
  have mixed : Tryz.prog.follows .mixedOrders = true := by kernel_rfl
  obtain ⟨wN, hwN⟩ : ∃ wN, wN = w.alloc (.cells #[str typ, str i] 78) := ⟨_, rfl⟩
  have nN : wN.heap[w.heap.size]? = some (.cells #[str typ, str i] 78 (0, 0)) := by rw [hwN]; exact heap_alloc_new _ _
  have bN : Below w.heap.size w wN := by rw [hwN]; exact (Below.refl _ w).alloc (Nat.le_refl _) _
  have H := Lib.hid h
  have hur : killP S typ i = if hasO S.objs typ i = false then (S, 4) else (delP S typ i, 0) := rfl
  obtain ⟨R, hR⟩ : ∃ R, killP S typ i = R := ⟨_, rfl⟩
  rw [hR] at hur ⊢
  obtain ⟨V, hlk, _, _, vk0, vf0, vt0, va0, vn0, vc0, va1, vn1, vc1, rfl⟩ := h.look ft fi
  obtain ⟨B, hB⟩ : ∃ B, hasO S.objs typ i = B := ⟨_, rfl⟩
  rw [hB] at hlk hur
  simp only [show nameV typ i = .agg #[str typ, str i] from rfl] at hlk
  have HLK := Lib.hid hlk
  have HUR := Lib.hid hur
  have hN := h.below bN
  have HMO := Lib.hid (fun W (hW : Below wN.heap.size wN W) => (hN.below hW).map)
  have g0 : wN.cell? ⟨w.heap.size, 0, none⟩ = some (str typ) := by rw [Lib.cell_of_heap nN]; rfl
  have g1 : wN.cell? ⟨w.heap.size, 1, none⟩ = some (str i) := by rw [Lib.cell_of_heap nN]; rfl
  have c6 : wN.cell? ⟨p, 0, none⟩ = some (.map (some b)) := by rw [Lib.cell_of_heap hN.box]; rfl
  have hp6 := heap_lt hN.box
  have hN6 := heap_lt nN
  have hp6n : ¬ wN.heap.size = p := by omega
  have hp6m : ¬ p = wN.heap.size := by omega
  have hN6n : ¬ wN.heap.size = w.heap.size := by omega
  have hN6m : ¬ w.heap.size = wN.heap.size := by omega
  have HNN := Lib.hid nN
  have HBN := Lib.hid bN
  clear hR hur hlk hB h hN nN bN
  go_enter Tryz.func38, Tryz.ntmps38
  go_upto_region 2 with fail
  rw [← hwN]
  clear hwN
  go_cut [8, 9] from 13 to 21 (fun s8 s9 wx => s9 = .bool B ∧ Hid (Below wN.heap.size wN wx))
  case first =>
    have T1 := HLK.out _ (HMO.out _ ((Below.refl _ wN).drew))
    have T2 := fun o => HLK.out _ (HMO.out _ (((Below.refl _ wN).alloc (Nat.le_refl _) o).drew))
    obtain ⟨z0, z1, z2, z3, z4, y0, y1, y2, y3, y4⟩ := free5 (heap_alloc_new wN (.cells #[.int .i64 0, .bool false, .string ⟨#[]⟩, .slice none 0 0, .slice none 0 0] 41))
    go_region_law_o fail
    all_goals (try go_wp2)
    all_goals go_meet
    all_goals exact ⟨rfl, ((Below.refl _ wN).alloc (Nat.le_refl _) _).drew⟩
  case rest =>
    obtain ⟨rfl, HW⟩ := hcut
    clear g0 g1 c6 HLK HMO hp6 hp6n hp6m hN6n hN6m
    have hbc := HBN.out.trans (HW.out.mono HBN.out.size)
    have nC := (HW.out.block _ (heap_lt HNN.out)).trans HNN.out
    cases B with
    | false =>
      have hr := HUR.out
      rw [if_pos rfl] at hr
      have HR := Lib.hid hr
      have HC := Lib.hid hbc
      clear hr HUR hbc nC
      go_wp2
      go_ret
      refine ⟨by rw [HR.out]; rfl, ?_⟩
      rw [HR.out]
      exact ⟨val, vt, D, H.out.below HC.out, Spares.of_below HC.out, fun q hq => .inl hq⟩
    | true =>
      have hr := HUR.out
      rw [if_neg (by simp)] at hr
      have HR := Lib.hid hr
      have h1 := H.out.below hbc
      have c0 : wc.cell? ⟨p, 0, none⟩ = some (.map (some b)) := by rw [Lib.cell_of_heap h1.box]; rfl
      have e0 : wc.cell? ⟨w.heap.size, 0, none⟩ = some (str typ) := by rw [Lib.cell_of_heap nC]; rfl
      have e1 : wc.cell? ⟨w.heap.size, 1, none⟩ = some (str i) := by rw [Lib.cell_of_heap nC]; rfl
      have H1 := Lib.hid h1
      have HC := Lib.hid hbc
      have hmap := h1.map
      have hmap_drew : ∀ k, (wc.drewN k).ownsMap Tryz.prog 78 heldR b n D := fun k => map_keep hmap rfl
      clear h1 hr HUR hbc nC
      go_wp2
      refine still_drew 5 (by kernel_rfl) (by kernel_rfl) ?_
      simp only [List.take_succ_cons, List.take_zero, List.drop_succ_cons, List.drop_zero]
      repeat still_step
      refine wpStill_nil ?_
      go_wp2_with (at_delete; refine wpList_delete_own _ rfl _ _ 71 78 rfl 41 keyK Tryz.underlying71 heldR b n D rfl (hmap_drew _) (nameV typ i) (klW typ i) rfl (keyOf_name ft fi) ?_)
      intro w2 hm2 ht2
      have h2 := Lib.hid (WAt.dropped (H1.out.drewN _) ft fi ht2 hm2)
      have hsp2 : Spares (wF p b vt) w w2 := (((Spares.of_below HC.out).drewN _)).trans ((turned_spares ht2).sub fun k hk _ => by unfold wF; simp at hk; simp [hk])
      have HS := Lib.hid hsp2
      clear hm2 ht2 hmap hmap_drew hsp2 e0 e1 c0
      go_wp2
      go_ret
      refine ⟨by rw [HR.out]; rfl, ?_⟩
      rw [HR.out]
      exact ⟨val, vt, _, h2.out, HS.out, fun q hq => .inl hq⟩

end Go.Proofs.YtpbipngnoklmcaaGreatDoor
