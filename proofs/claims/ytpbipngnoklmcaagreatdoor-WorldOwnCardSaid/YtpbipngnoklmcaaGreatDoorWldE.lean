/- The walk of Create. -/
import Derived.Test.YtpbipngnoklmcaaGreatDoorMWldD
import Derived.Test.YtpbipngnoklmcaaGreatDoorMGood
namespace Go.Proofs.YtpbipngnoklmcaaGreatDoor
open Go.RowKit
set_option maxRecDepth 100000
attribute [local go_sem] str_size str_toList str_get

variable {w : World} {p b n : Nat} {S : WS} {val : S8 → S8 → Value} {vf vt : Value} {D : DataW Value}

theorem fit_id (addr : S8) (_ha : addr.length ≤ 281474976710656) (k : Int) : (idN addr k).length ≤ addr.length + 1 + (Lib.itoa k).length := by
  unfold idN
  rw [List.length_append, List.length_append]
  exact Nat.le_refl _

set_option maxHeartbeats 8000000 in
theorem create_w (h : WAt w p b n S val vf vt D) (addr typ after : S8) (x : VT) (v : Value) (hv : ValAt w x v) (ha : addr.length ≤ 281474976710656) (haf : after.length ≤ 281474976710656) (ft : fitS typ)
    (hl : S.trace.length ≤ 100000) (hn : n ≤ 100000) (ho : S.objs.length ≤ 100000) (hE : ErrW w) (hT : TabW w) :
    Calls Tryz.prog 18 #[.pointer (some ⟨p, 0, none⟩), str addr, str typ, str after, v] w fun e w' =>
      e = .returned (.tuple #[str (createP S addr typ after x).2.1, .int .i64 (createP S addr typ after x).2.2]) ∧ ∃ n', n' ≤ n + 1 ∧ WStep w p b n' (createP S addr typ after x).1 vf vt w' := by
  have mixed : Tryz.prog.follows .mixedOrders = true := by kernel_rfl
  have HV := Lib.hid hv
  obtain ⟨ai, ci, ak, ck, rfl⟩ := hv.form
  obtain ⟨wB, hwB⟩ : ∃ wB, wB = w.alloc (.cells #[.int .i64 x.kind, .bool x.flag, str x.text, .slice ai x.items.length ci, .slice ak x.keys.length ck] 41) := ⟨_, rfl⟩
  obtain ⟨b0, b1, b2, b3, b4, hsB, hbB⟩ := box5 hwB
  have GD := good_w x _ wB (HV.out.mono hbB)
  have H := Lib.hid h
  have HE := Lib.hid hE
  have HT := Lib.hid hT
  have hcr : createP S addr typ after x = if goodA x = false then (S, [], 1) else if failsP S.fails 1 addr = true then (noteP S 1 addr typ [] 160, [], 160)
    else (noteP (putP S (typ, newId S.objs addr typ after, x)) 1 addr typ (newId S.objs addr typ after) 0, newId S.objs addr typ after, 0) := rfl
  obtain ⟨R, hR⟩ : ∃ R, createP S addr typ after x = R := ⟨_, rfl⟩
  rw [hR] at hcr ⊢
  obtain ⟨g, hg⟩ : ∃ g, goodA x = g := ⟨_, rfl⟩
  rw [hg] at hcr GD
  have HG := Lib.hid hg
  have HC := Lib.hid hcr
  clear hcr hR h hE hT hg hv
  go_enter Tryz.func18, Tryz.ntmps18
  go_upto_region 1 with fail
  rw [← hwB]
  clear hwB
  go_wp2_with fail
  refine GD.mono ?_
  rintro e w1 ⟨rfl, hq1⟩
  have hbw1 := hbB.trans (hq1.mono (by omega))
  have hsp1 : Spares (wF p b vt) w w1 := Spares.of_below hbw1
  have c0 := box_at b0 hsB hq1
  have c1 := box_at b1 hsB hq1
  have c2 := box_at b2 hsB hq1
  have c3 := box_at b3 hsB hq1
  have c4 := box_at b4 hsB hq1
  clear GD
  cases g with
  | false =>
    have hr := HC.out
    rw [if_pos rfl] at hr
    have HR := Lib.hid hr
    clear hr HC
    go_wp2
    go_ret2
    refine ⟨by rw [HR.out]; rfl, n, by omega, ?_⟩
    rw [HR.out]
    exact ⟨val, vt, D, H.out.below hbw1, hsp1, fun q hq => .inl hq⟩
  | true =>
    have hr := HC.out
    rw [if_neg (by simp)] at hr
    have FL := fail_w (H.out.below hbw1) 1 addr
    generalize failsP S.fails 1 addr = B at FL hr
    have HC2 := Lib.hid hr
    clear hr HC
    go_wp2_with fail
    refine FL.mono ?_
    rintro e w2 ⟨rfl, hq2⟩
    have hbw2 := hbw1.trans (hq2.mono hbw1.size)
    have hsp2 : Spares (wF p b vt) w w2 := Spares.of_below hbw2
    have hq12 := hq1.trans (hq2.mono hq1.size)
    clear FL c0 c1 c2 c3 c4
    cases B with
    | true =>
      have hr := HC2.out
      rw [if_pos rfl] at hr
      have HR := Lib.hid hr
      have NT := note_w (H.out.below hbw2) 1 addr typ [] 160 hl
      rw [show nameV typ [] = .agg #[str typ, .string ⟨#[]⟩] from rfl] at NT
      clear hr HC2
      go_wp2_with fail
      refine NT.mono ?_
      rintro e w3 ⟨rfl, hs3⟩
      have HS := Lib.hid (WStep.after hsp2 hs3)
      clear hs3 NT
      go_wp2
      go_ret2
      refine ⟨by rw [HR.out]; rfl, n, by omega, ?_⟩
      rw [HR.out]
      exact HS.out
    | false =>
      have hr := HC2.out
      rw [if_neg (by simp)] at hr
      have HR := Lib.hid hr
      clear hr HC2
      obtain ⟨w3, hw3⟩ : ∃ w3, w3 = w2.alloc (.cells #[str typ, .string ⟨#[]⟩] 78) := ⟨_, rfl⟩
      have hn3 : w3.heap[w2.heap.size]? = some (.cells #[str typ, .string ⟨#[]⟩] 78 (0, 0)) := by rw [hw3]; exact heap_alloc_new _ _
      have hb3 : Below w2.heap.size w2 w3 := by rw [hw3]; exact (Below.refl _ w2).alloc (Nat.le_refl _) _
      have hbw3 := hbw2.trans (hb3.mono hbw2.size)
      have hl3 := heap_lt hn3
      have BH := behind_w addr after ha haf w3 (HE.out.mono hbw3) (HT.out.mono hbw3)
      obtain ⟨k0, hk0⟩ : ∃ k0, behindP addr after = k0 := ⟨_, rfl⟩
      have hkb := behind_bd addr after
      rw [hk0] at BH hkb
      have HK0 := Lib.hid hk0
      clear hk0
      go_upto_region 6 with fail
      rw [← hw3]
      clear hw3
      go_wp2_with fail
      refine BH.mono ?_
      rintro e w4 ⟨rfl, hq4⟩
      have hn4 := (hq4.block _ hl3).trans hn3
      have hbw4 := hbw3.trans (hq4.mono hbw3.size)
      have hq34 := hb3.trans (hq4.mono hb3.size)
      clear BH hn3
      obtain ⟨N, hN⟩ : ∃ N, w2.heap.size = N := ⟨_, rfl⟩
      have hwN : w.heap.size ≤ N := by rw [← hN]; exact hbw2.size
      have hBN : wB.heap.size ≤ N := by rw [← hN]; exact hq12.size
      obtain ⟨jf, hjf, hfree⟩ := free_id (fun _ _ h => itoa_inj h) typ addr S.objs.length S.objs k0 (Nat.le_refl _)
      have HF := Lib.hid hfree
      rw [hN] at hn4
      have HQ := Lib.hid hq34
      have hNl : N < w4.heap.size := heap_lt hn4
      have hb4N : Below N w2 w4 := by rw [← hN]; exact hq34
      have HBW2 := Lib.hid hbw2
      have HQ12 := Lib.hid hq12
      have HSP2 := Lib.hid hsp2
      rw [hN]
      clear hfree hq34 hN hbw4 hbw3 hbw1 hb3 hq1 hq2 hq4 hl3 hbw2 hq12 hsp2 hsp1
      go_wp2
      go_loopg [13] (S.objs.length + 2) (fun gg v13 wr => ∃ j : Nat, v13 = .int .i64 (k0 + j) ∧ j ≤ jf ∧ S.objs.length - j < gg ∧ Hid (∀ m : Nat, m < j → hasO S.objs typ (idN addr (k0 + m)) = true) ∧ (∃ id : S8, wr.heap[N]? = some (.cells #[str typ, str id] 78 (0, 0))) ∧ Below N w4 wr)
      case atStart => exact ⟨0, by simp, by omega, by omega, fun m h => by omega, ⟨[], hn4⟩, Below.refl _ _⟩
      case round =>
        obtain ⟨j, rfl, hj, hgk, HM, ⟨id, hid⟩, hbr⟩ := hrel
        have hkr : k0 + (j : Int) ≤ 1000100001 := by omega
        have hk1 : 1 ≤ k0 + (j : Int) := by omega
        obtain ⟨k, hk⟩ : ∃ k, k0 + (j : Int) = k := ⟨_, rfl⟩
        rw [hk] at hkr hk1 ⊢
        have HKJ := Lib.hid hk
        clear hk
        have hbrw : Below w.heap.size w wr := HBW2.out.trans ((hb4N.trans hbr).mono hwN)
        have IT := Tryz.strconv_Itoa k (by omega) (by omega) wr (HT.out.mono hbrw)
        have hgI : goodS (Lib.itoa k) = true := good_itoa (by
          have : k.natAbs ≤ 1000100001 := by omega
          exact Nat.lt_of_le_of_lt this (by decide))
        have hIl := (good_parts hgI).2.2
        have hidk : addr ++ [35] ++ Lib.itoa k = idN addr k := rfl
        obtain ⟨I, hI⟩ : ∃ I, Lib.itoa k = I := ⟨_, rfl⟩
        rw [hI] at IT hIl hidk
        have ad1 : ∀ W, (Op.stringOp .add (ByteArray.mk addr.toArray) (ByteArray.mk ([35] : S8).toArray)).run Tryz.prog W = .ok (str (addr ++ [35])) W := fun W => str_add _ _ (by simp only [List.length_cons, List.length_nil]; omega)
        have hapl : (addr ++ [35]).length = addr.length + 1 := by rw [List.length_append]; rfl
        obtain ⟨AP, hAP⟩ : ∃ x, addr ++ [35] = x := ⟨_, rfl⟩
        rw [hAP] at ad1 hapl hidk
        have ad2 : ∀ W, (Op.stringOp .add (ByteArray.mk AP.toArray) (ByteArray.mk I.toArray)).run Tryz.prog W = .ok (str (AP ++ I)) W := fun W => str_add _ _ (by omega)
        rw [hidk] at ad2
        have hfi : fitS (idN addr k) := by
          show (idN addr k).length ≤ _
          rw [← hidk, List.length_append]
          omega
        obtain ⟨V, hlk, _, _, vk0, vf0, vt0, va0, vn0, vc0, va1, vn1, vc1, rfl⟩ := H.out.look ft hfi
        obtain ⟨ID, hID⟩ : ∃ x, idN addr k = x := ⟨_, rfl⟩
        rw [hID] at ad2 hlk hfi
        have HID := Lib.hid hID
        have HLK := Lib.hid hlk
        clear hgI hIl hidk hI hAP hapl hID hlk
        go_wp2_with fail
        refine IT.mono ?_
        rintro e w5 ⟨rfl, kk, os, rfl⟩
        have hb5 := hbr.trans ((grow_below wr kk os).mono (by have := hbr.size; omega))
        have hbl5 := ((grow_below wr kk os).block N (heap_lt hid)).trans hid
        obtain ⟨w5, hw5⟩ : ∃ w5, Sort.grow (wr.drewN kk) os = w5 := ⟨_, rfl⟩
        rw [hw5] at hb5 hbl5 ⊢
        have f1 : w5.frozen? ⟨N, 1, none⟩ = false := Lib.frozen_of_heap hbl5 1
        have f0 : w5.cell? ⟨N, 1, none⟩ = some (str id) := by rw [Lib.cell_of_heap hbl5]; rfl
        obtain ⟨w6, hw6⟩ : ∃ w6, w6 = w5.setCell ⟨N, 1, none⟩ (str ID) := ⟨_, rfl⟩
        have hbl6 : w6.heap[N]? = some (.cells #[str typ, str ID] 78 (0, 0)) := by rw [hw6]; exact setC hbl5 1 _
        have hb6 : Below N w4 w6 := by rw [hw6]; exact hb5.setCell (p := ⟨N, 1, none⟩) (Nat.le_refl _) _
        have g0 : w6.cell? ⟨N, 0, none⟩ = some (str typ) := by rw [Lib.cell_of_heap hbl6]; rfl
        have g1 : w6.cell? ⟨N, 1, none⟩ = some (str ID) := by rw [Lib.cell_of_heap hbl6]; rfl
        have hbw6 : Below w.heap.size w w6 := HBW2.out.trans ((hb4N.trans hb6).mono hwN)
        have h6 := H.out.below hbw6
        have c6 : w6.cell? ⟨p, 0, none⟩ = some (.map (some b)) := by rw [Lib.cell_of_heap h6.box]; rfl
        have hmo : ∀ W, Below w6.heap.size w6 W → W.ownsMap Tryz.prog 78 heldR b n D := fun W hW => (h6.below hW).map
        have HMO := Lib.hid hmo
        have hp6 := heap_lt h6.box
        have hN6 := heap_lt hbl6
        have hp6n : ¬ w6.heap.size = p := by omega
        have hp6m : ¬ p = w6.heap.size := by omega
        have hN6n : ¬ w6.heap.size = N := by omega
        have hN6m : ¬ N = w6.heap.size := by omega
        have HB6 := Lib.hid hb6
        have HL6 := Lib.hid hbl6
        clear IT hb5 hbl5 hw5 h6 hmo hid ad1 hbrw hbl6 hb6 hbw6
        obtain ⟨B, hB⟩ : ∃ B, hasO S.objs typ ID = B := ⟨_, rfl⟩
        have hlk := HLK.out
        rw [hB] at hlk
        have HLK := Lib.hid hlk
        have HBB := Lib.hid hB
        have hX : ∀ W, Below w6.heap.size w6 W → Below N w4 W ∧ W.heap[N]? = some (.cells #[str typ, str ID] 78 (0, 0)) := fun W hW =>
          ⟨HB6.out.trans (hW.mono (by omega)), (hW.block N hN6).trans HL6.out⟩
        have HX := Lib.hid hX
        clear hlk hB hX
        go_upto_region 9 with fail
        rw [← hw6]
        clear hw6 f0 f1 ad2
        go_cut [14, 15] from 40 to 48 (fun s14 s15 wx => s15 = .bool B ∧ Hid (Below N w4 wx ∧ wx.heap[N]? = some (.cells #[str typ, str ID] 78 (0, 0))))
        case first =>
          have T1 := HLK.out _ (HMO.out _ ((Below.refl _ w6).drew))
          have T2 := fun o => HLK.out _ (HMO.out _ (((Below.refl _ w6).alloc (Nat.le_refl _) o).drew))
          simp only [show nameV typ ID = .agg #[str typ, str ID] from rfl] at T2
          rw [show nameV typ ID = .agg #[str typ, str ID] from rfl] at T1
          obtain ⟨z0, z1, z2, z3, z4, y0, y1, y2, y3, y4⟩ := free5 (heap_alloc_new w6 (.cells #[.int .i64 0, .bool false, .string ⟨#[]⟩, .slice none 0 0, .slice none 0 0] 41))
          go_region_law_o (first | (refine step_lookup rfl (.tmp 44) (.tmp 45) 71 rfl (.map (some b)) (.agg #[str typ, str ID]) _ (by simp [Act.eval]) (by simp [Act.eval]) T1 ?_) | (refine step_lookup rfl (.tmp 44) (.tmp 45) 71 rfl (.map (some b)) (.agg #[str typ, str ID]) _ (by simp [Act.eval]) (by simp [Act.eval]) (T2 _) ?_))
          all_goals (try go_wp2)
          all_goals go_meet
          all_goals exact ⟨rfl, HX.out _ (((Below.refl _ w6).alloc (Nat.le_refl _) _).drew)⟩
        case rest =>
          obtain ⟨rfl, HW⟩ := hcut
          clear g0 g1 c6 HLK HMO hp6 hN6 hp6n hp6m hN6n hN6m HB6 HL6 HX
          cases B with
          | true =>
            have hjl : j + 1 ≤ jf := by
              apply Classical.byContradiction
              intro hh
              have hjj : j = jf := by omega
              have h1 := HF.out
              rw [← hjj, HKJ.out, HID.out, HBB.out] at h1
              cases h1
            have hwk : IntKind.i64.wrap (k + 1) = k + 1 := by rw [IntKind.wrap_i64]; omega
            go_wp2
            go_roundg (gk - 1)
            case rel =>
              refine ⟨j + 1, ?_, hjl, by omega, ?_, ⟨ID, HW.out.2⟩, HW.out.1⟩
              · have := HKJ.out
                rw [show k + 1 = k0 + ((j + 1 : Nat) : Int) by omega]
              · intro m hm
                by_cases hmj : m = j
                · subst hmj
                  rw [HKJ.out, HID.out]
                  exact HBB.out
                · exact HM.out m (by omega)
            case measure => omega
          | false =>
            have hnew : newId S.objs addr typ after = ID := by
              unfold newId
              rw [HK0.out, next_is S.objs typ addr j (S.objs.length + 1) k0 HM.out (by rw [HKJ.out, HID.out]; exact HBB.out) (by omega), HKJ.out]
              exact HID.out
            have hr := HR.out
            rw [hnew] at hr
            have HR2 := Lib.hid hr
            have hfit := hfi
            clear hnew hr HR HM HF HBB HKJ HK0 hfi
            obtain ⟨hfv, hsz⟩ := goodA_facts HG.out
            have hbwc : Below w.heap.size w wc := HBW2.out.trans ((hb4N.trans HW.out.1).mono hwN)
            have hbBc := HQ12.out.trans ((hb4N.trans HW.out.1).mono hBN)
            have c0 := box_at b0 hsB hbBc
            have c1 := box_at b1 hsB hbBc
            have c2 := box_at b2 hsB hbBc
            have c3 := box_at b3 hsB hbBc
            have c4 := box_at b4 hsB hbBc
            have g0 : wc.cell? ⟨N, 0, none⟩ = some (str typ) := by rw [Lib.cell_of_heap HW.out.2]; rfl
            have g1 : wc.cell? ⟨N, 1, none⟩ = some (str ID) := by rw [Lib.cell_of_heap HW.out.2]; rfl
            have c6 : wc.cell? ⟨p, 0, none⟩ = some (.map (some b)) := by rw [Lib.cell_of_heap (H.out.below hbwc).box]; rfl
            have HCL := Lib.hid (fun W (hW : Below wc.heap.size wc W) => clone_val x _ W (HV.out.mono (hbwc.trans (hW.mono hbwc.size))) hfv (by omega : sizeV x ≤ 1000000))
            have HAF := Lib.hid (fun W (hW : Below wc.heap.size wc W) => (⟨H.out.below (hbwc.trans (hW.mono hbwc.size)), hbwc.trans (hW.mono hbwc.size), (hW.block N (heap_lt HW.out.2)).trans HW.out.2⟩ : WAt W p b n S val vf vt D ∧ Below w.heap.size w W ∧ W.heap[N]? = some (.cells #[str typ, str ID] 78 (0, 0))))
            have hNw : ¬ N < w.heap.size := by omega
            have hNb : N ≠ b := by
              rintro rfl
              exact hNw H.out.map.lt
            have hst : ∀ W v F, WAt W p b n S val vf vt D → OwnVal W x v F → ∃ w', (Instr.mapUpdate 71 (.map (some b)) (.agg #[str typ, str ID]) v).run Tryz.prog W = .ok () w' ∧ (WAt w' p b (n + 1) (putP S (typ, ID, x)) (putVal val typ ID v) vf vt (D.put (klW typ ID) (.held v)) ∧ Spares [b] W w') := fun W v F h1 h2 => h1.store (by unfold maxLen; omega) ft hfit HG.out h2
            have HST := Lib.hid hst
            clear hst hbwc hbBc b0 b1 b2 b3 b4 hb4N HBW2 HQ12 HSP2 HE HT
            go_upto_region 11 with fail
            go_cut [] from 51 to 58 (fun wx => ∃ val' D', Hid (WAt wx p b (n + 1) (putP S (typ, ID, x)) val' vf vt D' ∧ Spares (wF p b vt) w wx ∧ wx.heap[N]? = some (.cells #[str typ, str ID] 78 (0, 0))))
            case first =>
              go_region_law_o (first
                | (go_simp; go_at_call 30; refine (HCL.out _ (Below.refl _ wc).drew).mono ?_; rintro e w1 ⟨v1, F1, rfl, hov, hnd, hge, hb1⟩; obtain ⟨si, sc, sk, sd, rfl⟩ := hov.at.form; have hb2 : Below wc.heap.size wc w1 := (Below.refl _ wc).drew.trans (hb1.mono (Nat.le_refl _)); obtain ⟨a1, a2, a3⟩ := HAF.out _ hb2; have d0 : w1.cell? ⟨N, 0, none⟩ = some (str typ) := (by rw [Lib.cell_of_heap a3]; rfl); have d1 : w1.cell? ⟨N, 1, none⟩ = some (str ID) := (by rw [Lib.cell_of_heap a3]; rfl); have d6 : w1.cell? ⟨p, 0, none⟩ = some (.map (some b)) := (by rw [Lib.cell_of_heap a1.box]; rfl); obtain ⟨w5, hr5, hW5', hs5'⟩ := HST.out _ _ _ a1 hov; have hW5 := Lib.hid hW5'; have hs5 := Lib.hid hs5'; have HA1 := Lib.hid a2; have HA3 := Lib.hid a3; clear hov hnd hge hb1 hb2 a1 a2 a3 hW5' hs5'))
              all_goals
                have hcut : ∃ val' D', Hid (WAt w5 p b (n + 1) (putP S (typ, ID, x)) val' vf vt D' ∧ Spares (wF p b vt) w w5 ∧ w5.heap[N]? = some (.cells #[str typ, str ID] 78 (0, 0))) := ⟨_, _, Lib.hid ⟨hW5.out, (Spares.of_below HA1.out).trans (hs5.out.sub fun k hk _ => by unfold wF; simp at hk; simp [hk]), (hs5.out.block N (heap_lt HA3.out) (by simpa using hNb)).trans HA3.out⟩⟩
                clear hW5 hs5 hr5 HA1 HA3 HST HAF HCL d0 d1 d6 c0 c1 c2 c3 c4 g0 g1 c6
                try go_wp2
                go_meet
                exact hcut
            case rest =>
              obtain ⟨val', D', HX⟩ := hcut
              have hNF : N ∉ wF p b vt := by
                intro hm
                unfold wF at hm
                rcases List.mem_cons.1 hm with e | hm
                · have := heap_lt H.out.box
                  omega
                · rcases List.mem_cons.1 hm with e | hm
                  · exact hNb e
                  · rw [Option.mem_toList] at hm
                    obtain ⟨_, hh⟩ := row_block H.out.trace hm
                    have := heap_lt hh
                    omega
              have HF := Lib.hid hNF
              clear c0 c1 c2 c3 c4 g0 g1 c6 HCL HAF HST hNb hNw hfv hsz hNF
              have g0 : wc.cell? ⟨N, 0, none⟩ = some (str typ) := by rw [Lib.cell_of_heap HX.out.2.2]; rfl
              have g1 : wc.cell? ⟨N, 1, none⟩ = some (str ID) := by rw [Lib.cell_of_heap HX.out.2.2]; rfl
              have HNT := Lib.hid (fun W (hW : Below wc.heap.size wc W) => note_w (HX.out.1.below hW) 1 addr typ ID 0 hl)
              rw [show nameV typ ID = .agg #[str typ, str ID] from rfl] at HNT
              go_upto_region 12 with fail
              go_cut [10, 11] from 58 to 64 (fun s10 s11 wy => s10 = str ID ∧ s11 = .int .i64 0 ∧ Hid (WStep w p b (n + 1) (noteP (putP S (typ, ID, x)) 1 addr typ ID 0) vf vt wy))
              case first =>
                go_region_law_o (go_simp; go_at_call 51; refine (HNT.out _ (Below.refl _ wc).drew).mono ?_; rintro e w6 ⟨rfl, hs6⟩; have hs7 := hs6.spares; have hN6 := (hs7.block N (heap_lt HX.out.2.2) HF.out).trans HX.out.2.2; have d0 : w6.cell? ⟨N, 0, none⟩ = some (str typ) := (by rw [Lib.cell_of_heap hN6]; rfl); have d1 : w6.cell? ⟨N, 1, none⟩ = some (str ID) := (by rw [Lib.cell_of_heap hN6]; rfl); have HS6 := Lib.hid hs6; clear hs6 hs7 hN6)
                all_goals
                  have hs := Lib.hid (WStep.after HX.out.2.1 (WStep.after (Spares.of_below (Below.refl _ wc).drew) HS6.out))
                  clear HS6 HNT d0 d1 g0 g1
                  try go_wp2
                  go_meet
                  exact ⟨rfl, rfl, hs⟩
              case rest =>
                obtain ⟨rfl, rfl, HS⟩ := hcut
                clear g0 g1 HNT
                go_wp2
                go_ret2
                refine ⟨by rw [HR2.out]; rfl, n + 1, Nat.le_refl _, ?_⟩
                rw [HR2.out]
                exact HS.out

end Go.Proofs.YtpbipngnoklmcaaGreatDoor
