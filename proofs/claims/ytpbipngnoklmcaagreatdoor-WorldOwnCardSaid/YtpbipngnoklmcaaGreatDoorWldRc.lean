/- The document's world: Create. Printed by genrefw.py. -/
import Derived.Test.YtpbipngnoklmcaaGreatDoorMGoodR
import Derived.Test.YtpbipngnoklmcaaGreatDoorMIntR
import Derived.Test.YtpbipngnoklmcaaGreatDoorWldE
import Derived.Deep.RegionHeld3
namespace Go.Proofs.YtpbipngnoklmcaaGreatDoor
open Go.RowKit
set_option maxRecDepth 100000
attribute [local go_sem] str_size str_toList str_get

/-- What Create leaves of the document's world. -/
def RPostC (F : List Nat) (S : WS) (i : S8) (c : Int) (w : World) (e : Ending) (w' : World) : Prop := ∃ m' rs', e = .returned (.tuple #[m', str i, .int .i64 c]) ∧ RAt F w' m' rs' S ∧ Below w.heap.size w w'

set_option maxHeartbeats 8000000 in
theorem create_r {F : List Nat} {w : World} {m : Value} {rs : List R3} {S : WS} (h : RAt F w m rs S) (hF : ∀ q ∈ F, q < w.heap.size) (addr typ after : S8) (x : VT) (ai : Option Addr) (ci : Nat) (ak : Option Addr) (ck : Nat)
    (hv : Kept F w fun W => ValAt W x (.agg #[.int .i64 x.kind, .bool x.flag, str x.text, .slice ai x.items.length ci, .slice ak x.keys.length ck])) (ha : addr.length ≤ 281474976710656) (haf : after.length ≤ 281474976710656) (ft : fitS typ) (hl : S.trace.length ≤ 100000) (ho : S.objs.length ≤ 100000) :
    Calls Tryz.prog 33 #[m, str addr, str typ, str after, .agg #[.int .i64 x.kind, .bool x.flag, str x.text, .slice ai x.items.length ci, .slice ak x.keys.length ck]] w (RPostC F (createP S addr typ after x).1 (createP S addr typ after x).2.1 (createP S addr typ after x).2.2 w) := by
  obtain ⟨ao, co, af, cf, at', ct, rfl, k1, k2, k3⟩ := h.form
  have hrl : rs.length ≤ 100000 := by rw [h.len]; exact ho
  obtain ⟨wA, hwA⟩ : ∃ wA, wA = ((w.alloc (.cells #[.slice ao rs.length co, .slice af S.fails.length cf, .slice at' S.trace.length ct] 32)).alloc (.cells #[.int .i64 x.kind, .bool x.flag, str x.text, .slice ai x.items.length ci, .slice ak x.keys.length ck] 41)).alloc (.cells #[.slice none 0 0, .slice none 0 0, .slice none 0 0] 32) := ⟨_, rfl⟩
  obtain ⟨BX, OX, hbA⟩ := box_three w #[.slice ao rs.length co, .slice af S.fails.length cf, .slice at' S.trace.length ct] #[.int .i64 x.kind, .bool x.flag, str x.text, .slice ai x.items.length ci, .slice ak x.keys.length ck] #[.slice none 0 0, .slice none 0 0, .slice none 0 0] 32 41
  rw [← hwA] at BX OX hbA
  have FL := good17_w x _ wA (hv.below hbA).now
  have hdl : createP S addr typ after x = if goodA x = false then (S, [], 1) else if failsP S.fails 1 addr = true then (noteP S 1 addr typ [] 160, [], 160)
    else (noteP (putP S (typ, newId S.objs addr typ after, x)) 1 addr typ (newId S.objs addr typ after) 0, newId S.objs addr typ after, 0) := rfl
  obtain ⟨R, hR⟩ : ∃ R, createP S addr typ after x = R := ⟨_, rfl⟩
  rw [hR] at hdl ⊢
  generalize goodA x = g at FL hdl
  have HDL := Lib.hid hdl
  have H := Lib.hid h
  have HBA := Lib.hid hbA
  have HBX := Lib.hid BX
  have HOX := Lib.hid OX
  have HF := Lib.hid hF
  have K1 := Lib.hid k1
  have K2 := Lib.hid k2
  have K3 := Lib.hid k3
  have HV := Lib.hid hv
  obtain ⟨o0, o1, o2, o3, o4⟩ := val_box OX
  clear hdl hR h k1 k2 k3 hbA BX OX hF hv
  go_enter Tryz.func33, Tryz.ntmps33
  go_upto_region 1 with fail
  rw [← hwA]
  clear hwA
  go_wp2_with fail
  refine FL.mono ?_
  rintro e w2 ⟨rfl, hb2⟩
  have hbw2 := HBA.out.trans (hb2.mono HBA.out.size)
  have BX2 := HBX.out.below hb2
  have OX2 := (hb2.block _ (heap_lt HOX.out)).trans HOX.out
  obtain ⟨f0, f1, f2, f3, z0, z1, z2, z3, z4, z5⟩ := BX2.cells
  have hs2 := hbw2.size
  have HB2 := Lib.hid hbw2
  have HX2 := Lib.hid BX2
  have HO2 := Lib.hid OX2
  clear FL o0 o1 o2 o3 o4 hb2 BX2 hbw2 OX2
  cases g with
  | false =>
    have hdl := HDL.out
    rw [if_pos rfl] at hdl
    obtain ⟨wR, hwR, xR, _, _⟩ := put_box3 HX2.out.two (.slice ao rs.length co) (.slice af S.fails.length cf) (.slice at' S.trace.length ct)
    have hsR := put3_spares w2 (w.heap.size + 2) (.slice ao rs.length co) (.slice af S.fails.length cf) (.slice at' S.trace.length ct)
    rw [← hwR] at hsR
    have hb2R : Below w.heap.size w wR := Below.spared HB2.out hsR HB2.out.size (fun k hk => by simp at hk; omega)
    have HP := Lib.hid (show RPostC F R.1 R.2.1 R.2.2 w (.returned (.tuple #[.agg #[.slice ao rs.length co, .slice af S.fails.length cf, .slice at' S.trace.length ct], .string ⟨#[]⟩, .int .i64 1])) wR by
      rw [hdl]
      exact ⟨_, rs, rfl, H.out.below hb2R, hb2R⟩)
    have HXR := Lib.hid xR
    clear hsR hb2R xR hdl HDL
    go_wp2
    rw [← hwR]
    (try simp only [Exit.inBlock, Exit.then]); refine bodyPost_ret (results_ctt rfl _ _ (w.heap.size + 2) _ _ _ _ rfl HXR.out Tryz.underlying32 rfl (by kernel_rfl)) rfl ?_
    exact HP.out
  | true =>
    have hdl := HDL.out
    rw [if_neg (by simp)] at hdl
    have FA := fails_r S.fails af cf (.slice ao rs.length co) (.slice at' S.trace.length ct) 1 addr w2 (K2.out.below HB2.out).now
    generalize failsP S.fails 1 addr = B at FA hdl
    have HDL := Lib.hid hdl
    clear hdl z0 z1 z2 z3 z4 z5
    go_wp2_with fail
    refine FA.mono ?_
    rintro e wF ⟨rfl, hbF⟩
    have hbwF := HB2.out.trans (hbF.mono HB2.out.size)
    have BXF := HX2.out.below hbF
    have OXF := (hbF.block _ (heap_lt HO2.out)).trans HO2.out
    clear f0 f1 f2 f3
    obtain ⟨f0, f1, f2, f3, z0, z1, z2, z3, z4, z5⟩ := BXF.cells
    have HBF := Lib.hid hbwF
    have HXF := Lib.hid BXF
    have HOF := Lib.hid OXF
    clear FA hbF hbwF BXF OXF
    cases B with
    | true =>
      have hdl := HDL.out
      rw [if_pos rfl] at hdl
      have HR := Lib.hid hdl
      have NT := noted_r S.trace ao rs.length co af S.fails.length cf at' ct 1 addr typ ([] : S8) 160 wF (K3.out.below HBF.out).now hl (by omega)
      clear hdl HDL z0 z1 z2 z3 z4 z5
      go_wp2_with fail
      refine NT.mono ?_
      rintro e wN ⟨a2, c2, rfl, hown, hbN⟩
      have BXN := HXF.out.below hbN
      obtain ⟨x0, x1, x2, x3, z0, z1, z2, z3, z4, z5⟩ := BXN.cells
      obtain ⟨wR, hwR, xR, _, _⟩ := put_box3 BXN.two (.slice ao rs.length co) (.slice af S.fails.length cf) (.slice a2 (S.trace.length + 1) c2)
      have hsR := put3_spares wN (w.heap.size + 2) (.slice ao rs.length co) (.slice af S.fails.length cf) (.slice a2 (S.trace.length + 1) c2)
      rw [← hwR] at hsR
      have hbwN := HBF.out.trans (hbN.mono HBF.out.size)
      have hb2R : Below w.heap.size w wR := Below.spared hbwN hsR hbwN.size (fun k hk => by simp at hk; omega)
      have hgE := heap_lt HXF.out.two
      have hsW := HBF.out.size
      have hownR := row_away hown hsR (fun q hq => by simp at hq; omega)
      have hpost : RPostC F R.1 R.2.1 R.2.2 w (.returned (.tuple #[.agg #[.slice ao rs.length co, .slice af S.fails.length cf, .slice a2 (S.trace.length + 1) c2], .string ⟨#[]⟩, .int .i64 160])) wR := by
        rw [HR.out]
        refine ⟨_, rs, rfl, ?_, hb2R⟩
        have := H.out.told (ts' := S.trace ++ [(1, addr, typ, ([] : S8), 160)]) (a3 := a2) (c3 := c2) hb2R (by
          rw [List.length_append]
          have := Kept.row (F := F) (row_base hownR hsW) HF.out
          rw [List.length_append] at this
          exact this)
        rw [List.length_append] at this
        exact this
      have HP := Lib.hid hpost
      have HXR := Lib.hid xR
      clear BXN hsR hbwN hb2R hown hownR hpost hbN xR HR NT f0 f1 f2 f3
      go_wp2
      rw [← hwR]
      (try simp only [Exit.inBlock, Exit.then]); refine bodyPost_ret (results_ctt rfl _ _ (w.heap.size + 2) _ _ _ _ rfl HXR.out Tryz.underlying32 rfl (by kernel_rfl)) rfl ?_
      exact HP.out
    | false =>
      have hdl := HDL.out
      rw [if_neg (by simp)] at hdl
      have HDL := Lib.hid hdl
      have FR := from_r addr after ha haf wF
      obtain ⟨k0, hk0⟩ : ∃ k0, behindP addr after = k0 := ⟨_, rfl⟩
      have hkb := behind_bd addr after
      rw [hk0] at FR hkb
      have HK0 := Lib.hid hk0
      clear hdl hk0 z0 z1 z2 z3 z4 z5
      go_wp2_with fail
      refine FR.mono ?_
      rintro e wG ⟨rfl, hbG⟩
      have hbwG := HBF.out.trans (hbG.mono HBF.out.size)
      have BXG := HXF.out.below hbG
      have OXG := (hbG.block _ (heap_lt HOF.out)).trans HOF.out
      have HBG := Lib.hid hbwG
      have HXG := Lib.hid BXG
      have HOG := Lib.hid OXG
      obtain ⟨jf, hjf, hfree⟩ := free_id (fun _ _ h => itoa_inj h) typ addr S.objs.length S.objs k0 (Nat.le_refl _)
      have HFR := Lib.hid hfree
      clear FR hbG hbwG BXG OXG f0 f1 f2 f3 hfree
      go_wp2
      go_loopg [13] (S.objs.length + 2) (fun gg v13 wr => ∃ j : Nat, v13 = .int .i64 (k0 + j) ∧ j ≤ jf ∧ S.objs.length - j < gg ∧ Hid (∀ m : Nat, m < j → hasO S.objs typ (idN addr (k0 + m)) = true) ∧ Hid (Below wG.heap.size wG wr))
      case atStart => exact ⟨0, by simp, by omega, by omega, fun m h => by omega, Below.refl _ _⟩
      case round =>
        obtain ⟨j, rfl, hj, hgk, HM, HBR⟩ := hrel
        have hkr : k0 + (j : Int) ≤ 1000100001 := by omega
        have hk1 : 1 ≤ k0 + (j : Int) := by omega
        obtain ⟨k, hk⟩ : ∃ k, k0 + (j : Int) = k := ⟨_, rfl⟩
        rw [hk] at hkr hk1 ⊢
        have HKJ := Lib.hid hk
        clear hk
        have hbwr := HBG.out.trans (HBR.out.mono HBG.out.size)
        have BXR := HXG.out.below HBR.out
        have OXR := (HBR.out.block _ (heap_lt HOG.out)).trans HOG.out
        have DG := fun W => digits_ref k (by omega) (by omega) W
        have hgI : goodS (Lib.itoa k) = true := good_itoa (by
          have : k.natAbs ≤ 1000100001 := by omega
          exact Nat.lt_of_le_of_lt this (by decide))
        have hIl := (good_parts hgI).2.2
        have hidk : addr ++ [35] ++ Lib.itoa k = idN addr k := rfl
        obtain ⟨I, hI⟩ : ∃ I, Lib.itoa k = I := ⟨_, rfl⟩
        rw [hI] at DG hIl hidk
        have ad1 : ∀ W, (Op.stringOp .add (ByteArray.mk addr.toArray) (ByteArray.mk ([35] : S8).toArray)).run Tryz.prog W = .ok (str (addr ++ [35])) W := fun W => str_add _ _ (by simp only [List.length_cons, List.length_nil]; omega)
        have hapl : (addr ++ [35]).length = addr.length + 1 := by rw [List.length_append]; rfl
        obtain ⟨AP, hAP⟩ : ∃ x, addr ++ [35] = x := ⟨_, rfl⟩
        rw [hAP] at ad1 hapl hidk
        have ad2 : ∀ W, (Op.stringOp .add (ByteArray.mk AP.toArray) (ByteArray.mk I.toArray)).run Tryz.prog W = .ok (str (AP ++ I)) W := fun W => str_add _ _ (by omega)
        rw [hidk] at ad2
        have hfi : fitS (idN addr k) := by
          show (idN addr k).length ≤ _
          rw [← hidk, List.length_append]
          omega
        have AT := fun (W : World) (hW : Below wr.heap.size wr W) => at_r rs ao co (.slice af S.fails.length cf) (.slice at' S.trace.length ct) typ (idN addr k) W (K1.out.below (hbwr.trans (hW.mono hbwr.size))).now
        obtain ⟨ID, hID⟩ : ∃ x, idN addr k = x := ⟨_, rfl⟩
        rw [hID] at ad2 AT hfi
        have HID := Lib.hid hID
        have HFI := Lib.hid hfi
        have HS := Lib.hid (fun (W : World) (hW : Below wr.heap.size wr W) => (BXR.below hW).cells)
        have HAT := Lib.hid AT
        have HDG := Lib.hid DG
        obtain ⟨f0, f1, f2, f3, _⟩ := BXR.cells
        have HBW := Lib.hid hbwr
        have HXR := Lib.hid BXR
        have HOR := Lib.hid OXR
        have hd : Below wr.heap.size wr wr.drew := (Below.refl _ wr).drew
        clear hgI hIl hidk hI hAP hapl hID hfi AT DG BXR OXR hbwr
        go_upto_region 6 with fail
        go_region_held3 (fun W => W.cell? ⟨w.heap.size, 0, none⟩ = some (.slice ao rs.length co) ∧ W.cell? ⟨w.heap.size, 1, none⟩ = some (.slice af S.fails.length cf) ∧ W.cell? ⟨w.heap.size, 2, none⟩ = some (.slice at' S.trace.length ct))
          (first | exact ⟨f0, f1, f2⟩ | (have q := HS.out _ hd; exact ⟨q.1, q.2.1, q.2.2.1⟩))
          (first
            | (go_at_call 57; refine (HDG.out _).mono ?_; rintro e q1 ⟨rfl, hq⟩; have hd := hd.trans (hq.mono hd.size); clear hq)
            | (go_at_call 31; refine (HAT.out _ hd).mono ?_; rintro e q2 ⟨z, rfl, hz, hq⟩; have hd := hd.trans (hq.mono hd.size); have HZ := Lib.hid hz; clear hq hz HAT))
        have hh := HZ.out.has
        rw [H.out.os] at hh
        have HHH := Lib.hid hh
        have HDD := Lib.hid hd
        clear hh hd HS f0 f1 f2 f3 HZ
        rename_i hHeld
        clear hHeld
        by_cases hz0 : 0 ≤ z
        · have hB : hasO S.objs typ ID = true := by rw [← HHH.out]; simpa using hz0
          have hjl : j + 1 ≤ jf := by
            apply Classical.byContradiction
            intro hh
            have hjj : j = jf := by omega
            have h1 := HFR.out
            rw [← hjj, HKJ.out, HID.out, hB] at h1
            cases h1
          have hwk : IntKind.i64.wrap (k + 1) = k + 1 := by rw [IntKind.wrap_i64]; omega
          have HBB := Lib.hid hB
          have HQ := Lib.hid (HBR.out.trans (HDD.out.mono HBR.out.size))
          clear hB HHH
          go_wp2
          go_roundg (gk - 1)
          case rel =>
            refine ⟨j + 1, ?_, hjl, by omega, ?_, HQ⟩
            · have := HKJ.out
              rw [show k + 1 = k0 + ((j + 1 : Nat) : Int) by omega]
            · intro m hm
              by_cases hmj : m = j
              · subst hmj
                rw [HKJ.out, HID.out]
                exact HBB.out
              · exact HM.out m (by omega)
          case measure => omega
        · have hB : hasO S.objs typ ID = false := by rw [← HHH.out]; simpa using hz0
          have hnew : newId S.objs addr typ after = ID := by
            unfold newId
            rw [HK0.out, next_is S.objs typ addr j (S.objs.length + 1) k0 HM.out (by rw [HKJ.out, HID.out]; exact hB) (by omega), HKJ.out]
            exact HID.out
          have hdl := HDL.out
          rw [hnew] at hdl
          have HR := Lib.hid hdl
          have DG2 := HDG.out q2
          have HBQ := Lib.hid (HBW.out.trans (HDD.out.mono HBW.out.size))
          have HXQ := Lib.hid (HXR.out.below HDD.out)
          have HOQ := Lib.hid ((HDD.out.block _ (heap_lt HOR.out)).trans HOR.out)
          clear hB HHH hnew hdl HDL HM HFR HKJ HDD HBW HXR HOR HDG
          go_wp2_with fail
          refine DG2.mono ?_
          rintro e qE ⟨rfl, hbE⟩
          have hbwE := HBQ.out.trans (hbE.mono HBQ.out.size)
          have BXE := HXQ.out.below hbE
          have OXE := (hbE.block _ (heap_lt HOQ.out)).trans HOQ.out
          obtain ⟨f0, f1, f2, f3, z0, z1, z2, z3, z4, z5⟩ := BXE.cells
          have HBE := Lib.hid hbwE
          have HXE := Lib.hid BXE
          have HOE := Lib.hid OXE
          clear DG2 hbE hbwE BXE OXE
          have WO := with_r rs ((typ, ID, x), (ai, ci, ak, ck)) ao co qE (K1.out.below HBE.out).now (by omega)
          have hol := len_withR rs ((typ, ID, x), (ai, ci, ak, ck))
          have HOS := Lib.hid (withR_os rs ((typ, ID, x), (ai, ci, ak, ck)))
          have HME := Lib.hid (fun r (hr : r ∈ withR rs ((typ, ID, x), (ai, ci, ak, ck))) => mem_withR hr)
          generalize withR rs ((typ, ID, x), (ai, ci, ak, ck)) = os at WO hol HOS HME
          dsimp only at WO
          obtain ⟨o0, o1, o2, o3, o4⟩ := val_box HOE.out
          clear z0 z1 z2 z3 z4 z5
          go_wp2_with fail
          refine WO.mono ?_
          rintro e w3 ⟨v', rfl, hN⟩
          obtain ⟨a1, c1, rfl⟩ := slice_form hN.1
          have hb3 := hN.2
          have BX3 := HXE.out.below hb3
          obtain ⟨x0, x1, x2, x3, _⟩ := BX3.cells
          obtain ⟨w4, hw4⟩ : ∃ w4, w4 = w3.setCell ⟨w.heap.size, 0, none⟩ (.slice a1 os.length c1) := ⟨_, rfl⟩
          have BX4 : Box2 w.heap.size (w.heap.size + 2) #[.slice a1 os.length c1, .slice af S.fails.length cf, .slice at' S.trace.length ct] #[.slice none 0 0, .slice none 0 0, .slice none 0 0] 32 w4 := by rw [hw4]; exact BX3.set (by omega) 0 _
          have hs4 : Spares [w.heap.size] w3 w4 := by rw [hw4]; exact setC_spares w3 w.heap.size 0 _
          have hbw3 := HBE.out.trans (hb3.mono HBE.out.size)
          have hbw4 : Below w.heap.size w w4 := Below.spared hbw3 hs4 hbw3.size (fun k hk => by simp at hk; omega)
          have NT := noted_r S.trace a1 os.length c1 af S.fails.length cf at' ct 1 addr typ ID 0 w4 (K3.out.below hbw4).now hl (by omega)
          obtain ⟨y0, y1, y2, y3, _⟩ := BX4.cells
          have HX4 := Lib.hid BX4
          have HN := Lib.hid hN.1
          have HS4 := Lib.hid hs4
          have HBW3 := Lib.hid hbw3
          have HBW4 := Lib.hid hbw4
          have hsW := HBE.out.size
          clear BX4 hN hs4 hbw3 hbw4 BX3 hb3 WO f0 f1 f2 f3 o0 o1 o2 o3 o4
          go_upto_region 10 with fail
          rw [← hw4]
          clear hw4 x0 x1 x2 x3
          go_wp2_with fail
          refine NT.mono ?_
          rintro e w5 ⟨a2, c2, rfl, hown, hb5⟩
          have BX5 := HX4.out.below hb5
          obtain ⟨x0, x1, x2, x3, z0, z1, z2, z3, z4, z5⟩ := BX5.cells
          obtain ⟨wR, hwR, xR, _, _⟩ := put_box3 BX5.two (.slice a1 os.length c1) (.slice af S.fails.length cf) (.slice a2 (S.trace.length + 1) c2)
          have hsR := put3_spares w5 (w.heap.size + 2) (.slice a1 os.length c1) (.slice af S.fails.length cf) (.slice a2 (S.trace.length + 1) c2)
          rw [← hwR] at hsR
          have hbw5 := HBW4.out.trans (hb5.mono HBW4.out.size)
          have hb2R : Below w.heap.size w wR := Below.spared hbw5 hsR hbw5.size (fun k hk => by simp at hk; omega)
          have hgE := heap_lt HXE.out.two
          have hg4 := HX4.out.two
          have hg4 := heap_lt hg4
          have hownR := row_away hown hsR (fun q hq => by simp at hq; omega)
          have hs35 : Spares [w.heap.size, w.heap.size + 2] w3 wR := ((HS4.out.sub (fun k hk _ => by simp at hk; simp [hk])).trans (Spares.of_below hb5)).trans (hsR.sub (fun k hk _ => by simp at hk; simp [hk]))
          have hobjR := row_away HN.out hs35 (fun q hq => by simp at hq; omega)
          have hpost : RPostC F R.1 R.2.1 R.2.2 w (.returned (.tuple #[.agg #[.slice a1 os.length c1, .slice af S.fails.length cf, .slice a2 (S.trace.length + 1) c2], str ID, .int .i64 0])) wR := by
            rw [HR.out]
            refine ⟨_, os, rfl, ?_, hb2R⟩
            have := H.out.both (rs' := os) (os' := withO S.objs (typ, ID, x)) (ts' := S.trace ++ [(1, addr, typ, ID, 0)]) (a1 := a1) (c1 := c1) (a3 := a2) (c3 := c2) hb2R (Kept.row (row_base hobjR hsW) HF.out) (by
              have := Kept.row (F := F) (row_base hownR HBW4.out.size) HF.out
              rw [List.length_append] at this ⊢
              exact this) (fun r hr => (HME.out r hr).symm.imp id (fun e => by rw [e]; exact HV.out.below hb2R)) (by rw [HOS.out, H.out.os]) (fun o ho => by rcases mem_withO.1 ho with rfl | ⟨ho, _⟩; exact ⟨ft, HFI.out⟩; exact H.out.fit o ho) (ris_with H.out.ris _)
            rw [List.length_append] at this
            exact this
          have HP := Lib.hid hpost
          have HXR := Lib.hid xR
          clear BX5 hsR hbw5 hb2R hown hownR hpost hb5 xR HR NT y0 y1 y2 y3 hs35 hobjR
          go_wp2
          rw [← hwR]
          (try simp only [Exit.inBlock, Exit.then]); refine bodyPost_ret (results_ctt rfl _ _ (w.heap.size + 2) _ _ _ _ rfl HXR.out Tryz.underlying32 rfl (by kernel_rfl)) rfl ?_
          exact HP.out

end Go.Proofs.YtpbipngnoklmcaaGreatDoor
