/- WorldContract: what Create, Update, Delete and Read promise, call by call. No condition. -/
import Derived.Test.YtpbipngnoklmcaaGreatDoorMWldRn
import Derived.Test.YtpbipngnoklmcaaGreatDoorConO
import Derived.Test.YtpbipngnoklmcaaGreatDoorMGoodR
import Derived.Test.YtpbipngnoklmcaaGreatDoorMPlA
namespace Go.Proofs.YtpbipngnoklmcaaGreatDoor
open Go.RowKit
set_option maxRecDepth 100000
attribute [local go_sem] str_size str_toList str_get

set_option maxHeartbeats 16000000 in
theorem contract_true (os : List O3) (v0 : Value) (o : OpT) (ai : Option Addr) (ci : Nat) (ak : Option Addr) (ck : Nat) (w : World) (h0 : ObjsAt w v0 os)
    (hv : ValAt w o.x (.agg #[.int .i64 o.x.kind, .bool o.x.flag, str o.x.text, .slice ai o.x.items.length ci, .slice ak o.x.keys.length ck]))
    (la : o.addr.length ≤ 140737488351232 ∧ o.after.length ≤ 140737488351232 ∧ fitS o.typ ∧ fitS o.id) (hE : ErrW w) (hT : TabW w) :
    Calls Tryz.prog 5 #[v0, opV o ai ci ak ck] w fun e w' => e = .returned (.bool true) ∧ Below w.heap.size w w' := by
  obtain ⟨kd, addr, typ, i, after, x⟩ := o
  unfold opV
  obtain ⟨ao, co, rfl, hm, _⟩ := id h0
  have hm1 : os.length ≤ 9223372036854775807 := by omega
  clear hm
  replace hv : ValAt w x (.agg #[.int .i64 x.kind, .bool x.flag, str x.text, .slice ai x.items.length ci, .slice ak x.keys.length ck]) := hv
  replace la : addr.length ≤ 140737488351232 ∧ after.length ≤ 140737488351232 ∧ fitS typ ∧ fitS i := la
  obtain ⟨wA, hwA⟩ : ∃ wA, wA = w.alloc (.cells #[.int .i64 kd, str addr, str typ, str i, str after, .int .i64 x.kind, .bool x.flag, str x.text, .slice ai x.items.length ci, .slice ak x.keys.length ck] 43) := ⟨_, rfl⟩
  have nA := heap_alloc_new w (.cells #[.int .i64 kd, str addr, str typ, str i, str after, .int .i64 x.kind, .bool x.flag, str x.text, .slice ai x.items.length ci, .slice ak x.keys.length ck] 43)
  rw [← hwA] at nA
  have bA : Below w.heap.size w wA := by rw [hwA]; exact (Below.refl _ w).alloc (Nat.le_refl _) _
  have HBX := Lib.hid (fun (W : World) (hW : Below wA.heap.size wA W) => (hW.block _ (heap_lt nA)).trans nA)
  have HE := Lib.hid hE
  have HT := Lib.hid hT
  have H0 := Lib.hid h0
  have HV := Lib.hid hv
  have HLA := Lib.hid la
  have HBA := Lib.hid bA
  have AW1 := awake17 wA (hE.mono bA) (hT.mono bA)
  clear nA h0 hv hE hT la bA
  go_enter Tryz.func5, Tryz.ntmps5
  go_upto_region 1 with fail
  rw [← hwA]
  clear hwA
  go_wp2_with fail
  refine AW1.mono ?_
  rintro e w1 ⟨rfl, hb1⟩
  have hbw1 := HBA.out.trans (hb1.mono HBA.out.size)
  have AW2 := awake17 w1 (HE.out.mono hbw1) (HT.out.mono hbw1)
  have HB1 := Lib.hid hb1
  have HW1 := Lib.hid hbw1
  clear AW1 hb1 hbw1
  by_cases h40 : os.length ≤ 40
  · have n40 : ¬ (40 : Int) < (os.length : Int) := by omega
    obtain ⟨w2, hw2⟩ : ∃ w2, w2 = w1.alloc (.cells #[.int .i64 1, .string ⟨#[110, 111]⟩, .int .i64 2, .string ⟨#[110, 111]⟩, .int .i64 5, .string ⟨#[110, 111]⟩] 52) := ⟨_, rfl⟩
    have hb2 : Below w1.heap.size w1 w2 := by rw [hw2]; exact (Below.refl _ w1).alloc (Nat.le_refl _) _
    have hc2 : CellsAt w2 (.slice (some ⟨w1.heap.size, 0, none⟩) 3 3) fsC.length (failCells fsC) := by rw [hw2]; exact cellsAt_one w1 (failCells fsC) _ 3 (by omega)
    have HB2 := Lib.hid (HB1.out.trans (hb2.mono HB1.out.size))
    have HW2 := Lib.hid (HW1.out.trans (hb2.mono HW1.out.size))
    have NX := new_h os fsC _ _ w2 (H0.out.mono HW2.out) hc2 (by omega) (by decide) (HE.out.mono HW2.out) (HT.out.mono HW2.out)
    clear AW2 hb2 hc2
    go_wp2_with fail
    rw [← hw2]
    clear hw2
    refine NX.mono ?_
    rintro e w3 ⟨hb3, hx3⟩
    have HB3 := Lib.hid (HB2.out.trans (hb3.mono HB2.out.size))
    have HW3 := Lib.hid (HW2.out.trans (hb3.mono HW2.out.size))
    have hGA : wA.heap.size ≤ w2.heap.size := HB2.out.size
    clear NX hb3
    rcases newP_code os fsC with ⟨c, hc, hc0, hc1⟩ | ⟨S, hS, hSf, hSt⟩
    · rw [hc] at hx3
      obtain rfl := hx3
      clear hc
      go_wp2
      go_ret
      exact ⟨rfl, HW3.out⟩
    · rw [hS] at hx3
      obtain ⟨p, rfl, hp⟩ := hx3
      obtain ⟨G, hG⟩ : ∃ G, w2.heap.size = G := ⟨_, rfl⟩
      rw [hG] at hp hGA
      have HS := Lib.hid (⟨hSf, hSt, newP_len hS⟩ : S.fails = fsC ∧ S.trace = [] ∧ S.objs.length ≤ os.length)
      have OB := objects_k hp (by have := newP_len hS; omega)
      have HP := Lib.hid hp
      clear hS hSf hSt hG hp
      go_wp2_with fail
      refine OB.mono ?_
      rintro e w4 ⟨a, c, M, rfl, hwas, hM, hb4⟩
      have HB4 := Lib.hid (HB3.out.trans (hb4.mono HB3.out.size))
      have HW4 := Lib.hid (HW3.out.trans (hb4.mono HW3.out.size))
      have h4 : Has G M p S os.length w4 := by
        have := (HP.out.guards (M := M) fun q hq => (hM q hq).1).below hb4
        rwa [List.append_nil] at this
      have hL4 : ∀ q ∈ M, q < w4.heap.size := fun q hq => (hM q hq).2
      have hG4 := h4.base
      have HWAS := Lib.hid (fun (W : World) (k : Keeps G M w4 W) => hwas W fun q hq => k.2 q hq (hM q hq).2)
      have HKA := Lib.hid (fun (W : World) (k : Keeps G M w4 W) => HB4.out.trans (k.1.mono hGA))
      have HKW := Lib.hid (fun (W : World) (k : Keeps G M w4 W) => HW4.out.trans (k.1.mono (Nat.le_trans HBA.out.size hGA)))
      have hlen := HS.out.2.2
      have hS0 : S.trace.length = 0 := by rw [HS.out.2.1]; rfl
      have CR := create_h h4 hL4 addr typ after x _ (HV.out.mono HW4.out) (by have := HLA.out.1; omega) (by have := HLA.out.2.1; omega) HLA.out.2.2.1 (by omega) (by omega) (by omega) (HE.out.mono HW4.out) (HT.out.mono HW4.out)
      obtain ⟨p0, p1, p2, p3, p4, p5, p6, p7, p8, p9⟩ := op_cells (HBX.out w4 HB4.out)
      have HL4 := Lib.hid hL4
      have H4 := Lib.hid h4
      have HM := Lib.hid hM
      clear OB hwas hL4 h4 hM hb4
      cases hg : goodA x with
      | false =>
        rw [con_bad hg] at CR
        have GD := fun (W : World) (hW : Below w.heap.size w W) => good17_w x _ W (HV.out.mono hW)
        rw [hg] at GD
        have HGD := Lib.hid GD
        clear hg GD
        go_wp2_with fail
        refine CR.mono ?_
        rintro e w5 ⟨rfl, h5, K5⟩
        have HK5 := Lib.hid K5
        have G5 := HGD.out w5 (HKW.out w5 K5)
        have H5 := Lib.hid h5
        clear CR K5 h5 p0 p1 p2 p3 p4 p5 p6 p7 p8 p9
        obtain ⟨p0, p1, p2, p3, p4, p5, p6, p7, p8, p9⟩ := op_cells (HBX.out w5 (HKA.out w5 HK5.out))
        go_wp2_with fail
        refine G5.mono ?_
        rintro e w6 ⟨rfl, hb6⟩
        have K6 := HK5.out.trans (Keeps.of_below (L := M) hb6 (Nat.le_trans hG4 HK5.out.1.size))
        have OB := objects_h (H5.out.below hb6) (by omega)
        have HK6 := Lib.hid K6
        clear G5 hb6 K6 p0 p1 p2 p3 p4 p5 p6 p7 p8 p9
        go_wp2_with fail
        refine OB.mono ?_
        rintro e w7 ⟨v7, rfl, ho7, hb7⟩
        have K7 := HK6.out.trans (Keeps.of_below (L := M) hb7 (Nat.le_trans hG4 HK6.out.1.size))
        have SO := sameobjs_true S.objs v7 _ w7 ho7 (HWAS.out w7 K7)
        have HK7 := Lib.hid K7
        clear OB ho7 hb7 K7
        go_wp2_with fail
        refine SO.mono ?_
        rintro e w8 ⟨rfl, hb8⟩
        have hW8 := (HKW.out w7 HK7.out).trans (hb8.mono (HKW.out w7 HK7.out).size)
        clear SO hb8
        go_wp2
        go_ret
        exact ⟨rfl, hW8⟩
      | true =>
        have GD := fun (W : World) (hW : Below w.heap.size w W) => good17_w x _ W (HV.out.mono hW)
        rw [hg] at GD
        have HGD := Lib.hid GD
        have HG := Lib.hid hg
        clear GD
        by_cases ha : addr = noS
        · subst ha
          rw [con_no HS.out.1 hg] at CR
          clear hg
          go_wp2_with fail
          refine CR.mono ?_
          rintro e w5 ⟨rfl, h5, K5⟩
          have HK5 := Lib.hid K5
          have G5 := HGD.out w5 (HKW.out w5 K5)
          have H5 := Lib.hid h5
          clear CR K5 h5 p0 p1 p2 p3 p4 p5 p6 p7 p8 p9
          obtain ⟨p0, p1, p2, p3, p4, p5, p6, p7, p8, p9⟩ := op_cells (HBX.out w5 (HKA.out w5 HK5.out))
          go_wp2_with fail
          refine G5.mono ?_
          rintro e w6 ⟨rfl, hb6⟩
          have K6 := HK5.out.trans (Keeps.of_below (L := M) hb6 (Nat.le_trans hG4 HK5.out.1.size))
          have h6 := H5.out.below hb6
          have HK6 := Lib.hid K6
          have UP := update_h h6 (fun q hq => Nat.lt_of_lt_of_le (HL4.out q hq) K6.1.size) noS typ i x _ (HV.out.mono (HKW.out w6 K6)) HLA.out.2.2.1 HLA.out.2.2.2 (by simp only [noteP, List.length_append, List.length_cons, List.length_nil]; omega) (by omega)
          rw [con_no_up (by exact HS.out.1) HG.out] at UP
          clear G5 hb6 K6 h6 p0 p1 p2 p3 p4 p5 p6 p7 p8 p9 H5
          obtain ⟨p0, p1, p2, p3, p4, p5, p6, p7, p8, p9⟩ := op_cells (HBX.out w6 (HKA.out w6 HK6.out))
          have hns : str noS = .string ⟨#[110, 111]⟩ := rfl
          rw [hns] at p1 UP
          go_wp2_with fail
          refine UP.mono ?_
          rintro e w7 ⟨rfl, h7, K7⟩
          have HK7 := Lib.hid (HK6.out.trans K7)
          have DL := delete_h h7 (fun q hq => Nat.lt_of_lt_of_le (HL4.out q hq) HK7.out.1.size) noS typ i HLA.out.2.2.1 HLA.out.2.2.2 (by simp only [noteP, List.length_append, List.length_cons, List.length_nil]; omega)
          rw [con_no_del (by exact HS.out.1), hns] at DL
          clear UP h7 K7 p0 p1 p2 p3 p4 p5 p6 p7 p8 p9
          obtain ⟨p0, p1, p2, p3, p4, p5, p6, p7, p8, p9⟩ := op_cells (HBX.out w7 (HKA.out w7 HK7.out))
          go_wp2_with fail
          refine DL.mono ?_
          rintro e w8 ⟨rfl, h8, K8⟩
          have HK8 := Lib.hid (HK7.out.trans K8)
          have OB := objects_h h8 (by show S.objs.length ≤ 100000; omega)
          clear DL h8 K8 p0 p1 p2 p3 p4 p5 p6 p7 p8 p9
          go_wp2_with fail
          refine OB.mono ?_
          rintro e w9 ⟨v9, rfl, ho9, hb9⟩
          have K9 := HK8.out.trans (Keeps.of_below (L := M) hb9 (Nat.le_trans hG4 HK8.out.1.size))
          have SO := sameobjs_true S.objs v9 _ w9 ho9 (HWAS.out w9 K9)
          have HK9 := Lib.hid K9
          clear OB ho9 hb9 K9
          go_wp2_with fail
          refine SO.mono ?_
          rintro e wE ⟨rfl, hbE⟩
          have hWE := (HKW.out w9 HK9.out).trans (hbE.mono (HKW.out w9 HK9.out).size)
          clear SO hbE
          go_wp2
          go_ret
          exact ⟨rfl, hWE⟩
        · obtain ⟨S1, id', hc, hf1, ht1, hfree, ho1⟩ := con_new (addr := addr) (typ := typ) (after := after) (x := x) HS.out.1 hg ha
          rw [hc] at CR
          have ea : (addr == [110, 111]) = false := by simpa [noS] using ha
          have ea2 : ¬ addr = [110, 111] := ha
          have HAA := Lib.hid ha
          have HF1 := Lib.hid hf1
          have HT1 := Lib.hid ht1
          have HFR := Lib.hid hfree
          have HO1 := Lib.hid ho1
          have HRS := Lib.hid H4.out.ris
          have hl1 : S1.objs.length = S.objs.length + 1 := by rw [ho1]; exact con_len hfree
          clear hg hc hf1 ht1 hfree ho1 ha
          go_wp2_with fail
          refine CR.mono ?_
          rintro e w5 ⟨rfl, h5, K5⟩
          have hfi : fitS id' := (h5.fit (typ, id', x) (by rw [HO1.out]; exact mem_withO.2 (.inl rfl))).2
          have HFI := Lib.hid hfi
          have HK5 := Lib.hid K5
          have G5 := HGD.out w5 (HKW.out w5 K5)
          have H5 := Lib.hid h5
          clear CR K5 h5 hfi p0 p1 p2 p3 p4 p5 p6 p7 p8 p9
          obtain ⟨p0, p1, p2, p3, p4, p5, p6, p7, p8, p9⟩ := op_cells (HBX.out w5 (HKA.out w5 HK5.out))
          go_wp2_with fail
          refine G5.mono ?_
          rintro e w6 ⟨rfl, hb6⟩
          have K6 := HK5.out.trans (Keeps.of_below (L := M) hb6 (Nat.le_trans hG4 HK5.out.1.size))
          have h6 := H5.out.below hb6
          have RD := read_h h6 typ id' HLA.out.2.2.1 HFI.out
          rw [HO1.out, (con_read HRS.out (typ, id', x)).1, (con_read HRS.out (typ, id', x)).2] at RD
          have HK6 := Lib.hid K6
          have H6 := Lib.hid h6
          clear G5 hb6 K6 h6 p0 p1 p2 p3 p4 p5 p6 p7 p8 p9 H5
          obtain ⟨p0, p1, p2, p3, p4, p5, p6, p7, p8, p9⟩ := op_cells (HBX.out w6 (HKA.out w6 HK6.out))
          go_wp2_with fail
          refine RD.mono ?_
          rintro e w7 ⟨v7, rfl, hv7, hb7⟩
          obtain ⟨si, sc, sk, sd, rfl⟩ := hv7.form
          have K7 := HK6.out.trans (Keeps.of_below (L := M) hb7 (Nat.le_trans hG4 HK6.out.1.size))
          have h7 := H6.out.below hb7
          obtain ⟨w8, hw8⟩ : ∃ w8, w8 = w7.alloc (.cells #[.int .i64 x.kind, .bool x.flag, str x.text, .slice si x.items.length sc, .slice sk x.keys.length sd] 41) := ⟨_, rfl⟩
          have n8 := heap_alloc_new w7 (.cells #[.int .i64 x.kind, .bool x.flag, str x.text, .slice si x.items.length sc, .slice sk x.keys.length sd] 41)
          rw [← hw8] at n8
          have hb8 : Below w7.heap.size w7 w8 := by rw [hw8]; exact (Below.refl _ w7).alloc (Nat.le_refl _) _
          have K8 := K7.trans (Keeps.of_below (L := M) hb8 (Nat.le_trans hG4 K7.1.size))
          have SM := same_rval x x _ _ w8 (hv7.mono hb8) (HV.out.mono (HKW.out w8 K8))
          rw [(sameV_iff x x).2 rfl] at SM
          obtain ⟨g9, hg9⟩ : ∃ g9, g9 = w7.heap.size := ⟨_, rfl⟩
          have hg9G : w4.heap.size ≤ g9 := by rw [hg9]; exact K7.1.size
          have h8 : HasO [g9] G (g9 :: M) p S1 (os.length + 1) w8 := ((h7.guard (q := g9) (by omega)).offs (K := [g9]) (fun q hq => by
            have : q = g9 := by simpa using hq
            omega)).below hb8
          rw [← hg9] at n8
          have HK8 := Lib.hid K8
          have H8 := Lib.hid h8
          have HN8 := Lib.hid n8
          clear RD hv7 hb7 K7 h7 hb8 K8 h8 p0 p1 p2 p3 p4 p5 p6 p7 p8 p9 H6
          obtain ⟨p0, p1, p2, p3, p4, p5, p6, p7, p8, p9⟩ := op_cells (HBX.out w8 (HKA.out w8 HK8.out))
          obtain ⟨d0, d1, d2, d3, d4⟩ := val_box n8
          clear n8
          go_upto_region 13 with fail
          rw [← hw8, ← hg9]
          clear hw8 hg9
          go_wp2_with fail
          refine SM.mono ?_
          rintro e w9 ⟨rfl, hb9⟩
          have K9 := HK8.out.trans (Keeps.of_below (L := M) hb9 (Nat.le_trans hG4 HK8.out.1.size))
          have OB := objects_k (H8.out.below hb9).has (by omega)
          rw [hl1] at OB
          have hwr : IntKind.i64.wrap ((S.objs.length : Int) + 1) = (S.objs.length : Int) + 1 := by rw [IntKind.wrap_i64]; omega
          have hnn : (((S.objs.length : Int) + 1) != ((S.objs.length : Int) + 1)) = false := by simp
          have HK9 := Lib.hid K9
          have HB9 := Lib.hid hb9
          clear SM hb9 K9 p0 p1 p2 p3 p4 p5 p6 p7 p8 p9 d0 d1 d2 d3 d4
          go_wp2_with fail
          refine OB.mono ?_
          rintro e w10 ⟨a10, c10, M10, rfl, _, _, hb10⟩
          have K10 := HK9.out.trans (Keeps.of_below (L := M) hb10 (Nat.le_trans hG4 HK9.out.1.size))
          have HB10 := Lib.hid (HB9.out.trans (hb10.mono HB9.out.size))
          have HK10 := Lib.hid K10
          have h10 := H8.out.below HB10.out
          have I1 := int02 1 (by omega) (by omega) (by rw [itoa_one]; decide) w10
          have H10 := Lib.hid h10
          clear OB hb10 K10 h10 hwr hnn
          go_wp2_with fail
          refine I1.mono ?_
          rintro e w11 ⟨v11, rfl, hv11, hb11⟩
          have PU := put_more (.mk 3 false (Lib.itoa 1) [] []) ⟨rfl, rfl⟩ v11 [107] w11 hv11
          have h11 := H10.out.below hb11
          have K11 := HK10.out.trans (Keeps.of_below (L := M) hb11 (Nat.le_trans hG4 HK10.out.1.size))
          have HB11 := Lib.hid (HB10.out.trans (hb11.mono HB10.out.size))
          have H11 := Lib.hid h11
          have HK11 := Lib.hid K11
          clear I1 hv11 hb11 h11 K11 H10
          go_wp2_with fail
          refine PU.mono ?_
          rintro e w12 ⟨v12, M12, rfl, hv12, hM12, hb12⟩
          replace hv12 : ∀ W : World, (∀ q ∈ M12, W.heap[q]? = w12.heap[q]?) → ValAt W moreV v12 := hv12
          obtain ⟨mi, mc, mk, md, rfl⟩ := (hv12 w12 (fun _ _ => rfl)).form
          obtain ⟨w13, hw13⟩ : ∃ w13, w13 = w12.alloc (.cells #[.int .i64 moreV.kind, .bool moreV.flag, str moreV.text, .slice mi moreV.items.length mc, .slice mk moreV.keys.length md] 41) := ⟨_, rfl⟩
          have n13 := heap_alloc_new w12 (.cells #[.int .i64 moreV.kind, .bool moreV.flag, str moreV.text, .slice mi moreV.items.length mc, .slice mk moreV.keys.length md] 41)
          rw [← hw13] at n13
          have hb13 : Below w12.heap.size w12 w13 := by rw [hw13]; exact (Below.refl _ w12).alloc (Nat.le_refl _) _
          obtain ⟨g11, hg11⟩ : ∃ g11, g11 = w12.heap.size := ⟨_, rfl⟩
          have h13 : HasO [g9] G (g11 :: (M12 ++ (g9 :: M))) p S1 (os.length + 1) w13 := ((((H11.out.guards (M := M12) fun q hq => (hM12 q hq).1).below hb12).guard (q := g11) (by omega))).below hb13
          have hb12' := HB11.out.trans (hb12.mono HB11.out.size)
          have hb13' := hb12'.trans (hb13.mono hb12'.size)
          have K13 := HK11.out.trans ((Keeps.of_below (L := M) hb12 (Nat.le_trans hG4 HK11.out.1.size)).trans (Keeps.of_below (L := M) hb13 (Nat.le_trans (Nat.le_trans hG4 HK11.out.1.size) hb12.size)))
          rw [← hg11] at n13
          have n9 := (hb13'.block _ (heap_lt HN8.out)).trans HN8.out
          have hg9l := heap_lt n9
          have hg911 : g9 < g11 := by rw [hg11]; exact Nat.lt_of_lt_of_le (heap_lt HN8.out) hb12'.size
          have hg11l := heap_lt n13
          have h4l := K13.1.size
          have hL13 : ∀ q ∈ g11 :: (M12 ++ (g9 :: M)), q < w13.heap.size := fun q hq => by
            rcases List.mem_cons.1 hq with rfl | hq
            · exact hg11l
            · rcases List.mem_append.1 hq with hq | hq
              · exact Nat.lt_of_lt_of_le (hM12 q hq).2 hb13.size
              · rcases List.mem_cons.1 hq with rfl | hq
                · exact hg9l
                · exact Nat.lt_of_lt_of_le (HL4.out q hq) h4l
          obtain ⟨S2, hc2, hf2, ht2, ho2⟩ := con_up (S := S1) (addr := addr) (typ := typ) (i := id') (y := moreV) HF1.out more_good HAA.out (by rw [HO1.out]; exact (con_read HRS.out (typ, id', x)).2)
          have hr1 : risO S1.objs := h13.has.ris
          have UP := update_ho h13 (fun q hq => by
            have : q = g9 := by simpa using hq
            omega) hL13 addr typ id' moreV _ (hv12 w13 fun q hq => hb13.block q (hM12 q hq).2) HLA.out.2.2.1 HFI.out (by have := HT1.out; omega) (by omega)
          rw [hc2] at UP
          have HK13 := Lib.hid K13
          have HL13 := Lib.hid hL13
          have HN9 := Lib.hid n9
          have HN11 := Lib.hid n13
          have HV12 := Lib.hid hv12
          have hM12g : ∀ q ∈ M12, g9 < q ∧ q < w12.heap.size := fun q hq => ⟨Nat.lt_of_lt_of_le (Nat.lt_of_lt_of_le (heap_lt HN8.out) HB11.out.size) (hM12 q hq).1, (hM12 q hq).2⟩
          have HM12 := Lib.hid hM12g
          have HB13 := Lib.hid hb13
          have HF2 := Lib.hid hf2
          have HT2 := Lib.hid ht2
          have HO2 := Lib.hid ho2
          have HR1 := Lib.hid hr1
          obtain ⟨p0, p1, p2, p3, p4, p5, p6, p7, p8, p9⟩ := op_cells (HBX.out w13 (HKA.out w13 HK13.out))
          obtain ⟨e0, e1, e2, e3, e4⟩ := val_box n13
          clear PU hv12 hM12 hb12 hb13 h13 hb12' hb13' K13 n9 n13 hL13 hc2 hf2 ht2 ho2 hr1 hM12g H11 HK11
          go_upto_region 16 with fail
          rw [← hw13, ← hg11]
          clear hw13 hg11
          go_wp2_with fail
          refine UP.mono ?_
          rintro e w14 ⟨rfl, h14, K14⟩
          have hsub : ∀ q ∈ M, q ∈ g11 :: (M12 ++ (g9 :: M)) := fun q hq => List.mem_cons_of_mem _ (List.mem_append.2 (.inr (List.mem_cons_of_mem _ hq)))
          have HK14 := Lib.hid (HK13.out.trans (K14.sub hsub))
          have HKX := Lib.hid K14
          have RD2 := read_k h14.has typ id' HLA.out.2.2.1 HFI.out
          rw [HO2.out, (con_read HR1.out (typ, id', moreV)).1, (con_read HR1.out (typ, id', moreV)).2] at RD2
          have H14 := Lib.hid h14
          clear UP K14 h14 p0 p1 p2 p3 p4 p5 p6 p7 p8 p9 e0 e1 e2 e3 e4
          obtain ⟨p0, p1, p2, p3, p4, p5, p6, p7, p8, p9⟩ := op_cells (HBX.out w14 (HKA.out w14 HK14.out))
          go_wp2_with fail
          refine RD2.mono ?_
          rintro e w15 ⟨v15, M15, rfl, hv15, hM15, hb15⟩
          obtain ⟨ni, nc, nk, nd, rfl⟩ := (hv15 w15 (fun _ _ => rfl)).form
          have hs14 := HKX.out.1.size
          have n9 : w15.heap[g9]? = _ := (hb15.block _ (Nat.lt_of_lt_of_le hg9l hs14)).trans ((HKX.out.2 g9 (List.mem_cons_of_mem _ (List.mem_append.2 (.inr (List.mem_cons_self ..)))) hg9l).trans HN9.out)
          have n11 : w15.heap[g11]? = _ := (hb15.block _ (Nat.lt_of_lt_of_le hg11l hs14)).trans ((HKX.out.2 g11 (List.mem_cons_self ..) hg11l).trans HN11.out)
          obtain ⟨w16, hw16, r16, z16, k16, _⟩ := put_box5 n9 (.int .i64 moreV.kind) (.bool moreV.flag) (str moreV.text) (.slice ni moreV.items.length nc) (.slice nk moreV.keys.length nd)
          have hs16 := put5_spares w15 g9 (.int .i64 moreV.kind) (.bool moreV.flag) (str moreV.text) (.slice ni moreV.items.length nc) (.slice nk moreV.keys.length nd)
          rw [← hw16] at hs16
          obtain ⟨y0, y1, y2, y3, y4, f0, f1, f2, f3, f4⟩ := free5 n9
          have hsz14 : w13.heap.size ≤ w14.heap.size := hs14
          have hsz15 : w14.heap.size ≤ w15.heap.size := hb15.size
          have vA := hv15 w16 (fun q hq => hs16.block q (hM15 q hq).2 (by have h1 := (hM15 q hq).1; simp; omega))
          have Q16 : ∀ q ∈ M12, w16.heap[q]? = w12.heap[q]? := (fun q hq => by
            have h1 := HM12.out q hq
            have h2 := HB13.out.size
            exact (hs16.block q (by omega) (by simp; omega)).trans ((hb15.block q (by omega)).trans ((HKX.out.2 q (List.mem_cons_of_mem _ (List.mem_append.2 (.inl hq))) (by omega)).trans (HB13.out.block q h1.2))))
          have vB := HV12.out w16 Q16
          have HQ16 := Lib.hid Q16
          clear Q16
          have h16 := (H14.out.below hb15).boxed hs16 (fun q hq => by
            have : q = g9 := by simpa using hq
            rw [this]
            exact ⟨_, _, n9⟩)
          have hG15 : G ≤ w15.heap.size := Nat.le_trans hG4 (Nat.le_trans HK14.out.1.size hsz15)
          have KA : Keeps G M w15 w16 := ⟨hs16.below hG15 (fun k hk => by
            have : k = g9 := by simpa using hk
            omega), fun q hq hl => hs16.block q hl (by have := HL4.out q hq; simp; omega)⟩
          have K16 := (HK14.out.trans (Keeps.of_below (L := M) hb15 (Nat.le_trans hG4 HK14.out.1.size))).trans KA
          have n11b := (k16 g11 (by omega)).trans n11
          have SM2 := same_rval moreV moreV _ _ w16 vA vB
          rw [(sameV_iff moreV moreV).2 rfl] at SM2
          obtain ⟨b0, b1, b2, b3, b4, _, _⟩ := cell_box5 r16
          obtain ⟨e0, e1, e2, e3, e4⟩ := val_box n11b
          have hsz16 : w15.heap.size ≤ w16.heap.size := hs16.size
          have HN16 := Lib.hid n11b
          have HK16 := Lib.hid K16
          have H16 := Lib.hid h16
          clear RD2 hv15 hM15 hb15 n9 n11 z16 k16 hs16 vA vB h16 hG15 KA K16 n11b r16 p0 p1 p2 p3 p4 p5 p6 p7 p8 p9
          go_upto_region 19 with fail
          rw [← hw16]
          clear hw16 y0 y1 y2 y3 y4 f0 f1 f2 f3 f4
          go_wp2_with fail
          refine SM2.mono ?_
          rintro e w17 ⟨rfl, hb17⟩
          have h17 := H16.out.below hb17
          have hL17 : ∀ q ∈ g11 :: (M12 ++ (g9 :: M)), q < w17.heap.size := fun q hq => by have := HL13.out q hq; have := hb17.size; omega
          have K17 := HK16.out.trans (Keeps.of_below (L := M) hb17 (Nat.le_trans hG4 HK16.out.1.size))
          obtain ⟨S3, hc3, hf3, ht3, ho3⟩ := con_del (S := S2) (addr := addr) (typ := typ) (i := id') HF2.out HAA.out
          have hob3 : S3.objs = S.objs := by rw [ho3, HO2.out, HO1.out]; exact con_back HRS.out HFR.out
          have DL := delete_h h17 hL17 addr typ id' HLA.out.2.2.1 HFI.out (by have := HT2.out; have := HT1.out; omega)
          rw [hc3] at DL
          have HB17 := Lib.hid hb17
          have HK17 := Lib.hid K17
          have HL17 := Lib.hid hL17
          have HN17 := Lib.hid ((hb17.block _ (heap_lt HN16.out)).trans HN16.out)
          have HF3 := Lib.hid hf3
          have HT3 := Lib.hid ht3
          have HOB3 := Lib.hid hob3
          clear SM2 hb17 h17 hL17 K17 hc3 hf3 ht3 ho3 hob3 b0 b1 b2 b3 b4 e0 e1 e2 e3 e4 H16
          obtain ⟨p0, p1, p2, p3, p4, p5, p6, p7, p8, p9⟩ := op_cells (HBX.out w17 (HKA.out w17 HK17.out))
          go_wp2_with fail
          refine DL.mono ?_
          rintro e w18 ⟨rfl, h18, K18⟩
          have HK18 := Lib.hid (HK17.out.trans (K18.sub hsub))
          have HKY := Lib.hid K18
          have OB3 := objects_h h18 (by rw [HOB3.out]; omega)
          have H18 := Lib.hid h18
          clear DL h18 K18 p0 p1 p2 p3 p4 p5 p6 p7 p8 p9
          go_wp2_with fail
          refine OB3.mono ?_
          rintro e w19 ⟨v19, rfl, ho19, hb19⟩
          rw [HOB3.out] at ho19
          have K19 := HK18.out.trans (Keeps.of_below (L := M) hb19 (Nat.le_trans hG4 HK18.out.1.size))
          have SO := sameobjs_true S.objs v19 _ w19 ho19 (HWAS.out w19 K19)
          have HB19 := Lib.hid hb19
          have HK19 := Lib.hid K19
          clear OB3 ho19 hb19 K19
          go_wp2_with fail
          refine SO.mono ?_
          rintro e w20 ⟨rfl, hb20⟩
          have hb820 := HB19.out.trans (hb20.mono HB19.out.size)
          have K20 := HK19.out.trans (Keeps.of_below (L := M) hb20 (Nat.le_trans hG4 HK19.out.1.size))
          have h20 := H18.out.below hb820
          have hL20 : ∀ q ∈ g11 :: (M12 ++ (g9 :: M)), q < w20.heap.size := fun q hq => by
            have := HL17.out q hq
            have := HKY.out.1.size
            have := hb820.size
            omega
          obtain ⟨S4, hc4, hf4, ht4, ho4⟩ := con_del (S := S3) (addr := addr) (typ := typ) (i := id') HF3.out HAA.out
          have hob4 : hasO S4.objs typ id' = false := by rw [ho4, HOB3.out, out_none HFR.out]; exact HFR.out
          have DL := delete_h h20 hL20 addr typ id' HLA.out.2.2.1 HFI.out (by have := HT3.out; have := HT2.out; have := HT1.out; omega)
          rw [hc4] at DL
          have HB820 := Lib.hid hb820
          have HK20 := Lib.hid K20
          have HL20 := Lib.hid hL20
          have HN20 := Lib.hid ((hb820.block _ (Nat.lt_of_lt_of_le (heap_lt HN17.out) HKY.out.1.size)).trans ((HKY.out.2 g11 (List.mem_cons_self ..) (heap_lt HN17.out)).trans HN17.out))
          have HF4 := Lib.hid hf4
          have HT4 := Lib.hid ht4
          have HOB4 := Lib.hid hob4
          clear SO hb20 hb820 K20 h20 hL20 hc4 hf4 ht4 ho4 hob4 H18
          obtain ⟨p0, p1, p2, p3, p4, p5, p6, p7, p8, p9⟩ := op_cells (HBX.out w20 (HKA.out w20 HK20.out))
          go_wp2_with fail
          refine DL.mono ?_
          rintro e w21 ⟨rfl, h21, K21⟩
          have HK21 := Lib.hid (HK20.out.trans (K21.sub hsub))
          have n21 := (K21.2 g11 (List.mem_cons_self ..) (heap_lt HN20.out)).trans HN20.out
          obtain ⟨e0, e1, e2, e3, e4⟩ := val_box n21
          clear DL p0 p1 p2 p3 p4 p5 p6 p7 p8 p9
          obtain ⟨p0, p1, p2, p3, p4, p5, p6, p7, p8, p9⟩ := op_cells (HBX.out w21 (HKA.out w21 HK21.out))
          have v21 := HV12.out w21 (fun q hq => by
            have h1 := HM12.out q hq
            have hm : q ∈ g11 :: (M12 ++ (g9 :: M)) := List.mem_cons_of_mem _ (List.mem_append.2 (.inl hq))
            have h2 := HL13.out q hm
            have h3 := HB17.out.size
            have h4 := HKY.out.1.size
            have h5 := HB820.out.size
            exact (K21.2 q hm (by omega)).trans ((HB820.out.block q (by omega)).trans ((HKY.out.2 q hm (by omega)).trans ((HB17.out.block q (by omega)).trans (HQ16.out q hq)))))
          have UP2 := update_h h21 (fun q hq => by
            have := HL20.out q hq
            have := K21.1.size
            omega) addr typ id' moreV _ v21 HLA.out.2.2.1 HFI.out (by have := HT4.out; have := HT3.out; have := HT2.out; have := HT1.out; omega) (by omega)
          rw [con_up_none HF4.out more_good HAA.out HOB4.out] at UP2
          clear v21 h21 K21 n21
          go_wp2_with fail
          refine UP2.mono ?_
          rintro e w22 ⟨rfl, h22, K22⟩
          have hWE := HKW.out w22 (HK21.out.trans (K22.sub hsub))
          clear UP2 h22 K22
          go_wp2
          go_ret
          exact ⟨rfl, hWE⟩
  · have n40 : (40 : Int) < (os.length : Int) := by omega
    go_wp2_with fail
    refine AW2.mono ?_
    rintro e w2 ⟨rfl, hb2⟩
    clear AW2
    go_wp2
    go_ret
    exact ⟨rfl, HW1.out.trans (hb2.mono HW1.out.size)⟩

end Go.Proofs.YtpbipngnoklmcaaGreatDoor
