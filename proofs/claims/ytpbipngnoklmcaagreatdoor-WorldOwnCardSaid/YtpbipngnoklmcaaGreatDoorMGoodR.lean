/- The walk of the document's Good: it says what goodV says, of any value. The walk of the document's Known. The walk of the document's Good. The document's world: Set. The document's world: Update. Printed by genrefw.py. -/
import Derived.Test.YtpbipngnoklmcaaGreatDoorValN
import Derived.Test.YtpbipngnoklmcaaGreatDoorMValR
import Derived.Test.YtpbipngnoklmcaaGreatDoorMGoods
import Derived.Test.YtpbipngnoklmcaaGreatDoorMWldRd
import Derived.Test.YtpbipngnoklmcaaGreatDoorMWldHs
namespace Go.Proofs.YtpbipngnoklmcaaGreatDoor
open Go.RowKit
set_option maxRecDepth 100000
attribute [local go_sem] str_size str_toList str_get

set_option maxHeartbeats 2000000 in
theorem good_rval (t : VT) (v : Value) (w : World) (h : ValAt w t v) : Calls Tryz.prog 11 #[v] w fun e w' => e = .returned (.bool (goodV t)) ∧ Below w.heap.size w w' := by
  obtain ⟨ai, ci, ak, ck, rfl⟩ := h.form
  obtain ⟨wB, hwB⟩ : ∃ wB, wB = w.alloc (.cells #[.int .i64 t.kind, .bool t.flag, str t.text, .slice ai t.items.length ci, .slice ak t.keys.length ck] 41) := ⟨_, rfl⟩
  obtain ⟨b0, b1, b2, b3, b4, hsB, hbB⟩ := box5 hwB
  have C1 := size_rval t _ wB (h.mono hbB)
  have C2 := fun W (hb : Below w.heap.size w W) => deep_rval t 24 (by omega) _ W (h.mono hb)
  have C3 := fun W (hb : Below w.heap.size w W) => plain_rval t _ W (h.mono hb)
  have hsz : ∀ z : Int, (∀ d, d ≤ 1000 → deepV d t = true → z = sizeR t) → deepV 24 t = true → (z ≤ 2000 ↔ sizeV t ≤ 2000) := fun z hz hd => by
    have e := hz 24 (by omega) hd
    have hi := sizeR_iff t
    by_cases hs : sizeV t ≤ 2000
    · have := hi.1 hs; omega
    · have := hi.2 (by omega); omega
  have hgood : goodV t = (decide (sizeV t ≤ 2000) && deepV 24 t && plainV t) := rfl
  obtain ⟨R, hR⟩ : ∃ R, goodV t = R := ⟨_, rfl⟩
  rw [hR] at hgood ⊢
  obtain ⟨D, hD⟩ : ∃ D, deepV 24 t = D := ⟨_, rfl⟩
  obtain ⟨F, hF⟩ : ∃ F, plainV t = F := ⟨_, rfl⟩
  obtain ⟨Z, hZ⟩ : ∃ Z, decide (sizeV t ≤ 2000) = Z := ⟨_, rfl⟩
  rw [hD] at C2 hsz hgood
  rw [hF] at C3 hgood
  rw [hZ] at hgood
  have HG := Lib.hid hgood
  have HZ := Lib.hid hZ
  have HSZ := Lib.hid hsz
  clear hsz hR hD hF h hZ hgood
  go_enter Tryz.func11, Tryz.ntmps11
  go_upto_region 1 with fail
  rw [← hwB]
  clear hwB
  go_wp2_with fail
  refine C1.mono ?_
  rintro e w1 ⟨⟨z, rfl, hz0, hz1, hz⟩, hq1⟩
  have HZ2 := Lib.hid (HSZ.out z hz)
  clear hz HSZ C1
  have q0 := box_at b0 hsB hq1
  have q1 := box_at b1 hsB hq1
  have q2 := box_at b2 hsB hq1
  have q3 := box_at b3 hsB hq1
  have q4 := box_at b4 hsB hq1
  have hbw1 := hbB.trans (hq1.mono (by omega))
  by_cases hz2 : z ≤ 2000
  · go_wp2_with fail
    refine (C2 w1 hbw1).mono ?_
    rintro e w2 ⟨rfl, hq2⟩
    have hq12 := hq1.trans (hq2.mono hq1.size)
    have p0 := box_at b0 hsB hq12
    have p1 := box_at b1 hsB hq12
    have p2 := box_at b2 hsB hq12
    have p3 := box_at b3 hsB hq12
    have p4 := box_at b4 hsB hq12
    have hbw2 := hbB.trans (hq12.mono (by omega))
    cases D with
    | false =>
      have hr : R = false := by rw [HG.out]; simp
      subst hr
      clear HG HZ HZ2
      go_wp2
      go_ret
      exact ⟨rfl, hbw2⟩
    | true =>
      have hr : R = F := by
        have hs := (HZ2.out rfl).1 hz2
        rw [HG.out, ← HZ.out, decide_eq_true hs]; rfl
      subst hr
      clear HG HZ HZ2
      go_wp2_with fail
      refine (C3 w2 hbw2).mono ?_
      rintro e w3 ⟨rfl, hq3⟩
      have hbw3 := hbw2.trans (hq3.mono hbw2.size)
      go_wp2
      go_ret
      exact ⟨rfl, hbw3⟩
  · have hr : R = false := by
      cases D with
      | false => rw [HG.out]; simp
      | true =>
        have hs : ¬ sizeV t ≤ 2000 := fun hs => hz2 ((HZ2.out rfl).2 hs)
        rw [HG.out, ← HZ.out, decide_eq_false hs]; rfl
    subst hr
    clear HG HZ HZ2
    go_wp2
    go_ret
    exact ⟨rfl, hbw1⟩

end Go.Proofs.YtpbipngnoklmcaaGreatDoor
namespace Go.Proofs.YtpbipngnoklmcaaGreatDoor
open Go.RowKit
set_option maxRecDepth 100000
attribute [local go_sem] str_size str_toList str_get

set_option maxHeartbeats 1600000 in
theorem known_rval (t : VT) : ∀ (v : Value) (w : World), ValAt w t v → Calls Tryz.prog 54 #[v] w fun e w' => e = .returned (.bool (knownV t)) ∧ Below w.heap.size w w' := by
  induction t using VT.ind with
  | h k b tx its ks ih =>
    intro v w h
    rw [ValAt] at h
    obtain ⟨vi, vk, rfl, hk, hks, vs, hr, hv⟩ := h
    obtain ⟨ak, ck, rfl, _⟩ := hks
    have hr0 := hr
    obtain ⟨ao, cap, rfl, hm, _⟩ := hr
    obtain ⟨wB, hwB⟩ : ∃ wB, wB = w.alloc (.cells #[.int .i64 k, .bool b, str tx, .slice ao its.length cap, .slice ak ks.length ck] 41) := ⟨_, rfl⟩
    obtain ⟨_, _, _, b3, _, hsB, hbB⟩ := box5 hwB
    rw [knownV, knownL_all]
    by_cases hk1 : k = 1
    · have hkb : (k == 1) = true := by simpa using hk1
      rw [hkb]
      clear hk1
      go_enter Tryz.func54, Tryz.ntmps54
      go_wp2
      rw [← hwB]
      clear hwB
      go_ret
      exact ⟨rfl, hbB⟩
    · have hkb : (k == 1) = false := by simpa using hk1
      rw [hkb, Bool.not_false, Bool.true_and]
      clear hk1
      go_enter Tryz.func54, Tryz.ntmps54
      go_wp2
      rw [← hwB]
      clear hwB
      go_loopg [10] its.length (fun g v10 wr => ∃ i : Nat, i + g = its.length ∧ v10 = .int .i64 i ∧ (its.take i).all knownV = true ∧ Below wB.heap.size wB wr)
      case atStart => exact ⟨0, by omega, rfl, rfl, Below.refl _ _⟩
      case round =>
        obtain ⟨i, hig, rfl, hall, hbl⟩ := hrel
        have q3 := box_at b3 hsB hbl
        have hbw := hbB.trans (hbl.mono (by omega))
        have HALL := Lib.hid hall
        clear hall
        cases gk with
        | zero =>
          obtain rfl : i = its.length := by omega
          have := HALL.out
          rw [List.take_length] at this
          have HF := Lib.hid this
          clear this
          go_wp2
          go_ret
          exact ⟨by rw [HF.out]; rfl, hbw⟩
        | succ g =>
          have hil : i < its.length := by omega
          have hie : (i : Int) < (its.length : Int) := by omega
          obtain ⟨b', off, ai, ci, ak', ck', rfl, hlt, hx, h0, h1, h2, h3, h4⟩ := RowAt.at hr0 hv hbw hil
          have C := ih its[i] (List.getElem_mem hil) _ wr hx
          have HY : Hid (knownV its[i] = true → (its.take (i + 1)).all knownV = true) := fun h => all_take_succ hil HALL.out h
          have HX : Hid (knownV its[i] = false → its.all knownV = false) := fun h => all_false hil h
          obtain ⟨x, hxe⟩ : ∃ x, its[i] = x := ⟨_, rfl⟩
          rw [hxe] at h0 h1 h2 h3 h4 C HY HX
          obtain ⟨r, hr⟩ : ∃ r, knownV x = r := ⟨_, rfl⟩
          rw [hr] at C HY HX
          clear hx hxe hr
          go_wp2_with fail
          refine C.mono ?_
          rintro e w' ⟨rfl, hq⟩
          have hb' := hbl.trans (hq.mono hbl.size)
          cases r with
          | false =>
            have HX' := Lib.hid (HX.out rfl)
            clear HX HY
            go_wp2
            go_ret
            exact ⟨by rw [HX'.out]; rfl, hbB.trans (hb'.mono (by omega))⟩
          | true =>
            have HY' := Lib.hid (HY.out rfl)
            clear HX HY
            go_wp2
            go_roundg g
            case measure => omega
            case rel => exact ⟨i + 1, by omega, by go_num, HY'.out, hb'⟩

end Go.Proofs.YtpbipngnoklmcaaGreatDoor
namespace Go.Proofs.YtpbipngnoklmcaaGreatDoor
open Go.RowKit
set_option maxRecDepth 100000
attribute [local go_sem] str_size str_toList str_get

theorem good17_w (x : VT) (v : Value) (w : World) (h : ValAt w x v) : Calls Tryz.prog 19 #[v] w fun e w' => e = .returned (.bool (goodA x)) ∧ Below w.heap.size w w' := by
  have HV := Lib.hid h
  obtain ⟨ai, ci, ak, ck, rfl⟩ := h.form
  obtain ⟨wB, hwB⟩ : ∃ wB, wB = w.alloc (.cells #[.int .i64 x.kind, .bool x.flag, str x.text, .slice ai x.items.length ci, .slice ak x.keys.length ck] 41) := ⟨_, rfl⟩
  obtain ⟨b0, b1, b2, b3, b4, hsB, hbB⟩ := box5 hwB
  have G := good_rval x _ wB (HV.out.mono hbB)
  have K := fun W (hW : Below wB.heap.size wB W) => known_rval x _ W (HV.out.mono (hbB.trans (hW.mono (by omega))))
  have hga : goodA x = (x.kind == 6 && (goodV x && knownV x)) := rfl
  rw [hga]
  clear hga
  obtain ⟨q, h6⟩ : ∃ q, (x.kind == 6) = q := ⟨_, rfl⟩
  rw [h6]
  generalize goodV x = g at G ⊢
  generalize knownV x = k at K ⊢
  go_enter Tryz.func19, Tryz.ntmps19
  go_upto_region 1 with fail
  rw [← hwB]
  clear hwB
  cases q with
  | false =>
    go_wp2
    go_ret
    exact ⟨rfl, hbB⟩
  | true =>
    go_wp2_with fail
    refine G.mono ?_
    rintro e w1 ⟨rfl, hq1⟩
    have hb1 := hbB.trans (hq1.mono (by omega))
    have c0 := box_at b0 hsB hq1
    have c1 := box_at b1 hsB hq1
    have c2 := box_at b2 hsB hq1
    have c3 := box_at b3 hsB hq1
    have c4 := box_at b4 hsB hq1
    clear b0 b1 b2 b3 b4
    cases g with
    | false =>
      go_wp2
      go_ret
      exact ⟨rfl, hb1⟩
    | true =>
      go_wp2_with fail
      refine (K w1 hq1).mono ?_
      rintro e w2 ⟨rfl, hq2⟩
      have hb2 := hb1.trans (hq2.mono hb1.size)
      go_wp2
      go_ret
      refine ⟨?_, hb2⟩
      cases k <;> rfl

end Go.Proofs.YtpbipngnoklmcaaGreatDoor
namespace Go.Proofs.YtpbipngnoklmcaaGreatDoor
open Go.RowKit
set_option maxRecDepth 100000
attribute [local go_sem] str_size str_toList str_get

set_option maxHeartbeats 8000000 in
theorem set_r {F : List Nat} {w : World} {m : Value} {rs : List R3} {S : WS} (h : RAt F w m rs S) (hF : ∀ q ∈ F, q < w.heap.size) (typ i : S8) (x : VT) (ai : Option Addr) (ci : Nat) (ak : Option Addr) (ck : Nat)
    (hv : Kept F w fun W => ValAt W x (.agg #[.int .i64 x.kind, .bool x.flag, str x.text, .slice ai x.items.length ci, .slice ak x.keys.length ck])) (ft : fitS typ) (fi : fitS i) (ho : S.objs.length ≤ 100000) :
    Calls Tryz.prog 37 #[m, .agg #[str typ, str i, .int .i64 x.kind, .bool x.flag, str x.text, .slice ai x.items.length ci, .slice ak x.keys.length ck]] w (RPost F (setP S typ i x).1 (setP S typ i x).2 w) := by
  obtain ⟨ao, co, af, cf, at', ct, rfl, k1, k2, k3⟩ := h.form
  have hrl : rs.length ≤ 100000 := by rw [h.len]; exact ho
  obtain ⟨wA, hwA⟩ : ∃ wA, wA = ((w.alloc (.cells #[.slice ao rs.length co, .slice af S.fails.length cf, .slice at' S.trace.length ct] 32)).alloc (.cells #[str typ, str i, .int .i64 x.kind, .bool x.flag, str x.text, .slice ai x.items.length ci, .slice ak x.keys.length ck] 47)).alloc (.cells #[.slice none 0 0, .slice none 0 0, .slice none 0 0] 32) := ⟨_, rfl⟩
  obtain ⟨BX, OX, hbA⟩ := box_three w #[.slice ao rs.length co, .slice af S.fails.length cf, .slice at' S.trace.length ct] #[str typ, str i, .int .i64 x.kind, .bool x.flag, str x.text, .slice ai x.items.length ci, .slice ak x.keys.length ck] #[.slice none 0 0, .slice none 0 0, .slice none 0 0] 32 47
  rw [← hwA] at BX OX hbA
  have FL := good17_w x _ wA (hv.below hbA).now
  have hdl : setP S typ i x = if goodA x = false then (S, 1) else (putP S (typ, i, x), 0) := rfl
  obtain ⟨R, hR⟩ : ∃ R, setP S typ i x = R := ⟨_, rfl⟩
  rw [hR] at hdl ⊢
  generalize goodA x = g at FL hdl
  have HDL := Lib.hid hdl
  have H := Lib.hid h
  have HBA := Lib.hid hbA
  have HBX := Lib.hid BX
  have HOX := Lib.hid OX
  have HF := Lib.hid hF
  have K1 := Lib.hid k1
  have HV := Lib.hid hv
  obtain ⟨o0, o1, o2, o3, o4, o5, o6⟩ := obj_box OX
  clear hdl hR h k1 k2 k3 hbA BX OX hF hv
  go_enter Tryz.func37, Tryz.ntmps37
  go_upto_region 1 with fail
  rw [← hwA]
  clear hwA
  go_wp2_with fail
  refine FL.mono ?_
  rintro e w2 ⟨rfl, hb2⟩
  have hbw2 := HBA.out.trans (hb2.mono HBA.out.size)
  have BX2 := HBX.out.below hb2
  have OX2 := (hb2.block _ (heap_lt HOX.out)).trans HOX.out
  obtain ⟨f0, f1, f2, f3, z0, z1, z2, z3, z4, z5⟩ := BX2.cells
  have hs2 := hbw2.size
  have HB2 := Lib.hid hbw2
  have HX2 := Lib.hid BX2
  clear FL o0 o1 o2 o3 o4 o5 o6 hb2 BX2 hbw2
  cases g with
  | false =>
    have hdl := HDL.out
    rw [if_pos rfl] at hdl
    obtain ⟨wR, hwR, xR, _, _⟩ := put_box3 HX2.out.two (.slice ao rs.length co) (.slice af S.fails.length cf) (.slice at' S.trace.length ct)
    have hsR := put3_spares w2 (w.heap.size + 2) (.slice ao rs.length co) (.slice af S.fails.length cf) (.slice at' S.trace.length ct)
    rw [← hwR] at hsR
    have hb2R : Below w.heap.size w wR := Below.spared HB2.out hsR HB2.out.size (fun k hk => by simp at hk; omega)
    have HP := Lib.hid (show RPost F R.1 R.2 w (.returned (.tuple #[.agg #[.slice ao rs.length co, .slice af S.fails.length cf, .slice at' S.trace.length ct], .int .i64 1])) wR by
      rw [hdl]
      exact ⟨_, rs, rfl, H.out.below hb2R, hb2R⟩)
    have HXR := Lib.hid xR
    clear hsR hb2R xR hdl HDL OX2
    go_wp2
    rw [← hwR]
    (try simp only [Exit.inBlock, Exit.then]); refine bodyPost_ret (results_ct rfl _ _ (w.heap.size + 2) _ _ _ _ rfl HXR.out Tryz.underlying32 rfl (by kernel_rfl)) rfl ?_
    exact HP.out
  | true =>
    have hdl := HDL.out
    rw [if_neg (by simp)] at hdl
    have HR := Lib.hid hdl
    have WO := with_r rs ((typ, i, x), (ai, ci, ak, ck)) ao co w2 (K1.out.below HB2.out).now (by omega)
    have hol := len_withR rs ((typ, i, x), (ai, ci, ak, ck))
    have HOS := Lib.hid (withR_os rs ((typ, i, x), (ai, ci, ak, ck)))
    have HME := Lib.hid (fun r (hr : r ∈ withR rs ((typ, i, x), (ai, ci, ak, ck))) => mem_withR hr)
    generalize withR rs ((typ, i, x), (ai, ci, ak, ck)) = os at WO hol HOS HME
    dsimp only at WO
    obtain ⟨o0, o1, o2, o3, o4, o5, o6⟩ := obj_box OX2
    clear hdl HDL z0 z1 z2 z3 z4 z5 OX2
    go_wp2_with fail
    refine WO.mono ?_
    rintro e w3 ⟨v', rfl, hN⟩
    obtain ⟨a1, c1, rfl⟩ := slice_form hN.1
    have hb3 := hN.2
    have BX3 := HX2.out.below hb3
    obtain ⟨x0, x1, x2, x3, _⟩ := BX3.cells
    obtain ⟨w4, hw4⟩ : ∃ w4, w4 = w3.setCell ⟨w.heap.size, 0, none⟩ (.slice a1 os.length c1) := ⟨_, rfl⟩
    have BX4 : Box2 w.heap.size (w.heap.size + 2) #[.slice a1 os.length c1, .slice af S.fails.length cf, .slice at' S.trace.length ct] #[.slice none 0 0, .slice none 0 0, .slice none 0 0] 32 w4 := by rw [hw4]; exact BX3.set (by omega) 0 _
    have hs4 : Spares [w.heap.size] w3 w4 := by rw [hw4]; exact setC_spares w3 w.heap.size 0 _
    have hbw3 := HB2.out.trans (hb3.mono HB2.out.size)
    have hbw4 : Below w.heap.size w w4 := Below.spared hbw3 hs4 hbw3.size (fun k hk => by simp at hk; omega)
    obtain ⟨y0, y1, y2, y3, z0, z1, z2, z3, z4, z5⟩ := BX4.cells
    obtain ⟨wR, hwR, xR, _, _⟩ := put_box3 BX4.two (.slice a1 os.length c1) (.slice af S.fails.length cf) (.slice at' S.trace.length ct)
    have hsR := put3_spares w4 (w.heap.size + 2) (.slice a1 os.length c1) (.slice af S.fails.length cf) (.slice at' S.trace.length ct)
    rw [← hwR] at hsR
    have hb2R : Below w.heap.size w wR := Below.spared hbw4 hsR hbw4.size (fun k hk => by simp at hk; omega)
    have hgE := heap_lt HX2.out.two
    have hs35 : Spares [w.heap.size, w.heap.size + 2] w3 wR := (hs4.sub (fun k hk _ => by simp at hk; simp [hk])).trans (hsR.sub (fun k hk _ => by simp at hk; simp [hk]))
    have hobjR := row_away hN.1 hs35 (fun q hq => by simp at hq; omega)
    have hpost : RPost F R.1 R.2 w (.returned (.tuple #[.agg #[.slice a1 os.length c1, .slice af S.fails.length cf, .slice at' S.trace.length ct], .int .i64 0])) wR := by
      rw [HR.out]
      exact ⟨_, os, rfl, H.out.held (rs' := os) (os' := withO S.objs (typ, i, x)) (a1 := a1) (c1 := c1) hb2R (Kept.row (row_base hobjR hs2) HF.out) (fun r hr => (HME.out r hr).symm.imp id (fun e => by rw [e]; exact HV.out.below hb2R)) (by rw [HOS.out, H.out.os]) (fun o ho => by rcases mem_withO.1 ho with rfl | ⟨ho, _⟩; exact ⟨ft, fi⟩; exact H.out.fit o ho) (ris_with H.out.ris _), hb2R⟩
    have HP := Lib.hid hpost
    have HXR := Lib.hid xR
    have HW4 := Lib.hid hw4
    clear BX4 hN hs4 hbw3 hbw4 BX3 hb3 WO f0 f1 f2 f3 hsR hb2R hs35 hobjR hpost xR HR hw4 o0 o1 o2 o3 o4 o5 o6
    go_upto_region 4 with fail
    rw [← HW4.out]
    clear x0 x1 x2 x3
    go_wp2
    rw [← hwR]
    (try simp only [Exit.inBlock, Exit.then]); refine bodyPost_ret (results_ct rfl _ _ (w.heap.size + 2) _ _ _ _ rfl HXR.out Tryz.underlying32 rfl (by kernel_rfl)) rfl ?_
    exact HP.out

end Go.Proofs.YtpbipngnoklmcaaGreatDoor
namespace Go.Proofs.YtpbipngnoklmcaaGreatDoor
open Go.RowKit
set_option maxRecDepth 100000
attribute [local go_sem] str_size str_toList str_get

set_option maxHeartbeats 8000000 in
theorem update_r {F : List Nat} {w : World} {m : Value} {rs : List R3} {S : WS} (h : RAt F w m rs S) (hF : ∀ q ∈ F, q < w.heap.size) (addr typ i : S8) (x : VT) (ai : Option Addr) (ci : Nat) (ak : Option Addr) (ck : Nat)
    (hv : Kept F w fun W => ValAt W x (.agg #[.int .i64 x.kind, .bool x.flag, str x.text, .slice ai x.items.length ci, .slice ak x.keys.length ck])) (ft : fitS typ) (fi : fitS i) (hl : S.trace.length ≤ 100000) (ho : S.objs.length ≤ 100000) :
    Calls Tryz.prog 34 #[m, str addr, str typ, str i, .agg #[.int .i64 x.kind, .bool x.flag, str x.text, .slice ai x.items.length ci, .slice ak x.keys.length ck]] w (RPost F (updateP S addr typ i x).1 (updateP S addr typ i x).2 w) := by
  obtain ⟨ao, co, af, cf, at', ct, rfl, k1, k2, k3⟩ := h.form
  have hrl : rs.length ≤ 100000 := by rw [h.len]; exact ho
  obtain ⟨wA, hwA⟩ : ∃ wA, wA = ((w.alloc (.cells #[.slice ao rs.length co, .slice af S.fails.length cf, .slice at' S.trace.length ct] 32)).alloc (.cells #[.int .i64 x.kind, .bool x.flag, str x.text, .slice ai x.items.length ci, .slice ak x.keys.length ck] 41)).alloc (.cells #[.slice none 0 0, .slice none 0 0, .slice none 0 0] 32) := ⟨_, rfl⟩
  obtain ⟨BX, OX, hbA⟩ := box_three w #[.slice ao rs.length co, .slice af S.fails.length cf, .slice at' S.trace.length ct] #[.int .i64 x.kind, .bool x.flag, str x.text, .slice ai x.items.length ci, .slice ak x.keys.length ck] #[.slice none 0 0, .slice none 0 0, .slice none 0 0] 32 41
  rw [← hwA] at BX OX hbA
  have FL := good17_w x _ wA (hv.below hbA).now
  have hdl : updateP S addr typ i x = if goodA x = false then (S, 1) else if failsP S.fails 2 addr = true then (noteP S 2 addr typ i 160, 160) else if hasO S.objs typ i = false then (noteP S 2 addr typ i 4, 4) else (noteP (putP S (typ, i, x)) 2 addr typ i 0, 0) := rfl
  obtain ⟨R, hR⟩ : ∃ R, updateP S addr typ i x = R := ⟨_, rfl⟩
  rw [hR] at hdl ⊢
  generalize goodA x = g at FL hdl
  have HDL := Lib.hid hdl
  have HFI := Lib.hid fi
  have H := Lib.hid h
  have HBA := Lib.hid hbA
  have HBX := Lib.hid BX
  have HOX := Lib.hid OX
  have HF := Lib.hid hF
  have K1 := Lib.hid k1
  have K2 := Lib.hid k2
  have K3 := Lib.hid k3
  have HV := Lib.hid hv
  obtain ⟨o0, o1, o2, o3, o4⟩ := val_box OX
  clear hdl hR h k1 k2 k3 hbA BX OX hF hv
  go_enter Tryz.func34, Tryz.ntmps34
  go_upto_region 1 with fail
  rw [← hwA]
  clear hwA
  go_wp2_with fail
  refine FL.mono ?_
  rintro e w2 ⟨rfl, hb2⟩
  have hbw2 := HBA.out.trans (hb2.mono HBA.out.size)
  have BX2 := HBX.out.below hb2
  have OX2 := (hb2.block _ (heap_lt HOX.out)).trans HOX.out
  obtain ⟨f0, f1, f2, f3, z0, z1, z2, z3, z4, z5⟩ := BX2.cells
  have hs2 := hbw2.size
  have HB2 := Lib.hid hbw2
  have HX2 := Lib.hid BX2
  have HO2 := Lib.hid OX2
  clear FL o0 o1 o2 o3 o4 hb2 BX2 hbw2 OX2
  cases g with
  | false =>
    have hdl := HDL.out
    rw [if_pos rfl] at hdl
    obtain ⟨wR, hwR, xR, _, _⟩ := put_box3 HX2.out.two (.slice ao rs.length co) (.slice af S.fails.length cf) (.slice at' S.trace.length ct)
    have hsR := put3_spares w2 (w.heap.size + 2) (.slice ao rs.length co) (.slice af S.fails.length cf) (.slice at' S.trace.length ct)
    rw [← hwR] at hsR
    have hb2R : Below w.heap.size w wR := Below.spared HB2.out hsR HB2.out.size (fun k hk => by simp at hk; omega)
    have HP := Lib.hid (show RPost F R.1 R.2 w (.returned (.tuple #[.agg #[.slice ao rs.length co, .slice af S.fails.length cf, .slice at' S.trace.length ct], .int .i64 1])) wR by
      rw [hdl]
      exact ⟨_, rs, rfl, H.out.below hb2R, hb2R⟩)
    have HXR := Lib.hid xR
    clear hsR hb2R xR hdl HDL
    go_wp2
    rw [← hwR]
    (try simp only [Exit.inBlock, Exit.then]); refine bodyPost_ret (results_ct rfl _ _ (w.heap.size + 2) _ _ _ _ rfl HXR.out Tryz.underlying32 rfl (by kernel_rfl)) rfl ?_
    exact HP.out
  | true =>
    have hdl := HDL.out
    rw [if_neg (by simp)] at hdl
    have FA := fails_r S.fails af cf (.slice ao rs.length co) (.slice at' S.trace.length ct) 2 addr w2 (K2.out.below HB2.out).now
    generalize failsP S.fails 2 addr = B at FA hdl
    have HDL := Lib.hid hdl
    clear hdl z0 z1 z2 z3 z4 z5
    go_wp2_with fail
    refine FA.mono ?_
    rintro e wF ⟨rfl, hbF⟩
    have hbwF := HB2.out.trans (hbF.mono HB2.out.size)
    have BXF := HX2.out.below hbF
    have OXF := (hbF.block _ (heap_lt HO2.out)).trans HO2.out
    clear f0 f1 f2 f3
    obtain ⟨f0, f1, f2, f3, z0, z1, z2, z3, z4, z5⟩ := BXF.cells
    have HBF := Lib.hid hbwF
    have HXF := Lib.hid BXF
    have HOF := Lib.hid OXF
    clear FA hbF hbwF BXF OXF
    cases B with
    | true =>
      have hdl := HDL.out
      rw [if_pos rfl] at hdl
      have HR := Lib.hid hdl
      have NT := noted_r S.trace ao rs.length co af S.fails.length cf at' ct 2 addr typ i 160 wF (K3.out.below HBF.out).now hl (by omega)
      clear hdl HDL z0 z1 z2 z3 z4 z5
      go_wp2_with fail
      refine NT.mono ?_
      rintro e wN ⟨a2, c2, rfl, hown, hbN⟩
      have BXN := HXF.out.below hbN
      obtain ⟨x0, x1, x2, x3, z0, z1, z2, z3, z4, z5⟩ := BXN.cells
      obtain ⟨wR, hwR, xR, _, _⟩ := put_box3 BXN.two (.slice ao rs.length co) (.slice af S.fails.length cf) (.slice a2 (S.trace.length + 1) c2)
      have hsR := put3_spares wN (w.heap.size + 2) (.slice ao rs.length co) (.slice af S.fails.length cf) (.slice a2 (S.trace.length + 1) c2)
      rw [← hwR] at hsR
      have hbwN := HBF.out.trans (hbN.mono HBF.out.size)
      have hb2R : Below w.heap.size w wR := Below.spared hbwN hsR hbwN.size (fun k hk => by simp at hk; omega)
      have hgE := heap_lt HXF.out.two
      have hsW := HBF.out.size
      have hownR := row_away hown hsR (fun q hq => by simp at hq; omega)
      have hpost : RPost F R.1 R.2 w (.returned (.tuple #[.agg #[.slice ao rs.length co, .slice af S.fails.length cf, .slice a2 (S.trace.length + 1) c2], .int .i64 160])) wR := by
        rw [HR.out]
        refine ⟨_, rs, rfl, ?_, hb2R⟩
        have := H.out.told (ts' := S.trace ++ [(2, addr, typ, i, 160)]) (a3 := a2) (c3 := c2) hb2R (by
          rw [List.length_append]
          have := Kept.row (F := F) (row_base hownR hsW) HF.out
          rw [List.length_append] at this
          exact this)
        rw [List.length_append] at this
        exact this
      have HP := Lib.hid hpost
      have HXR := Lib.hid xR
      clear BXN hsR hbwN hb2R hown hownR hpost hbN xR HR NT f0 f1 f2 f3
      go_wp2
      rw [← hwR]
      (try simp only [Exit.inBlock, Exit.then]); refine bodyPost_ret (results_ct rfl _ _ (w.heap.size + 2) _ _ _ _ rfl HXR.out Tryz.underlying32 rfl (by kernel_rfl)) rfl ?_
      exact HP.out
    | false =>
      have hdl := HDL.out
      rw [if_neg (by simp)] at hdl
      have AT := at_r rs ao co (.slice af S.fails.length cf) (.slice at' S.trace.length ct) typ i wF (K1.out.below HBF.out).now
      have HDL := Lib.hid hdl
      clear hdl z0 z1 z2 z3 z4 z5
      go_wp2_with fail
      refine AT.mono ?_
      rintro e wG ⟨z, rfl, hz, hbG⟩
      have hh := hz.has
      rw [H.out.os] at hh
      have hbwG := HBF.out.trans (hbG.mono HBF.out.size)
      have BXG := HXF.out.below hbG
      have OXG := (hbG.block _ (heap_lt HOF.out)).trans HOF.out
      clear f0 f1 f2 f3
      obtain ⟨f0, f1, f2, f3, z0, z1, z2, z3, z4, z5⟩ := BXG.cells
      have HBG := Lib.hid hbwG
      have HXG := Lib.hid BXG
      have HOG := Lib.hid OXG
      clear AT hbG hbwG BXG OXG hz
      by_cases hz0 : z < 0
      · have hhf : hasO S.objs typ i = false := by rw [← hh]; simp; omega
        clear hh
        have hdl := HDL.out
        rw [if_pos hhf] at hdl
        clear hhf
        have HR := Lib.hid hdl
        have NT := noted_r S.trace ao rs.length co af S.fails.length cf at' ct 2 addr typ i 4 wG (K3.out.below HBG.out).now hl (by omega)
        clear hdl HDL z0 z1 z2 z3 z4 z5
        go_wp2_with fail
        refine NT.mono ?_
        rintro e wN ⟨a2, c2, rfl, hown, hbN⟩
        have BXN := HXG.out.below hbN
        obtain ⟨x0, x1, x2, x3, z0, z1, z2, z3, z4, z5⟩ := BXN.cells
        obtain ⟨wR, hwR, xR, _, _⟩ := put_box3 BXN.two (.slice ao rs.length co) (.slice af S.fails.length cf) (.slice a2 (S.trace.length + 1) c2)
        have hsR := put3_spares wN (w.heap.size + 2) (.slice ao rs.length co) (.slice af S.fails.length cf) (.slice a2 (S.trace.length + 1) c2)
        rw [← hwR] at hsR
        have hbwN := HBG.out.trans (hbN.mono HBG.out.size)
        have hb2R : Below w.heap.size w wR := Below.spared hbwN hsR hbwN.size (fun k hk => by simp at hk; omega)
        have hgE := heap_lt HXG.out.two
        have hsW := HBG.out.size
        have hownR := row_away hown hsR (fun q hq => by simp at hq; omega)
        have hpost : RPost F R.1 R.2 w (.returned (.tuple #[.agg #[.slice ao rs.length co, .slice af S.fails.length cf, .slice a2 (S.trace.length + 1) c2], .int .i64 4])) wR := by
          rw [HR.out]
          refine ⟨_, rs, rfl, ?_, hb2R⟩
          have := H.out.told (ts' := S.trace ++ [(2, addr, typ, i, 4)]) (a3 := a2) (c3 := c2) hb2R (by
            rw [List.length_append]
            have := Kept.row (F := F) (row_base hownR hsW) HF.out
            rw [List.length_append] at this
            exact this)
          rw [List.length_append] at this
          exact this
        have HP := Lib.hid hpost
        have HXR := Lib.hid xR
        clear BXN hsR hbwN hb2R hown hownR hpost hbN xR HR NT f0 f1 f2 f3
        go_wp2
        rw [← hwR]
        (try simp only [Exit.inBlock, Exit.then]); refine bodyPost_ret (results_ct rfl _ _ (w.heap.size + 2) _ _ _ _ rfl HXR.out Tryz.underlying32 rfl (by kernel_rfl)) rfl ?_
        exact HP.out
      · have hhf : hasO S.objs typ i = true := by rw [← hh]; simp; omega
        have hdl := HDL.out
        rw [if_neg (by rw [hhf]; simp)] at hdl
        have HR := Lib.hid hdl
        clear hdl HDL hh hhf
        have WO := with_r rs ((typ, i, x), (ai, ci, ak, ck)) ao co wG (K1.out.below HBG.out).now (by omega)
        have hol := len_withR rs ((typ, i, x), (ai, ci, ak, ck))
        have HOS := Lib.hid (withR_os rs ((typ, i, x), (ai, ci, ak, ck)))
        have HME := Lib.hid (fun r (hr : r ∈ withR rs ((typ, i, x), (ai, ci, ak, ck))) => mem_withR hr)
        generalize withR rs ((typ, i, x), (ai, ci, ak, ck)) = os at WO hol HOS HME
        dsimp only at WO
        obtain ⟨o0, o1, o2, o3, o4⟩ := val_box HOG.out
        clear z0 z1 z2 z3 z4 z5
        go_wp2_with fail
        refine WO.mono ?_
        rintro e w3 ⟨v', rfl, hN⟩
        obtain ⟨a1, c1, rfl⟩ := slice_form hN.1
        have hb3 := hN.2
        have BX3 := HXG.out.below hb3
        obtain ⟨x0, x1, x2, x3, _⟩ := BX3.cells
        obtain ⟨w4, hw4⟩ : ∃ w4, w4 = w3.setCell ⟨w.heap.size, 0, none⟩ (.slice a1 os.length c1) := ⟨_, rfl⟩
        have BX4 : Box2 w.heap.size (w.heap.size + 2) #[.slice a1 os.length c1, .slice af S.fails.length cf, .slice at' S.trace.length ct] #[.slice none 0 0, .slice none 0 0, .slice none 0 0] 32 w4 := by rw [hw4]; exact BX3.set (by omega) 0 _
        have hs4 : Spares [w.heap.size] w3 w4 := by rw [hw4]; exact setC_spares w3 w.heap.size 0 _
        have hbw3 := HBG.out.trans (hb3.mono HBG.out.size)
        have hbw4 : Below w.heap.size w w4 := Below.spared hbw3 hs4 hbw3.size (fun k hk => by simp at hk; omega)
        have NT := noted_r S.trace a1 os.length c1 af S.fails.length cf at' ct 2 addr typ i 0 w4 (K3.out.below hbw4).now hl (by omega)
        obtain ⟨y0, y1, y2, y3, _⟩ := BX4.cells
        have HX4 := Lib.hid BX4
        have HN := Lib.hid hN.1
        have HS4 := Lib.hid hs4
        have HBW3 := Lib.hid hbw3
        have HBW4 := Lib.hid hbw4
        have hsW := HBG.out.size
        clear BX4 hN hs4 hbw3 hbw4 BX3 hb3 WO f0 f1 f2 f3 o0 o1 o2 o3 o4
        go_upto_region 8 with fail
        rw [← hw4]
        clear hw4 x0 x1 x2 x3
        go_wp2_with fail
        refine NT.mono ?_
        rintro e w5 ⟨a2, c2, rfl, hown, hb5⟩
        have BX5 := HX4.out.below hb5
        obtain ⟨x0, x1, x2, x3, z0, z1, z2, z3, z4, z5⟩ := BX5.cells
        obtain ⟨wR, hwR, xR, _, _⟩ := put_box3 BX5.two (.slice a1 os.length c1) (.slice af S.fails.length cf) (.slice a2 (S.trace.length + 1) c2)
        have hsR := put3_spares w5 (w.heap.size + 2) (.slice a1 os.length c1) (.slice af S.fails.length cf) (.slice a2 (S.trace.length + 1) c2)
        rw [← hwR] at hsR
        have hbw5 := HBW4.out.trans (hb5.mono HBW4.out.size)
        have hb2R : Below w.heap.size w wR := Below.spared hbw5 hsR hbw5.size (fun k hk => by simp at hk; omega)
        have hgE := heap_lt HXG.out.two
        have hg4 := HX4.out.two
        have hg4 := heap_lt hg4
        have hownR := row_away hown hsR (fun q hq => by simp at hq; omega)
        have hs35 : Spares [w.heap.size, w.heap.size + 2] w3 wR := ((HS4.out.sub (fun k hk _ => by simp at hk; simp [hk])).trans (Spares.of_below hb5)).trans (hsR.sub (fun k hk _ => by simp at hk; simp [hk]))
        have hobjR := row_away HN.out hs35 (fun q hq => by simp at hq; omega)
        have hpost : RPost F R.1 R.2 w (.returned (.tuple #[.agg #[.slice a1 os.length c1, .slice af S.fails.length cf, .slice a2 (S.trace.length + 1) c2], .int .i64 0])) wR := by
          rw [HR.out]
          refine ⟨_, os, rfl, ?_, hb2R⟩
          have := H.out.both (rs' := os) (os' := withO S.objs (typ, i, x)) (ts' := S.trace ++ [(2, addr, typ, i, 0)]) (a1 := a1) (c1 := c1) (a3 := a2) (c3 := c2) hb2R (Kept.row (row_base hobjR hsW) HF.out) (by
            have := Kept.row (F := F) (row_base hownR HBW4.out.size) HF.out
            rw [List.length_append] at this ⊢
            exact this) (fun r hr => (HME.out r hr).symm.imp id (fun e => by rw [e]; exact HV.out.below hb2R)) (by rw [HOS.out, H.out.os]) (fun o ho => by rcases mem_withO.1 ho with rfl | ⟨ho, _⟩; exact ⟨ft, HFI.out⟩; exact H.out.fit o ho) (ris_with H.out.ris _)
          rw [List.length_append] at this
          exact this
        have HP := Lib.hid hpost
        have HXR := Lib.hid xR
        clear BX5 hsR hbw5 hb2R hown hownR hpost hb5 xR HR NT y0 y1 y2 y3 hs35 hobjR
        go_wp2
        rw [← hwR]
        (try simp only [Exit.inBlock, Exit.then]); refine bodyPost_ret (results_ct rfl _ _ (w.heap.size + 2) _ _ _ _ rfl HXR.out Tryz.underlying32 rfl (by kernel_rfl)) rfl ?_
        exact HP.out

end Go.Proofs.YtpbipngnoklmcaaGreatDoor
