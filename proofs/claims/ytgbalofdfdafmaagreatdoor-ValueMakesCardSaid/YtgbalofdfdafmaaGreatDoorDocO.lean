/- The walk of the document's Object: keys and items, one after another. -/
import Derived.Test.YtgbalofdfdafmaaGreatDoorPutU
import Derived.Test.YtgbalofdfdafmaaGreatDoorObj
namespace Go.Proofs.YtgbalofdfdafmaaGreatDoor
open Go.RowKit
set_option maxRecDepth 100000
attribute [local go_sem] str_size str_toList str_get

theorem RowsOf.keep {wv wl : World} {ks : List (List UInt8)} {ts : List VT} {vk vi : Value} {w' w'' : World} (h : RowsOf wv wl ks ts vk vi w') (hk : ∀ b, wl.heap.size ≤ b → w''.heap[b]? = w'.heap[b]?) : RowsOf wv wl ks ts vk vi w'' := by
  obtain ⟨xs, h1, h2, h3, h4⟩ := h
  exact ⟨xs, ownsRow_keep h1 fun b hb => hk b (h1.lt b hb).1, ownsRow_keep h2 fun b hb => hk b (h2.lt b hb).1, h3, h4⟩
theorem RowsOf.grow {wv wl : World} {ks : List (List UInt8)} {ts : List VT} {vk vi : Value} {w' w'' : World} (h : RowsOf wv wl ks ts vk vi w') (hb : Below w'.heap.size w' w'') : RowsOf wv wl ks ts vk vi w'' := by
  obtain ⟨xs, h1, h2, h3, h4⟩ := h
  exact ⟨xs, own_below h1 hb, own_below h2 hb, h3, h4⟩
theorem RowsOf.low {wv wl wl' : World} {ks : List (List UInt8)} {ts : List VT} {vk vi : Value} {w' : World} (h : RowsOf wv wl ks ts vk vi w') (hb : wl'.heap.size ≤ wl.heap.size) : RowsOf wv wl' ks ts vk vi w' := by
  obtain ⟨xs, h1, h2, h3, h4⟩ := h
  exact ⟨xs, ownsRow_low h1 hb, ownsRow_low h2 hb, h3, h4⟩
theorem RowsOf.form {wv wl : World} {ks : List (List UInt8)} {ts : List VT} {vk vi : Value} {w' : World} (h : RowsOf wv wl ks ts vk vi w') : ∃ ak ck ai ci, vk = .slice ak ks.length ck ∧ vi = .slice ai ts.length ci := by
  obtain ⟨xs, h1, h2, h3, h4⟩ := h
  obtain ⟨ak, ck, rfl⟩ := slice_of h1
  obtain ⟨ai, ci, rfl⟩ := slice_of h2
  exact ⟨_, _, _, _, rfl, rfl⟩
theorem RowsOf.obj {wv wl : World} {ks : List (List UInt8)} {ts : List VT} {vk vi : Value} {w' : World} (h : RowsOf wv wl ks ts vk vi w') : ObjAt wv w' (objOf ks ts) (.agg #[.int .i64 6, .bool false, .string ⟨#[]⟩, vi, vk]) := by
  obtain ⟨ak, ck, ai, ci, rfl, rfl⟩ := h.form
  have hk := h
  obtain ⟨xs, h1, _, _, _⟩ := hk
  refine ⟨ai, ci, ak, ck, rfl, OwnS.strs ⟨ownsRow_zero h1, rfl⟩, fun i hi => ?_⟩
  obtain ⟨b, off, aj, cj, al, cl, e, _, l2, hv, c0, c1, c2, c3, c4⟩ := h.item (i := i) hi
  exact ⟨b, off, aj, cj, al, cl, e, l2, hv, c0, c1, c2, c3, c4⟩

/-- The document's object under way, in its box. -/
def DocR (ts : List VT) (w wC : World) (i : Nat) (ks : List (List UInt8)) (its : List VT) (wr : World) : Prop :=
  ∃ vk vi, RowsOf w wC ks its vk vi wr ∧ wr.heap[w.heap.size + 1]? = some (.cells #[.int .i64 6, .bool false, .string ⟨#[]⟩, vi, vk] 26 (0, 0)) ∧
    wr.heap[w.heap.size]? = some (.cells #[.int .i64 0, .bool false, .string ⟨#[]⟩, .slice none 0 0, .slice none 0 0] 26 (0, 0)) ∧ Below w.heap.size w wr ∧ wC.heap.size ≤ wr.heap.size ∧ ObjT ts i (objOf ks its)
def DocPost (r : VT × Int) (w : World) (e : Ending) (w' : World) : Prop :=
  (∃ v', e = .returned (.tuple #[v', .int .i64 r.2]) ∧ ValAt w' r.1 v') ∧ Below w.heap.size w w'

set_option maxHeartbeats 4000000 in
theorem object_rval (ks : List (List UInt8)) (ts : List VT) (vk vi : Value) (vs : Nat → Value) (w : World) (hks : StrsAt w vk ks) (hr : RowAt w vi ts.length vs) (hv : ValsAt w ts vs) (hl : ks.length ≤ 100000) (hf : ∀ x ∈ ts, fitV x = true) :
    Calls Tryz.prog 12 #[vk, vi] w (DocPost (if ks.length = ts.length then objT (.mk 6 false [] [] []) ks ts else (VT.none, 1)) w) := by
  obtain ⟨wB, hwB⟩ : ∃ wB, wB = w.alloc (.cells #[.int .i64 0, .bool false, .string ⟨#[]⟩, .slice none 0 0, .slice none 0 0] 26) := ⟨_, rfl⟩
  have hnB : wB.heap[w.heap.size]? = some (.cells #[.int .i64 0, .bool false, .string ⟨#[]⟩, .slice none 0 0, .slice none 0 0] 26 (0, 0)) := by rw [hwB]; exact heap_alloc_new _ _
  obtain ⟨_, _, _, _, _, hsB, hbB⟩ := box5 hwB
  have hks0 := hks
  obtain ⟨ak, ck, rfl, _⟩ := hks
  have hr0 := hr
  obtain ⟨ao, cap, rfl, hm, _⟩ := hr
  by_cases hn : ks.length = ts.length
  · rw [if_pos hn]
    obtain ⟨wC, hwC⟩ : ∃ wC, wC = wB.alloc (.cells #[.int .i64 6, .bool false, .string ⟨#[]⟩, .slice none 0 0, .slice none 0 0] 26) := ⟨_, rfl⟩
    obtain ⟨_, _, _, _, _, hsC, hbC⟩ := box5 hwC
    have hnC : wC.heap[w.heap.size + 1]? = some (.cells #[.int .i64 6, .bool false, .string ⟨#[]⟩, .slice none 0 0, .slice none 0 0] 26 (0, 0)) := by rw [hwC, ← hsB]; exact heap_alloc_new _ _
    have h0 : DocR ts w wC 0 [] [] wC := ⟨_, _, ⟨[], World.ownsRow_nil _ _ _ _, World.ownsRow_nil _ _ _ _, rfl, fun i h => absurd h (by simp)⟩, hnC, (hbC.block _ (by omega)).trans hnB, hbB.trans (hbC.mono (by omega)), Nat.le_refl _, objT_zero ts⟩
    obtain ⟨RES, hRES⟩ : ∃ RES, objT (.mk 6 false [] [] []) ks ts = RES := ⟨_, rfl⟩
    rw [hRES]
    have H0 := Lib.hid h0
    have HR0 : Hid (objT (objOf [] []) (ks.drop 0) (ts.drop 0) = RES) := hRES
    have HN := Lib.hid hn
    have hzC : wC.heap.size = w.heap.size + 1 + 1 := by omega
    have HZC := Lib.hid hzC
    have hnn : ((ks.length : Int) != (ts.length : Int)) = false := by simp; omega
    have hnn' : ((ks.length : Int) == (ts.length : Int)) = true := by simp; omega
    clear h0 hRES hnB hnC hn hzC hsC hbB
    go_enter Tryz.func12, Tryz.ntmps12
    go_upto_region 1 with fail
    rw [← hwB]
    clear hwB
    go_upto_region 4 with fail
    rw [← hwC]
    clear hwC hbC
    go_wp2
    go_loopg [17] ks.length (fun g v17 wr => ∃ (i : Nat) (kk : List (List UInt8)) (tt : List VT), i + g = ks.length ∧ v17 = .int .i64 i ∧ Hid (DocR ts w wC i kk tt wr) ∧ Hid (objT (objOf kk tt) (ks.drop i) (ts.drop i) = RES))
    case atStart => exact ⟨0, _, _, by omega, rfl, H0, HR0⟩
    case round =>
      clear H0 HR0
      obtain ⟨i, kk, tt, hig, rfl, HO, HE⟩ := hrel
      obtain ⟨vk, vi, hO1, hO2, hO3, hO4, hO5, hO6⟩ := HO.out
      obtain ⟨ak', ck', ai, ci, rfl, rfl⟩ := hO1.form
      obtain ⟨b0, b1, b2, b3, b4, _, _⟩ := cell_box5 hO2
      obtain ⟨z0, z1, z2, z3, z4, y0, y1, y2, y3, y4⟩ := free5 hO3
      have hzC := HZC.out
      cases gk with
      | zero =>
        obtain rfl : i = ks.length := by omega
        have hres : RES = (objOf kk tt, 0) := by
          rw [← HE.out, List.drop_length, objT]
          intro _ _ _ _ h _
          cases h
        subst hres
        obtain ⟨w5, hw5, hr5, hz5, hk5, hB5⟩ := put_box5 hO3 (.int .i64 6) (.bool false) (.string ⟨#[]⟩) (.slice ai tt.length ci) (.slice ak' kk.length ck')
        obtain ⟨p0, p1, p2, p3, p4, _, _⟩ := cell_box5 hr5
        have hB := hB5 _ _ (Nat.le_refl _) hO4
        have hfin : DocPost (objOf kk tt, 0) w (.returned (.tuple #[.agg #[.int .i64 6, .bool false, .string ⟨#[]⟩, .slice ai tt.length ci, .slice ak' kk.length ck'], .int .i64 0])) w5 :=
          ⟨⟨_, rfl, (hO1.keep fun b hb => hk5 b (by omega)).val hB⟩, hB⟩
        have HF := Lib.hid hfin
        have HW := Lib.hid hw5
        clear hfin hw5 hr5 hk5 hB5 hO1 hO2 hO3 hO4 hO5 hO6 HO HE hks0 hr0 hv hf HN hzC HZC
        go_wp2
        rw [← HW.out]
        exact bodyPost_ret (v := .tuple #[.agg #[.int .i64 6, .bool false, .string ⟨#[]⟩, .slice ai tt.length ci, .slice ak' kk.length ck'], .int .i64 0]) (by simp [results, go_sem, p0, p1, p2, p3, p4]) rfl HF.out
      | succ g =>
        have hil : i < ks.length := by omega
        have hie : (i : Int) < (ks.length : Int) := by omega
        have hnt := HN.out
        have hit : i < ts.length := by omega
        have hie' : (i : Int) < (ts.length : Int) := by omega
        have hres := HE.out
        rw [List.drop_eq_getElem_cons hil, List.drop_eq_getElem_cons hit, objT] at hres
        obtain ⟨bk, ok, rfl, lk, hkc⟩ := StrsAt.get hks0 hil
        have hkc := (hO4.cell (p := ⟨bk, ok + i, none⟩) lk).trans hkc
        rw [getD_at ks [] hil] at hkc
        obtain ⟨bi, off, xi, xc, xk, xd, rfl, lx, hxv, q0, q1, q2, q3, q4⟩ := RowAt.at hr0 hv (Below.refl _ w) hit
        have q0 := (hO4.cell (p := ⟨bi, off + i * 5, none⟩) lx).trans q0
        have q1 := (hO4.cell (p := ⟨bi, off + i * 5 + 1, none⟩) lx).trans q1
        have q2 := (hO4.cell (p := ⟨bi, off + i * 5 + 2, none⟩) lx).trans q2
        have q3 := (hO4.cell (p := ⟨bi, off + i * 5 + 3, none⟩) lx).trans q3
        have q4 := (hO4.cell (p := ⟨bi, off + i * 5 + 4, none⟩) lx).trans q4
        have hcur := hO1.val hO4
        have hobj := hO1.obj
        have CA := fun W (hW : Below wr.heap.size wr W) => at_rval (objOf kk tt) _ ks[i] W (hcur.mono hW)
        have CP := fun W (hW : Below wr.heap.size wr W) => put_own (objOf kk tt) ts[i] _ _ ks[i] W w (hobj.mono hW) hxv rfl (Nat.le_of_eq hO6.keys) (by rw [hO6.keys, hO6.len]; omega)
        have hObj := fun (hk : hasK kk ks[i] = false) => objT_put hO6 hit hk (hf _ (List.getElem_mem hit))
        have hput : putR (objOf kk tt) ks[i] ts[i] = putT (objOf kk tt) ks[i] ts[i] := putR_eq (t := objOf kk tt) hO6.rise (fun _ => ⟨rfl, rfl, hO6.keys⟩)
        have hpr : putR (objOf kk tt) ks[i] ts[i] = objOf (endA ks[i] (keptK ks[i] kk)) (endT ks[i] ts[i] (keptK ks[i] kk) (keptT ks[i] kk tt)) := rfl
        rw [← hput, hpr] at hObj hres
        have hgk : (getT (objOf kk tt) ks[i]).2 = hasK kk ks[i] := by
          show (getT (.mk 6 false [] tt kk) ks[i]).2 = _
          unfold getT
          cases hh : hasK kk ks[i] <;> simp [VT.kind, VT.keys, hh]
        rw [hgk] at hres
        have hat := atI_rising (key := ks[i]) (ks := kk) hO6.rise
        have hpos := posK_le kk ks[i]
        have hkl : kk.length ≤ 100000 := by have := hO6.keys; have := hO6.len; have : kk.length = tt.length := hO6.keys; have : tt.length = i := hO6.len; omega
        have CA : ∀ W, Below wr.heap.size wr W → Calls Tryz.prog 37 #[.agg #[.int .i64 6, .bool false, .string ⟨#[]⟩, .slice ai tt.length ci, .slice ak' kk.length ck'], str ks[i]] W fun e w' => e = .returned (.int .i64 (if hasK kk ks[i] = true then (posK kk ks[i] : Int) else -1)) ∧ Below W.heap.size W w' := fun W hW => by
          rw [← hat]; exact CA W hW
        have CP : ∀ W, Below wr.heap.size wr W → Calls Tryz.prog 38 #[.agg #[.int .i64 6, .bool false, .string ⟨#[]⟩, .slice ai tt.length ci, .slice ak' kk.length ck'], str ks[i], .agg #[.int .i64 ts[i].kind, .bool ts[i].flag, str ts[i].text, .slice xi ts[i].items.length xc, .slice xk ts[i].keys.length xd]] W (DropOwn w (endA ks[i] (keptK ks[i] kk)) (endT ks[i] ts[i] (keptK ks[i] kk) (keptT ks[i] kk tt)) W) := CP
        obtain ⟨P, hP⟩ : ∃ P, posK kk ks[i] = P := ⟨_, rfl⟩
        rw [hP] at hpos CA
        obtain ⟨KK, hKK⟩ : ∃ KK, endA ks[i] (keptK ks[i] kk) = KK := ⟨_, rfl⟩
        obtain ⟨TT, hTT⟩ : ∃ TT, endT ks[i] ts[i] (keptK ks[i] kk) (keptT ks[i] kk tt) = TT := ⟨_, rfl⟩
        rw [hKK, hTT] at hObj hres CP
        obtain ⟨hh, hhe⟩ : ∃ hh, hasK kk ks[i] = hh := ⟨_, rfl⟩
        rw [hhe] at CA hObj hres
        clear hKK hTT hP hput hpr hgk hat hcur hobj hxv
        obtain ⟨key, hke⟩ : ∃ key, ks[i] = key := ⟨_, rfl⟩
        obtain ⟨x, hxe⟩ : ∃ x, ts[i] = x := ⟨_, rfl⟩
        rw [hke] at hkc CA CP hhe
        rw [hxe] at q0 q1 q2 q3 q4 CP
        have HRES := Lib.hid hres
        have HOB := Lib.hid hObj
        have HO1 := Lib.hid hO1
        have HO2 := Lib.hid hO2
        have HO3 := Lib.hid hO3
        have HO4 := Lib.hid hO4
        have HCP := Lib.hid CP
        have lk' : bk < wr.heap.size := Nat.lt_of_lt_of_le lk hO4.size
        have lx' : bi < wr.heap.size := Nat.lt_of_lt_of_le lx hO4.size
        clear hres hObj hxe hke hhe hO6 HE HO hnt hks0 hr0 hv hf hO2 hO3 hO4 hO1 CP z0 z1 z2 z3 z4 y0 y1 y2 y3 y4 HN
        have HRT : hh = true → Hid ((if hh = true then (P : Int) else -1) = (P : Int)) := fun h => by rw [if_pos h]; exact Lib.hid rfl
        have HRF : hh = false → Hid ((if hh = true then (P : Int) else -1) = (-1 : Int)) := fun h => by rw [h, if_neg Bool.false_ne_true]; exact Lib.hid rfl
        obtain ⟨R, hR⟩ : ∃ R, (if hh = true then (P : Int) else -1) = R := ⟨_, rfl⟩
        rw [hR] at CA HRT HRF
        have HRT := Lib.hid HRT
        have HRF := Lib.hid HRF
        clear hR
        go_upto_region 7 with fail
        go_region_held3 (fun w' => w'.cell? ⟨w.heap.size + 1, 0, none⟩ = some (.int .i64 6) ∧ w'.cell? ⟨w.heap.size + 1, 1, none⟩ = some (.bool false) ∧ w'.cell? ⟨w.heap.size + 1, 2, none⟩ = some (.string ⟨#[]⟩) ∧ w'.cell? ⟨w.heap.size + 1, 3, none⟩ = some (.slice ai tt.length ci) ∧ w'.cell? ⟨w.heap.size + 1, 4, none⟩ = some (.slice ak' kk.length ck') ∧ w'.cell? ⟨bk, ok + i, none⟩ = some (str key))
          (first | exact ⟨b0, b1, b2, b3, b4, hkc⟩ | exact KS)
          (first
            | (go_at_call 37; refine (CA _ (Below.refl _ wr).drew).mono ?_; rintro e w2 ⟨rfl, hq2⟩; have hd2 : Below wr.heap.size wr w2 := (Below.refl _ wr).drew.trans (hq2.mono (by simp)); have KS := And.intro ((hd2.cell (p := ⟨w.heap.size + 1, 0, none⟩) (by show w.heap.size + 1 < wr.heap.size; omega)).trans b0) (And.intro ((hd2.cell (p := ⟨w.heap.size + 1, 1, none⟩) (by show w.heap.size + 1 < wr.heap.size; omega)).trans b1) (And.intro ((hd2.cell (p := ⟨w.heap.size + 1, 2, none⟩) (by show w.heap.size + 1 < wr.heap.size; omega)).trans b2) (And.intro ((hd2.cell (p := ⟨w.heap.size + 1, 3, none⟩) (by show w.heap.size + 1 < wr.heap.size; omega)).trans b3) (And.intro ((hd2.cell (p := ⟨w.heap.size + 1, 4, none⟩) (by show w.heap.size + 1 < wr.heap.size; omega)).trans b4) ((hd2.cell (p := ⟨bk, ok + i, none⟩) lk').trans hkc)))))))
        have hz2 := hd2.size
        have hb2 : Below w.heap.size w w2 := HO4.out.trans (hd2.mono HO4.out.size)
        have hbox2 := (hd2.block (w.heap.size + 1) (by omega)).trans HO2.out
        have hres2 := (hd2.block w.heap.size (by omega)).trans HO3.out
        obtain ⟨c0, c1, c2, c3, c4⟩ := KS
        have hkc2 := (hd2.cell (p := ⟨bk, ok + i, none⟩) lk').trans hkc
        have r0 := (hd2.cell (p := ⟨bi, off + i * 5, none⟩) lx').trans q0
        have r1 := (hd2.cell (p := ⟨bi, off + i * 5 + 1, none⟩) lx').trans q1
        have r2 := (hd2.cell (p := ⟨bi, off + i * 5 + 2, none⟩) lx').trans q2
        have r3 := (hd2.cell (p := ⟨bi, off + i * 5 + 3, none⟩) lx').trans q3
        have r4 := (hd2.cell (p := ⟨bi, off + i * 5 + 4, none⟩) lx').trans q4
        clear CA b0 b1 b2 b3 b4 hkc q0 q1 q2 q3 q4
        cases hh with
        | true =>
          have hr2 : RES = (VT.none, 2) := by rw [← HRES.out, if_pos rfl]
          subst hr2
          obtain rfl : R = (P : Int) := (HRT.out rfl).out
          have hge : (0 : Int) ≤ (P : Int) := by omega
          have hgeb : ((P : Int) ≥ 0) := by omega
          clear HRT HRF
          obtain ⟨z0, z1, z2, z3, z4, y0, y1, y2, y3, y4⟩ := free5 hres2
          obtain ⟨w5, hw5, hr5, hz5, hk5, hB5⟩ := put_box5 hres2 (.int .i64 0) (.bool false) (.string ⟨#[]⟩) (.slice none 0 0) (.slice none 0 0)
          obtain ⟨p0, p1, p2, p3, p4, _, _⟩ := cell_box5 hr5
          have hfin : DocPost (VT.none, 2) w (.returned (.tuple #[.agg #[.int .i64 0, .bool false, .string ⟨#[]⟩, .slice none 0 0, .slice none 0 0], .int .i64 2])) w5 :=
            ⟨⟨_, rfl, (ownVal_none _).at⟩, hB5 _ _ (Nat.le_refl _) hb2⟩
          have HF := Lib.hid hfin
          have HW := Lib.hid hw5
          clear hfin hw5 hr5 hk5 hB5 hbox2 hres2 HRES HOB HO1 HO2 HO3 HO4 HCP hb2 hd2
          go_wp2
          rw [← HW.out]
          exact bodyPost_ret (v := .tuple #[.agg #[.int .i64 0, .bool false, .string ⟨#[]⟩, .slice none 0 0, .slice none 0 0], .int .i64 2]) (by simp [results, go_sem, p0, p1, p2, p3, p4]) rfl HF.out
        | false =>
          have hrec : objT (objOf KK TT) (ks.drop (i + 1)) (ts.drop (i + 1)) = RES := by rw [← HRES.out, if_neg Bool.false_ne_true]
          obtain rfl : R = -1 := (HRF.out rfl).out
          clear HRT HRF
          have hot := HOB.out rfl
          have HREC := Lib.hid hrec
          have HOT := Lib.hid hot
          have HBOX := Lib.hid hbox2
          have HRS := Lib.hid hres2
          have HD2 := Lib.hid hd2
          have HB2 := Lib.hid hb2
          clear hrec hot HRES HOB hbox2 hres2 hd2 hb2
          go_upto_region 9 with fail
          go_region_with
            (go_at_call 38; refine (HCP.out _ (HD2.out.trans ((Below.refl _ w2).drew.mono hz2))).mono ?_; rintro e w4 ⟨vk4, vi4, rfl, g1, g2⟩; obtain ⟨rj, rd, ri, rc, rfl, rfl⟩ := g1.form; have hb24 : Below w2.heap.size w2 w4 := (Below.refl _ w2).drew.trans (g2.mono (Nat.le_refl _)); have hbox4 := (hb24.block (w.heap.size + 1) (by omega)).trans HBOX.out; obtain ⟨u0, u1, u2, u3, u4, s0, s1, s2, s3, s4⟩ := free5 hbox4)
          all_goals
            have hs4 := hb24.size
            have hB4 : Below w.heap.size w w4 := HB2.out.trans (hb24.mono HB2.out.size)
            have hres4 := (hb24.block w.heap.size (by omega)).trans HRS.out
            obtain ⟨w5, hw5, hr5, hz5, hk5, hB5⟩ := put_box5 hbox4 (.int .i64 6) (.bool false) (.string ⟨#[]⟩) (.slice ri TT.length rc) (.slice rj KK.length rd)
            have hfin : DocR ts w wC (i + 1) KK TT w5 := ⟨_, _, ((g1.low (by show wC.heap.size ≤ w2.heap.size; omega)).keep fun b hb => hk5 b (by omega)), hr5, (hk5 w.heap.size (by omega)).trans hres4, hB5 _ _ (by omega) hB4, by omega, HOT.out⟩
            have HF := Lib.hid hfin
            rw [← hw5]
            clear hfin hw5 hr5 hk5 hB5 hres4 hB4 g1 g2 hbox4 hb24 u0 u1 u2 u3 u4 s0 s1 s2 s3 s4 c0 c1 c2 c3 c4 r0 r1 r2 r3 r4 hkc2 HBOX HRS HD2 HB2 HCP HOT
            go_wp2
            go_roundg g
            case measure => omega
            case rel => exact ⟨i + 1, KK, TT, by omega, by go_num, HF, HREC⟩
  · rw [if_neg hn]
    have hnn : ((ks.length : Int) != (ts.length : Int)) = true := by simp; omega
    have hnn' : ((ks.length : Int) == (ts.length : Int)) = false := by simp; omega
    obtain ⟨z0, z1, z2, z3, z4, y0, y1, y2, y3, y4⟩ := free5 hnB
    obtain ⟨w5, hw5, hr5, hz5, hk5, hB5⟩ := put_box5 hnB (.int .i64 0) (.bool false) (.string ⟨#[]⟩) (.slice none 0 0) (.slice none 0 0)
    obtain ⟨p0, p1, p2, p3, p4, _, _⟩ := cell_box5 hr5
    have hfin : DocPost (VT.none, 1) w (.returned (.tuple #[.agg #[.int .i64 0, .bool false, .string ⟨#[]⟩, .slice none 0 0, .slice none 0 0], .int .i64 1])) w5 :=
      ⟨⟨_, rfl, (ownVal_none _).at⟩, hB5 _ _ (Nat.le_refl _) hbB⟩
    have HF := Lib.hid hfin
    have HW := Lib.hid hw5
    clear hfin hw5 hr5 hk5 hB5 hks0 hr0 hv hf hn hnB
    go_enter Tryz.func12, Tryz.ntmps12
    go_upto_region 1 with fail
    rw [← hwB]
    clear hwB
    go_wp2
    rw [← HW.out]
    exact bodyPost_ret (v := .tuple #[.agg #[.int .i64 0, .bool false, .string ⟨#[]⟩, .slice none 0 0, .slice none 0 0], .int .i64 1]) (by simp [results, go_sem, p0, p1, p2, p3, p4]) rfl HF.out

end Go.Proofs.YtgbalofdfdafmaaGreatDoor
