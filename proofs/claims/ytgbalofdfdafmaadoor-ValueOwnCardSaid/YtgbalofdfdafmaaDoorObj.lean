/- The walk of value.Object: keys and items, one after another. -/
import Derived.Test.YtgbalofdfdafmaaDoorPut
import Derived.Test.YtgbalofdfdafmaaDoorLeaf
import Derived.Deep.RegionWith
namespace Go.Proofs.YtgbalofdfdafmaaDoor
open Go.RowKit
set_option maxRecDepth 100000
attribute [local go_sem] str_size str_toList str_get

def ObjPost (r : VT × Int) (w : World) (e : Ending) (w' : World) : Prop :=
  ∃ v' F, e = .returned (.tuple #[v', .int .i64 r.2]) ∧ OwnVal w' r.1 v' F ∧ F.Nodup ∧ (∀ b ∈ F, w.heap.size ≤ b) ∧ Below w.heap.size w w'
/-- What an object under way is. -/
structure ObjT (ts : List VT) (i : Nat) (t : VT) : Prop where
  kind : t.kind = 6
  rise : rising t.keys = true
  keys : t.keys.length = t.items.length
  len : t.items.length = i
  fit : fitV t = true
  size : sizeV t = 1 + sizeL (ts.take i)
theorem objT_zero (ts : List VT) : ObjT ts 0 (.mk 6 false [] [] []) := ⟨rfl, rfl, rfl, rfl, rfl, by rw [sizeV, List.take_zero]⟩
theorem objT_put {ts : List VT} {i : Nat} {t : VT} (h : ObjT ts i t) (hi : i < ts.length) {key : List UInt8} (hk : hasK t.keys key = false) (hf : fitV ts[i] = true) : ObjT ts (i + 1) (putT t key ts[i]) := by
  obtain ⟨k, b, tx, its, ks⟩ := t
  obtain ⟨h1, h2, h3, h4, h5, h6⟩ := h
  have hk' : hasK ks key = false := hk
  have h2' : rising ks = true := h2
  have h3' : ks.length = its.length := h3
  have h4' : its.length = i := h4
  have hp := posK_le ks key
  rw [putT, hk', if_neg Bool.false_ne_true]
  rw [fitV_mk] at h5
  refine ⟨h1, rising_put h2' hk', ?_, ?_, ?_, ?_⟩
  · show (ks.take (posK ks key) ++ key :: ks.drop (posK ks key)).length = (its.take (posK ks key) ++ ts[i] :: its.drop (posK ks key)).length
    rw [ins_len _ _ hp, ins_len _ _ (by omega)]
    omega
  · show (its.take (posK ks key) ++ ts[i] :: its.drop (posK ks key)).length = _
    rw [ins_len _ _ (by omega)]
    omega
  · rw [fitV_mk]
    refine ⟨?_, fun x hx => ?_⟩
    · rw [ins_len _ _ hp, ins_len _ _ (by omega)]
      omega
    · rcases List.mem_append.1 hx with hx | hx
      · exact h5.2 x (List.mem_of_mem_take hx)
      · rcases List.mem_cons.1 hx with rfl | hx
        · exact hf
        · exact h5.2 x (List.mem_of_mem_drop hx)
  · rw [sizeV] at h6 ⊢
    rw [sizeL_append, sizeL, sizeL_take_succ hi]
    have := sizeL_append (its.take (posK ks key)) (its.drop (posK ks key))
    rw [List.take_append_drop] at this
    omega

/-- The object under way, and its box. -/
def ObjR (ts : List VT) (w : World) (i : Nat) (cur : VT) (wr : World) : Prop :=
  ∃ v F, OwnVal wr cur v F ∧ F.Nodup ∧ (∀ b ∈ F, w.heap.size + 2 ≤ b) ∧ wr.heap[w.heap.size + 1]? = some (.cells v.cells 26 (0, 0)) ∧
    wr.heap[w.heap.size]? = some (.cells #[.int .i64 0, .bool false, .string ⟨#[]⟩, .slice none 0 0, .slice none 0 0] 26 (0, 0)) ∧ Below w.heap.size w wr ∧ ObjT ts i cur ∧ w.heap.size + 2 ≤ wr.heap.size

set_option maxHeartbeats 4000000 in
theorem object_val (ks : List (List UInt8)) (ts : List VT) (vk vi : Value) (vs : Nat → Value) (w : World) (hks : StrsAt w vk ks) (hr : RowAt w vi ts.length vs) (hv : ValsAt w ts vs) (hl : ks.length ≤ 100000) (hs : 1 + sizeL ts ≤ 1000000) (hf : ∀ x ∈ ts, fitV x = true) :
    Calls Tryd.prog 23 #[vk, vi] w (ObjPost (if ks.length = ts.length then objT (.mk 6 false [] [] []) ks ts else (VT.none, 1)) w) := by
  obtain ⟨wB, hwB⟩ : ∃ wB, wB = w.alloc (.cells #[.int .i64 0, .bool false, .string ⟨#[]⟩, .slice none 0 0, .slice none 0 0] 26) := ⟨_, rfl⟩
  have hnB : wB.heap[w.heap.size]? = some (.cells #[.int .i64 0, .bool false, .string ⟨#[]⟩, .slice none 0 0, .slice none 0 0] 26 (0, 0)) := by rw [hwB]; exact heap_alloc_new _ _
  obtain ⟨_, _, _, _, _, hsB, hbB⟩ := box5 hwB
  have hks0 := hks
  obtain ⟨ak, ck, rfl, _⟩ := hks
  have hr0 := hr
  obtain ⟨ao, cap, rfl, hm, _⟩ := hr
  by_cases hn : ks.length = ts.length
  · rw [if_pos hn]
    obtain ⟨wC, hwC⟩ : ∃ wC, wC = wB.alloc (.cells #[.int .i64 6, .bool false, .string ⟨#[]⟩, .slice none 0 0, .slice none 0 0] 26) := ⟨_, rfl⟩
    obtain ⟨_, _, _, _, _, hsC, hbC⟩ := box5 hwC
    have hnC : wC.heap[w.heap.size + 1]? = some (.cells #[.int .i64 6, .bool false, .string ⟨#[]⟩, .slice none 0 0, .slice none 0 0] 26 (0, 0)) := by rw [hwC, ← hsB]; exact heap_alloc_new _ _
    have h0 : ObjR ts w 0 (.mk 6 false [] [] []) wC := ⟨leafV 6 false [], [], leaf_own _ _ _ _ (by simp), by simp, by simp, hnC, (hbC.block _ (by omega)).trans hnB, hbB.trans (hbC.mono (by omega)), objT_zero ts, by omega⟩
    obtain ⟨RES, hRES⟩ : ∃ RES, objT (.mk 6 false [] [] []) ks ts = RES := ⟨_, rfl⟩
    rw [hRES]
    have H0 := Lib.hid h0
    have HR0 : Hid (objT (.mk 6 false [] [] []) (ks.drop 0) (ts.drop 0) = RES) := hRES
    have HN := Lib.hid hn
    have hnn : ((ks.length : Int) != (ts.length : Int)) = false := by simp; omega
    have hnn' : ((ks.length : Int) == (ts.length : Int)) = true := by simp; omega
    clear h0 hRES hnB hnC hn
    go_enter Tryd.func23, Tryd.ntmps23
    go_upto_region 1 with fail
    rw [← hwB]
    clear hwB
    go_upto_region 4 with fail
    rw [← hwC]
    clear hwC hbC
    go_wp2
    go_loopg [20] ks.length (fun g v20 wr => ∃ (i : Nat) (cur : VT), i + g = ks.length ∧ v20 = .int .i64 i ∧ Hid (ObjR ts w i cur wr) ∧ Hid (objT cur (ks.drop i) (ts.drop i) = RES))
    case atStart => exact ⟨0, _, by omega, rfl, H0, HR0⟩
    case round =>
      clear H0 HR0
      obtain ⟨i, cur, hig, rfl, HO, HE⟩ := hrel
      obtain ⟨vI, FI, hO1, hO2, hO3, hO4, hO5, hO6, hO7, hO8⟩ := HO.out
      obtain ⟨ai, ci, ak', ck', rfl⟩ := hO1.at.form
      obtain ⟨b0, b1, b2, b3, b4, _, _⟩ := cell_box5 hO4
      obtain ⟨z0, z1, z2, z3, z4, y0, y1, y2, y3, y4⟩ := free5 hO5
      cases gk with
      | zero =>
        obtain rfl : i = ks.length := by omega
        have hres : RES = (cur, 0) := by
          rw [← HE.out, List.drop_length, objT]
          intro _ _ _ _ h _
          cases h
        subst hres
        obtain ⟨w5, hw5, hr5, hz5, hk5, hB5⟩ := put_box5 hO5 (.int .i64 cur.kind) (.bool cur.flag) (str cur.text) (.slice ai cur.items.length ci) (.slice ak' cur.keys.length ck')
        obtain ⟨p0, p1, p2, p3, p4, _, _⟩ := cell_box5 hr5
        have hfin : ObjPost (cur, 0) w (.returned (.tuple #[.agg #[.int .i64 cur.kind, .bool cur.flag, str cur.text, .slice ai cur.items.length ci, .slice ak' cur.keys.length ck'], .int .i64 0])) w5 :=
          ⟨_, FI, rfl, hO1.keep (fun b hb => hk5 b (by have := hO3 b hb; omega)), hO2, fun b hb => by have := hO3 b hb; omega, hB5 _ _ (Nat.le_refl _) hO6⟩
        have HF := Lib.hid hfin
        have HW := Lib.hid hw5
        clear hfin hw5 hr5 hk5 hB5 hO1 hO2 hO3 hO4 hO5 hO6 hO7 HO HE hks0 hr0 hv hf HN
        go_wp2
        rw [← HW.out]
        exact bodyPost_ret (v := .tuple #[.agg #[.int .i64 cur.kind, .bool cur.flag, str cur.text, .slice ai cur.items.length ci, .slice ak' cur.keys.length ck'], .int .i64 0]) (by simp [results, go_sem, p0, p1, p2, p3, p4]) rfl HF.out
      | succ g =>
        have hil : i < ks.length := by omega
        have hie : (i : Int) < (ks.length : Int) := by omega
        have hnt := HN.out
        have hit : i < ts.length := by omega
        have hie' : (i : Int) < (ts.length : Int) := by omega
        have hres := HE.out
        rw [List.drop_eq_getElem_cons hil, List.drop_eq_getElem_cons hit, objT] at hres
        obtain ⟨bk, ok, rfl, lk, hkc⟩ := StrsAt.get hks0 hil
        have hkc := (hO6.cell (p := ⟨bk, ok + i, none⟩) lk).trans hkc
        rw [getD_at ks [] hil] at hkc
        have htn : sizeL (ts.take i) + sizeV ts[i] ≤ sizeL ts := by
          have e1 := sizeL_take_succ hit
          have e2 := sizeL_take_le ts (i + 1)
          omega
        have CG := get_val cur _ ks[i] wr hO1.at hO7.rise hO7.fit (by rw [hO7.size]; omega)
        have hObj := fun (hk : hasK cur.keys ks[i] = false) => objT_put hO7 hit hk (hf _ (List.getElem_mem hit))
        have HX := fun W (hW : Below w.heap.size w W) => RowAt.at hr0 hv hW hit
        have CC := fun v W (hx : ValAt W ts[i] v) => clone_val ts[i] v W hx (hf _ (List.getElem_mem hit)) (by omega)
        have hgk : (getT cur ks[i]).2 = hasK cur.keys ks[i] := by
          unfold getT
          rw [hO7.kind]
          cases hh : hasK cur.keys ks[i] <;> simp
        rw [hgk] at CG hres
        obtain ⟨key, hke⟩ : ∃ key, ks[i] = key := ⟨_, rfl⟩
        obtain ⟨x, hxe⟩ : ∃ x, ts[i] = x := ⟨_, rfl⟩
        rw [hke] at hkc CG hObj hres
        rw [hxe] at hObj HX CC hres
        obtain ⟨gt, hgt⟩ : ∃ gt, (getT cur key).1 = gt := ⟨_, rfl⟩
        rw [hgt] at CG
        have HRES := Lib.hid hres
        have HXX := Lib.hid HX
        have HOB := Lib.hid hObj
        have HO7 := Lib.hid hO7
        have HO4 := Lib.hid hO4
        have HO5 := Lib.hid hO5
        have HO6 := Lib.hid hO6
        have HO1 := Lib.hid hO1
        clear hres HX hObj hgt hxe hke hgk hO7 HE HO htn hnt hks0 hr0 hv hf hO4 hO5 hO6 hO1 z0 z1 z2 z3 z4 y0 y1 y2 y3 y4
        go_wp2_with fail
        refine CG.mono ?_
        rintro e w1 ⟨vg, Fg, rfl, hg1, _, _, hb1⟩
        obtain ⟨gi, gc, gj, gd, rfl⟩ := hg1.at.form
        obtain ⟨wA, hwA⟩ : ∃ wA, wA = w1.alloc (.cells #[.int .i64 gt.kind, .bool gt.flag, str gt.text, .slice gi gt.items.length gc, .slice gj gt.keys.length gd] 26) := ⟨_, rfl⟩
        obtain ⟨_, _, _, _, _, hsA, hbA⟩ := box5 hwA
        have hb1s := hb1.size
        have hbrA : Below wr.heap.size wr wA := hb1.trans (hbA.mono hb1s)
        have hBA : Below w.heap.size w wA := HO6.out.trans (hbrA.mono (by omega))
        have hsrA := hbrA.size
        have hboxA := (hbrA.block (w.heap.size + 1) (by omega)).trans HO4.out
        have hresA := (hbrA.block w.heap.size (by omega)).trans HO5.out
        clear CG hg1 b0 b1 b2 b3 b4 hkc
        go_upto_region 8 with fail
        rw [← hwA]
        clear hwA
        cases hk : hasK cur.keys key with
        | true =>
          have hr2 : RES = (VT.none, 2) := by rw [← HRES.out, hk, if_pos rfl]
          subst hr2
          obtain ⟨z0, z1, z2, z3, z4, y0, y1, y2, y3, y4⟩ := free5 hresA
          obtain ⟨w5, hw5, hr5, hz5, hk5, hB5⟩ := put_box5 hresA (.int .i64 0) (.bool false) (.string ⟨#[]⟩) (.slice none 0 0) (.slice none 0 0)
          obtain ⟨p0, p1, p2, p3, p4, _, _⟩ := cell_box5 hr5
          have hfin : ObjPost (VT.none, 2) w (.returned (.tuple #[.agg #[.int .i64 0, .bool false, .string ⟨#[]⟩, .slice none 0 0, .slice none 0 0], .int .i64 2])) w5 :=
            ⟨_, [], rfl, ownVal_none _, by simp, by simp, hB5 _ _ (Nat.le_refl _) hBA⟩
          have HF := Lib.hid hfin
          have HW := Lib.hid hw5
          clear hfin hw5 hr5 hk5 hB5 hk hboxA hresA HRES HXX HOB hb1 hbA hbrA CC
          go_wp2
          rw [← HW.out]
          exact bodyPost_ret (v := .tuple #[.agg #[.int .i64 0, .bool false, .string ⟨#[]⟩, .slice none 0 0, .slice none 0 0], .int .i64 2]) (by simp [results, go_sem, p0, p1, p2, p3, p4]) rfl HF.out
        | false =>
          have hrec : objT (putT cur key x) (ks.drop (i + 1)) (ts.drop (i + 1)) = RES := by rw [← HRES.out, hk, if_neg Bool.false_ne_true]
          have hot := HOB.out hk
          obtain ⟨b', off, bi, di, bj, dj, rfl, hlt, hx, q0, q1, q2, q3, q4⟩ := HXX.out wA hBA
          have CC1 := CC _ wA.drew (hx.mono (Below.refl _ wA).drew)
          have hFlt := HO1.out.lt
          have CPUT : ∀ w3 vx Fx, Below wA.heap.size wA w3 → OwnVal w3 x vx Fx → Fx.Nodup → (∀ b ∈ Fx, wA.heap.size ≤ b) → Calls Tryd.prog 40 #[.agg #[.int .i64 cur.kind, .bool cur.flag, str cur.text, .slice ai cur.items.length ci, .slice ak' cur.keys.length ck'], str key, vx] w3 (PutPost (putT cur key x) FI Fx w3) := fun w3 vx Fx hb3 h1 h2 h3 =>
            put_val cur _ FI key x vx Fx w3 (HO1.out.keep fun b hb => (hb3.block b (by have := hFlt b hb; omega)).trans (hbrA.block b (hFlt b hb))) hO2 h1 h2 (fun a ha b hb e => by have := hFlt a ha; have := h3 b hb; omega) HO7.out.rise HO7.out.keys (by have := HO7.out.len; omega)
          obtain ⟨T, hT⟩ : ∃ T, putT cur key x = T := ⟨_, rfl⟩
          rw [hT] at hrec hot CPUT
          have HREC := Lib.hid hrec
          have HOT := Lib.hid hot
          have HCP := Lib.hid CPUT
          have hbase : wA.drew.heap.size = wA.heap.size := rfl
          obtain ⟨b0, b1, b2, b3, b4, _, _⟩ := cell_box5 hboxA
          clear hrec hot hT HRES HXX HOB hk CC hx CPUT hbA hb1
          go_upto_region 10 with fail
          go_region_with
            (first
              | (go_at_call 15; refine CC1.mono ?_; rintro e w3 ⟨vx, Fx, rfl, hx1, hx2, hx3, hb3⟩; obtain ⟨xi, xc, xj, xd, rfl⟩ := hx1.at.form; have hbox3 := (hb3.block (w.heap.size + 1) (by show w.heap.size + 1 < wA.heap.size; omega)).trans hboxA; obtain ⟨c0, c1, c2, c3, c4, _, _⟩ := cell_box5 hbox3)
              | (go_at_call 40; refine (HCP.out w3 _ Fx ((Below.refl _ wA).drew.trans (hb3.mono (Nat.le_refl _))) hx1 hx2 hx3).mono ?_; rintro e w4 ⟨v4, F4, rfl, g1, g2, g3, g4⟩; obtain ⟨ri, rc, rj, rd, rfl⟩ := g1.at.form; have hbox4 := (g4.block (w.heap.size + 1) (by have := hb3.size; omega) (fun hm => by have := hO3 _ hm; omega)).trans hbox3; obtain ⟨u0, u1, u2, u3, u4, s0, s1, s2, s3, s4⟩ := free5 hbox4))
          all_goals
            have hb3' : Below wA.heap.size wA w3 := (Below.refl _ wA).drew.trans (hb3.mono (Nat.le_refl _))
            have hs3 := hb3'.size
            have hs4 := g4.size
            have hB3 : Below w.heap.size w w3 := hBA.trans (hb3'.mono (by omega))
            have hB4 : Below w.heap.size w w4 := Below.spared hB3 g4 (by omega) (fun k hk => by have := hO3 k hk; omega)
            have hres4 := (g4.block w.heap.size (by omega) (fun hm => by have := hO3 _ hm; omega)).trans ((hb3'.block w.heap.size (by omega)).trans hresA)
            have hF4 : ∀ b ∈ F4, w.heap.size + 2 ≤ b := fun b hb => by
              rcases g3 b hb with h | h | h
              · exact hO3 b h
              · have := hx3 b h; omega
              · omega
            obtain ⟨w5, hw5, hr5, hz5, hk5, hB5⟩ := put_box5 hbox4 (.int .i64 T.kind) (.bool T.flag) (.string ⟨T.text.toArray⟩) (.slice ri T.items.length rc) (.slice rj T.keys.length rd)
            have hfin : ObjR ts w (i + 1) T w5 := ⟨_, F4, g1.keep (fun b hb => hk5 b (by have := hF4 b hb; omega)), g2, hF4, hr5, (hk5 w.heap.size (by omega)).trans hres4, hB5 _ _ (by omega) hB4, HOT.out, by omega⟩
            have HF := Lib.hid hfin
            rw [← hw5]
            clear hfin hw5 hr5 hk5 hB5 hF4 hres4 hB4 hB3 hb3' hb3 g1 g2 g3 g4 hbox4 hbox3 hx1 hx2 hx3 u0 u1 u2 u3 u4 s0 s1 s2 s3 s4 c0 c1 c2 c3 c4 b0 b1 b2 b3 b4 q0 q1 q2 q3 q4 hboxA hresA CC1 HCP HOT hbrA hBA hlt hFlt
            go_wp2
            go_roundg g
            case measure => omega
            case rel => exact ⟨i + 1, T, by omega, by go_num, HF, HREC⟩
  · rw [if_neg hn]
    have hnn : ((ks.length : Int) != (ts.length : Int)) = true := by simp; omega
    have hnn' : ((ks.length : Int) == (ts.length : Int)) = false := by simp; omega
    obtain ⟨z0, z1, z2, z3, z4, y0, y1, y2, y3, y4⟩ := free5 hnB
    obtain ⟨w5, hw5, hr5, hz5, hk5, hB5⟩ := put_box5 hnB (.int .i64 0) (.bool false) (.string ⟨#[]⟩) (.slice none 0 0) (.slice none 0 0)
    obtain ⟨p0, p1, p2, p3, p4, _, _⟩ := cell_box5 hr5
    have hfin : ObjPost (VT.none, 1) w (.returned (.tuple #[.agg #[.int .i64 0, .bool false, .string ⟨#[]⟩, .slice none 0 0, .slice none 0 0], .int .i64 1])) w5 :=
      ⟨_, [], rfl, ownVal_none _, by simp, by simp, hB5 _ _ (Nat.le_refl _) hbB⟩
    have HF := Lib.hid hfin
    have HW := Lib.hid hw5
    clear hfin hw5 hr5 hk5 hB5 hks0 hr0 hv hf hn hnB
    go_enter Tryd.func23, Tryd.ntmps23
    go_upto_region 1 with fail
    rw [← hwB]
    clear hwB
    go_wp2
    rw [← HW.out]
    exact bodyPost_ret (v := .tuple #[.agg #[.int .i64 0, .bool false, .string ⟨#[]⟩, .slice none 0 0, .slice none 0 0], .int .i64 1]) (by simp [results, go_sem, p0, p1, p2, p3, p4]) rfl HF.out

end Go.Proofs.YtgbalofdfdafmaaDoor
