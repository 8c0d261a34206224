/- The walk of value.Drop: it without a key. -/
import Derived.Test.YtgbalofdfdafmaaDoorDelR
import Derived.Test.YtgbalofdfdafmaaDoorPut
import Derived.Test.YtgbalofdfdafmaaDoorList
namespace Go.Proofs.YtgbalofdfdafmaaDoor
open Go.RowKit
set_option maxRecDepth 100000
attribute [local go_sem] str_size str_toList str_get

theorem fit_len {t : VT} (h : fitV t = true) : t.keys.length ≤ t.items.length := by
  cases t
  exact (fitV_mk.1 h).1
theorem nodup_del {Fk Fi G O H : List Nat} (h : (Fk ++ (Fi ++ (G ++ (O ++ H)))).Nodup) : (Fk ++ (Fi ++ (G ++ H))).Nodup := by
  simp only [List.nodup_append, List.mem_append] at *
  grind
/-- The row of a slice that is not empty. -/
theorem OwnS.some {w : World} {e : TypeId} {size n c : Nat} {a : Option Addr} {xs : List Value} {F : List Nat} (h : OwnS w e size (.slice a n c) n xs F) (hn : 0 < n) : ∃ g, a = some ⟨g, 0, none⟩ ∧ g ∈ F := by
  obtain ⟨h, rfl⟩ := h
  rcases h.2 with ⟨h0, h1⟩ | ⟨g, cap, cur, hv, _⟩
  · omega
  · injection hv with e1 e2 e3
    subst e1
    exact ⟨g, rfl, by simp [Value.ownBlock]⟩

set_option maxHeartbeats 8000000 in
theorem dropO_val (t : VT) (v : Value) (key : List UInt8) (w : World) (h : ValAt w t v) (hft : fitV t = true) (hrt : rising t.keys = true) (hkt : t.kind = 6 → t.keys.length = t.items.length) (hst : sizeV t ≤ 1000000) :
    Calls Tryd.prog 20 #[v, str key] w (ClV (dropT t key) w) := by
  obtain ⟨ai, ci, ak, ck, rfl⟩ := h.form
  obtain ⟨wP, hwP⟩ : ∃ wP, wP = w.alloc (.cells #[.int .i64 t.kind, .bool t.flag, str t.text, .slice ai t.items.length ci, .slice ak t.keys.length ck] 26) := ⟨_, rfl⟩
  obtain ⟨_, _, _, _, _, hsP, hbP⟩ := box5 hwP
  obtain ⟨wQ, hwQ⟩ : ∃ wQ, wQ = wP.alloc (.cells #[.int .i64 0, .bool false, .string ⟨#[]⟩, .slice none 0 0, .slice none 0 0] 26) := ⟨_, rfl⟩
  have hbq : wQ.heap[w.heap.size]? = some (.cells #[.int .i64 t.kind, .bool t.flag, str t.text, .slice ai t.items.length ci, .slice ak t.keys.length ck] 26 (0, 0)) := by
    rw [hwQ, Below.heap_alloc _ _ _ (by omega), hwP]; exact heap_alloc_new _ _
  have hbr : wQ.heap[w.heap.size + 1]? = some (.cells #[.int .i64 0, .bool false, .string ⟨#[]⟩, .slice none 0 0, .slice none 0 0] 26 (0, 0)) := by
    rw [hwQ, ← hsP]; exact heap_alloc_new _ _
  obtain ⟨_, _, _, _, _, hsQ, hbQ⟩ := box5 hwQ
  have hb0 : Below w.heap.size w wQ := hbP.trans (hbQ.mono (by omega))
  have hsz : wQ.heap.size = w.heap.size + 2 := by omega
  have C1 := clone_val t _ wQ (h.mono hb0) hft hst
  have hlk : t.keys.length ≤ 1000000 := by
    have := fit_len hft
    have := sizeV_len t
    omega
  have hli : t.items.length ≤ 1000000 := by have := sizeV_len t; omega
  obtain ⟨u0, u1, u2, u3, u4, f0, f1, f2, f3, f4⟩ := free5 hbq
  have HQ := Lib.hid hbq
  have HR := Lib.hid hbr
  have HZ := Lib.hid hsz
  have HKT := Lib.hid hkt
  clear h hbq hbr hbP hbQ hsP hsQ hsz hkt hft hst
  go_enter Tryd.func20, Tryd.ntmps20
  go_upto_region 1 with fail
  rw [← hwP, ← hwQ]
  clear hwP hwQ
  go_wp2_with fail
  refine C1.mono ?_
  rintro e w1 ⟨v', F, rfl, hO, hF, hge, hb1⟩
  clear C1 u0 u1 u2 u3 u4
  have hz1 := hb1.size
  have hz0 := HZ.out
  have hq1 := (hb1.block w.heap.size (by omega)).trans HQ.out
  have hr1 := (hb1.block (w.heap.size + 1) (by omega)).trans HR.out
  obtain ⟨vi, vk, xs, Fk, Fi, Fs, rfl, hk, hO1, hO2, hxl, rfl, hOs⟩ := hO.form
  obtain ⟨bk, dk, rfl, _, _, _⟩ := hO1.form
  obtain ⟨bi, di, rfl, _, _, _⟩ := hO2.form
  obtain ⟨_, _, _, _, _, f0, f1, f2, f3, f4⟩ := free5 hq1
  obtain ⟨wE, hwE, hrE, hzE, hkE, hBE⟩ := put_box5 hq1 (.int .i64 t.kind) (.bool t.flag) (str t.text) (.slice bi t.items.length di) (.slice bk t.keys.length dk)
  obtain ⟨p0, p1, p2, p3, p4, _, _⟩ := cell_box5 hrE
  have hgF : ∀ b ∈ Fk ++ (Fi ++ Fs), w.heap.size + 2 ≤ b := fun b hb => by have := hge b hb; omega
  have hOE := hO.keep (w' := wE) fun b hb => hkE b (by have := hgF b hb; omega)
  have hO1E := hO1.keep (w' := wE) fun b hb => hkE b (by have := hgF b (by simp [hb]); omega)
  have hO2E := hO2.keep (w' := wE) fun b hb => hkE b (by have := hgF b (by simp [hb]); omega)
  have hOsE := hOs.keep (w' := wE) fun b hb => hkE b (by have := hgF b (by simp [hb]); omega)
  have hbE : Below w.heap.size w wE := hBE _ _ (Nat.le_refl _) (hb0.trans (hb1.mono (by omega)))
  have hrE1 := (hkE (w.heap.size + 1) (by omega)).trans hr1
  have CS := search_keys t.keys _ key wE (OwnS.strs hO1E) hrt hlk
  have HE := Lib.hid hwE
  have HRE := Lib.hid hrE
  have HRE1 := Lib.hid hrE1
  have HO := Lib.hid hOE
  have HO1 := Lib.hid hO1E
  have HO2 := Lib.hid hO2E
  have HOS := Lib.hid hOsE
  have HF := Lib.hid hF
  have HGF := Lib.hid hgF
  have hple := posK_le t.keys key
  have HXL := Lib.hid hxl
  have H5 := Lib.hid hOsE.cells
  have H1 := Lib.hid (cells_one hOsE)
  obtain ⟨p, hpe⟩ : ∃ p, posK t.keys key = p := ⟨_, rfl⟩
  rw [hpe] at CS hple
  clear hO hO1 hO2 hOs hOE hO1E hO2E hOsE hF hgF hge hrE hrE1 hkE hBE hwE hq1 hr1 hb1 hb0 hz0 hxl
  go_upto_region 2 with fail
  rw [← HE.out]
  clear HE f0 f1 f2 f3 f4
  go_wp2_with fail
  refine CS.mono ?_
  rintro e w2 ⟨rfl, hq2⟩
  clear CS p0 p1 p2 p3 p4
  have hzq := hq2.size
  have hzE' := HZ.out
  have hBw2 := hbE.trans (hq2.mono hbE.size)
  have e1 := (hq2.block w.heap.size (by omega)).trans HRE.out
  have e3 := (hq2.block (w.heap.size + 1) (by omega)).trans HRE1.out
  obtain ⟨c0, c1, c2, c3, c4, _, _⟩ := cell_box5 e1
  have hdrop : dropT t key = if hasK t.keys key = true ∧ t.kind = 6 then .mk t.kind t.flag t.text (t.items.take p ++ t.items.drop (p + 1)) (t.keys.take p ++ t.keys.drop (p + 1)) else t := by
    obtain ⟨k, b, tx, its, ks⟩ := t
    rw [dropT, show posK ks key = p from hpe]
    rfl
  by_cases hcond : hasK t.keys key = true ∧ t.kind = 6
  · rw [if_pos hcond] at hdrop
    obtain ⟨hh, h6⟩ := hcond
    have h6b : (t.kind == 6) = true := by simpa using h6
    have hpk : p < t.keys.length := by have := (hasK_iff.1 hh).1; omega
    have hpi : p < t.items.length := by rw [← HKT.out h6]; exact hpk
    rw [hh]
    obtain ⟨gk, rfl, hgk⟩ := HO1.out.some (by omega)
    obtain ⟨gi, rfl, hgi⟩ := HO2.out.some (by omega)
    have hFlt := HO.out.lt
    have hO1' := HO1.out.keep fun b hb => hq2.block b (hFlt b (by simp [hb]))
    have hO2' := HO2.out.keep fun b hb => hq2.block b (hFlt b (by simp [hb]))
    have hdki : ∀ a ∈ Fk, ∀ b ∈ Fi, a ≠ b := HO1.out.apart HO2.out (by decide)
    clear hpe hh h6
    go_upto_region 4 with fail
    refine region_drop _ w2 _ w.heap.size p t.keys.length t.items.length gk gi t.keys xs Fk Fi (.int .i64 t.kind) (.bool t.flag) (str t.text) dk di rfl rfl rfl e1 hO1' hO2' hdki
      (fun hm => by have := HGF.out w.heap.size (by simp at hm ⊢; rcases hm with hm | hm <;> simp [hm]); omega) rfl HXL.out hpk hpi hlk hli H5.out H1.out ?_
    intro w3 hK hI hS3
    have hs3 := hS3.size
    have hnq : ∀ b, b < w.heap.size + 2 → b ∉ Fk ++ Fi := fun b hb hm => by
      have := HGF.out b (by simp at hm ⊢; rcases hm with hm | hm <;> simp [hm])
      omega
    have i1 := (hS3.block w.heap.size (by omega) (hnq _ (by omega))).trans e1
    have i3 := (hS3.block (w.heap.size + 1) (by omega) (hnq _ (by omega))).trans e3
    obtain ⟨w4, hw4, hr4, hz4, hk4, hB4⟩ := set_box5 i1 (.slice (some ⟨gi, 0, none⟩) (t.items.length - 1) di) (.slice (some ⟨gk, 0, none⟩) (t.keys.length - 1) dk)
    obtain ⟨d0, d1, d2, d3, d4, _, _⟩ := cell_box5 hr4
    have j3 := (hk4 (w.heap.size + 1) (by omega)).trans i3
    obtain ⟨z0, z1, z2, z3, z4, y0, y1, y2, y3, y4⟩ := free5 j3
    obtain ⟨w5, hw5, hr5, hz5, hk5, hB5⟩ := put_box5 j3 (.int .i64 t.kind) (.bool t.flag) (.string ⟨t.text.toArray⟩) (.slice (some ⟨gi, 0, none⟩) (t.items.length - 1) di) (.slice (some ⟨gk, 0, none⟩) (t.keys.length - 1) dk)
    obtain ⟨p0, p1, p2, p3, p4, _, _⟩ := cell_box5 hr5
    have hB3 : Below w.heap.size w w3 := Below.spared hBw2 hS3 hBw2.size (fun k hk => by have := HGF.out k (by simp at hk ⊢; rcases hk with hk | hk <;> simp [hk]); omega)
    have hkeep : ∀ b, w.heap.size + 2 ≤ b → w5.heap[b]? = w3.heap[b]? := fun b hb => (hk5 b (by omega)).trans (hk4 b (by omega))
    have hfin : ClV (dropT t key) w (.returned (.agg #[.int .i64 t.kind, .bool t.flag, str t.text, .slice (some ⟨gi, 0, none⟩) (t.items.length - 1) di, .slice (some ⟨gk, 0, none⟩) (t.keys.length - 1) dk])) w5 := by
      obtain ⟨G, O, H, rfl, hdel⟩ := HOS.out.del hpi
      have hn := HF.out
      refine ⟨_, Fk ++ (Fi ++ (G ++ H)), rfl, ?_, nodup_del hn, fun b hb => ?_, hB5 _ _ (by omega) (hB4 _ _ (by omega) hB3)⟩
      · rw [hdrop, OwnVal]
        have l1 : (t.keys.take p ++ t.keys.drop (p + 1)).length = t.keys.length - 1 := by simp; omega
        have l2 : (t.items.take p ++ t.items.drop (p + 1)).length = t.items.length - 1 := by simp; omega
        have l3 : (xs.take p ++ xs.drop (p + 1)).length = t.items.length - 1 := by have := HXL.out; simp; omega
        rw [l1, l2]
        refine ⟨_, _, _, Fk, Fi, G ++ H, rfl, hk, hK.keep (fun b hb => hkeep b (HGF.out b (by simp [hb]))), hI.keep (fun b hb => hkeep b (HGF.out b (by simp [hb]))), l3, rfl, ?_⟩
        refine (hdel (w' := w3) fun b hb => (hS3.block b ?_ ?_).trans (hq2.block b ?_)).keep fun b hb => hkeep b (HGF.out b ?_)
        · exact Nat.lt_of_lt_of_le (hFlt b (by simp only [List.mem_append] at hb ⊢; exact .inr (.inr hb))) hzq
        · intro hm
          rw [List.nodup_append, List.nodup_append] at hn
          rcases List.mem_append.1 hm with hm | hm
          · exact hn.2.2 b hm b (by simp only [List.mem_append] at hb ⊢; exact .inr hb) rfl
          · exact hn.2.1.2.2 b hm b hb rfl
        · exact hFlt b (by simp only [List.mem_append] at hb ⊢; exact .inr (.inr hb))
        · simp only [List.mem_append] at hb ⊢
          rcases hb with hb | hb
          · exact .inr (.inr (.inl hb))
          · exact .inr (.inr (.inr (.inr hb)))
      · have := HGF.out b (by
          simp only [List.mem_append] at hb ⊢
          rcases hb with hb | hb | hb | hb
          · exact .inl hb
          · exact .inr (.inl hb)
          · exact .inr (.inr (.inl hb))
          · exact .inr (.inr (.inr (.inr hb))))
        omega
    have HFI := Lib.hid hfin
    have HW := Lib.hid hw5
    clear hfin hw5 hr5 hk5 hB5 hkeep hk4 hB4 i1 i3 j3 e1 e3 hr4 hK hI hS3 hnq hdki hO1' hO2' hFlt hB3
    rw [← hw4]
    clear hw4
    simp only [dropFrame, Act.put, List.setIfInBounds_toArray, List.set_cons_succ, List.set_cons_zero]
    go_wp2
    rw [← HW.out]
    refine bodyPost_ret (v := .agg #[.int .i64 t.kind, .bool t.flag, str t.text, .slice (some ⟨gi, 0, none⟩) (t.items.length - 1) di, .slice (some ⟨gk, 0, none⟩) (t.keys.length - 1) dk]) (by simp [results, go_sem, p0, p1, p2, p3, p4]) rfl ?_
    exact HFI.out
  · rw [if_neg hcond] at hdrop
    obtain ⟨z0, z1, z2, z3, z4, y0, y1, y2, y3, y4⟩ := free5 e3
    obtain ⟨w5, hw5, hr5, hz5, hk5, hB5⟩ := put_box5 e3 (.int .i64 t.kind) (.bool t.flag) (.string ⟨t.text.toArray⟩) (.slice bi t.items.length di) (.slice bk t.keys.length dk)
    obtain ⟨p0, p1, p2, p3, p4, _, _⟩ := cell_box5 hr5
    have hFlt := HO.out.lt
    have hfin : ClV (dropT t key) w (.returned (.agg #[.int .i64 t.kind, .bool t.flag, str t.text, .slice bi t.items.length di, .slice bk t.keys.length dk])) w5 := by
      rw [hdrop]
      refine ⟨_, Fk ++ (Fi ++ Fs), rfl, HO.out.keep fun b hb => (hk5 b (by have := HGF.out b hb; omega)).trans (hq2.block b (hFlt b hb)), HF.out, fun b hb => by have := HGF.out b hb; omega, hB5 _ _ (by omega) hBw2⟩
    have HFI := Lib.hid hfin
    have HW := Lib.hid hw5
    obtain ⟨hh, hhe⟩ : ∃ hh, hasK t.keys key = hh := ⟨_, rfl⟩
    rw [hhe] at hcond ⊢
    clear hfin hw5 hr5 hk5 hB5 e1 e3 hFlt hdrop hhe hpe
    have hfinish : True := trivial
    cases hh with
    | true =>
      have h6b : (t.kind == 6) = false := by simpa using hcond
      clear hcond
      go_wp2
      rw [← HW.out]
      refine bodyPost_ret (v := .agg #[.int .i64 t.kind, .bool t.flag, str t.text, .slice bi t.items.length di, .slice bk t.keys.length dk]) (by simp [results, go_sem, p0, p1, p2, p3, p4]) rfl ?_
      exact HFI.out
    | false =>
      clear hcond
      go_wp2
      rw [← HW.out]
      refine bodyPost_ret (v := .agg #[.int .i64 t.kind, .bool t.flag, str t.text, .slice bi t.items.length di, .slice bk t.keys.length dk]) (by simp [results, go_sem, p0, p1, p2, p3, p4]) rfl ?_
      exact HFI.out

end Go.Proofs.YtgbalofdfdafmaaDoor
