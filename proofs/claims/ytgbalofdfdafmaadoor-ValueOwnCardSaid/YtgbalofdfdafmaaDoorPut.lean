/- The walk of value.put: a key put into an object of one's own. -/
import Derived.Test.YtgbalofdfdafmaaDoorPutP
import Derived.Test.YtgbalofdfdafmaaDoorPutR
import Derived.Test.YtgbalofdfdafmaaDoorSrch
import Derived.Deep.RegionHeld3
namespace Go.Proofs.YtgbalofdfdafmaaDoor
open Go.RowKit
set_option maxRecDepth 100000
attribute [local go_sem] str_size str_toList str_get

theorem Spares.low {F : List Nat} {B : Nat} {a b c : World} (h : Spares F a b) (k : Below B b c) (hB : a.heap.size ≤ B) : Spares F a c :=
  ⟨k.os.trans h.os, k.tape.trans h.tape, k.output.trans h.output, Nat.le_trans h.size k.size, fun i hi hn => (k.block i (by omega)).trans (h.block i hi hn)⟩
theorem list_over {α : Type} (l : List α) (o : Nat) (c0 c1 c2 c3 c4 : α) (h : o + 5 ≤ l.length) : ((((l.set o c0).set (o + 1) c1).set (o + 2) c2).set (o + 3) c3).set (o + 4) c4 = l.take o ++ [c0, c1, c2, c3, c4] ++ l.drop (o + 5) := by
  have hA : (l.take o).length = o := by rw [List.length_take]; omega
  have e : l = l.take o ++ l.drop o := (List.take_append_drop o l).symm
  have hd : l.drop (o + 5) = (l.drop o).drop 5 := by rw [List.drop_drop]
  have hl : (l.drop o).length = l.length - o := by simp
  rw [hd]
  generalize l.take o = A at hA e
  generalize l.drop o = D at e hl
  match D, hl with
  | a0 :: a1 :: a2 :: a3 :: a4 :: D', _ =>
    rw [e]
    subst hA
    simp
  | [], hl => simp at hl; omega
  | [_], hl => simp at hl; omega
  | [_, _], hl => simp at hl; omega
  | [_, _, _], hl => simp at hl; omega
  | [_, _, _, _], hl => simp at hl; omega
theorem over_row {W : World} {g ty : Nat} {cur : Array Value} (hg : W.heap[g]? = some (.cells cur ty (0, 0))) (o : Nat) (c0 c1 c2 c3 c4 : Value) (hl : o + 5 ≤ cur.size) :
    ∃ W' cur', W' = ((((W.setCell ⟨g, o, none⟩ c0).setCell ⟨g, o + 1, none⟩ c1).setCell ⟨g, o + 2, none⟩ c2).setCell ⟨g, o + 3, none⟩ c3).setCell ⟨g, o + 4, none⟩ c4 ∧ W'.heap[g]? = some (.cells cur' ty (0, 0)) ∧
      cur'.toList = cur.toList.take o ++ [c0, c1, c2, c3, c4] ++ cur.toList.drop (o + 5) ∧ cur'.size = cur.size ∧ W'.heap.size = W.heap.size ∧ (∀ k, k ≠ g → W'.heap[k]? = W.heap[k]?) ∧ W'.os = W.os ∧ W'.tape = W.tape ∧ W'.output = W.output := by
  refine ⟨_, ((((cur.set! o c0).set! (o + 1) c1).set! (o + 2) c2).set! (o + 3) c3).set! (o + 4) c4, rfl, ?_, ?_, by simp, by simp [World.setCell], fun k hk => by simp [World.setCell, Array.getElem?_modify, Ne.symm hk], by simp [World.setCell], by simp [World.setCell], by simp [World.setCell]⟩
  · simp [World.setCell, Array.getElem?_modify, hg]
  · simpa using list_over cur.toList o c0 c1 c2 c3 c4 (by simpa using hl)
theorem row_cells {W : World} {g ty : Nat} {cur : Array Value} (hg : W.heap[g]? = some (.cells cur ty (0, 0))) {o : Nat} (hl : o < cur.size) : W.cell? ⟨g, o, none⟩ = some cur[o] ∧ W.frozen? ⟨g, o, none⟩ = false := by
  simp [World.cell?, World.frozen?, hg, hl]
/-- The row with one element written over. -/
theorem over_vals {cur cur' : Array Value} {xs : List Value} {n i : Nat} {c0 c1 c2 c3 c4 : Value} (ht : cur.toList.take (n * 5) = cellsV xs) (hxl : xs.length = n) (h5 : ∀ v ∈ xs, v.cells.size = 5) (hi : i < n) (hn : n * 5 ≤ cur.size)
    (hc : cur'.toList = cur.toList.take (i * 5) ++ [c0, c1, c2, c3, c4] ++ cur.toList.drop (i * 5 + 5)) : cur'.toList.take (n * 5) = cellsV (xs.set i (.agg #[c0, c1, c2, c3, c4])) := by
  rw [List.set_eq_take_append_cons_drop, if_pos (by omega), show xs.take i ++ Value.agg #[c0, c1, c2, c3, c4] :: xs.drop (i + 1) = xs.take i ++ [Value.agg #[c0, c1, c2, c3, c4]] ++ xs.drop (i + 1) by simp, cellsV_append, cellsV_append, cellsV_one, cellsV_take h5, cellsV_drop h5, ← ht]
  rw [hc]
  have e1 : (cur.toList.take (n * 5)).take (i * 5) = cur.toList.take (i * 5) := by rw [List.take_take, Nat.min_eq_left (by omega)]
  have e2 : (cur.toList.take (n * 5)).drop ((i + 1) * 5) = (cur.toList.drop (i * 5 + 5)).take (n * 5 - (i * 5 + 5)) := by
    rw [List.drop_take, show (i + 1) * 5 = i * 5 + 5 by omega]
  have hla : (cur.toList.take (i * 5)).length = i * 5 := by rw [List.length_take, Array.length_toList]; omega
  have hl5 : ([c0, c1, c2, c3, c4] : List Value).length = 5 := rfl
  rw [e1, e2]
  generalize cur.toList.drop (i * 5 + 5) = D
  generalize cur.toList.take (i * 5) = A at hla
  show _ = A ++ [c0, c1, c2, c3, c4] ++ D.take (n * 5 - (i * 5 + 5))
  rw [List.take_append, List.take_of_length_le (by simp [hla]; omega)]
  congr 2
  simp [hla]

theorem nodup_put2 {Fk Fi G H Fx Fk' Fi' : List Nat} {m : Nat} (hF : (Fk ++ (Fi ++ (G ++ H))).Nodup) (hx : Fx.Nodup) (hd : ∀ a ∈ Fk ++ (Fi ++ (G ++ H)), ∀ b ∈ Fx, a ≠ b) (hk : Fk'.Nodup) (hi : Fi'.Nodup) (hki : ∀ a ∈ Fk', ∀ b ∈ Fi', a ≠ b)
    (hk' : ∀ b ∈ Fk', b ∈ Fk ∨ m ≤ b) (hi' : ∀ b ∈ Fi', b ∈ Fi ∨ m ≤ b) (hlt : ∀ b ∈ Fk ++ (Fi ++ (G ++ H)), b < m) (hltx : ∀ b ∈ Fx, b < m) : (Fk' ++ (Fi' ++ (G ++ (Fx ++ H)))).Nodup := by
  simp only [List.nodup_append, List.mem_append] at *
  grind
theorem OwnS.apart {w : World} {e e' : TypeId} {s s' n n' : Nat} {v v' : Value} {xs xs' : List Value} {F F' : List Nat} (h : OwnS w e s v n xs F) (h' : OwnS w e' s' v' n' xs' F') (hne : e ≠ e') : ∀ a ∈ F, ∀ b ∈ F', a ≠ b := by
  obtain ⟨h, rfl⟩ := h
  obtain ⟨h', rfl⟩ := h'
  rintro a ha b hb rfl
  rcases h.2 with ⟨rfl, _⟩ | ⟨g, cap, cur, rfl, _, hg, _⟩
  · simp [Value.ownBlock] at ha
  · rcases h'.2 with ⟨rfl, _⟩ | ⟨g', cap', cur', rfl, _, hg', _⟩
    · simp [Value.ownBlock] at hb
    · simp [Value.ownBlock] at ha hb
      subst ha hb
      rw [hg] at hg'
      injection hg' with hg'
      injection hg' with _ h2
      exact hne h2

set_option maxHeartbeats 4000000 in
theorem put_val (t : VT) (v : Value) (F : List Nat) (key : List UInt8) (x : VT) (vx : Value) (Fx : List Nat) (w : World) (h : OwnVal w t v F) (hF : F.Nodup) (hx : OwnVal w x vx Fx) (hFx : Fx.Nodup) (hd : ∀ a ∈ F, ∀ b ∈ Fx, a ≠ b)
    (hris : rising t.keys = true) (hkl : t.keys.length = t.items.length) (hil : t.items.length ≤ 1000000) :
    Calls Tryd.prog 40 #[v, str key, vx] w (PutPost (putT t key x) F Fx w) := by
  have hat := h.at
  have hltF := h.lt
  have hltX := hx.lt
  obtain ⟨vi, vk, xs, Fk, Fi, Fs, rfl, hk, hO1, hO2, hxl, rfl, hOs⟩ := h.form
  obtain ⟨bi, di, bk, dk, rfl⟩ := hx.at.form
  obtain ⟨ak, ck, rfl, _, _, _⟩ := hO1.form
  obtain ⟨ao, cap, rfl, _, _, _⟩ := hO2.form
  obtain ⟨wP, hwP⟩ : ∃ wP, wP = w.alloc (.cells #[.int .i64 t.kind, .bool t.flag, str t.text, .slice ao t.items.length cap, .slice ak t.keys.length ck] 26) := ⟨_, rfl⟩
  obtain ⟨m0, m1, m2, m3, m4, hsP, hbP⟩ := box5 hwP
  obtain ⟨wQ, hwQ⟩ : ∃ wQ, wQ = wP.alloc (.cells #[.int .i64 x.kind, .bool x.flag, str x.text, .slice bi x.items.length di, .slice bk x.keys.length dk] 26) := ⟨_, rfl⟩
  obtain ⟨n0, n1, n2, n3, n4, hsQ, hbQ⟩ := box5 hwQ
  obtain ⟨wR, hwR⟩ : ∃ wR, wR = wQ.alloc (.cells #[.int .i64 0, .bool false, .string ⟨#[]⟩, .slice none 0 0, .slice none 0 0] 26) := ⟨_, rfl⟩
  have hxR : wR.heap[w.heap.size]? = some (.cells #[.int .i64 t.kind, .bool t.flag, str t.text, .slice ao t.items.length cap, .slice ak t.keys.length ck] 26 (0, 0)) := by
    rw [hwR, Below.heap_alloc _ _ _ (by omega), hwQ, Below.heap_alloc _ _ _ (by omega), hwP]; exact heap_alloc_new _ _
  have hyR : wR.heap[w.heap.size + 1]? = some (.cells #[.int .i64 x.kind, .bool x.flag, str x.text, .slice bi x.items.length di, .slice bk x.keys.length dk] 26 (0, 0)) := by
    rw [hwR, Below.heap_alloc _ _ _ (by omega), hwQ, ← hsP]; exact heap_alloc_new _ _
  have hnR : wR.heap[w.heap.size + 1 + 1]? = some (.cells #[.int .i64 0, .bool false, .string ⟨#[]⟩, .slice none 0 0, .slice none 0 0] 26 (0, 0)) := by
    rw [hwR, show w.heap.size + 1 + 1 = wQ.heap.size by omega]; exact heap_alloc_new _ _
  obtain ⟨_, _, _, _, _, hsR, hbR⟩ := box5 hwR
  have hbPR : Below w.heap.size w wR := (hbP.trans (hbQ.mono (by omega))).trans (hbR.mono (by omega))
  have hsz : wR.heap.size = w.heap.size + 3 := by omega
  have CS := search_keys t.keys _ key wR (hat.agg.elim fun _ h => by
    obtain ⟨vk', vs', he, _, h2, _⟩ := h
    cases he
    exact h2.mono hbPR) hris (by omega)
  obtain ⟨k0, k1, k2, k3, k4, _, _⟩ := cell_box5 hxR
  have hple := posK_le t.keys key
  have HXR := Lib.hid hxR
  have HYR := Lib.hid hyR
  have HNR := Lib.hid hnR
  have hP := Lib.hid hbPR
  have H5 := Lib.hid hOs.cells
  have H1 := Lib.hid (cells_one hOs)
  have HO1 := Lib.hid hO1
  have HO2 := Lib.hid hO2
  have HOs := Lib.hid hOs
  have HX := Lib.hid hx
  have HFN := Lib.hid hF
  have HFXN := Lib.hid hFx
  have HD := Lib.hid hd
  have HLT := Lib.hid hltF
  have HLX := Lib.hid hltX
  have HXL := Lib.hid hxl
  clear hxR hyR hnR hbPR hOs hO1 hO2 hx hF hFx hd hltF hltX hat h m0 m1 m2 m3 m4 n0 n1 n2 n3 n4 hbP hbQ hbR hxl k0 k1 k2 k3
  have HKK := Lib.hid hkl
  obtain ⟨p, hpe⟩ : ∃ p, posK t.keys key = p := ⟨_, rfl⟩
  rw [hpe] at CS hple
  cases hh : hasK t.keys key with
  | true =>
    have hpl : p < t.items.length := by
      have := (hasK_iff.1 hh).1
      omega
    have hput : putT t key x = .mk t.kind t.flag t.text (t.items.set p x) t.keys := by
      obtain ⟨k, b, tx, its, ks⟩ := t
      rw [putT, show hasK ks key = true from hh, if_pos rfl, show posK ks key = p from hpe]
      rfl
    rw [hput]
    rw [hh] at CS
    rcases HO2.out.1.2 with ⟨_, h0⟩ | ⟨g, cp, cur, hv, _, hg, g1, g2, g3, g4⟩
    · omega
    · injection hv with hv1 hv2 hv3
      subst hv1 hv3
      have hgF : g ∈ Fi := by rw [HO2.out.2]; simp [Value.ownBlock]
      have hglt : g < w.heap.size := HLT.out g (by simp [hgF])
      have hcs : p * 5 + 5 ≤ cur.size := by omega
      have HG := Lib.hid hg
      have HG3 := Lib.hid g3
      have HG4 := Lib.hid g4
      clear hput hh hpe hg g3 g4 hkl hris
      go_enter Tryd.func40, Tryd.ntmps40
      go_upto_region 1 with fail
      rw [← hwP, ← hwQ, ← hwR]
      clear hwP hwQ hwR
      go_wp2_with fail
      refine CS.mono ?_
      rintro e w1 ⟨rfl, hq1⟩
      have hq1s := hq1.size
      have e1 := (hq1.block w.heap.size (by omega)).trans HXR.out
      have e2 := (hq1.block (w.heap.size + 1) (by omega)).trans HYR.out
      have e3 := (hq1.block (w.heap.size + 1 + 1) (by omega)).trans HNR.out
      have hg1 : w1.heap[g]? = some (.cells cur 26 (0, 0)) := ((hq1.block g (by omega)).trans (hP.out.block g hglt)).trans HG.out
      obtain ⟨a0, a1, a2, a3, a4, _, _⟩ := cell_box5 e1
      obtain ⟨b0, b1, b2, b3, b4, _, _⟩ := cell_box5 e2
      obtain ⟨r0, f0⟩ := row_cells hg1 (o := p * 5) (by omega)
      obtain ⟨r1, f1⟩ := row_cells hg1 (o := p * 5 + 1) (by omega)
      obtain ⟨r2, f2⟩ := row_cells hg1 (o := p * 5 + 2) (by omega)
      obtain ⟨r3, f3⟩ := row_cells hg1 (o := p * 5 + 3) (by omega)
      obtain ⟨r4, f4⟩ := row_cells hg1 (o := p * 5 + 4) (by omega)
      have hpi' : (p : Int) < (t.items.length : Int) := by omega
      obtain ⟨w2, cur', hw2, hg2, hc2, hsc2, hsz2, hk2, q1, q2, q3⟩ := over_row hg1 (p * 5) (.int .i64 x.kind) (.bool x.flag) (str x.text) (.slice bi x.items.length di) (.slice bk x.keys.length dk) hcs
      have hne0 : w.heap.size ≠ g := by omega
      have hne1 : w.heap.size + 1 + 1 ≠ g := by omega
      have i1 := (hk2 _ hne0).trans e1
      have i3 := (hk2 _ hne1).trans e3
      obtain ⟨d0, d1, d2, d3, d4, _, _⟩ := cell_box5 i1
      obtain ⟨z0, z1, z2, z3, z4, y0, y1, y2, y3, y4⟩ := free5 i3
      obtain ⟨w5, hw5, hr5, hz5, hk5, hB5⟩ := put_box5 i3 (.int .i64 t.kind) (.bool t.flag) (.string ⟨t.text.toArray⟩) (.slice (some ⟨g, 0, none⟩) t.items.length cap) (.slice ak t.keys.length ck)
      obtain ⟨p0, p1, p2, p3, p4, _, _⟩ := cell_box5 hr5
      have hbw1 : Below w.heap.size w w1 := hP.out.trans (hq1.mono (by omega))
      have hs2 : Spares (Fk ++ (Fi ++ Fs)) w w2 := ⟨q1.trans hbw1.os, q2.trans hbw1.tape, q3.trans hbw1.output, by omega, fun k hk hn => (hk2 k (fun e => hn (by rw [e]; simp [hgF]))).trans (hbw1.block k hk)⟩
      have hs5 := hs2.low (hB5 w.heap.size w2 (by omega) (Below.refl _ _)) (Nat.le_refl _)
      have hkeep : ∀ b, b < w.heap.size → b ≠ g → w5.heap[b]? = w.heap[b]? := fun b hb hne => ((hk5 b (by omega)).trans (hk2 b hne)).trans (hbw1.block b hb)
      have hfin : PutPost (.mk t.kind t.flag t.text (t.items.set p x) t.keys) (Fk ++ (Fi ++ Fs)) Fx w (.returned (.agg #[.int .i64 t.kind, .bool t.flag, str t.text, .slice (some ⟨g, 0, none⟩) t.items.length cap, .slice ak t.keys.length ck])) w5 := by
        obtain ⟨G, O, H, rfl, hov⟩ := HOs.out.over hpl
        have hn := HFN.out
        have hgn : ∀ b, b ∈ Fk ∨ b ∈ (G ++ (O ++ H)) → b ≠ g := fun b hb e => by
          subst e
          rw [List.nodup_append, List.nodup_append] at hn
          rcases hb with hb | hb
          · exact hn.2.2 b hb b (by simp [hgF]) rfl
          · exact hn.2.1.2.2 b hgF b hb rfl
        refine ⟨_, Fk ++ (Fi ++ (G ++ (Fx ++ H))), rfl, ?_, ?_, ?_, hs5⟩
        · rw [OwnVal]
          refine ⟨.slice (some ⟨g, 0, none⟩) t.items.length cap, .slice ak t.keys.length ck, xs.set p (.agg #[.int .i64 x.kind, .bool x.flag, str x.text, .slice bi x.items.length di, .slice bk x.keys.length dk]), Fk, Fi, G ++ (Fx ++ H), rfl, hk, HO1.out.keep (fun b hb => hkeep b (HLT.out b (by simp [hb])) (hgn b (.inl hb))), ?_, by simp [HXL.out], rfl, hov (fun b hb => hkeep b (HLT.out b (by simp at hb ⊢; rcases hb with hb | hb | hb <;> simp [hb])) (hgn b (.inr hb))) (HX.out.keep fun b hb => hkeep b (HLX.out b hb) (fun e => HD.out g (by simp [hgF]) b hb e.symm))⟩
          rw [List.length_set]
          have hlen : (xs.set p (Value.agg #[.int .i64 x.kind, .bool x.flag, str x.text, .slice bi x.items.length di, .slice bk x.keys.length dk])).length = t.items.length := by simp [HXL.out]
          refine ⟨⟨?_, .inr ⟨g, cap, cur', rfl, Nat.zero_le _, (hk5 g (by omega)).trans hg2, g1, g2, by rw [hsc2, HG3.out], over_vals HG4.out HXL.out H5.out hpl (by rw [HG3.out]; omega) hc2⟩⟩, HO2.out.2⟩
          rw [cellsV_len, hlen]
          intro y hy
          rcases List.mem_or_eq_of_mem_set hy with hy | rfl
          · exact H5.out y hy
          · rfl
        · refine nodup_put (m := w.heap.size) (m1 := w.heap.size) HFN.out HFXN.out HD.out ?_ ?_ (fun b hb => .inl hb) (fun b hb => .inl hb) HLT.out HLX.out (Nat.le_refl _)
          · exact HO1.out.nodup
          · exact HO2.out.nodup
        · intro b hb
          simp only [List.mem_append] at hb ⊢
          rcases hb with hb | hb | hb | hb | hb <;> simp [hb]
      have HF := Lib.hid hfin
      have HW := Lib.hid hw5
      clear hfin hw5 hr5 hk5 hB5 hs5 hs2 hkeep hk2 hbw1 i1 i3 e1 e2 e3 hg1 hg2 hc2 hsc2 q1 q2 q3
      go_upto_region 4 with fail
      rw [← hw2]
      clear hw2 r0 r1 r2 r3 r4 f0 f1 f2 f3 f4 a0 a1 a2 a3 a4 b0 b1 b2 b3 b4
      go_wp2
      rw [← HW.out]
      refine bodyPost_ret (v := .agg #[.int .i64 t.kind, .bool t.flag, str t.text, .slice (some ⟨g, 0, none⟩) t.items.length cap, .slice ak t.keys.length ck]) (by simp [results, go_sem, p0, p1, p2, p3, p4]) rfl ?_
      exact HF.out
  | false =>
    have hput : putT t key x = .mk t.kind t.flag t.text (t.items.take p ++ x :: t.items.drop p) (t.keys.take p ++ key :: t.keys.drop p) := by
      obtain ⟨k, b, tx, its, ks⟩ := t
      rw [putT, show hasK ks key = false from hh, if_neg Bool.false_ne_true, show posK ks key = p from hpe]
      rfl
    rw [hput]
    rw [hh] at CS
    have hkF : ∀ b ∈ Fk ++ Fi, b < w.heap.size := fun b hb => HLT.out b (by simp at hb ⊢; rcases hb with hb | hb <;> simp [hb])
    have hdki : ∀ a ∈ Fk, ∀ b ∈ Fi, a ≠ b := HO1.out.apart HO2.out (by decide)
    have hpi : p ≤ t.items.length := by omega
    have hk6 : t.keys.length ≤ 1000000 := by omega
    clear hput hh hpe hris hkl
    go_enter Tryd.func40, Tryd.ntmps40
    go_upto_region 1 with fail
    rw [← hwP, ← hwQ, ← hwR]
    clear hwP hwQ hwR
    go_wp2_with fail
    refine CS.mono ?_
    rintro e w1 ⟨rfl, hq1⟩
    have hq1s := hq1.size
    have e1 := (hq1.block w.heap.size (by omega)).trans HXR.out
    have e2 := (hq1.block (w.heap.size + 1) (by omega)).trans HYR.out
    have e3 := (hq1.block (w.heap.size + 1 + 1) (by omega)).trans HNR.out
    have hbw1 : Below w.heap.size w w1 := hP.out.trans (hq1.mono (by omega))
    have hO1' := HO1.out.keep fun b hb => hbw1.block b (hkF b (by simp [hb]))
    have hO2' := HO2.out.keep fun b hb => hbw1.block b (hkF b (by simp [hb]))
    clear CS
    go_upto_region 5 with fail
    refine region_put _ w1 _ w.heap.size (w.heap.size + 1) p t.keys.length t.items.length key t.keys xs Fk Fi (.int .i64 t.kind) (.bool t.flag) (str t.text) (.int .i64 x.kind) (.bool x.flag) (str x.text) (.slice bi x.items.length di) (.slice bk x.keys.length dk) ak ao ck cap
      rfl rfl rfl rfl rfl e1 e2 hO1' hO2' hdki (fun hm => by have := hkF _ hm; omega) (fun hm => by have := hkF _ hm; omega) rfl hple hpi hk6 hil H5.out H1.out (by intro v hv; simp [Value.cells] at hv; rcases hv with rfl | rfl | rfl | rfl | rfl <;> rfl) ?_
    intro w2 s27 s33 vk' vi' hG1 hG2 hS2
    obtain ⟨Fk', hK1, hK2⟩ := hG1
    obtain ⟨Fi', hI1, hI2⟩ := hG2
    obtain ⟨ak', ck', rfl, _, _, _⟩ := hK1.form
    obtain ⟨ao', cap', rfl, _, _, _⟩ := hI1.form
    have hs2 := hS2.size
    have hnq : ∀ b, w.heap.size ≤ b → b ∉ Fk ++ Fi := fun b hb hm => by have := hkF b hm; omega
    have i1 := (hS2.block w.heap.size (by omega) (hnq _ (by omega))).trans e1
    have i3 := (hS2.block (w.heap.size + 1 + 1) (by omega) (hnq _ (by omega))).trans e3
    obtain ⟨w4, hw4, hr4, hz4, hk4, hB4⟩ := set_box5 i1 (.slice ao' (t.items.length + 1) cap') (.slice ak' (t.keys.length + 1) ck')
    obtain ⟨d0, d1, d2, d3, d4, _, _⟩ := cell_box5 hr4
    have j3 := (hk4 (w.heap.size + 1 + 1) (by omega)).trans i3
    obtain ⟨z0, z1, z2, z3, z4, y0, y1, y2, y3, y4⟩ := free5 j3
    obtain ⟨w5, hw5, hr5, hz5, hk5, hB5⟩ := put_box5 j3 (.int .i64 t.kind) (.bool t.flag) (.string ⟨t.text.toArray⟩) (.slice ao' (t.items.length + 1) cap') (.slice ak' (t.keys.length + 1) ck')
    obtain ⟨p0, p1, p2, p3, p4, _, _⟩ := cell_box5 hr5
    have hs5 : Spares (Fk ++ (Fi ++ Fs)) w w5 := by
      refine ((Spares.of_below hbw1).trans (hS2.sub fun k hk _ => ?_)).low (hB5 w.heap.size w2 (by omega) (hB4 w.heap.size w2 (by omega) (Below.refl _ _))) (Nat.le_refl _)
      simp at hk ⊢
      rcases hk with hk | hk <;> simp [hk]
    have hkeep2 : ∀ b, b < w.heap.size ∨ w1.heap.size ≤ b → w5.heap[b]? = w2.heap[b]? := fun b hb => (hk5 b (by omega)).trans (hk4 b (by omega))
    have hkeep : ∀ b, b < w.heap.size → b ∉ Fk ++ Fi → w5.heap[b]? = w.heap[b]? := fun b hb hn => ((hkeep2 b (.inl hb)).trans (hS2.block b (by omega) hn)).trans (hbw1.block b hb)
    have hFk' : ∀ b ∈ Fk', b ∈ Fk ∨ w1.heap.size ≤ b := fun b hb => by
      rcases hK2 with rfl | ⟨c, rfl, hc⟩
      · exact .inl hb
      · simp at hb; subst hb; exact .inr hc
    have hFi' : ∀ b ∈ Fi', b ∈ Fi ∨ w1.heap.size ≤ b := fun b hb => by
      rcases hI2 with rfl | ⟨c, rfl, hc⟩
      · exact .inl hb
      · simp at hb; subst hb; exact .inr hc
    have hfin : PutPost (.mk t.kind t.flag t.text (t.items.take p ++ x :: t.items.drop p) (t.keys.take p ++ key :: t.keys.drop p)) (Fk ++ (Fi ++ Fs)) Fx w (.returned (.agg #[.int .i64 t.kind, .bool t.flag, str t.text, .slice ao' (t.items.length + 1) cap', .slice ak' (t.keys.length + 1) ck'])) w5 := by
      obtain ⟨G, H, rfl, hov⟩ := HOs.out.put p
      have hn := HFN.out
      have hsn : ∀ b, b ∈ G ++ H → b ∉ Fk ++ Fi := fun b hb hm => by
        rw [List.nodup_append, List.nodup_append] at hn
        rcases List.mem_append.1 hm with hm | hm
        · exact hn.2.2 b hm b (by simp only [List.mem_append] at hb ⊢; exact .inr hb) rfl
        · exact hn.2.1.2.2 b hm b hb rfl
      refine ⟨_, Fk' ++ (Fi' ++ (G ++ (Fx ++ H))), rfl, ?_, ?_, ?_, hs5⟩
      · rw [OwnVal]
        have l1 : (t.keys.take p ++ key :: t.keys.drop p).length = t.keys.length + 1 := ins_len _ _ hple
        have l2 : (t.items.take p ++ x :: t.items.drop p).length = t.items.length + 1 := ins_len _ _ hpi
        have l3 : (xs.take p ++ Value.agg #[.int .i64 x.kind, .bool x.flag, str x.text, .slice bi x.items.length di, .slice bk x.keys.length dk] :: xs.drop p).length = t.items.length + 1 := by rw [ins_len _ _ (by rw [HXL.out]; omega), HXL.out]
        rw [l1, l2]
        refine ⟨.slice ao' (t.items.length + 1) cap', .slice ak' (t.keys.length + 1) ck', _, Fk', Fi', G ++ (Fx ++ H), rfl, hk, hK1.keep (fun b hb => hkeep2 b ?_), hI1.keep (fun b hb => hkeep2 b ?_), l3, rfl, hov (fun b hb => hkeep b (HLT.out b (by simp at hb ⊢; rcases hb with hb | hb <;> simp [hb])) (hsn b hb)) (HX.out.keep fun b hb => hkeep b (HLX.out b hb) (fun hm => HD.out b (by simp only [List.mem_append] at hm ⊢; rcases hm with hm | hm <;> simp [hm]) b hb rfl))⟩
        · rcases hFk' b hb with h | h
          · exact .inl (hkF b (by simp [h]))
          · exact .inr h
        · rcases hFi' b hb with h | h
          · exact .inl (hkF b (by simp [h]))
          · exact .inr h
      · exact nodup_put2 (m := w1.heap.size) HFN.out HFXN.out HD.out hK1.nodup hI1.nodup (hK1.apart hI1 (by decide)) hFk' hFi' (fun b hb => Nat.lt_of_lt_of_le (HLT.out b hb) hbw1.size) (fun b hb => Nat.lt_of_lt_of_le (HLX.out b hb) hbw1.size)
      · intro b hb
        have hws := hbw1.size
        simp only [List.mem_append] at hb ⊢
        rcases hb with hb | hb | hb | hb | hb
        · rcases hFk' b hb with h | h
          · simp [h]
          · right; right; omega
        · rcases hFi' b hb with h | h
          · simp [h]
          · right; right; omega
        · simp [hb]
        · simp [hb]
        · simp [hb]
    have HF := Lib.hid hfin
    have HW := Lib.hid hw5
    clear hfin hw5 hr5 hk5 hB5 hs5 hkeep hkeep2 hk4 hB4 hbw1 i1 i3 j3 e1 e2 e3 hr4 hK1 hK2 hI1 hI2 hFk' hFi' hS2 hnq hkF hdki hO1' hO2'
    rw [← hw4]
    clear hw4
    simp only [putFrame, Act.put, List.setIfInBounds_toArray, List.set_cons_succ, List.set_cons_zero]
    go_wp2
    rw [← HW.out]
    refine bodyPost_ret (v := .agg #[.int .i64 t.kind, .bool t.flag, str t.text, .slice ao' (t.items.length + 1) cap', .slice ak' (t.keys.length + 1) ck']) (by simp [results, go_sem, p0, p1, p2, p3, p4]) rfl ?_
    exact HF.out

end Go.Proofs.YtgbalofdfdafmaaDoor
