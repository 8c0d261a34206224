/- The walk of the document's Put of an object, and of any value. Printed by genputu.py. -/
import Derived.Test.YtpbipngnoklmcaaGreatDoorMDropP
namespace Go.Proofs.YtpbipngnoklmcaaGreatDoor
open Go.RowKit
set_option maxRecDepth 100000
attribute [local go_sem] str_size str_toList str_get

theorem insA_len (key : List UInt8) : ∀ (l : List (List UInt8)), (insA key l).length ≤ l.length + 1
  | [] => by simp [insA]
  | a :: r => by
    rw [insA]
    have := insA_len key r
    split <;> simp <;> omega
theorem insT_len (key : List UInt8) (x : VT) : ∀ (l : List (List UInt8)) (s : List VT), (insT key x l s).length ≤ s.length + 1
  | [], _ => by simp [insT]
  | _ :: _, [] => by simp [insT]
  | a :: r, b :: s => by
    rw [insT]
    have := insT_len key x r s
    split <;> simp <;> omega
theorem keptT_same (key : List UInt8) : ∀ (l : List (List UInt8)) (s : List VT), l.length ≤ s.length → (keptT key l s).length = (keptK key l).length
  | [], _, _ => by simp [keptT, keptK]
  | _ :: _, [], h => by simp at h
  | a :: r, b :: s, h => by
    rw [keptT, keptK]
    have := keptT_same key r s (by simpa using h)
    split <;> simp [this]

theorem RowsOf.key {wv w0 : World} {ks : List (List UInt8)} {ts : List VT} {ak ai : Option Addr} {nk ck ni ci : Nat} {w' : World} (h : RowsOf wv w0 ks ts (.slice ak nk ck) (.slice ai ni ci) w') {i : Nat} (hi : i < ks.length) :
    ∃ b off, ak = some ⟨b, off, none⟩ ∧ w0.heap.size ≤ b ∧ b < w'.heap.size ∧ w'.cell? ⟨b, off + i, none⟩ = some (str ks[i]) := by
  obtain ⟨xs, h2, _, _, _⟩ := h
  have hs := OwnS.strs ⟨ownsRow_zero h2, rfl⟩
  obtain ⟨ao, cap, hv, _, _⟩ := id hs
  injection hv with e1 e2 e3
  subst e1; subst e2; subst e3
  obtain ⟨b, off, rfl, hb, hc⟩ := StrsAt.get hs hi
  rw [getD_at ks [] hi] at hc
  have hl := h2.lt b (by simp [Value.ownBlock])
  exact ⟨b, off, rfl, hl.1, hb, hc⟩
theorem RowsOf.item {wv w0 : World} {ks : List (List UInt8)} {ts : List VT} {ak ai : Option Addr} {nk ck ni ci : Nat} {w' : World} (h : RowsOf wv w0 ks ts (.slice ak nk ck) (.slice ai ni ci) w') {i : Nat} (hi : i < ts.length) :
    ∃ b off aj cj al cl, ai = some ⟨b, off, none⟩ ∧ w0.heap.size ≤ b ∧ b < w'.heap.size ∧ ValAt wv ts[i] (.agg #[.int .i64 ts[i].kind, .bool ts[i].flag, str ts[i].text, .slice aj ts[i].items.length cj, .slice al ts[i].keys.length cl]) ∧
      w'.cell? ⟨b, off + i * 5, none⟩ = some (.int .i64 ts[i].kind) ∧ w'.cell? ⟨b, off + i * 5 + 1, none⟩ = some (.bool ts[i].flag) ∧ w'.cell? ⟨b, off + i * 5 + 2, none⟩ = some (str ts[i].text) ∧ w'.cell? ⟨b, off + i * 5 + 3, none⟩ = some (.slice aj ts[i].items.length cj) ∧ w'.cell? ⟨b, off + i * 5 + 4, none⟩ = some (.slice al ts[i].keys.length cl) := by
  obtain ⟨xs, _, h3, hl, he⟩ := h
  have h5 : ∀ x ∈ xs, ∃ c0 c1 c2 c3 c4, x = .agg #[c0, c1, c2, c3, c4] := fun x hx => by
    obtain ⟨i, hi, rfl⟩ := List.getElem_of_mem hx
    obtain ⟨a, b, c, d, e⟩ := (he i (by rw [← hl]; exact hi) hi).form
    exact ⟨_, _, _, _, _, e⟩
  obtain ⟨ao, cap, hv, _, hc⟩ := OwnS.rows (xs := xs) ⟨ownsRow_zero h3, rfl⟩ hl h5
  injection hv with e1 e2 e3
  subst e1; subst e2; subst e3
  obtain ⟨b, off, rfl, hb, hcell⟩ := hc (by omega)
  have hx : i < xs.length := by omega
  obtain ⟨c0, c1, c2, c3, c4, e, g0, g1, g2, g3, g4⟩ := hcell i hi
  have hv := he i hi hx
  have e' : xs[i] = .agg #[c0, c1, c2, c3, c4] := by simpa [List.getD, hx] using e
  rw [e'] at hv
  obtain ⟨aj, cj, al, cl, hf⟩ := hv.form
  injection hf with hf
  injection hf with hf
  simp only [List.cons.injEq, and_true] at hf
  obtain ⟨rfl, rfl, rfl, rfl, rfl⟩ := hf
  have hl := h3.lt b (by simp [Value.ownBlock])
  exact ⟨b, off, aj, cj, al, cl, rfl, hl.1, hb, hv, g0, g1, g2, g3, g4⟩

set_option maxHeartbeats 8000000 in
/-- Of an object. -/
theorem put_own (t x : VT) (v vx : Value) (key : List UInt8) (w wv : World) (h : ObjAt wv w t v) (hx : ValAt wv x vx) (h6 : t.kind = 6) (hkl : t.keys.length ≤ t.items.length) (hl6 : t.keys.length ≤ 1000000) :
    Calls Tryz.prog 24 #[v, str key, vx] w (DropOwn wv (endA key (keptK key t.keys)) (endT key x (keptK key t.keys) (keptT key t.keys t.items)) w) := by
  obtain ⟨i1, hi1, hz1, hzs1, hzb1⟩ := info_parts infoS
  obtain ⟨i2, hi2, hz2, hzs2, hzb2⟩ := info_parts infoVal
  have CD := fun W (hW : Below w.heap.size w W) => drop_own t v key W wv (h.mono hW) hkl hl6 h6
  have hTK := keptT_same key t.keys t.items hkl
  have hKl := keptK_len key t.keys
  obtain ⟨K, hK⟩ : ∃ K, keptK key t.keys = K := ⟨_, rfl⟩
  obtain ⟨T, hT⟩ : ∃ T, keptT key t.keys t.items = T := ⟨_, rfl⟩
  rw [hK, hT] at CD hTK ⊢
  rw [hK] at hKl
  clear hK hT
  obtain ⟨ti, tc, tk, td, rfl, _⟩ := h
  obtain ⟨xi, xc, xk, xd, hxe⟩ := hx.form
  subst hxe
  have hk6 : (t.kind == 6) = true := by simpa using h6
  obtain ⟨wP, hwP⟩ : ∃ wP, wP = w.alloc (.cells #[.int .i64 t.kind, .bool t.flag, str t.text, .slice ti t.items.length tc, .slice tk t.keys.length td] 41) := ⟨_, rfl⟩
  obtain ⟨m0, m1, m2, m3, m4, hsP, hbP⟩ := box5 hwP
  obtain ⟨wQ, hwQ⟩ : ∃ wQ, wQ = wP.alloc (.cells #[.int .i64 x.kind, .bool x.flag, str x.text, .slice xi x.items.length xc, .slice xk x.keys.length xd] 41) := ⟨_, rfl⟩
  obtain ⟨n0, n1, n2, n3, n4, hsQ, hbQ⟩ := box5 hwQ
  obtain ⟨wR, hwR⟩ : ∃ wR, wR = wQ.alloc (.cells #[.int .i64 0, .bool false, .string ⟨#[]⟩, .slice none 0 0, .slice none 0 0] 41) := ⟨_, rfl⟩
  have hnP : wP.heap[w.heap.size]? = some (.cells #[.int .i64 t.kind, .bool t.flag, str t.text, .slice ti t.items.length tc, .slice tk t.keys.length td] 41 (0, 0)) := by rw [hwP]; exact heap_alloc_new _ _
  have hnR : wR.heap[w.heap.size + 1 + 1]? = some (.cells #[.int .i64 0, .bool false, .string ⟨#[]⟩, .slice none 0 0, .slice none 0 0] 41 (0, 0)) := by
    rw [hwR, ← hsP, ← hsQ]; exact heap_alloc_new _ _
  obtain ⟨_, _, _, _, _, hsR, hbR⟩ := box5 hwR
  obtain ⟨wS, hwS⟩ : ∃ wS, wS = wR.alloc (.cells #[.int .i64 6, .bool false, .string ⟨#[]⟩, .slice none 0 0, .slice none 0 0] 41) := ⟨_, rfl⟩
  have hnS : wS.heap[w.heap.size + 1 + 1 + 1]? = some (.cells #[.int .i64 6, .bool false, .string ⟨#[]⟩, .slice none 0 0, .slice none 0 0] 41 (0, 0)) := by
    rw [hwS, ← hsP, ← hsQ, ← hsR]; exact heap_alloc_new _ _
  obtain ⟨_, _, _, _, _, hsS, hbS⟩ := box5 hwS
  have hb1 : Below wP.heap.size wP wS := (hbQ.trans (hbR.mono (by omega))).trans (hbS.mono (by omega))
  have hb2 : Below wQ.heap.size wQ wS := hbR.trans (hbS.mono (by omega))
  have hbW : Below w.heap.size w wS := hbP.trans (hb1.mono (by omega))
  have p0 := (hb1.cell (p := ⟨w.heap.size, 0, none⟩) (by show w.heap.size < wP.heap.size; omega)).trans m0
  have p1 := (hb1.cell (p := ⟨w.heap.size, 1, none⟩) (by show w.heap.size < wP.heap.size; omega)).trans m1
  have p2 := (hb1.cell (p := ⟨w.heap.size, 2, none⟩) (by show w.heap.size < wP.heap.size; omega)).trans m2
  have p3 := (hb1.cell (p := ⟨w.heap.size, 3, none⟩) (by show w.heap.size < wP.heap.size; omega)).trans m3
  have p4 := (hb1.cell (p := ⟨w.heap.size, 4, none⟩) (by show w.heap.size < wP.heap.size; omega)).trans m4
  have hnS0 := (hb1.block w.heap.size (by omega)).trans hnP
  have hnS2 := (hbS.block (w.heap.size + 1 + 1) (by omega)).trans hnR
  have xs0 : ∀ o, wS.cell? ⟨w.heap.size + 1, o, none⟩ = wQ.cell? ⟨w.heap.size + 1, o, none⟩ := fun o => hb2.cell (p := ⟨w.heap.size + 1, o, none⟩) (by show w.heap.size + 1 < wQ.heap.size; omega)
  rw [hsP] at n0 n1 n2 n3 n4
  have hzS : wS.heap.size = w.heap.size + 1 + 1 + 1 + 1 := by omega
  have CDD := CD wS hbW
  have HX := Lib.hid hx
  have HN0 := Lib.hid hnS0
  have HN2 := Lib.hid hnS2
  have HNS := Lib.hid hnS
  have HXS : Hid (wS.cell? ⟨w.heap.size + 1, 0, none⟩ = some (.int .i64 x.kind) ∧ wS.cell? ⟨w.heap.size + 1, 1, none⟩ = some (.bool x.flag) ∧ wS.cell? ⟨w.heap.size + 1, 2, none⟩ = some (str x.text) ∧ wS.cell? ⟨w.heap.size + 1, 3, none⟩ = some (.slice xi x.items.length xc) ∧ wS.cell? ⟨w.heap.size + 1, 4, none⟩ = some (.slice xk x.keys.length xd)) :=
    ⟨(xs0 0).trans n0, (xs0 1).trans n1, (xs0 2).trans n2, (xs0 3).trans n3, (xs0 4).trans n4⟩
  obtain ⟨_, _, _, _, _, f0, f1, f2, f3, f4⟩ := free5 hnS0
  have HZS := Lib.hid hzS
  clear CD hx h6 hnS hnR hnP hnS0 hnS2 m0 m1 m2 m3 m4 n0 n1 n2 n3 n4 xs0 hb1 hb2 hsP hsQ hsR hsS hbP hbQ hbR hbS hzS
  have mixed : Tryz.prog.follows .mixedOrders = true := by kernel_rfl
  have hTl : T.length ≤ t.keys.length := by omega
  replace hTK : Hid (T.length = K.length) := hTK
  go_enter Tryz.func24, Tryz.ntmps24
  go_upto_region 2 with fail
  rw [← hwP, ← hwQ, ← hwR, ← hwS]
  clear hwP hwQ hwR hwS
  go_wp2_with fail
  refine CDD.mono ?_
  rintro e wD ⟨vk, vi, rfl, hrows, hbD⟩
  clear CDD
  have hrows0 := hrows
  obtain ⟨xs0, hr1, hr2, _, _⟩ := hrows0
  obtain ⟨kk, kc, rfl⟩ := slice_of hr1
  obtain ⟨ii, ic, rfl⟩ := slice_of hr2
  have hzD := hbD.size
  have hzS := HZS.out
  have hnD0 := (hbD.block w.heap.size (by omega)).trans HN0.out
  obtain ⟨_, _, _, _, _, j0, j1, j2, j3, j4⟩ := free5 hnD0
  obtain ⟨wE, hwE, hrE, hzE, hkE, hBE⟩ := put_box5 hnD0 (.int .i64 6) (.bool false) (.string ⟨#[]⟩) (.slice ii T.length ic) (.slice kk K.length kc)
  obtain ⟨u0, u1, u2, u3, u4, _, _⟩ := cell_box5 hrE
  have hbE : Below w.heap.size w wE := hBE _ _ (Nat.le_refl _) (hbW.trans (hbD.mono (by omega)))
  have hnE2 := (hkE (w.heap.size + 1 + 1) (by omega)).trans ((hbD.block _ (by omega)).trans HN2.out)
  have hnES := (hkE (w.heap.size + 1 + 1 + 1) (by omega)).trans ((hbD.block _ (by omega)).trans HNS.out)
  have hxE : ∀ j, wE.cell? ⟨w.heap.size + 1, j, none⟩ = wS.cell? ⟨w.heap.size + 1, j, none⟩ := fun j => by
    have e : wE.heap[w.heap.size + 1]? = wS.heap[w.heap.size + 1]? := (hkE (w.heap.size + 1) (by omega)).trans (hbD.block _ (by omega))
    simp only [World.cell?, e]
  have HXB : ∀ W, Spares [w.heap.size + 1 + 1 + 1] wE W → W.cell? ⟨w.heap.size + 1, 0, none⟩ = some (.int .i64 x.kind) ∧ W.cell? ⟨w.heap.size + 1, 1, none⟩ = some (.bool x.flag) ∧ W.cell? ⟨w.heap.size + 1, 2, none⟩ = some (str x.text) ∧ W.cell? ⟨w.heap.size + 1, 3, none⟩ = some (.slice xi x.items.length xc) ∧ W.cell? ⟨w.heap.size + 1, 4, none⟩ = some (.slice xk x.keys.length xd) := fun W hW => by
    have g := fun j => (hW.cell (p := ⟨w.heap.size + 1, j, none⟩) (by show w.heap.size + 1 < wE.heap.size; omega) (by simp)).trans (hxE j)
    obtain ⟨a0, a1, a2, a3, a4⟩ := HXS.out
    exact ⟨(g 0).trans a0, (g 1).trans a1, (g 2).trans a2, (g 3).trans a3, (g 4).trans a4⟩
  have hkE' : ∀ b, wS.heap.size ≤ b → wE.heap[b]? = wD.heap[b]? := fun b hb => hkE b (by omega)
  have HKY : ∀ i (hi : i < K.length), ∃ b off, kk = some ⟨b, off, none⟩ ∧ wS.heap.size ≤ b ∧ b < wE.heap.size ∧ wE.cell? ⟨b, off + i, none⟩ = some (str K[i]) := fun i hi => by
    obtain ⟨b, off, e, l1, l2, c⟩ := hrows.key hi
    exact ⟨b, off, e, l1, by omega, by simp only [World.cell?, hkE' b l1] at c ⊢; exact c⟩
  have HIT : ∀ i (hi : i < T.length), ∃ b off aj cj al cl, ii = some ⟨b, off, none⟩ ∧ wS.heap.size ≤ b ∧ b < wE.heap.size ∧ ValAt wv T[i] (.agg #[.int .i64 T[i].kind, .bool T[i].flag, str T[i].text, .slice aj T[i].items.length cj, .slice al T[i].keys.length cl]) ∧
      wE.cell? ⟨b, off + i * 5, none⟩ = some (.int .i64 T[i].kind) ∧ wE.cell? ⟨b, off + i * 5 + 1, none⟩ = some (.bool T[i].flag) ∧ wE.cell? ⟨b, off + i * 5 + 2, none⟩ = some (str T[i].text) ∧ wE.cell? ⟨b, off + i * 5 + 3, none⟩ = some (.slice aj T[i].items.length cj) ∧ wE.cell? ⟨b, off + i * 5 + 4, none⟩ = some (.slice al T[i].keys.length cl) := fun i hi => by
    obtain ⟨b, off, aj, cj, al, cl, e, l1, l2, hv, c0, c1, c2, c3, c4⟩ := hrows.item hi
    refine ⟨b, off, aj, cj, al, cl, e, l1, by omega, hv, ?_, ?_, ?_, ?_, ?_⟩ <;> (simp only [World.cell?, hkE' b l1]; assumption)
  have A0 : AccE wv wE (w.heap.size + 1 + 1 + 1) [] [] wE :=
    ⟨_, _, [], hnES, World.ownsRow_nil _ _ _ _, World.ownsRow_nil _ _ _ _, rfl, (fun i h => absurd h (by simp)), (fun a h => by simp [Value.ownBlock] at h), Spares.refl _ _, by omega⟩
  have HA0 : Hid (AccE wv wE (w.heap.size + 1 + 1 + 1) (insA key (K.take 0)) (insT key x (K.take 0) (T.take 0)) wE) := A0
  have HE2 := Lib.hid hnE2
  have XB := Lib.hid HXB
  have KY := Lib.hid HKY
  have IT := Lib.hid HIT
  have HKE := Lib.hid hwE
  have HTK := hTK
  have hzW : w.heap.size + 1 + 1 + 1 < wE.heap.size := by omega
  have hP0 : Hid (insQ key (K.take 0) = false) := rfl
  clear hTK A0 hnE2 hnES hxE HXB hkE hkE' HKY HIT hrE hBE hrows hr1 hr2 hnD0 HN0 HN2 HNS HXS hwE p0 p1 p2 p3 p4 f0 f1 f2 f3 f4 hzS
  go_upto_region 5 with fail
  rw [← HKE.out]
  clear HKE hbD hzD hzE j0 j1 j2 j3 j4
  go_wp2
  go_loopg [8, 20] K.length (fun g v8 v20 wr => ∃ i : Nat, i + g = K.length ∧ v8 = .bool (insQ key (K.take i)) ∧ v20 = .int .i64 i ∧ Hid (AccE wv wE (w.heap.size + 1 + 1 + 1) (insA key (K.take i)) (insT key x (K.take i) (T.take i)) wr))
  case atStart => exact ⟨0, by omega, by rw [hP0.out], rfl, HA0⟩
  case round =>
    clear HA0 hP0
    obtain ⟨i, hig, rfl, rfl, HA⟩ := hrel
    have hl1 := insA_len key (K.take i)
    have hl2 := insT_len key x (K.take i) (T.take i)
    rw [List.length_take] at hl1 hl2
    cases gk with
    | zero =>
      obtain rfl : i = K.length := by omega
      have hTK := HTK.out
      have HA1 := HA.out
      rw [List.take_length, ← hTK, List.take_length] at HA1
      rw [List.take_length] at hl1 hl2 ⊢
      rw [← hTK, List.take_length] at hl2
      clear HA
      have HE : Hid (endA key K = if insQ key K = true then insA key K else insA key K ++ [key]) := rfl
      have HF : Hid (endT key x K T = if insQ key K = true then insT key x K T else insT key x K T ++ [x]) := rfl
      obtain ⟨K1, hK1⟩ : ∃ K1, insA key K = K1 := ⟨_, rfl⟩
      obtain ⟨T1, hT1⟩ : ∃ T1, insT key x K T = T1 := ⟨_, rfl⟩
      obtain ⟨p, hp⟩ : ∃ p, insQ key K = p := ⟨_, rfl⟩
      rw [hK1, hT1] at HA1
      rw [hK1, hp] at HE
      rw [hT1, hp] at HF
      rw [hK1] at hl1
      rw [hT1] at hl2
      rw [hp]
      clear hK1 hT1 hp
      obtain ⟨KE, hKE⟩ : ∃ KE, endA key K = KE := ⟨_, rfl⟩
      obtain ⟨TE, hTE⟩ : ∃ TE, endT key x K T = TE := ⟨_, rfl⟩
      rw [hKE] at HE
      rw [hTE] at HF
      have HKE2 := Lib.hid hKE
      have HTE2 := Lib.hid hTE
      clear hKE hTE KY IT u0 u1 u2 u3 u4 hTK
      obtain ⟨vk, vi, xs, A⟩ := HA1
      obtain ⟨ak1, ck1, ai1, ci1, rfl, rfl⟩ := A.form
      cases p with
      | true =>
        have hKE : KE = K1 := by rw [HE.out]; rfl
        have hTE : TE = T1 := by rw [HF.out]; rfl
        subst hKE
        subst hTE
        obtain ⟨g0, g1, g2, g3, g4, _, _⟩ := cell_box5 A.box
        have hr2 := (A.blk (b := w.heap.size + 1 + 1) (by omega) (by omega)).trans HE2.out
        obtain ⟨z0, z1, z2, z3, z4, j0, j1, j2, j3, j4⟩ := free5 hr2
        obtain ⟨w7, hw7, hr7, hz7, hk7, hB7⟩ := put_box5 hr2 (.int .i64 6) (.bool false) (.string ⟨#[]⟩) (.slice ai1 TE.length ci1) (.slice ak1 KE.length ck1)
        obtain ⟨q0, q1, q2, q3, q4, _, _⟩ := cell_box5 hr7
        have hB := hB7 _ _ (by omega) (A.below hbE (by omega))
        have HR0 := A.rows (w' := w7) (wl := w) (fun b hb => hk7 b (by omega)) (by omega)
        have HR : Hid (RowsOf wv w (endA key K) (endT key x K T) (.slice ak1 KE.length ck1) (.slice ai1 TE.length ci1) w7) := by rw [HKE2.out, HTE2.out]; exact HR0
        clear HR0
        have HW := Lib.hid hw7
        clear hw7 hr7 hk7 hB7 hr2 HE2 A HE HF
        go_wp2
        rw [← HW.out]
        exact bodyPost_ret (v := .agg #[.int .i64 6, .bool false, .string ⟨#[]⟩, .slice ai1 TE.length ci1, .slice ak1 KE.length ck1]) (by simp [results, go_sem, q0, q1, q2, q3, q4]) rfl ⟨_, _, rfl, HR.out, hB⟩
      | false =>
        have hKE : KE = K1 ++ [key] := by rw [HE.out]; rfl
        have hTE : TE = T1 ++ [x] := by rw [HF.out]; rfl
        subst hKE
        subst hTE
        have HA := Lib.hid A
        clear A HE HF
        obtain ⟨_, _, _, _, d4, f3, f4⟩ := cell_box5 HA.out.box
        have hqs := HA.out.size
        have hqz := HA.out.keeps.size
        go_wp2_with (at_builtin; go_loud (refine wpList_append_fresh _ rfl (.tmp 70) (.tmp 72) 39 rfl wE.heap.size 9 i1 _ 1 16 Tryz.underlying39 hi1 hz1 hzs1 hzb1 rfl (by decide) (.slice ak1 K1.length ck1) K1.length (strV K1) rfl (own_below HA.out.keys ((Below.refl _ wr).alloc (Nat.le_refl _) _)) ⟨wr.heap.size, 0, none⟩ 1 1 [str key] rfl rfl ?kh16_1 ?kh16_2 ?kh16_3 ?kh16_4 ?kh16_5 ?_))
        try (case kh16_1 => exact cells_new wr _ _)
        try (case kh16_2 => first | rfl | (intro u hu; simp at hu; subst hu; rfl))
        try (case kh16_3 => first | (unfold maxLen; omega) | omega)
        try (case kh16_4 => omega)
        try (case kh16_5 => first | omega | (simp; omega))
        intro v' w3 hown hgrow hv'
        have hba : Below wr.heap.size wr (wr.alloc (.cells #[str key] 9)) := (Below.refl _ wr).alloc (Nat.le_refl _) _
        replace hv' : v'.ownBlock = (Value.slice ak1 K1.length ck1).ownBlock ∨ v'.ownBlock = some (wr.alloc (.cells #[str key] 9)).heap.size := by first | exact hv' | (rw [show (wr.alloc (.cells #[str key] 9)).heap.size = wr.heap.size + 1 from Array.size_push _]; exact hv')
        have A1 := HA.out.key (k := key) hba hown hgrow hv'
        obtain ⟨_, _, _, _, d4', e3, e4⟩ := cell_box5 (HA.out.key_box hba hgrow hv')
        obtain ⟨a', c', rfl⟩ := slice_of hown
        obtain ⟨w4, hw4⟩ : ∃ w4, w4 = w3.setCell ⟨w.heap.size + 1 + 1 + 1, 4, none⟩ (.slice a' (K1.length + 1) c') := ⟨_, rfl⟩
        replace A1 : Acc wv wE (w.heap.size + 1 + 1 + 1) (K1 ++ [key]) T1 (.slice a' (K1.length + 1) c') (.slice ai1 T1.length ci1) _ (w3.setCell ⟨w.heap.size + 1 + 1 + 1, 4, none⟩ (.slice a' (K1.length + 1) c')) := A1
        rw [← hw4] at A1
        have HA1 := Lib.hid A1
        clear A1 hown hgrow hv' hba HA d4 f3 f4 hqs
        go_upto_region 17 with fail
        rw [← hw4]
        clear hw4 d4' e3 e4
        obtain ⟨_, _, _, g3, g4, f3, f4⟩ := cell_box5 HA1.out.box
        obtain ⟨y0, y1, y2, y3, y4⟩ := XB.out _ HA1.out.keeps
        have hsz4 := HA1.out.keeps.size
        have hqs := HA1.out.size
        go_wp2_with (at_builtin; go_loud (refine wpList_append_fresh _ rfl (.tmp 76) (.tmp 78) 38 rfl wE.heap.size 41 i2 _ 5 80 Tryz.underlying38 hi2 hz2 hzs2 hzb2 rfl (by decide) (.slice ai1 T1.length ci1) T1.length (cellsV xs) rfl (own_below HA1.out.items ((Below.refl _ w4).alloc (Nat.le_refl _) _)) ⟨w4.heap.size, 0, none⟩ 1 1 [.int .i64 x.kind, .bool x.flag, str x.text, .slice xi x.items.length xc, .slice xk x.keys.length xd] rfl rfl ?ih76_1 ?ih76_2 ?ih76_3 ?ih76_4 ?ih76_5 ?_))
        try (case ih76_1 => exact cells_new w4 _ _)
        try (case ih76_2 => first | rfl | (intro u hu; simp at hu; rcases hu with rfl | rfl | rfl | rfl | rfl <;> rfl) | (refine ⟨?_, ?_, ?_, ?_, ?_⟩ <;> rfl))
        try (case ih76_3 => first | (unfold maxLen; omega) | omega)
        try (case ih76_4 => omega)
        try (case ih76_5 => first | omega | (simp; omega))
        intro v' w5 hown hgrow hv'
        have hba : Below w4.heap.size w4 (w4.alloc (.cells #[.int .i64 x.kind, .bool x.flag, str x.text, .slice xi x.items.length xc, .slice xk x.keys.length xd] 41)) := (Below.refl _ w4).alloc (Nat.le_refl _) _
        replace hv' : v'.ownBlock = (Value.slice ai1 T1.length ci1).ownBlock ∨ v'.ownBlock = some (w4.alloc (.cells #[.int .i64 x.kind, .bool x.flag, str x.text, .slice xi x.items.length xc, .slice xk x.keys.length xd] 41)).heap.size := by first | exact hv' | (rw [show (w4.alloc (.cells #[.int .i64 x.kind, .bool x.flag, str x.text, .slice xi x.items.length xc, .slice xk x.keys.length xd] 41)).heap.size = w4.heap.size + 1 from Array.size_push _]; exact hv')
        have A2 := HA1.out.item hba HX.out hown hgrow hv'
        obtain ⟨_, _, _, _, _, e3, e4⟩ := cell_box5 (HA1.out.item_box hba hgrow hv')
        obtain ⟨a2, c2, rfl⟩ := slice_of hown
        obtain ⟨w6, hw6⟩ : ∃ w6, w6 = w5.setCell ⟨w.heap.size + 1 + 1 + 1, 3, none⟩ (.slice a2 (T1.length + 1) c2) := ⟨_, rfl⟩
        replace A2 : Acc wv wE (w.heap.size + 1 + 1 + 1) (K1 ++ [key]) (T1 ++ [x]) (.slice a' (K1.length + 1) c') (.slice a2 (T1.length + 1) c2) _ (w5.setCell ⟨w.heap.size + 1 + 1 + 1, 3, none⟩ (.slice a2 (T1.length + 1) c2)) := A2
        rw [← hw6] at A2
        have HA2 := Lib.hid A2
        clear A2 hown hgrow hv' hba HA1 g3 g4 y0 y1 y2 y3 y4 f3 f4
        go_upto_region 18 with fail
        rw [← hw6]
        clear hw6
        obtain ⟨g0, g1, g2, g3, g4, _, _⟩ := cell_box5 HA2.out.box
        have hr2 := (HA2.out.blk (b := w.heap.size + 1 + 1) (by omega) (by omega)).trans HE2.out
        obtain ⟨z0, z1, z2, z3, z4, j0, j1, j2, j3, j4⟩ := free5 hr2
        obtain ⟨w7, hw7, hr7, hz7, hk7, hB7⟩ := put_box5 hr2 (.int .i64 6) (.bool false) (.string ⟨#[]⟩) (.slice a2 (T1.length + 1) c2) (.slice a' (K1.length + 1) c')
        obtain ⟨q0, q1, q2, q3, q4, _, _⟩ := cell_box5 hr7
        have hB := hB7 _ _ (by omega) (HA2.out.below hbE (by omega))
        have HR0 := HA2.out.rows (w' := w7) (wl := w) (fun b hb => hk7 b (by omega)) (by omega)
        rw [← HKE2.out, ← HTE2.out] at HR0
        have HR := Lib.hid HR0
        clear HR0
        have HW := Lib.hid hw7
        clear hw7 hr7 hk7 hB7 hr2 HE2 HA2
        go_wp2
        rw [← HW.out]
        exact bodyPost_ret (v := .agg #[.int .i64 6, .bool false, .string ⟨#[]⟩, .slice a2 (T1.length + 1) c2, .slice a' (K1.length + 1) c']) (by simp [results, go_sem, q0, q1, q2, q3, q4]) rfl ⟨_, _, rfl, HR.out, hB⟩
    | succ g =>
      have hil : i < K.length := by omega
      have hit : i < T.length := by have := HTK.out; omega
      have hie : (i : Int) < (K.length : Int) := by omega
      have hzS := HZS.out
      have hite : (i : Int) < (T.length : Int) := by omega
      have hns := insA_snoc key K[i] (K.take i)
      have hnt := insT_snoc key K[i] x (T[i]'hit) (K.take i) (T.take i) (by simp; omega)
      have hnp := insP_snoc key K[i] (K.take i)
      rw [List.take_append_getElem hil] at hns hnt hnp
      rw [List.take_append_getElem hit] at hnt
      obtain ⟨b1, o1, rfl, l0, l1, h1⟩ := KY.out i hil
      obtain ⟨b2, o2, aj, cj, al, cl, rfl, l2, l3, hxu, h20, h21, h22, h23, h24⟩ := IT.out i hit
      have l0' : w.heap.size + 1 + 1 + 1 < b1 := by omega
      have l2' : w.heap.size + 1 + 1 + 1 < b2 := by omega
      have HNS := Lib.hid hns
      have HNT := Lib.hid hnt
      have HNP := Lib.hid hnp
      clear hns hnt hnp
      obtain ⟨k, hke⟩ : ∃ k, K[i] = k := ⟨_, rfl⟩
      obtain ⟨u, hue⟩ : ∃ u, T[i]'hit = u := ⟨_, rfl⟩
      rw [hke] at h1 HNS HNT HNP
      rw [hue] at HNT hxu h20 h21 h22 h23 h24
      obtain ⟨K1, hK1⟩ : ∃ K1, insA key (K.take i) = K1 := ⟨_, rfl⟩
      obtain ⟨T1, hT1⟩ : ∃ T1, insT key x (K.take i) (T.take i) = T1 := ⟨_, rfl⟩
      obtain ⟨p, hp⟩ : ∃ p, insQ key (K.take i) = p := ⟨_, rfl⟩
      have hblt := bytesLess_eq key k
      obtain ⟨c, hc⟩ : ∃ c, ltS key k = c := ⟨_, rfl⟩
      rw [hc] at hblt HNS HNT HNP
      rw [hK1, hp] at HNS
      rw [hT1, hp] at HNT
      rw [hp] at HNP ⊢
      rw [hK1] at hl1
      rw [hT1] at hl2
      rw [hK1, hT1] at HA
      obtain ⟨K2, hK2⟩ : ∃ K2, K2 = if (!p && c) = true then K1 ++ [key] else K1 := ⟨_, rfl⟩
      obtain ⟨T2, hT2⟩ : ∃ T2, T2 = if (!p && c) = true then T1 ++ [x] else T1 := ⟨_, rfl⟩
      have HNS2 : Hid (insA key (K.take (i + 1)) = K2 ++ [k]) := by
        have := HNS.out
        show _ = _
        rw [this, hK2]
        split <;> rfl
      have HNT2 : Hid (insT key x (K.take (i + 1)) (T.take (i + 1)) = T2 ++ [u]) := by
        have := HNT.out
        show _ = _
        rw [this, hT2]
        split <;> rfl
      have HK2 := Lib.hid hK2
      have HT2 := Lib.hid hT2
      clear hke hue hK1 hT1 hp hc HNS HNT hK2 hT2
      have hlen2 := insA_len key (K.take (i + 1))
      have hlen3 := insT_len key x (K.take (i + 1)) (T.take (i + 1))
      rw [HNS2.out, List.length_take, List.length_append] at hlen2
      rw [HNT2.out, List.length_take, List.length_append] at hlen3
      simp only [List.length_cons, List.length_nil] at hlen2 hlen3
      obtain ⟨vk, vi, xs, A⟩ := HA.out
      clear HA KY IT
      obtain ⟨ak1, ck1, ai1, ci1, rfl, rfl⟩ := A.form
      have v3 := (A.cell (p := ⟨w.heap.size, 3, none⟩) (by show w.heap.size < wE.heap.size; omega) (by show w.heap.size ≠ _; omega)).trans u3
      have v4 := (A.cell (p := ⟨w.heap.size, 4, none⟩) (by show w.heap.size < wE.heap.size; omega) (by show w.heap.size ≠ _; omega)).trans u4
      have h1r := (A.cell (p := ⟨b1, o1 + i, none⟩) (by show b1 < wE.heap.size; omega) (by show b1 ≠ _; omega)).trans h1
      have HA := Lib.hid A
      clear A hzS
      go_upto_region 8 with fail
      go_cut [20, 33] from 20 to 66 (fun s20 s33 wx => s20 = .int .i64 i ∧ s33 = .bool (!p && c) ∧ wr = wx)
      case first =>
        cases p <;> cases c <;> (go_wp2_with fail; go_meet; exact ⟨rfl, rfl, rfl⟩)
      obtain ⟨rfl, rfl, rfl⟩ := hcut
      have HPC : Hid ((!p && c) = true → (p || c) = true) := Lib.hid (by cases p <;> cases c <;> simp)
      have HPD : Hid ((!p && c) = false → (p || c) = p) := Lib.hid (by cases p <;> cases c <;> simp)
      obtain ⟨md, hmd⟩ : ∃ md, (!p && c) = md := ⟨_, rfl⟩
      rw [hmd] at HK2 HT2 HPC HPD ⊢
      clear hmd
      obtain ⟨fl, hfl⟩ : ∃ fl, (p || c) = fl := ⟨_, rfl⟩
      rw [hfl] at HNP HPC HPD
      clear hfl hblt
      go_upto_if 33 with fail
      go_cut [8, 20] from 20 to 66 (fun s8 s20 wx => s8 = .bool fl ∧ s20 = .int .i64 i ∧ Hid (AccE wv wE (w.heap.size + 1 + 1 + 1) K2 T2 wx))
      case first =>
        cases md with
        | false =>
          obtain rfl := HPD.out rfl
          have HC : Hid (AccE wv wE (w.heap.size + 1 + 1 + 1) K2 T2 wr) := by
            have e1 : K2 = K1 := by rw [HK2.out]; rfl
            have e2 : T2 = T1 := by rw [HT2.out]; rfl
            rw [e1, e2]
            exact ⟨_, _, _, HA.out⟩
          clear HA HK2 HT2
          go_wp2_with fail
          go_meet
          exact ⟨rfl, rfl, HC⟩
        | true =>
          obtain rfl := HPC.out rfl
          have e1 : K2 = K1 ++ [key] := by rw [HK2.out]; rfl
          have e2 : T2 = T1 ++ [x] := by rw [HT2.out]; rfl
          subst e1
          subst e2
          clear HK2 HT2
          obtain ⟨_, _, _, _, d4, f3, f4⟩ := cell_box5 HA.out.box
          have hqs := HA.out.size
          have hqz := HA.out.keeps.size
          go_wp2_with (at_builtin; go_loud (refine wpList_append_fresh _ rfl (.tmp 35) (.tmp 37) 39 rfl wE.heap.size 9 i1 _ 1 16 Tryz.underlying39 hi1 hz1 hzs1 hzb1 rfl (by decide) (.slice ak1 K1.length ck1) K1.length (strV K1) rfl (own_below HA.out.keys ((Below.refl _ wr).alloc (Nat.le_refl _) _)) ⟨wr.heap.size, 0, none⟩ 1 1 [str key] rfl rfl ?kh9_1 ?kh9_2 ?kh9_3 ?kh9_4 ?kh9_5 ?_))
          try (case kh9_1 => exact cells_new wr _ _)
          try (case kh9_2 => first | rfl | (intro u hu; simp at hu; subst hu; rfl))
          try (case kh9_3 => first | (unfold maxLen; omega) | omega)
          try (case kh9_4 => omega)
          try (case kh9_5 => first | omega | (simp; omega))
          intro v' w3 hown hgrow hv'
          have hba : Below wr.heap.size wr (wr.alloc (.cells #[str key] 9)) := (Below.refl _ wr).alloc (Nat.le_refl _) _
          replace hv' : v'.ownBlock = (Value.slice ak1 K1.length ck1).ownBlock ∨ v'.ownBlock = some (wr.alloc (.cells #[str key] 9)).heap.size := by first | exact hv' | (rw [show (wr.alloc (.cells #[str key] 9)).heap.size = wr.heap.size + 1 from Array.size_push _]; exact hv')
          have A1 := HA.out.key (k := key) hba hown hgrow hv'
          obtain ⟨_, _, _, _, d4', e3, e4⟩ := cell_box5 (HA.out.key_box hba hgrow hv')
          obtain ⟨a', c', rfl⟩ := slice_of hown
          obtain ⟨w4, hw4⟩ : ∃ w4, w4 = w3.setCell ⟨w.heap.size + 1 + 1 + 1, 4, none⟩ (.slice a' (K1.length + 1) c') := ⟨_, rfl⟩
          replace A1 : Acc wv wE (w.heap.size + 1 + 1 + 1) (K1 ++ [key]) T1 (.slice a' (K1.length + 1) c') (.slice ai1 T1.length ci1) _ (w3.setCell ⟨w.heap.size + 1 + 1 + 1, 4, none⟩ (.slice a' (K1.length + 1) c')) := A1
          rw [← hw4] at A1
          have HA1 := Lib.hid A1
          clear A1 hown hgrow hv' hba HA d4 f3 f4 hqs
          go_upto_region 10 with fail
          rw [← hw4]
          clear hw4 d4' e3 e4
          obtain ⟨_, _, _, g3, g4, f3, f4⟩ := cell_box5 HA1.out.box
          obtain ⟨y0, y1, y2, y3, y4⟩ := XB.out _ HA1.out.keeps
          have hsz4 := HA1.out.keeps.size
          have hqs := HA1.out.size
          go_wp2_with (at_builtin; go_loud (refine wpList_append_fresh _ rfl (.tmp 41) (.tmp 43) 38 rfl wE.heap.size 41 i2 _ 5 80 Tryz.underlying38 hi2 hz2 hzs2 hzb2 rfl (by decide) (.slice ai1 T1.length ci1) T1.length (cellsV xs) rfl (own_below HA1.out.items ((Below.refl _ w4).alloc (Nat.le_refl _) _)) ⟨w4.heap.size, 0, none⟩ 1 1 [.int .i64 x.kind, .bool x.flag, str x.text, .slice xi x.items.length xc, .slice xk x.keys.length xd] rfl rfl ?ih41_1 ?ih41_2 ?ih41_3 ?ih41_4 ?ih41_5 ?_))
          try (case ih41_1 => exact cells_new w4 _ _)
          try (case ih41_2 => first | rfl | (intro u hu; simp at hu; rcases hu with rfl | rfl | rfl | rfl | rfl <;> rfl) | (refine ⟨?_, ?_, ?_, ?_, ?_⟩ <;> rfl))
          try (case ih41_3 => first | (unfold maxLen; omega) | omega)
          try (case ih41_4 => omega)
          try (case ih41_5 => first | omega | (simp; omega))
          intro v' w5 hown hgrow hv'
          have hba : Below w4.heap.size w4 (w4.alloc (.cells #[.int .i64 x.kind, .bool x.flag, str x.text, .slice xi x.items.length xc, .slice xk x.keys.length xd] 41)) := (Below.refl _ w4).alloc (Nat.le_refl _) _
          replace hv' : v'.ownBlock = (Value.slice ai1 T1.length ci1).ownBlock ∨ v'.ownBlock = some (w4.alloc (.cells #[.int .i64 x.kind, .bool x.flag, str x.text, .slice xi x.items.length xc, .slice xk x.keys.length xd] 41)).heap.size := by first | exact hv' | (rw [show (w4.alloc (.cells #[.int .i64 x.kind, .bool x.flag, str x.text, .slice xi x.items.length xc, .slice xk x.keys.length xd] 41)).heap.size = w4.heap.size + 1 from Array.size_push _]; exact hv')
          have A2 := HA1.out.item hba HX.out hown hgrow hv'
          obtain ⟨_, _, _, _, _, e3, e4⟩ := cell_box5 (HA1.out.item_box hba hgrow hv')
          obtain ⟨a2, c2, rfl⟩ := slice_of hown
          obtain ⟨w6, hw6⟩ : ∃ w6, w6 = w5.setCell ⟨w.heap.size + 1 + 1 + 1, 3, none⟩ (.slice a2 (T1.length + 1) c2) := ⟨_, rfl⟩
          replace A2 : Acc wv wE (w.heap.size + 1 + 1 + 1) (K1 ++ [key]) (T1 ++ [x]) (.slice a' (K1.length + 1) c') (.slice a2 (T1.length + 1) c2) _ (w5.setCell ⟨w.heap.size + 1 + 1 + 1, 3, none⟩ (.slice a2 (T1.length + 1) c2)) := A2
          rw [← hw6] at A2
          have HA2 := Lib.hid A2
          clear A2 hown hgrow hv' hba HA1 g3 g4 y0 y1 y2 y3 y4 f3 f4
          go_upto_region 11 with fail
          rw [← hw6]
          clear hw6
          go_wp2_with fail
          go_meet
          exact ⟨rfl, rfl, _, _, _, HA2.out⟩
      case rest =>
        obtain ⟨rfl, rfl, HC⟩ := hcut
        clear HK2 HT2 HA v3 v4 h1r hl1 hl2 HPC HPD
        have HFL : Hid (fl = insQ key (K.take (i + 1))) := HNP.out.symm
        clear HNP
        obtain ⟨vk, vi, xs, A⟩ := HC.out
        clear HC
        obtain ⟨ak2, ck2, ai2, ci2, rfl, rfl⟩ := A.form
        have v4 := (A.cell (p := ⟨w.heap.size, 4, none⟩) (by show w.heap.size < wE.heap.size; omega) (by show w.heap.size ≠ _; omega)).trans u4
        have h1r := (A.cell (p := ⟨b1, o1 + i, none⟩) (by show b1 < wE.heap.size; omega) (by show b1 ≠ _; omega)).trans h1
        obtain ⟨c0, c1, c2, c3, c4, f3, f4⟩ := cell_box5 A.box
        have HO := Lib.hid (fun W (hb : Below wc.heap.size wc W) => own_below A.keys hb)
        have HKB := Lib.hid (fun wa w3 v' (ha : Below wc.heap.size wc wa) hg hv => A.key_box (w3 := w3) (v' := v') ha hg hv)
        have HK := Lib.hid (fun wa w3 v' (ha : Below wc.heap.size wc wa) hown hg hv => A.key (w3 := w3) (v' := v') (k := k) ha hown hg hv)
        have hqs := A.size; have hqz := A.keeps.size
        have hqn : ¬ wc.heap.size = w.heap.size + 1 + 1 + 1 := by omega
        clear A
        go_upto_region 12 with fail
        go_cut [20] from 20 to 66 (fun s20 wx => s20 = .int .i64 i ∧ Hid (AccE wv wE (w.heap.size + 1 + 1 + 1) (K2 ++ [k]) T2 wx))
        case first =>
          go_region_law_o (refine step_append_fresh rfl (.tmp 47) (.tmp 53) 39 rfl wE.heap.size 9 i1 _ 1 16 Tryz.underlying39 hi1 hz1 hzs1 hzb1 rfl (by decide) (.slice ak2 K2.length ck2) K2.length (strV K2) (by simp [Act.eval]) (HO.out _ (((Below.refl _ wc).drew).alloc (Nat.le_refl _) _)) ⟨wc.heap.size, 0, none⟩ 1 1 [str k] (by simp [Act.eval]) rfl (cells_new _ _ _) (by intro u hu; simp at hu; subst hu; rfl) (by unfold maxLen; omega) (by omega) (by simp; omega) ?_; intro v' w3 hown hgrow hv'; obtain ⟨d0, d1, d2, d3, d4, e3, e4⟩ := cell_box5 (HKB.out _ w3 v' (((Below.refl _ wc).drew).alloc (Nat.le_refl _) _) hgrow hv'); obtain ⟨a', c', rfl⟩ := slice_of hown)
          all_goals (try go_wp2_with fail)
          all_goals go_meet
          all_goals exact ⟨rfl, _, _, _, HK.out _ w3 _ (((Below.refl _ wc).drew).alloc (Nat.le_refl _) _) hown hgrow hv'⟩
        case rest =>
          obtain ⟨rfl, HC⟩ := hcut
          clear HO HKB HK hqs hqn c0 c1 c2 c3 c4 f3 f4 v4 h1r hqz
          obtain ⟨vk, vi, xs, A⟩ := HC.out
          clear HC
          obtain ⟨ak2, ck2, ai2, ci2, rfl, rfl⟩ := A.form
          obtain ⟨c0, c1, c2, c3, c4, f3, f4⟩ := cell_box5 A.box
          have v3 := (A.cell (p := ⟨w.heap.size, 3, none⟩) (by show w.heap.size < wE.heap.size; omega) (by show w.heap.size ≠ _; omega)).trans u3
          have gx := fun (j : Nat) => A.cell (p := ⟨b2, j, none⟩) (by show b2 < wE.heap.size; omega) (by show b2 ≠ _; omega)
          have q0 := (gx (o2 + i * 5)).trans h20
          have q1 := (gx (o2 + i * 5 + 1)).trans h21
          have q2 := (gx (o2 + i * 5 + 2)).trans h22
          have q3 := (gx (o2 + i * 5 + 3)).trans h23
          have q4 := (gx (o2 + i * 5 + 4)).trans h24
          have HO := Lib.hid (fun W (hb : Below wc.heap.size wc W) => own_below A.items hb)
          have HKB := Lib.hid (fun wa w3 v' (ha : Below wc.heap.size wc wa) hg hv => A.item_box (w3 := w3) (v' := v') ha hg hv)
          have HK := Lib.hid (fun wa w3 v' (ha : Below wc.heap.size wc wa) hown hg hv => A.item (w3 := w3) (v' := v') ha hxu hown hg hv)
          have hqs := A.size; have hqz := A.keeps.size
          have hqn : ¬ wc.heap.size = w.heap.size + 1 + 1 + 1 := by omega
          clear A gx hxu
          go_upto_region 13 with fail
          go_region_law_o (refine step_append_fresh rfl (.tmp 57) (.tmp 63) 38 rfl wE.heap.size 41 i2 _ 5 80 Tryz.underlying38 hi2 hz2 hzs2 hzb2 rfl (by decide) (.slice ai2 T2.length ci2) T2.length (cellsV xs) (by simp [Act.eval]) (HO.out _ (((Below.refl _ wc).drew).alloc (Nat.le_refl _) _)) ⟨wc.heap.size, 0, none⟩ 1 1 [.int .i64 u.kind, .bool u.flag, str u.text, .slice aj u.items.length cj, .slice al u.keys.length cl] (by simp [Act.eval]) rfl (cells_new _ _ _) (by intro y hy; simp at hy; rcases hy with rfl | rfl | rfl | rfl | rfl <;> rfl) (by unfold maxLen; omega) (by omega) (by simp; omega) ?_; intro v' w3 hown hgrow hv'; obtain ⟨d0, d1, d2, d3, d4, e3, e4⟩ := cell_box5 (HKB.out _ w3 v' (((Below.refl _ wc).drew).alloc (Nat.le_refl _) _) hgrow hv'); obtain ⟨a', c', rfl⟩ := slice_of hown)
          all_goals
            have HC := Lib.hid (show AccE wv wE (w.heap.size + 1 + 1 + 1) (K2 ++ [k]) (T2 ++ [u]) _ from ⟨_, _, _, HK.out _ w3 _ (((Below.refl _ wc).drew).alloc (Nat.le_refl _) _) hown hgrow hv'⟩)
            rw [← HNS2.out, ← HNT2.out] at HC
            clear HO HKB HK hqs hqn c0 c1 c2 c3 c4 f3 f4 v3 q0 q1 q2 q3 q4 d0 d1 d2 d3 d4 e3 e4 hown hgrow hv'
            go_wp2
            go_roundg g
            case measure => omega
            case rel => exact ⟨i + 1, by omega, by rw [HFL.out], by go_num, HC⟩

/-- The document's Put of any value. -/
theorem put_rval (t x : VT) (v vx : Value) (key : List UInt8) (w : World) (h : ValAt w t v) (hx : ValAt w x vx) (hkl : t.keys.length ≤ t.items.length) (hl6 : t.keys.length ≤ 1000000) :
    Calls Tryz.prog 24 #[v, str key, vx] w fun e w' => (∃ v', e = .returned v' ∧ ValAt w' (putR t key x) v') ∧ Below w.heap.size w w' := by
  by_cases h6 : t.kind = 6
  · have hD : putR t key x = objOf (endA key (keptK key t.keys)) (endT key x (keptK key t.keys) (keptT key t.keys t.items)) := by unfold putR; rw [if_pos h6]
    rw [hD]
    refine (put_own t x v vx key w w (ObjAt.of h) hx h6 hkl hl6).mono ?_
    rintro e w' ⟨vk, vi, rfl, hr, hb⟩
    exact ⟨⟨_, rfl, hr.val hb⟩, hb⟩
  · have hD : putR t key x = objOf [key] [x] := by unfold putR; rw [if_neg h6]
    rw [hD]
    refine (put_none t x v vx key w h hx h6).mono ?_
    rintro e w' ⟨vk, vi, rfl, hr, hb⟩
    exact ⟨⟨_, rfl, hr.val hb⟩, hb⟩

end Go.Proofs.YtpbipngnoklmcaaGreatDoor
