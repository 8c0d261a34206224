/- The walk of the document's Drop. -/
import Derived.Test.YtpbipngnoklmcaaGreatDoorAcc
namespace Go.Proofs.YtpbipngnoklmcaaGreatDoor
open Go.RowKit
set_option maxRecDepth 100000
attribute [local go_sem] str_size str_toList str_get

/-- The keys and items of the first i that are not this key's. -/
def keptK (key : List UInt8) : List (List UInt8) → List (List UInt8)
  | [] => []
  | k :: r => if k = key then keptK key r else k :: keptK key r
def keptT (key : List UInt8) : List (List UInt8) → List VT → List VT
  | k :: r, t :: s => if k = key then keptT key r s else t :: keptT key r s
  | _, _ => []
theorem keptK_snoc (key : List UInt8) (k : List UInt8) : ∀ (l : List (List UInt8)), keptK key (l ++ [k]) = if k = key then keptK key l else keptK key l ++ [k]
  | [] => by simp [keptK]
  | a :: r => by
    rw [List.cons_append, keptK, keptK, keptK_snoc key k r]
    by_cases h : a = key <;> by_cases h2 : k = key <;> simp [h, h2]
theorem keptT_snoc (key : List UInt8) (k : List UInt8) (t : VT) : ∀ (l : List (List UInt8)) (s : List VT), l.length = s.length → keptT key (l ++ [k]) (s ++ [t]) = if k = key then keptT key l s else keptT key l s ++ [t]
  | [], [], _ => by simp [keptT]
  | [], _ :: _, h => by simp at h
  | _ :: _, [], h => by simp at h
  | a :: r, b :: s, h => by
    rw [List.cons_append, List.cons_append, keptT, keptT, keptT_snoc key k t r s (by simpa using h)]
    by_cases h1 : a = key <;> by_cases h2 : k = key <;> simp [h1, h2]
theorem keptK_len (key : List UInt8) : ∀ (l : List (List UInt8)), (keptK key l).length ≤ l.length
  | [] => by simp [keptK]
  | a :: r => by
    rw [keptK]
    have := keptK_len key r
    split <;> simp <;> omega
theorem keptT_len (key : List UInt8) : ∀ (l : List (List UInt8)) (s : List VT), (keptT key l s).length ≤ l.length
  | [], _ => by simp [keptT]
  | _ :: _, [] => by simp [keptT]
  | a :: r, b :: s => by
    rw [keptT]
    have := keptT_len key r s
    split <;> simp <;> omega

theorem keptT_take (key : List UInt8) : ∀ (l : List (List UInt8)) (s : List VT), keptT key l s = keptT key l (s.take l.length)
  | [], _ => by simp [keptT]
  | _ :: _, [] => by simp [keptT]
  | a :: r, b :: s => by
    rw [List.length_cons, List.take_succ_cons, keptT, keptT, ← keptT_take key r s]

/-- What Drop leaves. -/
def dropR (t : VT) (key : List UInt8) : VT := if t.kind = 6 then objOf (keptK key t.keys) (keptT key t.keys t.items) else t

def AccE (wv w0 : World) (q : Nat) (ks : List (List UInt8)) (ts : List VT) (wr : World) : Prop := ∃ vk vi xs, Acc wv w0 q ks ts vk vi xs wr

/-- What Drop leaves of an object. -/
def DropOwn (wv : World) (ks : List (List UInt8)) (ts : List VT) (w : World) (e : Ending) (w' : World) : Prop :=
  ∃ vk vi, e = .returned (.agg #[.int .i64 6, .bool false, .string ⟨#[]⟩, vi, vk]) ∧ RowsOf wv w ks ts vk vi w' ∧ Below w.heap.size w w'

/-- An object whose own rows are there in w, and whose items were there in wv. -/
def ObjAt (wv w : World) (t : VT) (v : Value) : Prop :=
  ∃ ai ci ak ck, v = .agg #[.int .i64 t.kind, .bool t.flag, str t.text, .slice ai t.items.length ci, .slice ak t.keys.length ck] ∧ StrsAt w (.slice ak t.keys.length ck) t.keys ∧
    ∀ i (h : i < t.items.length), ∃ b off aj cj al cl, ai = some ⟨b, off, none⟩ ∧ b < w.heap.size ∧ ValAt wv t.items[i] (.agg #[.int .i64 t.items[i].kind, .bool t.items[i].flag, str t.items[i].text, .slice aj t.items[i].items.length cj, .slice al t.items[i].keys.length cl]) ∧
      w.cell? ⟨b, off + i * 5, none⟩ = some (.int .i64 t.items[i].kind) ∧ w.cell? ⟨b, off + i * 5 + 1, none⟩ = some (.bool t.items[i].flag) ∧ w.cell? ⟨b, off + i * 5 + 2, none⟩ = some (str t.items[i].text) ∧ w.cell? ⟨b, off + i * 5 + 3, none⟩ = some (.slice aj t.items[i].items.length cj) ∧ w.cell? ⟨b, off + i * 5 + 4, none⟩ = some (.slice al t.items[i].keys.length cl)
theorem ObjAt.of {w : World} {t : VT} {v : Value} (h : ValAt w t v) : ObjAt w w t v := by
  obtain ⟨vi, vk, vs, rfl, _, hks, hr, hv⟩ := h.agg
  obtain ⟨ak, ck, rfl, _⟩ := id hks
  obtain ⟨ao, cap, rfl, _, _⟩ := id hr
  exact ⟨ao, cap, ak, ck, rfl, hks, fun i hi => RowAt.at hr hv (Below.refl _ w) hi⟩
theorem ObjAt.mono {wv w w' : World} {t : VT} {v : Value} (h : ObjAt wv w t v) (hb : Below w.heap.size w w') : ObjAt wv w' t v := by
  obtain ⟨ai, ci, ak, ck, e, hk, hi⟩ := h
  refine ⟨ai, ci, ak, ck, e, hk.mono hb, fun i h => ?_⟩
  obtain ⟨b, off, aj, cj, al, cl, e, hlt, hv, h0, h1, h2, h3, h4⟩ := hi i h
  exact ⟨b, off, aj, cj, al, cl, e, Nat.lt_of_lt_of_le hlt hb.size, hv, (hb.cell (p := ⟨b, off + i * 5, none⟩) hlt).trans h0, (hb.cell (p := ⟨b, off + i * 5 + 1, none⟩) hlt).trans h1, (hb.cell (p := ⟨b, off + i * 5 + 2, none⟩) hlt).trans h2, (hb.cell (p := ⟨b, off + i * 5 + 3, none⟩) hlt).trans h3, (hb.cell (p := ⟨b, off + i * 5 + 4, none⟩) hlt).trans h4⟩

set_option maxHeartbeats 2000000 in
theorem drop_own (t : VT) (v : Value) (key : List UInt8) (w wv : World) (h : ObjAt wv w t v) (hkl : t.keys.length ≤ t.items.length) (hl6 : t.keys.length ≤ 1000000) (h6 : t.kind = 6) :
    Calls Tryz.prog 56 #[v, str key] w (DropOwn wv (keptK key t.keys) (keptT key t.keys t.items) w) := by
  obtain ⟨i1, hi1, hz1, hzs1, hzb1⟩ := info_parts infoS
  obtain ⟨i2, hi2, hz2, hzs2, hzb2⟩ := info_parts infoVal
  obtain ⟨ao, cap, ak, ck, rfl, hks0, hir⟩ := h
  obtain ⟨wP, hwP⟩ : ∃ wP, wP = w.alloc (.cells #[.int .i64 t.kind, .bool t.flag, str t.text, .slice ao t.items.length cap, .slice ak t.keys.length ck] 41) := ⟨_, rfl⟩
  obtain ⟨m0, m1, m2, m3, m4, hsP, hbP⟩ := box5 hwP
  obtain ⟨wQ, hwQ⟩ : ∃ wQ, wQ = wP.alloc (.cells #[.int .i64 0, .bool false, .string ⟨#[]⟩, .slice none 0 0, .slice none 0 0] 41) := ⟨_, rfl⟩
  have hnQ : wQ.heap[w.heap.size + 1]? = some (.cells #[.int .i64 0, .bool false, .string ⟨#[]⟩, .slice none 0 0, .slice none 0 0] 41 (0, 0)) := by
    rw [hwQ, ← hsP]; exact heap_alloc_new _ _
  obtain ⟨_, _, _, _, _, hsQ, hbQ⟩ := box5 hwQ
  have hbPQ : Below w.heap.size w wQ := hbP.trans (hbQ.mono (by omega))
  have k0 := box_at m0 hsP hbQ
  have k1 := box_at m1 hsP hbQ
  have k2 := box_at m2 hsP hbQ
  have k3 := box_at m3 hsP hbQ
  have k4 := box_at m4 hsP hbQ
  clear m0 m1 m2 m3 m4
  have hk6 : (t.kind == 6) = true := by simpa using h6
  have hk6n : (t.kind != 6) = false := by simpa using h6
  have hq : wQ.heap.size = w.heap.size + 1 + 1 := by omega
  have HRR := Lib.hid hir
  have HN := Lib.hid hnQ
  clear hnQ hir h6
  have mixed : Tryz.prog.follows .mixedOrders = true := by kernel_rfl
  go_enter Tryz.func56, Tryz.ntmps56
  go_upto_region 1 with fail
  rw [← hwP, ← hwQ]
  clear hwP hwQ
  go_upto_region 4 with fail
  obtain ⟨wS, hwS⟩ : ∃ wS, wS = wQ.alloc (.cells #[.int .i64 6, .bool false, .string ⟨#[]⟩, .slice none 0 0, .slice none 0 0] 41) := ⟨_, rfl⟩
  have hA0 : AccE wv wS (w.heap.size + 1 + 1) [] [] wS := by
    refine ⟨_, _, [], by rw [hwS, ← hq]; exact heap_alloc_new _ _, World.ownsRow_nil _ _ _ _, World.ownsRow_nil _ _ _ _, rfl, (fun i h => absurd h (by simp)), (fun a h => by simp [Value.ownBlock] at h), Spares.refl _ _, by rw [hwS]; simp only [World.alloc, Array.size_push]; omega⟩
  have hbS : Below wQ.heap.size wQ wS := by rw [hwS]; exact (Below.refl _ _).alloc (Nat.le_refl _) _
  have hsS : wS.heap.size = w.heap.size + 1 + 1 + 1 := by rw [hwS]; simp only [World.alloc, Array.size_push]; omega
  have hbWS : Below w.heap.size w wS := hbPQ.trans (hbS.mono (by omega))
  have k3 := (hbS.cell (p := ⟨w.heap.size, 3, none⟩) (by show w.heap.size < wQ.heap.size; omega)).trans k3
  have k4 := (hbS.cell (p := ⟨w.heap.size, 4, none⟩) (by show w.heap.size < wQ.heap.size; omega)).trans k4
  have HN := Lib.hid ((hbS.block (w.heap.size + 1) (by omega)).trans HN.out)
  have HA0 := Lib.hid hA0
  have g4 : wS.cell? ⟨w.heap.size, 4, none⟩ = _ := k4
  rw [← hwS]
  clear hwS hA0 hbS
  go_wp2
  go_loopg [15] t.keys.length (fun g v15 wr => ∃ i : Nat, i + g = t.keys.length ∧ v15 = .int .i64 i ∧ Hid (AccE wv wS (w.heap.size + 1 + 1) (keptK key (t.keys.take i)) (keptT key (t.keys.take i) (t.items.take i)) wr))
  case atStart => exact ⟨0, by omega, rfl, HA0⟩
  case round =>
    clear HA0 g4
    obtain ⟨i, hig, rfl, HA⟩ := hrel
    have g0 := (HA.out.choose_spec.choose_spec.choose_spec.cell (p := ⟨w.heap.size, 4, none⟩) (by show w.heap.size < wS.heap.size; omega) (by show w.heap.size ≠ _; omega)).trans k4
    cases gk with
    | zero =>
      obtain rfl : i = t.keys.length := by omega
      have HA1 := HA.out
      rw [List.take_length, ← keptT_take] at HA1
      clear HA
      obtain ⟨K, hK⟩ : ∃ K, keptK key t.keys = K := ⟨_, rfl⟩
      obtain ⟨T, hT⟩ : ∃ T, keptT key t.keys t.items = T := ⟨_, rfl⟩
      rw [hK, hT] at HA1
      have HKe := Lib.hid hK
      have HTe := Lib.hid hT
      clear hK hT
      obtain ⟨vk, vi, xs, A⟩ := HA1
      obtain ⟨ak1, ck1, ai1, ci1, rfl, rfl⟩ := A.form
      have hbx := A.box
      obtain ⟨c0, c1, c2, c3, c4, _, _⟩ := cell_box5 hbx
      have hbw : Below w.heap.size w wr := A.below hbWS (by omega)
      have hr2 := (A.blk (b := w.heap.size + 1) (by omega) (by omega)).trans HN.out
      obtain ⟨z0, z1, z2, z3, z4, y0, y1, y2, y3, y4⟩ := free5 hr2
      obtain ⟨w5, hw5, hr5, hz5, hk5, hB5⟩ := put_box5 hr2 (.int .i64 6) (.bool false) (.string ⟨#[]⟩) (.slice ai1 T.length ci1) (.slice ak1 K.length ck1)
      obtain ⟨p0, p1, p2, p3, p4, _, _⟩ := cell_box5 hr5
      have hB := hB5 _ _ (by omega) hbw
      have hval := A.rows (w' := w5) (wl := w) (fun b hb => hk5 b (by omega)) (by omega)
      have HF : Hid (RowsOf wv w (keptK key t.keys) (keptT key t.keys t.items) (.slice ak1 K.length ck1) (.slice ai1 T.length ci1) w5) := by rw [HKe.out, HTe.out]; exact hval
      have HW := Lib.hid hw5
      clear hw5 hr5 hk5 hB5 hval hr2 hbx A HN HRR hks0
      go_wp2
      rw [← HW.out]
      exact bodyPost_ret (v := .agg #[.int .i64 6, .bool false, .string ⟨#[]⟩, .slice ai1 T.length ci1, .slice ak1 K.length ck1]) (by simp [results, go_sem, p0, p1, p2, p3, p4]) rfl ⟨_, _, rfl, HF.out, hB⟩
    | succ g =>
      have hil : i < t.keys.length := by omega
      have hie : (i : Int) < (t.keys.length : Int) := by omega
      obtain ⟨vk, vi, xs, A⟩ := HA.out
      obtain ⟨ak1, ck1, ai1, ci1, rfl, rfl⟩ := A.form
      have hbw : Below w.heap.size w wr := A.below hbWS (by omega)
      obtain ⟨b1, o1, rfl, l1, h1⟩ := StrsAt.get hks0 hil
      have h1 := (hbw.cell (p := ⟨b1, o1 + i, none⟩) l1).trans h1
      rw [getD_at t.keys [] hil] at h1
      have hns := keptK_snoc key t.keys[i] (t.keys.take i)
      have hnt := keptT_snoc key t.keys[i] (t.items[i]'(by omega)) (t.keys.take i) (t.items.take i) (by simp; omega)
      rw [List.take_append_getElem hil] at hns hnt
      rw [List.take_append_getElem (show i < t.items.length by omega)] at hnt
      have hX := HRR.out i (by omega)
      have HNS := Lib.hid hns
      have HNT := Lib.hid hnt
      clear hns hnt
      obtain ⟨x, hxe⟩ : ∃ x, t.keys[i] = x := ⟨_, rfl⟩
      obtain ⟨u, hue⟩ : ∃ u, t.items[i]'(by omega) = u := ⟨_, rfl⟩
      rw [hxe] at h1 HNS HNT
      rw [hue] at HNT hX
      clear hxe hue
      by_cases hx : x = key
      · subst hx
        have HA' : Hid (AccE wv wS (w.heap.size + 1 + 1) (keptK x (t.keys.take (i + 1))) (keptT x (t.keys.take (i + 1)) (t.items.take (i + 1))) wr) := by
          rw [HNS.out, HNT.out, if_pos rfl, if_pos rfl]; exact HA
        clear HNS HNT hX HRR A HA HN hks0
        go_wp2
        go_roundg g
        case measure => omega
        case rel => exact ⟨i + 1, by omega, by go_num, HA'⟩
      · have hxy : (x != key) = true := by simpa using hx
        have hxy2 : (x == key) = false := by simpa using hx
        have hNS : keptK key (t.keys.take (i + 1)) = keptK key (t.keys.take i) ++ [x] := by rw [HNS.out, if_neg hx]
        have hNT : keptT key (t.keys.take (i + 1)) (t.items.take (i + 1)) = keptT key (t.keys.take i) (t.items.take i) ++ [u] := by rw [HNT.out, if_neg hx]
        have hkl1 := keptK_len key (t.keys.take i)
        have hkl2 := keptT_len key (t.keys.take i) (t.items.take i)
        rw [List.length_take] at hkl1 hkl2
        have HNS' := Lib.hid hNS
        have HNT' := Lib.hid hNT
        clear hNS hNT HNS HNT HA
        obtain ⟨K, hK⟩ : ∃ K, keptK key (t.keys.take i) = K := ⟨_, rfl⟩
        obtain ⟨T, hT⟩ : ∃ T, keptT key (t.keys.take i) (t.items.take i) = T := ⟨_, rfl⟩
        rw [hK] at HNS' A hkl1
        rw [hT] at HNT' A hkl2
        clear hK hT hx
        have HAA := Lib.hid A
        obtain ⟨c0, c1, c2, c3, c4, f3, f4⟩ := cell_box5 A.box
        have HO := Lib.hid (fun W (hb : Below wr.heap.size wr W) => own_below A.keys hb)
        have HKB := Lib.hid (fun wa w3 v' (ha : Below wr.heap.size wr wa) hg hv => A.key_box (w3 := w3) (v' := v') ha hg hv)
        have HK := Lib.hid (fun wa w3 v' (ha : Below wr.heap.size wr wa) hown hg hv => A.key (w3 := w3) (v' := v') (k := x) ha hown hg hv)
        have hqs := A.size; have hqz := A.keeps.size
        have hqn : ¬ wr.heap.size = w.heap.size + 1 + 1 := by omega
        clear A
        go_upto_region 8 with fail
        go_cut [15] from 15 to 45 (fun s15 wx => s15 = .int .i64 i ∧ Hid (AccE wv wS (w.heap.size + 1 + 1) (K ++ [x]) T wx))
        case first =>
          go_region_law_o (refine step_append_fresh rfl (.tmp 26) (.tmp 32) 39 rfl wS.heap.size 9 i1 _ 1 16 Tryz.underlying39 hi1 hz1 hzs1 hzb1 rfl (by decide) (.slice ak1 K.length ck1) K.length (strV K) (by simp [Act.eval]) (HO.out _ (((Below.refl _ wr).drew).alloc (Nat.le_refl _) _)) ⟨wr.heap.size, 0, none⟩ 1 1 [str x] (by simp [Act.eval]) rfl (cells_new _ _ _) (by intro u hu; simp at hu; subst hu; rfl) (by unfold maxLen; omega) (by omega) (by simp; omega) ?_; intro v' w3 hown hgrow hv'; obtain ⟨d0, d1, d2, d3, d4, e3, e4⟩ := cell_box5 (HKB.out _ w3 v' (((Below.refl _ wr).drew).alloc (Nat.le_refl _) _) hgrow hv'); obtain ⟨a', c', rfl⟩ := slice_of hown)
          all_goals (try go_wp2_with fail)
          all_goals go_meet
          all_goals exact ⟨rfl, _, _, _, HK.out _ w3 _ (((Below.refl _ wr).drew).alloc (Nat.le_refl _) _) hown hgrow hv'⟩
        case rest =>
          obtain ⟨rfl, HC⟩ := hcut
          clear HO HKB HK hqs hqn c0 c1 c2 c3 c4 f3 f4 hbw h1 g0 l1 HAA
          obtain ⟨vk, vi, xs, A⟩ := HC.out
          obtain ⟨ak2, ck2, ai2, ci2, rfl, rfl⟩ := A.form
          obtain ⟨c0, c1, c2, c3, c4, f3, f4⟩ := cell_box5 A.box
          have hbw : Below w.heap.size w wc := A.below hbWS (by omega)
          have g3 := (A.cell (p := ⟨w.heap.size, 3, none⟩) (by show w.heap.size < wS.heap.size; omega) (by show w.heap.size ≠ _; omega)).trans k3
          obtain ⟨bi, off, ai, ci, ak', ck', rfl, hlt, hxu, h0, h1, h2, h3, h4⟩ := hX
          have q0 := (hbw.cell (p := ⟨bi, off + i * 5, none⟩) hlt).trans h0
          have q1 := (hbw.cell (p := ⟨bi, off + i * 5 + 1, none⟩) hlt).trans h1
          have q2 := (hbw.cell (p := ⟨bi, off + i * 5 + 2, none⟩) hlt).trans h2
          have q3 := (hbw.cell (p := ⟨bi, off + i * 5 + 3, none⟩) hlt).trans h3
          have q4 := (hbw.cell (p := ⟨bi, off + i * 5 + 4, none⟩) hlt).trans h4
          have hit : i < t.items.length := by omega
          have hiti : (i : Int) < (t.items.length : Int) := by omega
          have HO := Lib.hid (fun W (hb : Below wc.heap.size wc W) => own_below A.items hb)
          have HKB := Lib.hid (fun wa w3 v' (ha : Below wc.heap.size wc wa) hg hv => A.item_box (w3 := w3) (v' := v') ha hg hv)
          have HK := Lib.hid (fun wa w3 v' (ha : Below wc.heap.size wc wa) hown hg hv => A.item (w3 := w3) (v' := v') ha hxu hown hg hv)
          have hqs := A.size; have hqz := A.keeps.size
          have hqn : ¬ wc.heap.size = w.heap.size + 1 + 1 := by omega
          clear A HC h0 h1 h2 h3 h4 hxu
          go_upto_region 9 with fail
          go_region_law_o (refine step_append_fresh rfl (.tmp 36) (.tmp 42) 38 rfl wS.heap.size 41 i2 _ 5 80 Tryz.underlying38 hi2 hz2 hzs2 hzb2 rfl (by decide) (.slice ai2 T.length ci2) T.length (cellsV xs) (by simp [Act.eval]) (HO.out _ (((Below.refl _ wc).drew).alloc (Nat.le_refl _) _)) ⟨wc.heap.size, 0, none⟩ 1 1 [.int .i64 u.kind, .bool u.flag, str u.text, .slice ai u.items.length ci, .slice ak' u.keys.length ck'] (by simp [Act.eval]) rfl (cells_new _ _ _) (by intro y hy; simp at hy; rcases hy with rfl | rfl | rfl | rfl | rfl <;> rfl) (by unfold maxLen; omega) (by omega) (by simp; omega) ?_; intro v' w3 hown hgrow hv'; obtain ⟨d0, d1, d2, d3, d4, e3, e4⟩ := cell_box5 (HKB.out _ w3 v' (((Below.refl _ wc).drew).alloc (Nat.le_refl _) _) hgrow hv'); obtain ⟨a', c', rfl⟩ := slice_of hown)
          all_goals
            have HC := Lib.hid (show AccE wv wS (w.heap.size + 1 + 1) (K ++ [x]) (T ++ [u]) _ from ⟨_, _, _, HK.out _ w3 _ (((Below.refl _ wc).drew).alloc (Nat.le_refl _) _) hown hgrow hv'⟩)
            rw [← HNS'.out, ← HNT'.out] at HC
            clear HO HKB HK hqs hqn c0 c1 c2 c3 c4 f3 f4 hbw g3 q0 q1 q2 q3 q4 d0 d1 d2 d3 d4 e3 e4 hown hgrow hv'
            go_wp2
            go_roundg g
            case measure => omega
            case rel => exact ⟨i + 1, by omega, by go_num, HC⟩

set_option maxHeartbeats 2000000 in
theorem drop_rval (t : VT) (v : Value) (key : List UInt8) (w : World) (h : ValAt w t v) (hkl : t.keys.length ≤ t.items.length) (hl6 : t.keys.length ≤ 1000000) :
    Calls Tryz.prog 56 #[v, str key] w fun e w' => (∃ v', e = .returned v' ∧ ValAt w' (dropR t key) v') ∧ Below w.heap.size w w' := by
  by_cases h6 : t.kind = 6
  · have hD : dropR t key = objOf (keptK key t.keys) (keptT key t.keys t.items) := by unfold dropR; rw [if_pos h6]
    rw [hD]
    refine (drop_own t v key w w (ObjAt.of h) hkl hl6 h6).mono ?_
    rintro e w' ⟨vk, vi, rfl, hr, hb⟩
    exact ⟨⟨_, rfl, hr.val hb⟩, hb⟩
  obtain ⟨i1, hi1, hz1, hzs1, hzb1⟩ := info_parts infoS
  obtain ⟨i2, hi2, hz2, hzs2, hzb2⟩ := info_parts infoVal
  have h0 := h
  obtain ⟨vi, vk, vs, rfl, hk, hks, hr, hv⟩ := h.agg
  have hks0 := hks
  obtain ⟨ak, ck, rfl, _⟩ := hks
  have hr0 := hr
  obtain ⟨ao, cap, rfl, hm, _⟩ := hr
  obtain ⟨wP, hwP⟩ : ∃ wP, wP = w.alloc (.cells #[.int .i64 t.kind, .bool t.flag, str t.text, .slice ao t.items.length cap, .slice ak t.keys.length ck] 41) := ⟨_, rfl⟩
  obtain ⟨m0, m1, m2, m3, m4, hsP, hbP⟩ := box5 hwP
  obtain ⟨wQ, hwQ⟩ : ∃ wQ, wQ = wP.alloc (.cells #[.int .i64 0, .bool false, .string ⟨#[]⟩, .slice none 0 0, .slice none 0 0] 41) := ⟨_, rfl⟩
  have hnQ : wQ.heap[w.heap.size + 1]? = some (.cells #[.int .i64 0, .bool false, .string ⟨#[]⟩, .slice none 0 0, .slice none 0 0] 41 (0, 0)) := by
    rw [hwQ, ← hsP]; exact heap_alloc_new _ _
  obtain ⟨_, _, _, _, _, hsQ, hbQ⟩ := box5 hwQ
  have hbPQ : Below w.heap.size w wQ := hbP.trans (hbQ.mono (by omega))
  have k0 := box_at m0 hsP hbQ
  have k1 := box_at m1 hsP hbQ
  have k2 := box_at m2 hsP hbQ
  have k3 := box_at m3 hsP hbQ
  have k4 := box_at m4 hsP hbQ
  clear m0 m1 m2 m3 m4
  have hD : dropR t key = t := by unfold dropR; rw [if_neg h6]
  rw [hD]
  have hk6 : (t.kind == 6) = false := by simpa using h6
  obtain ⟨z0, z1, z2, z3, z4, y0, y1, y2, y3, y4⟩ := free5 hnQ
  obtain ⟨w5, hw5, hr5, hz5, hk5, hB5⟩ := put_box5 hnQ (.int .i64 t.kind) (.bool t.flag) (.string ⟨t.text.toArray⟩) (.slice ao t.items.length cap) (.slice ak t.keys.length ck)
  obtain ⟨p0, p1, p2, p3, p4, _, _⟩ := cell_box5 hr5
  have hB := hB5 _ _ (by omega) hbPQ
  have HF := Lib.hid (h0.mono hB)
  have HW := Lib.hid hw5
  clear hw5 hr5 hk5 hB5 hD h0 hr0 hv hks0 h6
  go_enter Tryz.func56, Tryz.ntmps56
  go_upto_region 1 with fail
  rw [← hwP, ← hwQ]
  clear hwP hwQ
  go_wp2
  rw [← HW.out]
  exact bodyPost_ret (v := .agg #[.int .i64 t.kind, .bool t.flag, .string ⟨t.text.toArray⟩, .slice ao t.items.length cap, .slice ak t.keys.length ck]) (by simp [results, go_sem, p0, p1, p2, p3, p4]) rfl ⟨⟨_, rfl, HF.out⟩, hB⟩

end Go.Proofs.YtpbipngnoklmcaaGreatDoor
