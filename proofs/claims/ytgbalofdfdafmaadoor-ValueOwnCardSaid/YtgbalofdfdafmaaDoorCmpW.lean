/- The walk of value.Cmp, and of Equal. -/
import Derived.Test.YtgbalofdfdafmaaDoorCmpV
import Derived.Deep.RegionHeld3
namespace Go.Proofs.YtgbalofdfdafmaaDoor
open Go.RowKit
set_option maxRecDepth 100000
attribute [local go_sem] str_size str_toList str_get

theorem box2a {w : World} {a b : Value} {T : TypeId} : (w.alloc (.cells #[a, b] T)).cell? ⟨w.heap.size, 0, none⟩ = some a := by
  have hn : (w.alloc (.cells #[a, b] T)).heap[w.heap.size]? = some (.cells #[a, b] T (0, 0)) := heap_alloc_new _ _
  simp only [World.cell?, hn]
  rfl
theorem box2b {w : World} {a b : Value} {T : TypeId} : (w.alloc (.cells #[a, b] T)).cell? ⟨w.heap.size, 1, none⟩ = some b := by
  have hn : (w.alloc (.cells #[a, b] T)).heap[w.heap.size]? = some (.cells #[a, b] T (0, 0)) := heap_alloc_new _ _
  simp only [World.cell?, hn]
  rfl
theorem cmpV_mk (k k' : Int) (b b' : Bool) (t t' : List UInt8) (its its' : List VT) (ks ks' : List (List UInt8)) : cmpV (.mk k b t its ks) (.mk k' b' t' its' ks') =
    if k = k' then (if k = 2 then orB b b' else if k = 3 then cmpR t t' else if k = 4 then ordS t t' else if ordL ordS ks ks' = 0 then ordL cmpV its its' else ordL ordS ks ks') else if k < k' then -1 else 1 := by
  rw [cmpV, cmpLs_ord]
  rfl
theorem box_now {w w1 : World} {c0 c1 c2 c3 c4 : Value} {T : TypeId} (h : w1 = w.alloc (.cells #[c0, c1, c2, c3, c4] T)) : w1.heap[w.heap.size]? = some (.cells #[c0, c1, c2, c3, c4] T (0, 0)) := by rw [h]; exact heap_alloc_new _ _

set_option maxHeartbeats 2000000 in
theorem cmpfunc_of (its : List VT) (hT : ∀ t ∈ its, ∀ (u : VT) (v v' : Value) (w : World), ValAt w t v → ValAt w u v' → TabW w → Calls Tryd.prog 27 #[v, v'] w fun e w' => e = .returned (.int .i64 (cmpV t u)) ∧ Below w.heap.size w w')
    (us : List VT) (va vb : Value) (xs ys : Nat → Value) (w : World) (ha : RowAt w va its.length xs) (hx : ValsAt w its xs) (hb : RowAt w vb us.length ys) (hy : ValsAt w us ys) (hTab : TabW w) :
    Calls Tryd.prog 52 #[va, vb, .func (.func 27) #[] #[]] w fun e w' => e = .returned (.int .i64 (ordL cmpV its us)) ∧ Below w.heap.size w w' := by
  have ha0 := ha
  have hb0 := hb
  obtain ⟨ao, c, rfl, hma, _⟩ := ha
  obtain ⟨bo, d, rfl, hmb, _⟩ := hb
  obtain ⟨R, hR⟩ : ∃ R, ordL cmpV its us = R := ⟨_, rfl⟩
  rw [hR]
  go_enter Tryd.func52, Tryd.ntmps52
  go_wp2
  go_loopg [13] its.length (fun g v13 wr => ∃ i : Nat, i + g = its.length ∧ v13 = .int .i64 i ∧ Hid (ordL cmpV (its.drop i) (us.drop i) = R) ∧ Below w.heap.size w wr)
  case atStart => exact ⟨0, by omega, rfl, hR, Below.refl _ _⟩
  case round =>
    clear hR
    obtain ⟨i, hig, rfl, HI, hbl⟩ := hrel
    have hwr := hbl.size
    cases gk with
    | zero =>
      obtain rfl : i = its.length := by omega
      by_cases hlt : its.length < us.length
      · obtain rfl : -1 = R := by rw [← HI.out]; exact (ordL_less (Nat.le_refl _) hlt).symm
        have hlt' : (its.length : Int) < (us.length : Int) := by omega
        go_wp2
        go_ret
        exact ⟨rfl, hbl⟩
      · obtain rfl : 0 = R := by rw [← HI.out]; exact (ordL_same (Nat.le_refl _) (by omega)).symm
        have hlt' : ¬ (its.length : Int) < (us.length : Int) := by omega
        go_wp2
        go_ret
        exact ⟨rfl, hbl⟩
    | succ g =>
      have hil : i < its.length := by omega
      have hie : (i : Int) < (its.length : Int) := by omega
      obtain ⟨b1, o1, ai, ci, ak, ck, rfl, l1, hx1, p0, p1, p2, p3, p4⟩ := RowAt.at ha0 hx hbl hil
      by_cases hlt : i < us.length
      · have hlt' : ¬ (us.length : Int) ≤ (i : Int) := by omega
        obtain ⟨b2, o2, bi, di, bk, dk, rfl, l2, hy1, q0, q1, q2, q3, q4⟩ := RowAt.at hb0 hy hbl hlt
        have hd := HI.out
        rw [ordL_drop hil hlt] at hd
        have C := fun W (hW : Below wr.heap.size wr W) => hT its[i] (List.getElem_mem hil) us[i] _ _ W (hx1.mono hW) (hy1.mono hW) ((hTab.mono hbl).mono hW)
        obtain ⟨x, hxe⟩ : ∃ x, its[i] = x := ⟨_, rfl⟩
        obtain ⟨y, hye⟩ : ∃ y, us[i] = y := ⟨_, rfl⟩
        rw [hxe] at p0 p1 p2 p3 p4 hd C
        rw [hye] at q0 q1 q2 q3 q4 hd C
        obtain ⟨r, hr⟩ : ∃ r, cmpV x y = r := ⟨_, rfl⟩
        rw [hr] at hd C
        obtain ⟨wP, hwP⟩ : ∃ wP, wP = wr.alloc (.cells #[.int .i64 x.kind, .bool x.flag, str x.text, .slice ai x.items.length ci, .slice ak x.keys.length ck] 26) := ⟨_, rfl⟩
        obtain ⟨m0, m1, m2, m3, m4, hsP, hbP⟩ := box5 hwP
        obtain ⟨wQ, hwQ⟩ : ∃ wQ, wQ = wP.alloc (.cells #[.int .i64 y.kind, .bool y.flag, str y.text, .slice bi y.items.length di, .slice bk y.keys.length dk] 26) := ⟨_, rfl⟩
        obtain ⟨n0, n1, n2, n3, n4, hsQ, hbQ⟩ := box5 hwQ
        have k0 := box_at m0 hsP hbQ
        have k1 := box_at m1 hsP hbQ
        have k2 := box_at m2 hsP hbQ
        have k3 := box_at m3 hsP hbQ
        have k4 := box_at m4 hsP hbQ
        have hbPQ : Below wr.heap.size wr wQ := hbP.trans (hbQ.mono (by omega))
        have r0 := (hbP.cell (p := ⟨b2, o2 + i * 5, none⟩) l2).trans q0
        have r1 := (hbP.cell (p := ⟨b2, o2 + i * 5 + 1, none⟩) l2).trans q1
        have r2 := (hbP.cell (p := ⟨b2, o2 + i * 5 + 2, none⟩) l2).trans q2
        have r3 := (hbP.cell (p := ⟨b2, o2 + i * 5 + 3, none⟩) l2).trans q3
        have r4 := (hbP.cell (p := ⟨b2, o2 + i * 5 + 4, none⟩) l2).trans q4
        rw [hsP] at n0 n1 n2 n3 n4
        have CQ := C wQ hbPQ
        clear C hr hxe hye HI ha0 hb0 hx hy hT hx1 hy1 m0 m1 m2 m3 m4 q0 q1 q2 q3 q4
        go_upto_region 4 with fail
        rw [← hwP]
        clear hwP
        go_upto_region 7 with fail
        rw [← hwQ]
        clear hwQ r0 r1 r2 r3 r4 p0 p1 p2 p3 p4
        go_wp2_with fail
        refine CQ.mono ?_
        rintro e w' ⟨rfl, hq⟩
        have hb' := hbl.trans ((hbPQ.trans (hq.mono hbPQ.size)).mono hwr)
        by_cases hz : r = 0
        · subst hz
          rw [if_pos rfl] at hd
          have HD := Lib.hid hd
          clear hd
          go_wp2
          go_roundg g
          case measure => omega
          case rel => exact ⟨i + 1, by omega, by go_num, HD, hb'⟩
        · rw [if_neg hz] at hd
          subst hd
          have hzb : (r == 0) = false := by simpa using hz
          have hzc : (r != 0) = true := by simpa using hz
          clear hz
          go_wp2
          go_ret
          exact ⟨rfl, hb'⟩
      · obtain rfl : 1 = R := by rw [← HI.out]; exact (ordL_more hil (by omega)).symm
        have hlt'' : (us.length : Int) ≤ (i : Int) := by omega
        clear ha0 hb0 hx hy hT hx1
        go_wp2
        go_ret
        exact ⟨rfl, hbl.alloc hwr _⟩

set_option maxHeartbeats 4000000 in
theorem cmp_val (t : VT) : ∀ (u : VT) (v v' : Value) (w : World), ValAt w t v → ValAt w u v' → TabW w → Calls Tryd.prog 27 #[v, v'] w fun e w' => e = .returned (.int .i64 (cmpV t u)) ∧ Below w.heap.size w w' := by
  induction t using VT.ind with
  | h k b tx its ks ih =>
    intro u v v' w h h' hTab
    rw [ValAt] at h
    obtain ⟨vi, vk, rfl, hk, hks, vs, hr, hv⟩ := h
    obtain ⟨ui, uk, us, rfl, hk', hks', hr', hv'⟩ := h'.agg
    obtain ⟨k', b', tx', its', ks'⟩ := u
    rw [cmpV_mk]
    simp only [VT.kind, VT.flag, VT.text, VT.items, VT.keys] at hk' hks' hr' hv' ⊢
    have hs0 := hks
    obtain ⟨ak, ck, rfl, _⟩ := hks
    have hr0 := hr
    obtain ⟨ao, cap, rfl, hm, _⟩ := hr
    have hs0' := hks'
    obtain ⟨ak', ck', rfl, _⟩ := hks'
    have hr0' := hr'
    obtain ⟨ao', cap', rfl, hm', _⟩ := hr'
    obtain ⟨wP, hwP⟩ : ∃ wP, wP = w.alloc (.cells #[.int .i64 k, .bool b, str tx, .slice ao its.length cap, .slice ak ks.length ck] 26) := ⟨_, rfl⟩
    obtain ⟨m0, m1, m2, m3, m4, hsP, hbP⟩ := box5 hwP
    obtain ⟨wQ, hwQ⟩ : ∃ wQ, wQ = wP.alloc (.cells #[.int .i64 k', .bool b', str tx', .slice ao' its'.length cap', .slice ak' ks'.length ck'] 26) := ⟨_, rfl⟩
    obtain ⟨n0, n1, n2, n3, n4, hsQ, hbQ⟩ := box5 hwQ
    have k0 := box_at m0 hsP hbQ
    have k1 := box_at m1 hsP hbQ
    have k2 := box_at m2 hsP hbQ
    have k3 := box_at m3 hsP hbQ
    have k4 := box_at m4 hsP hbQ
    have hbPQ : Below w.heap.size w wQ := hbP.trans (hbQ.mono (by omega))
    rw [hsP] at n0 n1 n2 n3 n4
    clear m0 m1 m2 m3 m4
    have hsz : wQ.heap.size = w.heap.size + 2 := by omega
    have CK := fun W => compare_kind k k' W
    by_cases hkk : k = k'
    · subst hkk
      rw [if_pos rfl]
      rw [show cmpI k k = 0 by unfold cmpI; simp] at CK
      by_cases h2 : k = 2
      · subst h2
        rw [if_pos rfl]
        have hI : cmpI (if b = true then 1 else 0) (if b' = true then 1 else 0) = orB b b' := by cases b <;> cases b' <;> rfl
        have CT := fun b W => truth_any b W
        have CI := fun W => compare_ints (if b = true then 1 else 0) (if b' = true then 1 else 0) W
        rw [hI] at CI
        obtain ⟨z, hz⟩ : ∃ z : Int, (if b = true then 1 else 0) = z := ⟨_, rfl⟩
        obtain ⟨z', hz'⟩ : ∃ z : Int, (if b' = true then 1 else 0) = z := ⟨_, rfl⟩
        have CT1 := fun W => truth_any b W
        have CT2 := fun W => truth_any b' W
        rw [hz] at CI CT1
        rw [hz'] at CI CT2
        obtain ⟨R, hR⟩ : ∃ R, orB b b' = R := ⟨_, rfl⟩
        rw [hR] at CI ⊢
        clear hI CT hz hz' hR ih hs0 hs0' hr0 hr0' hv hv' hTab
        go_enter Tryd.func27, Tryd.ntmps27
        go_upto_region 1 with fail
        rw [← hwP, ← hwQ]
        clear hwP hwQ
        go_upto_region 6 with (go_at_call 45; refine (CK _).mono ?_; rintro e w' ⟨rfl, rfl⟩)
        go_quiet ((first | (go_at_call 47; first | exact Calls.quiet_of_same (CT1 _) | exact Calls.quiet_of_same (CT2 _)) | (go_at_call 46; exact Calls.quiet_of_same (CI _))))
        go_wp2
        go_ret
        exact ⟨rfl, below_dn hbPQ _⟩
      · rw [if_neg h2]
        have h2b : (k == 2) = false := by simpa using h2
        by_cases h3 : k = 3
        · subst h3
          rw [if_pos rfl]
          have CN := fun W hT => cmp_any tx tx' W hT
          have hTQ := hTab.mono hbPQ
          have HT := Lib.hid hTQ
          clear ih hs0 hs0' hr0 hr0' hv hv' hTab h2 hTQ
          go_enter Tryd.func27, Tryd.ntmps27
          go_upto_region 1 with fail
          rw [← hwP, ← hwQ]
          clear hwP hwQ
          go_wp2_with (go_at_call 45; refine (CK _).mono ?_; rintro e w' ⟨rfl, rfl⟩)
          refine (CN _ HT.out).mono ?_
          rintro e w' ⟨rfl, hq⟩
          go_wp2
          go_ret
          exact ⟨rfl, hbPQ.trans (hq.mono hbPQ.size)⟩
        · rw [if_neg h3]
          have h3b : (k == 3) = false := by simpa using h3
          by_cases h4 : k = 4
          · subst h4
            rw [if_pos rfl]
            have CS := fun W => strings_cmp tx tx' W
            clear ih hs0 hs0' hr0 hr0' hv hv' hTab h2 h3
            go_enter Tryd.func27, Tryd.ntmps27
            go_upto_region 1 with fail
            rw [← hwP, ← hwQ]
            clear hwP hwQ
            go_wp2_with (go_at_call 45; refine (CK _).mono ?_; rintro e w' ⟨rfl, rfl⟩)
            refine (CS _).mono ?_
            rintro e w' ⟨rfl, rfl⟩
            go_wp2
            go_ret
            exact ⟨rfl, hbPQ⟩
          · rw [if_neg h4]
            have h4b : (k == 4) = false := by simpa using h4
            have CA := fun W (hW : Below w.heap.size w W) => compare_keys ks ks' _ _ W (hs0.mono hW) (hs0'.mono hW)
            have CB := fun W (hW : Below w.heap.size w W) => cmpfunc_of its ih its' _ _ vs us W (hr0.mono hW) (hv.mono hW) (hr0'.mono hW) (hv'.mono hW) (hTab.mono hW)
            obtain ⟨x, hx⟩ : ∃ x, ordL ordS ks ks' = x := ⟨_, rfl⟩
            obtain ⟨y, hy⟩ : ∃ y, ordL cmpV its its' = y := ⟨_, rfl⟩
            rw [hx] at CA
            rw [hy] at CB
            rw [hx, hy]
            obtain ⟨z, hz⟩ : ∃ z : Int, (if x = 0 then y else x) = z := ⟨_, rfl⟩
            have OR : ∀ g w, w.cell? ⟨g, 0, none⟩ = some (.int .i64 x) → w.cell? ⟨g, 1, none⟩ = some (.int .i64 y) → Calls Tryd.prog 50 #[.slice (some ⟨g, 0, none⟩) 2 2] w fun e w' => e = .returned (.int .i64 z) ∧ w' = w := fun g w h0 h1 => by
              rw [← hz]
              exact or_two x y g w h0 h1
            rw [hz]
            clear ih hs0 hs0' hr0 hr0' hv hv' hTab h2 h3 h4 hx hy hz
            go_enter Tryd.func27, Tryd.ntmps27
            go_upto_region 1 with fail
            rw [← hwP, ← hwQ]
            clear hwP hwQ
            go_upto_region 11 with (go_at_call 45; refine (CK _).mono ?_; rintro e w' ⟨rfl, hw'⟩; rw [hw']; clear hw' w')
            have CA2 := CA wQ.drew hbPQ.drew
            have CB2 := CB wQ.drew hbPQ.drew
            clear CA CB CK
            go_region_held3 (fun w' => w'.cell? ⟨w.heap.size, 3, none⟩ = some (.slice ao its.length cap) ∧ w'.cell? ⟨w.heap.size, 4, none⟩ = some (.slice ak ks.length ck) ∧ w'.cell? ⟨w.heap.size + 1, 3, none⟩ = some (.slice ao' its'.length cap') ∧ w'.cell? ⟨w.heap.size + 1, 4, none⟩ = some (.slice ak' ks'.length ck'))
              (first | exact ⟨k3, k4, n3, n4⟩ | exact ⟨j3, j4, i3, i4⟩ | exact ⟨l3 _, l4 _, g3 _, g4 _⟩)
              (first
                | (go_at_call 51; refine CA2.mono ?_; rintro e w' ⟨rfl, hw'⟩; rw [hw']; clear hw' w')
                | (go_at_call 52; go_loud (refine CB2.mono ?_); rintro e w1 ⟨rfl, hq⟩; have hq1 : wQ.heap.size ≤ w1.heap.size := hq.size; have j3 := (hq.cell (p := ⟨w.heap.size, 3, none⟩) (by show w.heap.size < wQ.heap.size; omega)).trans k3; have j4 := (hq.cell (p := ⟨w.heap.size, 4, none⟩) (by show w.heap.size < wQ.heap.size; omega)).trans k4; have i3 := (hq.cell (p := ⟨w.heap.size + 1, 3, none⟩) (by show w.heap.size + 1 < wQ.heap.size; omega)).trans n3; have i4 := (hq.cell (p := ⟨w.heap.size + 1, 4, none⟩) (by show w.heap.size + 1 < wQ.heap.size; omega)).trans n4; have l3 := fun o => (((Below.refl _ w1).alloc (Nat.le_refl _) o).cell (p := ⟨w.heap.size, 3, none⟩) (by show w.heap.size < w1.heap.size; omega)).trans j3; have l4 := fun o => (((Below.refl _ w1).alloc (Nat.le_refl _) o).cell (p := ⟨w.heap.size, 4, none⟩) (by show w.heap.size < w1.heap.size; omega)).trans j4; have g3 := fun o => (((Below.refl _ w1).alloc (Nat.le_refl _) o).cell (p := ⟨w.heap.size + 1, 3, none⟩) (by show w.heap.size + 1 < w1.heap.size; omega)).trans i3; have g4 := fun o => (((Below.refl _ w1).alloc (Nat.le_refl _) o).cell (p := ⟨w.heap.size + 1, 4, none⟩) (by show w.heap.size + 1 < w1.heap.size; omega)).trans i4)
                | (go_at_call 50; refine (OR _ _ box2a box2b).mono ?_; rintro e w2 ⟨rfl, hw2⟩; rw [hw2]; clear hw2 w2))
            have hbQ2 : Below w.heap.size w w1 := hbPQ.drew.trans (hq.mono (by simp; omega))
            have HB2 := Lib.hid hbQ2
            have hs2 := hbQ2.size
            clear hq hq1 j3 j4 i3 i4 l3 l4 g3 g4 CA2 CB2 OR k0 k1 k2 k3 k4 n0 n1 n2 n3 n4 hbQ2
            go_wp2
            go_ret
            exact ⟨rfl, HB2.out.alloc hs2 _⟩
    · rw [if_neg hkk]
      have hkb : (k == k') = false := by simpa using hkk
      obtain ⟨R, hR⟩ : ∃ R, cmpI k k' = R := ⟨_, rfl⟩
      have hRe : (if k < k' then (-1 : Int) else 1) = R := by
        rw [← hR]
        unfold cmpI
        by_cases h1 : k < k'
        · rw [if_pos h1, if_pos h1]
        · rw [if_neg h1, if_neg h1, if_pos (by omega)]
      have hR0 : R ≠ 0 := by rw [← hRe]; split <;> omega
      have hRb : (R == 0) = false := by simpa using hR0
      have hRc : (R != 0) = true := by simpa using hR0
      rw [hRe]
      rw [hR] at CK
      clear ih hs0 hs0' hr0 hr0' hv hv' hTab hkk hR hRe hR0
      go_enter Tryd.func27, Tryd.ntmps27
      go_upto_region 1 with fail
      rw [← hwP, ← hwQ]
      clear hwP hwQ
      go_wp2_with (go_at_call 45; refine (CK _).mono ?_; rintro e w' ⟨rfl, rfl⟩)
      go_ret
      exact ⟨rfl, hbPQ⟩

end Go.Proofs.YtgbalofdfdafmaaDoor
