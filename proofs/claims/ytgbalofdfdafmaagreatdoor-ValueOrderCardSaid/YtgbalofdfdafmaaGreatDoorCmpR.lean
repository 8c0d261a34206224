/- The walk of the document's Cmp of values. -/
import Derived.Test.YtgbalofdfdafmaaGreatDoorCmpV
import Derived.Test.YtgbalofdfdafmaaGreatDoorMr
import Derived.Test.YtgbalofdfdafmaaGreatDoorMp
import Derived.Deep.RegionHeld3
namespace Go.Proofs.YtgbalofdfdafmaaGreatDoor
open Go.RowKit
set_option maxRecDepth 100000
attribute [local go_sem] str_size str_toList str_get

theorem order_ref (a b : List UInt8) (w : World) : Calls Tryz.prog 33 #[str a, str b] w fun e w' => e = .returned (.int .i64 (ordS a b)) ∧ w' = w := by
  have hl1 := bytesLess_eq a b
  have hl2 := bytesLess_eq b a
  obtain ⟨r, hr⟩ : ∃ r, ordS a b = r := ⟨_, rfl⟩
  rw [hr]
  unfold ordS at hr
  cases h1 : ltS a b with
  | true =>
    rw [h1] at hr hl1
    rw [if_pos rfl] at hr
    subst hr
    clear hl2 h1
    go_enter Tryz.func33, Tryz.ntmps33
    go_wp2
    go_ret
    exact ⟨rfl, rfl⟩
  | false =>
    rw [h1] at hr hl1
    rw [if_neg Bool.false_ne_true] at hr
    cases h2 : ltS b a with
    | true =>
      rw [h2] at hr hl2
      rw [if_pos rfl] at hr
      subst hr
      have hne : (a == b) = false := by
        rw [beq_eq_false_iff_ne]
        rintro rfl
        rw [h1] at h2
        cases h2
      clear h1 h2
      go_enter Tryz.func33, Tryz.ntmps33
      go_wp2
      go_ret
      exact ⟨rfl, rfl⟩
    | false =>
      rw [h2] at hr hl2
      rw [if_neg Bool.false_ne_true] at hr
      subst hr
      obtain rfl := ltS_tri h1 h2
      clear h1 h2
      go_enter Tryz.func33, Tryz.ntmps33
      go_wp2
      go_ret
      exact ⟨rfl, rfl⟩
theorem cmpr_ref (a b : List UInt8) (ha : goodS a = true) (hb : goodS b = true) (w : World) : Calls Tryz.prog 32 #[str a, str b] w fun e w' => e = .returned (.int .i64 (cmpR a b)) ∧ Below w.heap.size w w' := by
  have hd : ∀ {x : List UInt8}, goodS x = true → dl (valS x) ≤ 1000 := fun {x} h => by
    have h1 := good_abs h
    have := (dec_len_iff (u := (valS x).natAbs) (k := 100) (by decide)).2 h1
    unfold dl
    omega
  have h := cmp_num (valS a) (valS b) (hd ha) (hd hb) w
  rw [good_text ha, good_text hb] at h
  unfold cmpR
  rw [if_pos ⟨ha, hb⟩]
  exact h

set_option maxHeartbeats 8000000 in
theorem cmp_rval (t : VT) : ∀ (u : VT) (v v' : Value) (w : World), ValAt w t v → ValAt w u v' → plainV t = true → plainV u = true → Calls Tryz.prog 8 #[v, v'] w fun e w' => e = .returned (.int .i64 (cmpV t u)) ∧ Below w.heap.size w w' := by
  induction t using VT.ind with
  | h k b tx its ks ih =>
    intro u v v' w h h' hp hp'
    rw [ValAt] at h
    obtain ⟨vi, vk, rfl, hk, hks, vs, hr, hv⟩ := h
    obtain ⟨ui, uk, us, rfl, hk', hks', hr', hv'⟩ := h'.agg
    obtain ⟨k', b', tx', its', ks'⟩ := u
    rw [cmpV_mk']
    obtain ⟨-, -, -, -, pg, px⟩ := plain_node hp
    obtain ⟨-, -, -, -, qg, qx⟩ := plain_node hp'
    simp only [VT.kind, VT.flag, VT.text, VT.items, VT.keys] at hk' hks' hr' hv' ⊢
    have hs0 := hks
    obtain ⟨ak, ck, rfl, _⟩ := hks
    have hr0 := hr
    obtain ⟨ao, cap, rfl, hm, _⟩ := hr
    have hs0' := hks'
    obtain ⟨ak', ck', rfl, _⟩ := hks'
    have hr0' := hr'
    obtain ⟨ao', cap', rfl, hm', _⟩ := hr'
    obtain ⟨wP, hwP⟩ : ∃ wP, wP = w.alloc (.cells #[.int .i64 k, .bool b, str tx, .slice ao its.length cap, .slice ak ks.length ck] 26) := ⟨_, rfl⟩
    obtain ⟨m0, m1, m2, m3, m4, hsP, hbP⟩ := box5 hwP
    obtain ⟨wQ, hwQ⟩ : ∃ wQ, wQ = wP.alloc (.cells #[.int .i64 k', .bool b', str tx', .slice ao' its'.length cap', .slice ak' ks'.length ck'] 26) := ⟨_, rfl⟩
    obtain ⟨n0, n1, n2, n3, n4, hsQ, hbQ⟩ := box5 hwQ
    have k0 := box_at m0 hsP hbQ
    have k1 := box_at m1 hsP hbQ
    have k2 := box_at m2 hsP hbQ
    have k3 := box_at m3 hsP hbQ
    have k4 := box_at m4 hsP hbQ
    have hbPQ : Below w.heap.size w wQ := hbP.trans (hbQ.mono (by omega))
    rw [hsP] at n0 n1 n2 n3 n4
    clear m0 m1 m2 m3 m4 hp hp'
    have hsz : wQ.heap.size = w.heap.size + 2 := by omega
    by_cases hkk : k = k'
    · subst hkk
      rw [if_pos rfl]
      have hne : (k != k) = false := by simp
      by_cases h2 : k = 2
      · subst h2
        rw [if_pos rfl]
        clear ih hs0 hs0' hr0 hr0' hv hv' pg qg px qx
        cases b <;> cases b'
        all_goals
          go_enter Tryz.func8, Tryz.ntmps8
          go_upto_region 1 with fail
          rw [← hwP, ← hwQ]
          clear hwP hwQ
          go_wp2
          go_ret
          exact ⟨rfl, hbPQ⟩
      · rw [if_neg h2]
        have h2b : (k == 2) = false := by simpa using h2
        by_cases h3 : k = 3
        · subst h3
          rw [if_pos rfl]
          have CN := fun W => cmpr_ref tx tx' (pg rfl) (qg rfl) W
          clear ih hs0 hs0' hr0 hr0' hv hv' h2 pg qg px qx
          go_enter Tryz.func8, Tryz.ntmps8
          go_upto_region 1 with fail
          rw [← hwP, ← hwQ]
          clear hwP hwQ
          go_wp2_with fail
          refine (CN _).mono ?_
          rintro e w' ⟨rfl, hq⟩
          go_wp2
          go_ret
          exact ⟨rfl, hbPQ.trans (hq.mono hbPQ.size)⟩
        · rw [if_neg h3]
          have h3b : (k == 3) = false := by simpa using h3
          by_cases h4 : k = 4
          · subst h4
            rw [if_pos rfl]
            have CS := fun W => order_ref tx tx' W
            clear ih hs0 hs0' hr0 hr0' hv hv' h2 h3 pg qg px qx
            go_enter Tryz.func8, Tryz.ntmps8
            go_upto_region 1 with fail
            rw [← hwP, ← hwQ]
            clear hwP hwQ
            go_wp2_with fail
            refine (CS _).mono ?_
            rintro e w' ⟨rfl, rfl⟩
            go_wp2
            go_ret
            exact ⟨rfl, hbPQ⟩
          · rw [if_neg h4]
            have h4b : (k == 4) = false := by simpa using h4
            obtain ⟨V1, hV1⟩ : ∃ V1, ordL ordS ks ks' = V1 := ⟨_, rfl⟩
            obtain ⟨V2, hV2⟩ : ∃ V2, ordL cmpV its its' = V2 := ⟨_, rfl⟩
            rw [hV1, hV2]
            obtain ⟨RES, hRES⟩ : ∃ RES : Int, (if V1 = 0 then V2 else V1) = RES := ⟨_, rfl⟩
            rw [hRES]
            have HR1 : Hid (V1 ≠ 0 → V1 = RES) := fun h => by rw [← hRES, if_neg h]
            have HR2 : Hid (V1 = 0 → V2 = RES) := fun h => by rw [← hRES, if_pos h]
            have H1 : Hid (ordL ordS (ks.drop 0) (ks'.drop 0) = V1) := hV1
            have H2 : Hid (ordL cmpV (its.drop 0) (its'.drop 0) = V2) := hV2
            have HS0 := Lib.hid hs0
            have HS0' := Lib.hid hs0'
            have HR0 := Lib.hid hr0
            have HR0' := Lib.hid hr0'
            have HV := Lib.hid hv
            have HV' := Lib.hid hv'
            have HIH := Lib.hid ih
            have HPX := Lib.hid px
            have HQX := Lib.hid qx
            have hS : ∀ W, Below wQ.heap.size wQ W → W.cell? ⟨w.heap.size, 3, none⟩ = some (.slice ao its.length cap) ∧ W.cell? ⟨w.heap.size, 4, none⟩ = some (.slice ak ks.length ck) ∧ W.cell? ⟨w.heap.size + 1, 3, none⟩ = some (.slice ao' its'.length cap') ∧ W.cell? ⟨w.heap.size + 1, 4, none⟩ = some (.slice ak' ks'.length ck') := fun W hW =>
              ⟨(hW.cell (p := ⟨w.heap.size, 3, none⟩) (by show w.heap.size < wQ.heap.size; omega)).trans k3, (hW.cell (p := ⟨w.heap.size, 4, none⟩) (by show w.heap.size < wQ.heap.size; omega)).trans k4, (hW.cell (p := ⟨w.heap.size + 1, 3, none⟩) (by show w.heap.size + 1 < wQ.heap.size; omega)).trans n3, (hW.cell (p := ⟨w.heap.size + 1, 4, none⟩) (by show w.heap.size + 1 < wQ.heap.size; omega)).trans n4⟩
            have HS := Lib.hid hS
            clear hRES hV1 hV2 h2 h3 h4 pg qg hs0 hs0' hr0 hr0' hv hv' ih px qx hS
            go_enter Tryz.func8, Tryz.ntmps8
            go_upto_region 1 with fail
            rw [← hwP, ← hwQ]
            clear hwP hwQ
            go_upto_region 16 with fail
            clear k0 k1 k2 k3 k4 n0 n1 n2 n3 n4
            go_wp2
            go_loopg [5] ks.length (fun g v5 wr => ∃ i : Nat, i + g = ks.length ∧ v5 = .int .i64 i ∧ i ≤ ks'.length ∧ Hid (ordL ordS (ks.drop i) (ks'.drop i) = V1) ∧ Below wQ.heap.size wQ wr)
            case atStart => exact ⟨0, by omega, rfl, by omega, H1, Below.refl _ _⟩
            case round =>
              clear H1
              obtain ⟨i, hig, rfl, hib, HI, hbl⟩ := hrel
              obtain ⟨k3, k4, n3, n4⟩ := HS.out wr hbl
              have hbw := hbPQ.trans (hbl.mono (by omega))
              by_cases hlt : i < ks.length ∧ i < ks'.length
              · obtain ⟨hil, hil'⟩ := hlt
                obtain ⟨g, rfl⟩ : ∃ g, gk = g + 1 := ⟨gk - 1, by omega⟩
                have hie : (i : Int) < (ks.length : Int) := by omega
                have hie' : (i : Int) < (ks'.length : Int) := by omega
                obtain ⟨b1, o1, rfl, l1, h1⟩ := StrsAt.get HS0.out hil
                obtain ⟨b2, o2, rfl, l2, h2⟩ := StrsAt.get HS0'.out hil'
                have h1 := (hbw.cell (p := ⟨b1, o1 + i, none⟩) l1).trans h1
                have h2 := (hbw.cell (p := ⟨b2, o2 + i, none⟩) l2).trans h2
                rw [getD_at ks [] hil] at h1
                rw [getD_at ks' [] hil'] at h2
                have hd := HI.out
                rw [ordL_drop hil hil'] at hd
                have C := fun W => order_ref ks[i] ks'[i] W
                obtain ⟨x, hxe⟩ : ∃ x, ks[i] = x := ⟨_, rfl⟩
                obtain ⟨y, hye⟩ : ∃ y, ks'[i] = y := ⟨_, rfl⟩
                rw [hxe] at h1 hd C
                rw [hye] at h2 hd C
                obtain ⟨r, hr⟩ : ∃ r, ordS x y = r := ⟨_, rfl⟩
                rw [hr] at hd C
                clear hr hxe hye HI
                by_cases hz : r = 0
                · subst hz
                  rw [if_pos rfl] at hd
                  have HD := Lib.hid hd
                  clear hd
                  go_upto_region 19 with fail
                  go_quiet ((go_at_call 33; exact Calls.quiet_of_same (C _)))
                  go_wp2
                  go_roundg g
                  case measure => omega
                  case rel => exact ⟨i + 1, by omega, by go_num, by omega, HD, below_dn hbl _⟩
                · rw [if_neg hz] at hd
                  subst hd
                  obtain rfl := HR1.out hz
                  have hzb : (r == 0) = false := by simpa using hz
                  have hzc : (r != 0) = true := by simpa using hz
                  clear hz HR1 HR2
                  go_upto_region 19 with fail
                  go_quiet ((go_at_call 33; exact Calls.quiet_of_same (C _)))
                  go_wp2
                  go_ret
                  exact ⟨rfl, below_dn hbw _⟩
              · by_cases hia : i < ks.length
                · have hib' : i = ks'.length := by omega
                  obtain rfl : 1 = V1 := by rw [← HI.out]; exact (ordL_more hia (by omega)).symm
                  obtain rfl := HR1.out (by decide)
                  have t1 : (i : Int) < (ks.length : Int) := by omega
                  have t2 : ¬ (i : Int) < (ks'.length : Int) := by omega
                  have t3 : ((ks.length : Int) == (ks'.length : Int)) = false := by rw [beq_eq_false_iff_ne]; omega
                  have t4 : ((ks.length : Int) != (ks'.length : Int)) = true := by simp; omega
                  have t5 : ¬ (ks.length : Int) < (ks'.length : Int) := by omega
                  clear HI HR1 HR2 hib' hlt hia
                  go_wp2
                  go_ret
                  exact ⟨rfl, hbw⟩
                · have hia' : i = ks.length := by omega
                  subst hia'
                  have t1 : ¬ (ks.length : Int) < (ks.length : Int) := by omega
                  by_cases hab : ks.length < ks'.length
                  · obtain rfl : -1 = V1 := by rw [← HI.out]; exact (ordL_less (Nat.le_refl _) hab).symm
                    obtain rfl := HR1.out (by decide)
                    have t3 : ((ks.length : Int) == (ks'.length : Int)) = false := by rw [beq_eq_false_iff_ne]; omega
                    have t4 : ((ks.length : Int) != (ks'.length : Int)) = true := by simp; omega
                    have t5 : (ks.length : Int) < (ks'.length : Int) := by omega
                    clear HI HR1 HR2 hlt hia hab
                    go_wp2
                    go_ret
                    exact ⟨rfl, hbw⟩
                  · obtain rfl : 0 = V1 := by rw [← HI.out]; exact (ordL_same (Nat.le_refl _) (by omega)).symm
                    obtain rfl := HR2.out rfl
                    have t3 : ((ks.length : Int) == (ks'.length : Int)) = true := by simp; omega
                    have t4 : ((ks.length : Int) != (ks'.length : Int)) = false := by simp; omega
                    clear HI HR1 HR2 hlt hia hab
                    obtain ⟨w4, hw4⟩ : ∃ w4, w4 = wr := ⟨_, rfl⟩
                    subst hw4
                    go_wp2
                    go_loopg [7] its.length (fun g v7 wr => ∃ i : Nat, i + g = its.length ∧ v7 = .int .i64 i ∧ i ≤ its'.length ∧ Hid (ordL cmpV (its.drop i) (its'.drop i) = V2) ∧ Below wQ.heap.size wQ wr)
                    case atStart => exact ⟨0, by omega, rfl, by omega, H2, hbl⟩
                    case round =>
                      clear H2 k3 k4 n3 n4 hbl hbw hib hig t3 t4 t1
                      obtain ⟨i, hig, rfl, hib, HI, hbl⟩ := hrel
                      obtain ⟨k3, k4, n3, n4⟩ := HS.out wr hbl
                      have hbw := hbPQ.trans (hbl.mono (by omega))
                      by_cases hlt : i < its.length ∧ i < its'.length
                      · obtain ⟨hil, hil'⟩ := hlt
                        obtain ⟨g, rfl⟩ : ∃ g, gk = g + 1 := ⟨gk - 1, by omega⟩
                        have hie : (i : Int) < (its.length : Int) := by omega
                        have hie' : (i : Int) < (its'.length : Int) := by omega
                        obtain ⟨b1, o1, ai, ci, aj, cj, rfl, l1, hx1, p0, p1, p2, p3, p4⟩ := RowAt.at HR0.out HV.out hbw hil
                        obtain ⟨b2, o2, bi, di, bj, dj, rfl, l2, hy1, q0, q1, q2, q3, q4⟩ := RowAt.at HR0'.out HV'.out hbw hil'
                        have hd := HI.out
                        rw [ordL_drop hil hil'] at hd
                        have C := HIH.out its[i] (List.getElem_mem hil) its'[i] _ _ wr.drew (hx1.mono (Below.refl _ wr).drew) (hy1.mono (Below.refl _ wr).drew) (HPX.out _ (List.getElem_mem hil)) (HQX.out _ (List.getElem_mem hil'))
                        obtain ⟨x, hxe⟩ : ∃ x, its[i] = x := ⟨_, rfl⟩
                        obtain ⟨y, hye⟩ : ∃ y, its'[i] = y := ⟨_, rfl⟩
                        rw [hxe] at p0 p1 p2 p3 p4 hd C
                        rw [hye] at q0 q1 q2 q3 q4 hd C
                        obtain ⟨r, hr⟩ : ∃ r, cmpV x y = r := ⟨_, rfl⟩
                        rw [hr] at hd C
                        clear hr hxe hye HI hx1 hy1
                        have hlw : w.heap.size + 1 < wr.heap.size := by have := hbl.size; omega
                        have hT : ∀ W, Below wr.heap.size wr W → W.cell? ⟨w.heap.size, 3, none⟩ = some (.slice (some ⟨b1, o1, none⟩) its.length cap) ∧ W.cell? ⟨w.heap.size + 1, 3, none⟩ = some (.slice (some ⟨b2, o2, none⟩) its'.length cap') ∧
                            W.cell? ⟨b1, o1 + i * 5, none⟩ = some (.int .i64 x.kind) ∧ W.cell? ⟨b1, o1 + i * 5 + 1, none⟩ = some (.bool x.flag) ∧ W.cell? ⟨b1, o1 + i * 5 + 2, none⟩ = some (str x.text) ∧ W.cell? ⟨b1, o1 + i * 5 + 3, none⟩ = some (.slice ai x.items.length ci) ∧ W.cell? ⟨b1, o1 + i * 5 + 4, none⟩ = some (.slice aj x.keys.length cj) ∧
                            W.cell? ⟨b2, o2 + i * 5, none⟩ = some (.int .i64 y.kind) ∧ W.cell? ⟨b2, o2 + i * 5 + 1, none⟩ = some (.bool y.flag) ∧ W.cell? ⟨b2, o2 + i * 5 + 2, none⟩ = some (str y.text) ∧ W.cell? ⟨b2, o2 + i * 5 + 3, none⟩ = some (.slice bi y.items.length di) ∧ W.cell? ⟨b2, o2 + i * 5 + 4, none⟩ = some (.slice bj y.keys.length dj) := fun W hW =>
                          have g := fun (q j : Nat) (hq : q < wr.heap.size) => hW.cell (p := ⟨q, j, none⟩) hq
                          ⟨(g _ _ (by omega)).trans k3, (g _ _ hlw).trans n3, (g _ _ l1).trans p0, (g _ _ l1).trans p1, (g _ _ l1).trans p2, (g _ _ l1).trans p3, (g _ _ l1).trans p4, (g _ _ l2).trans q0, (g _ _ l2).trans q1, (g _ _ l2).trans q2, (g _ _ l2).trans q3, (g _ _ l2).trans q4⟩
                        have HT := Lib.hid hT
                        clear hT
                        go_upto_region 29 with fail
                        go_region_held3 (fun W => W.cell? ⟨w.heap.size, 3, none⟩ = some (.slice (some ⟨b1, o1, none⟩) its.length cap) ∧ W.cell? ⟨w.heap.size + 1, 3, none⟩ = some (.slice (some ⟨b2, o2, none⟩) its'.length cap') ∧
                            W.cell? ⟨b1, o1 + i * 5, none⟩ = some (.int .i64 x.kind) ∧ W.cell? ⟨b1, o1 + i * 5 + 1, none⟩ = some (.bool x.flag) ∧ W.cell? ⟨b1, o1 + i * 5 + 2, none⟩ = some (str x.text) ∧ W.cell? ⟨b1, o1 + i * 5 + 3, none⟩ = some (.slice ai x.items.length ci) ∧ W.cell? ⟨b1, o1 + i * 5 + 4, none⟩ = some (.slice aj x.keys.length cj) ∧
                            W.cell? ⟨b2, o2 + i * 5, none⟩ = some (.int .i64 y.kind) ∧ W.cell? ⟨b2, o2 + i * 5 + 1, none⟩ = some (.bool y.flag) ∧ W.cell? ⟨b2, o2 + i * 5 + 2, none⟩ = some (str y.text) ∧ W.cell? ⟨b2, o2 + i * 5 + 3, none⟩ = some (.slice bi y.items.length di) ∧ W.cell? ⟨b2, o2 + i * 5 + 4, none⟩ = some (.slice bj y.keys.length dj))
                          (first | exact HT.out _ h1 | exact HT.out _ (Below.refl _ wr).drew)
                          ((go_at_call 8; refine C.mono ?_; rintro e wz ⟨rfl, hq⟩; have h1 := (Below.refl _ wr).drew.trans (hq.mono (Nat.le_refl _)); clear hq))
                        have hb' := hbl.trans (h1.mono hbl.size)
                        have hbw' := hbw.trans (h1.mono hbw.size)
                        clear HT C p0 p1 p2 p3 p4 q0 q1 q2 q3 q4 h1
                        by_cases hz : r = 0
                        · subst hz
                          rw [if_pos rfl] at hd
                          have HD := Lib.hid hd
                          clear hd
                          go_wp2
                          go_roundg g
                          case measure => omega
                          case rel => exact ⟨i + 1, by omega, by go_num, by omega, HD, hb'⟩
                        · rw [if_neg hz] at hd
                          subst hd
                          have hzb : (r == 0) = false := by simpa using hz
                          have hzc : (r != 0) = true := by simpa using hz
                          clear hz
                          go_wp2
                          go_ret
                          exact ⟨rfl, hbw'⟩
                      · by_cases hia : i < its.length
                        · have hib' : i = its'.length := by omega
                          obtain rfl : 1 = V2 := by rw [← HI.out]; exact (ordL_more hia (by omega)).symm
                          have t1 : (i : Int) < (its.length : Int) := by omega
                          have t2 : ¬ (i : Int) < (its'.length : Int) := by omega
                          have t3 : ((its.length : Int) == (its'.length : Int)) = false := by rw [beq_eq_false_iff_ne]; omega
                          have t5 : ¬ (its.length : Int) < (its'.length : Int) := by omega
                          clear HI hib' hlt hia
                          go_wp2
                          go_ret
                          exact ⟨rfl, hbw⟩
                        · have hia' : i = its.length := by omega
                          subst hia'
                          have t1 : ¬ (its.length : Int) < (its.length : Int) := by omega
                          by_cases hab : its.length < its'.length
                          · obtain rfl : -1 = V2 := by rw [← HI.out]; exact (ordL_less (Nat.le_refl _) hab).symm
                            have t3 : ((its.length : Int) == (its'.length : Int)) = false := by rw [beq_eq_false_iff_ne]; omega
                            have t5 : (its.length : Int) < (its'.length : Int) := by omega
                            clear HI hlt hia hab
                            go_wp2
                            go_ret
                            exact ⟨rfl, hbw⟩
                          · obtain rfl : 0 = V2 := by rw [← HI.out]; exact (ordL_same (Nat.le_refl _) (by omega)).symm
                            have t3 : ((its.length : Int) == (its'.length : Int)) = true := by simp; omega
                            clear HI hlt hia hab
                            go_wp2
                            go_ret
                            exact ⟨rfl, hbw⟩
    · rw [if_neg hkk]
      have hkb : (k == k') = false := by simpa using hkk
      have hkc : (k != k') = true := by simpa using hkk
      clear ih hs0 hs0' hr0 hr0' hv hv' pg qg px qx
      by_cases hlt : k < k'
      · rw [if_pos hlt]
        go_enter Tryz.func8, Tryz.ntmps8
        go_upto_region 1 with fail
        rw [← hwP, ← hwQ]
        clear hwP hwQ hkk
        go_wp2
        go_ret
        exact ⟨rfl, hbPQ⟩
      · rw [if_neg hlt]
        go_enter Tryz.func8, Tryz.ntmps8
        go_upto_region 1 with fail
        rw [← hwP, ← hwQ]
        clear hwP hwQ hkk
        go_wp2
        go_ret
        exact ⟨rfl, hbPQ⟩

end Go.Proofs.YtgbalofdfdafmaaGreatDoor
