/- The walks of the document's Texts and Same: are two values the same? -/
import Derived.Test.YtpbipngnoklmcaaGreatDoorMValR
import Derived.Deep.RegionHeld3
namespace Go.Proofs.YtpbipngnoklmcaaGreatDoor
open Go.RowKit
set_option maxRecDepth 100000
attribute [local go_sem] str_size str_toList str_get

theorem below_drawn {B : Nat} {w w' : World} (h : Below B w w') (n : Nat) : Below B w (w'.drewN n) := by
  induction n with
  | zero => exact h
  | succ n ih => exact ih.drew
theorem getD_at {α : Type} (l : List α) (d : α) {i : Nat} (h : i < l.length) : l.getD i d = l[i] := by simp [List.getD, h]
theorem take_same {α : Type} {l m : List α} {i : Nat} (hl : i < l.length) (hm : i < m.length) (h : l.take i = m.take i) (hx : l[i] = m[i]) : l.take (i + 1) = m.take (i + 1) := by
  rw [List.take_succ_eq_append_getElem hl, List.take_succ_eq_append_getElem hm, h, hx]

set_option maxHeartbeats 1600000 in
theorem texts_any (xs ys : List (List UInt8)) (va vb : Value) (w : World) (ha : StrsAt w va xs) (hb : StrsAt w vb ys) : Calls Tryz.prog 55 #[va, vb] w fun e w' => e = .returned (.bool (xs == ys)) ∧ Below w.heap.size w w' := by
  have ha0 := ha
  have hb0 := hb
  obtain ⟨ao, c, rfl, hma, _⟩ := ha
  obtain ⟨bo, d, rfl, hmb, _⟩ := hb
  obtain ⟨R, hR⟩ : ∃ R, (xs == ys) = R := ⟨_, rfl⟩
  rw [hR]
  have HR := Lib.hid hR
  clear hR
  by_cases hl : xs.length = ys.length
  · rw [← hl] at hb0 ⊢
    go_enter Tryz.func55, Tryz.ntmps55
    go_wp2
    go_loopg [13] xs.length (fun g v13 wr => ∃ i : Nat, i + g = xs.length ∧ v13 = .int .i64 i ∧ xs.take i = ys.take i ∧ Below w.heap.size w wr)
    case atStart => exact ⟨0, by omega, rfl, rfl, Below.refl _ _⟩
    case round =>
      obtain ⟨i, hig, rfl, hall, hbl⟩ := hrel
      cases gk with
      | zero =>
        obtain rfl : i = xs.length := by omega
        have hRt : R = true := by
          rw [← HR.out, beq_iff_eq, ← List.take_length (l := xs), hall, hl, List.take_length]
        subst hRt
        clear hall HR
        go_wp2
        go_ret
        exact ⟨rfl, hbl⟩
      | succ g =>
        have hil : i < xs.length := by omega
        have hie : (i : Int) < (xs.length : Int) := by omega
        obtain ⟨b1, o1, rfl, l1, h1⟩ := StrsAt.get ha0 hil
        obtain ⟨b2, o2, rfl, l2, h2⟩ := StrsAt.get (ss := ys) (n := xs.length) hb0 (show i < ys.length by omega)
        have h1 := (hbl.cell (p := ⟨b1, o1 + i, none⟩) l1).trans h1
        have h2 := (hbl.cell (p := ⟨b2, o2 + i, none⟩) l2).trans h2
        rw [getD_at xs [] hil] at h1
        rw [getD_at ys [] (by omega)] at h2
        by_cases hx : xs[i] = ys[i]'(by omega)
        · have HT := Lib.hid (take_same hil (by omega) hall hx)
          rw [← hx] at h2
          obtain ⟨x, hxe⟩ : ∃ x, xs[i] = x := ⟨_, rfl⟩
          rw [hxe] at h1 h2
          clear hx hxe hall ha0 hb0
          go_wp2
          go_quiet (fail)
          go_wp2
          go_roundg g
          case measure => omega
          case rel => exact ⟨i + 1, by omega, by go_num, HT.out, below_drawn hbl _⟩
        · have hRf : R = false := by
            rw [← HR.out, beq_eq_false_iff_ne]
            rintro rfl
            exact hx rfl
          subst hRf
          obtain ⟨x, hxe⟩ : ∃ x, xs[i] = x := ⟨_, rfl⟩
          obtain ⟨y, hye⟩ : ∃ y, ys[i]'(by omega) = y := ⟨_, rfl⟩
          rw [hxe] at h1 hx
          rw [hye] at h2 hx
          have hxy : (x == y) = false := by simpa using hx
          clear hx hxe hye hall ha0 hb0 HR
          go_wp2
          go_quiet (fail)
          go_wp2
          go_ret
          exact ⟨rfl, below_drawn hbl _⟩
  · have hli : ((xs.length : Int) == (ys.length : Int)) = false := by simp; omega
    have hRf : R = false := by
      rw [← HR.out, beq_eq_false_iff_ne]
      rintro rfl
      exact hl rfl
    subst hRf
    clear ha0 hb0 HR hl
    go_enter Tryz.func55, Tryz.ntmps55
    go_wp2
    go_ret
    exact ⟨rfl, Below.refl _ _⟩

theorem sameL_false {l m : List VT} {i : Nat} (hl : i < l.length) (hm : i < m.length) (h : sameV l[i] m[i] = false) : sameL l m = false := by
  cases hs : sameL l m with
  | false => rfl
  | true =>
    have hlm : l = m := by
      have := (sameV_iff (.mk 0 false [] l []) (.mk 0 false [] m [])).1 (by rw [sameV]; simp only [VT.kind, VT.flag, VT.text, VT.keys, VT.items, hs]; rfl)
      injection this
    subst hlm
    rw [(sameV_iff _ _).2 rfl] at h
    cases h
theorem sameL_iff (l m : List VT) : sameL l m = true ↔ l = m := by
  constructor
  · intro hs
    have := (sameV_iff (.mk 0 false [] l []) (.mk 0 false [] m [])).1 (by rw [sameV]; simp only [VT.kind, VT.flag, VT.text, VT.keys, VT.items, hs]; rfl)
    injection this
  · rintro rfl
    have := (sameV_iff (.mk 0 false [] l []) (.mk 0 false [] l [])).2 rfl
    rw [sameV] at this
    simp only [VT.kind, VT.flag, VT.text, VT.keys, VT.items, Bool.and_eq_true] at this
    exact this.2

set_option maxHeartbeats 4000000 in
theorem same_rval (t : VT) : ∀ (u : VT) (v v' : Value) (w : World), ValAt w t v → ValAt w u v' → Calls Tryz.prog 23 #[v, v'] w fun e w' => e = .returned (.bool (sameV t u)) ∧ Below w.heap.size w w' := by
  induction t using VT.ind with
  | h k b tx its ks ih =>
    intro u
    cases u with
    | mk k' b' tx' its' ks' =>
    intro v v' w h h'
    obtain ⟨R, hR⟩ : ∃ R, sameV (.mk k b tx its ks) (.mk k' b' tx' its' ks') = R := ⟨_, rfl⟩
    rw [hR]
    have hR1 := hR
    rw [sameV] at hR1
    simp only [VT.kind, VT.flag, VT.text, VT.keys, VT.items] at hR1
    have HR := Lib.hid hR1
    clear hR hR1
    rw [ValAt] at h h'
    obtain ⟨vi, vk, rfl, hk, hks, vs, hr, hv⟩ := h
    obtain ⟨vi', vk', rfl, hk', hks', vs', hr', hv'⟩ := h'
    have hs0 := hks
    have hs0' := hks'
    obtain ⟨ak, ck, rfl, _⟩ := hks
    obtain ⟨ak', ck', rfl, _⟩ := hks'
    have hr0 := hr
    have hr0' := hr'
    obtain ⟨ao, cap, rfl, hm, _⟩ := hr
    obtain ⟨ao', cap', rfl, hm', _⟩ := hr'
    obtain ⟨w1, hw1⟩ : ∃ w1, w1 = w.alloc (.cells #[.int .i64 k, .bool b, str tx, .slice ao its.length cap, .slice ak ks.length ck] 41) := ⟨_, rfl⟩
    obtain ⟨wB, hwB⟩ : ∃ wB, wB = w1.alloc (.cells #[.int .i64 k', .bool b', str tx', .slice ao' its'.length cap', .slice ak' ks'.length ck'] 41) := ⟨_, rfl⟩
    obtain ⟨_, _, _, a3, _, hs1, hb1⟩ := box5 hw1
    obtain ⟨_, _, _, c3, _, hs2, hb2⟩ := box5 hwB
    rw [hs1] at c3
    have hbB : Below w.heap.size w wB := hb1.trans (hb2.mono (by omega))
    have a3 := (hb2.cell (p := ⟨w.heap.size, 3, none⟩) (by show w.heap.size < w1.heap.size; omega)).trans a3
    have hsB : wB.heap.size = w.heap.size + 2 := by omega
    have HS1 := Lib.hid hs1
    clear hs1
    by_cases e1 : k = k'
    · subst e1
      by_cases e2 : b = b'
      · subst e2
        by_cases e3 : tx = tx'
        · subst e3
          have T := texts_any ks ks' _ _ wB (hs0.mono hbB) (hs0'.mono hbB)
          obtain ⟨r, hr⟩ : ∃ r, (ks == ks') = r := ⟨_, rfl⟩
          rw [hr] at T
          have HR2 : Hid ((r && sameL its its') = R) := by
            rw [Hid, ← HR.out, hr]
            simp
          clear HR hr
          cases r with
          | false =>
            obtain rfl : false = R := HR2.out
            go_enter Tryz.func23, Tryz.ntmps23
            go_wp2_with (rw [← hw1, ← hwB])
            refine T.mono ?_
            rintro e w' ⟨rfl, hq⟩
            go_wp2
            go_ret
            exact ⟨rfl, hbB.trans (hq.mono (by omega))⟩
          | true =>
            have HRS : Hid (sameL its its' = R) := HR2.out
            clear HR2
            by_cases hl : its.length = its'.length
            · have hr1 : RowAt w (.slice ao' its.length cap') its'.length vs' := by rw [hl]; exact hr0'
              have hm1 : its.length ≤ cap' := by omega
              rw [← hl] at hwB ⊢
              have HL := Lib.hid hl
              clear hl
              clear hr0'
              go_enter Tryz.func23, Tryz.ntmps23
              go_wp2_with (rw [← hw1, ← hwB])
              refine T.mono ?_
              rintro e wS ⟨rfl, hqS⟩
              clear hw1 hwB
              have s3 := (hqS.cell (p := ⟨w.heap.size, 3, none⟩) (by show w.heap.size < wB.heap.size; omega)).trans a3
              have s3' := (hqS.cell (p := ⟨w.heap.size + 1, 3, none⟩) (by show w.heap.size + 1 < wB.heap.size; omega)).trans c3
              rw [← HL.out] at c3 s3'
              go_wp2
              go_loopg [45] its.length (fun g v45 wr => ∃ i : Nat, i + g = its.length ∧ v45 = .int .i64 i ∧ its.take i = its'.take i ∧ Below wB.heap.size wB wr)
              case atStart => exact ⟨0, by omega, rfl, rfl, hqS⟩
              case round =>
                obtain ⟨i, hig, rfl, hall, hbl⟩ := hrel
                have q3 := (hbl.cell (p := ⟨w.heap.size, 3, none⟩) (by show w.heap.size < wB.heap.size; omega)).trans a3
                have q3' := (hbl.cell (p := ⟨w.heap.size + 1, 3, none⟩) (by show w.heap.size + 1 < wB.heap.size; omega)).trans c3
                have hbw := hbB.trans (hbl.mono (by omega))
                cases gk with
                | zero =>
                  obtain rfl : i = its.length := by omega
                  obtain rfl : R = true := by
                    rw [← HRS.out, sameL_iff, ← List.take_length (l := its), hall, HL.out, List.take_length]
                  clear hall HRS
                  go_wp2
                  go_ret
                  exact ⟨rfl, hbw⟩
                | succ g =>
                  have hil : i < its.length := by omega
                  have hil' : i < its'.length := by have := HL.out; omega
                  have hie : (i : Int) < (its.length : Int) := by omega
                  obtain ⟨b1, o1, ai, ci, aj, cj, rfl, hlt, hx, x0, x1, x2, x3, x4⟩ := RowAt.at hr0 hv hbw hil
                  obtain ⟨b2, o2, ai', ci', aj', cj', rfl, hlt', hy, y0, y1, y2, y3, y4⟩ := RowAt.at hr1 hv' hbw hil'
                  have C := fun W hb => ih its[i] (List.getElem_mem hil) its'[i] _ _ W (hx.mono hb) (hy.mono hb)
                  have HT : Hid (sameV its[i] its'[i] = true → its.take (i + 1) = its'.take (i + 1)) := fun h => take_same hil hil' hall ((sameV_iff _ _).1 h)
                  have HF : Hid (sameV its[i] its'[i] = false → R = false) := fun h => by rw [← HRS.out]; exact sameL_false hil hil' h
                  obtain ⟨x, hxe⟩ : ∃ x, its[i] = x := ⟨_, rfl⟩
                  obtain ⟨y, hye⟩ : ∃ y, its'[i] = y := ⟨_, rfl⟩
                  rw [hxe] at x0 x1 x2 x3 x4 C HT HF
                  rw [hye] at y0 y1 y2 y3 y4 C HT HF
                  obtain ⟨r, hr⟩ : ∃ r, sameV x y = r := ⟨_, rfl⟩
                  rw [hr] at C HT HF
                  clear hx hy hxe hye hr hall
                  go_upto_region 6 with fail
                  go_region_held3 (fun w' => w'.cell? ⟨w.heap.size, 3, none⟩ = some (.slice (some ⟨b1, o1, none⟩) its.length cap) ∧ w'.cell? ⟨w.heap.size + 1, 3, none⟩ = some (.slice (some ⟨b2, o2, none⟩) its.length cap') ∧ w'.cell? ⟨b1, o1 + i * 5, none⟩ = some (.int .i64 x.kind) ∧ w'.cell? ⟨b1, o1 + i * 5 + 1, none⟩ = some (.bool x.flag) ∧ w'.cell? ⟨b1, o1 + i * 5 + 2, none⟩ = some (str x.text) ∧ w'.cell? ⟨b1, o1 + i * 5 + 3, none⟩ = some (.slice ai x.items.length ci) ∧ w'.cell? ⟨b1, o1 + i * 5 + 4, none⟩ = some (.slice aj x.keys.length cj) ∧ w'.cell? ⟨b2, o2 + i * 5, none⟩ = some (.int .i64 y.kind) ∧ w'.cell? ⟨b2, o2 + i * 5 + 1, none⟩ = some (.bool y.flag) ∧ w'.cell? ⟨b2, o2 + i * 5 + 2, none⟩ = some (str y.text) ∧ w'.cell? ⟨b2, o2 + i * 5 + 3, none⟩ = some (.slice ai' y.items.length ci') ∧ w'.cell? ⟨b2, o2 + i * 5 + 4, none⟩ = some (.slice aj' y.keys.length cj'))
                    (first | exact ⟨q3, q3', x0, x1, x2, x3, x4, y0, y1, y2, y3, y4⟩ | exact KS)
                    (first
                      | (go_at_call 23; refine (C _ (Below.refl _ wr).drew).mono ?_; rintro e w2 ⟨rfl, hq2⟩; have hd2 : Below wr.heap.size wr w2 := (Below.refl _ wr).drew.trans (hq2.mono (by simp)); have KS := And.intro ((hd2.cell (p := ⟨w.heap.size, 3, none⟩) (by have := hbl.size; show w.heap.size < wr.heap.size; omega)).trans q3) (And.intro ((hd2.cell (p := ⟨w.heap.size + 1, 3, none⟩) (by have := hbl.size; show w.heap.size + 1 < wr.heap.size; omega)).trans q3') (And.intro ((hd2.cell (p := ⟨b1, o1 + i * 5, none⟩) hlt).trans x0) (And.intro ((hd2.cell (p := ⟨b1, o1 + i * 5 + 1, none⟩) hlt).trans x1) (And.intro ((hd2.cell (p := ⟨b1, o1 + i * 5 + 2, none⟩) hlt).trans x2) (And.intro ((hd2.cell (p := ⟨b1, o1 + i * 5 + 3, none⟩) hlt).trans x3) (And.intro ((hd2.cell (p := ⟨b1, o1 + i * 5 + 4, none⟩) hlt).trans x4) (And.intro ((hd2.cell (p := ⟨b2, o2 + i * 5, none⟩) hlt').trans y0) (And.intro ((hd2.cell (p := ⟨b2, o2 + i * 5 + 1, none⟩) hlt').trans y1) (And.intro ((hd2.cell (p := ⟨b2, o2 + i * 5 + 2, none⟩) hlt').trans y2) (And.intro ((hd2.cell (p := ⟨b2, o2 + i * 5 + 3, none⟩) hlt').trans y3) ((hd2.cell (p := ⟨b2, o2 + i * 5 + 4, none⟩) hlt').trans y4)))))))))))))
                  have hb2 := hbl.trans (hd2.mono hbl.size)
                  clear KS x0 x1 x2 x3 x4 y0 y1 y2 y3 y4 q3 q3'
                  cases r with
                  | false =>
                    obtain rfl : R = false := HF.out rfl
                    clear HF HT HRS
                    go_wp2
                    go_ret
                    exact ⟨rfl, hbB.trans (hb2.mono (by omega))⟩
                  | true =>
                    have HT2 := Lib.hid (HT.out rfl)
                    clear HF HT
                    go_wp2
                    go_roundg g
                    case measure => omega
                    case rel => exact ⟨i + 1, by omega, by go_num, HT2.out, hb2⟩
            · have hli : ((its.length : Int) == (its'.length : Int)) = false := by simp; omega
              obtain rfl : R = false := by
                rw [← HRS.out]
                cases hs : sameL its its' with
                | false => rfl
                | true => exact absurd (by rw [(sameL_iff _ _).1 hs]) hl
              clear HRS
              go_enter Tryz.func23, Tryz.ntmps23
              go_wp2_with (rw [← hw1, ← hwB])
              refine T.mono ?_
              rintro e w' ⟨rfl, hq⟩
              have q3 := (hq.cell (p := ⟨w.heap.size, 3, none⟩) (by show w.heap.size < wB.heap.size; omega)).trans a3
              have q3' := (hq.cell (p := ⟨w.heap.size + 1, 3, none⟩) (by show w.heap.size + 1 < wB.heap.size; omega)).trans c3
              go_wp2
              go_ret
              exact ⟨rfl, hbB.trans (hq.mono (by omega))⟩
        · have e3' : (tx == tx') = false := by simpa using e3
          obtain rfl : false = R := by rw [← HR.out, e3']; simp
          clear HR
          go_enter Tryz.func23, Tryz.ntmps23
          go_wp2
          rw [← hw1, ← hwB]
          go_ret
          exact ⟨rfl, hbB⟩
      · have e2' : (b == b') = false := by simpa using e2
        obtain rfl : false = R := by rw [← HR.out, e2']; simp
        clear HR
        go_enter Tryz.func23, Tryz.ntmps23
        go_wp2
        rw [← hw1, ← hwB]
        go_ret
        exact ⟨rfl, hbB⟩
    · have e1' : (k == k') = false := by simpa using e1
      obtain rfl : false = R := by rw [← HR.out, e1']; simp
      clear HR
      go_enter Tryz.func23, Tryz.ntmps23
      go_wp2
      rw [← hw1, ← hwB]
      go_ret
      exact ⟨rfl, hbB⟩

end Go.Proofs.YtpbipngnoklmcaaGreatDoor
