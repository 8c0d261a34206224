/- The walk of the document's Texts: two rows of texts are the same. -/
import Derived.Test.YtnjbdedmalpccaaDoorPnB
namespace Go.Proofs.YtnjbdedmalpccaaDoor
open Go.RowKit
set_option maxRecDepth 100000
attribute [local go_sem] str_size str_toList str_get

set_option maxHeartbeats 1600000 in
theorem texts_any (xs ys : List (List UInt8)) (va vb : Value) (w : World) (ha : StrsAt w va xs) (hb : StrsAt w vb ys) : Calls Tryd.prog 7 #[va, vb] w fun e w' => e = .returned (.bool (xs == ys)) ∧ Below w.heap.size w w' := by
  have ha0 := ha
  have hb0 := hb
  obtain ⟨ao, c, rfl, hma, _⟩ := ha
  obtain ⟨bo, d, rfl, hmb, _⟩ := hb
  obtain ⟨R, hR⟩ : ∃ R, (xs == ys) = R := ⟨_, rfl⟩
  rw [hR]
  have HR := Lib.hid hR
  clear hR
  by_cases hl : xs.length = ys.length
  · rw [← hl] at hb0 ⊢
    go_enter Tryd.func7, Tryd.ntmps7
    go_wp2
    go_loopg [13] xs.length (fun g v13 wr => ∃ i : Nat, i + g = xs.length ∧ v13 = .int .i64 i ∧ xs.take i = ys.take i ∧ Below w.heap.size w wr)
    case atStart => exact ⟨0, by omega, rfl, rfl, Below.refl _ _⟩
    case round =>
      obtain ⟨i, hig, rfl, hall, hbl⟩ := hrel
      cases gk with
      | zero =>
        obtain rfl : i = xs.length := by omega
        have hRt : R = true := by
          rw [← HR.out, beq_iff_eq, ← List.take_length (l := xs), hall, hl, List.take_length]
        subst hRt
        clear hall HR
        go_wp2
        go_ret
        exact ⟨rfl, hbl⟩
      | succ g =>
        have hil : i < xs.length := by omega
        have hie : (i : Int) < (xs.length : Int) := by omega
        obtain ⟨b1, o1, rfl, l1, h1⟩ := StrsAt.get ha0 hil
        obtain ⟨b2, o2, rfl, l2, h2⟩ := StrsAt.get (ss := ys) (n := xs.length) hb0 (show i < ys.length by omega)
        have h1 := (hbl.cell (p := ⟨b1, o1 + i, none⟩) l1).trans h1
        have h2 := (hbl.cell (p := ⟨b2, o2 + i, none⟩) l2).trans h2
        rw [getD_at xs [] hil] at h1
        rw [getD_at ys [] (by omega)] at h2
        by_cases hx : xs[i] = ys[i]'(by omega)
        · have HT := Lib.hid (take_same hil (by omega) hall hx)
          rw [← hx] at h2
          obtain ⟨x, hxe⟩ : ∃ x, xs[i] = x := ⟨_, rfl⟩
          rw [hxe] at h1 h2
          clear hx hxe hall ha0 hb0
          go_wp2
          go_quiet (fail)
          go_wp2
          go_roundg g
          case measure => omega
          case rel => exact ⟨i + 1, by omega, by go_num, HT.out, below_drawn hbl _⟩
        · have hRf : R = false := by
            rw [← HR.out, beq_eq_false_iff_ne]
            rintro rfl
            exact hx rfl
          subst hRf
          obtain ⟨x, hxe⟩ : ∃ x, xs[i] = x := ⟨_, rfl⟩
          obtain ⟨y, hye⟩ : ∃ y, ys[i]'(by omega) = y := ⟨_, rfl⟩
          rw [hxe] at h1 hx
          rw [hye] at h2 hx
          have hxy : (x == y) = false := by simpa using hx
          clear hx hxe hye hall ha0 hb0 HR
          go_wp2
          go_quiet (fail)
          go_wp2
          go_ret
          exact ⟨rfl, below_drawn hbl _⟩
  · have hli : ((xs.length : Int) == (ys.length : Int)) = false := by simp; omega
    have hRf : R = false := by
      rw [← HR.out, beq_eq_false_iff_ne]
      rintro rfl
      exact hl rfl
    subst hRf
    clear ha0 hb0 HR hl
    go_enter Tryd.func7, Tryd.ntmps7
    go_wp2
    go_ret
    exact ⟨rfl, Below.refl _ _⟩

end Go.Proofs.YtnjbdedmalpccaaDoor
