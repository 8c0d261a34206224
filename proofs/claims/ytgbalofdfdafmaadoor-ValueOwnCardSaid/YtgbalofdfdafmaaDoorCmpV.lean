/- The walk of value.Cmp and what it calls. -/
import Derived.Test.YtgbalofdfdafmaaDoorValE
import Derived.Test.YtgbalofdfdafmaaDoorMg
import Derived.Test.YtgbalofdfdafmaaDoorSrch
import Derived.Deep.RegionWith
namespace Go.Proofs.YtgbalofdfdafmaaDoor
open Go.RowKit
set_option maxRecDepth 100000
attribute [local go_sem] str_size str_toList str_get

def cmpI (a b : Int) : Int := if a < b then -1 else if b < a then 1 else 0
theorem ordS_eq {a b : List UInt8} : ordS a b = 0 ↔ a = b := by
  unfold ordS
  constructor
  · intro h
    split at h
    · cases h
    · next h1 =>
      split at h
      · cases h
      · next h2 => exact ltS_tri (by simpa using h1) (by simpa using h2)
  · rintro rfl
    rw [ltS_irr]
    rfl
theorem compareBytes_ord : ∀ a b : List UInt8, Lib.compareBytes a b = ordS a b
  | [], [] => rfl
  | [], _ :: _ => rfl
  | _ :: _, [] => rfl
  | x :: r, y :: s => by
    rw [Lib.compareBytes, compareBytes_ord r s]
    unfold ordS
    rw [ltS, ltS]
    by_cases h : x = y
    · subst h; simp
    · have h' : y ≠ x := Ne.symm h
      rw [if_neg h, if_neg h']
      by_cases h1 : x < y
      · simp [h1]
      · have h2 : y < x := UInt8.lt_of_le_of_ne (UInt8.not_lt.1 h1) h'
        simp [h1, h2]
theorem ordL_drop {α : Type} {f : α → α → Int} {l m : List α} {i : Nat} (hl : i < l.length) (hm : i < m.length) : ordL f (l.drop i) (m.drop i) = if f l[i] m[i] = 0 then ordL f (l.drop (i + 1)) (m.drop (i + 1)) else f l[i] m[i] := by
  rw [List.drop_eq_getElem_cons hl, List.drop_eq_getElem_cons hm, ordL]
theorem ordL_more {α : Type} {f : α → α → Int} {l m : List α} {i : Nat} (hl : i < l.length) (hm : m.length ≤ i) : ordL f (l.drop i) (m.drop i) = 1 := by
  rw [List.drop_eq_getElem_cons hl, List.drop_of_length_le hm, ordL]
theorem ordL_less {α : Type} {f : α → α → Int} {l m : List α} {i : Nat} (hl : l.length ≤ i) (hm : i < m.length) : ordL f (l.drop i) (m.drop i) = -1 := by
  rw [List.drop_eq_getElem_cons hm, List.drop_of_length_le hl, ordL]
theorem ordL_same {α : Type} {f : α → α → Int} {l m : List α} {i : Nat} (hl : l.length ≤ i) (hm : m.length ≤ i) : ordL f (l.drop i) (m.drop i) = 0 := by
  rw [List.drop_of_length_le hm, List.drop_of_length_le hl, ordL]

theorem nan_kind (a : Int) (w : World) : Calls Tryd.prog 62 #[.int .i64 a] w fun e w' => e = .returned (.bool false) ∧ w' = w := by
  go_enter Tryd.func62, Tryd.ntmps62
  go_wp2
  go_ret
  exact ⟨by simp, rfl⟩
theorem nan_int (a : Int) (w : World) : Calls Tryd.prog 63 #[.int .i64 a] w fun e w' => e = .returned (.bool false) ∧ w' = w := by
  go_enter Tryd.func63, Tryd.ntmps63
  go_wp2
  go_ret
  exact ⟨by simp, rfl⟩
theorem compare_kind (a b : Int) (w : World) : Calls Tryd.prog 45 #[.int .i64 a, .int .i64 b] w fun e w' => e = .returned (.int .i64 (cmpI a b)) ∧ w' = w := by
  obtain ⟨r, hr⟩ : ∃ r, cmpI a b = r := ⟨_, rfl⟩
  rw [hr]
  unfold cmpI at hr
  by_cases h1 : a < b
  · rw [if_pos h1] at hr
    subst hr
    go_enter Tryd.func45, Tryd.ntmps45
    go_wp2_with (go_at_call 62; refine (nan_kind _ _).mono ?_; rintro e w' ⟨rfl, rfl⟩)
    go_ret
    exact ⟨rfl, rfl⟩
  · rw [if_neg h1] at hr
    by_cases h2 : b < a
    · rw [if_pos h2] at hr
      subst hr
      go_enter Tryd.func45, Tryd.ntmps45
      go_wp2_with (go_at_call 62; refine (nan_kind _ _).mono ?_; rintro e w' ⟨rfl, rfl⟩)
      go_ret
      exact ⟨rfl, rfl⟩
    · rw [if_neg h2] at hr
      subst hr
      go_enter Tryd.func45, Tryd.ntmps45
      go_wp2_with (go_at_call 62; refine (nan_kind _ _).mono ?_; rintro e w' ⟨rfl, rfl⟩)
      go_ret
      exact ⟨rfl, rfl⟩
theorem compare_ints (a b : Int) (w : World) : Calls Tryd.prog 46 #[.int .i64 a, .int .i64 b] w fun e w' => e = .returned (.int .i64 (cmpI a b)) ∧ w' = w := by
  obtain ⟨r, hr⟩ : ∃ r, cmpI a b = r := ⟨_, rfl⟩
  rw [hr]
  unfold cmpI at hr
  by_cases h1 : a < b
  · rw [if_pos h1] at hr
    subst hr
    go_enter Tryd.func46, Tryd.ntmps46
    go_wp2_with (go_at_call 63; refine (nan_int _ _).mono ?_; rintro e w' ⟨rfl, rfl⟩)
    go_ret
    exact ⟨rfl, rfl⟩
  · rw [if_neg h1] at hr
    by_cases h2 : b < a
    · rw [if_pos h2] at hr
      subst hr
      go_enter Tryd.func46, Tryd.ntmps46
      go_wp2_with (go_at_call 63; refine (nan_int _ _).mono ?_; rintro e w' ⟨rfl, rfl⟩)
      go_ret
      exact ⟨rfl, rfl⟩
    · rw [if_neg h2] at hr
      subst hr
      go_enter Tryd.func46, Tryd.ntmps46
      go_wp2_with (go_at_call 63; refine (nan_int _ _).mono ?_; rintro e w' ⟨rfl, rfl⟩)
      go_ret
      exact ⟨rfl, rfl⟩
theorem compare_str (a b : List UInt8) (w : World) : Calls Tryd.prog 68 #[str a, str b] w fun e w' => e = .returned (.int .i64 (ordS a b)) ∧ w' = w := by
  have hl1 := bytesLess_eq a b
  have hl2 := bytesLess_eq b a
  obtain ⟨r, hr⟩ : ∃ r, ordS a b = r := ⟨_, rfl⟩
  rw [hr]
  unfold ordS at hr
  cases h1 : ltS a b with
  | true =>
    rw [h1] at hr hl1
    rw [if_pos rfl] at hr
    subst hr
    clear hl2 h1
    go_enter Tryd.func68, Tryd.ntmps68
    go_wp2_with (go_at_call 69; refine (nan_cmp _ _).mono ?_; rintro e w' ⟨rfl, rfl⟩)
    go_ret
    exact ⟨rfl, rfl⟩
  | false =>
    rw [h1] at hr hl1
    rw [if_neg Bool.false_ne_true] at hr
    cases h2 : ltS b a with
    | true =>
      rw [h2] at hr hl2
      rw [if_pos rfl] at hr
      subst hr
      have hne : (a == b) = false := by
        rw [beq_eq_false_iff_ne]
        rintro rfl
        rw [h1] at h2
        cases h2
      clear h1 h2
      go_enter Tryd.func68, Tryd.ntmps68
      go_wp2_with (go_at_call 69; refine (nan_cmp _ _).mono ?_; rintro e w' ⟨rfl, rfl⟩)
      go_ret
      exact ⟨rfl, rfl⟩
    | false =>
      rw [h2] at hr hl2
      rw [if_neg Bool.false_ne_true] at hr
      subst hr
      obtain rfl := ltS_tri h1 h2
      clear h1 h2
      go_enter Tryd.func68, Tryd.ntmps68
      go_wp2_with (go_at_call 69; refine (nan_cmp _ _).mono ?_; rintro e w' ⟨rfl, rfl⟩)
      go_ret
      exact ⟨rfl, rfl⟩
theorem strings_cmp (a b : List UInt8) (w : World) : Calls Tryd.prog 49 #[str a, str b] w fun e w' => e = .returned (.int .i64 (ordS a b)) ∧ w' = w := by
  have h := Tryd.strings_Compare ⟨a.toArray⟩ ⟨b.toArray⟩ w
  rw [compareBytes_ord] at h
  simpa using h
theorem truth_any (b : Bool) (w : World) : Calls Tryd.prog 47 #[.bool b] w fun e w' => e = .returned (.int .i64 (if b = true then 1 else 0)) ∧ w' = w := by
  cases b
  all_goals
    go_enter Tryd.func47, Tryd.ntmps47
    go_wp2
    go_ret
    exact ⟨rfl, rfl⟩

set_option maxHeartbeats 1600000 in
theorem compare_keys (xs ys : List (List UInt8)) (va vb : Value) (w : World) (ha : StrsAt w va xs) (hb : StrsAt w vb ys) : Calls Tryd.prog 51 #[va, vb] w fun e w' => e = .returned (.int .i64 (ordL ordS xs ys)) ∧ w' = w := by
  have ha0 := ha
  have hb0 := hb
  obtain ⟨ao, c, rfl, hma, _⟩ := ha
  obtain ⟨bo, d, rfl, hmb, _⟩ := hb
  obtain ⟨R, hR⟩ : ∃ R, ordL ordS xs ys = R := ⟨_, rfl⟩
  rw [hR]
  go_enter Tryd.func51, Tryd.ntmps51
  go_wp2
  go_loopg [11] xs.length (fun g v11 wr => ∃ i : Nat, i + g = xs.length ∧ v11 = .int .i64 i ∧ Hid (ordL ordS (xs.drop i) (ys.drop i) = R) ∧ wr = w)
  case atStart => exact ⟨0, by omega, rfl, hR, rfl⟩
  case round =>
    clear hR
    obtain ⟨i, hig, rfl, HI, hwr⟩ := hrel
    subst hwr
    cases gk with
    | zero =>
      obtain rfl : i = xs.length := by omega
      by_cases hlt : xs.length < ys.length
      · obtain rfl : -1 = R := by rw [← HI.out]; exact (ordL_less (Nat.le_refl _) hlt).symm
        have hlt' : (xs.length : Int) < (ys.length : Int) := by omega
        go_wp2
        go_ret
        exact ⟨rfl, rfl⟩
      · obtain rfl : 0 = R := by rw [← HI.out]; exact (ordL_same (Nat.le_refl _) (by omega)).symm
        have hlt' : ¬ (xs.length : Int) < (ys.length : Int) := by omega
        go_wp2
        go_ret
        exact ⟨rfl, rfl⟩
    | succ g =>
      have hil : i < xs.length := by omega
      have hie : (i : Int) < (xs.length : Int) := by omega
      obtain ⟨b1, o1, rfl, l1, h1⟩ := StrsAt.get ha0 hil
      rw [getD_at xs [] hil] at h1
      by_cases hlt : i < ys.length
      · have hlt' : (i : Int) < (ys.length : Int) := by omega
        obtain ⟨b2, o2, rfl, l2, h2⟩ := StrsAt.get hb0 hlt
        rw [getD_at ys [] hlt] at h2
        have hd := HI.out
        rw [ordL_drop hil hlt] at hd
        have C := fun W => compare_str xs[i] ys[i] W
        obtain ⟨x, hxe⟩ : ∃ x, xs[i] = x := ⟨_, rfl⟩
        obtain ⟨y, hye⟩ : ∃ y, ys[i] = y := ⟨_, rfl⟩
        rw [hxe] at h1 hd C
        rw [hye] at h2 hd C
        obtain ⟨r, hr⟩ : ∃ r, ordS x y = r := ⟨_, rfl⟩
        rw [hr] at hd C
        by_cases hz : r = 0
        · subst hz
          rw [if_pos rfl] at hd
          have HD := Lib.hid hd
          clear hd hr hxe hye HI ha0 hb0
          go_wp2_with (go_at_call 68; refine (C _).mono ?_; rintro e w' ⟨rfl, rfl⟩)
          go_roundg g
          case measure => omega
          case rel => exact ⟨i + 1, by omega, by go_num, HD, rfl⟩
        · rw [if_neg hz] at hd
          subst hd
          have hzb : (r == 0) = false := by simpa using hz
          have hzc : (r != 0) = true := by simpa using hz
          clear hr hxe hye HI ha0 hb0 hz
          go_wp2_with (go_at_call 68; refine (C _).mono ?_; rintro e w' ⟨rfl, rfl⟩)
          go_ret
          exact ⟨rfl, rfl⟩
      · obtain rfl : 1 = R := by rw [← HI.out]; exact (ordL_more hil (by omega)).symm
        have hlt' : ¬ (i : Int) < (ys.length : Int) := by omega
        have hlt'' : (ys.length : Int) ≤ (i : Int) := by omega
        go_wp2
        go_ret
        exact ⟨rfl, rfl⟩

theorem or_two (a b : Int) (g : Nat) (w : World) (h0 : w.cell? ⟨g, 0, none⟩ = some (.int .i64 a)) (h1 : w.cell? ⟨g, 1, none⟩ = some (.int .i64 b)) :
    Calls Tryd.prog 50 #[.slice (some ⟨g, 0, none⟩) 2 2] w fun e w' => e = .returned (.int .i64 (if a = 0 then b else a)) ∧ w' = w := by
  obtain ⟨R, hR⟩ : ∃ R, (if a = 0 then b else a) = R := ⟨_, rfl⟩
  rw [hR]
  have HR := Lib.hid hR
  clear hR
  go_enter Tryd.func50, Tryd.ntmps50
  go_wp2
  go_loopg [8] 2 (fun gk v8 wr => ∃ i : Nat, i + gk = 2 ∧ v8 = .int .i64 i ∧ Hid (0 < i → a = 0) ∧ Hid (1 < i → b = 0) ∧ wr = w)
  case atStart => exact ⟨0, by omega, rfl, fun h => by omega, fun h => by omega, rfl⟩
  case round =>
    obtain ⟨i, hig, rfl, HA, HB, hwr⟩ := hrel
    subst hwr
    cases gk with
    | zero =>
      obtain rfl : i = 2 := by omega
      obtain rfl : 0 = R := by rw [← HR.out, if_pos (HA.out (by omega)), HB.out (by omega)]
      go_wp2
      go_ret
      exact ⟨rfl, rfl⟩
    | succ g' =>
      have hi2 : i = 0 ∨ i = 1 := by omega
      rcases hi2 with rfl | rfl
      · by_cases ha : a = 0
        · subst ha
          clear HA HB
          go_wp2
          go_roundg 1
          case measure => omega
          case rel => exact ⟨1, by omega, (by first | trivial | rfl), (by first | trivial | exact fun _ => trivial | exact fun _ => rfl), (by first | trivial | exact fun h => absurd h (by omega)), (by first | trivial | rfl)⟩
        · obtain rfl : a = R := by rw [← HR.out, if_neg ha]
          have hzb : (a == 0) = false := by simpa using ha
          have hzc : (a != 0) = true := by simpa using ha
          clear HA HB HR ha
          go_wp2
          go_ret
          exact ⟨rfl, rfl⟩
      · have ha := HA.out (by omega)
        obtain rfl : b = R := by rw [← HR.out, if_pos ha]
        by_cases hb : b = 0
        · subst hb
          clear HA HB HR
          have HA := Lib.hid ha
          clear ha
          go_wp2
          go_roundg 0
          case measure => omega
          case rel => exact ⟨2, by omega, (by first | trivial | rfl), (by first | trivial | exact fun _ => HA.out), (by first | trivial | exact fun _ => trivial | exact fun _ => rfl), (by first | trivial | rfl)⟩
        · have hzb : (b == 0) = false := by simpa using hb
          have hzc : (b != 0) = true := by simpa using hb
          clear HA HB HR hb ha
          go_wp2
          go_ret
          exact ⟨rfl, rfl⟩

end Go.Proofs.YtgbalofdfdafmaaDoor
