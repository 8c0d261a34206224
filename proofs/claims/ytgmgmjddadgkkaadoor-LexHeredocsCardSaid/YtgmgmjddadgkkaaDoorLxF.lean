/- The walk of insertion, and both by induction. -/
import Derived.Test.YtgmgmjddadgkkaaDoorLxE
namespace Go.Proofs.YtgmgmjddadgkkaaDoor
open Go.RowKit
set_option maxRecDepth 100000
attribute [local go_sem] str_size str_toList str_get

set_option maxHeartbeats 4000000 in
theorem ins_step (n : Nat) (hn : n ≤ 100000) (ih : TxIns n) (s : Bs) (d : Nat) (w : World) (hl : s.length ≤ n + 1) (hs : s ≠ []) (hd : d ≤ 25) :
    Calls Tryd.prog 31 #[str s, .int .i64 d] w fun e w' => e = .returned (.tuple #[.int .i64 (ins s d).1, .int .i64 (ins s d).2]) ∧ w' = w := by
  have hs1 : 1 ≤ s.length := by
    cases s with
    | nil => exact absurd rfl hs
    | cons _ _ => simp
  rw [ins_eq hs]
  by_cases hd24 : 24 < d
  · rw [if_pos hd24]
    have hdg : (24 : Int) < (d : Int) := by omega
    go_enter Tryd.func31, Tryd.ntmps31
    go_wp2
    go_ret2
    exact ⟨rfl, rfl⟩
  rw [if_neg hd24]
  have hdg : ¬ (24 : Int) < (d : Int) := by omega
  obtain ⟨R, hR⟩ : ∃ R, addN 1 (il (s.drop 1) d) = R := ⟨_, rfl⟩
  rw [hR]
  have HR0 : Hid (R = addN 1 (il (s.drop 1) d)) := hR.symm
  clear hR hs
  have IHT := Lib.hid ih.1
  have IHI := Lib.hid ih.2
  clear ih
  have hwd : IntKind.i64.wrap ((d : Int) + 1) = (d : Int) + 1 := by rw [IntKind.wrap_i64]; omega
  go_enter Tryd.func31, Tryd.ntmps31
  go_wp2
  go_loopg [6] s.length (fun gg v6 wr => ∃ i : Nat, 1 ≤ i ∧ i ≤ s.length ∧ s.length - i ≤ gg ∧ v6 = .int .i64 i ∧ Hid (R = addN i (il (s.drop i) d)) ∧ wr = w)
  case atStart => exact ⟨1, by omega, by omega, by omega, rfl, HR0, rfl⟩
  case round =>
    clear HR0
    obtain ⟨i, hi1, hil, hig, rfl, HR, rfl⟩ := hrel
    by_cases hi : i < s.length
    · have hie : (i : Int) < (s.length : Int) := by omega
      have hcut := cut_from s i
      obtain ⟨c, hc⟩ : ∃ c, s[i]?.getD 0 = c := ⟨_, rfl⟩
      have hci : s[i] = c := by rw [← hc]; simp [hi]
      have hdg2 := drop_get hi
      rw [hc] at hdg2
      obtain ⟨r, hr⟩ : ∃ r, s.drop (i + 1) = r := ⟨_, rfl⟩
      rw [hr] at hdg2
      have hrl : r.length + 1 + i = s.length := by
        have := congrArg List.length hr
        rw [List.length_drop] at this
        omega
      have hrn := HR.out
      rw [hdg2, il_cons] at hrn
      rw [hdg2] at hcut
      have hdk : ∀ k, r.drop k = s.drop (i + 1 + k) := fun k => by rw [← hr, List.drop_drop]
      have hdk2 : ∀ k, (c :: r).drop k = s.drop (i + k) := fun k => by rw [← hdg2, List.drop_drop]
      have HDK := Lib.hid hdk
      have HDK2 := Lib.hid hdk2
      have hc125 : ((c.toNat : Int) == 125) = (c == 125) := u8_eq c 125
      have hc10 : ((c.toNat : Int) == 10) = (c == 10) := u8_eq c 10
      have hc123 : ((c.toNat : Int) == 123) = (c == 123) := u8_eq c 123
      have hc34 : ((c.toNat : Int) == 34) = (c == 34) := u8_eq c 34
      have HRN := Lib.hid hrn
      clear hrn HR hdg2 hr hc hdk hdk2
      by_cases h125 : c = 125
      · have hb : (c == 125) = true := by simpa using h125
        rw [hb] at hc125
        have hRe : R = (i + 1, 0) := by rw [HRN.out, if_pos h125, addN_zero i rfl]; simp only; rw [Nat.add_comm]
        subst hRe
        clear HRN h125 hb
        go_wp2
        go_ret2
        exact ⟨rfl, rfl⟩
      have hb125 : (c == 125) = false := by simpa using h125
      rw [hb125] at hc125
      by_cases h10 : c = 10
      · have hb : (c == 10) = true := by simpa using h10
        rw [hb] at hc10
        have hRe : R = (0, 40) := by rw [HRN.out, if_neg h125, if_pos h10]; exact addN_lit i 40 (by decide)
        subst hRe
        clear HRN h125 h10 hb
        go_wp2
        go_ret2
        exact ⟨rfl, rfl⟩
      have hb10 : (c == 10) = false := by simpa using h10
      rw [hb10] at hc10
      by_cases h123 : c = 123
      · have hb : (c == 123) = true := by simpa using h123
        rw [hb] at hc123
        have hrn := HRN.out
        rw [if_neg h125, if_neg h10, if_pos h123] at hrn
        have CI := fun W => IHI.out (c :: r) (d + 1) W (by simp only [List.length_cons]; omega) (by simp) (by omega)
        have hib := ins_bd (s := c :: r) (by simp) (d + 1)
        have hd1 : ((d + 1 : Nat) : Int) = (d : Int) + 1 := by omega
        rw [hd1] at CI
        obtain ⟨⟨a, e⟩, hx⟩ : ∃ x, ins (c :: r) (d + 1) = x := ⟨_, rfl⟩
        rw [hx] at CI hib hrn
        simp only [List.length_cons] at CI hib hrn
        have HRN3 := Lib.hid hrn
        have HIB := Lib.hid hib
        clear hx hrn hib HRN hd1 h125 h10 h123 hb hb125 hb10
        go_wp2_with fail
        refine (CI _).mono ?_
        rintro e1 w1 ⟨rfl, hw1⟩
        rw [hw1]
        clear hw1 w1 CI
        by_cases h0 : e = 0
        · subst h0
          have hab := HIB.out.1
          have hab1 := HIB.out.2 rfl
          have HR2 : Hid (R = addN (i + a) (il (s.drop (i + a)) d)) := by
            show R = _
            rw [HRN3.out, if_pos rfl, addN_addN, HDK2.out a]
          clear HRN3 HIB
          go_wp2
          go_roundg (s.length - (i + a))
          case measure => omega
          case rel => exact ⟨i + a, by omega, by omega, by omega, by go_num, HR2, rfl⟩
        · have hRe : R = (0, e) := by rw [HRN3.out, if_neg h0]; exact addN_lit i e h0
          have he0 : (e == 0) = false := by simpa using h0
          have he1 : (e != 0) = true := by simpa using h0
          subst hRe
          clear HRN3 HIB h0
          go_wp2
          go_ret2
          exact ⟨rfl, rfl⟩
      have hb123 : (c == 123) = false := by simpa using h123
      rw [hb123] at hc123
      by_cases h34 : c = 34
      · have hb : (c == 34) = true := by simpa using h34
        rw [hb] at hc34
        have hrn := HRN.out
        rw [if_neg h125, if_neg h10, if_neg h123, if_pos h34] at hrn
        have CT := fun W => IHT.out (c :: r) d W (by simp only [List.length_cons]; omega) (by simp) (by omega)
        simp only [List.drop_succ_cons, List.drop_zero] at CT
        have hib := tx_bd r d
        obtain ⟨⟨a, e⟩, hx⟩ : ∃ x, tx r d = x := ⟨_, rfl⟩
        rw [hx] at CT hib hrn
        simp only at CT hib hrn
        have HRN3 := Lib.hid hrn
        have HIB := Lib.hid hib
        clear hx hrn hib HRN h125 h10 h123 h34 hb hb125 hb10 hb123
        by_cases h0 : e = 0
        · subst h0
          rw [addN_zero 1 rfl] at CT
          have hab := HIB.out.1
          have HR2 : Hid (R = addN (i + (a + 1)) (il (s.drop (i + (a + 1))) d)) := by
            show R = _
            rw [HRN3.out, if_pos rfl, addN_addN, HDK.out a, show i + 1 + a = i + (a + 1) by omega]
          clear HRN3 HIB
          go_wp2_with fail
          refine (CT _).mono ?_
          rintro e1 w1 ⟨rfl, hw1⟩
          rw [hw1]
          clear hw1 w1 CT
          go_wp2
          go_roundg (s.length - (i + (a + 1)))
          case measure => omega
          case rel => exact ⟨i + (a + 1), by omega, by omega, by omega, by go_num, HR2, rfl⟩
        · rw [addN_err 1 h0] at CT
          have hRe : R = (0, e) := by rw [HRN3.out, if_neg h0]; exact addN_lit i e h0
          have he0 : (e == 0) = false := by simpa using h0
          have he1 : (e != 0) = true := by simpa using h0
          subst hRe
          clear HRN3 HIB h0
          go_wp2_with fail
          refine (CT _).mono ?_
          rintro e1 w1 ⟨rfl, hw1⟩
          rw [hw1]
          clear hw1 w1 CT
          go_wp2
          go_ret2
          exact ⟨rfl, rfl⟩
      have hb34 : (c == 34) = false := by simpa using h34
      rw [hb34] at hc34
      have HR2 : Hid (R = addN (i + 1) (il (s.drop (i + 1)) d)) := by
        show R = _
        have := HDK.out 0
        rw [List.drop_zero] at this
        rw [HRN.out, if_neg h125, if_neg h10, if_neg h123, if_neg h34, addN_addN, this]
      clear HRN h125 h10 h123 h34 hb125 hb10 hb123 hb34
      go_wp2
      go_roundg (s.length - (i + 1))
      case measure => omega
      case rel => exact ⟨i + 1, by omega, by omega, by omega, by go_num, HR2, rfl⟩
    · obtain rfl : i = s.length := by omega
      have hie : ¬ (s.length : Int) < (s.length : Int) := by omega
      have hRe : R = (0, 40) := by
        rw [HR.out, List.drop_length, il_nil]
        exact addN_lit _ 40 (by decide)
      subst hRe
      clear HR
      go_wp2
      go_ret2
      exact ⟨rfl, rfl⟩

theorem tx_ins : ∀ n : Nat, n ≤ 100000 → TxIns n
  | 0, _ => by
    refine ⟨fun s d w h hs => ?_, fun s d w h hs => ?_⟩ <;> exact absurd (List.eq_nil_of_length_eq_zero (by omega)) hs
  | n + 1, h => ⟨fun s d w hl hs hd => text_step n (by omega) (tx_ins n (by omega)) s d w hl hs hd, fun s d w hl hs hd => ins_step n (by omega) (tx_ins n (by omega)) s d w hl hs hd⟩
theorem text_any (s : Bs) (d : Nat) (w : World) (hl : s.length ≤ 100000) (hs : s ≠ []) (hd : d ≤ 24) :
    Calls Tryd.prog 25 #[str s, .int .i64 d] w fun e w' => e = .returned (.tuple #[.int .i64 (addN 1 (tx (s.drop 1) d)).1, .int .i64 (addN 1 (tx (s.drop 1) d)).2]) ∧ w' = w :=
  (tx_ins 100000 (Nat.le_refl _)).1 s d w hl hs hd

end Go.Proofs.YtgmgmjddadgkkaaDoor
