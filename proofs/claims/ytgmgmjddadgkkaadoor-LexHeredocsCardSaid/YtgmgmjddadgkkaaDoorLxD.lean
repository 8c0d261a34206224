/- The walk of skip: what stands between tokens. -/
import Derived.Test.YtgmgmjddadgkkaaDoorLxC
namespace Go.Proofs.YtgmgmjddadgkkaaDoor
open Go.RowKit
set_option maxRecDepth 100000
attribute [local go_sem] str_size str_toList str_get

theorem idx_ge : ∀ (l : Bs) (c : UInt8), -1 ≤ Lib.indexByte l c
  | [], _ => by rw [Lib.indexByte]; decide
  | b :: l, c => by
    rw [Lib.indexByte]
    have := idx_ge l c
    split
    · decide
    · split
      · decide
      · omega
theorem idx_mem : ∀ (l : Bs) (c : UInt8), decide (0 ≤ Lib.indexByte l c) = l.contains c
  | [], c => by rw [Lib.indexByte]; rfl
  | b :: l, c => by
    rw [Lib.indexByte, List.contains_cons]
    have h := idx_mem l c
    have hg := idx_ge l c
    by_cases hb : b = c
    · subst hb; simp
    · have h1 : (b == c) = false := by simpa using hb
      have h2 : (c == b) = false := by simpa using fun e => hb e.symm
      rw [h1, h2, ← h]
      simp only [Bool.false_eq_true, if_false, Bool.false_or]
      by_cases hi : Lib.indexByte l c = -1
      · simp [hi]
      · have : (Lib.indexByte l c == -1) = false := by simpa using hi
        rw [this]
        simp only [Bool.false_eq_true, if_false]
        rw [Bool.eq_iff_iff, decide_eq_true_eq, decide_eq_true_eq]
        omega
theorem blank_eq (c : UInt8) : decide (0 ≤ Lib.indexByte [32, 9, 13] c) = blankB c := by
  rw [idx_mem]
  unfold blankB
  simp only [List.contains_cons, List.contains_nil, Bool.or_false]
theorem pre2_eq (a b c : UInt8) (r : Bs) : Lib.hasPrefix (c :: r) [a, b] = (c == a && r.head? == some b) := by
  unfold Lib.hasPrefix
  have e1 : (a == c) = (c == a) := by rw [Bool.eq_iff_iff]; simp; exact eq_comm
  cases r with
  | nil => simp [List.isPrefixOf]
  | cons d r =>
    have e2 : (b == d) = (d == b) := by rw [Bool.eq_iff_iff]; simp; exact eq_comm
    simp [List.isPrefixOf, e1, e2]
theorem end_eq : ∀ l : Bs, Lib.index l [42, 47] = match endN l with | none => -1 | some i => (i : Int)
  | [] => by rw [Lib.index, endN]; rfl
  | c :: r => by
    have h := end_eq r
    have hp := pre2_eq 42 47 c r
    unfold Lib.hasPrefix at hp
    rw [Lib.index, endN, hp]
    by_cases hc : (c == 42 && r.head? == some 47) = true
    · rw [if_pos hc, if_pos hc]; rfl
    · rw [if_neg hc, if_neg hc, h]
      cases endN r with
      | none => rfl
      | some i =>
        have : (((i : Nat) : Int) == -1) = false := by simp
        simp only [this, Option.map_some]
        simp

/-- internal/bytealg.MaxLen holds some int. -/
def MaxW (w : World) : Prop := ∃ m : Int, w.cell? ⟨0, 0, none⟩ = some (.int .i64 m)
theorem MaxW.mono {w w' : World} (h : MaxW w) (hb : Below w.heap.size w w') : MaxW w' := by
  obtain ⟨m, hm⟩ := h
  exact ⟨m, (hb.cell (p := ⟨0, 0, none⟩) (World.block_lt_of_cell? w ⟨0, 0, none⟩ hm)).trans hm⟩

set_option maxHeartbeats 2000000 in
theorem skip_any (s : Bs) (hl : s.length ≤ 100000) (w : World) (hM : MaxW w) : Calls Tryd.prog 14 #[str s] w fun e w' => e = .returned (.tuple #[.int .i64 (skipN s).1, .int .i64 (skipN s).2]) ∧ w' = w := by
  obtain ⟨R, hR⟩ : ∃ R, skipN s = R := ⟨_, rfl⟩
  rw [hR]
  have HR0 : Hid (R = ((skipN (s.drop 0)).1 + 0, (skipN (s.drop 0)).2)) := by
    show R = _
    rw [← hR]
    rfl
  clear hR
  obtain ⟨m, hm⟩ := hM
  have HM := Lib.hid hm
  clear hm
  have mixed : Tryd.prog.follows .mixedOrders = true := by kernel_rfl
  go_enter Tryd.func14, Tryd.ntmps14
  go_wp2
  go_loopg [4] s.length (fun gg v4 wr => ∃ i : Nat, i ≤ s.length ∧ s.length - i ≤ gg ∧ v4 = .int .i64 i ∧ Hid (R = ((skipN (s.drop i)).1 + i, (skipN (s.drop i)).2)) ∧ wr = w)
  case atStart => exact ⟨0, by omega, by omega, rfl, HR0, rfl⟩
  case round =>
    clear HR0
    obtain ⟨i, hil, hig, rfl, HR, rfl⟩ := hrel
    by_cases hi : i < s.length
    · have hie : (i : Int) < (s.length : Int) := by omega
      have hcut : (ByteArray.mk s.toArray).extract i s.length = ByteArray.mk (s.drop i).toArray := by
        rw [str_cut]
        congr 2
        rw [List.take_of_length_le (by simp)]
      obtain ⟨c, hc⟩ : ∃ c, s[i]?.getD 0 = c := ⟨_, rfl⟩
      have hci : s[i] = c := by rw [← hc]; simp [hi]
      have hdg := drop_get hi
      rw [hc] at hdg
      obtain ⟨r, hr⟩ : ∃ r, s.drop (i + 1) = r := ⟨_, rfl⟩
      rw [hr] at hdg
      have hrl : r.length + 1 + i = s.length := by
        have := congrArg List.length hr
        rw [List.length_drop] at this
        omega
      have hrn := HR.out
      have HDR := Lib.hid hr
      have HDG := Lib.hid hdg
      rw [hdg, skipN_cons] at hrn
      rw [hdg] at hcut
      have IB := fun W => Tryd.strings_IndexByte ⟨#[32, 9, 13]⟩ (c.toNat : Int) W
      have e0 : ((c.toNat : Int)).toNat.toUInt8 = c := by simp
      have hbl := blank_eq c
      rw [e0] at IB
      obtain ⟨X, hX⟩ : ∃ X, Lib.indexByte [32, 9, 13] c = X := ⟨_, rfl⟩
      have IB : ∀ W, Calls Tryd.prog 17 #[.string ⟨#[32, 9, 13]⟩, .int .u8 (c.toNat : Int)] W fun e w' => e = .returned (.int .i64 X) ∧ w' = W := fun W => by rw [← hX]; exact IB W
      rw [hX] at hbl
      have H1 := fun W => Tryd.strings_HasPrefix ⟨(c :: r).toArray⟩ ⟨#[47, 47]⟩ W
      have H2 := fun W => Tryd.strings_HasPrefix ⟨(c :: r).toArray⟩ ⟨#[47, 42]⟩ W
      simp only [pre2_eq] at H1 H2
      clear hX hc hr HR hdg e0
      obtain ⟨bl, hbl2⟩ : ∃ bl, blankB c = bl := ⟨_, rfl⟩
      rw [hbl2] at hbl hrn
      clear hbl2
      have HB := Lib.hid hbl
      clear hbl
      go_wp2_with fail
      refine (IB _).mono ?_
      rintro e w1 ⟨rfl, hw1⟩
      rw [hw1]
      clear hw1 w1 IB
      cases bl with
      | true =>
        have hx : (0 : Int) ≤ X := by simpa using HB.out
        have HR2 : Hid (R = ((skipN (s.drop (i + 1))).1 + (i + 1), (skipN (s.drop (i + 1))).2)) := by
          show R = _
          rw [hrn, if_pos rfl, HDR.out]
          simp only
          congr 1
          omega
        clear hrn HB H1 H2
        go_wp2
        go_roundg (s.length - (i + 1))
        case measure => omega
        case rel => exact ⟨i + 1, by omega, by omega, by go_num, HR2, rfl⟩
      | false =>
        have hx : ¬ (0 : Int) ≤ X := by simpa using HB.out
        rw [if_neg Bool.false_ne_true] at hrn
        obtain ⟨q1, hq1⟩ : ∃ q, (c == 47 && r.head? == some 47) = q := ⟨_, rfl⟩
        obtain ⟨q2, hq2⟩ : ∃ q, (c == 47 && r.head? == some 42) = q := ⟨_, rfl⟩
        rw [hq1] at H1 hrn
        rw [hq2] at H2 hrn
        have HQ2 := Lib.hid hq2
        have RL := fun W => run_line (c :: r) (by simp only [List.length_cons]; omega) W
        obtain ⟨n, hn⟩ : ∃ n, runN (· != 10) (c :: r) = n := ⟨_, rfl⟩
        have hnl := runN_le (· != 10) (c :: r)
        rw [hn] at RL hrn hnl
        simp only [List.length_cons] at hnl
        have hdn : (c :: r).drop n = s.drop (i + n) := by rw [← HDG.out, List.drop_drop]
        have hn1 : (c == 35 || q1) = true → 1 ≤ n := fun h => by
          rw [← hn]
          refine runN_pos ?_
          rw [← hq1] at h
          simp only [Bool.or_eq_true, Bool.and_eq_true, beq_iff_eq] at h
          rcases h with rfl | ⟨rfl, _⟩ <;> decide
        have hcc : ((c.toNat : Int) == 35) = (c == 35) := u8_eq c 35
        obtain ⟨h35, hh35⟩ : ∃ h, (c == 35) = h := ⟨_, rfl⟩
        rw [hh35] at hcc hrn hn1
        have HRN := Lib.hid hrn
        have HN1 := Lib.hid hn1
        have HDN := Lib.hid hdn
        clear hn hq1 hq2 hdn hrn hn1 HB hh35
        cases h35 with
        | true =>
          have h1n := HN1.out rfl
          have HR2 : Hid (R = ((skipN (s.drop (i + n))).1 + (i + n), (skipN (s.drop (i + n))).2)) := by
            show R = _
            rw [HRN.out, if_pos (by simp), HDN.out]
            simp only
            congr 1
            omega
          clear HRN HN1 HDN H1 H2
          go_wp2_with fail
          refine (RL _).mono ?_
          rintro e w1 ⟨rfl, hw1⟩
          rw [hw1]
          clear hw1 w1 RL
          go_wp2
          go_roundg (s.length - (i + n))
          case measure => omega
          case rel => exact ⟨i + n, by omega, by omega, by go_num, HR2, rfl⟩
        | false =>
          go_wp2_with fail
          refine (H1 _).mono ?_
          rintro e w1 ⟨rfl, hw1⟩
          rw [hw1]
          clear hw1 w1 H1
          cases q1 with
          | true =>
            have h1n := HN1.out rfl
            have HR2 : Hid (R = ((skipN (s.drop (i + n))).1 + (i + n), (skipN (s.drop (i + n))).2)) := by
              show R = _
              rw [HRN.out, if_pos (by simp), HDN.out]
              simp only
              congr 1
              omega
            clear HRN HN1 HDN H2
            go_wp2_with fail
            refine (RL _).mono ?_
            rintro e w1 ⟨rfl, hw1⟩
            rw [hw1]
            clear hw1 w1 RL
            go_wp2
            go_roundg (s.length - (i + n))
            case measure => omega
            case rel => exact ⟨i + n, by omega, by omega, by go_num, HR2, rfl⟩
          | false =>
            clear RL HN1 HDN hnl
            go_wp2_with fail
            refine (H2 _).mono ?_
            rintro e w1 ⟨rfl, hw1⟩
            rw [hw1]
            clear hw1 w1 H2
            cases q2 with
            | false =>
              have hRe : R = (i, 0) := by
                rw [HRN.out, if_neg (by simp), if_neg Bool.false_ne_true]
                simp
              subst hRe
              clear HRN HQ2
              go_wp2
              go_ret2
              exact ⟨rfl, rfl⟩
            | true =>
              have hr1 : 1 ≤ r.length := by
                have := HQ2.out
                cases r with
                | nil => simp at this
                | cons _ _ => simp
              have hcut2 : (ByteArray.mk (c :: r).toArray).extract 2 (r.length + 1) = ByteArray.mk (r.drop 1).toArray := by
                rw [str_cut]
                congr 2
                rw [List.drop_succ_cons, List.take_of_length_le (by rw [List.length_drop]; omega)]
              have h2le : (2 : Int) ≤ (r.length : Int) + 1 := by omega
              have IX := fun W (hm : W.cell? ⟨0, 0, none⟩ = some (.int .i64 m)) => Tryd.strings_Index ⟨(r.drop 1).toArray⟩ ⟨#[42, 47]⟩ m W (by rw [str_size, List.length_drop]; omega) hm
              simp only [end_eq] at IX
              have hel := fun j => endN_le (l := r.drop 1) (i := j)
              rw [List.length_drop] at hel
              have hrn := HRN.out
              rw [if_neg (by simp), if_pos rfl] at hrn
              obtain ⟨d, hd⟩ : ∃ d, r.drop 1 = d := ⟨_, rfl⟩
              rw [hd] at hcut2 IX hrn hel
              obtain ⟨o, ho⟩ : ∃ o, endN d = o := ⟨_, rfl⟩
              rw [ho] at IX hrn hel
              have HRN2 := Lib.hid hrn
              clear hd ho HRN HQ2 hrn
              cases o with
              | none =>
                have hRe : R = (i, 40) := by
                  rw [HRN2.out]
                  simp
                subst hRe
                clear HRN2 hel
                go_wp2_with fail
                refine (IX _ HM.out).mono ?_
                rintro e w1 ⟨rfl, hw1⟩
                rw [hw1]
                clear hw1 w1 IX
                go_wp2
                go_ret2
                exact ⟨rfl, rfl⟩
              | some j =>
                have hj := hel j rfl
                have hdn : (c :: r).drop (j + 4) = s.drop (i + (j + 4)) := by rw [← HDG.out, List.drop_drop]
                have HR2 : Hid (R = ((skipN (s.drop (i + (j + 4)))).1 + (i + (j + 4)), (skipN (s.drop (i + (j + 4)))).2)) := by
                  show R = _
                  rw [HRN2.out]
                  simp only
                  rw [hdn]
                  congr 1
                  omega
                clear HRN2 hel hdn
                go_wp2_with fail
                refine (IX _ HM.out).mono ?_
                rintro e w1 ⟨rfl, hw1⟩
                rw [hw1]
                clear hw1 w1 IX
                go_wp2
                go_roundg (s.length - (i + (j + 4)))
                case measure => omega
                case rel => exact ⟨i + (j + 4), by omega, by omega, by go_num, HR2, rfl⟩
    · obtain rfl : i = s.length := by omega
      have hie : ¬ (s.length : Int) < (s.length : Int) := by omega
      have hRe : R = (s.length, 0) := by
        rw [HR.out, List.drop_length, skipN_nil]
        simp
      subst hRe
      clear HR
      go_wp2
      go_ret2
      exact ⟨rfl, rfl⟩

end Go.Proofs.YtgmgmjddadgkkaaDoor
