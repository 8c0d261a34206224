/- The walks of run, of a name's and a remark's bytes, and of skip. -/
import Derived.Test.YtgmgmjddadgkkaaDoorLxA
import Derived.Test.YtgmgmjddadgkkaaDoorShelf
namespace Go.Proofs.YtgmgmjddadgkkaaDoor
open Go.RowKit
set_option maxRecDepth 100000
attribute [local go_sem] str_size str_toList str_get

theorem drop_get {s : Bs} {i : Nat} (h : i < s.length) : s.drop i = s[i]?.getD 0 :: s.drop (i + 1) := by
  rw [List.drop_eq_getElem_cons h]
  simp [h]

set_option maxHeartbeats 1000000 in
theorem run_of (p : UInt8 → Bool) (g : Nat) (eg : ∀ args w, (callFunc g args).run Tryd.prog w = .ok (.enter g args) w) (s : Bs) (hl : s.length ≤ 9223372036854775807) (hcl : ∀ (c : UInt8) (W : World), Calls Tryd.prog g #[.int .u8 c.toNat] W fun e w' => e = .returned (.bool (p c)) ∧ w' = W) (w : World) :
    Calls Tryd.prog 18 #[str s, .func (.func g) #[] #[]] w fun e w' => e = .returned (.int .i64 (runN p s : Nat)) ∧ w' = w := by
  obtain ⟨R, hR⟩ : ∃ R, runN p s = R := ⟨_, rfl⟩
  rw [hR]
  have HR0 : Hid (R = 0 + runN p (s.drop 0)) := by
    show R = _
    rw [← hR, Nat.zero_add]
    rfl
  clear hR
  go_enter Tryd.func18, Tryd.ntmps18
  go_wp2
  go_loopg [8] s.length (fun gg v8 wr => ∃ i : Nat, i + gg = s.length ∧ v8 = .int .i64 i ∧ Hid (R = i + runN p (s.drop i)) ∧ wr = w)
  case atStart => exact ⟨0, by omega, rfl, HR0, rfl⟩
  case round =>
    clear HR0
    obtain ⟨i, hig, rfl, HR, rfl⟩ := hrel
    cases gk with
    | zero =>
      obtain rfl : i = s.length := by omega
      have e : R = s.length := by rw [HR.out, List.drop_length]; rfl
      subst e
      clear HR
      go_wp2
      go_ret
      exact ⟨rfl, rfl⟩
    | succ gg =>
      have hil : i < s.length := by omega
      have hie : (i : Int) < (s.length : Int) := by omega
      have hrn := HR.out
      rw [drop_get hil, runN] at hrn
      obtain ⟨c, hc⟩ : ∃ c, s[i]?.getD 0 = c := ⟨_, rfl⟩
      have hci : s[i] = c := by rw [← hc]; simp [hil]
      rw [hc] at hrn
      have C := hcl c wr
      obtain ⟨b, hb⟩ : ∃ b, p c = b := ⟨_, rfl⟩
      rw [hb] at hrn C
      have HN := Lib.hid hrn
      clear hrn hb HR
      go_wp2_with fail
      refine C.mono ?_
      rintro e w1 ⟨rfl, hw1⟩
      rw [hw1]
      clear hw1 w1 C
      cases b with
      | false =>
        have e : R = i := by rw [HN.out, if_neg Bool.false_ne_true]; rfl
        subst e
        go_wp2
        go_ret
        exact ⟨rfl, rfl⟩
      | true =>
        have HN2 : Hid (R = (i + 1) + runN p (s.drop (i + 1))) := by
          have := HN.out
          rw [if_pos rfl] at this
          show R = _
          omega
        clear HN
        go_wp2
        go_roundg gg
        case measure => omega
        case rel => exact ⟨i + 1, by omega, by go_num, HN2, rfl⟩

theorem name_clos (c : UInt8) (w : World) : Calls Tryd.prog 22 #[.int .u8 c.toNat] w fun e w' => e = .returned (.bool (namB c)) ∧ w' = w := by
  have L := letter_any c w
  have D := digit_any c w
  have hn : namB c = (letB c || (digB c || ((c.toNat : Int) == 45))) := by unfold namB; rw [← u8_eq]; rfl
  rw [hn]
  clear hn
  generalize letB c = a at L ⊢
  generalize digB c = b at D ⊢
  generalize (c.toNat : Int) = x at L D ⊢
  go_enter Tryd.func22, Tryd.ntmps22
  go_wp2_with fail
  refine L.mono ?_
  rintro e w1 ⟨rfl, hw1⟩
  rw [hw1]
  clear hw1 w1 L
  cases a with
  | true =>
    go_wp2
    go_ret
    exact ⟨rfl, rfl⟩
  | false =>
    go_wp2_with fail
    refine D.mono ?_
    rintro e w1 ⟨rfl, hw1⟩
    rw [hw1]
    clear hw1 w1 D
    cases b with
    | true =>
      go_wp2
      go_ret
      exact ⟨rfl, rfl⟩
    | false =>
      go_wp2
      go_ret
      exact ⟨rfl, rfl⟩
theorem line_clos (c : UInt8) (w : World) : Calls Tryd.prog 19 #[.int .u8 c.toNat] w fun e w' => e = .returned (.bool (c != 10)) ∧ w' = w := by
  have hn : (c != 10) = !((c.toNat : Int) == 10) := by rw [bne, ← u8_eq]; rfl
  rw [hn]
  generalize (c.toNat : Int) = x
  go_enter Tryd.func19, Tryd.ntmps19
  go_wp2
  go_ret
  exact ⟨rfl, rfl⟩
theorem run_name (s : Bs) (hl : s.length ≤ 9223372036854775807) (w : World) : Calls Tryd.prog 18 #[str s, .func (.func 22) #[] #[]] w fun e w' => e = .returned (.int .i64 (runN namB s : Nat)) ∧ w' = w :=
  run_of namB _ (enters_of Tryd.func22 (by kernel_rfl) rfl) s hl name_clos w
theorem run_digit (s : Bs) (hl : s.length ≤ 9223372036854775807) (w : World) : Calls Tryd.prog 18 #[str s, .func (.func 23) #[] #[]] w fun e w' => e = .returned (.int .i64 (runN digB s : Nat)) ∧ w' = w :=
  run_of digB _ (enters_of Tryd.func23 (by kernel_rfl) rfl) s hl digit_any w
theorem run_line (s : Bs) (hl : s.length ≤ 9223372036854775807) (w : World) : Calls Tryd.prog 18 #[str s, .func (.func 19) #[] #[]] w fun e w' => e = .returned (.int .i64 (runN (· != 10) s : Nat)) ∧ w' = w :=
  run_of (· != 10) _ (enters_of Tryd.func19 (by kernel_rfl) rfl) s hl line_clos w

end Go.Proofs.YtgmgmjddadgkkaaDoor
