/- The walk of sign. -/
import Derived.Test.YtgmgmjddadgkkaaDoorLxE
namespace Go.Proofs.YtgmgmjddadgkkaaDoor
open Go.RowKit
set_option maxRecDepth 100000
attribute [local go_sem] str_size str_toList str_get

theorem two_eq (c e a b : UInt8) : ((ByteArray.mk [c, e].toArray).toList == [a, b]) = (c == a && e == b) := by
  rw [str_toList]
  simp
theorem ret_str {a b : Bs} (h : a = b) : Ending.returned (str a) = .returned (str b) := by rw [h]

set_option maxHeartbeats 2000000 in
theorem sign_any (c : UInt8) (r : Bs) (hl : r.length ≤ 100000) (w : World) : Calls Tryd.prog 27 #[str (c :: r)] w fun e w' => e = .returned (str (signN c r)) ∧ w' = w := by
  have IB := fun W => Tryd.strings_IndexByte ⟨signs1.toArray⟩ (c.toNat : Int) W
  have e0 : ((c.toNat : Int)).toNat.toUInt8 = c := by simp
  rw [e0] at IB
  have hbl : decide (0 ≤ Lib.indexByte signs1 c) = signs1.contains c := idx_mem signs1 c
  obtain ⟨X, hX⟩ : ∃ X, Lib.indexByte signs1 c = X := ⟨_, rfl⟩
  have IB : ∀ W, Calls Tryd.prog 17 #[.string ⟨#[123, 125, 91, 93, 40, 41, 61, 43, 45, 42, 47, 37, 60, 62, 33, 63, 58, 44, 46]⟩, .int .u8 (c.toNat : Int)] W fun e w' => e = .returned (.int .i64 X) ∧ w' = W := fun W => by rw [← hX]; exact IB W
  rw [hX] at hbl
  obtain ⟨R, hR⟩ : ∃ R, signN c r = R := ⟨_, rfl⟩
  rw [hR]
  have HR := Lib.hid hR
  have hcut1 : (ByteArray.mk (c :: r).toArray).extract 0 1 = ByteArray.mk [c].toArray := by
    rw [str_cut]; rfl
  clear hR hX e0
  go_enter Tryd.func27, Tryd.ntmps27
  cases r with
  | nil =>
    have hr := HR.out
    unfold signN at hr
    simp only at hr
    by_cases hx : 0 ≤ X
    · have hR : [c] = R := by rw [← hr, ← hbl]; simp [hx]
      subst hR
      clear hr hbl HR
      go_wp2_with fail
      refine (IB _).mono ?_
      rintro e wA ⟨rfl, rfl⟩
      go_wp2
      go_ret
      exact ⟨rfl, rfl⟩
    · have hR : [] = R := by rw [← hr, ← hbl]; simp [hx]
      subst hR
      clear hr hbl HR
      go_wp2_with fail
      refine (IB _).mono ?_
      rintro e wA ⟨rfl, rfl⟩
      go_wp2
      go_ret
      exact ⟨rfl, rfl⟩
  | cons e r =>
    have hcut2 : (ByteArray.mk (c :: e :: r).toArray).extract 0 2 = ByteArray.mk [c, e].toArray := by
      rw [str_cut]; rfl
    have hlen : (1 : Int) < (r.length : Int) + 1 + 1 := by omega
    have hr := HR.out
    unfold signN at hr
    simp only at hr
    have t1 := two_eq c e 61 61
    have t2 := two_eq c e 33 61
    have t3 := two_eq c e 60 61
    have t4 := two_eq c e 62 61
    have t5 := two_eq c e 38 38
    have t6 := two_eq c e 124 124
    unfold sign2 at hr
    obtain ⟨b1, h1⟩ : ∃ b, (c == 61 && e == 61) = b := ⟨_, rfl⟩
    obtain ⟨b2, h2⟩ : ∃ b, (c == 33 && e == 61) = b := ⟨_, rfl⟩
    obtain ⟨b3, h3⟩ : ∃ b, (c == 60 && e == 61) = b := ⟨_, rfl⟩
    obtain ⟨b4, h4⟩ : ∃ b, (c == 62 && e == 61) = b := ⟨_, rfl⟩
    obtain ⟨b5, h5⟩ : ∃ b, (c == 38 && e == 38) = b := ⟨_, rfl⟩
    obtain ⟨b6, h6⟩ : ∃ b, (c == 124 && e == 124) = b := ⟨_, rfl⟩
    rw [h1] at t1 hr
    rw [h2] at t2 hr
    rw [h3] at t3 hr
    rw [h4] at t4 hr
    rw [h5] at t5 hr
    rw [h6] at t6 hr
    clear h1 h2 h3 h4 h5 h6
    have HRR := Lib.hid hr
    have HBL := Lib.hid hbl
    clear HR hr hbl
    obtain ⟨S, hS⟩ : ∃ S, ByteArray.mk [c, e].toArray = S := ⟨_, rfl⟩
    rw [hS] at hcut2 t1 t2 t3 t4 t5 t6
    have HS := Lib.hid hS
    clear hS
    cases b1 with
    | true =>
      have hR : [c, e] = R := by rw [← HRR.out]; simp
      subst hR
      clear HRR HBL
      go_wp2
      go_ret
      exact ⟨by rw [← HS.out]; rfl, rfl⟩
    | false =>
      cases b2 with
      | true =>
        have hR : [c, e] = R := by rw [← HRR.out]; simp
        subst hR
        clear HRR HBL
        go_wp2
        go_ret
        exact ⟨by rw [← HS.out]; rfl, rfl⟩
      | false =>
        cases b3 with
        | true =>
          have hR : [c, e] = R := by rw [← HRR.out]; simp
          subst hR
          clear HRR HBL
          go_wp2
          go_ret
          exact ⟨by rw [← HS.out]; rfl, rfl⟩
        | false =>
          cases b4 with
          | true =>
            have hR : [c, e] = R := by rw [← HRR.out]; simp
            subst hR
            clear HRR HBL
            go_wp2
            go_ret
            exact ⟨by rw [← HS.out]; rfl, rfl⟩
          | false =>
            cases b5 with
            | true =>
              have hR : [c, e] = R := by rw [← HRR.out]; simp
              subst hR
              clear HRR HBL
              go_wp2
              go_ret
              exact ⟨by rw [← HS.out]; rfl, rfl⟩
            | false =>
              cases b6 with
              | true =>
                have hR : [c, e] = R := by rw [← HRR.out]; simp
                subst hR
                clear HRR HBL
                go_wp2
                go_ret
                exact ⟨by rw [← HS.out]; rfl, rfl⟩
              | false =>
                by_cases hx : 0 ≤ X
                · have hR : [c] = R := by rw [← HRR.out, ← HBL.out]; simp [hx]
                  subst hR
                  clear HRR HBL
                  go_wp2_with fail
                  refine (IB _).mono ?_
                  rintro e wA ⟨rfl, rfl⟩
                  go_wp2
                  go_ret
                  exact ⟨rfl, rfl⟩
                · have hR : [] = R := by rw [← HRR.out, ← HBL.out]; simp [hx]
                  subst hR
                  clear HRR HBL
                  go_wp2_with fail
                  refine (IB _).mono ?_
                  rintro e wA ⟨rfl, rfl⟩
                  go_wp2
                  go_ret
                  exact ⟨rfl, rfl⟩
end Go.Proofs.YtgmgmjddadgkkaaDoor
