/- The walk of the document's plain: has each value just what its kind needs? -/
import Derived.Test.YtpbipngnoklmcaaGreatDoorValE
namespace Go.Proofs.YtpbipngnoklmcaaGreatDoor
open Go.RowKit
set_option maxRecDepth 100000
attribute [local go_sem] str_size str_toList str_get

theorem plain_split {k : Int} {b : Bool} {tx : List UInt8} {its : List VT} {ks : List (List UInt8)} {R : Bool} (h : plainV (.mk k b tx its ks) = R) :
    (aOk k b tx its.length ks.length = false → R = false) ∧ (bOk k tx its.length ks.length = false → R = false) ∧ (keysOk ks = false → R = false) ∧ (its.all plainV = false → R = false) ∧
    (aOk k b tx its.length ks.length = true → bOk k tx its.length ks.length = true → keysOk ks = true → its.all plainV = true → R = true) := by
  rw [plainV, plainL_all] at h
  unfold nodeOk at h
  subst h
  cases aOk k b tx its.length ks.length <;> cases bOk k tx its.length ks.length <;> cases keysOk ks <;> cases its.all plainV <;> simp

set_option maxHeartbeats 8000000 in
theorem plain_rval (t : VT) : ∀ (v : Value) (w : World), ValAt w t v → Calls Tryz.prog 43 #[v] w fun e w' => e = .returned (.bool (plainV t)) ∧ Below w.heap.size w w' := by
  induction t using VT.ind with
  | h k b tx its ks ih =>
    intro v w h
    obtain ⟨R, hR⟩ : ∃ R, plainV (.mk k b tx its ks) = R := ⟨_, rfl⟩
    rw [hR]
    obtain ⟨fa, fb, fc, fd, fe⟩ := plain_split hR
    have FA := Lib.hid fa
    have FB := Lib.hid fb
    have FC := Lib.hid fc
    have FD := Lib.hid fd
    have FE := Lib.hid fe
    clear hR fa fb fc fd fe
    rw [ValAt] at h
    obtain ⟨vi, vk, rfl, ⟨hk0, hk1, hkt⟩, hks, vs, hr, hv⟩ := h
    have hs0 := hks
    obtain ⟨ak, ck, rfl, hmk, _⟩ := hks
    have hr0 := hr
    obtain ⟨ao, cap, rfl, hm, _⟩ := hr
    obtain ⟨wB, hwB⟩ : ∃ wB, wB = w.alloc (.cells #[.int .i64 k, .bool b, str tx, .slice ao its.length cap, .slice ak ks.length ck] 41) := ⟨_, rfl⟩
    obtain ⟨b0, b1, b2, b3, b4, hsB, hbB⟩ := box5 hwB
    have GR := fun W => good_ref tx hkt W
    go_enter Tryz.func43, Tryz.ntmps43
    go_upto_region 2 with fail
    rw [← hwB]
    clear hwB
    go_cut [54] from 8 (fun c wx => c = .bool (!aOk k b tx its.length ks.length) ∧ wx = wB)
    case first =>
      clear GR FA FB FC FD FE hs0 hr0 hv
      by_cases hlo : k < 0
      · have e : aOk k b tx its.length ks.length = false := by unfold aOk; simp; omega
        go_wp2
        go_meet
        exact ⟨by rw [e]; first | rfl | (rw [decide_eq_true (show 0 < ks.length by omega)]; rfl) | (rw [decide_eq_false (show ¬ 0 < ks.length by omega)]; rfl) | (rw [decide_eq_true (show 0 < its.length by omega)]; rfl) | (rw [decide_eq_false (show ¬ 0 < its.length by omega)]; rfl), rfl⟩
      · by_cases hhi : 6 < k
        · have e : aOk k b tx its.length ks.length = false := by unfold aOk; simp; omega
          go_wp2
          go_meet
          exact ⟨by rw [e]; first | rfl | (rw [decide_eq_true (show 0 < ks.length by omega)]; rfl) | (rw [decide_eq_false (show ¬ 0 < ks.length by omega)]; rfl) | (rw [decide_eq_true (show 0 < its.length by omega)]; rfl) | (rw [decide_eq_false (show ¬ 0 < its.length by omega)]; rfl), rfl⟩
        · have hkk : k = 0 ∨ k = 1 ∨ k = 2 ∨ k = 3 ∨ k = 4 ∨ k = 5 ∨ k = 6 := by omega
          clear hlo hhi hk0 hk1
          rcases hkk with rfl | rfl | rfl | rfl | rfl | rfl | rfl
          · skip
            cases b with
            | false =>
              cases tx with
              | nil =>
                by_cases hi : (0 : Int) < (its.length : Int)
                · have e : aOk 0 false [] its.length ks.length = false := by unfold aOk; rw [show (its.length == 0) = false from beq_eq_false_iff_ne.2 (by omega)]; simp
                  go_wp2
                  go_meet
                  exact ⟨by rw [e]; first | rfl | (rw [decide_eq_true (show 0 < ks.length by omega)]; rfl) | (rw [decide_eq_false (show ¬ 0 < ks.length by omega)]; rfl) | (rw [decide_eq_true (show 0 < its.length by omega)]; rfl) | (rw [decide_eq_false (show ¬ 0 < its.length by omega)]; rfl), rfl⟩
                · skip
                  by_cases hj : (0 : Int) < (ks.length : Int)
                  · have e : aOk 0 false [] its.length ks.length = false := by unfold aOk; rw [show (its.length == 0) = true from beq_iff_eq.2 (by omega)]; rw [show (ks.length == 0) = false from beq_eq_false_iff_ne.2 (by omega)]; simp
                    go_wp2
                    go_meet
                    exact ⟨by rw [e]; first | rfl | (rw [decide_eq_true (show 0 < ks.length by omega)]; rfl) | (rw [decide_eq_false (show ¬ 0 < ks.length by omega)]; rfl) | (rw [decide_eq_true (show 0 < its.length by omega)]; rfl) | (rw [decide_eq_false (show ¬ 0 < its.length by omega)]; rfl), rfl⟩
                  · have e : aOk 0 false [] its.length ks.length = true := by unfold aOk; rw [show (its.length == 0) = true from beq_iff_eq.2 (by omega)]; rw [show (ks.length == 0) = true from beq_iff_eq.2 (by omega)]; simp
                    go_wp2
                    go_meet
                    exact ⟨by rw [e]; first | rfl | (rw [decide_eq_true (show 0 < ks.length by omega)]; rfl) | (rw [decide_eq_false (show ¬ 0 < ks.length by omega)]; rfl) | (rw [decide_eq_true (show 0 < its.length by omega)]; rfl) | (rw [decide_eq_false (show ¬ 0 < its.length by omega)]; rfl), rfl⟩
              | cons c l =>
                have e : aOk 0 false (c :: l) its.length ks.length = false := by unfold aOk; simp
                go_wp2
                go_meet
                exact ⟨by rw [e]; first | rfl | (rw [decide_eq_true (show 0 < ks.length by omega)]; rfl) | (rw [decide_eq_false (show ¬ 0 < ks.length by omega)]; rfl) | (rw [decide_eq_true (show 0 < its.length by omega)]; rfl) | (rw [decide_eq_false (show ¬ 0 < its.length by omega)]; rfl), rfl⟩
            | true =>
              have e : aOk 0 true tx its.length ks.length = false := by unfold aOk; simp
              go_wp2
              go_meet
              exact ⟨by rw [e]; first | rfl | (rw [decide_eq_true (show 0 < ks.length by omega)]; rfl) | (rw [decide_eq_false (show ¬ 0 < ks.length by omega)]; rfl) | (rw [decide_eq_true (show 0 < its.length by omega)]; rfl) | (rw [decide_eq_false (show ¬ 0 < its.length by omega)]; rfl), rfl⟩
          · skip
            cases b with
            | false =>
              cases tx with
              | nil =>
                by_cases hi : (0 : Int) < (its.length : Int)
                · have e : aOk 1 false [] its.length ks.length = false := by unfold aOk; rw [show (its.length == 0) = false from beq_eq_false_iff_ne.2 (by omega)]; simp
                  go_wp2
                  go_meet
                  exact ⟨by rw [e]; first | rfl | (rw [decide_eq_true (show 0 < ks.length by omega)]; rfl) | (rw [decide_eq_false (show ¬ 0 < ks.length by omega)]; rfl) | (rw [decide_eq_true (show 0 < its.length by omega)]; rfl) | (rw [decide_eq_false (show ¬ 0 < its.length by omega)]; rfl), rfl⟩
                · skip
                  by_cases hj : (0 : Int) < (ks.length : Int)
                  · have e : aOk 1 false [] its.length ks.length = false := by unfold aOk; rw [show (its.length == 0) = true from beq_iff_eq.2 (by omega)]; rw [show (ks.length == 0) = false from beq_eq_false_iff_ne.2 (by omega)]; simp
                    go_wp2
                    go_meet
                    exact ⟨by rw [e]; first | rfl | (rw [decide_eq_true (show 0 < ks.length by omega)]; rfl) | (rw [decide_eq_false (show ¬ 0 < ks.length by omega)]; rfl) | (rw [decide_eq_true (show 0 < its.length by omega)]; rfl) | (rw [decide_eq_false (show ¬ 0 < its.length by omega)]; rfl), rfl⟩
                  · have e : aOk 1 false [] its.length ks.length = true := by unfold aOk; rw [show (its.length == 0) = true from beq_iff_eq.2 (by omega)]; rw [show (ks.length == 0) = true from beq_iff_eq.2 (by omega)]; simp
                    go_wp2
                    go_meet
                    exact ⟨by rw [e]; first | rfl | (rw [decide_eq_true (show 0 < ks.length by omega)]; rfl) | (rw [decide_eq_false (show ¬ 0 < ks.length by omega)]; rfl) | (rw [decide_eq_true (show 0 < its.length by omega)]; rfl) | (rw [decide_eq_false (show ¬ 0 < its.length by omega)]; rfl), rfl⟩
              | cons c l =>
                have e : aOk 1 false (c :: l) its.length ks.length = false := by unfold aOk; simp
                go_wp2
                go_meet
                exact ⟨by rw [e]; first | rfl | (rw [decide_eq_true (show 0 < ks.length by omega)]; rfl) | (rw [decide_eq_false (show ¬ 0 < ks.length by omega)]; rfl) | (rw [decide_eq_true (show 0 < its.length by omega)]; rfl) | (rw [decide_eq_false (show ¬ 0 < its.length by omega)]; rfl), rfl⟩
            | true =>
              have e : aOk 1 true tx its.length ks.length = false := by unfold aOk; simp
              go_wp2
              go_meet
              exact ⟨by rw [e]; first | rfl | (rw [decide_eq_true (show 0 < ks.length by omega)]; rfl) | (rw [decide_eq_false (show ¬ 0 < ks.length by omega)]; rfl) | (rw [decide_eq_true (show 0 < its.length by omega)]; rfl) | (rw [decide_eq_false (show ¬ 0 < its.length by omega)]; rfl), rfl⟩
          · skip
            cases b with
            | false =>
              cases tx with
              | nil =>
                by_cases hi : (0 : Int) < (its.length : Int)
                · have e : aOk 2 false [] its.length ks.length = false := by unfold aOk; rw [show (its.length == 0) = false from beq_eq_false_iff_ne.2 (by omega)]; simp
                  go_wp2
                  go_meet
                  exact ⟨by rw [e]; first | rfl | (rw [decide_eq_true (show 0 < ks.length by omega)]; rfl) | (rw [decide_eq_false (show ¬ 0 < ks.length by omega)]; rfl) | (rw [decide_eq_true (show 0 < its.length by omega)]; rfl) | (rw [decide_eq_false (show ¬ 0 < its.length by omega)]; rfl), rfl⟩
                · skip
                  by_cases hj : (0 : Int) < (ks.length : Int)
                  · have e : aOk 2 false [] its.length ks.length = false := by unfold aOk; rw [show (its.length == 0) = true from beq_iff_eq.2 (by omega)]; rw [show (ks.length == 0) = false from beq_eq_false_iff_ne.2 (by omega)]; simp
                    go_wp2
                    go_meet
                    exact ⟨by rw [e]; first | rfl | (rw [decide_eq_true (show 0 < ks.length by omega)]; rfl) | (rw [decide_eq_false (show ¬ 0 < ks.length by omega)]; rfl) | (rw [decide_eq_true (show 0 < its.length by omega)]; rfl) | (rw [decide_eq_false (show ¬ 0 < its.length by omega)]; rfl), rfl⟩
                  · have e : aOk 2 false [] its.length ks.length = true := by unfold aOk; rw [show (its.length == 0) = true from beq_iff_eq.2 (by omega)]; rw [show (ks.length == 0) = true from beq_iff_eq.2 (by omega)]; simp
                    go_wp2
                    go_meet
                    exact ⟨by rw [e]; first | rfl | (rw [decide_eq_true (show 0 < ks.length by omega)]; rfl) | (rw [decide_eq_false (show ¬ 0 < ks.length by omega)]; rfl) | (rw [decide_eq_true (show 0 < its.length by omega)]; rfl) | (rw [decide_eq_false (show ¬ 0 < its.length by omega)]; rfl), rfl⟩
              | cons c l =>
                have e : aOk 2 false (c :: l) its.length ks.length = false := by unfold aOk; simp
                go_wp2
                go_meet
                exact ⟨by rw [e]; first | rfl | (rw [decide_eq_true (show 0 < ks.length by omega)]; rfl) | (rw [decide_eq_false (show ¬ 0 < ks.length by omega)]; rfl) | (rw [decide_eq_true (show 0 < its.length by omega)]; rfl) | (rw [decide_eq_false (show ¬ 0 < its.length by omega)]; rfl), rfl⟩
            | true =>
              cases tx with
              | nil =>
                by_cases hi : (0 : Int) < (its.length : Int)
                · have e : aOk 2 true [] its.length ks.length = false := by unfold aOk; rw [show (its.length == 0) = false from beq_eq_false_iff_ne.2 (by omega)]; simp
                  go_wp2
                  go_meet
                  exact ⟨by rw [e]; first | rfl | (rw [decide_eq_true (show 0 < ks.length by omega)]; rfl) | (rw [decide_eq_false (show ¬ 0 < ks.length by omega)]; rfl) | (rw [decide_eq_true (show 0 < its.length by omega)]; rfl) | (rw [decide_eq_false (show ¬ 0 < its.length by omega)]; rfl), rfl⟩
                · skip
                  by_cases hj : (0 : Int) < (ks.length : Int)
                  · have e : aOk 2 true [] its.length ks.length = false := by unfold aOk; rw [show (its.length == 0) = true from beq_iff_eq.2 (by omega)]; rw [show (ks.length == 0) = false from beq_eq_false_iff_ne.2 (by omega)]; simp
                    go_wp2
                    go_meet
                    exact ⟨by rw [e]; first | rfl | (rw [decide_eq_true (show 0 < ks.length by omega)]; rfl) | (rw [decide_eq_false (show ¬ 0 < ks.length by omega)]; rfl) | (rw [decide_eq_true (show 0 < its.length by omega)]; rfl) | (rw [decide_eq_false (show ¬ 0 < its.length by omega)]; rfl), rfl⟩
                  · have e : aOk 2 true [] its.length ks.length = true := by unfold aOk; rw [show (its.length == 0) = true from beq_iff_eq.2 (by omega)]; rw [show (ks.length == 0) = true from beq_iff_eq.2 (by omega)]; simp
                    go_wp2
                    go_meet
                    exact ⟨by rw [e]; first | rfl | (rw [decide_eq_true (show 0 < ks.length by omega)]; rfl) | (rw [decide_eq_false (show ¬ 0 < ks.length by omega)]; rfl) | (rw [decide_eq_true (show 0 < its.length by omega)]; rfl) | (rw [decide_eq_false (show ¬ 0 < its.length by omega)]; rfl), rfl⟩
              | cons c l =>
                have e : aOk 2 true (c :: l) its.length ks.length = false := by unfold aOk; simp
                go_wp2
                go_meet
                exact ⟨by rw [e]; first | rfl | (rw [decide_eq_true (show 0 < ks.length by omega)]; rfl) | (rw [decide_eq_false (show ¬ 0 < ks.length by omega)]; rfl) | (rw [decide_eq_true (show 0 < its.length by omega)]; rfl) | (rw [decide_eq_false (show ¬ 0 < its.length by omega)]; rfl), rfl⟩
          · skip
            cases b with
            | false =>
              cases tx with
              | nil =>
                by_cases hi : (0 : Int) < (its.length : Int)
                · have e : aOk 3 false [] its.length ks.length = false := by unfold aOk; rw [show (its.length == 0) = false from beq_eq_false_iff_ne.2 (by omega)]; simp
                  go_wp2
                  go_meet
                  exact ⟨by rw [e]; first | rfl | (rw [decide_eq_true (show 0 < ks.length by omega)]; rfl) | (rw [decide_eq_false (show ¬ 0 < ks.length by omega)]; rfl) | (rw [decide_eq_true (show 0 < its.length by omega)]; rfl) | (rw [decide_eq_false (show ¬ 0 < its.length by omega)]; rfl), rfl⟩
                · skip
                  by_cases hj : (0 : Int) < (ks.length : Int)
                  · have e : aOk 3 false [] its.length ks.length = false := by unfold aOk; rw [show (its.length == 0) = true from beq_iff_eq.2 (by omega)]; rw [show (ks.length == 0) = false from beq_eq_false_iff_ne.2 (by omega)]; simp
                    go_wp2
                    go_meet
                    exact ⟨by rw [e]; first | rfl | (rw [decide_eq_true (show 0 < ks.length by omega)]; rfl) | (rw [decide_eq_false (show ¬ 0 < ks.length by omega)]; rfl) | (rw [decide_eq_true (show 0 < its.length by omega)]; rfl) | (rw [decide_eq_false (show ¬ 0 < its.length by omega)]; rfl), rfl⟩
                  · have e : aOk 3 false [] its.length ks.length = true := by unfold aOk; rw [show (its.length == 0) = true from beq_iff_eq.2 (by omega)]; rw [show (ks.length == 0) = true from beq_iff_eq.2 (by omega)]; simp
                    go_wp2
                    go_meet
                    exact ⟨by rw [e]; first | rfl | (rw [decide_eq_true (show 0 < ks.length by omega)]; rfl) | (rw [decide_eq_false (show ¬ 0 < ks.length by omega)]; rfl) | (rw [decide_eq_true (show 0 < its.length by omega)]; rfl) | (rw [decide_eq_false (show ¬ 0 < its.length by omega)]; rfl), rfl⟩
              | cons c l =>
                by_cases hi : (0 : Int) < (its.length : Int)
                · have e : aOk 3 false (c :: l) its.length ks.length = false := by unfold aOk; rw [show (its.length == 0) = false from beq_eq_false_iff_ne.2 (by omega)]; simp
                  go_wp2
                  go_meet
                  exact ⟨by rw [e]; first | rfl | (rw [decide_eq_true (show 0 < ks.length by omega)]; rfl) | (rw [decide_eq_false (show ¬ 0 < ks.length by omega)]; rfl) | (rw [decide_eq_true (show 0 < its.length by omega)]; rfl) | (rw [decide_eq_false (show ¬ 0 < its.length by omega)]; rfl), rfl⟩
                · skip
                  by_cases hj : (0 : Int) < (ks.length : Int)
                  · have e : aOk 3 false (c :: l) its.length ks.length = false := by unfold aOk; rw [show (its.length == 0) = true from beq_iff_eq.2 (by omega)]; rw [show (ks.length == 0) = false from beq_eq_false_iff_ne.2 (by omega)]; simp
                    go_wp2
                    go_meet
                    exact ⟨by rw [e]; first | rfl | (rw [decide_eq_true (show 0 < ks.length by omega)]; rfl) | (rw [decide_eq_false (show ¬ 0 < ks.length by omega)]; rfl) | (rw [decide_eq_true (show 0 < its.length by omega)]; rfl) | (rw [decide_eq_false (show ¬ 0 < its.length by omega)]; rfl), rfl⟩
                  · have e : aOk 3 false (c :: l) its.length ks.length = true := by unfold aOk; rw [show (its.length == 0) = true from beq_iff_eq.2 (by omega)]; rw [show (ks.length == 0) = true from beq_iff_eq.2 (by omega)]; simp
                    go_wp2
                    go_meet
                    exact ⟨by rw [e]; first | rfl | (rw [decide_eq_true (show 0 < ks.length by omega)]; rfl) | (rw [decide_eq_false (show ¬ 0 < ks.length by omega)]; rfl) | (rw [decide_eq_true (show 0 < its.length by omega)]; rfl) | (rw [decide_eq_false (show ¬ 0 < its.length by omega)]; rfl), rfl⟩
            | true =>
              have e : aOk 3 true tx its.length ks.length = false := by unfold aOk; simp
              go_wp2
              go_meet
              exact ⟨by rw [e]; first | rfl | (rw [decide_eq_true (show 0 < ks.length by omega)]; rfl) | (rw [decide_eq_false (show ¬ 0 < ks.length by omega)]; rfl) | (rw [decide_eq_true (show 0 < its.length by omega)]; rfl) | (rw [decide_eq_false (show ¬ 0 < its.length by omega)]; rfl), rfl⟩
          · skip
            cases b with
            | false =>
              cases tx with
              | nil =>
                by_cases hi : (0 : Int) < (its.length : Int)
                · have e : aOk 4 false [] its.length ks.length = false := by unfold aOk; rw [show (its.length == 0) = false from beq_eq_false_iff_ne.2 (by omega)]; simp
                  go_wp2
                  go_meet
                  exact ⟨by rw [e]; first | rfl | (rw [decide_eq_true (show 0 < ks.length by omega)]; rfl) | (rw [decide_eq_false (show ¬ 0 < ks.length by omega)]; rfl) | (rw [decide_eq_true (show 0 < its.length by omega)]; rfl) | (rw [decide_eq_false (show ¬ 0 < its.length by omega)]; rfl), rfl⟩
                · skip
                  by_cases hj : (0 : Int) < (ks.length : Int)
                  · have e : aOk 4 false [] its.length ks.length = false := by unfold aOk; rw [show (its.length == 0) = true from beq_iff_eq.2 (by omega)]; rw [show (ks.length == 0) = false from beq_eq_false_iff_ne.2 (by omega)]; simp
                    go_wp2
                    go_meet
                    exact ⟨by rw [e]; first | rfl | (rw [decide_eq_true (show 0 < ks.length by omega)]; rfl) | (rw [decide_eq_false (show ¬ 0 < ks.length by omega)]; rfl) | (rw [decide_eq_true (show 0 < its.length by omega)]; rfl) | (rw [decide_eq_false (show ¬ 0 < its.length by omega)]; rfl), rfl⟩
                  · have e : aOk 4 false [] its.length ks.length = true := by unfold aOk; rw [show (its.length == 0) = true from beq_iff_eq.2 (by omega)]; rw [show (ks.length == 0) = true from beq_iff_eq.2 (by omega)]; simp
                    go_wp2
                    go_meet
                    exact ⟨by rw [e]; first | rfl | (rw [decide_eq_true (show 0 < ks.length by omega)]; rfl) | (rw [decide_eq_false (show ¬ 0 < ks.length by omega)]; rfl) | (rw [decide_eq_true (show 0 < its.length by omega)]; rfl) | (rw [decide_eq_false (show ¬ 0 < its.length by omega)]; rfl), rfl⟩
              | cons c l =>
                by_cases hi : (0 : Int) < (its.length : Int)
                · have e : aOk 4 false (c :: l) its.length ks.length = false := by unfold aOk; rw [show (its.length == 0) = false from beq_eq_false_iff_ne.2 (by omega)]; simp
                  go_wp2
                  go_meet
                  exact ⟨by rw [e]; first | rfl | (rw [decide_eq_true (show 0 < ks.length by omega)]; rfl) | (rw [decide_eq_false (show ¬ 0 < ks.length by omega)]; rfl) | (rw [decide_eq_true (show 0 < its.length by omega)]; rfl) | (rw [decide_eq_false (show ¬ 0 < its.length by omega)]; rfl), rfl⟩
                · skip
                  by_cases hj : (0 : Int) < (ks.length : Int)
                  · have e : aOk 4 false (c :: l) its.length ks.length = false := by unfold aOk; rw [show (its.length == 0) = true from beq_iff_eq.2 (by omega)]; rw [show (ks.length == 0) = false from beq_eq_false_iff_ne.2 (by omega)]; simp
                    go_wp2
                    go_meet
                    exact ⟨by rw [e]; first | rfl | (rw [decide_eq_true (show 0 < ks.length by omega)]; rfl) | (rw [decide_eq_false (show ¬ 0 < ks.length by omega)]; rfl) | (rw [decide_eq_true (show 0 < its.length by omega)]; rfl) | (rw [decide_eq_false (show ¬ 0 < its.length by omega)]; rfl), rfl⟩
                  · have e : aOk 4 false (c :: l) its.length ks.length = true := by unfold aOk; rw [show (its.length == 0) = true from beq_iff_eq.2 (by omega)]; rw [show (ks.length == 0) = true from beq_iff_eq.2 (by omega)]; simp
                    go_wp2
                    go_meet
                    exact ⟨by rw [e]; first | rfl | (rw [decide_eq_true (show 0 < ks.length by omega)]; rfl) | (rw [decide_eq_false (show ¬ 0 < ks.length by omega)]; rfl) | (rw [decide_eq_true (show 0 < its.length by omega)]; rfl) | (rw [decide_eq_false (show ¬ 0 < its.length by omega)]; rfl), rfl⟩
            | true =>
              have e : aOk 4 true tx its.length ks.length = false := by unfold aOk; simp
              go_wp2
              go_meet
              exact ⟨by rw [e]; first | rfl | (rw [decide_eq_true (show 0 < ks.length by omega)]; rfl) | (rw [decide_eq_false (show ¬ 0 < ks.length by omega)]; rfl) | (rw [decide_eq_true (show 0 < its.length by omega)]; rfl) | (rw [decide_eq_false (show ¬ 0 < its.length by omega)]; rfl), rfl⟩
          · skip
            cases b with
            | false =>
              cases tx with
              | nil =>
                by_cases hi : (0 : Int) < (its.length : Int)
                · skip
                  by_cases hj : (0 : Int) < (ks.length : Int)
                  · have e : aOk 5 false [] its.length ks.length = false := by unfold aOk; rw [show (its.length == 0) = false from beq_eq_false_iff_ne.2 (by omega)]; rw [show (ks.length == 0) = false from beq_eq_false_iff_ne.2 (by omega)]; simp
                    go_wp2
                    go_meet
                    exact ⟨by rw [e]; first | rfl | (rw [decide_eq_true (show 0 < ks.length by omega)]; rfl) | (rw [decide_eq_false (show ¬ 0 < ks.length by omega)]; rfl) | (rw [decide_eq_true (show 0 < its.length by omega)]; rfl) | (rw [decide_eq_false (show ¬ 0 < its.length by omega)]; rfl), rfl⟩
                  · have e : aOk 5 false [] its.length ks.length = true := by unfold aOk; rw [show (its.length == 0) = false from beq_eq_false_iff_ne.2 (by omega)]; rw [show (ks.length == 0) = true from beq_iff_eq.2 (by omega)]; simp
                    go_wp2
                    go_meet
                    exact ⟨by rw [e]; first | rfl | (rw [decide_eq_true (show 0 < ks.length by omega)]; rfl) | (rw [decide_eq_false (show ¬ 0 < ks.length by omega)]; rfl) | (rw [decide_eq_true (show 0 < its.length by omega)]; rfl) | (rw [decide_eq_false (show ¬ 0 < its.length by omega)]; rfl), rfl⟩
                · skip
                  by_cases hj : (0 : Int) < (ks.length : Int)
                  · have e : aOk 5 false [] its.length ks.length = false := by unfold aOk; rw [show (its.length == 0) = true from beq_iff_eq.2 (by omega)]; rw [show (ks.length == 0) = false from beq_eq_false_iff_ne.2 (by omega)]; simp
                    go_wp2
                    go_meet
                    exact ⟨by rw [e]; first | rfl | (rw [decide_eq_true (show 0 < ks.length by omega)]; rfl) | (rw [decide_eq_false (show ¬ 0 < ks.length by omega)]; rfl) | (rw [decide_eq_true (show 0 < its.length by omega)]; rfl) | (rw [decide_eq_false (show ¬ 0 < its.length by omega)]; rfl), rfl⟩
                  · have e : aOk 5 false [] its.length ks.length = true := by unfold aOk; rw [show (its.length == 0) = true from beq_iff_eq.2 (by omega)]; rw [show (ks.length == 0) = true from beq_iff_eq.2 (by omega)]; simp
                    go_wp2
                    go_meet
                    exact ⟨by rw [e]; first | rfl | (rw [decide_eq_true (show 0 < ks.length by omega)]; rfl) | (rw [decide_eq_false (show ¬ 0 < ks.length by omega)]; rfl) | (rw [decide_eq_true (show 0 < its.length by omega)]; rfl) | (rw [decide_eq_false (show ¬ 0 < its.length by omega)]; rfl), rfl⟩
              | cons c l =>
                have e : aOk 5 false (c :: l) its.length ks.length = false := by unfold aOk; simp
                go_wp2
                go_meet
                exact ⟨by rw [e]; first | rfl | (rw [decide_eq_true (show 0 < ks.length by omega)]; rfl) | (rw [decide_eq_false (show ¬ 0 < ks.length by omega)]; rfl) | (rw [decide_eq_true (show 0 < its.length by omega)]; rfl) | (rw [decide_eq_false (show ¬ 0 < its.length by omega)]; rfl), rfl⟩
            | true =>
              have e : aOk 5 true tx its.length ks.length = false := by unfold aOk; simp
              go_wp2
              go_meet
              exact ⟨by rw [e]; first | rfl | (rw [decide_eq_true (show 0 < ks.length by omega)]; rfl) | (rw [decide_eq_false (show ¬ 0 < ks.length by omega)]; rfl) | (rw [decide_eq_true (show 0 < its.length by omega)]; rfl) | (rw [decide_eq_false (show ¬ 0 < its.length by omega)]; rfl), rfl⟩
          · skip
            cases b with
            | false =>
              cases tx with
              | nil =>
                by_cases hi : (0 : Int) < (its.length : Int)
                · skip
                  have e : aOk 6 false [] its.length ks.length = true := by unfold aOk; rw [show (its.length == 0) = false from beq_eq_false_iff_ne.2 (by omega)]; simp
                  go_wp2
                  go_meet
                  exact ⟨by rw [e]; first | rfl | (rw [decide_eq_true (show 0 < ks.length by omega)]; rfl) | (rw [decide_eq_false (show ¬ 0 < ks.length by omega)]; rfl) | (rw [decide_eq_true (show 0 < its.length by omega)]; rfl) | (rw [decide_eq_false (show ¬ 0 < its.length by omega)]; rfl), rfl⟩
                · skip
                  have e : aOk 6 false [] its.length ks.length = true := by unfold aOk; rw [show (its.length == 0) = true from beq_iff_eq.2 (by omega)]; simp
                  go_wp2
                  go_meet
                  exact ⟨by rw [e]; first | rfl | (rw [decide_eq_true (show 0 < ks.length by omega)]; rfl) | (rw [decide_eq_false (show ¬ 0 < ks.length by omega)]; rfl) | (rw [decide_eq_true (show 0 < its.length by omega)]; rfl) | (rw [decide_eq_false (show ¬ 0 < its.length by omega)]; rfl), rfl⟩
              | cons c l =>
                have e : aOk 6 false (c :: l) its.length ks.length = false := by unfold aOk; simp
                go_wp2
                go_meet
                exact ⟨by rw [e]; first | rfl | (rw [decide_eq_true (show 0 < ks.length by omega)]; rfl) | (rw [decide_eq_false (show ¬ 0 < ks.length by omega)]; rfl) | (rw [decide_eq_true (show 0 < its.length by omega)]; rfl) | (rw [decide_eq_false (show ¬ 0 < its.length by omega)]; rfl), rfl⟩
            | true =>
              have e : aOk 6 true tx its.length ks.length = false := by unfold aOk; simp
              go_wp2
              go_meet
              exact ⟨by rw [e]; first | rfl | (rw [decide_eq_true (show 0 < ks.length by omega)]; rfl) | (rw [decide_eq_false (show ¬ 0 < ks.length by omega)]; rfl) | (rw [decide_eq_true (show 0 < its.length by omega)]; rfl) | (rw [decide_eq_false (show ¬ 0 < its.length by omega)]; rfl), rfl⟩
    case rest =>
      obtain ⟨rfl, hwx⟩ := hcut
      rw [hwx]
      clear hwx
      obtain ⟨a, ha⟩ : ∃ a, aOk k b tx its.length ks.length = a := ⟨_, rfl⟩
      rw [ha] at FA FE ⊢
      cases a with
      | false =>
        obtain rfl : R = false := FA.out rfl
        clear FA FB FC FD FE
        go_wp2
        go_ret
        exact ⟨rfl, hbB⟩
      | true =>
        clear FA
        go_upto_region 4 with fail
        go_cut [85] from 55 (fun c wx => c = .bool (!bOk k tx its.length ks.length) ∧ Below wB.heap.size wB wx)
        case first =>
          clear FB FC FD FE
          by_cases k3 : k = 3
          · subst k3
            have e : bOk 3 tx its.length ks.length = goodS tx := by unfold bOk; simp
            obtain ⟨g, hg⟩ : ∃ g, goodS tx = g := ⟨_, rfl⟩
            rw [hg] at GR e
            clear hg
            go_wp2_with fail
            refine (GR _).mono ?_
            rintro e' w' ⟨rfl, hw'⟩
            rw [hw']
            clear hw' w'
            cases g <;> go_wp2 <;> go_meet <;> exact ⟨by rw [e]; rfl, Below.refl _ _⟩
          · by_cases k4 : k = 4
            · subst k4
              by_cases hl : tx.length ≤ 16384
              · have e : bOk 4 tx its.length ks.length = true := by unfold bOk; simp [hl]
                have hl' : ¬ (16384 : Int) < (tx.length : Int) := by omega
                go_wp2
                go_meet
                exact ⟨by rw [e]; rfl, Below.refl _ _⟩
              · have e : bOk 4 tx its.length ks.length = false := by unfold bOk; simp [hl]
                have hl' : (16384 : Int) < (tx.length : Int) := by omega
                go_wp2
                go_meet
                exact ⟨by rw [e]; rfl, Below.refl _ _⟩
            · by_cases k6 : k = 6
              · subst k6
                by_cases hl : ks.length = its.length
                · have e : bOk 6 tx its.length ks.length = true := by unfold bOk; rw [hl]; simp
                  have hl' : ((ks.length : Int) == (its.length : Int)) = true := by simp; omega
                  have HL := Lib.hid hl
                  clear hl
                  go_wp2
                  go_meet
                  exact ⟨by rw [e]; first | rfl | (show Value.bool (!((ks.length : Int) == (its.length : Int))) = _; rw [hl']), Below.refl _ _⟩
                · have e : bOk 6 tx its.length ks.length = false := by
                    unfold bOk
                    rw [show (ks.length == its.length) = false from beq_eq_false_iff_ne.2 hl]
                    simp
                  have hl' : ((ks.length : Int) == (its.length : Int)) = false := by simp; omega
                  go_wp2
                  go_meet
                  exact ⟨by rw [e]; first | rfl | (show Value.bool (!((ks.length : Int) == (its.length : Int))) = _; rw [hl']), Below.refl _ _⟩
              · have q3 : (k == 3) = false := beq_eq_false_iff_ne.2 k3
                have q4 : (k == 4) = false := beq_eq_false_iff_ne.2 k4
                have q6 : (k == 6) = false := beq_eq_false_iff_ne.2 k6
                have e : bOk k tx its.length ks.length = true := by unfold bOk; rw [q3, q4, q6]; rfl
                go_wp2
                go_meet
                exact ⟨by rw [e]; rfl, Below.refl _ _⟩
        case rest =>
          obtain ⟨rfl, hbl⟩ := hcut
          clear GR
          obtain ⟨bo, hbo⟩ : ∃ a, bOk k tx its.length ks.length = a := ⟨_, rfl⟩
          rw [hbo] at FB FE ⊢
          cases bo with
          | false =>
            obtain rfl : R = false := FB.out rfl
            clear FB FC FD FE
            go_wp2
            go_ret
            exact ⟨rfl, hbB.trans (hbl.mono (by omega))⟩
          | true =>
            clear FB
            have c4 := box_at b4 hsB hbl
            obtain ⟨wD, hwD⟩ : ∃ wD, wD = wc := ⟨_, rfl⟩
            subst hwD
            go_upto_region 7 with fail
            go_loopg [89] ks.length (fun g v89 wr => ∃ i : Nat, i + g = ks.length ∧ v89 = .int .i64 i ∧ keysOk (ks.take i) = true ∧ Below wB.heap.size wB wr)
            case atStart => exact ⟨0, by omega, rfl, rfl, hbl⟩
            case round =>
              clear hbl c4
              obtain ⟨i, hig, rfl, hall, hbl⟩ := hrel
              have q4 := box_at b4 hsB hbl
              have hbw := hbB.trans (hbl.mono (by omega))
              cases gk with
              | zero =>
                obtain rfl : i = ks.length := by omega
                rw [List.take_length] at hall
                have HALL := Lib.hid hall
                clear hall
                have q3 := box_at b3 hsB hbl
                obtain ⟨w4, hw4⟩ : ∃ w4, w4 = wr := ⟨_, rfl⟩
                subst hw4
                clear FC hs0
                go_wp2
                go_loopg [121] its.length (fun g v121 wr => ∃ i : Nat, i + g = its.length ∧ v121 = .int .i64 i ∧ (its.take i).all plainV = true ∧ Below wB.heap.size wB wr)
                case atStart => exact ⟨0, by omega, rfl, rfl, hbl⟩
                case round =>
                  clear q3 q4 hbl hbw hig
                  obtain ⟨i, hig, rfl, hall, hbl⟩ := hrel
                  have q3 := box_at b3 hsB hbl
                  have hbw := hbB.trans (hbl.mono (by omega))
                  have HAL := Lib.hid hall
                  clear hall
                  cases gk with
                  | zero =>
                    obtain rfl : i = its.length := by omega
                    have hal := HAL.out
                    rw [List.take_length] at hal
                    obtain rfl : R = true := FE.out (by first | trivial | rfl) (by first | trivial | rfl) HALL.out hal
                    clear hal FE HALL
                    go_wp2
                    go_ret
                    exact ⟨rfl, hbw⟩
                  | succ g =>
                    have hil : i < its.length := by omega
                    have hie : (i : Int) < (its.length : Int) := by omega
                    obtain ⟨b', off, ai, ci, ak', ck', rfl, hlt, hx, h0, h1, h2, h3, h4⟩ := RowAt.at hr0 hv hbw hil
                    have C := ih its[i] (List.getElem_mem hil) _ wr hx
                    have HY : Hid (plainV its[i] = true → (its.take (i + 1)).all plainV = true) := fun h => all_take_succ hil HAL.out h
                    have HX : Hid (plainV its[i] = false → R = false) := fun h => FD.out (all_false hil h)
                    obtain ⟨x, hxe⟩ : ∃ x, its[i] = x := ⟨_, rfl⟩
                    rw [hxe] at h0 h1 h2 h3 h4 C HY HX
                    obtain ⟨r, hr⟩ : ∃ r, plainV x = r := ⟨_, rfl⟩
                    rw [hr] at C HY HX
                    clear hx hxe hr
                    go_wp2_with fail
                    refine C.mono ?_
                    rintro e w' ⟨rfl, hq⟩
                    have hb' := hbl.trans (hq.mono hbl.size)
                    cases r with
                    | false =>
                      obtain rfl : R = false := HX.out rfl
                      clear HX HY FD FE
                      go_wp2
                      go_ret
                      exact ⟨rfl, hbB.trans (hb'.mono (by omega))⟩
                    | true =>
                      have HY2 := Lib.hid (HY.out rfl)
                      clear HX HY
                      go_wp2
                      go_roundg g
                      case measure => omega
                      case rel => exact ⟨i + 1, by omega, by go_num, HY2.out, hb'⟩
              | succ g =>
                have hil : i < ks.length := by omega
                have hie : (i : Int) < (ks.length : Int) := by omega
                obtain ⟨b1, o1, rfl, l1, h1⟩ := StrsAt.get hs0 hil
                have h1 := (hbw.cell (p := ⟨b1, o1 + i, none⟩) l1).trans h1
                rw [getD_at ks [] hil] at h1
                by_cases hlx : ks[i].length ≤ 16384
                · cases i with
                  | zero =>
                    have HN : Hid (keysOk (ks.take 1) = true) := by rw [Hid, keysOk_one hil]; exact decide_eq_true hlx
                    obtain ⟨x, hxe⟩ : ∃ x, ks[0] = x := ⟨_, rfl⟩
                    rw [hxe] at h1 hlx
                    have hlx' : ¬ (16384 : Int) < (x.length : Int) := by omega
                    rw [Nat.add_zero] at h1
                    clear hxe hlx hall hs0
                    go_upto_region 9 with fail
                    go_quiet (fail)
                    go_wp2
                    go_roundg g
                    case measure => omega
                    case rel => exact ⟨1, by omega, by go_num, HN.out, below_drawn hbl _⟩
                  | succ j =>
                    obtain ⟨b2, o2, hae, l2, h2⟩ := StrsAt.get (ss := ks) hs0 (show j < ks.length by omega)
                    injection hae with hae
                    injection hae with hae1 hae2
                    subst hae1 hae2
                    have h2 := (hbw.cell (p := ⟨b1, o1 + j, none⟩) l1).trans h2
                    rw [getD_at ks [] (by omega)] at h2
                    have hks := keysOk_succ hil
                    rw [hall, Bool.true_and, decide_eq_true hlx, Bool.true_and] at hks
                    have HT : Hid (keysOk (ks.take (j + 2)) = false → keysOk ks = false) := by
                      intro h
                      cases hk : keysOk ks with
                      | false => rfl
                      | true =>
                        have := keysOk_take (i := j + 2) (j := ks.length) (ks := ks) (by omega) (by rw [List.take_length]; exact hk)
                        rw [this] at h
                        cases h
                    obtain ⟨x, hxe⟩ : ∃ x, ks[j + 1] = x := ⟨_, rfl⟩
                    obtain ⟨p, hpe⟩ : ∃ p, ks[j]'(by omega) = p := ⟨_, rfl⟩
                    rw [hxe] at h1 hlx hks
                    rw [hpe] at h2 hks
                    have hlx' : ¬ (16384 : Int) < (x.length : Int) := by omega
                    have hblt := bytesLess_eq p x
                    obtain ⟨r, hr⟩ : ∃ r, ltS p x = r := ⟨_, rfl⟩
                    rw [hr] at hks hblt
                    have HKS := Lib.hid hks
                    have hpos : (0 : Int) < ((j + 1 : Nat) : Int) := by omega
                    have hpred : ((j + 1 : Nat) : Int) - 1 = (j : Int) := by omega
                    clear hxe hpe hlx hall hs0 hr hks
                    cases r with
                    | false =>
                      obtain rfl : R = false := FC.out (HT.out HKS.out)
                      clear FC FD FE HT HKS
                      go_upto_region 9 with fail
                      go_quiet (fail)
                      go_wp2
                      go_ret
                      exact ⟨rfl, hbB.trans ((below_drawn hbl _).mono (by omega))⟩
                    | true =>
                      clear HT
                      go_upto_region 9 with fail
                      go_quiet (fail)
                      go_wp2
                      go_roundg g
                      case measure => omega
                      case rel => exact ⟨j + 2, by omega, by go_num, HKS.out, below_drawn hbl _⟩
                · have hkf : keysOk ks = false := by
                    unfold keysOk
                    rw [all_false hil (by simp; omega)]
                    rfl
                  obtain rfl : R = false := FC.out hkf
                  obtain ⟨x, hxe⟩ : ∃ x, ks[i] = x := ⟨_, rfl⟩
                  rw [hxe] at h1 hlx
                  have hlx' : (16384 : Int) < (x.length : Int) := by omega
                  clear hxe hlx hall hs0 hkf FC FD FE
                  go_upto_region 9 with fail
                  go_quiet (fail)
                  go_wp2
                  go_ret
                  exact ⟨rfl, hbB.trans ((below_drawn hbl _).mono (by omega))⟩

end Go.Proofs.YtpbipngnoklmcaaGreatDoor
