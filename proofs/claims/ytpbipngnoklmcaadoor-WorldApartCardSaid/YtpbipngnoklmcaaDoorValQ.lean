/- The walks of the document's Deep and Known. -/
import Derived.Test.YtpbipngnoklmcaaDoorValR
namespace Go.Proofs.YtpbipngnoklmcaaDoor
open Go.RowKit
set_option maxRecDepth 100000
attribute [local go_sem] str_size str_toList str_get

theorem all_false {α : Type} {p : α → Bool} {l : List α} {i : Nat} (hi : i < l.length) (h : p l[i] = false) : l.all p = false := by
  rw [List.all_eq_false]
  exact ⟨_, List.getElem_mem hi, by simp [h]⟩
theorem all_take_succ {α : Type} {p : α → Bool} {l : List α} {i : Nat} (hi : i < l.length) (h : (l.take i).all p = true) (hx : p l[i] = true) : (l.take (i + 1)).all p = true := by
  rw [List.take_succ_eq_append_getElem hi, List.all_append, h, List.all_cons, hx]
  rfl

set_option maxHeartbeats 1600000 in
theorem deep_rval (t : VT) : ∀ (n : Nat) (_hn : n ≤ 1000) (v : Value) (w : World), ValAt w t v → Calls Tryd.prog 38 #[v, .int .i64 (n : Int)] w fun e w' => e = .returned (.bool (deepV n t)) ∧ Below w.heap.size w w' := by
  induction t using VT.ind with
  | h k b tx its ks ih =>
    intro n hn
    cases n with
    | zero =>
      intro v w h
      rw [ValAt] at h
      obtain ⟨vi, vk, rfl, hk, hks, vs, hr, hv⟩ := h
      obtain ⟨ak, ck, rfl, _⟩ := hks
      obtain ⟨ao, cap, rfl, hm, _⟩ := hr
      go_enter Tryd.func38, Tryd.ntmps38
      go_wp2
      go_ret
      exact ⟨rfl, (Below.refl _ _).alloc (Nat.le_refl _) _⟩
    | succ n =>
      intro v w h
      rw [ValAt] at h
      obtain ⟨vi, vk, rfl, hk, hks, vs, hr, hv⟩ := h
      obtain ⟨ak, ck, rfl, _⟩ := hks
      have hr0 := hr
      obtain ⟨ao, cap, rfl, hm, _⟩ := hr
      obtain ⟨wB, hwB⟩ : ∃ wB, wB = w.alloc (.cells #[.int .i64 k, .bool b, str tx, .slice ao its.length cap, .slice ak ks.length ck] 27) := ⟨_, rfl⟩
      obtain ⟨_, _, _, b3, _, hsB, hbB⟩ := box5 hwB
      rw [deepV]
      have hpred : ((n + 1 : Nat) : Int) - 1 = (n : Int) := by omega
      have hn0 : (((n + 1 : Nat) : Int) == 0) = false := by simp; omega
      obtain ⟨N, hN⟩ : ∃ N : Int, ((n + 1 : Nat) : Int) = N := ⟨_, rfl⟩
      rw [hN] at hpred hn0 ⊢
      have hNb : N ≤ 2000 := by omega
      have hNb0 : 1 ≤ N := by omega
      clear hN
      go_enter Tryd.func38, Tryd.ntmps38
      go_wp2
      rw [← hwB]
      clear hwB
      go_loopg [11] its.length (fun g v11 wr => ∃ i : Nat, i + g = its.length ∧ v11 = .int .i64 i ∧ (its.take i).all (deepV n) = true ∧ Below wB.heap.size wB wr)
      case atStart => exact ⟨0, by omega, rfl, rfl, Below.refl _ _⟩
      case round =>
        obtain ⟨i, hig, rfl, hall, hbl⟩ := hrel
        have q3 := box_at b3 hsB hbl
        have hbw := hbB.trans (hbl.mono (by omega))
        have HALL := Lib.hid hall
        clear hall
        cases gk with
        | zero =>
          obtain rfl : i = its.length := by omega
          have := HALL.out
          rw [List.take_length] at this
          have HF := Lib.hid this
          clear this
          go_wp2
          go_ret
          exact ⟨by rw [HF.out]; rfl, hbw⟩
        | succ g =>
          have hil : i < its.length := by omega
          have hie : (i : Int) < (its.length : Int) := by omega
          obtain ⟨b', off, ai, ci, ak', ck', rfl, hlt, hx, h0, h1, h2, h3, h4⟩ := RowAt.at hr0 hv hbw hil
          have C := ih its[i] (List.getElem_mem hil) n (by omega) _ wr hx
          have HY : Hid (deepV n its[i] = true → (its.take (i + 1)).all (deepV n) = true) := fun h => all_take_succ hil HALL.out h
          have HX : Hid (deepV n its[i] = false → its.all (deepV n) = false) := fun h => all_false hil h
          obtain ⟨x, hxe⟩ : ∃ x, its[i] = x := ⟨_, rfl⟩
          rw [hxe] at h0 h1 h2 h3 h4 C HY HX
          obtain ⟨r, hr⟩ : ∃ r, deepV n x = r := ⟨_, rfl⟩
          rw [hr] at C HY HX
          clear hx hxe hr
          go_wp2_with fail
          refine C.mono ?_
          rintro e w' ⟨rfl, hq⟩
          have hb' := hbl.trans (hq.mono hbl.size)
          cases r with
          | false =>
            have HX' := Lib.hid (HX.out rfl)
            clear HX HY
            go_wp2
            go_ret
            exact ⟨by rw [HX'.out]; rfl, hbB.trans (hb'.mono (by omega))⟩
          | true =>
            have HY' := Lib.hid (HY.out rfl)
            clear HX HY
            go_wp2
            go_roundg g
            case measure => omega
            case rel => exact ⟨i + 1, by omega, by go_num, HY'.out, hb'⟩

end Go.Proofs.YtpbipngnoklmcaaDoor
