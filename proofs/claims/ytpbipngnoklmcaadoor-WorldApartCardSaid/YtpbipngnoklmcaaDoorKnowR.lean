/- The walk of the document's Known. -/
import Derived.Test.YtpbipngnoklmcaaDoorValQ
namespace Go.Proofs.YtpbipngnoklmcaaDoor
open Go.RowKit
set_option maxRecDepth 100000
attribute [local go_sem] str_size str_toList str_get

set_option maxHeartbeats 1600000 in
theorem known_rval (t : VT) : ∀ (v : Value) (w : World), ValAt w t v → Calls Tryd.prog 20 #[v] w fun e w' => e = .returned (.bool (knownV t)) ∧ Below w.heap.size w w' := by
  induction t using VT.ind with
  | h k b tx its ks ih =>
    intro v w h
    rw [ValAt] at h
    obtain ⟨vi, vk, rfl, hk, hks, vs, hr, hv⟩ := h
    obtain ⟨ak, ck, rfl, _⟩ := hks
    have hr0 := hr
    obtain ⟨ao, cap, rfl, hm, _⟩ := hr
    obtain ⟨wB, hwB⟩ : ∃ wB, wB = w.alloc (.cells #[.int .i64 k, .bool b, str tx, .slice ao its.length cap, .slice ak ks.length ck] 27) := ⟨_, rfl⟩
    obtain ⟨_, _, _, b3, _, hsB, hbB⟩ := box5 hwB
    rw [knownV, knownL_all]
    by_cases hk1 : k = 1
    · have hkb : (k == 1) = true := by simpa using hk1
      rw [hkb]
      clear hk1
      go_enter Tryd.func20, Tryd.ntmps20
      go_wp2
      rw [← hwB]
      clear hwB
      go_ret
      exact ⟨rfl, hbB⟩
    · have hkb : (k == 1) = false := by simpa using hk1
      rw [hkb, Bool.not_false, Bool.true_and]
      clear hk1
      go_enter Tryd.func20, Tryd.ntmps20
      go_wp2
      rw [← hwB]
      clear hwB
      go_loopg [10] its.length (fun g v10 wr => ∃ i : Nat, i + g = its.length ∧ v10 = .int .i64 i ∧ (its.take i).all knownV = true ∧ Below wB.heap.size wB wr)
      case atStart => exact ⟨0, by omega, rfl, rfl, Below.refl _ _⟩
      case round =>
        obtain ⟨i, hig, rfl, hall, hbl⟩ := hrel
        have q3 := box_at b3 hsB hbl
        have hbw := hbB.trans (hbl.mono (by omega))
        have HALL := Lib.hid hall
        clear hall
        cases gk with
        | zero =>
          obtain rfl : i = its.length := by omega
          have := HALL.out
          rw [List.take_length] at this
          have HF := Lib.hid this
          clear this
          go_wp2
          go_ret
          exact ⟨by rw [HF.out]; rfl, hbw⟩
        | succ g =>
          have hil : i < its.length := by omega
          have hie : (i : Int) < (its.length : Int) := by omega
          obtain ⟨b', off, ai, ci, ak', ck', rfl, hlt, hx, h0, h1, h2, h3, h4⟩ := RowAt.at hr0 hv hbw hil
          have C := ih its[i] (List.getElem_mem hil) _ wr hx
          have HY : Hid (knownV its[i] = true → (its.take (i + 1)).all knownV = true) := fun h => all_take_succ hil HALL.out h
          have HX : Hid (knownV its[i] = false → its.all knownV = false) := fun h => all_false hil h
          obtain ⟨x, hxe⟩ : ∃ x, its[i] = x := ⟨_, rfl⟩
          rw [hxe] at h0 h1 h2 h3 h4 C HY HX
          obtain ⟨r, hr⟩ : ∃ r, knownV x = r := ⟨_, rfl⟩
          rw [hr] at C HY HX
          clear hx hxe hr
          go_wp2_with fail
          refine C.mono ?_
          rintro e w' ⟨rfl, hq⟩
          have hb' := hbl.trans (hq.mono hbl.size)
          cases r with
          | false =>
            have HX' := Lib.hid (HX.out rfl)
            clear HX HY
            go_wp2
            go_ret
            exact ⟨by rw [HX'.out]; rfl, hbB.trans (hb'.mono (by omega))⟩
          | true =>
            have HY' := Lib.hid (HY.out rfl)
            clear HX HY
            go_wp2
            go_roundg g
            case measure => omega
            case rel => exact ⟨i + 1, by omega, by go_num, HY'.out, hb'⟩

end Go.Proofs.YtpbipngnoklmcaaDoor
