/- The walk of the document's At: the place of a key. -/
import Derived.Test.YtgbalofdfdafmaaDoorValQ
import Derived.Test.YtgbalofdfdafmaaDoorValE
import Derived.Test.YtgbalofdfdafmaaDoorMp
namespace Go.Proofs.YtgbalofdfdafmaaDoor
open Go.RowKit
set_option maxRecDepth 100000
attribute [local go_sem] str_size str_toList str_get

/-- The place of a key; -1: there is none. -/
def atI (ks : List (List UInt8)) (key : List UInt8) : Int := match ks.findIdx? (· == key) with | some i => (i : Int) | none => -1
theorem atI_hit {ks : List (List UInt8)} {key : List UInt8} {i : Nat} (hi : i < ks.length) (hn : ∀ j (h : j < i), ks[j]'(by omega) ≠ key) (he : ks[i] = key) : atI ks key = i := by
  have : ks.findIdx? (· == key) = some i := by
    rw [List.findIdx?_eq_some_iff_getElem]
    exact ⟨hi, by simpa using he, fun j hj => by simpa using hn j hj⟩
  unfold atI
  rw [this]
theorem atI_none {ks : List (List UInt8)} {key : List UInt8} (h : key ∉ ks) : atI ks key = -1 := by
  have : ks.findIdx? (· == key) = none := by
    rw [List.findIdx?_eq_none_iff]
    intro x hx
    simp only [beq_eq_false_iff_ne, ne_eq]
    rintro rfl
    exact h hx
  unfold atI
  rw [this]
/-- Where the keys rise. -/
theorem atI_rising {ks : List (List UInt8)} (hr : rising ks = true) {key : List UInt8} : atI ks key = if hasK ks key = true then (posK ks key : Int) else -1 := by
  by_cases h : hasK ks key = true
  · rw [if_pos h]
    obtain ⟨h1, h2⟩ := hasK_iff.1 h
    have e : ks[posK ks key] = key := by simpa [List.getD, h1] using h2
    refine atI_hit h1 (fun j hj hjk => ?_) e
    have := posK_less hj
    rw [show ks.getD j key = ks[j]'(by omega) by simp [List.getD, show j < ks.length by omega], hjk, ltS_irr] at this
    cases this
  · rw [if_neg h]
    exact atI_none fun hm => h ((hasK_mem hr).2 hm)

set_option maxHeartbeats 1600000 in
theorem at_rval (t : VT) (v : Value) (key : List UInt8) (w : World) (h : ValAt w t v) : Calls Tryd.prog 39 #[v, str key] w fun e w' => e = .returned (.int .i64 (atI t.keys key)) ∧ Below w.heap.size w w' := by
  obtain ⟨vi, vk, vs, rfl, hk, hks, hr, _⟩ := h.agg
  obtain ⟨ks, hkse⟩ : ∃ ks, t.keys = ks := ⟨_, rfl⟩
  rw [hkse] at hks ⊢
  have hks0 := hks
  obtain ⟨ak, ck, rfl, hm, _⟩ := hks
  obtain ⟨ao, cap, rfl, _, _⟩ := hr
  obtain ⟨wB, hwB⟩ : ∃ wB, wB = w.alloc (.cells #[.int .i64 t.kind, .bool t.flag, str t.text, .slice ao t.items.length cap, .slice ak ks.length ck] 26) := ⟨_, rfl⟩
  obtain ⟨_, _, _, _, b4, hsB, hbB⟩ := box5 hwB
  clear hkse
  obtain ⟨R, hR⟩ : ∃ R, atI ks key = R := ⟨_, rfl⟩
  rw [hR]
  have HR := Lib.hid hR
  clear hR
  go_enter Tryd.func39, Tryd.ntmps39
  go_wp2
  rw [← hwB]
  clear hwB
  go_loopg [9] ks.length (fun g v9 wr => ∃ i : Nat, i + g = ks.length ∧ v9 = .int .i64 i ∧ Hid (∀ j (h : j < ks.length), j < i → ks[j] ≠ key) ∧ Below wB.heap.size wB wr)
  case atStart => exact ⟨0, by omega, rfl, fun j _ h => absurd h (by omega), Below.refl _ _⟩
  case round =>
    obtain ⟨i, hig, rfl, hall, hbl⟩ := hrel
    have q4 := box_at b4 hsB hbl
    have hbw := hbB.trans (hbl.mono (by omega))
    cases gk with
    | zero =>
      obtain rfl : i = ks.length := by omega
      have hRe : R = -1 := by
        rw [← HR.out]
        refine atI_none fun hm => ?_
        obtain ⟨j, hj, e⟩ := List.getElem_of_mem hm
        exact hall.out j hj hj e
      subst hRe
      clear hall HR
      go_wp2
      go_ret
      exact ⟨rfl, hbw⟩
    | succ g =>
      have hil : i < ks.length := by omega
      have hie : (i : Int) < (ks.length : Int) := by omega
      obtain ⟨b1, o1, rfl, l1, h1⟩ := StrsAt.get hks0 hil
      have h1 := (hbw.cell (p := ⟨b1, o1 + i, none⟩) l1).trans h1
      rw [getD_at ks [] hil] at h1
      have hnx : ks[i] ≠ key → ∀ j (h : j < ks.length), j < i + 1 → ks[j] ≠ key := fun hne j hj hlt => by
        by_cases hji : j = i
        · subst hji; exact hne
        · exact hall.out j hj (by omega)
      have hRi : ks[i] = key → R = i := fun he => by
        rw [← HR.out]
        exact atI_hit hil (fun j hj => hall.out j (by omega) hj) he
      have HNX := Lib.hid hnx
      have HRI := Lib.hid hRi
      clear hnx hRi hall HR
      obtain ⟨x, hxe⟩ : ∃ x, ks[i] = x := ⟨_, rfl⟩
      rw [hxe] at h1 HNX HRI
      clear hxe hks0
      by_cases hx : x = key
      · obtain rfl := HRI.out hx
        subst hx
        clear HRI HNX
        go_wp2
        go_ret
        exact ⟨rfl, hbw⟩
      · have hxy : (x == key) = false := by simpa using hx
        have HT := Lib.hid (HNX.out hx)
        clear HRI HNX hx
        go_wp2
        go_roundg g
        case measure => omega
        case rel => exact ⟨i + 1, by omega, by go_num, HT.out, hbl⟩

end Go.Proofs.YtgbalofdfdafmaaDoor
