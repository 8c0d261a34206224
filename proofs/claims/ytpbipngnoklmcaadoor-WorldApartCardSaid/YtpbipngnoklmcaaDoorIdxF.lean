/- slices.ContainsFunc over values, whatever the closure does: its rounds by a relation of the caller's; value.Known. -/
import Derived.Test.YtpbipngnoklmcaaDoorValQ
import Derived.Shelf.Abstract
namespace Go.Proofs.YtpbipngnoklmcaaDoor
open Go.RowKit
set_option maxRecDepth 100000
attribute [local go_sem] str_size str_toList str_get

/-- What comes of asking each: a hit in a world of Q, or none in a world of R. -/
def IdxPost (n : Nat) (R : Nat → World → Prop) (Q : World → Prop) (e : Ending) (w' : World) : Prop :=
  (∃ i : Nat, e = .returned (.int .i64 i) ∧ i ≤ n ∧ Q w') ∨ (e = .returned (.int .i64 (-1)) ∧ R n w')
def HasPost (n : Nat) (R : Nat → World → Prop) (Q : World → Prop) (e : Ending) (w' : World) : Prop :=
  (e = .returned (.bool true) ∧ Q w') ∨ (e = .returned (.bool false) ∧ R n w')
def AskPost (R Q : World → Prop) (e : Ending) (w' : World) : Prop := (e = .returned (.bool true) ∧ Q w') ∨ (e = .returned (.bool false) ∧ R w')

set_option maxHeartbeats 2000000 in
theorem index_of (n : Nat) (ao : Option Addr) (cap : Nat) (vs : Nat → Value) (g : Nat) (lb : Array Value) (eg : ∀ args w, (callFunc g args).run Tryd.prog w = .ok (.enter g args) w) (w : World) (R : Nat → World → Prop) (Q : World → Prop)
    (hrow : ∀ i W, R i W → RowAt W (.slice ao n cap) n vs) (hcl : ∀ i W, i < n → R i W → Calls Tryd.prog g (#[vs i] ++ lb) W (AskPost (R (i + 1)) Q)) (h0 : R 0 w) :
    Calls Tryd.prog 69 #[.slice ao n cap, .func (.func g) #[] lb] w (IdxPost n R Q) := by
  have hm : n ≤ 9223372036854775807 := by
    obtain ⟨ao', cap', hv, hm, _⟩ := hrow 0 w h0
    cases hv
    omega
  have HR := Lib.hid hrow
  have HC := Lib.hid hcl
  clear hrow hcl
  go_enter Tryd.func69, Tryd.ntmps69
  go_wp2
  go_loopg [5, 8] n (fun gg _ s8 wr => ∃ i : Nat, i + gg = n ∧ s8 = .int .i64 i ∧ Hid (R i wr))
  case atStart => exact ⟨0, by omega, rfl, h0⟩
  case round =>
    obtain ⟨i, hig, rfl, HRi⟩ := hrel
    cases gk with
    | zero =>
      obtain rfl : i = n := by omega
      go_wp2
      go_ret
      exact .inr ⟨rfl, HRi.out⟩
    | succ gg =>
      have hin : i < n := by omega
      have hie : (i : Int) < (n : Int) := by omega
      obtain ⟨ao', cap', hv, hm', hcell⟩ := HR.out i wr HRi.out
      cases hv
      obtain ⟨b, off, rfl, hlt, hc⟩ := hcell (by omega)
      obtain ⟨c0, c1, c2, c3, c4, hvs, h0, h1, h2, h3, h4⟩ := hc i hin
      have C := HC.out i wr hin HRi.out
      rw [hvs] at C
      clear hvs hcell hc hm'
      go_wp2_with fail
      refine C.mono ?_
      rintro e w' (⟨rfl, hq⟩ | ⟨rfl, hq⟩)
      · have HQ := Lib.hid hq
        clear hq
        go_wp2
        go_ret
        exact .inl ⟨i, rfl, by omega, HQ.out⟩
      · have HQ := Lib.hid hq
        clear hq
        go_wp2
        go_roundg gg
        case measure => omega
        case rel => exact ⟨i + 1, by omega, by go_num, HQ⟩

set_option maxHeartbeats 2000000 in
theorem contains_of (n : Nat) (ao : Option Addr) (cap : Nat) (vs : Nat → Value) (g : Nat) (lb : Array Value) (eg : ∀ args w, (callFunc g args).run Tryd.prog w = .ok (.enter g args) w) (w : World) (R : Nat → World → Prop) (Q : World → Prop)
    (hrow : ∀ i W, R i W → RowAt W (.slice ao n cap) n vs) (hcl : ∀ i W, i < n → R i W → Calls Tryd.prog g (#[vs i] ++ lb) W (AskPost (R (i + 1)) Q)) (h0 : R 0 w) :
    Calls Tryd.prog 49 #[.slice ao n cap, .func (.func g) #[] lb] w (HasPost n R Q) := by
  have C := index_of n ao cap vs g lb eg w R Q hrow hcl h0
  clear hrow hcl h0
  go_enter Tryd.func49, Tryd.ntmps49
  go_wp2_with fail
  refine C.mono ?_
  rintro e w' (⟨i, rfl, hi, hq⟩ | ⟨rfl, hq⟩)
  · have HQ := Lib.hid hq
    clear hq
    go_wp2
    go_ret
    exact .inl ⟨by simp, HQ.out⟩
  · have HQ := Lib.hid hq
    clear hq
    go_wp2
    go_ret
    exact .inr ⟨rfl, HQ.out⟩

set_option maxHeartbeats 2000000 in
theorem known_val (t : VT) : ∀ (v : Value) (w : World), ValAt w t v → Calls Tryd.prog 34 #[v] w fun e w' => e = .returned (.bool (knownV t)) ∧ Below w.heap.size w w' := by
  induction t using VT.ind with
  | h k b tx its ks ih =>
    intro v w h
    rw [ValAt] at h
    obtain ⟨vi, vk, rfl, hk, hks, vs, hr, hv⟩ := h
    obtain ⟨ak, ck, rfl, _⟩ := hks
    have hr0 := hr
    obtain ⟨ao, cap, rfl, hm, _⟩ := hr
    obtain ⟨wB, hwB⟩ : ∃ wB, wB = w.alloc (.cells #[.int .i64 k, .bool b, str tx, .slice ao its.length cap, .slice ak ks.length ck] 27) := ⟨_, rfl⟩
    obtain ⟨_, _, _, b3, _, hsB, hbB⟩ := box5 hwB
    rw [knownV, knownL_all]
    by_cases hk1 : k = 1
    · have hkb : (k == 1) = true := by simpa using hk1
      have hkc : (k != 1) = false := by simpa using hk1
      rw [hkb]
      clear hk1 hkb
      go_enter Tryd.func34, Tryd.ntmps34
      go_wp2
      rw [← hwB]
      clear hwB
      go_ret
      exact ⟨rfl, hbB⟩
    · have hkb : (k == 1) = false := by simpa using hk1
      have hkc : (k != 1) = true := by simpa using hk1
      rw [hkb, Bool.not_false, Bool.true_and]
      clear hk1 hkb
      have C := contains_of its.length ao cap vs 50 #[] (enters_of Tryd.func50 (by kernel_rfl) rfl) wB
        (fun i W => Below wB.heap.size wB W ∧ (its.take i).all knownV = true) (fun W => Below wB.heap.size wB W ∧ its.all knownV = false)
        (fun i W hR => hr0.mono (hbB.trans (hR.1.mono (by omega))))
        (fun i W hi hR => by
          obtain ⟨b', off, ai, ci, ak', ck', e1, hlt, hx, h0, h1, h2, h3, h4⟩ := RowAt.at hr0 hv (hbB.trans (hR.1.mono (by omega))) hi
          have hvi : vs i = .agg #[.int .i64 its[i].kind, .bool its[i].flag, str its[i].text, .slice ai its[i].items.length ci, .slice ak' its[i].keys.length ck'] := by
            obtain ⟨b2, off2, vi2, vk2, e2, hlt2, hvs, hx2, g0, g1, g2, g3, g4⟩ := RowAt.get hr0 rfl hv hi
            rw [e1] at e2
            cases e2
            have hq := hbB.trans (hR.1.mono (show w.heap.size ≤ wB.heap.size by omega))
            have k3 := (hq.cell (p := ⟨b', off + i * 5 + 3, none⟩) hlt2).trans g3
            have k4 := (hq.cell (p := ⟨b', off + i * 5 + 4, none⟩) hlt2).trans g4
            rw [h3] at k3
            rw [h4] at k4
            cases k3
            cases k4
            exact hvs
          rw [hvi]
          have C1 := fun W' hb' => ih its[i] (List.getElem_mem hi) _ W' (hx.mono hb')
          have HT : knownV its[i] = true → (its.take (i + 1)).all knownV = true := fun h => all_take_succ hi hR.2 h
          have HF : knownV its[i] = false → its.all knownV = false := fun h => all_false hi h
          have hbl := hR.1
          obtain ⟨x, hxe⟩ : ∃ x, its[i] = x := ⟨_, rfl⟩
          rw [hxe] at hx C1 HT HF ⊢
          obtain ⟨r, hr⟩ : ∃ r, knownV x = r := ⟨_, rfl⟩
          rw [hr] at C1 HT HF
          clear hr hxe h0 h1 h2 h3 h4 hlt e1 hvi hR hr0 hv ih b3 hwB hx
          have HT := Lib.hid HT
          have HF := Lib.hid HF
          go_enter Tryd.func50, Tryd.ntmps50
          go_wp2_with fail
          refine (C1 _ ((Below.refl _ W).alloc (Nat.le_refl _) _)).mono ?_
          rintro e w' ⟨rfl, hq⟩
          have hb' := ((Below.refl _ W).alloc (Nat.le_refl _) _).trans (hq.mono (by simp))
          have hb2 := hbl.trans (hb'.mono hbl.size)
          cases r with
          | false =>
            have HF' := Lib.hid (HF.out rfl)
            clear HF HT
            go_wp2
            go_ret
            exact .inl ⟨rfl, hb2, HF'.out⟩
          | true =>
            have HT' := Lib.hid (HT.out rfl)
            clear HF HT
            go_wp2
            go_ret
            exact .inr ⟨rfl, hb2, HT'.out⟩)
        ⟨Below.refl _ _, by simp⟩
      clear hr0 hv ih
      go_enter Tryd.func34, Tryd.ntmps34
      go_wp2_with (rw [← hwB])
      clear hwB
      go_wp2_with fail
      refine C.mono ?_
      rintro e w' (⟨rfl, hq, hf⟩ | ⟨rfl, hq, hf⟩)
      · have HF := Lib.hid hf
        clear hf
        go_wp2
        go_ret
        exact ⟨by rw [HF.out]; rfl, hbB.trans (hq.mono (by omega))⟩
      · rw [List.take_length] at hf
        have HF := Lib.hid hf
        clear hf
        go_wp2
        go_ret
        exact ⟨by rw [HF.out]; rfl, hbB.trans (hq.mono (by omega))⟩

end Go.Proofs.YtpbipngnoklmcaaDoor
