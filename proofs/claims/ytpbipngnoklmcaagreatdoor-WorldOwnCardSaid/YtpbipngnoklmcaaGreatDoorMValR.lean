/- The walks of the document's questions on values. The walks of the document's Deep and Known. slices.ContainsFunc over values, whatever the closure does: its rounds by a relation of the caller's; value.Known. -/
import Derived.Test.YtpbipngnoklmcaaGreatDoorMWldP
import Derived.Test.YtpbipngnoklmcaaGreatDoorMWldM
import Derived.Shelf.Abstract
namespace Go.Proofs.YtpbipngnoklmcaaGreatDoor
open Go.RowKit
set_option maxRecDepth 100000
attribute [local go_sem] str_size str_toList str_get

/- How far the document counts. -/
mutual
def sizeR : VT → Nat | .mk _ _ _ its _ => sizeRL 1 its
def sizeRL : Nat → List VT → Nat | n, [] => n | n, x :: r => if n ≤ 2000 then sizeRL (n + sizeR x) r else n
end
theorem sizeRL_stop {n : Nat} (h : ¬ n ≤ 2000) : ∀ (l : List VT), sizeRL n l = n
  | [] => by rw [sizeRL]
  | _ :: _ => by rw [sizeRL, if_neg h]
theorem sizeRL_append : ∀ (l m : List VT) (n : Nat), sizeRL n (l ++ m) = sizeRL (sizeRL n l) m
  | [], m, n => by rw [List.nil_append, sizeRL]
  | x :: r, m, n => by
    rw [List.cons_append, sizeRL, sizeRL]
    by_cases h : n ≤ 2000
    · rw [if_pos h, if_pos h, sizeRL_append r m]
    · rw [if_neg h, if_neg h, sizeRL_stop h]
theorem sizeRL_ge : ∀ (l : List VT) (n : Nat), n ≤ sizeRL n l
  | [], n => by rw [sizeRL]; omega
  | x :: r, n => by
    rw [sizeRL]
    by_cases h : n ≤ 2000
    · rw [if_pos h]; have := sizeRL_ge r (n + sizeR x); omega
    · rw [if_neg h]; omega
/-- The document's count is exact where it is not above the limit, and above it where the size is. -/
theorem sizeR_iff (t : VT) : (sizeV t ≤ 2000 → sizeR t = sizeV t) ∧ (2000 < sizeV t → 2000 < sizeR t) := by
  induction t using VT.ind with
  | h k b tx its ks ih =>
    have key : ∀ (l : List VT) (n : Nat), (∀ x ∈ l, (sizeV x ≤ 2000 → sizeR x = sizeV x) ∧ (2000 < sizeV x → 2000 < sizeR x)) → 1 ≤ n → (n + sizeL l ≤ 2000 → sizeRL n l = n + sizeL l) ∧ (2000 < n + sizeL l → 2000 < sizeRL n l) := by
      intro l
      induction l with
      | nil => intro n _ _; rw [sizeL, sizeRL]; exact ⟨fun _ => rfl, fun h => h⟩
      | cons x r ihr =>
        intro n hx hn
        have hr := fun m hm => ihr m (fun y hy => hx y (by simp [hy])) hm
        have hx0 := hx x (by simp)
        rw [sizeL, sizeRL]
        by_cases h : n ≤ 2000
        · rw [if_pos h]
          by_cases h2 : sizeV x ≤ 2000
          · rw [hx0.1 h2, ← Nat.add_assoc]
            exact hr (n + sizeV x) (by omega)
          · refine ⟨fun h3 => by omega, fun _ => ?_⟩
            have := hx0.2 (by omega)
            have := sizeRL_ge r (n + sizeR x)
            omega
        · rw [if_neg h]
          exact ⟨fun h3 => by omega, fun _ => by omega⟩
    rw [sizeV, sizeR]
    exact key its 1 ih (Nat.le_refl _)
theorem sizeR_deep (t : VT) : ∀ d, deepV d t = true → sizeR t ≤ 2001 * d := by
  induction t using VT.ind with
  | h k b tx its ks ih =>
    intro d hd
    cases d with
    | zero => simp [deepV] at hd
    | succ d =>
      rw [deepV, List.all_eq_true] at hd
      have key : ∀ (l : List VT) (n : Nat), (∀ x ∈ l, x ∈ its) → n ≤ 2001 + 2001 * d → sizeRL n l ≤ 2001 + 2001 * d := by
        intro l
        induction l with
        | nil => intro n _ h; rw [sizeRL]; exact h
        | cons x r ihr =>
          intro n hx h
          rw [sizeRL]
          by_cases h2 : n ≤ 2000
          · rw [if_pos h2]
            refine ihr _ (fun y hy => hx y (by simp [hy])) ?_
            have := ih x (hx x (by simp)) d (hd x (hx x (by simp)))
            omega
          · rw [if_neg h2]; exact h
      rw [sizeR]
      have := key its 1 (fun _ h => h) (by omega)
      omega
theorem sizeR_pre {d : Nat} {k : Int} {b : Bool} {tx : List UInt8} {its : List VT} {ks : List (List UInt8)} (h : deepV (d + 1) (.mk k b tx its ks) = true) (i : Nat) : sizeRL 1 (its.take i) ≤ 2001 * (d + 1) := by
  have h2 : deepV (d + 1) (.mk k b tx (its.take i) ks) = true := by
    rw [deepV, List.all_eq_true] at h ⊢
    exact fun x hx => h x (List.mem_of_mem_take hx)
  have := sizeR_deep _ _ h2
  rwa [sizeR] at this

theorem box5 {w w1 : World} {c0 c1 c2 c3 c4 : Value} {T : TypeId} (h : w1 = w.alloc (.cells #[c0, c1, c2, c3, c4] T)) :
    w1.cell? ⟨w.heap.size, 0, none⟩ = some c0 ∧ w1.cell? ⟨w.heap.size, 1, none⟩ = some c1 ∧ w1.cell? ⟨w.heap.size, 2, none⟩ = some c2 ∧ w1.cell? ⟨w.heap.size, 3, none⟩ = some c3 ∧ w1.cell? ⟨w.heap.size, 4, none⟩ = some c4 ∧ w1.heap.size = w.heap.size + 1 ∧ Below w.heap.size w w1 := by
  have hn : w1.heap[w.heap.size]? = some (.cells #[c0, c1, c2, c3, c4] T (0, 0)) := by rw [h]; exact heap_alloc_new _ _
  have hs : w1.heap.size = w.heap.size + 1 := by rw [h]; simp only [World.alloc, Array.size_push]
  have hb : Below w.heap.size w w1 := by rw [h]; exact (Below.refl _ _).alloc (Nat.le_refl _) _
  clear h
  refine ⟨?_, ?_, ?_, ?_, ?_, hs, hb⟩ <;> simp [World.cell?, hn]
/-- A cell of the box, in a world that has only grown. -/
theorem box_at {w w1 w' : World} {j : Nat} {c : Value} (h : w1.cell? ⟨w.heap.size, j, none⟩ = some c) (hs : w1.heap.size = w.heap.size + 1) (hb : Below w1.heap.size w1 w') : w'.cell? ⟨w.heap.size, j, none⟩ = some c :=
  (hb.cell (p := ⟨w.heap.size, j, none⟩) (by show w.heap.size < w1.heap.size; omega)).trans h

set_option maxHeartbeats 1600000 in
theorem size_rval (t : VT) : ∀ (v : Value) (w : World), ValAt w t v → Calls Tryz.prog 41 #[v] w fun e w' => (∃ z : Int, e = .returned (.int .i64 z) ∧ -9223372036854775808 ≤ z ∧ z ≤ 9223372036854775807 ∧ ∀ d, d ≤ 1000 → deepV d t = true → z = sizeR t) ∧ Below w.heap.size w w' := by
  induction t using VT.ind with
  | h k b tx its ks ih =>
    intro v w h
    rw [ValAt] at h
    obtain ⟨vi, vk, rfl, hk, hks, vs, hr, hv⟩ := h
    obtain ⟨ak, ck, rfl, _⟩ := hks
    have hr0 := hr
    obtain ⟨ao, cap, rfl, hm, _⟩ := hr
    obtain ⟨wB, hwB⟩ : ∃ wB, wB = w.alloc (.cells #[.int .i64 k, .bool b, str tx, .slice ao its.length cap, .slice ak ks.length ck] 41) := ⟨_, rfl⟩
    obtain ⟨_, _, _, b3, _, hsB, hbB⟩ := box5 hwB
    go_enter Tryz.func41, Tryz.ntmps41
    go_wp2
    rw [← hwB]
    clear hwB
    go_loopg [3, 4] its.length (fun g v3 v4 wr => ∃ (i : Nat) (z : Int), i + g = its.length ∧ v4 = .int .i64 i ∧ v3 = .int .i64 z ∧ -9223372036854775808 ≤ z ∧ z ≤ 9223372036854775807 ∧ (∀ d, d ≤ 1000 → deepV d (.mk k b tx its ks) = true → z = sizeRL 1 (its.take i)) ∧ Below wB.heap.size wB wr)
    case atStart => exact ⟨0, 1, by omega, rfl, rfl, by omega, by omega, fun d _ _ => by rw [List.take_zero, sizeRL]; rfl, Below.refl _ _⟩
    case round =>
      obtain ⟨i, z, hig, rfl, rfl, hz0, hz1, hz, hbl⟩ := hrel
      have q3 := box_at b3 hsB hbl
      have hbw := hbB.trans (hbl.mono (by omega))
      cases gk with
      | zero =>
        obtain rfl : i = its.length := by omega
        rw [List.take_length] at hz
        have HZ := Lib.hid hz
        clear hz
        go_wp2
        go_ret
        exact ⟨⟨z, rfl, hz0, hz1, fun d hd hp => by rw [HZ.out d hd hp, sizeR]⟩, hbw⟩
      | succ g =>
        have hil : i < its.length := by omega
        have hie : (i : Int) < (its.length : Int) := by omega
        by_cases hz2 : z ≤ 2000
        · obtain ⟨b', off, ai, ci, ak', ck', rfl, hlt, hx, h0, h1, h2, h3, h4⟩ := RowAt.at hr0 hv hbw hil
          have C := ih its[i] (List.getElem_mem hil) _ wr hx
          have hnext : ∀ zc : Int, (∀ d, d ≤ 1000 → deepV d its[i] = true → zc = sizeR its[i]) → ∀ d, d ≤ 1000 → deepV d (.mk k b tx its ks) = true → wrap64 (z + zc) = sizeRL 1 (its.take (i + 1)) := by
            intro zc hzc d hd hp
            have h5 := hz d hd hp
            cases d with
            | zero => simp [deepV] at hp
            | succ d =>
              have h8 := sizeR_pre hp (i + 1)
              rw [deepV, List.all_eq_true] at hp
              have h6 := hzc d (by omega) (hp _ (List.getElem_mem hil))
              have h7 : sizeRL 1 (its.take (i + 1)) = sizeRL 1 (its.take i) + sizeR its[i] := by
                rw [List.take_succ_eq_append_getElem hil, sizeRL_append, sizeRL, if_pos (by omega), sizeRL]
              rw [h5, h6]
              unfold wrap64
              omega
          obtain ⟨x, hxe⟩ : ∃ x, its[i] = x := ⟨_, rfl⟩
          rw [hxe] at h0 h1 h2 h3 h4 C hnext
          have HN := Lib.hid hnext
          clear hx hxe hz hnext
          go_wp2_with fail
          refine C.mono ?_
          rintro e w' ⟨⟨zc, rfl, hc0, hc1, hc2⟩, hq⟩
          have hb' := hbl.trans (hq.mono hbl.size)
          have hw0 : -9223372036854775808 ≤ wrap64 (z + zc) := by unfold wrap64; omega
          have hw1 : wrap64 (z + zc) ≤ 9223372036854775807 := by unfold wrap64; omega
          have HC := Lib.hid hc2
          clear hc2 hq
          go_wp2
          go_roundg g
          case measure => omega
          case rel => exact ⟨i + 1, _, by omega, by go_num, rfl, hw0, hw1, HN.out _ HC.out, hb'⟩
        · have HZ := Lib.hid hz
          clear hz
          go_wp2
          go_ret
          refine ⟨⟨z, rfl, hz0, hz1, fun d hd hp => ?_⟩, hbw⟩
          have := HZ.out d hd hp
          rw [sizeR, this]
          conv => rhs; rw [← List.take_append_drop i its, sizeRL_append]
          rw [sizeRL_stop (n := sizeRL 1 (its.take i)) (by omega)]

end Go.Proofs.YtpbipngnoklmcaaGreatDoor
namespace Go.Proofs.YtpbipngnoklmcaaGreatDoor
open Go.RowKit
set_option maxRecDepth 100000
attribute [local go_sem] str_size str_toList str_get

theorem all_false {α : Type} {p : α → Bool} {l : List α} {i : Nat} (hi : i < l.length) (h : p l[i] = false) : l.all p = false := by
  rw [List.all_eq_false]
  exact ⟨_, List.getElem_mem hi, by simp [h]⟩
theorem all_take_succ {α : Type} {p : α → Bool} {l : List α} {i : Nat} (hi : i < l.length) (h : (l.take i).all p = true) (hx : p l[i] = true) : (l.take (i + 1)).all p = true := by
  rw [List.take_succ_eq_append_getElem hi, List.all_append, h, List.all_cons, hx]
  rfl

set_option maxHeartbeats 1600000 in
theorem deep_rval (t : VT) : ∀ (n : Nat) (_hn : n ≤ 1000) (v : Value) (w : World), ValAt w t v → Calls Tryz.prog 42 #[v, .int .i64 (n : Int)] w fun e w' => e = .returned (.bool (deepV n t)) ∧ Below w.heap.size w w' := by
  induction t using VT.ind with
  | h k b tx its ks ih =>
    intro n hn
    cases n with
    | zero =>
      intro v w h
      rw [ValAt] at h
      obtain ⟨vi, vk, rfl, hk, hks, vs, hr, hv⟩ := h
      obtain ⟨ak, ck, rfl, _⟩ := hks
      obtain ⟨ao, cap, rfl, hm, _⟩ := hr
      go_enter Tryz.func42, Tryz.ntmps42
      go_wp2
      go_ret
      exact ⟨rfl, (Below.refl _ _).alloc (Nat.le_refl _) _⟩
    | succ n =>
      intro v w h
      rw [ValAt] at h
      obtain ⟨vi, vk, rfl, hk, hks, vs, hr, hv⟩ := h
      obtain ⟨ak, ck, rfl, _⟩ := hks
      have hr0 := hr
      obtain ⟨ao, cap, rfl, hm, _⟩ := hr
      obtain ⟨wB, hwB⟩ : ∃ wB, wB = w.alloc (.cells #[.int .i64 k, .bool b, str tx, .slice ao its.length cap, .slice ak ks.length ck] 41) := ⟨_, rfl⟩
      obtain ⟨_, _, _, b3, _, hsB, hbB⟩ := box5 hwB
      rw [deepV]
      have hpred : ((n + 1 : Nat) : Int) - 1 = (n : Int) := by omega
      have hn0 : (((n + 1 : Nat) : Int) == 0) = false := by simp; omega
      obtain ⟨N, hN⟩ : ∃ N : Int, ((n + 1 : Nat) : Int) = N := ⟨_, rfl⟩
      rw [hN] at hpred hn0 ⊢
      have hNb : N ≤ 2000 := by omega
      have hNb0 : 1 ≤ N := by omega
      clear hN
      go_enter Tryz.func42, Tryz.ntmps42
      go_wp2
      rw [← hwB]
      clear hwB
      go_loopg [11] its.length (fun g v11 wr => ∃ i : Nat, i + g = its.length ∧ v11 = .int .i64 i ∧ (its.take i).all (deepV n) = true ∧ Below wB.heap.size wB wr)
      case atStart => exact ⟨0, by omega, rfl, rfl, Below.refl _ _⟩
      case round =>
        obtain ⟨i, hig, rfl, hall, hbl⟩ := hrel
        have q3 := box_at b3 hsB hbl
        have hbw := hbB.trans (hbl.mono (by omega))
        have HALL := Lib.hid hall
        clear hall
        cases gk with
        | zero =>
          obtain rfl : i = its.length := by omega
          have := HALL.out
          rw [List.take_length] at this
          have HF := Lib.hid this
          clear this
          go_wp2
          go_ret
          exact ⟨by rw [HF.out]; rfl, hbw⟩
        | succ g =>
          have hil : i < its.length := by omega
          have hie : (i : Int) < (its.length : Int) := by omega
          obtain ⟨b', off, ai, ci, ak', ck', rfl, hlt, hx, h0, h1, h2, h3, h4⟩ := RowAt.at hr0 hv hbw hil
          have C := ih its[i] (List.getElem_mem hil) n (by omega) _ wr hx
          have HY : Hid (deepV n its[i] = true → (its.take (i + 1)).all (deepV n) = true) := fun h => all_take_succ hil HALL.out h
          have HX : Hid (deepV n its[i] = false → its.all (deepV n) = false) := fun h => all_false hil h
          obtain ⟨x, hxe⟩ : ∃ x, its[i] = x := ⟨_, rfl⟩
          rw [hxe] at h0 h1 h2 h3 h4 C HY HX
          obtain ⟨r, hr⟩ : ∃ r, deepV n x = r := ⟨_, rfl⟩
          rw [hr] at C HY HX
          clear hx hxe hr
          go_wp2_with fail
          refine C.mono ?_
          rintro e w' ⟨rfl, hq⟩
          have hb' := hbl.trans (hq.mono hbl.size)
          cases r with
          | false =>
            have HX' := Lib.hid (HX.out rfl)
            clear HX HY
            go_wp2
            go_ret
            exact ⟨by rw [HX'.out]; rfl, hbB.trans (hb'.mono (by omega))⟩
          | true =>
            have HY' := Lib.hid (HY.out rfl)
            clear HX HY
            go_wp2
            go_roundg g
            case measure => omega
            case rel => exact ⟨i + 1, by omega, by go_num, HY'.out, hb'⟩

end Go.Proofs.YtpbipngnoklmcaaGreatDoor
namespace Go.Proofs.YtpbipngnoklmcaaGreatDoor
open Go.RowKit
set_option maxRecDepth 100000
attribute [local go_sem] str_size str_toList str_get

/-- What comes of asking each: a hit in a world of Q, or none in a world of R. -/
def IdxPost (n : Nat) (R : Nat → World → Prop) (Q : World → Prop) (e : Ending) (w' : World) : Prop :=
  (∃ i : Nat, e = .returned (.int .i64 i) ∧ i ≤ n ∧ Q w') ∨ (e = .returned (.int .i64 (-1)) ∧ R n w')
def HasPost (n : Nat) (R : Nat → World → Prop) (Q : World → Prop) (e : Ending) (w' : World) : Prop :=
  (e = .returned (.bool true) ∧ Q w') ∨ (e = .returned (.bool false) ∧ R n w')
def AskPost (R Q : World → Prop) (e : Ending) (w' : World) : Prop := (e = .returned (.bool true) ∧ Q w') ∨ (e = .returned (.bool false) ∧ R w')

set_option maxHeartbeats 2000000 in
theorem index_of (n : Nat) (ao : Option Addr) (cap : Nat) (vs : Nat → Value) (g : Nat) (lb : Array Value) (eg : ∀ args w, (callFunc g args).run Tryz.prog w = .ok (.enter g args) w) (w : World) (R : Nat → World → Prop) (Q : World → Prop)
    (hrow : ∀ i W, R i W → RowAt W (.slice ao n cap) n vs) (hcl : ∀ i W, i < n → R i W → Calls Tryz.prog g (#[vs i] ++ lb) W (AskPost (R (i + 1)) Q)) (h0 : R 0 w) :
    Calls Tryz.prog 98 #[.slice ao n cap, .func (.func g) #[] lb] w (IdxPost n R Q) := by
  have hm : n ≤ 9223372036854775807 := by
    obtain ⟨ao', cap', hv, hm, _⟩ := hrow 0 w h0
    cases hv
    omega
  have HR := Lib.hid hrow
  have HC := Lib.hid hcl
  clear hrow hcl
  go_enter Tryz.func98, Tryz.ntmps98
  go_wp2
  go_loopg [5, 8] n (fun gg _ s8 wr => ∃ i : Nat, i + gg = n ∧ s8 = .int .i64 i ∧ Hid (R i wr))
  case atStart => exact ⟨0, by omega, rfl, h0⟩
  case round =>
    obtain ⟨i, hig, rfl, HRi⟩ := hrel
    cases gk with
    | zero =>
      obtain rfl : i = n := by omega
      go_wp2
      go_ret
      exact .inr ⟨rfl, HRi.out⟩
    | succ gg =>
      have hin : i < n := by omega
      have hie : (i : Int) < (n : Int) := by omega
      obtain ⟨ao', cap', hv, hm', hcell⟩ := HR.out i wr HRi.out
      cases hv
      obtain ⟨b, off, rfl, hlt, hc⟩ := hcell (by omega)
      obtain ⟨c0, c1, c2, c3, c4, hvs, h0, h1, h2, h3, h4⟩ := hc i hin
      have C := HC.out i wr hin HRi.out
      rw [hvs] at C
      clear hvs hcell hc hm'
      go_wp2_with fail
      refine C.mono ?_
      rintro e w' (⟨rfl, hq⟩ | ⟨rfl, hq⟩)
      · have HQ := Lib.hid hq
        clear hq
        go_wp2
        go_ret
        exact .inl ⟨i, rfl, by omega, HQ.out⟩
      · have HQ := Lib.hid hq
        clear hq
        go_wp2
        go_roundg gg
        case measure => omega
        case rel => exact ⟨i + 1, by omega, by go_num, HQ⟩

set_option maxHeartbeats 2000000 in
theorem contains_of (n : Nat) (ao : Option Addr) (cap : Nat) (vs : Nat → Value) (g : Nat) (lb : Array Value) (eg : ∀ args w, (callFunc g args).run Tryz.prog w = .ok (.enter g args) w) (w : World) (R : Nat → World → Prop) (Q : World → Prop)
    (hrow : ∀ i W, R i W → RowAt W (.slice ao n cap) n vs) (hcl : ∀ i W, i < n → R i W → Calls Tryz.prog g (#[vs i] ++ lb) W (AskPost (R (i + 1)) Q)) (h0 : R 0 w) :
    Calls Tryz.prog 78 #[.slice ao n cap, .func (.func g) #[] lb] w (HasPost n R Q) := by
  have C := index_of n ao cap vs g lb eg w R Q hrow hcl h0
  clear hrow hcl h0
  go_enter Tryz.func78, Tryz.ntmps78
  go_wp2_with fail
  refine C.mono ?_
  rintro e w' (⟨i, rfl, hi, hq⟩ | ⟨rfl, hq⟩)
  · have HQ := Lib.hid hq
    clear hq
    go_wp2
    go_ret
    exact .inl ⟨by simp, HQ.out⟩
  · have HQ := Lib.hid hq
    clear hq
    go_wp2
    go_ret
    exact .inr ⟨rfl, HQ.out⟩

set_option maxHeartbeats 2000000 in
theorem known_val (t : VT) : ∀ (v : Value) (w : World), ValAt w t v → Calls Tryz.prog 60 #[v] w fun e w' => e = .returned (.bool (knownV t)) ∧ Below w.heap.size w w' := by
  induction t using VT.ind with
  | h k b tx its ks ih =>
    intro v w h
    rw [ValAt] at h
    obtain ⟨vi, vk, rfl, hk, hks, vs, hr, hv⟩ := h
    obtain ⟨ak, ck, rfl, _⟩ := hks
    have hr0 := hr
    obtain ⟨ao, cap, rfl, hm, _⟩ := hr
    obtain ⟨wB, hwB⟩ : ∃ wB, wB = w.alloc (.cells #[.int .i64 k, .bool b, str tx, .slice ao its.length cap, .slice ak ks.length ck] 41) := ⟨_, rfl⟩
    obtain ⟨_, _, _, b3, _, hsB, hbB⟩ := box5 hwB
    rw [knownV, knownL_all]
    by_cases hk1 : k = 1
    · have hkb : (k == 1) = true := by simpa using hk1
      have hkc : (k != 1) = false := by simpa using hk1
      rw [hkb]
      clear hk1 hkb
      go_enter Tryz.func60, Tryz.ntmps60
      go_wp2
      rw [← hwB]
      clear hwB
      go_ret
      exact ⟨rfl, hbB⟩
    · have hkb : (k == 1) = false := by simpa using hk1
      have hkc : (k != 1) = true := by simpa using hk1
      rw [hkb, Bool.not_false, Bool.true_and]
      clear hk1 hkb
      have C := contains_of its.length ao cap vs 79 #[] (enters_of Tryz.func79 (by kernel_rfl) rfl) wB
        (fun i W => Below wB.heap.size wB W ∧ (its.take i).all knownV = true) (fun W => Below wB.heap.size wB W ∧ its.all knownV = false)
        (fun i W hR => hr0.mono (hbB.trans (hR.1.mono (by omega))))
        (fun i W hi hR => by
          obtain ⟨b', off, ai, ci, ak', ck', e1, hlt, hx, h0, h1, h2, h3, h4⟩ := RowAt.at hr0 hv (hbB.trans (hR.1.mono (by omega))) hi
          have hvi : vs i = .agg #[.int .i64 its[i].kind, .bool its[i].flag, str its[i].text, .slice ai its[i].items.length ci, .slice ak' its[i].keys.length ck'] := by
            obtain ⟨b2, off2, vi2, vk2, e2, hlt2, hvs, hx2, g0, g1, g2, g3, g4⟩ := RowAt.get hr0 rfl hv hi
            rw [e1] at e2
            cases e2
            have hq := hbB.trans (hR.1.mono (show w.heap.size ≤ wB.heap.size by omega))
            have k3 := (hq.cell (p := ⟨b', off + i * 5 + 3, none⟩) hlt2).trans g3
            have k4 := (hq.cell (p := ⟨b', off + i * 5 + 4, none⟩) hlt2).trans g4
            rw [h3] at k3
            rw [h4] at k4
            cases k3
            cases k4
            exact hvs
          rw [hvi]
          have C1 := fun W' hb' => ih its[i] (List.getElem_mem hi) _ W' (hx.mono hb')
          have HT : knownV its[i] = true → (its.take (i + 1)).all knownV = true := fun h => all_take_succ hi hR.2 h
          have HF : knownV its[i] = false → its.all knownV = false := fun h => all_false hi h
          have hbl := hR.1
          obtain ⟨x, hxe⟩ : ∃ x, its[i] = x := ⟨_, rfl⟩
          rw [hxe] at hx C1 HT HF ⊢
          obtain ⟨r, hr⟩ : ∃ r, knownV x = r := ⟨_, rfl⟩
          rw [hr] at C1 HT HF
          clear hr hxe h0 h1 h2 h3 h4 hlt e1 hvi hR hr0 hv ih b3 hwB hx
          have HT := Lib.hid HT
          have HF := Lib.hid HF
          go_enter Tryz.func79, Tryz.ntmps79
          go_wp2_with fail
          refine (C1 _ ((Below.refl _ W).alloc (Nat.le_refl _) _)).mono ?_
          rintro e w' ⟨rfl, hq⟩
          have hb' := ((Below.refl _ W).alloc (Nat.le_refl _) _).trans (hq.mono (by simp))
          have hb2 := hbl.trans (hb'.mono hbl.size)
          cases r with
          | false =>
            have HF' := Lib.hid (HF.out rfl)
            clear HF HT
            go_wp2
            go_ret
            exact .inl ⟨rfl, hb2, HF'.out⟩
          | true =>
            have HT' := Lib.hid (HT.out rfl)
            clear HF HT
            go_wp2
            go_ret
            exact .inr ⟨rfl, hb2, HT'.out⟩)
        ⟨Below.refl _ _, by simp⟩
      clear hr0 hv ih
      go_enter Tryz.func60, Tryz.ntmps60
      go_wp2_with (rw [← hwB])
      clear hwB
      go_wp2_with fail
      refine C.mono ?_
      rintro e w' (⟨rfl, hq, hf⟩ | ⟨rfl, hq, hf⟩)
      · have HF := Lib.hid hf
        clear hf
        go_wp2
        go_ret
        exact ⟨by rw [HF.out]; rfl, hbB.trans (hq.mono (by omega))⟩
      · rw [List.take_length] at hf
        have HF := Lib.hid hf
        clear hf
        go_wp2
        go_ret
        exact ⟨by rw [HF.out]; rfl, hbB.trans (hq.mono (by omega))⟩

end Go.Proofs.YtpbipngnoklmcaaGreatDoor
