/- The walks of the document's questions on values. -/
import Derived.Test.YtpbipngnoklmcaaDoorMv
import Derived.Test.YtpbipngnoklmcaaDoorRefF
namespace Go.Proofs.YtpbipngnoklmcaaDoor
open Go.RowKit
set_option maxRecDepth 100000
attribute [local go_sem] str_size str_toList str_get

/- How far the document counts. -/
mutual
def sizeR : VT → Nat | .mk _ _ _ its _ => sizeRL 1 its
def sizeRL : Nat → List VT → Nat | n, [] => n | n, x :: r => if n ≤ 2000 then sizeRL (n + sizeR x) r else n
end
theorem sizeRL_stop {n : Nat} (h : ¬ n ≤ 2000) : ∀ (l : List VT), sizeRL n l = n
  | [] => by rw [sizeRL]
  | _ :: _ => by rw [sizeRL, if_neg h]
theorem sizeRL_append : ∀ (l m : List VT) (n : Nat), sizeRL n (l ++ m) = sizeRL (sizeRL n l) m
  | [], m, n => by rw [List.nil_append, sizeRL]
  | x :: r, m, n => by
    rw [List.cons_append, sizeRL, sizeRL]
    by_cases h : n ≤ 2000
    · rw [if_pos h, if_pos h, sizeRL_append r m]
    · rw [if_neg h, if_neg h, sizeRL_stop h]
theorem sizeRL_ge : ∀ (l : List VT) (n : Nat), n ≤ sizeRL n l
  | [], n => by rw [sizeRL]; omega
  | x :: r, n => by
    rw [sizeRL]
    by_cases h : n ≤ 2000
    · rw [if_pos h]; have := sizeRL_ge r (n + sizeR x); omega
    · rw [if_neg h]; omega
/-- The document's count is exact where it is not above the limit, and above it where the size is. -/
theorem sizeR_iff (t : VT) : (sizeV t ≤ 2000 → sizeR t = sizeV t) ∧ (2000 < sizeV t → 2000 < sizeR t) := by
  induction t using VT.ind with
  | h k b tx its ks ih =>
    have key : ∀ (l : List VT) (n : Nat), (∀ x ∈ l, (sizeV x ≤ 2000 → sizeR x = sizeV x) ∧ (2000 < sizeV x → 2000 < sizeR x)) → 1 ≤ n → (n + sizeL l ≤ 2000 → sizeRL n l = n + sizeL l) ∧ (2000 < n + sizeL l → 2000 < sizeRL n l) := by
      intro l
      induction l with
      | nil => intro n _ _; rw [sizeL, sizeRL]; exact ⟨fun _ => rfl, fun h => h⟩
      | cons x r ihr =>
        intro n hx hn
        have hr := fun m hm => ihr m (fun y hy => hx y (by simp [hy])) hm
        have hx0 := hx x (by simp)
        rw [sizeL, sizeRL]
        by_cases h : n ≤ 2000
        · rw [if_pos h]
          by_cases h2 : sizeV x ≤ 2000
          · rw [hx0.1 h2, ← Nat.add_assoc]
            exact hr (n + sizeV x) (by omega)
          · refine ⟨fun h3 => by omega, fun _ => ?_⟩
            have := hx0.2 (by omega)
            have := sizeRL_ge r (n + sizeR x)
            omega
        · rw [if_neg h]
          exact ⟨fun h3 => by omega, fun _ => by omega⟩
    rw [sizeV, sizeR]
    exact key its 1 ih (Nat.le_refl _)
theorem sizeR_deep (t : VT) : ∀ d, deepV d t = true → sizeR t ≤ 2001 * d := by
  induction t using VT.ind with
  | h k b tx its ks ih =>
    intro d hd
    cases d with
    | zero => simp [deepV] at hd
    | succ d =>
      rw [deepV, List.all_eq_true] at hd
      have key : ∀ (l : List VT) (n : Nat), (∀ x ∈ l, x ∈ its) → n ≤ 2001 + 2001 * d → sizeRL n l ≤ 2001 + 2001 * d := by
        intro l
        induction l with
        | nil => intro n _ h; rw [sizeRL]; exact h
        | cons x r ihr =>
          intro n hx h
          rw [sizeRL]
          by_cases h2 : n ≤ 2000
          · rw [if_pos h2]
            refine ihr _ (fun y hy => hx y (by simp [hy])) ?_
            have := ih x (hx x (by simp)) d (hd x (hx x (by simp)))
            omega
          · rw [if_neg h2]; exact h
      rw [sizeR]
      have := key its 1 (fun _ h => h) (by omega)
      omega
theorem sizeR_pre {d : Nat} {k : Int} {b : Bool} {tx : List UInt8} {its : List VT} {ks : List (List UInt8)} (h : deepV (d + 1) (.mk k b tx its ks) = true) (i : Nat) : sizeRL 1 (its.take i) ≤ 2001 * (d + 1) := by
  have h2 : deepV (d + 1) (.mk k b tx (its.take i) ks) = true := by
    rw [deepV, List.all_eq_true] at h ⊢
    exact fun x hx => h x (List.mem_of_mem_take hx)
  have := sizeR_deep _ _ h2
  rwa [sizeR] at this

theorem box5 {w w1 : World} {c0 c1 c2 c3 c4 : Value} {T : TypeId} (h : w1 = w.alloc (.cells #[c0, c1, c2, c3, c4] T)) :
    w1.cell? ⟨w.heap.size, 0, none⟩ = some c0 ∧ w1.cell? ⟨w.heap.size, 1, none⟩ = some c1 ∧ w1.cell? ⟨w.heap.size, 2, none⟩ = some c2 ∧ w1.cell? ⟨w.heap.size, 3, none⟩ = some c3 ∧ w1.cell? ⟨w.heap.size, 4, none⟩ = some c4 ∧ w1.heap.size = w.heap.size + 1 ∧ Below w.heap.size w w1 := by
  have hn : w1.heap[w.heap.size]? = some (.cells #[c0, c1, c2, c3, c4] T (0, 0)) := by rw [h]; exact heap_alloc_new _ _
  have hs : w1.heap.size = w.heap.size + 1 := by rw [h]; simp only [World.alloc, Array.size_push]
  have hb : Below w.heap.size w w1 := by rw [h]; exact (Below.refl _ _).alloc (Nat.le_refl _) _
  clear h
  refine ⟨?_, ?_, ?_, ?_, ?_, hs, hb⟩ <;> simp [World.cell?, hn]
/-- A cell of the box, in a world that has only grown. -/
theorem box_at {w w1 w' : World} {j : Nat} {c : Value} (h : w1.cell? ⟨w.heap.size, j, none⟩ = some c) (hs : w1.heap.size = w.heap.size + 1) (hb : Below w1.heap.size w1 w') : w'.cell? ⟨w.heap.size, j, none⟩ = some c :=
  (hb.cell (p := ⟨w.heap.size, j, none⟩) (by show w.heap.size < w1.heap.size; omega)).trans h

set_option maxHeartbeats 1600000 in
theorem size_rval (t : VT) : ∀ (v : Value) (w : World), ValAt w t v → Calls Tryd.prog 37 #[v] w fun e w' => (∃ z : Int, e = .returned (.int .i64 z) ∧ -9223372036854775808 ≤ z ∧ z ≤ 9223372036854775807 ∧ ∀ d, d ≤ 1000 → deepV d t = true → z = sizeR t) ∧ Below w.heap.size w w' := by
  induction t using VT.ind with
  | h k b tx its ks ih =>
    intro v w h
    rw [ValAt] at h
    obtain ⟨vi, vk, rfl, hk, hks, vs, hr, hv⟩ := h
    obtain ⟨ak, ck, rfl, _⟩ := hks
    have hr0 := hr
    obtain ⟨ao, cap, rfl, hm, _⟩ := hr
    obtain ⟨wB, hwB⟩ : ∃ wB, wB = w.alloc (.cells #[.int .i64 k, .bool b, str tx, .slice ao its.length cap, .slice ak ks.length ck] 27) := ⟨_, rfl⟩
    obtain ⟨_, _, _, b3, _, hsB, hbB⟩ := box5 hwB
    go_enter Tryd.func37, Tryd.ntmps37
    go_wp2
    rw [← hwB]
    clear hwB
    go_loopg [3, 4] its.length (fun g v3 v4 wr => ∃ (i : Nat) (z : Int), i + g = its.length ∧ v4 = .int .i64 i ∧ v3 = .int .i64 z ∧ -9223372036854775808 ≤ z ∧ z ≤ 9223372036854775807 ∧ (∀ d, d ≤ 1000 → deepV d (.mk k b tx its ks) = true → z = sizeRL 1 (its.take i)) ∧ Below wB.heap.size wB wr)
    case atStart => exact ⟨0, 1, by omega, rfl, rfl, by omega, by omega, fun d _ _ => by rw [List.take_zero, sizeRL]; rfl, Below.refl _ _⟩
    case round =>
      obtain ⟨i, z, hig, rfl, rfl, hz0, hz1, hz, hbl⟩ := hrel
      have q3 := box_at b3 hsB hbl
      have hbw := hbB.trans (hbl.mono (by omega))
      cases gk with
      | zero =>
        obtain rfl : i = its.length := by omega
        rw [List.take_length] at hz
        have HZ := Lib.hid hz
        clear hz
        go_wp2
        go_ret
        exact ⟨⟨z, rfl, hz0, hz1, fun d hd hp => by rw [HZ.out d hd hp, sizeR]⟩, hbw⟩
      | succ g =>
        have hil : i < its.length := by omega
        have hie : (i : Int) < (its.length : Int) := by omega
        by_cases hz2 : z ≤ 2000
        · obtain ⟨b', off, ai, ci, ak', ck', rfl, hlt, hx, h0, h1, h2, h3, h4⟩ := RowAt.at hr0 hv hbw hil
          have C := ih its[i] (List.getElem_mem hil) _ wr hx
          have hnext : ∀ zc : Int, (∀ d, d ≤ 1000 → deepV d its[i] = true → zc = sizeR its[i]) → ∀ d, d ≤ 1000 → deepV d (.mk k b tx its ks) = true → wrap64 (z + zc) = sizeRL 1 (its.take (i + 1)) := by
            intro zc hzc d hd hp
            have h5 := hz d hd hp
            cases d with
            | zero => simp [deepV] at hp
            | succ d =>
              have h8 := sizeR_pre hp (i + 1)
              rw [deepV, List.all_eq_true] at hp
              have h6 := hzc d (by omega) (hp _ (List.getElem_mem hil))
              have h7 : sizeRL 1 (its.take (i + 1)) = sizeRL 1 (its.take i) + sizeR its[i] := by
                rw [List.take_succ_eq_append_getElem hil, sizeRL_append, sizeRL, if_pos (by omega), sizeRL]
              rw [h5, h6]
              unfold wrap64
              omega
          obtain ⟨x, hxe⟩ : ∃ x, its[i] = x := ⟨_, rfl⟩
          rw [hxe] at h0 h1 h2 h3 h4 C hnext
          have HN := Lib.hid hnext
          clear hx hxe hz hnext
          go_wp2_with fail
          refine C.mono ?_
          rintro e w' ⟨⟨zc, rfl, hc0, hc1, hc2⟩, hq⟩
          have hb' := hbl.trans (hq.mono hbl.size)
          have hw0 : -9223372036854775808 ≤ wrap64 (z + zc) := by unfold wrap64; omega
          have hw1 : wrap64 (z + zc) ≤ 9223372036854775807 := by unfold wrap64; omega
          have HC := Lib.hid hc2
          clear hc2 hq
          go_wp2
          go_roundg g
          case measure => omega
          case rel => exact ⟨i + 1, _, by omega, by go_num, rfl, hw0, hw1, HN.out _ HC.out, hb'⟩
        · have HZ := Lib.hid hz
          clear hz
          go_wp2
          go_ret
          refine ⟨⟨z, rfl, hz0, hz1, fun d hd hp => ?_⟩, hbw⟩
          have := HZ.out d hd hp
          rw [sizeR, this]
          conv => rhs; rw [← List.take_append_drop i its, sizeRL_append]
          rw [sizeRL_stop (n := sizeRL 1 (its.take i)) (by omega)]

end Go.Proofs.YtpbipngnoklmcaaDoor
