/- Walks of the small readers of a graph's edges: Ints, small, same, Has. Each answers what the plain function says and leaves all memory. -/
import Derived.Test.YtelioljmhlabjaaDoorBase
namespace Go.Proofs.YtelioljmhlabjaaDoor
open Go.RowKit

set_option maxHeartbeats 400000 in
theorem ints_any (v1 v2 : Value) (xs ys : List Int) (w : World) (h1 : IntsAt w v1 xs) (h2 : IntsAt w v2 ys) :
    Calls Tryd.prog 22 #[v1, v2] w fun e w' => e = .returned (.bool (xs == ys)) ∧ Below w.heap.size w w' := by
  obtain ⟨ao, cap, rfl, hl, hm, hc⟩ := h1
  obtain ⟨ao', cap', rfl, hl', hm', hc'⟩ := h2
  by_cases hlen : xs.length = ys.length
  · have hne : ((xs.length : Int) != (ys.length : Int)) = false := by simp [hlen]
    have HL : Hid (xs.length = ys.length) := hlen
    have hle : xs.length ≤ ys.length := by omega
    have hle' : ys.length ≤ xs.length := by omega
    clear hlen
    go_enter Tryd.func22, Tryd.ntmps22
    go_wp2
    go_loopw [5, 13] (fun _ i wr => ∃ k : Nat, k ≤ xs.length ∧ i = .int .i64 k ∧ Hid (xs.take k = ys.take k) ∧ Below w.heap.size w wr) (fun _ i _ => xs.length - (intOf i).toNat)
    case atStart => exact ⟨0, Nat.zero_le _, rfl, rfl, Below.refl _ _⟩
    case round =>
      obtain ⟨k, hk, rfl, htk, hb⟩ := hrel
      by_cases hlt : k < xs.length
      · obtain ⟨b, off, rfl, hbl, hcell⟩ := hc (by intro h; simp [h] at hlt)
        obtain ⟨b', off', rfl, hbl', hcell'⟩ := hc' (by intro h; rw [h] at hle; simp at hle; simp [hle] at hlt)
        have c1 := (hb.cell (p := ⟨b, off + k, none⟩) hbl).trans (hcell k hlt)
        have c2 := (hb.cell (p := ⟨b', off' + k, none⟩) hbl').trans (hcell' k (by omega))
        clear hc hc' hcell hcell'
        have htk1 := take_next xs k 0 hlt
        have htk2 := take_next ys k 0 (by omega)
        have H : Hid (xs.getD k 0 = ys.getD k 0 → xs.take (k+1) = ys.take (k+1)) := by
          intro h; rw [htk1, htk2, htk.out, h]
        have H2 : Hid (xs.getD k 0 ≠ ys.getD k 0 → (xs == ys) = false) := by
          intro h; rw [beq_eq_false_iff_ne]; intro he; exact h (by rw [he])
        clear htk1 htk2
        obtain ⟨x, hx⟩ : ∃ x, x = xs.getD k 0 := ⟨_, rfl⟩
        obtain ⟨y, hy⟩ : ∃ y, y = ys.getD k 0 := ⟨_, rfl⟩
        rw [← hx] at c1 H H2
        rw [← hy] at c2 H H2
        clear hx hy
        go_wp2
        go_quiet (fail)
        go_wp2
        · have hxy : (x != y) = true := by assumption
          go_ret
          exact ⟨ret_bool (H2.out (by simpa using hxy)).symm, below_drewN hb _⟩
        · have hxy : (x != y) = false := by assumption
          go_roundw
          case rel => exact ⟨k + 1, by omega, by go_num, H.out (by simpa using hxy), below_drewN hb _⟩
          case measure => simp [intOf]; omega
      · go_wp2
        have hk' : k = xs.length := by omega
        have hxy : (xs == ys) = true := by
          have := htk.out
          rw [hk', List.take_length, HL.out, List.take_length] at this
          simp [this]
        go_ret
        exact ⟨ret_bool hxy.symm, hb⟩
  · have hne : ((xs.length : Int) != (ys.length : Int)) = true := by simp; omega
    have hxy : (xs == ys) = false := by rw [beq_eq_false_iff_ne]; intro h; rw [h] at hlen; exact hlen rfl
    have HL := Lib.hid hxy
    clear hlen hxy
    go_enter Tryd.func22, Tryd.ntmps22
    go_wp2
    go_ret
    exact ⟨ret_bool HL.out.symm, Below.refl _ _⟩

theorem small_any (n : Int) (v : Value) (es : List (Int × Int)) (w : World) (h : PairsAt w v es) :
    Calls Tryd.prog 16 #[.int .i64 n, v] w fun e w' => e = .returned (.bool (decide (n ≤ 60) && decide (es.length ≤ 120))) ∧ w = w' := by
  obtain ⟨ao, cap, rfl, hl, hm, hc⟩ := h
  clear hc
  go_enter Tryd.func16, Tryd.ntmps16
  go_wp2
  · have h1 : n ≤ 60 := by assumption
    have h2 : (decide (n ≤ 60) && decide (es.length ≤ 120)) = decide (es.length ≤ 120) := by simp [h1]
    go_ret
    exact ⟨ret_bool (by rw [h2]; exact decide_eq_decide.2 (by omega)), rfl⟩
  · have h1 : ¬ n ≤ 60 := by omega
    have h2 : (decide (n ≤ 60) && decide (es.length ≤ 120)) = false := by simp [h1]
    go_ret
    exact ⟨ret_bool h2.symm, rfl⟩

set_option maxHeartbeats 400000 in
theorem same_any (v1 v2 : Value) (xs ys : List (Int × Int)) (w : World) (h1 : PairsAt w v1 xs) (h2 : PairsAt w v2 ys) :
    Calls Tryd.prog 20 #[v1, v2] w fun e w' => e = .returned (.bool (xs == ys)) ∧ Below w.heap.size w w' := by
  obtain ⟨ao, cap, rfl, hl, hm, hc⟩ := h1
  obtain ⟨ao', cap', rfl, hl', hm', hc'⟩ := h2
  by_cases hlen : xs.length = ys.length
  · have hne : ((xs.length : Int) != (ys.length : Int)) = false := by simp [hlen]
    have HL : Hid (xs.length = ys.length) := hlen
    have hle : xs.length ≤ ys.length := by omega
    have hle' : ys.length ≤ xs.length := by omega
    clear hlen
    go_enter Tryd.func20, Tryd.ntmps20
    go_wp2
    go_loopw [5, 13] (fun _ i wr => ∃ k : Nat, k ≤ xs.length ∧ i = .int .i64 k ∧ Hid (xs.take k = ys.take k) ∧ Below w.heap.size w wr) (fun _ i _ => xs.length - (intOf i).toNat)
    case atStart => exact ⟨0, Nat.zero_le _, rfl, rfl, Below.refl _ _⟩
    case round =>
      obtain ⟨k, hk, rfl, htk, hb⟩ := hrel
      by_cases hlt : k < xs.length
      · obtain ⟨b, off, rfl, hbl, hcell⟩ := hc (by intro h; simp [h] at hlt)
        obtain ⟨b', off', rfl, hbl', hcell'⟩ := hc' (by intro h; rw [h] at hle; simp at hle; simp [hle] at hlt)
        have c1 := (hb.cell (p := ⟨b, off + k * 2, none⟩) hbl).trans (hcell k hlt).1
        have d1 := (hb.cell (p := ⟨b, off + k * 2 + 1, none⟩) hbl).trans (hcell k hlt).2
        have c2 := (hb.cell (p := ⟨b', off' + k * 2, none⟩) hbl').trans (hcell' k (by omega)).1
        have d2 := (hb.cell (p := ⟨b', off' + k * 2 + 1, none⟩) hbl').trans (hcell' k (by omega)).2
        clear hc hc' hcell hcell'
        have htk1 := take_next xs k (0, 0) hlt
        have htk2 := take_next ys k (0, 0) (by omega)
        have H : Hid ((xs.getD k (0, 0)) = (ys.getD k (0, 0)) → xs.take (k+1) = ys.take (k+1)) := by
          intro h; rw [htk1, htk2, htk.out, h]
        have H2 : Hid ((xs.getD k (0, 0)) ≠ (ys.getD k (0, 0)) → (xs == ys) = false) := by
          intro h; rw [beq_eq_false_iff_ne]; intro he; exact h (by rw [he])
        clear htk1 htk2
        obtain ⟨⟨x, x'⟩, hx⟩ : ∃ x, x = xs.getD k (0, 0) := ⟨_, rfl⟩
        obtain ⟨⟨y, y'⟩, hy⟩ : ∃ y, y = ys.getD k (0, 0) := ⟨_, rfl⟩
        rw [← hx] at c1 d1 H H2
        rw [← hy] at c2 d2 H H2
        clear hx hy
        go_wp2
        go_quiet (fail)
        go_wp2
        · have hxy : (!x == y) = true ∨ (!x' == y') = true := by assumption
          go_ret
          refine ⟨ret_bool (H2.out ?_).symm, below_drewN hb _⟩
          intro h
          cases h
          simp at hxy
        · have hxy : (!x == y) = false ∧ (!x' == y') = false := by assumption
          simp at hxy
          go_roundw
          case rel => exact ⟨k + 1, by omega, by go_num, H.out (by rw [hxy.1, hxy.2]), below_drewN hb _⟩
          case measure => simp [intOf]; omega
      · go_wp2
        have hk' : k = xs.length := by omega
        have hxy : (xs == ys) = true := by
          have := htk.out
          rw [hk', List.take_length, HL.out, List.take_length] at this
          simp [this]
        go_ret
        exact ⟨ret_bool hxy.symm, hb⟩
  · have hne : ((xs.length : Int) != (ys.length : Int)) = true := by simp; omega
    have hxy : (xs == ys) = false := by rw [beq_eq_false_iff_ne]; intro h; rw [h] at hlen; exact hlen rfl
    have HL := Lib.hid hxy
    clear hlen hxy
    go_enter Tryd.func20, Tryd.ntmps20
    go_wp2
    go_ret
    exact ⟨ret_bool HL.out.symm, Below.refl _ _⟩

def hasE (es : List (Int × Int)) (a b : Int) : Bool := es.any fun e => e.1 == a && e.2 == b

set_option maxHeartbeats 400000 in
theorem has_any (v : Value) (es : List (Int × Int)) (a b : Int) (w : World) (h : PairsAt w v es) :
    Calls Tryd.prog 54 #[v, .int .i64 a, .int .i64 b] w fun e w' => e = .returned (.bool (hasE es a b)) ∧ w = w' := by
  obtain ⟨ao, cap, rfl, hl, hm, hc⟩ := h
  go_enter Tryd.func54, Tryd.ntmps54
  go_wp2
  go_loop [7, 10] (fun _ i => ∃ k : Nat, k ≤ es.length ∧ i = .int .i64 k ∧ Hid (hasE (es.take k) a b = false)) (fun _ i => es.length - (intOf i).toNat)
  case atStart => exact ⟨0, Nat.zero_le _, rfl, rfl⟩
  case round =>
    obtain ⟨k, hk, rfl, htk⟩ := hrel
    by_cases hlt : k < es.length
    · obtain ⟨bl, off, rfl, hbl, hcell⟩ := hc (by intro h; simp [h] at hlt)
      have c1 := (hcell k hlt).1
      have c2 := (hcell k hlt).2
      clear hc hcell
      have hts := take_next es k (0, 0) hlt
      have hmem : es.getD k (0, 0) ∈ es := by simp [List.getD, hlt]
      obtain ⟨⟨x, y⟩, hx⟩ : ∃ p, p = es.getD k (0, 0) := ⟨_, rfl⟩
      rw [← hx] at c1 c2 hts hmem
      have H1 : Hid (x = a → y = b → hasE es a b = true) := fun h1 h2 => by
        subst h1 h2; unfold hasE; rw [List.any_eq_true]; exact ⟨_, hmem, by simp⟩
      have H2 : Hid (¬ (x = a ∧ y = b) → hasE (es.take (k + 1)) a b = false) := fun h => by
        have h3 := htk.out
        unfold hasE at h3 ⊢
        rw [hts, List.any_append, h3]
        simp only [List.any_cons, List.any_nil, Bool.or_false, Bool.false_or, Bool.and_eq_false_iff, beq_eq_false_iff_ne, ne_eq]
        by_cases e : x = a
        · exact Or.inr fun f => h ⟨e, f⟩
        · exact Or.inl e
      clear hx hts hmem htk
      go_wp2
      · have h1 : x = a := by assumption
        have h2 : (y == b) = true := by assumption
        go_ret
        exact ⟨ret_bool (H1.out h1 (by simpa using h2)).symm, rfl⟩
      · have h2 : (y == b) = false := by assumption
        go_round
        case rel => exact ⟨k + 1, by omega, by go_num, H2.out (fun h => by simp [h.2] at h2)⟩
        case measure => simp [intOf]; omega
      · have h2 : ¬ x = a := by assumption
        go_round
        case rel => exact ⟨k + 1, by omega, by go_num, H2.out (fun h => h2 h.1)⟩
        case measure => simp [intOf]; omega
    · go_wp2
      have hk' : k = es.length := by omega
      have hf := htk.out
      rw [hk', List.take_length] at hf
      go_ret
      exact ⟨ret_bool hf.symm, rfl⟩

end Go.Proofs.YtelioljmhlabjaaDoor
