/- Plain: what the reckoning of a chain's plan says. No walk. -/
import Derived.Test.YtnjbdedmalpccaaDoorPnJ
namespace Go.Proofs.YtnjbdedmalpccaaDoor
set_option maxRecDepth 100000

theorem onceB_nodup : ∀ (l : List Nat) (s : Nat), onceB l s = true → l.Nodup ∧ ∀ x ∈ l, s.testBit x = false
  | [], _, _ => ⟨List.nodup_nil, fun x hx => by cases hx⟩
  | a :: l, s, h => by
    rw [onceB, Bool.and_eq_true, Bool.not_eq_true'] at h
    obtain ⟨h1, h2⟩ := onceB_nodup l _ h.2
    have hb : ∀ x ∈ l, s.testBit x = false ∧ x ≠ a := fun x hx => by
      have := h2 x hx
      rw [Nat.testBit_or, Bool.or_eq_false_iff] at this
      refine ⟨this.1, fun e => ?_⟩
      subst e
      rw [Nat.testBit_two_pow_self] at this
      cases this.2
    refine ⟨List.nodup_cons.2 ⟨fun hm => (hb a hm).2 rfl, h1⟩, fun x hx => ?_⟩
    rcases List.mem_cons.1 hx with rfl | hx
    · exact h.1
    · exact (hb x hx).1
theorem edgeN_inj {N : Nat} (hN : N ≤ 64) {e f : Int × Int} (he : 0 ≤ e.1 ∧ e.1 < N ∧ 0 ≤ e.2 ∧ e.2 < N) (hf : 0 ≤ f.1 ∧ f.1 < N ∧ 0 ≤ f.2 ∧ f.2 < N) (h : edgeN e = edgeN f) : e = f := by
  unfold edgeN at h
  obtain ⟨a, b⟩ := e
  obtain ⟨c, d⟩ := f
  dsimp only at *
  have h1 : a.toNat = c.toNat ∧ b.toNat = d.toNat := by omega
  have : a = c ∧ b = d := by omega
  rw [this.1, this.2]
theorem chkN_next {l : List Nat} {es : List Nat} : ∀ (m : Nat), chkN l es m = true → ∀ k, k < m → l.getD k 0 * 64 + l.getD (k + 1) 0 ∈ es
  | 0, _, k, hk => by omega
  | m + 1, h, k, hk => by
    rw [chkN, Bool.and_eq_true] at h
    by_cases e : k = m
    · subst e
      simpa using h.1
    · exact chkN_next m h.2 k (by omega)
theorem chk_row {N : Nat} {l : List Nat} {es : List (Int × Int)} (hN : N ≤ 40) (h1 : chkL N l = true) (h2 : chkE N l es = true) (h3 : chkN l (es.map edgeN) (N - 1) = true) : RowG N es l ∧ es.Nodup := by
  unfold chkL at h1
  simp only [Bool.and_eq_true, beq_iff_eq, List.all_eq_true, decide_eq_true_eq] at h1
  unfold chkE at h2
  simp only [Bool.and_eq_true, List.all_eq_true, decide_eq_true_eq] at h2
  obtain ⟨⟨hl, hlt⟩, ho⟩ := h1
  obtain ⟨he, hne⟩ := h2
  have hnd := (onceB_nodup l 0 ho).1
  have hrng : ∀ e ∈ es, 0 ≤ e.1 ∧ e.1 < N ∧ 0 ≤ e.2 ∧ e.2 < N := fun e hx => by
    obtain ⟨⟨⟨⟨a, b⟩, c⟩, d⟩, _⟩ := he e hx
    exact ⟨a, b, c, d⟩
  refine ⟨⟨⟨hlt, hnd⟩, hl, hrng, fun e hx => (he e hx).2, fun k hk => ?_⟩, ?_⟩
  · have h4 := chkN_next _ h3 k (by omega)
    obtain ⟨e, hx, hee⟩ := List.mem_map.1 h4
    have hr := hrng e hx
    have g1 : l.getD k 0 = l[k] := by simp [List.getD, show k < l.length by omega]
    have g2 : l.getD (k + 1) 0 = l[k + 1] := by simp [List.getD, hk]
    rw [g1, g2] at hee
    have b1 := hlt l[k] (List.getElem_mem (by omega))
    have b2 := hlt l[k + 1] (List.getElem_mem hk)
    unfold edgeN at hee
    refine List.mem_map.2 ⟨e, hx, ?_⟩
    have : e.1.toNat = l[k] ∧ e.2.toNat = l[k + 1] := by omega
    rw [this.1, this.2]
  · have hm := (onceB_nodup _ 0 hne).1
    rw [List.Nodup, List.pairwise_map] at hm
    exact hm.imp fun {a b} h e => h (by rw [e])

end Go.Proofs.YtnjbdedmalpccaaDoor
