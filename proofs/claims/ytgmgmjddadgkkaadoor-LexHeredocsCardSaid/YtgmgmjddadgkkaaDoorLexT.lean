/- Plain: what a text and an insertion are, step by step. -/
import Derived.Test.YtgmgmjddadgkkaaDoorLexQ
namespace Go.Proofs.YtgmgmjddadgkkaaDoor
open Go

theorem addN_addN (i k : Nat) (x : Nat × Int) : addN i (addN k x) = addN (i + k) x := by
  by_cases h : x.2 = 0
  · rw [addN_zero k h, addN_zero _ h, addN_zero i rfl]
    simp only
    congr 1
    omega
  · rw [addN_err k h, addN_err _ h]
    exact addN_err (x := (0, x.2)) i h
theorem addN_lit (i : Nat) (e : Int) (h : ¬ e = 0) : addN i (0, e) = (0, e) := addN_err i h
theorem in_pos {f : Nat} {s : Bs} {d : Nat} (h : (inF f s d).2 = 0) : 1 ≤ (inF f s d).1 := by
  cases f with
  | zero => rw [inF] at h; cases h
  | succ f =>
    rw [inF] at h ⊢
    split at h
    · cases h
    · next hd =>
      rw [if_neg hd]
      by_cases hz : (ilF f (s.drop 1) d).2 = 0
      · rw [addN_zero 1 hz]; simp
      · rw [addN_err 1 hz] at h; exact absurd h hz
theorem tx_stab : ∀ (f g : Nat) (s : Bs) (d : Nat),
    (2 * s.length + 1 ≤ f → 2 * s.length + 1 ≤ g → txF f s d = txF g s d) ∧ (s ≠ [] → 2 * s.length ≤ f → 2 * s.length ≤ g → inF f s d = inF g s d) ∧ (2 * s.length + 1 ≤ f → 2 * s.length + 1 ≤ g → ilF f s d = ilF g s d) := by
  intro f
  induction f with
  | zero =>
    intro g s d
    refine ⟨fun h => by omega, fun hs h => ?_, fun h => by omega⟩
    cases s with
    | nil => exact absurd rfl hs
    | cons _ _ => simp at h
  | succ f ih =>
    intro g s d
    cases g with
    | zero =>
      refine ⟨fun _ h => by omega, fun hs _ h => ?_, fun _ h => by omega⟩
      cases s with
      | nil => exact absurd rfl hs
      | cons _ _ => simp at h
    | succ g =>
      cases s with
      | nil => refine ⟨fun _ _ => by rw [txF, txF], fun h => absurd rfl h, fun _ _ => by rw [ilF, ilF]⟩
      | cons c r =>
        simp only [List.length_cons]
        refine ⟨fun hf hg => ?_, fun _ hf hg => ?_, fun hf hg => ?_⟩
        · rw [txF, txF]
          have e1 := (ih g (r.drop 1) d).1 (by rw [List.length_drop]; omega) (by rw [List.length_drop]; omega)
          have e3 := (ih g r d).1 (by omega) (by omega)
          rw [e1, e3]
          by_cases hc : (c == 36 && r.head? == some 123) = true
          · have hr : r ≠ [] := by rintro rfl; simp at hc
            have e2 := (ih g r (d + 1)).2.1 hr (by omega) (by omega)
            rw [e2]
            have e4 := (ih g (r.drop (inF g r (d + 1)).1) d).1 (by rw [List.length_drop]; omega) (by rw [List.length_drop]; omega)
            rw [e4]
          · rw [if_neg hc, if_neg hc]
        · rw [inF, inF]
          have e1 := (ih g r d).2.2 (by omega) (by omega)
          rw [show (c :: r).drop 1 = r from rfl, e1]
        · rw [ilF, ilF]
          have e1 := (ih g (c :: r) (d + 1)).2.1 (by simp) (by simp only [List.length_cons]; omega) (by simp only [List.length_cons]; omega)
          have e2 := (ih g r d).1 (by omega) (by omega)
          have e3 := (ih g r d).2.2 (by omega) (by omega)
          rw [e1, e2, e3]
          have e4 := (ih g (r.drop (txF g r d).1) d).2.2 (by rw [List.length_drop]; omega) (by rw [List.length_drop]; omega)
          rw [e4]
          by_cases hz : (inF g (c :: r) (d + 1)).2 = 0
          · have h1 := in_pos hz
            have e5 := (ih g ((c :: r).drop (inF g (c :: r) (d + 1)).1) d).2.2 (by rw [List.length_drop]; simp only [List.length_cons]; omega) (by rw [List.length_drop]; simp only [List.length_cons]; omega)
            rw [e5]
          · rw [if_neg hz, if_neg hz]

def tx (s : Bs) (d : Nat) : Nat × Int := txF (2 * s.length + 1) s d
def il (s : Bs) (d : Nat) : Nat × Int := ilF (2 * s.length + 1) s d
def ins (s : Bs) (d : Nat) : Nat × Int := inF (2 * s.length) s d
theorem tx_nil (d : Nat) : tx [] d = (0, 40) := by unfold tx; rw [txF]
theorem il_nil (d : Nat) : il [] d = (0, 40) := by unfold il; rw [ilF]
theorem ins_eq {s : Bs} (hs : s ≠ []) (d : Nat) : ins s d = if 24 < d then (0, 7) else addN 1 (il (s.drop 1) d) := by
  cases s with
  | nil => exact absurd rfl hs
  | cons c r =>
    unfold ins il
    rw [show 2 * (c :: r).length = (2 * r.length + 1) + 1 by simp only [List.length_cons]; omega, inF]
    rfl
theorem tx_cons (c : UInt8) (r : Bs) (d : Nat) : tx (c :: r) d =
    if c = 34 then (1, 0)
    else if c = 10 then (0, 40)
    else if c = 92 then
      if escB (r.headD 0) = true then addN 2 (tx (r.drop 1) d) else (0, 40)
    else if (c == 36 && r.head? == some 123) = true then
      if (ins r (d + 1)).2 = 0 then addN ((ins r (d + 1)).1 + 1) (tx (r.drop (ins r (d + 1)).1) d) else (0, (ins r (d + 1)).2)
    else addN 1 (tx r d) := by
  unfold tx
  rw [show 2 * (c :: r).length + 1 = (2 * r.length + 2) + 1 by simp only [List.length_cons]; omega, txF]
  have e1 := (tx_stab (2 * r.length + 2) (2 * (r.drop 1).length + 1) (r.drop 1) d).1 (by rw [List.length_drop]; omega) (Nat.le_refl _)
  have e3 := (tx_stab (2 * r.length + 2) (2 * r.length + 1) r d).1 (by omega) (Nat.le_refl _)
  rw [e1, e3]
  by_cases hc : (c == 36 && r.head? == some 123) = true
  · have hr : r ≠ [] := by rintro rfl; simp at hc
    have e2 := (tx_stab (2 * r.length + 2) (2 * r.length) r (d + 1)).2.1 hr (by omega) (Nat.le_refl _)
    rw [e2]
    show _ = if c = 34 then (1, 0) else if c = 10 then (0, 40) else if c = 92 then _ else if _ then if (inF (2 * r.length) r (d + 1)).2 = 0 then addN ((inF (2 * r.length) r (d + 1)).1 + 1) (txF (2 * (r.drop (inF (2 * r.length) r (d + 1)).1).length + 1) (r.drop (inF (2 * r.length) r (d + 1)).1) d) else (0, (inF (2 * r.length) r (d + 1)).2) else _
    have e4 := (tx_stab (2 * r.length + 2) (2 * (r.drop (inF (2 * r.length) r (d + 1)).1).length + 1) (r.drop (inF (2 * r.length) r (d + 1)).1) d).1 (by rw [List.length_drop]; omega) (Nat.le_refl _)
    rw [e4]
  · rw [if_neg hc, if_neg hc]
theorem il_cons (c : UInt8) (r : Bs) (d : Nat) : il (c :: r) d =
    if c = 125 then (1, 0)
    else if c = 10 then (0, 40)
    else if c = 123 then
      if (ins (c :: r) (d + 1)).2 = 0 then addN (ins (c :: r) (d + 1)).1 (il ((c :: r).drop (ins (c :: r) (d + 1)).1) d) else (0, (ins (c :: r) (d + 1)).2)
    else if c = 34 then
      if (tx r d).2 = 0 then addN ((tx r d).1 + 1) (il (r.drop (tx r d).1) d) else (0, (tx r d).2)
    else addN 1 (il r d) := by
  unfold il
  rw [show 2 * (c :: r).length + 1 = (2 * r.length + 2) + 1 by simp only [List.length_cons]; omega, ilF]
  have e1 : inF (2 * r.length + 2) (c :: r) (d + 1) = ins (c :: r) (d + 1) := by
    unfold ins
    rw [show 2 * (c :: r).length = 2 * r.length + 2 by simp only [List.length_cons]; omega]
  have e2 : txF (2 * r.length + 2) r d = tx r d := (tx_stab (2 * r.length + 2) (2 * r.length + 1) r d).1 (by omega) (Nat.le_refl _)
  have e3 := (tx_stab (2 * r.length + 2) (2 * r.length + 1) r d).2.2 (by omega) (Nat.le_refl _)
  rw [e1, e2, e3]
  have e4 := (tx_stab (2 * r.length + 2) (2 * (r.drop (tx r d).1).length + 1) (r.drop (tx r d).1) d).2.2 (by rw [List.length_drop]; omega) (Nat.le_refl _)
  rw [e4]
  by_cases hz : (ins (c :: r) (d + 1)).2 = 0
  · have h1 : 1 ≤ (ins (c :: r) (d + 1)).1 := in_pos hz
    have e5 := (tx_stab (2 * r.length + 2) (2 * ((c :: r).drop (ins (c :: r) (d + 1)).1).length + 1) ((c :: r).drop (ins (c :: r) (d + 1)).1) d).2.2 (by rw [List.length_drop]; simp only [List.length_cons]; omega) (Nat.le_refl _)
    rw [e5]
  · rw [if_neg hz, if_neg hz]
theorem tx_bd (s : Bs) (d : Nat) : (tx s d).1 ≤ s.length ∧ ((tx s d).2 = 0 → 1 ≤ (tx s d).1) := (tx_le _ s d).1
theorem il_bd (s : Bs) (d : Nat) : (il s d).1 ≤ s.length ∧ ((il s d).2 = 0 → 1 ≤ (il s d).1) := (tx_le _ s d).2.2
theorem ins_bd {s : Bs} (hs : s ≠ []) (d : Nat) : (ins s d).1 ≤ s.length ∧ ((ins s d).2 = 0 → 1 ≤ (ins s d).1) :=
  ⟨(tx_le _ s d).2.1.resolve_right hs, in_pos⟩

end Go.Proofs.YtgmgmjddadgkkaaDoor
