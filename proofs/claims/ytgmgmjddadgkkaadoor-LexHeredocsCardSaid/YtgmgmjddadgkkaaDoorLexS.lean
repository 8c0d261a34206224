/- Plain: each token stands in the text where it says, one behind the other. -/
import Derived.Test.YtgmgmjddadgkkaaDoorLexQ
namespace Go.Proofs.YtgmgmjddadgkkaaDoor
open Go

/-- What LexStands asks of the tokens from place p on. -/
def StandP (l : Bs) : Nat → List Tok → Prop
  | _, [] => False
  | p, [x] => p ≤ x.2.2 ∧ x.1 = 0 ∧ x.2.1 = [] ∧ x.2.2 = l.length
  | p, x :: y :: r => p ≤ x.2.2 ∧ x.2.2 < l.length ∧ x.1 ≠ 0 ∧
      (x.1 = 3 → l[x.2.2]? = some 60 → StandP l (x.2.2 + 5) (y :: r)) ∧
      (x.1 = 3 → l[x.2.2]? ≠ some 60 → x.2.2 + 1 + x.2.1.length ≤ l.length ∧ (l.drop (x.2.2 + 1)).take x.2.1.length = x.2.1 ∧ StandP l (x.2.2 + 1 + x.2.1.length) (y :: r)) ∧
      (x.1 ≠ 3 → x.2.2 + x.2.1.length ≤ l.length ∧ (l.drop x.2.2).take x.2.1.length = x.2.1 ∧ StandP l (x.2.2 + x.2.1.length) (y :: r))
theorem StandP.low {l : Bs} : ∀ {toks : List Tok} {p q : Nat}, StandP l p toks → q ≤ p → StandP l q toks
  | [], _, _, h, _ => h
  | [_], _, _, h, hq => ⟨Nat.le_trans hq h.1, h.2⟩
  | _ :: _ :: _, _, _, h, hq => ⟨Nat.le_trans hq h.1, h.2⟩
theorem StandP.cons {l : Bs} {p : Nat} {x : Tok} {toks : List Tok} (hn : toks ≠ []) (h : p ≤ x.2.2 ∧ x.2.2 < l.length ∧ x.1 ≠ 0 ∧
      (x.1 = 3 → l[x.2.2]? = some 60 → StandP l (x.2.2 + 5) toks) ∧
      (x.1 = 3 → l[x.2.2]? ≠ some 60 → x.2.2 + 1 + x.2.1.length ≤ l.length ∧ (l.drop (x.2.2 + 1)).take x.2.1.length = x.2.1 ∧ StandP l (x.2.2 + 1 + x.2.1.length) toks) ∧
      (x.1 ≠ 3 → x.2.2 + x.2.1.length ≤ l.length ∧ (l.drop x.2.2).take x.2.1.length = x.2.1 ∧ StandP l (x.2.2 + x.2.1.length) toks)) : StandP l p (x :: toks) := by
  cases toks with
  | nil => exact absurd rfl hn
  | cons y r => exact h
theorem StandP.ne {l : Bs} {p : Nat} {toks : List Tok} (h : StandP l p toks) : toks ≠ [] := by
  rintro rfl
  exact h

theorem stand_scan (l : Bs) : ∀ (n p k : Nat) (toks : List Tok), l.length - p ≤ n → p ≤ l.length → scanN (l.drop p) p k = .ok toks → StandP l p toks := by
  intro n
  induction n with
  | zero =>
    intro p k toks hn hp h
    have : p = l.length := by omega
    subst this
    rw [List.drop_length, scanN_eq] at h
    simp only [skipN_nil] at h
    cases h
    exact ⟨Nat.le_refl _, rfl, rfl, rfl⟩
  | succ n ih =>
    intro p k toks hn hp h
    rw [scanN_eq] at h
    have hx := (skip_le _ (l.drop p) (Nat.le_refl _)).1
    rw [List.length_drop] at hx
    obtain ⟨x, hxe⟩ : ∃ x, skipN (l.drop p) = x := ⟨_, rfl⟩
    rw [hxe] at h hx
    by_cases h0 : x.2 ≠ 0
    · rw [if_pos h0] at h; cases h
    rw [if_neg h0, List.drop_drop] at h
    cases hd : l.drop (p + x.1) with
    | nil =>
      rw [hd] at h
      cases h
      have : l.length ≤ p + x.1 := by simpa using hd
      exact ⟨by simp only; omega, rfl, rfl, by simp only; omega⟩
    | cons c r =>
      rw [hd] at h
      simp only at h
      have hl : r.length + 1 = l.length - (p + x.1) := by
        have := congrArg List.length hd
        rw [List.length_drop] at this
        simpa using this.symm
      by_cases he : (oneN c r).err ≠ 0
      · rw [if_pos he] at h; cases h
      rw [if_neg he] at h
      by_cases hk : k = 4096
      · rw [if_pos hk] at h; cases h
      rw [if_neg hk] at h
      obtain ⟨h1, h2, h3, h4, h5⟩ := one_le c r (by simpa using he)
      have hdd : (c :: r).drop (oneN c r).size = l.drop (p + x.1 + (oneN c r).size) := by rw [← hd, List.drop_drop]
      rw [hdd] at h
      cases hs : scanN (l.drop (p + x.1 + (oneN c r).size)) (p + x.1 + (oneN c r).size) (k + 1) with
      | error e => rw [hs] at h; cases h
      | ok m =>
        rw [hs] at h
        cases h
        have hst := ih _ _ m (by omega) (by omega) hs
        have hc : l[p + x.1]? = some c := by
          have : (l.drop (p + x.1))[0]? = some c := by rw [hd]; rfl
          rwa [List.getElem?_drop, Nat.add_zero] at this
        have hd1 : l.drop (p + x.1 + 1) = r := by rw [← List.drop_drop, hd]; rfl
        refine StandP.cons hst.ne ⟨by simp only; omega, by simp only; omega, h3, fun hk3 hc60 => ?_, fun hk3 hc60 => ?_, fun hk3 => ?_⟩
        · simp only at hc60 hk3 ⊢
          rw [hc] at hc60
          have hc60 : c = 60 := by simpa using hc60
          rcases h4 hk3 with ⟨_, h⟩ | ⟨h, _⟩
          · exact hst.low (by omega)
          · exact absurd hc60 h
        · simp only at hc60 hk3 ⊢
          rw [hc] at hc60
          rcases h4 hk3 with ⟨h, _⟩ | ⟨_, h, h'⟩
          · subst h; exact absurd rfl hc60
          · refine ⟨by omega, ?_, hst.low (by omega)⟩
            rw [hd1]
            exact h'
        · simp only at hk3 ⊢
          obtain ⟨h, h'⟩ := h5 hk3
          refine ⟨by omega, ?_, hst.low (by omega)⟩
          rw [hd]
          exact h'

theorem scan_err (l : Bs) : ∀ (n p k : Nat) (e : Int) (q : Nat), l.length - p ≤ n → p ≤ l.length → scanN (l.drop p) p k = .error (e, q) → q ≤ l.length ∧ e ≠ 0 := by
  intro n
  induction n with
  | zero =>
    intro p k e q hn hp h
    have : p = l.length := by omega
    subst this
    rw [List.drop_length, scanN_eq] at h
    simp only [skipN_nil] at h
    cases h
  | succ n ih =>
    intro p k e q hn hp h
    rw [scanN_eq] at h
    have hx := (skip_le _ (l.drop p) (Nat.le_refl _)).1
    rw [List.length_drop] at hx
    obtain ⟨x, hxe⟩ : ∃ x, skipN (l.drop p) = x := ⟨_, rfl⟩
    rw [hxe] at h hx
    by_cases h0 : x.2 ≠ 0
    · rw [if_pos h0] at h
      injection h with h
      injection h with e1 e2
      exact ⟨by omega, by rw [← e1]; exact h0⟩
    rw [if_neg h0, List.drop_drop] at h
    cases hd : l.drop (p + x.1) with
    | nil => rw [hd] at h; cases h
    | cons c r =>
      rw [hd] at h
      simp only at h
      have hl : r.length + 1 = l.length - (p + x.1) := by
        have := congrArg List.length hd
        rw [List.length_drop] at this
        simpa using this.symm
      by_cases he : (oneN c r).err ≠ 0
      · rw [if_pos he] at h
        injection h with h
        injection h with e1 e2
        exact ⟨by omega, by rw [← e1]; exact he⟩
      rw [if_neg he] at h
      by_cases hk : k = 4096
      · rw [if_pos hk] at h
        injection h with h
        injection h with e1 e2
        exact ⟨by omega, by rw [← e1]; decide⟩
      rw [if_neg hk] at h
      obtain ⟨h1, h2, _⟩ := one_le c r (by simpa using he)
      have hdd : (c :: r).drop (oneN c r).size = l.drop (p + x.1 + (oneN c r).size) := by rw [← hd, List.drop_drop]
      rw [hdd] at h
      cases hs : scanN (l.drop (p + x.1 + (oneN c r).size)) (p + x.1 + (oneN c r).size) (k + 1) with
      | error e' =>
        rw [hs] at h
        cases h
        exact ih _ _ _ _ (by omega) (by omega) hs
      | ok m => rw [hs] at h; cases h
theorem bad_lt (l : Bs) (s : ByteArray) : ∀ (f p i : Nat), badF l s f p = some i → i < s.size
  | 0, _, _, h => by cases h
  | f + 1, p, i, h => by
    rw [badF] at h
    split at h
    · next hp =>
      split at h
      · cases h; exact hp
      · exact bad_lt l s f _ i h
    · cases h

/-- What LexStands asks. -/
theorem scanP_ok {l : Bs} {toks : List Tok} (h : scanP l = .ok toks) : StandP l 0 toks ∧ l.length ≤ 16384 := by
  unfold scanP at h
  split at h
  · cases h
  · next hl =>
    split at h
    · cases h
    · exact ⟨stand_scan l l.length 0 0 toks (by omega) (by omega) h, by omega⟩
theorem scanP_err {l : Bs} {e : Int} {q : Nat} (h : scanP l = .error (e, q)) : q ≤ l.length ∧ e ≠ 0 := by
  unfold scanP at h
  split at h
  · injection h with h
    injection h with e1 e2
    exact ⟨by omega, by rw [← e1]; decide⟩
  · split at h
    · next i hi =>
      injection h with h
      injection h with e1 e2
      have : i < l.length := bad_lt _ _ _ _ _ hi
      exact ⟨by omega, by rw [← e1]; decide⟩
    · exact scan_err l l.length 0 0 e q (by omega) (by omega) h

end Go.Proofs.YtgmgmjddadgkkaaDoor
