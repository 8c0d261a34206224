/- Plain: fuel is enough; how far a token goes. -/
import Derived.Test.YtgmgmjddadgkkaaDoorLexP
namespace Go.Proofs.YtgmgmjddadgkkaaDoor
open Go

theorem runN_le (p : UInt8 → Bool) : ∀ l : Bs, runN p l ≤ l.length
  | [] => Nat.le_refl _
  | c :: r => by
    rw [runN]
    have := runN_le p r
    split <;> simp <;> omega
theorem runN_pos {p : UInt8 → Bool} {c : UInt8} {r : Bs} (h : p c = true) : 1 ≤ runN p (c :: r) := by rw [runN, if_pos h]; omega
theorem endN_le : ∀ {l : Bs} {i : Nat}, endN l = some i → i + 2 ≤ l.length
  | [], i, h => by cases h
  | c :: r, i, h => by
    rw [endN] at h
    split at h
    · next hc =>
      cases h
      cases r with
      | nil => simp at hc
      | cons e r => simp
    · cases hr : endN r with
      | none => rw [hr] at h; cases h
      | some j =>
        rw [hr] at h
        cases h
        have := endN_le hr
        simp
        omega

def skipN (s : Bs) : Nat × Int := skipF (s.length + 1) s
theorem skipF_stab : ∀ (f g : Nat) (s : Bs), s.length < f → s.length < g → skipF f s = skipF g s
  | 0, _, _, h, _ => by omega
  | _, 0, _, _, h => by omega
  | f + 1, g + 1, [], _, _ => by rw [skipF, skipF]
  | f + 1, g + 1, c :: r, hf, hg => by
    rw [skipF, skipF]
    simp only [List.length_cons] at hf hg
    by_cases hb : blankB c = true
    · rw [if_pos hb, if_pos hb, skipF_stab f g r (by omega) (by omega)]
    rw [if_neg hb, if_neg hb]
    by_cases h1 : (c == 35 || (c == 47 && r.head? == some 47)) = true
    · have hn : 1 ≤ runN (· != 10) (c :: r) := runN_pos (by
        simp only [Bool.or_eq_true, Bool.and_eq_true, beq_iff_eq] at h1
        rcases h1 with rfl | ⟨rfl, _⟩ <;> decide)
      have hd : ((c :: r).drop (runN (· != 10) (c :: r))).length < f ∧ ((c :: r).drop (runN (· != 10) (c :: r))).length < g := by
        rw [List.length_drop]; simp only [List.length_cons]; omega
      rw [if_pos h1, if_pos h1, skipF_stab f g _ hd.1 hd.2]
    rw [if_neg h1, if_neg h1]
    by_cases h2 : (c == 47 && r.head? == some 42) = true
    · rw [if_pos h2, if_pos h2]
      cases he : endN (r.drop 1) with
      | none => rfl
      | some i =>
        have hd : ((c :: r).drop (i + 4)).length < f ∧ ((c :: r).drop (i + 4)).length < g := by
          rw [List.length_drop]; simp only [List.length_cons]; omega
        simp only
        rw [skipF_stab f g _ hd.1 hd.2]
    · rw [if_neg h2, if_neg h2]
theorem skipN_nil : skipN [] = (0, 0) := rfl
theorem skipN_cons (c : UInt8) (r : Bs) : skipN (c :: r) =
    if blankB c = true then ((skipN r).1 + 1, (skipN r).2)
    else if (c == 35 || (c == 47 && r.head? == some 47)) = true then ((skipN ((c :: r).drop (runN (· != 10) (c :: r)))).1 + runN (· != 10) (c :: r), (skipN ((c :: r).drop (runN (· != 10) (c :: r)))).2)
    else if (c == 47 && r.head? == some 42) = true then
      match endN (r.drop 1) with
      | none => (0, 40)
      | some i => ((skipN ((c :: r).drop (i + 4))).1 + (i + 4), (skipN ((c :: r).drop (i + 4))).2)
    else (0, 0) := by
  unfold skipN
  rw [skipF]
  by_cases hb : blankB c = true
  · rw [if_pos hb, if_pos hb, skipF_stab (c :: r).length (r.length + 1) r (by simp) (by simp)]
  rw [if_neg hb, if_neg hb]
  by_cases h1 : (c == 35 || (c == 47 && r.head? == some 47)) = true
  · have hn : 1 ≤ runN (· != 10) (c :: r) := runN_pos (by
      simp only [Bool.or_eq_true, Bool.and_eq_true, beq_iff_eq] at h1
      rcases h1 with rfl | ⟨rfl, _⟩ <;> decide)
    rw [if_pos h1, if_pos h1, skipF_stab (c :: r).length _ _ (by rw [List.length_drop]; simp only [List.length_cons]; omega) (Nat.lt_succ_self _)]
  rw [if_neg h1, if_neg h1]
  by_cases h2 : (c == 47 && r.head? == some 42) = true
  · rw [if_pos h2, if_pos h2]
    cases he : endN (r.drop 1) with
    | none => rfl
    | some i =>
      simp only
      rw [skipF_stab (c :: r).length _ _ (by rw [List.length_drop]; simp only [List.length_cons]; omega) (Nat.lt_succ_self _)]
  · rw [if_neg h2, if_neg h2]
theorem skip_le : ∀ (n : Nat) (s : Bs), s.length ≤ n → (skipN s).1 ≤ s.length ∧ ((skipN s).2 = 0 ∨ (skipN s).2 = 40)
  | _, [], _ => by rw [skipN_nil]; exact ⟨Nat.le_refl _, .inl rfl⟩
  | 0, c :: r, h => by simp at h
  | n + 1, c :: r, h => by
    simp only [List.length_cons] at h
    rw [skipN_cons]
    by_cases hb : blankB c = true
    · rw [if_pos hb]
      have := skip_le n r (by omega)
      exact ⟨by simp only [List.length_cons]; omega, this.2⟩
    rw [if_neg hb]
    by_cases h1 : (c == 35 || (c == 47 && r.head? == some 47)) = true
    · have hn : 1 ≤ runN (· != 10) (c :: r) := runN_pos (by
        simp only [Bool.or_eq_true, Bool.and_eq_true, beq_iff_eq] at h1
        rcases h1 with rfl | ⟨rfl, _⟩ <;> decide)
      have hl := runN_le (· != 10) (c :: r)
      have := skip_le n ((c :: r).drop (runN (· != 10) (c :: r))) (by rw [List.length_drop]; simp only [List.length_cons]; omega)
      rw [List.length_drop] at this
      rw [if_pos h1]
      exact ⟨by omega, this.2⟩
    rw [if_neg h1]
    by_cases h2 : (c == 47 && r.head? == some 42) = true
    · rw [if_pos h2]
      cases he : endN (r.drop 1) with
      | none => exact ⟨Nat.zero_le _, .inr rfl⟩
      | some i =>
        have hi := endN_le he
        rw [List.length_drop] at hi
        have := skip_le n ((c :: r).drop (i + 4)) (by rw [List.length_drop]; simp only [List.length_cons]; omega)
        rw [List.length_drop] at this
        exact ⟨by simp only [List.length_cons] at this ⊢; omega, this.2⟩
    · rw [if_neg h2]
      exact ⟨Nat.zero_le _, .inl rfl⟩

theorem addN_zero (k : Nat) {x : Nat × Int} (h : x.2 = 0) : addN k x = (x.1 + k, 0) := by unfold addN; rw [if_pos h]
theorem addN_err (k : Nat) {x : Nat × Int} (h : ¬ x.2 = 0) : addN k x = (0, x.2) := by unfold addN; rw [if_neg h]

/-- How far they go; and that fuel is enough. -/
theorem tx_le : ∀ (f : Nat) (s : Bs) (d : Nat), ((txF f s d).1 ≤ s.length ∧ ((txF f s d).2 = 0 → 1 ≤ (txF f s d).1)) ∧ ((inF f s d).1 ≤ s.length ∨ s = []) ∧ ((ilF f s d).1 ≤ s.length ∧ ((ilF f s d).2 = 0 → 1 ≤ (ilF f s d).1))
  | 0, s, d => by
    rw [txF, inF, ilF]
    exact ⟨⟨Nat.zero_le _, fun h => by cases h⟩, .inl (Nat.zero_le _), Nat.zero_le _, fun h => by cases h⟩
  | f + 1, s, d => by
    refine ⟨?_, ?_, ?_⟩
    · cases s with
      | nil => rw [txF]; exact ⟨Nat.zero_le _, fun h => by cases h⟩
      | cons c r =>
        rw [txF]
        split
        · exact ⟨by simp, fun _ => Nat.le_refl _⟩
        split
        · exact ⟨Nat.zero_le _, fun h => by cases h⟩
        split
        · split
          · next he =>
            have hr : 1 ≤ r.length := by
              cases r with
              | nil => exact absurd he (by decide)
              | cons e r' => simp
            have := (tx_le f (r.drop 1) d).1
            rw [List.length_drop] at this
            unfold addN
            split
            · exact ⟨by simp only [List.length_cons]; omega, fun _ => by simp only; omega⟩
            · next h => exact ⟨Nat.zero_le _, fun h' => absurd h' h⟩
          · exact ⟨Nat.zero_le _, fun h => by cases h⟩
        split
        · split
          · have h1 := (tx_le f r (d + 1)).2.1
            have h2 := (tx_le f (r.drop (inF f r (d + 1)).1) d).1
            rw [List.length_drop] at h2
            unfold addN
            split
            · refine ⟨?_, fun _ => by simp only; omega⟩
              simp only [List.length_cons]
              rcases h1 with h1 | rfl
              · omega
              · next hc _ _ => simp at hc
            · next h => exact ⟨Nat.zero_le _, fun h' => absurd h' h⟩
          · next h => exact ⟨Nat.zero_le _, fun h' => absurd h' h⟩
        · have := (tx_le f r d).1
          unfold addN
          split
          · exact ⟨by simp only [List.length_cons]; omega, fun _ => by simp only; omega⟩
          · next h => exact ⟨Nat.zero_le _, fun h' => absurd h' h⟩
    · cases s with
      | nil => exact .inr rfl
      | cons c r =>
        left
        rw [inF]
        split
        · exact Nat.zero_le _
        · have := (tx_le f r d).2.2
          show (addN 1 (ilF f r d)).1 ≤ _
          unfold addN
          split
          · simp only [List.length_cons]; omega
          · exact Nat.zero_le _
    · cases s with
      | nil => rw [ilF]; exact ⟨Nat.zero_le _, fun h => by cases h⟩
      | cons c r =>
        rw [ilF]
        split
        · exact ⟨by simp, fun _ => Nat.le_refl _⟩
        split
        · exact ⟨Nat.zero_le _, fun h => by cases h⟩
        split
        · split
          · have h1 := (tx_le f (c :: r) (d + 1)).2.1
            have h2 := (tx_le f ((c :: r).drop (inF f (c :: r) (d + 1)).1) d).2.2
            rw [List.length_drop] at h2
            unfold addN
            split
            · next h => 
              refine ⟨?_, fun _ => by have := h2.2 h; simp only; omega⟩
              rcases h1 with h1 | h1
              · simp only; omega
              · cases h1
            · next h => exact ⟨Nat.zero_le _, fun h' => absurd h' h⟩
          · next h => exact ⟨Nat.zero_le _, fun h' => absurd h' h⟩
        split
        · split
          · have h1 := (tx_le f r d).1
            have h2 := (tx_le f (r.drop (txF f r d).1) d).2.2
            rw [List.length_drop] at h2
            unfold addN
            split
            · exact ⟨by simp only [List.length_cons]; omega, fun _ => by simp only; omega⟩
            · next h => exact ⟨Nat.zero_le _, fun h' => absurd h' h⟩
          · next h => exact ⟨Nat.zero_le _, fun h' => absurd h' h⟩
        · have := (tx_le f r d).2.2
          unfold addN
          split
          · exact ⟨by simp only [List.length_cons]; omega, fun _ => by simp only; omega⟩
          · next h => exact ⟨Nat.zero_le _, fun h' => absurd h' h⟩

theorem hd_le (name : Bs) : ∀ (f : Nat) (s : Bs) (x : Bs × Nat), hdF name f s = some x → x.2 ≤ s.length ∧ name.length ≤ x.2
  | 0, _, _, h => by cases h
  | f + 1, s, x, h => by
    rw [hdF] at h
    have htw : (s.takeWhile (· != 10)).length ≤ s.length := (List.takeWhile_sublist _).length_le
    split at h
    · next hn =>
      cases h
      refine ⟨htw, ?_⟩
      rw [← hn]
      exact (List.dropWhile_sublist _).length_le
    split at h
    · cases h
    · cases hr : hdF name f (s.drop ((s.takeWhile (· != 10)).length + 1)) with
      | none => rw [hr] at h; cases h
      | some y =>
        rw [hr] at h
        cases h
        have := hd_le name f _ y hr
        rw [List.length_drop] at this
        exact ⟨by simp only; omega, by simp only; omega⟩
theorem here_le {s : Bs} {x : Bs × Nat} (h : hereN s = some x) : x.2 ≤ s.length ∧ 5 ≤ x.2 := by
  unfold hereN at h
  have hnl : nameN (s.drop 2) ≤ (s.drop 2).length := by
    cases s.drop 2 with
    | nil => exact Nat.le_refl _
    | cons c r =>
      rw [nameN]
      split
      · exact runN_le _ _
      · exact Nat.zero_le _
  obtain ⟨n, hn⟩ : ∃ n, nameN (s.drop 2) = n := ⟨_, rfl⟩
  rw [hn] at h hnl
  rw [List.length_drop] at hnl
  split at h
  · cases h
  · next hn0 =>
    cases hd : s.drop (2 + n) with
    | nil => rw [hd] at h; cases h
    | cons c r =>
      rw [hd] at h
      simp only at h
      have hl : r.length + 1 = s.length - (2 + n) := by
        have := congrArg List.length hd
        rw [List.length_drop] at this
        simpa using this.symm
      split at h
      · cases hr : hdF ((s.drop 2).take n) (r.length + 1) r with
        | none => rw [hr] at h; cases h
        | some y =>
          rw [hr] at h
          cases h
          have := hd_le _ _ _ _ hr
          rw [List.length_take, List.length_drop] at this
          simp only
          omega
      · cases h

/-- Of a token without an error: it has a byte, and stands in what is left; where its text stands. -/
theorem one_le (c : UInt8) (r : Bs) (h : (oneN c r).err = 0) : 1 ≤ (oneN c r).size ∧ (oneN c r).size ≤ r.length + 1 ∧ (oneN c r).kind ≠ 0 ∧
    ((oneN c r).kind = 3 → (c = 60 ∧ 5 ≤ (oneN c r).size) ∨ (c ≠ 60 ∧ (oneN c r).size = (oneN c r).text.length + 2 ∧ r.take (oneN c r).text.length = (oneN c r).text)) ∧
    ((oneN c r).kind ≠ 3 → (oneN c r).size = (oneN c r).text.length ∧ (c :: r).take (oneN c r).text.length = (oneN c r).text) := by
  unfold oneN at h ⊢
  by_cases h10 : c = 10
  · subst h10
    simp
  rw [if_neg h10] at h ⊢
  by_cases hl : letB c = true
  · rw [if_pos hl] at h ⊢
    have h1 : 1 ≤ runN namB (c :: r) := runN_pos (by unfold namB; rw [hl]; rfl)
    have h2 := runN_le namB (c :: r)
    have h3 : ((c :: r).take (runN namB (c :: r))).length = runN namB (c :: r) := by rw [List.length_take]; omega
    simp only [List.length_cons] at h2
    refine ⟨h1, h2, by simp, by simp, fun _ => ⟨h3.symm, ?_⟩⟩
    simp only
    rw [h3]
  rw [if_neg hl] at h ⊢
  by_cases hd : digB c = true
  · rw [if_pos hd] at h ⊢
    have h1 : 1 ≤ runN digB (c :: r) := runN_pos hd
    have h2 := runN_le digB (c :: r)
    have h3 : ((c :: r).take (runN digB (c :: r))).length = runN digB (c :: r) := by rw [List.length_take]; omega
    simp only [List.length_cons] at h2
    refine ⟨h1, h2, by simp, by simp, fun _ => ⟨h3.symm, ?_⟩⟩
    simp only
    rw [h3]
  rw [if_neg hd] at h ⊢
  by_cases h34 : c = 34
  · rw [if_pos h34] at h ⊢
    obtain ⟨x, hx⟩ : ∃ x, txF (2 * r.length + 1) r 0 = x := ⟨_, rfl⟩
    have hle := (tx_le (2 * r.length + 1) r 0).1
    rw [hx] at h hle ⊢
    by_cases h0 : x.2 = 0
    · rw [if_pos h0] at h ⊢
      have h1 := hle.2 h0
      have h3 : (r.take (x.1 - 1)).length = x.1 - 1 := by rw [List.length_take]; omega
      refine ⟨by simp, by simp only; omega, by simp, fun _ => .inr ⟨by rw [h34]; decide, ?_, ?_⟩, by simp⟩
      · simp only; rw [h3]; omega
      · simp only; rw [h3]
    · rw [if_neg h0] at h
      exact absurd h h0
  rw [if_neg h34] at h ⊢
  by_cases h60 : (c == 60 && r.head? == some 60) = true
  · rw [if_pos h60] at h ⊢
    have hc : c = 60 := by simpa using (Bool.and_eq_true_iff.1 h60).1
    cases hh : hereN (c :: r) with
    | none => rw [hh] at h; cases h
    | some x =>
      have := here_le hh
      simp only [List.length_cons] at this
      exact ⟨by simp only; omega, by simp only; omega, by simp, fun _ => .inl ⟨hc, this.2⟩, by simp⟩
  rw [if_neg h60] at h ⊢
  have hs : (signN c r).length ≠ 0 := fun e => by simp only [e, if_true] at h; cases h
  have ht : (c :: r).take (signN c r).length = signN c r ∧ (signN c r).length ≤ r.length + 1 := by
    unfold signN
    cases r with
    | nil =>
      simp only
      split <;> simp
    | cons e r =>
      simp only
      split
      · simp
      · split <;> simp
  exact ⟨by simp only; omega, ht.2, by simp, by simp, fun _ => ⟨rfl, ht.1⟩⟩

def scanN (s : Bs) (a k : Nat) : Except (Int × Nat) (List Tok) := scanF (s.length + 1) s a k
theorem scanF_stab : ∀ (f g : Nat) (s : Bs) (a k : Nat), s.length < f → s.length < g → scanF f s a k = scanF g s a k
  | 0, _, _, _, _, h, _ => by omega
  | _, 0, _, _, _, _, h => by omega
  | f + 1, g + 1, s, a, k, hf, hg => by
    rw [scanF, scanF]
    simp only
    have hx := (skip_le s.length s (Nat.le_refl _)).1
    split
    · rfl
    · cases hd : s.drop (skipF (s.length + 1) s).1 with
      | nil => rfl
      | cons c r =>
        simp only
        split
        · rfl
        · next he =>
          split
          · rfl
          · have h1 := one_le c r (by simpa using he)
            have hl : r.length + 1 ≤ s.length := by
              have := congrArg List.length hd
              rw [List.length_drop] at this
              simp at this
              omega
            have hlt : ((c :: r).drop (oneN c r).size).length < f ∧ ((c :: r).drop (oneN c r).size).length < g := by
              rw [List.length_drop]; simp only [List.length_cons]; omega
            rw [scanF_stab f g _ _ _ hlt.1 hlt.2]
theorem scanN_eq (s : Bs) (a k : Nat) : scanN s a k =
    if (skipN s).2 ≠ 0 then .error ((skipN s).2, a + (skipN s).1)
    else match s.drop (skipN s).1 with
      | [] => .ok [(0, [], a + (skipN s).1)]
      | c :: r =>
        if (oneN c r).err ≠ 0 then .error ((oneN c r).err, a + (skipN s).1)
        else if k = 4096 then .error (3, a + (skipN s).1)
        else match scanN ((c :: r).drop (oneN c r).size) (a + (skipN s).1 + (oneN c r).size) (k + 1) with
          | .error e => .error e
          | .ok l => .ok (((oneN c r).kind, (oneN c r).text, a + (skipN s).1) :: l) := by
  have hx := (skip_le s.length s (Nat.le_refl _)).1
  unfold scanN
  rw [scanF]
  show (if (skipN s).2 ≠ 0 then _ else _) = _
  by_cases h0 : (skipN s).2 ≠ 0
  · rw [if_pos h0, if_pos h0]
    rfl
  rw [if_neg h0, if_neg h0]
  show (match s.drop (skipN s).1 with | [] => _ | c :: r => _) = _
  cases hd : s.drop (skipN s).1 with
  | nil => rfl
  | cons c r =>
    simp only
    by_cases he : (oneN c r).err ≠ 0
    · rw [if_pos he, if_pos he]
      rfl
    rw [if_neg he, if_neg he]
    by_cases hk : k = 4096
    · rw [if_pos hk, if_pos hk]
      rfl
    rw [if_neg hk, if_neg hk]
    have h1 := one_le c r (by simpa using he)
    have hl : r.length + 1 ≤ s.length := by
      have := congrArg List.length hd
      rw [List.length_drop] at this
      simp at this
      omega
    rw [scanF_stab s.length (((c :: r).drop (oneN c r).size).length + 1) _ _ _ (by rw [List.length_drop]; simp only [List.length_cons]; omega) (Nat.lt_succ_self _)]
    rfl

end Go.Proofs.YtgmgmjddadgkkaaDoor
