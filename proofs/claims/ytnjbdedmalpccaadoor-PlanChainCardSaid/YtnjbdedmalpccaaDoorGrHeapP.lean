/- Plain: a heap on a list of ints, sifting up and down. No program in sight. -/
namespace Go.Proofs.YtnjbdedmalpccaaDoor

def swapL (xs : List Int) (i j : Nat) : List Int := (xs.set i (xs.getD j 0)).set j (xs.getD i 0)
theorem swapL_len (xs : List Int) (i j : Nat) : (swapL xs i j).length = xs.length := by simp [swapL]
theorem swapL_get (xs : List Int) (i j k : Nat) (hi : i < xs.length) (hj : j < xs.length) :
    (swapL xs i j).getD k 0 = if k = j then xs.getD i 0 else if k = i then xs.getD j 0 else xs.getD k 0 := by
  unfold swapL
  simp only [List.getD_eq_getElem?_getD, List.getElem?_set, List.length_set]
  by_cases h1 : k = j
  · subst h1; simp [hj]
  · by_cases h2 : k = i
    · subst h2
      have : ¬ j = k := fun e => h1 e.symm
      simp [h1, this, hi]
    · have e1 : ¬ j = k := fun e => h1 e.symm
      have e2 : ¬ i = k := fun e => h2 e.symm
      simp [h1, h2, e1, e2]
theorem swapL_perm (xs : List Int) (i j : Nat) (hi : i < xs.length) (hj : j < xs.length) : (swapL xs i j).Perm xs := by
  have e1 : xs.getD i 0 = xs[i] := by simp [List.getD, hi]
  have e2 : xs.getD j 0 = xs[j] := by simp [List.getD, hj]
  unfold swapL
  rw [e1, e2]
  exact List.set_set_perm hi hj

def par (k : Nat) : Nat := (k - 1) / 2
/-- The first n make a heap. -/
def HeapN (xs : List Int) (n : Nat) : Prop := ∀ k, 0 < k → k < n → xs.getD (par k) 0 ≤ xs.getD k 0

structure UpInv (xs : List Int) (j : Nat) : Prop where
  lt : j < xs.length
  up : ∀ k, 0 < k → k < xs.length → k ≠ j → xs.getD (par k) 0 ≤ xs.getD k 0
  kids : ∀ k, 0 < k → k < xs.length → par k = j → 0 < j → xs.getD (par j) 0 ≤ xs.getD k 0

theorem UpInv.done {xs : List Int} {j : Nat} (h : UpInv xs j) (hd : j = 0 ∨ xs.getD (par j) 0 ≤ xs.getD j 0) : HeapN xs xs.length := by
  intro k h0 hk
  by_cases e : k = j
  · subst e
    rcases hd with hd | hd
    · omega
    · exact hd
  · exact h.up k h0 hk e

theorem UpInv.step {xs : List Int} {j : Nat} (h : UpInv xs j) (hj : 0 < j) (hlt : xs.getD j 0 < xs.getD (par j) 0) : UpInv (swapL xs (par j) j) (par j) := by
  have hl := h.lt
  have hp : par j < j := by unfold par; omega
  have hpl : par j < xs.length := by omega
  have g := fun k => swapL_get xs (par j) j k hpl hl
  refine ⟨by rw [swapL_len]; exact hpl, fun k h0 hk hne => ?_, fun k h0 hk hpk hi => ?_⟩
  · rw [swapL_len] at hk
    rw [g, g]
    have hpk : par k < k := by unfold par; omega
    by_cases e1 : k = j
    · subst e1
      have : ¬ par k = k := by omega
      simp only [if_true, if_neg this]
      omega
    · rw [if_neg e1, if_neg hne]
      by_cases e2 : par k = j
      · rw [if_pos e2]; exact h.kids k h0 hk e2 hj
      · rw [if_neg e2]
        have := h.up k h0 hk e1
        by_cases e3 : par k = par j
        · rw [if_pos e3]; rw [e3] at this; omega
        · rw [if_neg e3]; exact this
  · rw [swapL_len] at hk
    rw [g, g]
    have hpp : par (par j) < par j := by
      generalize par j = q at hi
      unfold par; omega
    have e1 : ¬ par (par j) = j := by omega
    have e2 : ¬ par (par j) = par j := by omega
    rw [if_neg e1, if_neg e2]
    have h1 := h.up (par j) hi hpl (by omega)
    by_cases e3 : k = j
    · rw [if_pos e3]; exact h1
    · rw [if_neg e3]
      have h2 := h.up k h0 hk e3
      rw [hpk] at h2
      have e4 : ¬ k = par j := by
        intro e; rw [e] at hpk; omega
      rw [if_neg e4]
      omega

theorem UpInv.start {xs : List Int} {x : Int} (h : HeapN xs xs.length) : UpInv (xs ++ [x]) xs.length := by
  refine ⟨by simp, fun k h0 hk hne => ?_, fun k h0 hk hp _ => ?_⟩
  · have hk' : k < xs.length := by simp at hk; omega
    have hp : par k < xs.length := by unfold par; omega
    have := h k h0 hk'
    simpa [List.getD, List.getElem?_append, hk', hp] using this
  · simp at hk
    unfold par at hp; omega

structure DownInv (xs : List Int) (n i : Nat) : Prop where
  le : n ≤ xs.length
  up : ∀ k, 0 < k → k < n → par k ≠ i → xs.getD (par k) 0 ≤ xs.getD k 0
  kids : ∀ k, 0 < k → k < n → par k = i → 0 < i → xs.getD (par i) 0 ≤ xs.getD k 0

theorem DownInv.done {xs : List Int} {n i : Nat} (h : DownInv xs n i) (hd : ∀ k, 0 < k → k < n → par k = i → xs.getD i 0 ≤ xs.getD k 0) : HeapN xs n := by
  intro k h0 hk
  by_cases e : par k = i
  · rw [e]; exact hd k h0 hk e
  · exact h.up k h0 hk e

theorem DownInv.step {xs : List Int} {n i j : Nat} (h : DownInv xs n i) (h0 : 0 < j) (hj : j < n) (hpj : par j = i) (hlt : xs.getD j 0 < xs.getD i 0) (hle : ∀ k, 0 < k → k < n → par k = i → xs.getD j 0 ≤ xs.getD k 0) :
    DownInv (swapL xs i j) n j := by
  have hl := h.le
  have hij : i < j := by rw [← hpj]; unfold par; omega
  have g := fun k => swapL_get xs i j k (by omega) (by omega)
  refine ⟨by rw [swapL_len]; exact hl, fun k hk0 hk hne => ?_, fun k hk0 hk hpk _ => ?_⟩
  · rw [g, g]
    rw [if_neg hne]
    by_cases e1 : k = j
    · subst e1
      rw [if_pos hpj, if_pos rfl]; omega
    · rw [if_neg e1]
      by_cases e2 : par k = i
      · rw [if_pos e2]
        have e3 : ¬ k = i := by intro e; rw [e] at e2; unfold par at e2; omega
        rw [if_neg e3]; exact hle k hk0 hk e2
      · rw [if_neg e2]
        by_cases e3 : k = i
        · rw [if_pos e3]
          subst e3
          exact h.kids j h0 hj hpj hk0
        · rw [if_neg e3]; exact h.up k hk0 hk e2
  · rw [g, g]
    have e1 : ¬ par j = j := by omega
    rw [if_neg e1, if_pos hpj]
    have hjk : j < k := by rw [← hpk]; unfold par; omega
    have e2 : ¬ k = j := by omega
    have e3 : ¬ k = i := by omega
    rw [if_neg e2, if_neg e3]
    have := h.up k hk0 hk (by omega)
    rw [hpk] at this
    exact this

/-- The least stands first. -/
theorem HeapN.least {xs : List Int} {n : Nat} (h : HeapN xs n) : ∀ k, k < n → xs.getD 0 0 ≤ xs.getD k 0 := by
  intro k
  induction k using Nat.strongRecOn with
  | _ k ih =>
    intro hk
    by_cases e : k = 0
    · subst e; exact Int.le_refl _
    · have h1 := h k (by omega) hk
      have h2 := ih (par k) (by unfold par; omega) (by unfold par; omega)
      omega

/-- Behind the exchange of the first and the last: the others await the sifting. -/
theorem HeapN.popped {xs : List Int} {n : Nat} (h : HeapN xs (n + 1)) (hl : n + 1 ≤ xs.length) : DownInv (swapL xs 0 n) n 0 := by
  have g := fun k => swapL_get xs 0 n k (by omega) (by omega)
  refine ⟨by rw [swapL_len]; omega, fun k h0 hk hne => ?_, fun k _ _ _ hi => absurd hi (by omega)⟩
  rw [g, g]
  have hp : par k < k := by unfold par; omega
  rw [if_neg (by omega), if_neg hne, if_neg (by omega), if_neg (by omega)]
  exact h k h0 (by omega)

end Go.Proofs.YtnjbdedmalpccaaDoor
