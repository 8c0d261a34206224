/- Plain: the keys of an object: where they stand; what putting, getting and dropping make. No program in sight. -/
import Derived.Test.YtgbalofdfdafmaaDoorValP
namespace Go.Proofs.YtgbalofdfdafmaaDoor
set_option maxRecDepth 100000

theorem ltS_irr : ∀ a, ltS a a = false
  | [] => rfl
  | x :: r => by simp [ltS, ltS_irr r]
theorem ltS_cons {x y : UInt8} {r s : List UInt8} : ltS (x :: r) (y :: s) = true ↔ x < y ∨ (x = y ∧ ltS r s = true) := by
  rw [ltS]
  by_cases h : x = y
  · subst h
    rw [if_pos rfl]
    constructor
    · exact fun h => .inr ⟨rfl, h⟩
    · rintro (h | h)
      · exact absurd h (UInt8.lt_irrefl x)
      · exact h.2
  · rw [if_neg h]
    constructor
    · exact fun h => .inl (by simpa using h)
    · rintro (h1 | h1)
      · simpa using h1
      · exact absurd h1.1 h
theorem ltS_trans : ∀ {a b c : List UInt8}, ltS a b = true → ltS b c = true → ltS a c = true
  | [], [], _, h, _ => by simp [ltS] at h
  | _ :: _, [], _, h, _ => by simp [ltS] at h
  | [], y :: s, [], _, k => by simp [ltS] at k
  | [], y :: s, z :: t, _, _ => rfl
  | x :: r, y :: s, [], _, k => by simp [ltS] at k
  | x :: r, y :: s, z :: t, h, k => by
    rw [ltS_cons] at h k ⊢
    rcases h with h | ⟨rfl, h⟩ <;> rcases k with k | ⟨rfl, k⟩
    · left; exact UInt8.lt_trans h k
    · left; exact h
    · left; exact k
    · right; exact ⟨rfl, ltS_trans h k⟩
theorem ltS_tri : ∀ {a b : List UInt8}, ltS a b = false → ltS b a = false → a = b
  | [], [], _, _ => rfl
  | [], y :: s, h, _ => by simp [ltS] at h
  | x :: r, [], _, k => by simp [ltS] at k
  | x :: r, y :: s, h, k => by
    have h' : ¬ (x < y ∨ (x = y ∧ ltS r s = true)) := fun hh => by rw [ltS_cons.2 hh] at h; cases h
    have k' : ¬ (y < x ∨ (y = x ∧ ltS s r = true)) := fun hh => by rw [ltS_cons.2 hh] at k; cases k
    have e : x = y := UInt8.le_antisymm (UInt8.not_lt.1 fun hh => k' (.inl hh)) (UInt8.not_lt.1 fun hh => h' (.inl hh))
    subst e
    have h2 : ltS r s = false := by
      cases hh : ltS r s with
      | false => rfl
      | true => exact absurd (.inr ⟨rfl, hh⟩) h'
    have k2 : ltS s r = false := by
      cases hh : ltS s r with
      | false => rfl
      | true => exact absurd (.inr ⟨rfl, hh⟩) k'
    rw [ltS_tri h2 k2]
theorem ltS_asymm {a b : List UInt8} (h : ltS a b = true) : ltS b a = false := by
  cases k : ltS b a with
  | false => rfl
  | true => have := ltS_trans h k; rw [ltS_irr] at this; cases this

/-- Where a key stands, or would stand, in texts that rise. -/
def posK (ks : List (List UInt8)) (key : List UInt8) : Nat := (ks.takeWhile (fun s => ltS s key)).length
def hasK (ks : List (List UInt8)) (key : List UInt8) : Bool := ks[posK ks key]? == some key
theorem posK_le (ks : List (List UInt8)) (key : List UInt8) : posK ks key ≤ ks.length := (List.takeWhile_sublist _).length_le
theorem rising_cons {a : List UInt8} {l : List (List UInt8)} : rising (a :: l) = true ↔ (∀ x ∈ l, ltS a x = true) ∧ rising l = true := by
  induction l generalizing a with
  | nil => simp [rising]
  | cons b r ih =>
    rw [rising, Bool.and_eq_true]
    constructor
    · rintro ⟨h, k⟩
      refine ⟨fun x hx => ?_, k⟩
      rcases List.mem_cons.1 hx with rfl | hx
      · exact h
      · exact ltS_trans h ((ih.1 k).1 x hx)
    · rintro ⟨h, k⟩
      exact ⟨h b (by simp), k⟩
theorem posK_less {ks : List (List UInt8)} {key : List UInt8} {t : Nat} (h : t < posK ks key) : ltS (ks.getD t key) key = true := by
  induction ks generalizing t with
  | nil => simp [posK] at h
  | cons a r ih =>
    unfold posK at h
    rw [List.takeWhile_cons] at h
    split at h
    · next hc =>
      cases t with
      | zero => simpa using hc
      | succ t => simpa using ih (t := t) (by simpa [posK] using h)
    · simp at h
theorem posK_more {ks : List (List UInt8)} (hr : rising ks = true) {key : List UInt8} {t : Nat} (h : posK ks key ≤ t) : ltS (ks.getD t key) key = false := by
  induction ks generalizing t with
  | nil => simp [ltS_irr]
  | cons a r ih =>
    unfold posK at h
    rw [List.takeWhile_cons] at h
    rw [rising_cons] at hr
    split at h
    · next hc =>
      cases t with
      | zero => simp at h
      | succ t => simpa using ih hr.2 (t := t) (by simpa [posK] using h)
    · next hc =>
      have hc' : ltS a key = false := by simpa using hc
      cases t with
      | zero => simpa using hc'
      | succ t =>
        rw [List.getD_cons_succ]
        by_cases ht : t < r.length
        · have := hr.1 r[t] (List.getElem_mem ht)
          rw [show r.getD t key = r[t] by simp [List.getD, ht]]
          cases k : ltS r[t] key with
          | false => rfl
          | true => rw [ltS_trans this k] at hc'; cases hc'
        · rw [show r.getD t key = key by simp [List.getD, Nat.le_of_not_lt ht]]
          exact ltS_irr key
theorem hasK_iff {ks : List (List UInt8)} {key : List UInt8} : hasK ks key = true ↔ posK ks key < ks.length ∧ ks.getD (posK ks key) key = key := by
  unfold hasK
  rw [beq_iff_eq]
  constructor
  · intro h
    have hl := (List.getElem?_eq_some_iff.1 h).1
    exact ⟨hl, by simp [List.getD, h]⟩
  · rintro ⟨h, k⟩
    rw [List.getElem?_eq_getElem h]
    simpa [List.getD, h] using k
/-- A key that is there stands where it would stand. -/
theorem hasK_mem {ks : List (List UInt8)} (hr : rising ks = true) {key : List UInt8} : hasK ks key = true ↔ key ∈ ks := by
  constructor
  · intro h
    have h := hasK_iff.1 h
    have hm := List.getElem_mem h.1
    have e : ks[posK ks key] = key := by simpa [List.getD, h.1] using h.2
    rw [e] at hm
    exact hm
  · intro h
    obtain ⟨i, hi, e⟩ := List.getElem_of_mem h
    have e2 : ks.getD i key = key := by simp [List.getD, hi, e]
    have hge : posK ks key ≤ i := by
      by_cases hlt : i < posK ks key
      · have := posK_less hlt
        rw [e2, ltS_irr] at this
        cases this
      · omega
    rw [hasK_iff]
    refine ⟨by omega, ?_⟩
    have hp := posK_more hr (Nat.le_refl (posK ks key))
    have hlt : posK ks key < ks.length := by omega
    rw [show ks.getD (posK ks key) key = ks[posK ks key] by simp [List.getD, hlt]] at hp ⊢
    by_cases hee : posK ks key = i
    · subst hee; exact e
    · have hl2 : ltS ks[posK ks key] ks[i] = true := by
        have hs : ∀ (l : List (List UInt8)), rising l = true → ∀ a b (ha : a < b) (hb : b < l.length), ltS (l[a]'(by omega)) l[b] = true := by
          intro l
          induction l with
          | nil => intro _ a b _ hb; cases hb
          | cons x r ih =>
            intro hr a b ha hb
            rw [rising_cons] at hr
            cases b with
            | zero => omega
            | succ b =>
              cases a with
              | zero => exact hr.1 _ (List.getElem_mem (by simpa using hb))
              | succ a => exact ih hr.2 a b (by omega) (by simpa using hb)
        exact hs ks hr _ _ (by omega) hi
      rw [e] at hl2
      rw [hl2] at hp
      cases hp

/-- The item of a key. -/
def getT (t : VT) (key : List UInt8) : VT × Bool := if hasK t.keys key = true ∧ t.kind = 6 then (t.items.getD (posK t.keys key) VT.none, true) else (VT.none, false)
/-- A key put into an object. -/
def putT : VT → List UInt8 → VT → VT
  | .mk k b t its ks, key, x =>
    if hasK ks key = true then .mk k b t (its.set (posK ks key) x) ks
    else .mk k b t (its.take (posK ks key) ++ x :: its.drop (posK ks key)) (ks.take (posK ks key) ++ key :: ks.drop (posK ks key))
def putO (t : VT) (key : List UInt8) (x : VT) : VT := putT (if t.kind = 6 then t else .mk 6 false [] [] []) key x
/-- .. and dropped. -/
def dropT : VT → List UInt8 → VT
  | .mk k b t its ks, key =>
    if hasK ks key = true ∧ k = 6 then .mk k b t (its.take (posK ks key) ++ its.drop (posK ks key + 1)) (ks.take (posK ks key) ++ ks.drop (posK ks key + 1))
    else .mk k b t its ks
/-- An object of keys and items; the error. -/
def objT : VT → List (List UInt8) → List VT → VT × Int
  | t, k :: ks, x :: xs => if (getT t k).2 = true then (VT.none, 2) else objT (putT t k x) ks xs
  | t, _, _ => (t, 0)
theorem take_posK {ks : List (List UInt8)} {key : List UInt8} : ks.take (posK ks key) = ks.takeWhile (fun s => ltS s key) := by
  induction ks with
  | nil => rfl
  | cons a r ih =>
    unfold posK at ih ⊢
    rw [List.takeWhile_cons]
    split
    · simp [ih]
    · rfl
theorem rising_append {a b : List (List UInt8)} : rising (a ++ b) = true ↔ rising a = true ∧ rising b = true ∧ ∀ x ∈ a, ∀ y ∈ b, ltS x y = true := by
  induction a with
  | nil => simp [rising]
  | cons x r ih =>
    rw [List.cons_append, rising_cons, rising_cons, ih]
    constructor
    · rintro ⟨h1, h2, h3, h4⟩
      refine ⟨⟨fun y hy => h1 y (by simp [hy]), h2⟩, h3, fun y hy z hz => ?_⟩
      rcases List.mem_cons.1 hy with rfl | hy
      · exact h1 z (by simp [hz])
      · exact h4 y hy z hz
    · rintro ⟨⟨h1, h2⟩, h3, h4⟩
      refine ⟨fun y hy => ?_, h2, h3, fun y hy z hz => h4 y (by simp [hy]) z hz⟩
      rcases List.mem_append.1 hy with hy | hy
      · exact h1 y hy
      · exact h4 x (by simp) y hy
/-- What rises rises with one key more. -/
theorem rising_put {ks : List (List UInt8)} (hr : rising ks = true) {key : List UInt8} (hk : hasK ks key = false) : rising (ks.take (posK ks key) ++ key :: ks.drop (posK ks key)) = true := by
  have hr0 := hr
  rw [← List.take_append_drop (posK ks key) ks, rising_append] at hr
  obtain ⟨h1, h2, h3⟩ := hr
  have ha : ∀ x ∈ ks.take (posK ks key), ltS x key = true := fun x hx => by
    rw [take_posK] at hx
    exact List.all_eq_true.1 (List.all_takeWhile (l := ks) (p := fun s => ltS s key)) x hx
  have hb : ∀ x ∈ ks.drop (posK ks key), ltS key x = true := fun x hx => by
    obtain ⟨i, hi, e⟩ := List.getElem_of_mem hx
    rw [List.length_drop] at hi
    rw [List.getElem_drop] at e
    have hp := posK_more hr0 (key := key) (t := posK ks key + i) (by omega)
    rw [show ks.getD (posK ks key + i) key = ks[posK ks key + i] by simp [List.getD, show posK ks key + i < ks.length by omega], e] at hp
    cases hc : ltS key x with
    | true => rfl
    | false =>
      have he := ltS_tri hp hc
      have hm : key ∈ ks := by rw [← he]; exact List.mem_of_mem_drop hx
      rw [(hasK_mem hr0).2 hm] at hk
      cases hk
  rw [rising_append, rising_cons]
  refine ⟨h1, ⟨hb, h2⟩, fun x hx y hy => ?_⟩
  rcases List.mem_cons.1 hy with rfl | hy
  · exact ha x hx
  · exact ltS_trans (ha x hx) (hb y hy)

end Go.Proofs.YtgbalofdfdafmaaDoor
