/- Plain: the keys of an object: where they stand; what putting, getting and dropping make. No program in sight. Plain: ints in decimal, and reading them back: what Atoi answers of a good number. No program in sight. -/
import Derived.Test.YtpbipngnoklmcaaGreatDoorMNumP
import Derived.Lib.AtoiAll
import Derived.Lib.AtoiAllCases
namespace Go.Proofs.YtpbipngnoklmcaaGreatDoor
set_option maxRecDepth 100000

theorem ltS_irr : ∀ a, ltS a a = false
  | [] => rfl
  | x :: r => by simp [ltS, ltS_irr r]
theorem ltS_cons {x y : UInt8} {r s : List UInt8} : ltS (x :: r) (y :: s) = true ↔ x < y ∨ (x = y ∧ ltS r s = true) := by
  rw [ltS]
  by_cases h : x = y
  · subst h
    rw [if_pos rfl]
    constructor
    · exact fun h => .inr ⟨rfl, h⟩
    · rintro (h | h)
      · exact absurd h (UInt8.lt_irrefl x)
      · exact h.2
  · rw [if_neg h]
    constructor
    · exact fun h => .inl (by simpa using h)
    · rintro (h1 | h1)
      · simpa using h1
      · exact absurd h1.1 h
theorem ltS_trans : ∀ {a b c : List UInt8}, ltS a b = true → ltS b c = true → ltS a c = true
  | [], [], _, h, _ => by simp [ltS] at h
  | _ :: _, [], _, h, _ => by simp [ltS] at h
  | [], y :: s, [], _, k => by simp [ltS] at k
  | [], y :: s, z :: t, _, _ => rfl
  | x :: r, y :: s, [], _, k => by simp [ltS] at k
  | x :: r, y :: s, z :: t, h, k => by
    rw [ltS_cons] at h k ⊢
    rcases h with h | ⟨rfl, h⟩ <;> rcases k with k | ⟨rfl, k⟩
    · left; exact UInt8.lt_trans h k
    · left; exact h
    · left; exact k
    · right; exact ⟨rfl, ltS_trans h k⟩
theorem ltS_tri : ∀ {a b : List UInt8}, ltS a b = false → ltS b a = false → a = b
  | [], [], _, _ => rfl
  | [], y :: s, h, _ => by simp [ltS] at h
  | x :: r, [], _, k => by simp [ltS] at k
  | x :: r, y :: s, h, k => by
    have h' : ¬ (x < y ∨ (x = y ∧ ltS r s = true)) := fun hh => by rw [ltS_cons.2 hh] at h; cases h
    have k' : ¬ (y < x ∨ (y = x ∧ ltS s r = true)) := fun hh => by rw [ltS_cons.2 hh] at k; cases k
    have e : x = y := UInt8.le_antisymm (UInt8.not_lt.1 fun hh => k' (.inl hh)) (UInt8.not_lt.1 fun hh => h' (.inl hh))
    subst e
    have h2 : ltS r s = false := by
      cases hh : ltS r s with
      | false => rfl
      | true => exact absurd (.inr ⟨rfl, hh⟩) h'
    have k2 : ltS s r = false := by
      cases hh : ltS s r with
      | false => rfl
      | true => exact absurd (.inr ⟨rfl, hh⟩) k'
    rw [ltS_tri h2 k2]
theorem ltS_asymm {a b : List UInt8} (h : ltS a b = true) : ltS b a = false := by
  cases k : ltS b a with
  | false => rfl
  | true => have := ltS_trans h k; rw [ltS_irr] at this; cases this

/-- Where a key stands, or would stand, in texts that rise. -/
def posK (ks : List (List UInt8)) (key : List UInt8) : Nat := (ks.takeWhile (fun s => ltS s key)).length
def hasK (ks : List (List UInt8)) (key : List UInt8) : Bool := ks[posK ks key]? == some key
theorem posK_le (ks : List (List UInt8)) (key : List UInt8) : posK ks key ≤ ks.length := (List.takeWhile_sublist _).length_le
theorem rising_cons {a : List UInt8} {l : List (List UInt8)} : rising (a :: l) = true ↔ (∀ x ∈ l, ltS a x = true) ∧ rising l = true := by
  induction l generalizing a with
  | nil => simp [rising]
  | cons b r ih =>
    rw [rising, Bool.and_eq_true]
    constructor
    · rintro ⟨h, k⟩
      refine ⟨fun x hx => ?_, k⟩
      rcases List.mem_cons.1 hx with rfl | hx
      · exact h
      · exact ltS_trans h ((ih.1 k).1 x hx)
    · rintro ⟨h, k⟩
      exact ⟨h b (by simp), k⟩
theorem posK_less {ks : List (List UInt8)} {key : List UInt8} {t : Nat} (h : t < posK ks key) : ltS (ks.getD t key) key = true := by
  induction ks generalizing t with
  | nil => simp [posK] at h
  | cons a r ih =>
    unfold posK at h
    rw [List.takeWhile_cons] at h
    split at h
    · next hc =>
      cases t with
      | zero => simpa using hc
      | succ t => simpa using ih (t := t) (by simpa [posK] using h)
    · simp at h
theorem posK_more {ks : List (List UInt8)} (hr : rising ks = true) {key : List UInt8} {t : Nat} (h : posK ks key ≤ t) : ltS (ks.getD t key) key = false := by
  induction ks generalizing t with
  | nil => simp [ltS_irr]
  | cons a r ih =>
    unfold posK at h
    rw [List.takeWhile_cons] at h
    rw [rising_cons] at hr
    split at h
    · next hc =>
      cases t with
      | zero => simp at h
      | succ t => simpa using ih hr.2 (t := t) (by simpa [posK] using h)
    · next hc =>
      have hc' : ltS a key = false := by simpa using hc
      cases t with
      | zero => simpa using hc'
      | succ t =>
        rw [List.getD_cons_succ]
        by_cases ht : t < r.length
        · have := hr.1 r[t] (List.getElem_mem ht)
          rw [show r.getD t key = r[t] by simp [List.getD, ht]]
          cases k : ltS r[t] key with
          | false => rfl
          | true => rw [ltS_trans this k] at hc'; cases hc'
        · rw [show r.getD t key = key by simp [List.getD, Nat.le_of_not_lt ht]]
          exact ltS_irr key
theorem hasK_iff {ks : List (List UInt8)} {key : List UInt8} : hasK ks key = true ↔ posK ks key < ks.length ∧ ks.getD (posK ks key) key = key := by
  unfold hasK
  rw [beq_iff_eq]
  constructor
  · intro h
    have hl := (List.getElem?_eq_some_iff.1 h).1
    exact ⟨hl, by simp [List.getD, h]⟩
  · rintro ⟨h, k⟩
    rw [List.getElem?_eq_getElem h]
    simpa [List.getD, h] using k
/-- A key that is there stands where it would stand. -/
theorem hasK_mem {ks : List (List UInt8)} (hr : rising ks = true) {key : List UInt8} : hasK ks key = true ↔ key ∈ ks := by
  constructor
  · intro h
    have h := hasK_iff.1 h
    have hm := List.getElem_mem h.1
    have e : ks[posK ks key] = key := by simpa [List.getD, h.1] using h.2
    rw [e] at hm
    exact hm
  · intro h
    obtain ⟨i, hi, e⟩ := List.getElem_of_mem h
    have e2 : ks.getD i key = key := by simp [List.getD, hi, e]
    have hge : posK ks key ≤ i := by
      by_cases hlt : i < posK ks key
      · have := posK_less hlt
        rw [e2, ltS_irr] at this
        cases this
      · omega
    rw [hasK_iff]
    refine ⟨by omega, ?_⟩
    have hp := posK_more hr (Nat.le_refl (posK ks key))
    have hlt : posK ks key < ks.length := by omega
    rw [show ks.getD (posK ks key) key = ks[posK ks key] by simp [List.getD, hlt]] at hp ⊢
    by_cases hee : posK ks key = i
    · subst hee; exact e
    · have hl2 : ltS ks[posK ks key] ks[i] = true := by
        have hs : ∀ (l : List (List UInt8)), rising l = true → ∀ a b (ha : a < b) (hb : b < l.length), ltS (l[a]'(by omega)) l[b] = true := by
          intro l
          induction l with
          | nil => intro _ a b _ hb; cases hb
          | cons x r ih =>
            intro hr a b ha hb
            rw [rising_cons] at hr
            cases b with
            | zero => omega
            | succ b =>
              cases a with
              | zero => exact hr.1 _ (List.getElem_mem (by simpa using hb))
              | succ a => exact ih hr.2 a b (by omega) (by simpa using hb)
        exact hs ks hr _ _ (by omega) hi
      rw [e] at hl2
      rw [hl2] at hp
      cases hp

/-- The item of a key. -/
def getT (t : VT) (key : List UInt8) : VT × Bool := if hasK t.keys key = true ∧ t.kind = 6 then (t.items.getD (posK t.keys key) VT.none, true) else (VT.none, false)
/-- A key put into an object. -/
def putT : VT → List UInt8 → VT → VT
  | .mk k b t its ks, key, x =>
    if hasK ks key = true then .mk k b t (its.set (posK ks key) x) ks
    else .mk k b t (its.take (posK ks key) ++ x :: its.drop (posK ks key)) (ks.take (posK ks key) ++ key :: ks.drop (posK ks key))
def putO (t : VT) (key : List UInt8) (x : VT) : VT := putT (if t.kind = 6 then t else .mk 6 false [] [] []) key x
/-- .. and dropped. -/
def dropT : VT → List UInt8 → VT
  | .mk k b t its ks, key =>
    if hasK ks key = true ∧ k = 6 then .mk k b t (its.take (posK ks key) ++ its.drop (posK ks key + 1)) (ks.take (posK ks key) ++ ks.drop (posK ks key + 1))
    else .mk k b t its ks
/-- An object of keys and items; the error. -/
def objT : VT → List (List UInt8) → List VT → VT × Int
  | t, k :: ks, x :: xs => if (getT t k).2 = true then (VT.none, 2) else objT (putT t k x) ks xs
  | t, _, _ => (t, 0)
theorem take_posK {ks : List (List UInt8)} {key : List UInt8} : ks.take (posK ks key) = ks.takeWhile (fun s => ltS s key) := by
  induction ks with
  | nil => rfl
  | cons a r ih =>
    unfold posK at ih ⊢
    rw [List.takeWhile_cons]
    split
    · simp [ih]
    · rfl
theorem rising_append {a b : List (List UInt8)} : rising (a ++ b) = true ↔ rising a = true ∧ rising b = true ∧ ∀ x ∈ a, ∀ y ∈ b, ltS x y = true := by
  induction a with
  | nil => simp [rising]
  | cons x r ih =>
    rw [List.cons_append, rising_cons, rising_cons, ih]
    constructor
    · rintro ⟨h1, h2, h3, h4⟩
      refine ⟨⟨fun y hy => h1 y (by simp [hy]), h2⟩, h3, fun y hy z hz => ?_⟩
      rcases List.mem_cons.1 hy with rfl | hy
      · exact h1 z (by simp [hz])
      · exact h4 y hy z hz
    · rintro ⟨⟨h1, h2⟩, h3, h4⟩
      refine ⟨fun y hy => ?_, h2, h3, fun y hy z hz => h4 y (by simp [hy]) z hz⟩
      rcases List.mem_append.1 hy with hy | hy
      · exact h1 y hy
      · exact h4 x (by simp) y hy
/-- What rises rises with one key more. -/
theorem rising_put {ks : List (List UInt8)} (hr : rising ks = true) {key : List UInt8} (hk : hasK ks key = false) : rising (ks.take (posK ks key) ++ key :: ks.drop (posK ks key)) = true := by
  have hr0 := hr
  rw [← List.take_append_drop (posK ks key) ks, rising_append] at hr
  obtain ⟨h1, h2, h3⟩ := hr
  have ha : ∀ x ∈ ks.take (posK ks key), ltS x key = true := fun x hx => by
    rw [take_posK] at hx
    exact List.all_eq_true.1 (List.all_takeWhile (l := ks) (p := fun s => ltS s key)) x hx
  have hb : ∀ x ∈ ks.drop (posK ks key), ltS key x = true := fun x hx => by
    obtain ⟨i, hi, e⟩ := List.getElem_of_mem hx
    rw [List.length_drop] at hi
    rw [List.getElem_drop] at e
    have hp := posK_more hr0 (key := key) (t := posK ks key + i) (by omega)
    rw [show ks.getD (posK ks key + i) key = ks[posK ks key + i] by simp [List.getD, show posK ks key + i < ks.length by omega], e] at hp
    cases hc : ltS key x with
    | true => rfl
    | false =>
      have he := ltS_tri hp hc
      have hm : key ∈ ks := by rw [← he]; exact List.mem_of_mem_drop hx
      rw [(hasK_mem hr0).2 hm] at hk
      cases hk
  rw [rising_append, rising_cons]
  refine ⟨h1, ⟨hb, h2⟩, fun x hx y hy => ?_⟩
  rcases List.mem_cons.1 hy with rfl | hy
  · exact ha x hx
  · exact ltS_trans (ha x hx) (hb y hy)

end Go.Proofs.YtpbipngnoklmcaaGreatDoor
namespace Go.Proofs.YtpbipngnoklmcaaGreatDoor
set_option maxRecDepth 100000

/-- What num.Int answers. -/
def intR (a : List UInt8) : Int × Bool := if goodS a = true ∧ -9223372036854775808 ≤ valS a ∧ valS a ≤ 9223372036854775807 then (valS a, true) else (0, false)

theorem parse10 : ∀ (l : List UInt8) (acc : Nat), allD l = true → acc < 18446744073709551616 →
    Lib.parseUint10 acc l = if acc * 10 ^ l.length + valD l < 18446744073709551616 then .ok (acc * 10 ^ l.length + valD l) else .range
  | [], acc, _, h => by
    unfold Lib.parseUint10
    rw [valD_nil, List.length_nil, Nat.pow_zero, Nat.mul_one, Nat.add_zero, if_pos h]
  | c :: r, acc, hd, h => by
    have hd' : isD c = true ∧ allD r = true := by simpa [allD] using hd
    have hc := isD_iff.1 hd'.1
    have e : acc * 10 ^ (c :: r).length + valD (c :: r) = (acc * 10 + dv c) * 10 ^ r.length + valD r := by
      rw [valD_cons, List.length_cons, Nat.pow_succ, Nat.add_mul, Nat.mul_assoc, Nat.mul_comm (10 ^ r.length) 10]
      omega
    have hp : 0 < 10 ^ r.length := Nat.pow_pos (by decide)
    have hle : acc * 10 + dv c ≤ (acc * 10 + dv c) * 10 ^ r.length := Nat.le_mul_of_pos_right _ hp
    rw [e]
    unfold Lib.parseUint10
    rw [if_pos hc]
    by_cases h1 : 1844674407370955162 ≤ acc
    · rw [if_pos h1, if_neg (by omega)]
    · rw [if_neg h1]
      by_cases h2 : 18446744073709551616 ≤ acc * 10 + (c.toNat - 48)
      · rw [if_pos h2, if_neg (by unfold dv at hle ⊢; omega)]
      · rw [if_neg h2]
        exact parse10 r _ hd'.2 (by omega)

theorem parse_mag {l : List UInt8} (hn : l ≠ []) (hd : allD l = true) : Lib.parseMag l = if valD l < 18446744073709551616 then .ok (valD l) else .range := by
  unfold Lib.parseMag
  rw [if_neg hn, parse10 l 0 hd (by decide), Nat.zero_mul, Nat.zero_add]

/-- What Atoi answers of a good number. -/
theorem atoi_good {a : List UInt8} (h : goodS a = true) : Lib.atoiAll a = if -9223372036854775808 ≤ valS a ∧ valS a ≤ 9223372036854775807 then .ok (valS a) else .range := by
  have h' := h
  unfold goodS at h'
  simp only [Bool.and_eq_true, Bool.not_eq_true', List.isEmpty_eq_false_iff] at h'
  obtain ⟨⟨⟨hn, _⟩, _⟩, hd⟩ := h'
  cases a with
  | nil => exact absurd rfl hn
  | cons c r =>
    by_cases hc : c = 45
    · subst hc
      have hs : sizeS (45 :: r) = r := rfl
      have hv : valS (45 :: r) = -(valD r : Int) := rfl
      rw [hs] at hn hd
      rw [hv, Lib.atoiAll_minus, parse_mag hn hd]
      by_cases h1 : valD r < 18446744073709551616
      · rw [if_pos h1]
        show (if 9223372036854775808 < valD r then Lib.NumEnd.range else .ok (-(valD r : Int))) = _
        by_cases h2 : 9223372036854775808 < valD r
        · rw [if_pos h2, if_neg (by omega)]
        · rw [if_neg h2, if_pos (by omega)]
      · rw [if_neg h1, if_neg (by omega)]
        rfl
    · have hs : sizeS (c :: r) = c :: r := by unfold sizeS; rw [if_neg (by simpa using hc)]
      have hv : valS (c :: r) = (valD (c :: r) : Int) := by unfold valS belowS; rw [if_neg (by simpa using hc), hs]
      rw [hs] at hn hd
      have hcd : isD c = true := by
        have := List.all_eq_true.1 hd c (by simp)
        exact this
      rw [isD_iff] at hcd
      rw [hv, Lib.atoiAll_plain c r (by omega) (by omega), parse_mag hn hd]
      by_cases h1 : valD (c :: r) < 18446744073709551616
      · rw [if_pos h1]
        show (if 9223372036854775808 ≤ valD (c :: r) then Lib.NumEnd.range else .ok (valD (c :: r) : Int)) = _
        by_cases h2 : 9223372036854775808 ≤ valD (c :: r)
        · rw [if_pos h2, if_neg (by omega)]
        · rw [if_neg h2, if_pos (by omega)]
      · rw [if_neg h1, if_neg (by omega)]
        rfl

/-- What the digits of a text that is read from the left spell: signs are passed by. -/
def valX (b : Bool) (l : List UInt8) : Int := l.foldl (fun acc c => if c = 45 then acc else 10 * acc + (if b = true then -(dv c : Int) else (dv c : Int))) 0
theorem valX_snoc (b : Bool) (l : List UInt8) (c : UInt8) : valX b (l ++ [c]) = if c = 45 then valX b l else 10 * valX b l + (if b = true then -(dv c : Int) else (dv c : Int)) := by
  unfold valX
  rw [List.foldl_append]
  rfl
theorem valX_digits_from (b : Bool) : ∀ (l : List UInt8) (acc : Nat), allD l = true →
    l.foldl (fun acc c => if c = 45 then acc else 10 * acc + (if b = true then -(dv c : Int) else (dv c : Int))) (if b = true then -(acc : Int) else (acc : Int)) =
      if b = true then -((l.foldl (fun a c => 10 * a + dv c) acc : Nat) : Int) else ((l.foldl (fun a c => 10 * a + dv c) acc : Nat) : Int)
  | [], acc, _ => rfl
  | c :: r, acc, hd => by
    have hd' : isD c = true ∧ allD r = true := by simpa [allD] using hd
    rw [List.foldl_cons, List.foldl_cons, if_neg (isD_ne hd'.1)]
    rw [← valX_digits_from b r _ hd'.2]
    congr 1
    cases b
    · rw [if_neg (by decide), if_neg (by decide), if_neg (by decide)]
      omega
    · rw [if_pos rfl, if_pos rfl, if_pos rfl]
      omega
theorem valX_digits (b : Bool) {l : List UInt8} (hd : allD l = true) : valX b l = if b = true then -(valD l : Int) else (valD l : Int) := by
  have := valX_digits_from b l 0 hd
  unfold valX valD
  rw [← this]
  congr 1
  cases b <;> rfl
/-- .. and a good number's is its value, and each piece ahead of its end spells no more. -/
theorem valX_good {a : List UInt8} (h : goodS a = true) : valX (belowS a) a = valS a := by
  have h' := h
  unfold goodS at h'
  simp only [Bool.and_eq_true] at h'
  have hd := h'.2
  unfold valS
  by_cases hc : a.head? = some 45
  · obtain ⟨r, rfl⟩ : ∃ r, a = 45 :: r := by
      cases a with
      | nil => simp at hc
      | cons c r => exact ⟨r, by simp at hc; rw [hc]⟩
    have hs : sizeS (45 :: r) = r := rfl
    rw [hs] at hd ⊢
    rw [← valX_digits _ hd]
    rfl
  · have hs : sizeS a = a := by unfold sizeS; rw [if_neg hc]
    rw [hs] at hd ⊢
    exact valX_digits _ hd
theorem valX_grows (b : Bool) (l m : List UInt8) (hm : ∀ c ∈ m, c = 45 ∨ isD c = true) : (b = true → valX b (l ++ m) ≤ valX b l ∨ 0 < valX b l) ∧ (b = false → valX b l ≤ valX b (l ++ m) ∨ valX b l < 0) := by
  induction m generalizing l with
  | nil => rw [List.append_nil]; exact ⟨fun _ => Or.inl (Int.le_refl _), fun _ => Or.inl (Int.le_refl _)⟩
  | cons c r ih =>
    have e : l ++ c :: r = (l ++ [c]) ++ r := by simp
    have ih' := ih (l ++ [c]) (fun x hx => hm x (by simp [hx]))
    rw [← e, valX_snoc] at ih'
    rcases hm c (by simp) with h | h
    · rw [if_pos h] at ih'
      exact ih'
    · rw [if_neg (isD_ne h)] at ih'
      constructor
      · intro hb
        have := ih'.1 hb
        rw [if_pos hb] at this
        omega
      · intro hb
        have := ih'.2 hb
        rw [if_neg (by rw [hb]; decide)] at this
        omega
theorem valX_sign (b : Bool) (l : List UInt8) : (b = true → valX b l ≤ 0) ∧ (b = false → 0 ≤ valX b l) := by
  have key : ∀ (l : List UInt8) (acc : Int), (b = true → acc ≤ 0) ∧ (b = false → 0 ≤ acc) →
      (b = true → l.foldl (fun acc c => if c = 45 then acc else 10 * acc + (if b = true then -(dv c : Int) else (dv c : Int))) acc ≤ 0) ∧
      (b = false → 0 ≤ l.foldl (fun acc c => if c = 45 then acc else 10 * acc + (if b = true then -(dv c : Int) else (dv c : Int))) acc) := by
    intro l
    induction l with
    | nil => exact fun _ h => h
    | cons c r ih =>
      intro acc h
      rw [List.foldl_cons]
      refine ih _ ?_
      split
      · exact h
      · constructor
        · intro hb
          have := h.1 hb
          rw [if_pos hb]
          omega
        · intro hb
          have := h.2 hb
          rw [if_neg (by rw [hb]; decide)]
          omega
  exact key l 0 ⟨fun _ => Int.le_refl _, fun _ => Int.le_refl _⟩

/-- What is still to be written of an int, ahead of what has been. -/
def joinD (u : Nat) (s : List UInt8) : List UInt8 := if u = 0 then s else Lib.decDigits u ++ s
theorem joinD_step {u : Nat} (h : u ≠ 0) (s : List UInt8) : joinD (u / 10) (UInt8.ofNat (48 + u % 10) :: s) = joinD u s := by
  unfold joinD
  rw [if_neg h]
  by_cases h1 : u < 10
  · rw [if_pos (by omega), dig_small h1, Nat.mod_eq_of_lt h1]
    rfl
  · rw [if_neg (by omega), dig_step h1]
    simp
theorem joinD_len (u : Nat) (s : List UInt8) : s.length ≤ (joinD u s).length := by
  unfold joinD
  split
  · exact Nat.le_refl _
  · rw [List.length_append]; omega

end Go.Proofs.YtpbipngnoklmcaaGreatDoor
