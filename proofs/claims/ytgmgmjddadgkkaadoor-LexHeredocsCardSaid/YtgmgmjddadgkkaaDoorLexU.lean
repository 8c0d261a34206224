/- Plain: the scan goes piece by piece; ASCII texts; LexLimits. -/
import Derived.Test.YtgmgmjddadgkkaaDoorLexS
import Derived.Test.YtgmgmjddadgkkaaDoorLexT
import Derived.Laws.RangeString
namespace Go.Proofs.YtgmgmjddadgkkaaDoor
open Go

theorem skip_none {c : UInt8} (h1 : blankB c = false) (h2 : c ≠ 35) (h3 : c ≠ 47) (r : Bs) : skipN (c :: r) = (0, 0) := by
  rw [skipN_cons, if_neg (by rw [h1]; decide), if_neg (by simp [h2, h3]), if_neg (by simp [h3])]
/-- A token ahead. -/
def consT (x : Tok) : Except (Int × Nat) (List Tok) → Except (Int × Nat) (List Tok)
  | .error e => .error e
  | .ok l => .ok (x :: l)
theorem scan_gap {g s : Bs} (h : skipN (g ++ s) = ((skipN s).1 + g.length, (skipN s).2)) (a k : Nat) : scanN (g ++ s) a k = scanN s (a + g.length) k := by
  rw [scanN_eq (g ++ s), scanN_eq s, h]
  simp only
  rw [show (g ++ s).drop ((skipN s).1 + g.length) = s.drop (skipN s).1 by rw [Nat.add_comm, ← List.drop_drop, List.drop_left], show a + ((skipN s).1 + g.length) = a + g.length + (skipN s).1 by omega]
theorem scan_piece {c : UInt8} {p s t : Bs} {kd : Int} (h1 : skipN (c :: (p ++ s)) = (0, 0)) (h2 : oneN c (p ++ s) = ⟨kd, t, p.length + 1, 0⟩) (a k : Nat) (hk : k < 4096) :
    scanN (c :: (p ++ s)) a k = consT (kd, t, a) (scanN s (a + (p.length + 1)) (k + 1)) := by
  rw [scanN_eq, h1]
  simp only [ne_eq, not_true, if_false, List.drop_zero, h2, Nat.add_zero]
  rw [if_neg (by omega), List.drop_succ_cons, List.drop_left]
  cases scanN s (a + (p.length + 1)) (k + 1) <;> rfl
theorem scan_blank {c : UInt8} (h : blankB c = true) (s : Bs) (a k : Nat) : scanN (c :: s) a k = scanN s (a + 1) k :=
  scan_gap (g := [c]) (s := s) (by rw [List.singleton_append, skipN_cons, if_pos h]; rfl) a k
theorem scan_nil (a k : Nat) : scanN [] a k = .ok [(0, [], a)] := rfl

/-- Texts of ASCII alone. -/
def asciiB (l : Bs) : Bool := l.all (fun c => decide (c < 128))
theorem badF_ascii (l : Bs) (h : asciiB l = true) : ∀ (f pos : Nat), badF l ⟨l.toArray⟩ f pos = none
  | 0, _ => rfl
  | f + 1, pos => by
    rw [badF]
    split
    · next hp =>
      have hp' : pos < l.length := by
        have h' : pos < l.toArray.size := hp
        simpa using h'
      have hc : ((ByteArray.mk l.toArray)[pos]'hp).toNat < 128 := by
        have : (ByteArray.mk l.toArray)[pos]'hp = l[pos] := by
          show l.toArray[pos] = _
          simp
        rw [this]
        have := List.all_eq_true.1 h l[pos] (List.getElem_mem _)
        simpa [UInt8.lt_iff_toNat_lt] using this
      rw [decode_ascii _ pos hp hc]
      rw [if_neg (by simp only; omega)]
      exact badF_ascii l h f _
    · rfl
theorem scanP_ascii {l : Bs} (h : asciiB l = true) (hl : l.length ≤ 16384) : scanP l = scanN l 0 0 := by
  unfold scanP
  rw [if_neg (by omega), badF_ascii l h]
  rfl

/-- The error alone. -/
def errOf : Except (Int × Nat) (List Tok) → Option (Int × Nat)
  | .error x => some x
  | .ok _ => none
theorem errOf_cons (x : Tok) (r : Except (Int × Nat) (List Tok)) : errOf (consT x r) = errOf r := by cases r <;> rfl

/-- m signs, each with a blank behind it. -/
def plusN : Nat → Bs
  | 0 => []
  | m + 1 => 43 :: 32 :: plusN m
theorem plusN_len : ∀ m, (plusN m).length = 2 * m
  | 0 => rfl
  | m + 1 => by rw [plusN, List.length_cons, List.length_cons, plusN_len m]; omega
theorem plusN_get : ∀ (m i : Nat), i < 2 * m → (plusN m)[i]? = some (if i % 2 = 0 then 43 else 32)
  | 0, i, h => by omega
  | m + 1, 0, _ => rfl
  | m + 1, 1, _ => rfl
  | m + 1, i + 2, h => by
    rw [plusN, List.getElem?_cons_succ, List.getElem?_cons_succ, plusN_get m i (by omega), Nat.add_mod_right]
theorem one_plus (s : Bs) : oneN 43 s = ⟨4, [43], 1, 0⟩ := by
  have h : signN 43 s = [43] := by
    cases s with
    | nil => rfl
    | cons e r => rfl
  unfold oneN
  rw [if_neg (by decide), if_neg (by decide), if_neg (by decide), if_neg (by decide), if_neg (by simp), h]
  rfl
theorem scan_plus (s : Bs) : ∀ (m a k : Nat), k + m ≤ 4096 → errOf (scanN (plusN m ++ s) a k) = errOf (scanN s (a + 2 * m) (k + m))
  | 0, a, k, _ => rfl
  | m + 1, a, k, h => by
    show errOf (scanN (43 :: ([] ++ (32 :: (plusN m ++ s)))) a k) = _
    rw [scan_piece (skip_none rfl (by decide) (by decide) _) (one_plus _) a k (by omega), errOf_cons, scan_blank rfl, scan_plus s m _ _ (by omega)]
    congr 2 <;> first | omega | (simp only [List.length_nil]; omega)
theorem scan_blanks (s : Bs) : ∀ (m a k : Nat), scanN (List.replicate m 32 ++ s) a k = scanN s (a + m) k
  | 0, a, k => rfl
  | m + 1, a, k => by
    rw [List.replicate_succ, List.cons_append, scan_blank rfl, scan_blanks s m]
    congr 1
    omega
theorem one_comma : oneN 44 [] = ⟨4, [44], 1, 0⟩ := rfl
theorem scan_comma (a k : Nat) : errOf (scanN [44] a k) = if k = 4096 then some (3, a) else none := by
  rw [scanN_eq, show skipN [44] = (0, 0) from rfl]
  simp only [ne_eq, not_true, if_false, List.drop_zero, one_comma, Nat.add_zero]
  by_cases h : k = 4096
  · rw [if_pos h, if_pos h]; rfl
  · rw [if_neg h, if_neg h]; rfl

/-- The text of LexLimits' tokens. -/
def limT : Bs := (List.range 16384).map fun i => if i < 8192 ∧ i % 2 = 0 then 43 else 32
theorem limT_len : limT.length = 16384 := by unfold limT; rw [List.length_map, List.length_range]
theorem limT_get (i : Nat) (h : i < 16384) : limT[i]? = some (if i < 8192 ∧ i % 2 = 0 then 43 else 32) := by
  unfold limT
  rw [List.getElem?_map, List.getElem?_range h]
  rfl
theorem limT_eq : limT = plusN 4096 ++ (List.replicate 8192 32 ++ []) := by
  apply List.ext_getElem?
  intro i
  by_cases h : i < 16384
  · rw [limT_get i h]
    by_cases h2 : i < 8192
    · rw [List.getElem?_append_left (by rw [plusN_len]; omega), plusN_get _ _ (by omega)]
      simp [h2]
    · have q : ¬ (i < 8192 ∧ i % 2 = 0) := fun h => h2 h.1
      rw [if_neg q, List.getElem?_append_right (by rw [plusN_len]; omega), plusN_len, List.append_nil, List.getElem?_replicate, if_pos (by omega)]
  · rw [List.getElem?_eq_none (by rw [limT_len]; omega), List.getElem?_eq_none (by rw [List.length_append, plusN_len, List.append_nil, List.length_replicate]; omega)]
theorem limT2_eq : limT.set 16383 44 = plusN 4096 ++ (List.replicate 8191 32 ++ [44]) := by
  apply List.ext_getElem?
  intro i
  rw [List.getElem?_set, limT_len]
  by_cases h0 : i = 16383
  · subst h0
    rw [if_pos rfl, if_pos (by omega), List.getElem?_append_right (by rw [plusN_len]; omega), plusN_len, List.getElem?_append_right (by rw [List.length_replicate]; omega), List.length_replicate]
    rfl
  rw [if_neg (by omega)]
  by_cases h : i < 16384
  · rw [limT_get i h]
    by_cases h2 : i < 8192
    · rw [List.getElem?_append_left (by rw [plusN_len]; omega), plusN_get _ _ (by omega)]
      simp [h2]
    · have q : ¬ (i < 8192 ∧ i % 2 = 0) := fun h => h2 h.1
      rw [if_neg q, List.getElem?_append_right (by rw [plusN_len]; omega), plusN_len, List.getElem?_append_left (by rw [List.length_replicate]; omega), List.getElem?_replicate, if_pos (by omega)]
  · rw [List.getElem?_eq_none (by rw [limT_len]; omega), List.getElem?_eq_none (by rw [List.length_append, plusN_len, List.length_append, List.length_replicate]; simp only [List.length_cons, List.length_nil]; omega)]
theorem limT3_eq (n : Nat) (hn : n < 40) : (limT.set 16383 44).set (2 * n) 32 = plusN n ++ ([32, 32] ++ (plusN (4095 - n) ++ (List.replicate 8191 32 ++ [44]))) := by
  rw [limT2_eq]
  have e : plusN 4096 = plusN n ++ (43 :: 32 :: plusN (4095 - n)) := by
    have : ∀ a b : Nat, plusN (a + (b + 1)) = plusN a ++ (43 :: 32 :: plusN b) := by
      intro a b
      induction a with
      | zero => rw [Nat.zero_add]; rfl
      | succ a ih => rw [show a + 1 + (b + 1) = (a + (b + 1)) + 1 by omega, plusN, ih]; rfl
    rw [← this, show n + (4095 - n + 1) = 4096 by omega]
  rw [e, List.append_assoc, List.set_append_right _ _ (by rw [plusN_len]; omega), plusN_len, Nat.sub_self]
  rfl
theorem lim_a : errOf (scanP limT) = none := by
  have ha : asciiB limT = true := by
    unfold asciiB limT
    rw [List.all_map, List.all_eq_true]
    intro i _
    simp only [Function.comp]
    split <;> rfl
  rw [scanP_ascii ha (by rw [limT_len]; omega), limT_eq, scan_plus _ _ _ _ (by omega), scan_blanks, scan_nil]
  rfl
theorem ascii_app {a b : Bs} : asciiB (a ++ b) = (asciiB a && asciiB b) := by unfold asciiB; rw [List.all_append]
theorem ascii_plus : ∀ m, asciiB (plusN m) = true
  | 0 => rfl
  | m + 1 => by
    have := ascii_plus m
    unfold asciiB at this ⊢
    rw [plusN, List.all_cons, List.all_cons, this]
    rfl
theorem ascii_rep (m : Nat) : asciiB (List.replicate m 32) = true := by
  unfold asciiB
  rw [List.all_eq_true]
  intro x hx
  rw [List.eq_of_mem_replicate hx]
  rfl
theorem lim_b : errOf (scanP (limT.set 16383 44)) = some (3, 16383) := by
  have ha : asciiB (limT.set 16383 44) = true := by
    rw [limT2_eq, ascii_app, ascii_app, ascii_plus, ascii_rep]
    rfl
  rw [scanP_ascii ha (by rw [List.length_set, limT_len]; omega), limT2_eq, scan_plus _ _ _ _ (by omega), scan_blanks, scan_comma]
  rfl
theorem lim_c (n : Nat) (hn : n < 40) : errOf (scanP ((limT.set 16383 44).set (2 * n) 32)) = none := by
  have ha : asciiB ((limT.set 16383 44).set (2 * n) 32) = true := by
    rw [limT3_eq n hn, ascii_app, ascii_app, ascii_app, ascii_app, ascii_plus, ascii_plus, ascii_rep]
    rfl
  rw [scanP_ascii ha (by rw [List.length_set, List.length_set, limT_len]; omega), limT3_eq n hn, scan_plus _ _ _ _ (by omega)]
  show errOf (scanN (32 :: 32 :: (plusN (4095 - n) ++ (List.replicate 8191 32 ++ [44]))) _ _) = none
  rw [scan_blank rfl, scan_blank rfl, scan_plus _ _ _ _ (by omega), scan_blanks, scan_comma, if_neg (by omega)]
theorem lim_d (l : Bs) (h : l.length = 16384) : errOf (scanP (l ++ [32])) = some (3, 0) := by
  unfold scanP
  rw [if_pos (by rw [List.length_append, h]; decide)]
  rfl
/-- A text of n braces in one another. -/
def braceT (n : Nat) : Bs := 34 :: ((if n = 0 then [] else 36 :: List.replicate n 123) ++ List.replicate n 125 ++ [34])
theorem lim_e : ∀ n, n < 40 → errOf (scanP (braceT n)) = if n ≤ 24 then none else some (7, 0) := by
  have h : (List.range 40).all (fun n => errOf (scanP (braceT n)) == if n ≤ 24 then none else some (7, 0)) = true := by kernel_rfl
  intro n hn
  have := List.all_eq_true.1 h n (List.mem_range.2 hn)
  simpa using this
/-- A name of 32 bytes; 100 nines. -/
def nameT : Bs := [97, 98, 99, 100, 101, 102, 103, 104, 105, 106, 107, 108, 109, 110, 111, 112, 113, 114, 115, 116, 117, 118, 119, 120, 121, 122, 97, 98, 99, 100, 101, 102]
def ninesT : Bs := List.replicate 100 57
theorem lim_f : errOf (scanP (nameT ++ [32] ++ ninesT)) = none := by kernel_rfl
theorem lim_g : errOf (scanP (nameT ++ [103])) = some (3, 0) := by kernel_rfl
theorem lim_h : errOf (scanP ([49, 32] ++ (ninesT ++ [57]))) = some (3, 2) := by kernel_rfl

end Go.Proofs.YtgmgmjddadgkkaaDoor
