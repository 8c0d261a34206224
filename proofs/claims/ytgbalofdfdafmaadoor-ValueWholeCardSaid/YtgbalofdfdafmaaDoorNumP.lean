/- Plain: what the calls on numbers answer, and the laws of whole numbers that the statements ask. No program in sight. -/
import Derived.Test.YtgbalofdfdafmaaDoorDigP
namespace Go.Proofs.YtgbalofdfdafmaaDoor

/-- A number's text, or 'too long' (3). -/
def capR (z : Int) : List UInt8 × Int := if z.natAbs < 10 ^ 100 then (Lib.itoa z, 0) else ([], 3)
def addR (a b : List UInt8) : List UInt8 × Int := if goodS a = true ∧ goodS b = true then capR (valS a + valS b) else ([], 6)
def subR (a b : List UInt8) : List UInt8 × Int := if goodS a = true ∧ goodS b = true then capR (valS a - valS b) else ([], 6)
def mulR (a b : List UInt8) : List UInt8 × Int := if goodS a = true ∧ goodS b = true then capR (valS a * valS b) else ([], 6)
/-- Quotient, rest, error. -/
def divR (a b : List UInt8) : List UInt8 × List UInt8 × Int :=
  if goodS a = true ∧ goodS b = true then (if b = [48] then ([], [], 10) else (Lib.itoa ((valS a).tdiv (valS b)), Lib.itoa ((valS a).tmod (valS b)), 0)) else ([], [], 6)
def sgn (z : Int) : Int := if z < 0 then -1 else if z = 0 then 0 else 1
def cmpR (a b : List UInt8) : Int := if goodS a = true ∧ goodS b = true then sgn (valS a - valS b) else 0

theorem capR_ok {z : Int} (h : z.natAbs < 10 ^ 100) : capR z = (Lib.itoa z, 0) := by unfold capR; rw [if_pos h]
theorem capR_long {z : Int} (h : ¬ z.natAbs < 10 ^ 100) : capR z = ([], 3) := by unfold capR; rw [if_neg h]
theorem good_abs {a : List UInt8} (h : goodS a = true) : (valS a).natAbs < 10 ^ 100 := (itoa_good h).2
theorem good_text {a : List UInt8} (h : goodS a = true) : Lib.itoa (valS a) = a := (itoa_good h).1.symm
theorem itoa_inj {m n : Int} (h : Lib.itoa m = Lib.itoa n) : m = n := by rw [← valS_itoa m, h, valS_itoa]
theorem itoa_zero : Lib.itoa 0 = [48] := by rw [itoa_pos (by decide)]; exact dec_zero
theorem good_zero_iff {a : List UInt8} (h : goodS a = true) : a = [48] ↔ valS a = 0 := by
  constructor
  · rintro rfl; rfl
  · intro e
    rw [← good_text h, e, itoa_zero]
theorem addR_itoa {m n : Int} (hm : m.natAbs < 10 ^ 100) (hn : n.natAbs < 10 ^ 100) : addR (Lib.itoa m) (Lib.itoa n) = capR (m + n) := by
  unfold addR; rw [if_pos ⟨good_itoa hm, good_itoa hn⟩, valS_itoa, valS_itoa]
theorem subR_itoa {m n : Int} (hm : m.natAbs < 10 ^ 100) (hn : n.natAbs < 10 ^ 100) : subR (Lib.itoa m) (Lib.itoa n) = capR (m - n) := by
  unfold subR; rw [if_pos ⟨good_itoa hm, good_itoa hn⟩, valS_itoa, valS_itoa]
theorem mulR_itoa {m n : Int} (hm : m.natAbs < 10 ^ 100) (hn : n.natAbs < 10 ^ 100) : mulR (Lib.itoa m) (Lib.itoa n) = capR (m * n) := by
  unfold mulR; rw [if_pos ⟨good_itoa hm, good_itoa hn⟩, valS_itoa, valS_itoa]
theorem divR_itoa {m n : Int} (hm : m.natAbs < 10 ^ 100) (hn : n.natAbs < 10 ^ 100) (h0 : n ≠ 0) : divR (Lib.itoa m) (Lib.itoa n) = (Lib.itoa (m.tdiv n), Lib.itoa (m.tmod n), 0) := by
  unfold divR
  rw [if_pos ⟨good_itoa hm, good_itoa hn⟩, if_neg, valS_itoa, valS_itoa]
  intro e
  rw [good_zero_iff (good_itoa hn), valS_itoa] at e
  exact h0 e
theorem cmpR_itoa {m n : Int} (hm : m.natAbs < 10 ^ 100) (hn : n.natAbs < 10 ^ 100) : cmpR (Lib.itoa m) (Lib.itoa n) = sgn (m - n) := by
  unfold cmpR; rw [if_pos ⟨good_itoa hm, good_itoa hn⟩, valS_itoa, valS_itoa]
theorem tdiv_abs (m n : Int) : (m.tdiv n).natAbs ≤ m.natAbs := by
  rw [Int.natAbs_tdiv]
  exact Nat.div_le_self _ _
theorem tmod_abs (m n : Int) : (m.tmod n).natAbs ≤ m.natAbs := by
  rw [Int.natAbs_tmod]
  exact Nat.mod_le _ _
theorem tdiv_mul (m n : Int) : m.tdiv n * n + m.tmod n = m := by
  have := Int.mul_tdiv_add_tmod m n
  rw [Int.mul_comm] at this
  exact this
theorem tdiv_mul_abs (m n : Int) : (m.tdiv n * n).natAbs ≤ m.natAbs := by
  rw [Int.natAbs_mul, Int.natAbs_tdiv]
  exact Nat.div_mul_le_self _ _
theorem sgn_neg (z : Int) : sgn (-z) = -sgn z := by
  unfold sgn
  split <;> split <;> (try split) <;> omega
theorem sgn_tmod (m n : Int) : 0 ≤ sgn (m.tmod n - 0) * sgn (m - 0) := by
  rw [Int.sub_zero, Int.sub_zero]
  by_cases h : 0 ≤ m
  · have := Int.tmod_nonneg n h
    unfold sgn
    split <;> split <;> (try split) <;> (try split) <;> first | omega | decide
  · have h2 := Int.tmod_nonneg n (show 0 ≤ -m by omega)
    rw [Int.neg_tmod] at h2
    unfold sgn
    split <;> split <;> (try split) <;> (try split) <;> first | omega | decide

theorem tdiv_signs (m n : Int) : m.tdiv n = if (!(decide (m < 0) == decide (n < 0))) = true then -((m.natAbs / n.natAbs : Nat) : Int) else ((m.natAbs / n.natAbs : Nat) : Int) := by
  rcases Int.lt_or_le m 0 with h1 | h1 <;> rcases Int.lt_or_le n 0 with h2 | h2
  · rw [decide_eq_true h1, decide_eq_true h2, if_neg (by decide)]
    obtain ⟨x, rfl⟩ : ∃ x : Nat, m = -(x : Int) := ⟨m.natAbs, by omega⟩
    obtain ⟨y, rfl⟩ : ∃ y : Nat, n = -(y : Int) := ⟨n.natAbs, by omega⟩
    rw [Int.neg_tdiv, Int.tdiv_neg, Int.neg_neg, ← Int.ofNat_tdiv, Int.natAbs_neg, Int.natAbs_neg, Int.natAbs_natCast, Int.natAbs_natCast]
  · rw [decide_eq_true h1, decide_eq_false (Int.not_lt.2 h2), if_pos (by decide)]
    obtain ⟨x, rfl⟩ : ∃ x : Nat, m = -(x : Int) := ⟨m.natAbs, by omega⟩
    obtain ⟨y, rfl⟩ : ∃ y : Nat, n = (y : Int) := ⟨n.natAbs, by omega⟩
    rw [Int.neg_tdiv, ← Int.ofNat_tdiv, Int.natAbs_neg, Int.natAbs_natCast, Int.natAbs_natCast]
  · rw [decide_eq_false (Int.not_lt.2 h1), decide_eq_true h2, if_pos (by decide)]
    obtain ⟨x, rfl⟩ : ∃ x : Nat, m = (x : Int) := ⟨m.natAbs, by omega⟩
    obtain ⟨y, rfl⟩ : ∃ y : Nat, n = -(y : Int) := ⟨n.natAbs, by omega⟩
    rw [Int.tdiv_neg, ← Int.ofNat_tdiv, Int.natAbs_neg, Int.natAbs_natCast, Int.natAbs_natCast]
  · rw [decide_eq_false (Int.not_lt.2 h1), decide_eq_false (Int.not_lt.2 h2), if_neg (by decide)]
    obtain ⟨x, rfl⟩ : ∃ x : Nat, m = (x : Int) := ⟨m.natAbs, by omega⟩
    obtain ⟨y, rfl⟩ : ∃ y : Nat, n = (y : Int) := ⟨n.natAbs, by omega⟩
    rw [← Int.ofNat_tdiv, Int.natAbs_natCast, Int.natAbs_natCast]
theorem tmod_signs (m n : Int) : m.tmod n = if decide (m < 0) = true then -((m.natAbs % n.natAbs : Nat) : Int) else ((m.natAbs % n.natAbs : Nat) : Int) := by
  have e : ∀ (x : Nat), (x : Int).tmod n = ((x % n.natAbs : Nat) : Int) := fun x => by
    rcases Int.lt_or_le n 0 with h2 | h2
    · obtain ⟨y, rfl⟩ : ∃ y : Nat, n = -(y : Int) := ⟨n.natAbs, by omega⟩
      rw [Int.tmod_neg, ← Int.ofNat_tmod, Int.natAbs_neg, Int.natAbs_natCast]
    · obtain ⟨y, rfl⟩ : ∃ y : Nat, n = (y : Int) := ⟨n.natAbs, by omega⟩
      rw [← Int.ofNat_tmod, Int.natAbs_natCast]
  rcases Int.lt_or_le m 0 with h1 | h1
  · rw [decide_eq_true h1, if_pos rfl]
    obtain ⟨x, rfl⟩ : ∃ x : Nat, m = -(x : Int) := ⟨m.natAbs, by omega⟩
    rw [Int.neg_tmod, e, Int.natAbs_neg, Int.natAbs_natCast]
  · rw [decide_eq_false (Int.not_lt.2 h1), if_neg (by decide)]
    obtain ⟨x, rfl⟩ : ∃ x : Nat, m = (x : Int) := ⟨m.natAbs, by omega⟩
    rw [e, Int.natAbs_natCast]

end Go.Proofs.YtgbalofdfdafmaaDoor
