/- Plain: the lines that LexHeredocs makes. -/
import Derived.Test.YtgmgmjddadgkkaaDoorLexW
namespace Go.Proofs.YtgmgmjddadgkkaaDoor
open Go

def fixB (c : UInt8) : UInt8 := if c = 10 ∨ 128 ≤ c then 46 else c
/-- A line behind j rounds. -/
def mid (M : Bs) (j : Nat) : Bs := (M.take j).map fixB ++ M.drop j
theorem mid_len (M : Bs) (j : Nat) : (mid M j).length = M.length := by
  unfold mid
  rw [List.length_append, List.length_map, List.length_take, List.length_drop]
  omega
theorem mid_get (M : Bs) (j x : Nat) : (mid M j)[x]? = if x < j then M[x]?.map fixB else M[x]? := by
  unfold mid
  by_cases hx : x < j
  · rw [if_pos hx]
    by_cases hl : x < M.length
    · rw [List.getElem?_append_left (by rw [List.length_map, List.length_take]; omega), List.getElem?_map, List.getElem?_take, if_pos hx]
    · rw [List.getElem?_eq_none (by rw [List.length_append, List.length_map, List.length_take, List.length_drop]; omega), List.getElem?_eq_none (by omega)]
      rfl
  · rw [if_neg hx]
    by_cases hl : x < M.length
    · rw [List.getElem?_append_right (by rw [List.length_map, List.length_take]; omega), List.length_map, List.length_take, List.getElem?_drop]
      congr 1
      omega
    · rw [List.getElem?_eq_none (by rw [List.length_append, List.length_map, List.length_take, List.length_drop]; omega), List.getElem?_eq_none (by omega)]
theorem mid_here (M : Bs) (j : Nat) (h : j < M.length) : (mid M j)[j]'(by rw [mid_len]; exact h) = M[j] := by
  have := mid_get M j j
  rw [if_neg (by omega), List.getElem?_eq_getElem h, List.getElem?_eq_getElem (by rw [mid_len]; exact h)] at this
  exact Option.some.inj this
theorem mid_set (M : Bs) (j : Nat) (h : j < M.length) (hc : M[j] = 10 ∨ 128 ≤ M[j]) : (mid M j).set j 46 = mid M (j + 1) := by
  apply List.ext_getElem?
  intro x
  rw [List.getElem?_set, mid_get, mid_get, mid_len]
  by_cases hx : j = x
  · subst hx
    rw [if_pos rfl, if_pos h, if_pos (by omega), List.getElem?_eq_getElem h, Option.map_some]
    unfold fixB
    rw [if_pos hc]
  · rw [if_neg hx]
    by_cases h1 : x < j
    · rw [if_pos h1, if_pos (by omega)]
    · rw [if_neg h1, if_neg (by omega)]
theorem mid_keep (M : Bs) (j : Nat) (h : j < M.length) (hc : ¬ (M[j] = 10 ∨ 128 ≤ M[j])) : mid M j = mid M (j + 1) := by
  apply List.ext_getElem?
  intro x
  rw [mid_get, mid_get]
  by_cases hx : j = x
  · subst hx
    rw [if_neg (by omega), if_pos (by omega), List.getElem?_eq_getElem h, Option.map_some]
    unfold fixB
    rw [if_neg hc]
  · by_cases h1 : x < j
    · rw [if_pos h1, if_pos (by omega)]
    · rw [if_neg h1, if_neg (by omega)]
theorem mid_zero (M : Bs) : mid M 0 = M := rfl
theorem mid_end (M : Bs) : mid M M.length = M.map fixB := by
  unfold mid
  rw [List.take_length, List.drop_length, List.append_nil]
def wantB (b : Bs) : Bool := b == [] || (b.headD 0 == 32 || (b.headD 0 == 9 || b.headD 0 == 69))
/-- The line of a text. -/
def lineT (l : Bs) : Bs := if wantB ((l.take 100).map fixB) = true then 46 :: (l.take 100).map fixB else (l.take 100).map fixB
theorem line_ok (l : Bs) : LineOk (lineT l) := by
  have hf : ∀ c ∈ (l.take 100).map fixB, c ≠ 10 ∧ c < 128 := by
    intro c hc
    obtain ⟨x, _, rfl⟩ := List.mem_map.1 hc
    unfold fixB
    split
    · decide
    · next h =>
      refine ⟨fun e => h (.inl e), ?_⟩
      exact UInt8.not_le.1 fun e => h (.inr e)
  have hl : ((l.take 100).map fixB).length ≤ 100 := by rw [List.length_map, List.length_take]; omega
  unfold lineT
  generalize (l.take 100).map fixB = b at hf hl
  by_cases hw : wantB b = true
  · rw [if_pos hw]
    refine ⟨by rw [List.length_cons]; omega, fun c hc => ?_, 46, b, rfl, by decide, by decide, by decide⟩
    rcases List.mem_cons.1 hc with rfl | hc
    · decide
    · exact hf c hc
  · rw [if_neg hw]
    cases b with
    | nil => exact absurd rfl hw
    | cons c r =>
      unfold wantB at hw
      simp only [List.headD_cons, Bool.or_eq_true, beq_iff_eq, not_or] at hw
      exact ⟨by omega, hf, c, r, rfl, hw.2.1, hw.2.2.1, hw.2.2.2⟩
theorem body_snoc (L : List Bs) (b : Bs) : bodyT (L ++ [b]) = bodyT L ++ (b ++ [10]) := by
  unfold bodyT
  rw [List.flatMap_append]
  simp
theorem quot_snoc (L : List Bs) (b : Bs) : quotT (L ++ [b]) = quotT L ++ (plnT b ++ [92, 110]) := by
  unfold quotT
  rw [List.flatMap_append]
  simp

end Go.Proofs.YtgmgmjddadgkkaaDoor
