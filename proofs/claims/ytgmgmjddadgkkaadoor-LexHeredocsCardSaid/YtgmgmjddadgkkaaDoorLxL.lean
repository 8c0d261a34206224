/- Plain: a line's end, cut off; and a name's bytes in a heredoc. -/
import Derived.Test.YtgmgmjddadgkkaaDoorLxK
import Derived.Lib.OthersKept
namespace Go.Proofs.YtgmgmjddadgkkaaDoor
open Go.RowKit
set_option maxRecDepth 100000

theorem idx10 : ∀ t : Bs, Lib.index t [10] = if (t.takeWhile (· != 10)).length = t.length then -1 else ((t.takeWhile (· != 10)).length : Int)
  | [] => rfl
  | c :: r => by
    rw [Lib.index, idx10 r]
    by_cases hc : c = 10
    · subst hc
      simp [List.isPrefixOf]
    · have h1 : ([10] : Bs).isPrefixOf (c :: r) = false := by simp [List.isPrefixOf, Ne.symm hc]
      have h2 : (c != 10) = true := by simpa using hc
      rw [h1, List.takeWhile_cons, h2]
      simp only [Bool.false_eq_true, if_false, if_true, List.length_cons, Nat.add_right_cancel_iff]
      by_cases he : (r.takeWhile (· != 10)).length = r.length
      · rw [if_pos he, if_pos he]; rfl
      · rw [if_neg he, if_neg he]
        have : (((r.takeWhile (· != 10)).length : Int) == -1) = false := by simp
        rw [this]
        simp
theorem take_tw : ∀ t : Bs, t.take (t.takeWhile (· != 10)).length = t.takeWhile (· != 10)
  | [] => rfl
  | c :: r => by
    rw [List.takeWhile_cons]
    by_cases hc : (c != 10) = true
    · rw [if_pos hc, List.length_cons, List.take_succ_cons, take_tw r]
    · rw [if_neg hc]; rfl
theorem tw_all {t : Bs} (h : (t.takeWhile (· != 10)).length = t.length) : t.takeWhile (· != 10) = t := by
  rw [← take_tw t, h, List.take_length]
/-- strings.Cut at a line's end: the line, and whether there was an end. -/
theorem cut10 (t : Bs) : (Lib.cut t [10]).1 = t.takeWhile (· != 10) ∧ (Lib.cut t [10]).2.2 = !decide ((t.takeWhile (· != 10)).length = t.length) := by
  unfold Lib.cut
  rw [idx10]
  by_cases h : (t.takeWhile (· != 10)).length = t.length
  · rw [if_pos h]
    simp only [show ¬ (0 : Int) ≤ -1 by decide, if_false]
    exact ⟨(tw_all h).symm, by simp [h]⟩
  · rw [if_neg h]
    simp only [show (0 : Int) ≤ ((t.takeWhile (· != 10)).length : Int) by omega, if_true]
    exact ⟨by rw [Int.toNat_natCast, take_tw], by simp [h]⟩
theorem name_closH (c : UInt8) (w : World) : Calls Tryd.prog 32 #[.int .u8 c.toNat] w fun e w' => e = .returned (.bool (namB c)) ∧ w' = w := by
  have L := letter_any c w
  have D := digit_any c w
  have hn : namB c = (letB c || (digB c || ((c.toNat : Int) == 45))) := by unfold namB; rw [← u8_eq]; rfl
  rw [hn]
  clear hn
  generalize letB c = a at L ⊢
  generalize digB c = b at D ⊢
  generalize (c.toNat : Int) = x at L D ⊢
  go_enter Tryd.func32, Tryd.ntmps32
  go_wp2_with fail
  refine L.mono ?_
  rintro e w1 ⟨rfl, hw1⟩
  rw [hw1]
  clear hw1 w1 L
  cases a with
  | true =>
    go_wp2
    go_ret
    exact ⟨rfl, rfl⟩
  | false =>
    go_wp2_with fail
    refine D.mono ?_
    rintro e w1 ⟨rfl, hw1⟩
    rw [hw1]
    clear hw1 w1 D
    cases b with
    | true =>
      go_wp2
      go_ret
      exact ⟨rfl, rfl⟩
    | false =>
      go_wp2
      go_ret
      exact ⟨rfl, rfl⟩
theorem run_nameH (s : Bs) (hl : s.length ≤ 9223372036854775807) (w : World) : Calls Tryd.prog 18 #[str s, .func (.func 32) #[] #[]] w fun e w' => e = .returned (.int .i64 (runN namB s : Nat)) ∧ w' = w :=
  run_of namB _ (enters_of Tryd.func32 (by kernel_rfl) rfl) s hl name_closH w

theorem below_drawnL {B : Nat} {w w' : World} (h : Below B w w') (n : Nat) : Below B w (w'.drewN n) := by
  induction n with
  | zero => exact h
  | succ n ih => exact ih.drew
/-- What heredoc answers. -/
def hereV : Option (Bs × Nat) → Array Value
  | none => #[str [], .int .i64 0, .int .i64 40]
  | some x => #[str x.1, .int .i64 x.2, .int .i64 0]
/-- One round of the lines. -/
theorem hdF_cons (name : Bs) (f : Nat) (s : Bs) : hdF name (f + 1) s =
    if ((s.takeWhile (· != 10)).dropWhile (fun c => c == 32 || c == 9)) = name then some ([], (s.takeWhile (· != 10)).length)
    else if (s.takeWhile (· != 10)).length = s.length then none
    else match hdF name f (s.drop ((s.takeWhile (· != 10)).length + 1)) with
      | none => none
      | some x => some (escL (s.takeWhile (· != 10)) ++ [92, 110] ++ x.1, x.2 + ((s.takeWhile (· != 10)).length + 1)) := rfl
theorem escF_cons (s : ByteArray) (f pos : Nat) (h : pos < s.size) : escF s (f + 1) pos = escR (Utf8.decode s pos).1 ++ escF s f (pos + (Utf8.decode s pos).2) := by
  rw [escF, if_pos h]
theorem escF_end (s : ByteArray) (f pos : Nat) (h : ¬ pos < s.size) : escF s f pos = [] := by
  cases f with
  | zero => rfl
  | succ f => simp [escF, h]
theorem width_pos (s : ByteArray) (pos : Nat) (h : pos < s.size) : 1 ≤ (Utf8.decode s pos).2 := by
  by_cases ha : (s[pos]'h).toNat < 128
  · rw [decode_ascii s pos h ha]
    exact Nat.le_refl _
  · exact (decode_high s pos h (by omega)).2
/-- What holds in the midst of a line: the builder in block B, the iterator in block K. -/
def InR (B K : Nat) (wA : World) (S : ByteArray) (tot : Bs) (A : Nat) (wr : World) : Prop :=
  ∃ (pos fuel : Nat) (acc2 : Bs), Bld B B acc2 wr ∧ wr.heap[K]? = some (.stringIter S pos) ∧ Below B wA wr ∧ Hid (acc2 ++ escF S fuel pos = tot) ∧ S.size ≤ pos + fuel ∧ acc2.length + 5 * fuel ≤ A
theorem escR_len (r : Nat) : (escR r).length ≤ 5 := by
  have h := Lib.runeCells_le (r : Int)
  rw [Lib.runeCells_length] at h
  unfold escR
  split
  · simp only [List.length_cons]; omega
  split
  · simp
  split
  · simp
  · omega
theorem InR.next {B K : Nat} {wA : World} {S : ByteArray} {tot : Bs} {A pos fuel : Nat} {acc2 : Bs} {wr W3 W4 : World} (hKb : K ≠ B)
    (hit : wr.heap[K]? = some (.stringIter S pos)) (hit2 : W3.heap[K]? = some (.stringIter S (pos + (Utf8.decode S pos).2))) (hbw : Below B wA W3) (ha : acc2 ++ escF S (fuel + 1) pos = tot) (hp : pos < S.size) (hfu : S.size ≤ pos + (fuel + 1)) (hal : acc2.length + 5 * (fuel + 1) ≤ A)
    (h : Bld B B (acc2 ++ escR (Utf8.decode S pos).1) W4) (k : Oth B W3 W4) (b : Below B W3 W4) : InR B K wA S tot A W4 ∧ S.size - W4.iterPos K < S.size - wr.iterPos K := by
  have hw := width_pos S pos hp
  have hl := escR_len (Utf8.decode S pos).1
  have hi4 := k.iter hit2 hKb
  refine ⟨⟨pos + (Utf8.decode S pos).2, fuel, _, h, hi4, hbw.trans b, ?_, by omega, by rw [List.length_append]; omega⟩, ?_⟩
  · show _ = tot
    rw [← ha, escF_cons _ _ _ hp, List.append_assoc]
  · simp only [World.iterPos, hi4, hit]
    omega

end Go.Proofs.YtgmgmjddadgkkaaDoor
