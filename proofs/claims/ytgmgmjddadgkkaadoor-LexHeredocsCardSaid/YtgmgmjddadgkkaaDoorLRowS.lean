/- A slice of texts that came in reads as a list. No condition. -/
import Derived.Test.YtgmgmjddadgkkaaDoorLRow
import Derived.Test.YtgmgmjddadgkkaaDoorLawHere
namespace Go.Proofs.YtgmgmjddadgkkaaDoor
open Go.ChangeShapes Go.WideShapes Go.ChangeAt Go.RowKit
set_option maxRecDepth 100000

theorem cellsString : Tryd.prog.cellsOf 9 = 1 := by kernel_rfl

section
variable {H : Type} {enc : TypeId × Value → H} {W : World}

theorem addr_plain {a : Addr} {v : Value} (h : W.cell? a = some v) : a = ⟨a.block, a.off, none⟩ := by
  cases a with
  | mk b o s =>
    cases s with
    | none => rfl
    | some s =>
      exfalso
      unfold World.cell? at h
      split at h <;> simp at h
theorem open_strs {b0 : Nat} {v : Value} {d : DataW H} {ps : List MemPlace} (hval : Value.okWide Tryd.prog W .any b0 34 v) (h : DataW.Trod enc Tryd.prog W 0 (fun _ => true) true 34 v d ps) : ∃ ks, StrsAt W v ks := by
  obtain ⟨a0, len0, cap0, rfl⟩ := okWide_slice Tryd.underlying34 hval
  obtain ⟨fuel, h⟩ := h
  rcases Deep.open_slice1 (cs := [.slice a0 len0 cap0]) Tryd.underlying34 cellsString h with ⟨hcs, _⟩ | ⟨a, len, cap, m, _, V, D, Pl, hcs, _, hl, hm, hmm, _, hel⟩
  · have hcs : Value.slice a0 len0 cap0 = .slice none 0 0 := by simpa using hcs
    cases hcs
    exact ⟨[], none, 0, rfl, by simp, by simp, fun h => absurd rfl h⟩
  · have hcs : Value.slice a0 len0 cap0 = .slice (some a) len cap := by simpa using hcs
    cases hcs
    simp only [if_true] at hmm
    subst hmm
    have each : ∀ i, i < m → ∃ s : Bs, W.cell? (a.add i) = some (str s) ∧ s.length ≤ 9223372036854775807 := fun i hi => by
      obtain ⟨h1, h2⟩ := hel i hi
      obtain ⟨s, e, _, hs⟩ := DataW.trod_string Tryd.underlying9 h2
      obtain ⟨⟨s⟩⟩ := s
      have e : V i = .string ⟨⟨s⟩⟩ := by simpa using e
      exact ⟨s, by rw [h1, e], by rw [← str_size]; unfold maxLen at hs; exact hs⟩
    obtain ⟨f, hf⟩ := Deep.choose_lt each
    refine ⟨(List.range len0).map f, some a, m, by simp, by unfold maxLen at hm; simp; omega, ?_, fun hne => ?_⟩
    · intro s hs
      obtain ⟨i, hi, rfl⟩ := List.mem_map.1 hs
      exact (hf i (by have := List.mem_range.1 hi; omega)).2
    have hlen : 0 < len0 := by
      cases len0 with
      | zero => simp at hne
      | succ n => omega
    have h0 := (hf 0 (by omega)).1
    have ea := addr_plain (by simpa [Addr.add] using h0 : W.cell? a = some _)
    refine ⟨a.block, a.off, by rw [ea], World.block_lt_of_cell? W a (by simpa [Addr.add] using h0), fun i hi => ?_⟩
    have hi' : i < len0 := by simpa using hi
    have e1 : ((List.range len0).map f).getD i [] = f i := by simp [List.getD, hi']
    have h1 := (hf i (by omega)).1
    rw [ea, Addr.add_lit] at h1
    rw [e1]
    exact h1
end

end Go.Proofs.YtgmgmjddadgkkaaDoor
