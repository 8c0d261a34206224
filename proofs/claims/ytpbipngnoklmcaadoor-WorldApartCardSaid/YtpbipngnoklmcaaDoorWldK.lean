/- The map of the world's objects: keys that are a struct of two texts, elements as they stand. -/
import Derived.Test.YtpbipngnoklmcaaDoorWldP
import Derived.Test.YtpbipngnoklmcaaDoorMv
import Derived.Maps.OwnSet
import Derived.Maps.RangeWalk
import Derived.DeepKeys4
namespace Go.Proofs.YtpbipngnoklmcaaDoor
open Go.RowKit
open Go.Maps (Keyed)
set_option maxRecDepth 100000

theorem laidOutW : laidOutB Tryd.prog = true := by kernel_rfl
theorem rowK : (60 : TypeId) < Tryd.prog.types.size := of_decide_eq_true (by kernel_rfl)
theorem wideK : (match Tryd.prog.underlying 60 with | some (.array _ _) | some (.struct _) => true | _ => false) = true := by rw [Tryd.underlying60]
theorem keyK : Keyed Tryd.prog 60 := Keyed.of_law (deep_law_laid laidOutW (m := 2) (by omega) rowK (by kernel_rfl) wideK)
theorem cellsK : Tryd.prog.cellsOf 60 = 2 := by kernel_rfl
theorem cellsS1 : Tryd.prog.cellsOf 9 = 1 := by kernel_rfl
theorem keyTypeK : Tryd.prog.keyType 60 = true := by kernel_rfl
/-- What a name reads as. -/
def klW (t i : S8) : Lit := .string (keyBytes [.string t, .string i])
def nameV (t i : S8) : Value := .agg #[str t, str i]
abbrev fitS (t : S8) : Prop := t.length ≤ 9223372036854775807

theorem fit_size {x : S8} (hx : fitS x) : (ByteArray.mk x.toArray).size ≤ maxLen := by
  show x.toArray.size ≤ maxLen
  unfold maxLen
  simpa using hx
theorem sizeT : ∃ n, Tryd.prog.types.size = n + 1 := ⟨Tryd.prog.types.size - 1, (Nat.sub_add_cancel (Nat.lt_of_le_of_lt (Nat.zero_le _) rowK)).symm⟩
theorem formedK {c0 c1 : Value} : (Value.agg #[c0, c1]).formed Tryd.prog 60 = true := by simp [Value.formed, Tryd.underlying60, cellsK]
theorem keyOf_name {t i : S8} (ht : fitS t) (hi : fitS i) : keyOf Tryd.prog 60 (nameV t i) = some (klW t i) := by
  have hl : Tryd.prog.keyLits (Tryd.prog.types.size + 1) 60 [str t, str i] = some [.string t, .string i] := by
    obtain ⟨n, hn⟩ := sizeT
    rw [hn]
    have h1 := fit_size ht
    have h2 := fit_size hi
    simp [Program.keyLits, Tryd.underlying60, Tryd.underlying9, cellsK, cellsS1, h1, h2]
  unfold keyOf
  rw [Tryd.underlying60]
  show (if (Tryd.prog.keyType 60 && (nameV t i).formed Tryd.prog 60) = true then (Tryd.prog.keyLits (Tryd.prog.types.size + 1) 60 [str t, str i]).map (fun ls => Lit.string (keyBytes ls)) else none) = _
  rw [keyTypeK, show (nameV t i).formed Tryd.prog 60 = true from formedK, hl]
  rfl
theorem formed_inv {v : Value} (hc : v.formed Tryd.prog 60 = true) : ∃ c0 c1, v = .agg #[c0, c1] := by
  unfold Value.formed at hc
  rw [Tryd.underlying60] at hc
  cases v <;> simp [cellsK] at hc
  next cs =>
    obtain ⟨cs⟩ := cs
    match cs, hc with
    | [c0, c1], _ => exact ⟨c0, c1, rfl⟩
theorem lits_one {n : Nat} {c : Value} {ls : List Lit} (hc : Tryd.prog.keyLits (n + 1) 9 [c] = some ls) : ∃ s : S8, c = str s ∧ fitS s := by
  cases c with
  | string s =>
    obtain ⟨⟨s⟩⟩ := s
    refine ⟨s, rfl, ?_⟩
    apply Classical.byContradiction
    intro hh
    have hz : ¬ (ByteArray.mk ⟨s⟩).size ≤ maxLen := by
      intro h
      apply hh
      have h' : (⟨s⟩ : Array UInt8).size ≤ maxLen := h
      unfold maxLen at h'
      simpa using h'
    simp [Program.keyLits, Tryd.underlying9, hz] at hc
  | _ => simp [Program.keyLits, Tryd.underlying9] at hc
theorem lits_two {n : Nat} {c0 c1 : Value} {ls : List Lit} (h : Tryd.prog.keyLits (n + 1 + 1) 60 [c0, c1] = some ls) : ∃ t i : S8, c0 = str t ∧ c1 = str i ∧ fitS t ∧ fitS i := by
  cases h0 : Tryd.prog.keyLits (n + 1) 9 [c0] with
  | none =>
    exfalso
    conv at h => lhs; unfold Program.keyLits
    rw [Tryd.underlying60] at h
    simp [cellsK, cellsS1, h0] at h
  | some l0 =>
    cases h1 : Tryd.prog.keyLits (n + 1) 9 [c1] with
    | none =>
      exfalso
      conv at h => lhs; unfold Program.keyLits
      rw [Tryd.underlying60] at h
      simp [cellsK, cellsS1, h0, h1] at h
    | some l1 =>
      obtain ⟨t, rfl, ft⟩ := lits_one h0
      obtain ⟨i, rfl, fi⟩ := lits_one h1
      exact ⟨t, i, rfl, rfl, ft, fi⟩
theorem sizeT2 : ∃ n, Tryd.prog.types.size = n + 1 := sizeT
/-- A key is a name. -/
theorem keyOf_inv {v : Value} {l : Lit} (h : keyOf Tryd.prog 60 v = some l) : ∃ t i, fitS t ∧ fitS i ∧ v = nameV t i ∧ l = klW t i := by
  have h0 := h
  unfold keyOf at h
  rw [Tryd.underlying60] at h
  have h : (if (Tryd.prog.keyType 60 && v.formed Tryd.prog 60) = true then (Tryd.prog.keyLits (Tryd.prog.types.size + 1) 60 v.cells.toList).map (fun ls => Lit.string (keyBytes ls)) else none) = some l := h
  by_cases hc : (Tryd.prog.keyType 60 && v.formed Tryd.prog 60) = true
  · rw [if_pos hc] at h
    rw [keyTypeK, Bool.true_and] at hc
    obtain ⟨c0, c1, rfl⟩ := formed_inv hc
    obtain ⟨n, hn⟩ := sizeT
    rw [hn, show (Value.agg #[c0, c1]).cells.toList = [c0, c1] from rfl] at h
    cases hl : Tryd.prog.keyLits (n + 1 + 1) 60 [c0, c1] with
    | none => rw [hl] at h; cases h
    | some ls =>
      obtain ⟨t, i, rfl, rfl, ft, fi⟩ := lits_two hl
      refine ⟨t, i, ft, fi, rfl, ?_⟩
      have := keyOf_name ft fi
      rw [show nameV t i = .agg #[str t, str i] from rfl, h0] at this
      exact Option.some.inj this
  · rw [if_neg hc] at h
    cases h
theorem klW_inj {t i t' i' : S8} (h1 : fitS t) (h2 : fitS i) (h3 : fitS t') (h4 : fitS i') (h : klW t i = klW t' i') : t = t' ∧ i = i' := by
  have := keyK.inj (keyOf_name h1 h2) (h ▸ keyOf_name h3 h4)
  unfold nameV at this
  simp at this
  exact this

end Go.Proofs.YtpbipngnoklmcaaDoor
