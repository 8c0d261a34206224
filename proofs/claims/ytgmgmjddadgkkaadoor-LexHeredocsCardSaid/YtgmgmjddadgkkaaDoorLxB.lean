/- Texts in walks, where no big number is about: their bytes, cut and joined. No condition. -/
import Derived.Test.YtgmgmjddadgkkaaDoorProg
import Derived.WalkKit
import Derived.WalkSpells
import Derived.WalkLawsBesides
import Derived.BigQuiet
import Derived.Deep.QuietTactic
import Derived.Deep.LoopGhost
import Derived.Deep.Cut
import Derived.Deep.CutRange
import Derived.Lib.Hide
import Derived.Laws.AppendOwnNone
import Derived.Laws.MakeOwn
import Derived.StillTailTactics
import Derived.Laws.Concat
import Derived.Laws.Strings2
import Derived.Laws.Strings3
import Derived.Laws.IdiomStrings
import Derived.Lib.Strings
import Derived.Lib.ItoaMem
import Derived.Lib.ConvBytes
namespace Go.Proofs.YtgmgmjddadgkkaaDoor
open Go.RowKit

/-- A text. -/
abbrev str (l : List UInt8) : Value := .string ⟨l.toArray⟩
theorem ret_bool {a b : Bool} (h : a = b) : Ending.returned (.bool a) = .returned (.bool b) := by rw [h]
theorem own_keep {w w' : World} {base e size n : Nat} {v : Value} {xs : List Value} (h : w.ownsRow base e size v n xs) (hk : ∀ k, base ≤ k → k < w.heap.size → w'.heap[k]? = w.heap[k]?) : w'.ownsRow base e size v n xs := by
  refine ⟨h.1, ?_⟩
  rcases h.2 with h2 | ⟨g, cap, cur, hv, hg, hh, r⟩
  · exact .inl h2
  · exact .inr ⟨g, cap, cur, hv, hg, (hk g hg (Array.getElem?_eq_some_iff.1 hh).1).trans hh, r⟩
theorem own_below {w w' : World} {base e size n : Nat} {v : Value} {xs : List Value} (h : w.ownsRow base e size v n xs) (hb : Below w.heap.size w w') : w'.ownsRow base e size v n xs :=
  own_keep h fun k _ hk => hb.block k hk
theorem str_size (l : List UInt8) : (ByteArray.mk l.toArray).size = l.length := by show l.toArray.size = _; simp
theorem str_toList (l : List UInt8) : (ByteArray.mk l.toArray).toList = l := by rw [Lib.toList_data]
theorem str_get (l : List UInt8) (i : Nat) (h : i < (ByteArray.mk l.toArray).size) : (ByteArray.mk l.toArray)[i]'h = l[i]?.getD 0 := by
  have hl : i < l.length := by rw [← str_size]; exact h
  simp only [List.getElem?_eq_getElem hl, Option.getD_some]
  rfl
theorem str_add {P : Program} {w : World} (x y : List UInt8) (h : x.length + y.length ≤ 9223372036854775807) : (Op.stringOp .add (ByteArray.mk x.toArray) (ByteArray.mk y.toArray)).run P w = .ok (.string ⟨(x ++ y).toArray⟩) w := by
  rw [run_string_add_sum w _ _ (by rw [str_size, str_size]; exact h), ByteArray.mk_append_mk]
theorem str_cut (l : List UInt8) (i j : Nat) : (ByteArray.mk l.toArray).extract i j = ByteArray.mk ((l.drop i).take (j - i)).toArray := by
  rw [ByteArray.extract_mk]
theorem u8_eq (c d : UInt8) : ((c.toNat : Int) == (d.toNat : Int)) = (c == d) := by
  rw [Bool.eq_iff_iff, beq_iff_eq, beq_iff_eq]
  constructor
  · intro h; exact UInt8.toNat_inj.1 (by omega)
  · rintro rfl; rfl
theorem u8_le (c d : UInt8) : decide (c ≤ d) = decide ((c.toNat : Int) ≤ (d.toNat : Int)) := by
  rw [Bool.eq_iff_iff, decide_eq_true_eq, decide_eq_true_eq, UInt8.le_iff_toNat_le]
  omega
theorem bytes_below (w : World) (e : TypeId) (s : ByteArray) : Below w.heap.size w (Lib.bytesWorld w e s) :=
  ⟨rfl, rfl, rfl, by rw [Lib.bytesWorld_size]; omega, fun k hk => Lib.bytesWorld_at_old w e s k hk⟩

end Go.Proofs.YtgmgmjddadgkkaaDoor
