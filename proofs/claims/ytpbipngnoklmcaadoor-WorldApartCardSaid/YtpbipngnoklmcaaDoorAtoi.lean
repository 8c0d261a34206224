/- strconv.Atoi at any text. -/
import Derived.Test.YtpbipngnoklmcaaDoorIntP
import Derived.Test.YtpbipngnoklmcaaDoorStr
import Derived.Test.YtpbipngnoklmcaaDoorShelf
import Derived.Lib.SmallJoins
namespace Go.Proofs.YtpbipngnoklmcaaDoor
open Go.RowKit
set_option maxRecDepth 100000
attribute [local go_sem] str_size str_toList str_get

theorem var_mono {w w' : World} {n : String} {cs : Array Value} (h : w.var? Tryd.prog n = some cs) (hb : Below w.heap.size w w') : w'.var? Tryd.prog n = some cs := by
  unfold World.var? at h ⊢
  cases hg : Tryd.prog.globalNamed n with
  | none => simp [hg] at h
  | some g =>
    simp only [hg, Option.bind_some] at h ⊢
    have hlt : g < w.heap.size := by
      rcases Nat.lt_or_ge g w.heap.size with h' | h'
      · exact h'
      · simp [Array.getElem?_eq_none h'] at h
    rw [hb.block g hlt]
    exact h
/-- The two errors of strconv, whatever they are. -/
def ErrW (w : World) : Prop := (∃ tp p, w.var? Tryd.prog "strconv.ErrSyntax" = some #[.iface tp p]) ∧ (∃ tp p, w.var? Tryd.prog "strconv.ErrRange" = some #[.iface tp p])
theorem ErrW.mono {w w' : World} (h : ErrW w) (hb : Below w.heap.size w w') : ErrW w' := by
  obtain ⟨⟨t1, p1, h1⟩, t2, p2, h2⟩ := h
  exact ⟨⟨t1, p1, var_mono h1 hb⟩, t2, p2, var_mono h2 hb⟩

/-- What Atoi answers: a number and no error, or some number and an error. -/
def AtoiPost (a : List UInt8) (w : World) (e : Ending) (w' : World) : Prop := Below w.heap.size w w' ∧
  ((∃ v, Lib.atoiAll a = .ok v ∧ e = .returned (.tuple #[.int .i64 v, .nilIface])) ∨
   ((∀ v, Lib.atoiAll a ≠ .ok v) ∧ ∃ v tp p, e = .returned (.tuple #[.int .i64 v, .iface tp (.pointer p)])))
theorem atoi_any (a : List UInt8) (hl : a.length ≤ 281474976710656) (w : World) (hE : ErrW w) : Calls Tryd.prog 42 #[str a] w (AtoiPost a w) := by
  obtain ⟨⟨t1, p1, h1⟩, t2, p2, h2⟩ := hE
  cases h : Lib.atoiAll a with
  | ok v =>
    refine (Tryd.strconv_Atoi_ok ⟨a.toArray⟩ (by rw [str_size]; omega) v h w).mono ?_
    rintro e w' ⟨rfl, hw⟩
    refine ⟨?_, Or.inl ⟨v, h, rfl⟩⟩
    rcases hw with rfl | ⟨t, rfl⟩
    · exact Below.refl _ _
    · exact Lib.bytesWorld_below _ _ _
  | range =>
    refine (Tryd.strconv_Atoi_range_var ⟨a.toArray⟩ (by rw [str_size]; omega) h t2 p2 w h2).mono ?_
    rintro e w' ⟨N, rfl, _, _, hb⟩
    exact ⟨hb, Or.inr ⟨fun v => by rw [h]; simp, _, _, _, rfl⟩⟩
  | _ =>
    refine (Tryd.strconv_Atoi_syntax_var ⟨a.toArray⟩ (by rw [str_size]; omega) h t1 p1 w h1).mono ?_
    rintro e w' ⟨N, rfl, _, _, hb⟩
    exact ⟨hb, Or.inr ⟨fun v => by rw [h]; simp, _, _, _, rfl⟩⟩


end Go.Proofs.YtpbipngnoklmcaaDoor
