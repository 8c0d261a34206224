/- What a row's list says of strconv's two errors. No condition. -/
import Derived.Test.YtpbipngnoklmcaaDoorRow
import Derived.Test.YtpbipngnoklmcaaDoorAtoi
namespace Go.Proofs.YtpbipngnoklmcaaDoor
open Go.ChangeShapes Go.WideShapes Go.ChangeAt Go.RowKit
set_option maxRecDepth 100000

theorem gRange : Tryd.prog.globalNamed "strconv.ErrRange" = some 1 := by kernel_rfl
theorem gRangeType : (Tryd.prog.globals[1]?).map (·.type) = some 84 := by kernel_rfl
theorem gSyntax : Tryd.prog.globalNamed "strconv.ErrSyntax" = some 0 := by kernel_rfl
theorem gSyntaxType : (Tryd.prog.globals[0]?).map (·.type) = some 84 := by kernel_rfl
theorem cellsErr : Tryd.prog.cellsOf 146 = 1 := by kernel_rfl
theorem cellsStr : Tryd.prog.cellsOf 9 = 1 := by kernel_rfl
theorem star : "*" ++ "errors.errorString" = "*errors.errorString" := by decide
theorem rowErr (u : TypeId) (h : Tryd.prog.typeName? 3 u = some "*errors.errorString") : u = 144 :=
  typeName_ptr_named (nm := "errors.errorString") (by rw [star]; kernel_rfl) (by kernel_rfl) (by decide) u (by rw [star]; exact h)

theorem err_of_laid {W : World} (h : laidMetH Tryd.prog theLaid W) : ErrW W := by
  have h1 : laidMet Tryd.prog theLaid W := h
  have h2 := laidMet.tail (laidMet.tail (laidMet.tail h1))
  obtain ⟨a, s, hv, _, _, _⟩ := laid_sentinel h2 gRange gRangeType Tryd.underlying84 rowErr Tryd.underlying144 Tryd.underlying146 rfl rfl Tryd.underlying9 cellsErr cellsStr
  obtain ⟨b, t, hu, _, _, _⟩ := laid_sentinel (laidMet.tail h2) gSyntax gSyntaxType Tryd.underlying84 rowErr Tryd.underlying144 Tryd.underlying146 rfl rfl Tryd.underlying9 cellsErr cellsStr
  exact ⟨⟨_, _, hu⟩, ⟨_, _, hv⟩⟩

end Go.Proofs.YtpbipngnoklmcaaDoor
