/- What a row's list says of strconv's two errors. No condition. -/
import Derived.Test.YtpbipngnoklmcaaGreatDoorRow
import Derived.Test.YtpbipngnoklmcaaGreatDoorMStepA
namespace Go.Proofs.YtpbipngnoklmcaaGreatDoor
open Go.ChangeShapes Go.WideShapes Go.ChangeAt Go.RowKit
set_option maxRecDepth 100000

theorem gRange : Tryz.prog.globalNamed "strconv.ErrRange" = some 1 := by kernel_rfl
theorem gRangeType : (Tryz.prog.globals[1]?).map (·.type) = some 119 := by kernel_rfl
theorem gSyntax : Tryz.prog.globalNamed "strconv.ErrSyntax" = some 0 := by kernel_rfl
theorem gSyntaxType : (Tryz.prog.globals[0]?).map (·.type) = some 119 := by kernel_rfl
theorem cellsErr : Tryz.prog.cellsOf 179 = 1 := by kernel_rfl
theorem cellsStr : Tryz.prog.cellsOf 9 = 1 := by kernel_rfl
theorem star : "*" ++ "errors.errorString" = "*errors.errorString" := by decide
theorem rowErr (u : TypeId) (h : Tryz.prog.typeName? 3 u = some "*errors.errorString") : u = 177 :=
  typeName_ptr_named (nm := "errors.errorString") (by rw [star]; kernel_rfl) (by kernel_rfl) (by decide) u (by rw [star]; exact h)

theorem err_of_laid {W : World} (h : laidMetH Tryz.prog theLaid W) : ErrW W := by
  have h1 : laidMet Tryz.prog theLaid W := h
  have h2 := laidMet.tail (laidMet.tail (laidMet.tail h1))
  obtain ⟨a, s, hv, _, _, _⟩ := laid_sentinel h2 gRange gRangeType Tryz.underlying119 rowErr Tryz.underlying177 Tryz.underlying179 rfl rfl Tryz.underlying9 cellsErr cellsStr
  obtain ⟨b, t, hu, _, _, _⟩ := laid_sentinel (laidMet.tail h2) gSyntax gSyntaxType Tryz.underlying119 rowErr Tryz.underlying177 Tryz.underlying179 rfl rfl Tryz.underlying9 cellsErr cellsStr
  exact ⟨⟨_, _, hu⟩, ⟨_, _, hv⟩⟩

end Go.Proofs.YtpbipngnoklmcaaGreatDoor
