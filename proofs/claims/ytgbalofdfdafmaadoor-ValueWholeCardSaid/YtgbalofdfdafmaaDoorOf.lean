/- num.Of. -/
import Derived.Test.YtgbalofdfdafmaaDoorGood
namespace Go.Proofs.YtgbalofdfdafmaaDoor
open Go.RowKit Go.Sort
set_option maxRecDepth 100000
attribute [local go_sem] str_size str_toList str_get

theorem below_grow (w : World) (os : Array Obj) : Below w.heap.size w (grow w os) :=
  ⟨rfl, rfl, rfl, by simp [grow], fun k hk => by simp only [grow]; rw [Array.getElem?_append_left hk]⟩
theorem of_any (n : Int) (h0 : -9223372036854775808 ≤ n) (h1 : n ≤ 9223372036854775807) (w : World) (hT : TabW w) : Calls Tryd.prog 44 #[.int .i64 n] w fun e w' => e = .returned (str (Lib.itoa n)) ∧ Below w.heap.size w w' := by
  have IT := Tryd.strconv_Itoa n h0 h1 w hT
  go_enter Tryd.func44, Tryd.ntmps44
  go_wp2_with fail
  refine IT.mono ?_
  rintro e w' ⟨rfl, k, os, rfl⟩
  go_wp2
  go_ret
  exact ⟨rfl, by have := below_drewN (below_grow (w.drewN k) os) 0; exact ⟨this.os, this.tape, this.output, this.size, this.block⟩⟩


end Go.Proofs.YtgbalofdfdafmaaDoor
