/- The walk of Same at two rows of the same tokens. -/
import Derived.Test.YtgmgmjddadgkkaaDoorLxS
namespace Go.Proofs.YtgmgmjddadgkkaaDoor
open Go.RowKit
set_option maxRecDepth 100000
attribute [local go_sem] str_size str_toList str_get

set_option maxHeartbeats 2000000 in
theorem same_true (ts : List Tok) (v v' : Value) (w : World) (h : ToksAt w v ts) (h' : ToksAt w v' ts) :
    Calls Tryd.prog 12 #[v, v'] w fun e w' => e = .returned (.bool true) ∧ Below w.heap.size w w' := by
  have mixed : Tryd.prog.follows .mixedOrders = true := by kernel_rfl
  obtain ⟨g, cap, rfl, hg, hm, hk⟩ := h
  obtain ⟨g', cap', rfl, hg', _, hk'⟩ := h'
  have HK := Lib.hid hk
  have HK' := Lib.hid hk'
  clear hk hk'
  go_enter Tryd.func12, Tryd.ntmps12
  go_wp2
  go_loopg [13] (ts.length + 1) (fun gg v13 wr => ∃ i : Nat, v13 = .int .i64 i ∧ i ≤ ts.length ∧ ts.length - i < gg ∧ Below w.heap.size w wr)
  case atStart => exact ⟨0, rfl, by omega, by omega, Below.refl _ _⟩
  case round =>
    obtain ⟨i, rfl, hi, hgk, hbr⟩ := hrel
    by_cases hin : i < ts.length
    · have hini : (i : Int) < (ts.length : Int) := by omega
      have hwi : IntKind.i64.wrap ((i : Int) + 1) = (i : Int) + 1 := by rw [IntKind.wrap_i64]; omega
      obtain ⟨⟨k, t, a⟩, hx⟩ : ∃ x : Tok, ts[i]? = some x := ⟨_, List.getElem?_eq_getElem hin⟩
      obtain ⟨h0, h1, h2⟩ := HK.out i k t a hx
      obtain ⟨h0', h1', h2'⟩ := HK'.out i k t a hx
      have x0 := (hbr.cell (p := ⟨g, i * 3, none⟩) hg).trans h0
      have x1 := (hbr.cell (p := ⟨g, i * 3 + 1, none⟩) hg).trans h1
      have x2 := (hbr.cell (p := ⟨g, i * 3 + 2, none⟩) hg).trans h2
      have y0 := (hbr.cell (p := ⟨g', i * 3, none⟩) hg').trans h0'
      have y1 := (hbr.cell (p := ⟨g', i * 3 + 1, none⟩) hg').trans h1'
      have y2 := (hbr.cell (p := ⟨g', i * 3 + 2, none⟩) hg').trans h2'
      clear h0 h1 h2 h0' h1' h2' hx HK HK'
      go_wp2
      go_quiet (fail)
      go_wp2
      go_roundg (gk - 1)
      case rel => exact ⟨i + 1, by simp, by omega, by omega, below_drawnL hbr _⟩
      case measure => omega
    · have hie : i = ts.length := by omega
      subst hie
      go_wp2
      go_ret
      exact ⟨rfl, hbr⟩

end Go.Proofs.YtgmgmjddadgkkaaDoor
