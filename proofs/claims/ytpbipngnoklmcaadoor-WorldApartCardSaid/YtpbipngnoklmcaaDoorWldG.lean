/- The walk of the document's Good. -/
import Derived.Test.YtpbipngnoklmcaaDoorWldA
import Derived.Test.YtpbipngnoklmcaaDoorGoodR
import Derived.Test.YtpbipngnoklmcaaDoorKnowR
namespace Go.Proofs.YtpbipngnoklmcaaDoor
open Go.RowKit
set_option maxRecDepth 100000
attribute [local go_sem] str_size str_toList str_get

theorem good17_w (x : VT) (v : Value) (w : World) (h : ValAt w x v) : Calls Tryd.prog 7 #[v] w fun e w' => e = .returned (.bool (goodA x)) ∧ Below w.heap.size w w' := by
  have HV := Lib.hid h
  obtain ⟨ai, ci, ak, ck, rfl⟩ := h.form
  obtain ⟨wB, hwB⟩ : ∃ wB, wB = w.alloc (.cells #[.int .i64 x.kind, .bool x.flag, str x.text, .slice ai x.items.length ci, .slice ak x.keys.length ck] 27) := ⟨_, rfl⟩
  obtain ⟨b0, b1, b2, b3, b4, hsB, hbB⟩ := box5 hwB
  have G := good_rval x _ wB (HV.out.mono hbB)
  have K := fun W (hW : Below wB.heap.size wB W) => known_rval x _ W (HV.out.mono (hbB.trans (hW.mono (by omega))))
  have hga : goodA x = (x.kind == 6 && (goodV x && knownV x)) := rfl
  rw [hga]
  clear hga
  obtain ⟨q, h6⟩ : ∃ q, (x.kind == 6) = q := ⟨_, rfl⟩
  rw [h6]
  generalize goodV x = g at G ⊢
  generalize knownV x = k at K ⊢
  go_enter Tryd.func7, Tryd.ntmps7
  go_upto_region 1 with fail
  rw [← hwB]
  clear hwB
  cases q with
  | false =>
    go_wp2
    go_ret
    exact ⟨rfl, hbB⟩
  | true =>
    go_wp2_with fail
    refine G.mono ?_
    rintro e w1 ⟨rfl, hq1⟩
    have hb1 := hbB.trans (hq1.mono (by omega))
    have c0 := box_at b0 hsB hq1
    have c1 := box_at b1 hsB hq1
    have c2 := box_at b2 hsB hq1
    have c3 := box_at b3 hsB hq1
    have c4 := box_at b4 hsB hq1
    clear b0 b1 b2 b3 b4
    cases g with
    | false =>
      go_wp2
      go_ret
      exact ⟨rfl, hb1⟩
    | true =>
      go_wp2_with fail
      refine (K w1 hq1).mono ?_
      rintro e w2 ⟨rfl, hq2⟩
      have hb2 := hb1.trans (hq2.mono hb1.size)
      go_wp2
      go_ret
      refine ⟨?_, hb2⟩
      cases k <;> rfl

end Go.Proofs.YtpbipngnoklmcaaDoor
