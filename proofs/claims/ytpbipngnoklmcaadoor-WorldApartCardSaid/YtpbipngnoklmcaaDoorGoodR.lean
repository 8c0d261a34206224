/- The walk of the document's Good: it says what goodV says, of any value. -/
import Derived.Test.YtpbipngnoklmcaaDoorValN
namespace Go.Proofs.YtpbipngnoklmcaaDoor
open Go.RowKit
set_option maxRecDepth 100000
attribute [local go_sem] str_size str_toList str_get

set_option maxHeartbeats 2000000 in
theorem good_rval (t : VT) (v : Value) (w : World) (h : ValAt w t v) : Calls Tryd.prog 19 #[v] w fun e w' => e = .returned (.bool (goodV t)) ∧ Below w.heap.size w w' := by
  obtain ⟨ai, ci, ak, ck, rfl⟩ := h.form
  obtain ⟨wB, hwB⟩ : ∃ wB, wB = w.alloc (.cells #[.int .i64 t.kind, .bool t.flag, str t.text, .slice ai t.items.length ci, .slice ak t.keys.length ck] 27) := ⟨_, rfl⟩
  obtain ⟨b0, b1, b2, b3, b4, hsB, hbB⟩ := box5 hwB
  have C1 := size_rval t _ wB (h.mono hbB)
  have C2 := fun W (hb : Below w.heap.size w W) => deep_rval t 24 (by omega) _ W (h.mono hb)
  have C3 := fun W (hb : Below w.heap.size w W) => plain_rval t _ W (h.mono hb)
  have hsz : ∀ z : Int, (∀ d, d ≤ 1000 → deepV d t = true → z = sizeR t) → deepV 24 t = true → (z ≤ 2000 ↔ sizeV t ≤ 2000) := fun z hz hd => by
    have e := hz 24 (by omega) hd
    have hi := sizeR_iff t
    by_cases hs : sizeV t ≤ 2000
    · have := hi.1 hs; omega
    · have := hi.2 (by omega); omega
  have hgood : goodV t = (decide (sizeV t ≤ 2000) && deepV 24 t && plainV t) := rfl
  obtain ⟨R, hR⟩ : ∃ R, goodV t = R := ⟨_, rfl⟩
  rw [hR] at hgood ⊢
  obtain ⟨D, hD⟩ : ∃ D, deepV 24 t = D := ⟨_, rfl⟩
  obtain ⟨F, hF⟩ : ∃ F, plainV t = F := ⟨_, rfl⟩
  obtain ⟨Z, hZ⟩ : ∃ Z, decide (sizeV t ≤ 2000) = Z := ⟨_, rfl⟩
  rw [hD] at C2 hsz hgood
  rw [hF] at C3 hgood
  rw [hZ] at hgood
  have HG := Lib.hid hgood
  have HZ := Lib.hid hZ
  have HSZ := Lib.hid hsz
  clear hsz hR hD hF h hZ hgood
  go_enter Tryd.func19, Tryd.ntmps19
  go_upto_region 1 with fail
  rw [← hwB]
  clear hwB
  go_wp2_with fail
  refine C1.mono ?_
  rintro e w1 ⟨⟨z, rfl, hz0, hz1, hz⟩, hq1⟩
  have HZ2 := Lib.hid (HSZ.out z hz)
  clear hz HSZ C1
  have q0 := box_at b0 hsB hq1
  have q1 := box_at b1 hsB hq1
  have q2 := box_at b2 hsB hq1
  have q3 := box_at b3 hsB hq1
  have q4 := box_at b4 hsB hq1
  have hbw1 := hbB.trans (hq1.mono (by omega))
  by_cases hz2 : z ≤ 2000
  · go_wp2_with fail
    refine (C2 w1 hbw1).mono ?_
    rintro e w2 ⟨rfl, hq2⟩
    have hq12 := hq1.trans (hq2.mono hq1.size)
    have p0 := box_at b0 hsB hq12
    have p1 := box_at b1 hsB hq12
    have p2 := box_at b2 hsB hq12
    have p3 := box_at b3 hsB hq12
    have p4 := box_at b4 hsB hq12
    have hbw2 := hbB.trans (hq12.mono (by omega))
    cases D with
    | false =>
      have hr : R = false := by rw [HG.out]; simp
      subst hr
      clear HG HZ HZ2
      go_wp2
      go_ret
      exact ⟨rfl, hbw2⟩
    | true =>
      have hr : R = F := by
        have hs := (HZ2.out rfl).1 hz2
        rw [HG.out, ← HZ.out, decide_eq_true hs]; rfl
      subst hr
      clear HG HZ HZ2
      go_wp2_with fail
      refine (C3 w2 hbw2).mono ?_
      rintro e w3 ⟨rfl, hq3⟩
      have hbw3 := hbw2.trans (hq3.mono hbw2.size)
      go_wp2
      go_ret
      exact ⟨rfl, hbw3⟩
  · have hr : R = false := by
      cases D with
      | false => rw [HG.out]; simp
      | true =>
        have hs : ¬ sizeV t ≤ 2000 := fun hs => hz2 ((HZ2.out rfl).2 hs)
        rw [HG.out, ← HZ.out, decide_eq_false hs]; rfl
    subst hr
    clear HG HZ HZ2
    go_wp2
    go_ret
    exact ⟨rfl, hbw1⟩

end Go.Proofs.YtpbipngnoklmcaaDoor
