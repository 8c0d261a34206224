/- value.Good, and the document's Good: both say what goodV says, of any value. The walks of good, fail, note. -/
import Derived.Test.YtpbipngnoklmcaaGreatDoorGoodV
import Derived.Test.YtpbipngnoklmcaaGreatDoorMWldM
namespace Go.Proofs.YtpbipngnoklmcaaGreatDoor
open Go.RowKit
set_option maxRecDepth 100000
attribute [local go_sem] str_size str_toList str_get

set_option maxHeartbeats 2000000 in
theorem good_of (t : VT) (v : Value) (w : World) (h : ValAt w t v) : Calls Tryz.prog 59 #[v] w fun e w' => e = .returned (.bool (goodV t)) ∧ Below w.heap.size w w' := by
  obtain ⟨ai, ci, ak, ck, rfl⟩ := h.form
  obtain ⟨wB, hwB⟩ : ∃ wB, wB = w.alloc (.cells #[.int .i64 t.kind, .bool t.flag, str t.text, .slice ai t.items.length ci, .slice ak t.keys.length ck] 41) := ⟨_, rfl⟩
  obtain ⟨b0, b1, b2, b3, b4, hsB, hbB⟩ := box5 hwB
  obtain ⟨wD, hwD⟩ : ∃ wD, wD = wB.alloc (.cells #[.int .i64 2000] 3) := ⟨_, rfl⟩
  have hcD : Ctr wD (w.heap.size + 1) 2000 := by rw [hwD, ← hsB]; exact heap_alloc_new _ _
  have hbBD : Below wB.heap.size wB wD := by rw [hwD]; exact (Below.refl _ _).alloc (Nat.le_refl _) _
  have hbD : Below w.heap.size w wD := hbB.trans (hbBD.mono (by omega))
  have g0 := box_at b0 hsB hbBD
  have g1 := box_at b1 hsB hbBD
  have g2 := box_at b2 hsB hbBD
  have g3 := box_at b3 hsB hbBD
  have g4 := box_at b4 hsB hbBD
  have C := good_val t w wD _ 24 (w.heap.size + 1) 2000 h hbD (by omega) hcD (by omega) (by omega) (by omega)
  rw [goodF_goodV] at C
  obtain ⟨R, hR⟩ : ∃ R, goodV t = R := ⟨_, rfl⟩
  rw [hR] at C ⊢
  clear hR h hcD b0 b1 b2 b3 b4 hbBD hbB
  have HB := Lib.hid hbD
  have hsz := hbD.size
  clear hbD
  go_enter Tryz.func59, Tryz.ntmps59
  go_upto_region 1 with fail
  rw [← hwB]
  clear hwB
  have HD := Lib.hid hwD
  clear hwD
  go_upto_region 2 with fail
  rw [← HD.out]
  clear HD
  go_wp2_with fail
  refine C.mono ?_
  rintro e w' ⟨rfl, L', hc, hs, _⟩
  have HS := Lib.hid hs
  clear hs hc
  go_wp2
  go_ret
  exact ⟨rfl, Below.spared HB.out HS.out hsz (by simp)⟩

end Go.Proofs.YtpbipngnoklmcaaGreatDoor
namespace Go.Proofs.YtpbipngnoklmcaaGreatDoor
open Go.RowKit
set_option maxRecDepth 100000
attribute [local go_sem] str_size str_toList str_get

theorem good_w (x : VT) (v : Value) (w : World) (h : ValAt w x v) : Calls Tryz.prog 29 #[v] w fun e w' => e = .returned (.bool (goodA x)) ∧ Below w.heap.size w w' := by
  have HV := Lib.hid h
  obtain ⟨ai, ci, ak, ck, rfl⟩ := h.form
  obtain ⟨wB, hwB⟩ : ∃ wB, wB = w.alloc (.cells #[.int .i64 x.kind, .bool x.flag, str x.text, .slice ai x.items.length ci, .slice ak x.keys.length ck] 41) := ⟨_, rfl⟩
  obtain ⟨b0, b1, b2, b3, b4, hsB, hbB⟩ := box5 hwB
  have G := good_of x _ wB (HV.out.mono hbB)
  have K := fun W (hW : Below wB.heap.size wB W) => known_val x _ W (HV.out.mono (hbB.trans (hW.mono (by omega))))
  have hga : goodA x = (x.kind == 6 && (goodV x && knownV x)) := rfl
  rw [hga]
  clear hga
  obtain ⟨q, h6⟩ : ∃ q, (x.kind == 6) = q := ⟨_, rfl⟩
  rw [h6]
  generalize goodV x = g at G ⊢
  generalize knownV x = k at K ⊢
  go_enter Tryz.func29, Tryz.ntmps29
  go_upto_region 1 with fail
  rw [← hwB]
  clear hwB
  cases q with
  | false =>
    go_wp2
    go_ret
    exact ⟨rfl, hbB⟩
  | true =>
    go_wp2_with fail
    refine G.mono ?_
    rintro e w1 ⟨rfl, hq1⟩
    have hb1 := hbB.trans (hq1.mono (by omega))
    have c0 := box_at b0 hsB hq1
    have c1 := box_at b1 hsB hq1
    have c2 := box_at b2 hsB hq1
    have c3 := box_at b3 hsB hq1
    have c4 := box_at b4 hsB hq1
    clear b0 b1 b2 b3 b4
    cases g with
    | false =>
      go_wp2
      go_ret
      exact ⟨rfl, hb1⟩
    | true =>
      go_wp2_with fail
      refine (K w1 hq1).mono ?_
      rintro e w2 ⟨rfl, hq2⟩
      have hb2 := hb1.trans (hq2.mono hb1.size)
      go_wp2
      go_ret
      refine ⟨?_, hb2⟩
      cases k <;> rfl

/-- v is a slice (perhaps nil) of these rules. -/
def FailsAt (w : World) (v : Value) (fs : List F2) : Prop :=
  ∃ ao cap, v = .slice ao fs.length cap ∧ (fs.length ≤ cap ∧ cap ≤ 9223372036854775807 ∧ (ao = none → cap = 0)) ∧
    (fs ≠ [] → ∃ b off, ao = some ⟨b, off, none⟩ ∧ b < w.heap.size ∧ ∀ i (o : Int) (a : S8), fs[i]? = some (o, a) → w.cell? ⟨b, off + i * 2, none⟩ = some (.int .i64 o) ∧ w.cell? ⟨b, off + i * 2 + 1, none⟩ = some (str a))
theorem FailsAt.mono {w w' : World} {v : Value} {fs : List F2} (h : FailsAt w v fs) (hb : Below w.heap.size w w') : FailsAt w' v fs := by
  obtain ⟨ao, cap, hv, hm, hc⟩ := h
  refine ⟨ao, cap, hv, hm, fun hne => ?_⟩
  obtain ⟨b, off, ha, hlt, hk⟩ := hc hne
  refine ⟨b, off, ha, Nat.lt_of_lt_of_le hlt hb.size, fun i o a hi => ?_⟩
  obtain ⟨h0, h1⟩ := hk i o a hi
  exact ⟨(hb.cell (p := ⟨b, off + i * 2, none⟩) hlt).trans h0, (hb.cell (p := ⟨b, off + i * 2 + 1, none⟩) hlt).trans h1⟩
theorem failCells_get : ∀ (fs : List F2) (i : Nat) (o : Int) (a : S8), fs[i]? = some (o, a) → (failCells fs)[i * 2]? = some (.int .i64 o) ∧ (failCells fs)[i * 2 + 1]? = some (str a)
  | [], _, _, _, h => by cases h
  | x :: fs, 0, o, a, h => by
    cases h
    exact ⟨rfl, rfl⟩
  | x :: fs, i + 1, o, a, h => by
    have ih := failCells_get fs i o a h
    have e : ∀ j, (failCells (x :: fs))[(i + 1) * 2 + j]? = (failCells fs)[i * 2 + j]? := by
      intro j
      show ([.int .i64 x.1, str x.2] ++ failCells fs)[(i + 1) * 2 + j]? = _
      rw [List.getElem?_append_right (by simp only [List.length_cons, List.length_nil]; omega)]
      congr 1
      simp only [List.length_cons, List.length_nil]
      omega
    have e0 := e 0
    rw [Nat.add_zero, Nat.add_zero] at e0
    rw [e0, e 1]
    exact ih
theorem add_at (G q : Nat) : (⟨G, 0, none⟩ : Addr).add q = ⟨G, q, none⟩ := by
  by_cases h0 : q = 0
  · subst h0; simp [Addr.add]
  · simp [Addr.add, h0]
theorem fails_of_own {w : World} {base : Nat} {v : Value} {fs : List F2} (h : w.ownsRow base 52 2 v fs.length (failCells fs)) : FailsAt w v fs := by
  have hc := fun (g : Nat) hg => h.cells (g := g) hg
  rcases h.2 with ⟨rfl, h2⟩ | ⟨g, c, cur, rfl, _, hh, h3, h4, _⟩
  · have : fs = [] := List.eq_nil_of_length_eq_zero h2
    subst this
    exact ⟨none, 0, rfl, by simp, fun h => absurd rfl h⟩
  · refine ⟨some ⟨g, 0, none⟩, c, rfl, ⟨h3, by unfold maxLen at h4; omega, fun e => by cases e⟩, fun _ => ⟨g, 0, rfl, heap_lt hh, fun i o a hi => ?_⟩⟩
    obtain ⟨k0, k1⟩ := failCells_get fs i o a hi
    have m0 := hc g rfl _ _ k0
    have m1 := hc g rfl _ _ k1
    rw [add_at] at m0 m1
    rw [Nat.zero_add]
    exact ⟨m0, m1⟩

set_option maxHeartbeats 2000000 in
theorem index_fail (fs : List F2) (v : Value) (op : Int) (a : S8) (w : World) (h : FailsAt w v fs) :
    Calls Tryz.prog 91 #[v, .agg #[.int .i64 op, str a]] w fun e w' => ∃ z : Int, e = .returned (.int .i64 z) ∧ decide (0 ≤ z) = failsP fs op a ∧ Below w.heap.size w w' := by
  have mixed : Tryz.prog.follows .mixedOrders = true := by kernel_rfl
  obtain ⟨ao, cap, rfl, hm, hk⟩ := h
  have HK := Lib.hid hk
  obtain ⟨w0, hw0⟩ : ∃ w0, w0 = w.alloc (.cells #[.int .i64 op, str a] 52) := ⟨_, rfl⟩
  have hn0 : w0.heap[w.heap.size]? = some (.cells #[.int .i64 op, str a] 52 (0, 0)) := by rw [hw0]; exact heap_alloc_new _ _
  have hb0 : Below w.heap.size w w0 := by rw [hw0]; exact (Below.refl _ w).alloc (Nat.le_refl _) _
  have hl0 := heap_lt hn0
  clear hk
  go_enter Tryz.func91, Tryz.ntmps91
  go_upto_region 1 with fail
  rw [← hw0]
  clear hw0
  go_wp2
  go_loopg [8] (fs.length + 1) (fun gg v8 wr => ∃ i : Nat, v8 = .int .i64 i ∧ i ≤ fs.length ∧ fs.length - i < gg ∧ Hid (failsP (fs.take i) op a = false) ∧ Below w0.heap.size w0 wr)
  case atStart => exact ⟨0, rfl, by omega, by omega, rfl, Below.refl _ _⟩
  case round =>
    obtain ⟨i, rfl, hi, hgk, HF, hbr⟩ := hrel
    have hB := hb0.trans (hbr.mono (by omega))
    by_cases hin : i < fs.length
    · have hini : (i : Int) < (fs.length : Int) := by omega
      have hwi : IntKind.i64.wrap ((i : Int) + 1) = (i : Int) + 1 := by rw [IntKind.wrap_i64]; omega
      obtain ⟨⟨o, x⟩, hx⟩ : ∃ y : F2, fs[i]? = some y := ⟨_, List.getElem?_eq_getElem hin⟩
      have hne : fs ≠ [] := by rintro rfl; simp at hin
      obtain ⟨b, off, rfl, hlt, hc⟩ := HK.out hne
      obtain ⟨c0, c1⟩ := hc i o x hx
      have d0 := (hB.cell (p := ⟨b, off + i * 2, none⟩) hlt).trans c0
      have d1 := (hB.cell (p := ⟨b, off + i * 2 + 1, none⟩) hlt).trans c1
      have hnr := (hbr.block _ hl0).trans hn0
      have e0 : wr.cell? ⟨w.heap.size, 0, none⟩ = some (.int .i64 op) := by rw [Lib.cell_of_heap hnr]; rfl
      have e1 : wr.cell? ⟨w.heap.size, 1, none⟩ = some (str a) := by rw [Lib.cell_of_heap hnr]; rfl
      have htk : failsP (fs.take (i + 1)) op a = (failsP (fs.take i) op a || (o == op && x == a)) := by
        unfold failsP
        rw [List.take_add_one, hx, List.any_append]
        simp
      have hall : (o == op && x == a) = true → failsP fs op a = true := fun h => by
        unfold failsP
        rw [List.any_eq_true]
        exact ⟨(o, x), List.mem_of_getElem? hx, h⟩
      have HT := Lib.hid htk
      have HA := Lib.hid hall
      clear htk hall hc c0 c1 hx hne hnr
      by_cases h1 : op = o
      · by_cases h2 : a = x
        · subst h1 h2
          go_wp2
          go_quiet (fail)
          go_wp2
          go_ret
          refine ⟨_, rfl, ?_, below_drawn hB _⟩
          rw [HA.out (by simp)]
          simp
        · have HN := Lib.hid (show (o == op && x == a) = false by rw [Bool.and_eq_false_iff]; exact .inr (by simpa using fun e => h2 e.symm))
          go_wp2
          go_quiet (fail)
          go_wp2
          go_roundg (gk - 1)
          case rel => exact ⟨i + 1, by simp, by omega, by omega, by show failsP _ op a = false; rw [HT.out, HF.out, HN.out]; rfl, below_drawn hbr _⟩
          case measure => omega
      · have HN := Lib.hid (show (o == op && x == a) = false by rw [Bool.and_eq_false_iff]; exact .inl (by simpa using fun e => h1 e.symm))
        go_wp2
        go_quiet (fail)
        go_wp2
        go_roundg (gk - 1)
        case rel => exact ⟨i + 1, by simp, by omega, by omega, by show failsP _ op a = false; rw [HT.out, HF.out, HN.out]; rfl, below_drawn hbr _⟩
        case measure => omega
    · have hie : i = fs.length := by omega
      subst hie
      go_wp2
      go_ret
      refine ⟨_, rfl, ?_, hB⟩
      have := HF.out
      rw [List.take_length] at this
      rw [this]
      rfl

theorem contains_fail (fs : List F2) (v : Value) (op : Int) (a : S8) (w : World) (h : FailsAt w v fs) :
    Calls Tryz.prog 72 #[v, .agg #[.int .i64 op, str a]] w fun e w' => e = .returned (.bool (failsP fs op a)) ∧ Below w.heap.size w w' := by
  obtain ⟨w0, hw0⟩ : ∃ w0, w0 = w.alloc (.cells #[.int .i64 op, str a] 52) := ⟨_, rfl⟩
  have hn0 : w0.heap[w.heap.size]? = some (.cells #[.int .i64 op, str a] 52 (0, 0)) := by rw [hw0]; exact heap_alloc_new _ _
  have hb0 : Below w.heap.size w w0 := by rw [hw0]; exact (Below.refl _ w).alloc (Nat.le_refl _) _
  have e0 : w0.cell? ⟨w.heap.size, 0, none⟩ = some (.int .i64 op) := by rw [Lib.cell_of_heap hn0]; rfl
  have e1 : w0.cell? ⟨w.heap.size, 1, none⟩ = some (str a) := by rw [Lib.cell_of_heap hn0]; rfl
  have C := index_fail fs v op a w0 (h.mono hb0)
  generalize failsP fs op a = R at C ⊢
  obtain ⟨ao, cap, rfl, _⟩ := h
  clear hn0
  go_enter Tryz.func72, Tryz.ntmps72
  go_upto_region 1 with fail
  rw [← hw0]
  clear hw0
  go_wp2_with fail
  refine C.mono ?_
  rintro e w1 ⟨z, rfl, hz, hb1⟩
  have HZ := Lib.hid hz
  clear hz
  go_wp2
  go_ret
  exact ⟨ret_bool HZ.out, hb0.trans (hb1.mono hb0.size)⟩

theorem fail_w {w : World} {p b n : Nat} {S : WS} {val : S8 → S8 → Value} {vf vt : Value} {D : DataW Value} (h : WAt w p b n S val vf vt D) (op : Int) (a : S8) :
    Calls Tryz.prog 50 #[.pointer (some ⟨p, 0, none⟩), .int .i64 op, str a] w fun e w' => e = .returned (.bool (failsP S.fails op a)) ∧ Below w.heap.size w w' := by
  have C := contains_fail S.fails vf op a w (fails_of_own h.fails)
  have c1 : w.cell? ⟨p, 1, none⟩ = some vf := by rw [Lib.cell_of_heap h.box]; rfl
  obtain ⟨ao, cap, hvf, _⟩ := fails_of_own h.fails
  subst hvf
  generalize failsP S.fails op a = R at C ⊢
  go_enter Tryz.func50, Tryz.ntmps50
  go_wp2_with fail
  refine C.mono ?_
  rintro e w1 ⟨rfl, hb1⟩
  go_wp2
  go_ret
  exact ⟨rfl, hb1⟩

end Go.Proofs.YtpbipngnoklmcaaGreatDoor
