/- Copies of rows of structs: slices.Clone of rules and of the trace; Trace. Printed by genwldf.py. -/
import Derived.Test.YtpbipngnoklmcaaDoorWldE
namespace Go.Proofs.YtpbipngnoklmcaaDoor
open Go.RowKit
set_option maxRecDepth 100000
attribute [local go_sem] str_size str_toList str_get

/-- v is a slice (perhaps nil) of n elements, whose cells are these. -/
def CellsAt (w : World) (v : Value) (n : Nat) (cs : List Value) : Prop :=
  ∃ (ao : Option Addr) (cap : Nat), v = .slice ao n cap ∧ (n ≤ cap ∧ cap ≤ 9223372036854775807 ∧ (ao = none → cap = 0)) ∧
    (n ≠ 0 → ∃ b off, ao = some ⟨b, off, none⟩ ∧ b < w.heap.size ∧ ∀ j u, cs[j]? = some u → w.cell? ((⟨b, off, none⟩ : Addr).add j) = some u)
theorem CellsAt.mono {w w' : World} {v : Value} {n : Nat} {cs : List Value} (h : CellsAt w v n cs) (hb : Below w.heap.size w w') : CellsAt w' v n cs := by
  obtain ⟨ao, cap, hv, hm, hc⟩ := h
  refine ⟨ao, cap, hv, hm, fun hne => ?_⟩
  obtain ⟨b, off, ha, hlt, hk⟩ := hc hne
  refine ⟨b, off, ha, Nat.lt_of_lt_of_le hlt hb.size, fun j u hj => ?_⟩
  have := hk j u hj
  rw [Addr.add_lit] at this ⊢
  exact (hb.cell (p := ⟨b, off + j, none⟩) hlt).trans this
theorem CellsAt.row {w : World} {base e size n : Nat} {v : Value} {cs : List Value} (h : w.ownsRow base e size v n cs) : CellsAt w v n cs := by
  have hc := fun (g : Nat) hg => h.cells (g := g) hg
  rcases h.2 with ⟨rfl, h2⟩ | ⟨g, c, cur, rfl, _, hh, h3, h4, _⟩
  · subst h2
    exact ⟨none, 0, rfl, by simp, fun h => absurd rfl h⟩
  · exact ⟨some ⟨g, 0, none⟩, c, rfl, ⟨h3, by unfold maxLen at h4; omega, fun e => by cases e⟩, fun _ => ⟨g, 0, rfl, heap_lt hh, fun j u hj => hc g rfl _ _ hj⟩⟩
theorem CellsAt.nil (w : World) : CellsAt w (.slice none 0 0) 0 [] := ⟨none, 0, rfl, by simp, fun h => absurd rfl h⟩
/-- What a copy of a row leaves: a new row of the same cells. -/
def ClC (e : TypeId) (size n : Nat) (cs : List Value) (w : World) (x : Ending) (w' : World) : Prop :=
  ∃ v', x = .returned v' ∧ w'.ownsRow w.heap.size e size v' n cs ∧ Below w.heap.size w w'

set_option maxHeartbeats 1600000 in
theorem clone_fails (v : Value) (n : Nat) (cs : List Value) (w : World) (h : CellsAt w v n cs) (hcs : cs.length = n * 2) (h1 : ∀ u ∈ cs, u.oneCell' = true) (hl : n ≤ 1000000) :
    Calls Tryd.prog 14 #[v] w (ClC 47 2 n cs w) := by
  obtain ⟨i0, hi, hz0, hz1, hz2⟩ := info_parts (P := Tryd.prog) (e := 47) (z := .agg #[.int .i64 0, .string ⟨#[]⟩]) (size := 2) (bytes := 24) (by kernel_rfl)
  obtain ⟨ao, cap, rfl, hm, hc⟩ := h
  have hend : ∀ w' v', w'.ownsRow w.heap.size 47 2 v' n cs → Below w.heap.size w w' → ClC 47 2 n cs w (.returned v') w' := fun w' v' h1 h2 => ⟨v', rfl, h1, h2⟩
  have HE := Lib.hid hend
  clear hend
  have hmade : (w.alloc (.cells #[] 47)).ownsRow w.heap.size 47 2 (.slice (some ⟨w.heap.size, 0, none⟩) 0 0) 0 [] := World.ownsRow_made w #[] 0 (Nat.le_refl _) (by unfold maxLen; omega) rfl
  have HM := Lib.hid hmade
  clear hmade
  have qT : ∀ (w : World) (a : Option Addr) (n c n' c' : Nat), (binOp .eql 48 (.slice a n c) (.slice none n' c')).run Tryd.prog w = .ok (.bool a.isNone) w := fun w a n c n' c' => Lib.run_eql_slice_nil w _ _ a n c n' c' Tryd.underlying48
  cases ao with
  | none =>
    obtain rfl := hm.2.2 rfl
    obtain rfl : n = 0 := by omega
    obtain rfl : cs = [] := List.eq_nil_of_length_eq_zero (by omega)
    clear hc
    go_enter Tryd.func14, Tryd.ntmps14
    go_wp2
    go_ret
    exact HE.out _ _ (World.ownsRow_nil _ _ _ _) (Below.refl _ _)
  | some ad =>
    by_cases he : n = 0
    · subst he
      obtain rfl : cs = [] := List.eq_nil_of_length_eq_zero (by omega)
      clear hc
      go_enter Tryd.func14, Tryd.ntmps14
      go_wp2_with (at_builtin; refine wpList_append_fresh _ rfl (.tmp 5) (.tmp 6) 48 rfl w.heap.size 47 i0 _ 2 24 Tryd.underlying48 hi hz0 hz1 hz2 rfl (by decide) _ 0 [] rfl HM.out ad 0 cap [] rfl rfl ?c1 ?c2 ?c3 ?c4 ?c5 ?_)
      case c1 => intro j u hu; simp at hu
      case c2 => intro u hu; cases hu
      case c3 => unfold maxLen; omega
      case c4 => omega
      case c5 => simp
      intro v' w1 hown hgrow _
      go_wp2
      go_ret
      exact HE.out _ _ hown (((Below.refl _ _).alloc (Nat.le_refl _) _).grown hgrow (by simp) (fun k e => by have := Option.some.inj e; simp at this; omega))
    · obtain ⟨b, off, had, hbl, hcell⟩ := hc he
      cases had
      have hcell' := fun o j u hu => (((Below.refl w.heap.size w).alloc (Nat.le_refl _) o).cell (p := (⟨b, off, none⟩ : Addr).add j) (by rw [Addr.add_lit]; exact hbl)).trans (hcell j u hu)
      have HC := Lib.hid hcell'
      clear hc hcell hcell'
      go_enter Tryd.func14, Tryd.ntmps14
      go_wp2_with (at_builtin; refine wpList_append_fresh _ rfl (.tmp 5) (.tmp 6) 48 rfl w.heap.size 47 i0 _ 2 24 Tryd.underlying48 hi hz0 hz1 hz2 rfl (by decide) _ 0 [] rfl HM.out ⟨b, off, none⟩ n cap cs rfl ?d1 (HC.out _) h1 ?d3 ?d4 ?d5 ?_)
      case d1 => exact hcs
      case d3 => unfold maxLen; omega
      case d4 => omega
      case d5 => simp
      intro v' w1 hown hgrow _
      go_wp2
      go_ret
      exact HE.out _ _ hown (((Below.refl _ _).alloc (Nat.le_refl _) _).grown hgrow (by simp) (fun k e => by have := Option.some.inj e; simp at this; omega))

set_option maxHeartbeats 1600000 in
theorem clone_calls (v : Value) (n : Nat) (cs : List Value) (w : World) (h : CellsAt w v n cs) (hcs : cs.length = n * 5) (h1 : ∀ u ∈ cs, u.oneCell' = true) (hl : n ≤ 1000000) :
    Calls Tryd.prog 31 #[v] w (ClC 74 5 n cs w) := by
  obtain ⟨i0, hi, hz0, hz1, hz2⟩ := info_parts (P := Tryd.prog) (e := 74) (z := .agg #[.int .i64 0, .string ⟨#[]⟩, .string ⟨#[]⟩, .string ⟨#[]⟩, .int .i64 0]) (size := 5) (bytes := 64) (by kernel_rfl)
  obtain ⟨ao, cap, rfl, hm, hc⟩ := h
  have hend : ∀ w' v', w'.ownsRow w.heap.size 74 5 v' n cs → Below w.heap.size w w' → ClC 74 5 n cs w (.returned v') w' := fun w' v' h1 h2 => ⟨v', rfl, h1, h2⟩
  have HE := Lib.hid hend
  clear hend
  have hmade : (w.alloc (.cells #[] 74)).ownsRow w.heap.size 74 5 (.slice (some ⟨w.heap.size, 0, none⟩) 0 0) 0 [] := World.ownsRow_made w #[] 0 (Nat.le_refl _) (by unfold maxLen; omega) rfl
  have HM := Lib.hid hmade
  clear hmade
  have qT : ∀ (w : World) (a : Option Addr) (n c n' c' : Nat), (binOp .eql 49 (.slice a n c) (.slice none n' c')).run Tryd.prog w = .ok (.bool a.isNone) w := fun w a n c n' c' => Lib.run_eql_slice_nil w _ _ a n c n' c' Tryd.underlying49
  cases ao with
  | none =>
    obtain rfl := hm.2.2 rfl
    obtain rfl : n = 0 := by omega
    obtain rfl : cs = [] := List.eq_nil_of_length_eq_zero (by omega)
    clear hc
    go_enter Tryd.func31, Tryd.ntmps31
    go_wp2
    go_ret
    exact HE.out _ _ (World.ownsRow_nil _ _ _ _) (Below.refl _ _)
  | some ad =>
    by_cases he : n = 0
    · subst he
      obtain rfl : cs = [] := List.eq_nil_of_length_eq_zero (by omega)
      clear hc
      go_enter Tryd.func31, Tryd.ntmps31
      go_wp2_with (at_builtin; refine wpList_append_fresh _ rfl (.tmp 5) (.tmp 6) 49 rfl w.heap.size 74 i0 _ 5 64 Tryd.underlying49 hi hz0 hz1 hz2 rfl (by decide) _ 0 [] rfl HM.out ad 0 cap [] rfl rfl ?c1 ?c2 ?c3 ?c4 ?c5 ?_)
      case c1 => intro j u hu; simp at hu
      case c2 => intro u hu; cases hu
      case c3 => unfold maxLen; omega
      case c4 => omega
      case c5 => simp
      intro v' w1 hown hgrow _
      go_wp2
      go_ret
      exact HE.out _ _ hown (((Below.refl _ _).alloc (Nat.le_refl _) _).grown hgrow (by simp) (fun k e => by have := Option.some.inj e; simp at this; omega))
    · obtain ⟨b, off, had, hbl, hcell⟩ := hc he
      cases had
      have hcell' := fun o j u hu => (((Below.refl w.heap.size w).alloc (Nat.le_refl _) o).cell (p := (⟨b, off, none⟩ : Addr).add j) (by rw [Addr.add_lit]; exact hbl)).trans (hcell j u hu)
      have HC := Lib.hid hcell'
      clear hc hcell hcell'
      go_enter Tryd.func31, Tryd.ntmps31
      go_wp2_with (at_builtin; refine wpList_append_fresh _ rfl (.tmp 5) (.tmp 6) 49 rfl w.heap.size 74 i0 _ 5 64 Tryd.underlying49 hi hz0 hz1 hz2 rfl (by decide) _ 0 [] rfl HM.out ⟨b, off, none⟩ n cap cs rfl ?d1 (HC.out _) h1 ?d3 ?d4 ?d5 ?_)
      case d1 => exact hcs
      case d3 => unfold maxLen; omega
      case d4 => omega
      case d5 => simp
      intro v' w1 hown hgrow _
      go_wp2
      go_ret
      exact HE.out _ _ hown (((Below.refl _ _).alloc (Nat.le_refl _) _).grown hgrow (by simp) (fun k e => by have := Option.some.inj e; simp at this; omega))

theorem fail_one (fs : List F2) : ∀ u ∈ failCells fs, u.oneCell' = true := by
  intro u hu
  unfold failCells at hu
  obtain ⟨f, _, hu⟩ := List.mem_flatMap.1 hu
  simp at hu
  rcases hu with rfl | rfl <;> rfl
theorem call_one (ts : List T5) : ∀ u ∈ callCells ts, u.oneCell' = true := by
  intro u hu
  unfold callCells at hu
  obtain ⟨f, _, hu⟩ := List.mem_flatMap.1 hu
  simp at hu
  rcases hu with rfl | rfl | rfl | rfl | rfl <;> rfl
theorem fail_len (fs : List F2) : (failCells fs).length = fs.length * 2 := by
  unfold failCells
  induction fs with
  | nil => rfl
  | cons f r ih => rw [List.flatMap_cons, List.length_append, ih, List.length_cons]; simp only [List.length_cons, List.length_nil]; omega
theorem call_len (ts : List T5) : (callCells ts).length = ts.length * 5 := by
  unfold callCells
  induction ts with
  | nil => rfl
  | cons f r ih => rw [List.flatMap_cons, List.length_append, ih, List.length_cons]; simp only [List.length_cons, List.length_nil]; omega

variable {w : World} {p b n : Nat} {S : WS} {val : S8 → S8 → Value} {vf vt : Value} {D : DataW Value}
set_option maxHeartbeats 1600000 in
theorem trace_w (h : WAt w p b n S val vf vt D) (hl : S.trace.length ≤ 1000000) :
    Calls Tryd.prog 13 #[.pointer (some ⟨p, 0, none⟩)] w (ClC 74 5 S.trace.length (callCells S.trace) w) := by
  obtain ⟨P, cap, rfl⟩ := slice_form h.trace
  have c0 : w.cell? ⟨p, 2, none⟩ = some (.slice P S.trace.length cap) := by rw [Lib.cell_of_heap h.box]; rfl
  have CL := clone_calls _ S.trace.length (callCells S.trace) w (CellsAt.row h.trace) (call_len _) (call_one _) hl
  generalize S.trace.length = m at c0 CL ⊢
  generalize callCells S.trace = cs at CL ⊢
  clear h
  go_enter Tryd.func13, Tryd.ntmps13
  go_wp2_with fail
  refine CL.mono ?_
  rintro e w1 ⟨v', rfl, hown, hb⟩
  have HF := Lib.hid (⟨v', rfl, hown, hb⟩ : ClC 74 5 m cs w (.returned v') w1)
  clear hown hb CL
  go_wp2
  go_ret
  exact HF.out

end Go.Proofs.YtpbipngnoklmcaaDoor
