/- Walk of slices.Clone of ints. -/
import Derived.Test.YtelioljmhlabjaaDoorApp
import Derived.Laws.AppendOwnNone
import Derived.Lib.SliceRun
namespace Go.Proofs.YtelioljmhlabjaaDoor
open Go.RowKit
set_option maxRecDepth 100000

theorem ints_cells {w : World} {b off : Nat} {xs : List Int} (h : ∀ i, i < xs.length → w.cell? ⟨b, off + i, none⟩ = some (.int .i64 (xs.getD i 0))) :
    ∀ j u, (xs.map (Value.int .i64))[j]? = some u → w.cell? ((⟨b, off, none⟩ : Addr).add j) = some u := by
  intro j u hu
  have hj : j < xs.length := by have := (List.getElem?_eq_some_iff.1 hu).1; simpa using this
  rw [Addr.add_lit, h j hj]
  simp [List.getD, hj] at hu ⊢
  exact hu
theorem ints_one (xs : List Int) : ∀ u ∈ xs.map (Value.int .i64), u.oneCell' = true := by
  intro u hu
  obtain ⟨p, _, rfl⟩ := List.mem_map.1 hu
  rfl

/-- What a copy leaves: a new row of the same ints. -/
def ClonePost (xs : List Int) (w : World) (e : Ending) (w' : World) : Prop :=
  ∃ v', e = .returned v' ∧ w'.ownsRow w.heap.size 3 1 v' xs.length (xs.map (Value.int .i64)) ∧ Below w.heap.size w w'

set_option maxHeartbeats 800000 in
theorem clone_any (v : Value) (xs : List Int) (w : World) (h : IntsAt w v xs) (hl : xs.length ≤ 5000) :
    Calls Tryd.prog 48 #[v] w (ClonePost xs w) := by
  obtain ⟨i0, hi, hz0, hz1, hz2⟩ := info_parts Tryd.info3
  obtain ⟨ao, cap, rfl, _, hm, hc⟩ := h
  have hend : ∀ w' v', w'.ownsRow w.heap.size 3 1 v' xs.length (xs.map (Value.int .i64)) → Below w.heap.size w w' → ClonePost xs w (.returned v') w' := fun w' v' h1 h2 => ⟨v', rfl, h1, h2⟩
  have HE := Lib.hid hend
  clear hend
  have hmade : (w.alloc (.cells #[] 3)).ownsRow w.heap.size 3 1 (.slice (some ⟨w.heap.size, 0, none⟩) 0 0) 0 [] := World.ownsRow_made w #[] 0 (Nat.le_refl _) (by unfold maxLen; omega) rfl
  have HM := Lib.hid hmade
  clear hmade
  have qT : ∀ (w : World) (a : Option Addr) (n c n' c' : Nat), (binOp .eql 26 (.slice a n c) (.slice none n' c')).run Tryd.prog w = .ok (.bool a.isNone) w := fun w a n c n' c' => Lib.run_eql_slice_nil w _ _ a n c n' c' Tryd.underlying26
  cases ao with
  | none =>
    obtain rfl := hm.2.2 rfl
    have : xs = [] := List.eq_nil_of_length_eq_zero (by omega)
    subst this
    clear hc
    go_enter Tryd.func48, Tryd.ntmps48
    go_wp2
    go_ret
    exact HE.out _ _ (World.ownsRow_nil _ _ _ _) (Below.refl _ _)
  | some ad =>
    by_cases he : xs = []
    · subst he
      clear hc
      go_enter Tryd.func48, Tryd.ntmps48
      go_wp2_with (at_builtin; refine wpList_append_fresh _ rfl (.tmp 5) (.tmp 6) 26 rfl w.heap.size 3 i0 _ 1 8 Tryd.underlying26 hi hz0 hz1 hz2 rfl (by decide) _ 0 [] rfl HM.out ad 0 cap [] rfl rfl ?c1 ?c2 ?c3 ?c4 ?c5 ?_)
      case c1 => intro j u hu; simp at hu
      case c2 => intro u hu; cases hu
      case c3 => unfold maxLen; omega
      case c4 => omega
      case c5 => simp
      intro v' w1 hown hgrow _
      go_wp2
      go_ret
      exact HE.out _ _ hown (((Below.refl _ _).alloc (Nat.le_refl _) _).grown hgrow (by simp) (fun k e => by have := Option.some.inj e; simp at this; omega))
    · obtain ⟨b, off, had, hbl, hcell⟩ := hc he
      cases had
      have hcell' := fun o => ints_cells (w := w.alloc o) (fun i hi => (((Below.refl w.heap.size w).alloc (Nat.le_refl _) o).cell (p := ⟨b, off + i, none⟩) hbl).trans (hcell i hi))
      have HC := Lib.hid hcell'
      clear hc hcell hcell'
      go_enter Tryd.func48, Tryd.ntmps48
      go_wp2_with (at_builtin; refine wpList_append_fresh _ rfl (.tmp 5) (.tmp 6) 26 rfl w.heap.size 3 i0 _ 1 8 Tryd.underlying26 hi hz0 hz1 hz2 rfl (by decide) _ 0 [] rfl HM.out ⟨b, off, none⟩ xs.length cap (xs.map (Value.int .i64)) rfl (by simp) (HC.out _) (ints_one xs) ?d3 ?d4 ?d5 ?_)
      case d3 => unfold maxLen; omega
      case d4 => omega
      case d5 => simp
      intro v' w1 hown hgrow _
      go_wp2
      go_ret
      exact HE.out _ _ hown (((Below.refl _ _).alloc (Nat.le_refl _) _).grown hgrow (by simp) (fun k e => by have := Option.some.inj e; simp at this; omega))

end Go.Proofs.YtelioljmhlabjaaDoor
