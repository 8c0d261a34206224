/- Walk of own: edges with memory of their own. -/
import Derived.Test.YtelioljmhlabjaaDoorApp
import Derived.Laws.AppendOwnNone
namespace Go.Proofs.YtelioljmhlabjaaDoor
open Go.RowKit
set_option maxRecDepth 100000

theorem Tryd.info34 : (Tryd.prog.info? 34).map (fun i => (i.zero, i.size, i.bytes)) = some (some (.agg #[.int .i64 0, .int .i64 0]), 2, 16) := by kernel_rfl

def pairCells (es : List (Int × Int)) : List Value := es.flatMap fun p => [Value.int .i64 p.1, Value.int .i64 p.2]
theorem pairCells_len (es : List (Int × Int)) : (pairCells es).length = es.length * 2 := by
  induction es with
  | nil => rfl
  | cons p l ih => simp only [pairCells, List.flatMap_cons, List.length_append, List.length_cons, List.length_nil] at ih ⊢; omega
theorem pairCells_one (es : List (Int × Int)) : ∀ u ∈ pairCells es, u.oneCell' = true := by
  intro u hu
  obtain ⟨p, _, h⟩ := List.mem_flatMap.1 hu
  simp at h
  rcases h with rfl | rfl <;> rfl
theorem pairCells_get : ∀ (l : List (Int × Int)) (i : Nat), i < l.length → (pairCells l)[i * 2]? = some (.int .i64 (l.getD i (0, 0)).1) ∧ (pairCells l)[i * 2 + 1]? = some (.int .i64 (l.getD i (0, 0)).2) := by
  intro l
  induction l with
  | nil => intro i hi; simp at hi
  | cons p l ih =>
    intro i hi
    cases i with
    | zero => simp [pairCells]
    | succ i =>
      have := ih i (by simpa using hi)
      have e1 : (i + 1) * 2 = i * 2 + 1 + 1 := by omega
      simp only [pairCells, e1, List.flatMap_cons, List.cons_append, List.nil_append, List.getElem?_cons_succ, List.getD_cons_succ] at this ⊢
      exact this
/-- The cells of a slice of pairs, as the laws on append ask for them. -/
theorem pairs_cells {w : World} {b off : Nat} {es : List (Int × Int)} (h : ∀ i, i < es.length → w.cell? ⟨b, off + i * 2, none⟩ = some (.int .i64 (es.getD i (0, 0)).1) ∧ w.cell? ⟨b, off + i * 2 + 1, none⟩ = some (.int .i64 (es.getD i (0, 0)).2)) :
    ∀ j u, (pairCells es)[j]? = some u → w.cell? ((⟨b, off, none⟩ : Addr).add j) = some u := by
  intro j u hu
  have hj : j < es.length * 2 := by rw [← pairCells_len]; exact (List.getElem?_eq_some_iff.1 hu).1
  have hi : j / 2 < es.length := by omega
  have h2 := pairCells_get es (j / 2) hi
  rw [Addr.add_lit]
  rcases Nat.mod_two_eq_zero_or_one j with e | e
  · have ej : j = j / 2 * 2 := by omega
    rw [← ej] at h2
    have := (h _ hi).1
    rw [← ej] at this
    rw [this]; rw [h2.1] at hu; exact hu
  · have ej : j = j / 2 * 2 + 1 := by omega
    rw [← ej] at h2
    have := (h _ hi).2
    rw [Nat.add_assoc, ← ej] at this
    rw [this]; rw [h2.2] at hu; exact hu

/-- What own leaves: a new row of the same pairs. -/
def OwnPost (es : List (Int × Int)) (w : World) (e : Ending) (w' : World) : Prop :=
  ∃ v', e = .returned v' ∧ w'.ownsRow w.heap.size 34 2 v' es.length (pairCells es) ∧ Below w.heap.size w w'

set_option maxHeartbeats 800000 in
theorem own_any (v : Value) (es : List (Int × Int)) (w : World) (h : PairsAt w v es) (hl : es.length ≤ 5000) :
    Calls Tryd.prog 17 #[v] w (OwnPost es w) := by
  obtain ⟨i0, hi, hz0, hz1, hz2⟩ := info_parts Tryd.info34
  obtain ⟨ao, cap, rfl, _, hm, hc⟩ := h
  by_cases he : es = []
  · subst he
    clear hc
    have hend : ∀ w' v', w'.ownsRow w.heap.size 34 2 v' 0 [] → Below w.heap.size w w' → OwnPost [] w (.returned v') w' := fun w' v' h1 h2 => ⟨v', rfl, h1, h2⟩
    have HE := Lib.hid hend
    clear hend
    have hmade : (w.alloc (.cells #[] 34)).ownsRow w.heap.size 34 2 (.slice (some ⟨w.heap.size, 0, none⟩) 0 0) 0 [] := World.ownsRow_made w #[] 0 (Nat.le_refl _) (by unfold maxLen; omega) rfl
    have HM := Lib.hid hmade
    clear hmade
    cases ao with
    | none =>
      obtain rfl := hm.2.2 rfl
      go_enter Tryd.func17, Tryd.ntmps17
      go_wp2_with (at_builtin; refine wpList_append_own_none rfl (.tmp 3) (.tmp 4) 22 rfl w.heap.size 34 i0 2 Tryd.underlying22 hi _ 0 [] rfl HM.out rfl ?_)
      go_ret
      exact HE.out _ _ HM.out ((Below.refl _ _).alloc (Nat.le_refl _) _)
    | some ad =>
      go_enter Tryd.func17, Tryd.ntmps17
      go_wp2_with (at_builtin; refine wpList_append_fresh _ rfl (.tmp 3) (.tmp 4) 22 rfl w.heap.size 34 i0 _ 2 16 Tryd.underlying22 hi hz0 hz1 hz2 rfl (by decide) _ 0 [] rfl HM.out ad 0 cap [] rfl rfl ?c1 ?c2 ?c3 ?c4 ?c5 ?_)
      case c1 => intro j u hu; simp at hu
      case c2 => intro u hu; cases hu
      case c3 => unfold maxLen; omega
      case c4 => omega
      case c5 => simp
      intro v' w1 hown hgrow _
      go_wp2
      go_ret
      exact HE.out _ _ hown (((Below.refl _ _).alloc (Nat.le_refl _) _).grown hgrow (by simp) (fun k e => by have := Option.some.inj e; simp at this; omega))
  · obtain ⟨b, off, rfl, hbl, hcell⟩ := hc he
    have hcell' := fun o => pairs_cells (w := w.alloc o) (fun i hi => ⟨(((Below.refl w.heap.size w).alloc (Nat.le_refl _) o).cell (p := ⟨b, off + i * 2, none⟩) hbl).trans (hcell i hi).1, (((Below.refl w.heap.size w).alloc (Nat.le_refl _) o).cell (p := ⟨b, off + i * 2 + 1, none⟩) hbl).trans (hcell i hi).2⟩)
    have HC := Lib.hid hcell'
    have hmade : (w.alloc (.cells #[] 34)).ownsRow w.heap.size 34 2 (.slice (some ⟨w.heap.size, 0, none⟩) 0 0) 0 [] := World.ownsRow_made w #[] 0 (Nat.le_refl _) (by unfold maxLen; omega) rfl
    have hend : ∀ w' v', w'.ownsRow w.heap.size 34 2 v' es.length (pairCells es) → Below w.heap.size w w' → OwnPost es w (.returned v') w' := fun w' v' h1 h2 => ⟨v', rfl, h1, h2⟩
    have HE := Lib.hid hend
    have HM := Lib.hid hmade
    clear hc hcell hcell' hmade hend
    go_enter Tryd.func17, Tryd.ntmps17
    go_wp2_with (at_builtin; refine wpList_append_fresh _ rfl (.tmp 3) (.tmp 4) 22 rfl w.heap.size 34 i0 _ 2 16 Tryd.underlying22 hi hz0 hz1 hz2 rfl (by decide) _ 0 [] rfl HM.out ⟨b, off, none⟩ es.length cap (pairCells es) rfl (pairCells_len es) (HC.out _) (pairCells_one es) ?d3 ?d4 ?d5 ?_)
    case d3 => unfold maxLen; omega
    case d4 => omega
    case d5 => simp
    intro v' w1 hown hgrow _
    go_wp2
    go_ret
    exact HE.out _ _ hown (((Below.refl _ _).alloc (Nat.le_refl _) _).grown hgrow (by simp) (fun k e => by have := Option.some.inj e; simp at this; omega))

end Go.Proofs.YtelioljmhlabjaaDoor
