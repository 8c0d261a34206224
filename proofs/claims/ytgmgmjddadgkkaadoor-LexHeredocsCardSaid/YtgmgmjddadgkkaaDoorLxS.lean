/- What a row of tokens reads as; Scan's answers for the laws; the fixed fact. -/
import Derived.Test.YtgmgmjddadgkkaaDoorLxR
import Derived.Lib.SmallJoins
namespace Go.Proofs.YtgmgmjddadgkkaaDoor
open Go.RowKit
set_option maxRecDepth 100000
attribute [local go_sem] str_size str_toList str_get

theorem tokCells_get : ∀ (ts : List Tok) (i : Nat) (k : Int) (t : Bs) (a : Nat), ts[i]? = some (k, t, a) → (tokCells ts)[i * 3]? = some (.int .i64 k) ∧ (tokCells ts)[i * 3 + 1]? = some (str t) ∧ (tokCells ts)[i * 3 + 2]? = some (.int .i64 a)
  | [], _, _, _, _, h => by cases h
  | x :: ts, 0, k, t, a, h => by
    cases h
    exact ⟨rfl, rfl, rfl⟩
  | x :: ts, i + 1, k, t, a, h => by
    have ih := tokCells_get ts i k t a h
    have e : ∀ j, (tokCells (x :: ts))[(i + 1) * 3 + j]? = (tokCells ts)[i * 3 + j]? := by
      intro j
      show ([.int .i64 x.1, str x.2.1, .int .i64 x.2.2] ++ tokCells ts)[(i + 1) * 3 + j]? = _
      rw [List.getElem?_append_right (by simp only [List.length_cons, List.length_nil]; omega)]
      congr 1
      simp only [List.length_cons, List.length_nil]
      omega
    have e0 := e 0
    rw [Nat.add_zero, Nat.add_zero] at e0
    rw [e0, e 1, e 2]
    exact ih
/-- A row of tokens that isn't empty. -/
def ToksAt (w : World) (v : Value) (ts : List Tok) : Prop :=
  ∃ g cap, v = .slice (some ⟨g, 0, none⟩) ts.length cap ∧ g < w.heap.size ∧ ts.length ≤ 9223372036854775807 ∧ ∀ (i : Nat) (k : Int) (t : Bs) (a : Nat), ts[i]? = some (k, t, a) →
    w.cell? ⟨g, i * 3, none⟩ = some (.int .i64 k) ∧ w.cell? ⟨g, i * 3 + 1, none⟩ = some (str t) ∧ w.cell? ⟨g, i * 3 + 2, none⟩ = some (.int .i64 a)
theorem ToksAt.mono {w w' : World} {v : Value} {ts : List Tok} (h : ToksAt w v ts) (hb : Below w.heap.size w w') : ToksAt w' v ts := by
  obtain ⟨g, cap, hv, hg, hm, hc⟩ := h
  have hs := hb.size
  have hk := fun j => hb.cell (p := ⟨g, j, none⟩) hg
  refine ⟨g, cap, hv, by omega, hm, fun i k t a hi => ?_⟩
  obtain ⟨h0, h1, h2⟩ := hc i k t a hi
  exact ⟨(hk _).trans h0, (hk _).trans h1, (hk _).trans h2⟩
theorem toks_of_own {w : World} {base : Nat} {v : Value} {T : TypeId} {ts : List Tok} (h : w.ownsRow base T 3 v ts.length (tokCells ts)) (hn : ts ≠ []) : ToksAt w v ts := by
  have hp : 0 < ts.length := by
    cases ts with
    | nil => exact absurd rfl hn
    | cons _ _ => simp
  obtain ⟨g, cap, hv⟩ := Joins.ownsRow_form h hp
  have hg : v.ownBlock = some g := by rw [hv]; rfl
  have hm : ts.length ≤ 9223372036854775807 := by
    rcases h.2 with ⟨_, h2⟩ | ⟨_, c, _, _, _, _, h2, h3, _⟩
    · omega
    · unfold maxLen at h3; omega
  refine ⟨g, cap, hv, (h.lt g hg).2, hm, fun i k t a hi => ?_⟩
  obtain ⟨h0, h1, h2⟩ := tokCells_get ts i k t a hi
  have hc : ∀ j u, (tokCells ts)[j]? = some u → w.cell? ⟨g, j, none⟩ = some u := fun j u hj => by
    have := h.cells hg j u hj
    by_cases h0 : j = 0
    · subst h0; simpa [Addr.add] using this
    · simpa [Addr.add, h0] using this
  exact ⟨hc _ _ h0, hc _ _ h1, hc _ _ h2⟩

/-- A token in a block of its own. -/
theorem box3 {w W : World} {k : Int} {t : Bs} {a : Int} (hW : W = w.alloc (.cells #[.int .i64 k, str t, .int .i64 a] 32)) :
    W.heap[w.heap.size]? = some (.cells #[.int .i64 k, str t, .int .i64 a] 32 (0, 0)) ∧ W.cell? ⟨w.heap.size, 0, none⟩ = some (.int .i64 k) ∧ W.cell? ⟨w.heap.size, 1, none⟩ = some (str t) ∧ W.cell? ⟨w.heap.size, 2, none⟩ = some (.int .i64 a) ∧ W.heap.size = w.heap.size + 1 ∧ Below w.heap.size w W := by
  have h : W.heap[w.heap.size]? = some (.cells #[.int .i64 k, str t, .int .i64 a] 32 (0, 0)) := by rw [hW]; exact new_last _ _
  refine ⟨h, by rw [Lib.cell_of_heap h]; rfl, by rw [Lib.cell_of_heap h]; rfl, by rw [Lib.cell_of_heap h]; rfl, by rw [hW]; simp only [World.alloc, Array.size_push], by rw [hW]; exact (Below.refl _ w).alloc (Nat.le_refl _) _⟩
theorem scan_ok {l : Bs} {ts : List Tok} (h : scanP l = .ok ts) (w : World) (hM : MaxW w) :
    Calls Tryd.prog 8 #[str l] w fun e w' => ∃ v, e = .returned (.tuple #[v, .pointer none]) ∧ ToksAt w' v ts ∧ Below w.heap.size w w' := by
  obtain ⟨hst, hl⟩ := scanP_ok h
  refine (scan_any l (by omega) w hM).mono ?_
  rintro e w' ⟨hb, hp⟩
  rw [h] at hp
  obtain ⟨v, rfl, ho⟩ := hp
  exact ⟨v, rfl, toks_of_own ho hst.ne, hb⟩
theorem scan_er {l : Bs} {c : Int} {a : Nat} (h : scanP l = .error (c, a)) (hl : l.length ≤ 9223372036854775807) (w : World) (hM : MaxW w) :
    Calls Tryd.prog 8 #[str l] w fun e w' => ∃ d, e = .returned (.tuple #[.slice none 0 0, .pointer (some ⟨d, 0, none⟩)]) ∧ d < w'.heap.size ∧ w'.heap[d]? = some (.cells #[.int .i64 c, .string ⟨#[]⟩, .int .i64 a] 29 (0, 0)) ∧ Below w.heap.size w w' := by
  refine (scan_any l hl w hM).mono ?_
  rintro e w' ⟨hb, hp⟩
  rw [h] at hp
  obtain ⟨d, _, rfl, hd⟩ := hp
  exact ⟨d, rfl, (Array.getElem?_eq_some_iff.1 hd).1, hd, hb⟩

theorem is_true (d : Nat) (c a : Int) (hc : c ≠ 0) (w : World) (h : w.heap[d]? = some (.cells #[.int .i64 c, .string ⟨#[]⟩, .int .i64 a] 29 (0, 0))) :
    Calls Tryd.prog 10 #[.pointer (some ⟨d, 0, none⟩), .int .i64 c, .int .i64 a] w fun e w' => e = .returned (.bool true) ∧ w' = w := by
  have hlt := (Array.getElem?_eq_some_iff.1 h).1
  have c0 : w.cell? ⟨d, 0, none⟩ = some (.int .i64 c) := by rw [Lib.cell_of_heap h]; rfl
  have c1 : w.cell? ⟨d, 1, none⟩ = some (.string ⟨#[]⟩) := by rw [Lib.cell_of_heap h]; rfl
  have c2 : w.cell? ⟨d, 2, none⟩ = some (.int .i64 a) := by rw [Lib.cell_of_heap h]; rfl
  have hc0 : (c == 0) = false := by simpa using hc
  clear h
  go_enter Tryd.func10, Tryd.ntmps10
  go_wp2
  go_ret
  exact ⟨rfl, rfl⟩

set_option maxHeartbeats 4000000 in
theorem awake04 (w : World) (hM : MaxW w) : Calls Tryd.prog 7 #[] w fun e w' => e = .returned (.bool true) ∧ Below w.heap.size w w' := by
  have HM := Lib.hid hM
  clear hM
  go_enter Tryd.func7, Tryd.ntmps7
  go_wp2_with fail
  refine (scan_ok ex1 w HM.out).mono ?_
  rintro e w1 ⟨v1, rfl, ht1, hb1⟩
  go_wp2_with fail
  refine (scan_er ex2 (by decide) w1 (HM.out.mono hb1)).mono ?_
  rintro e w2 ⟨d2, rfl, hd2, hc2, hb2⟩
  go_wp2_with fail
  have hb12 := hb1.trans (hb2.mono hb1.size)
  refine (scan_ok ex3 w2 (HM.out.mono hb12)).mono ?_
  rintro e w3 ⟨v3, rfl, ht3, hb3⟩
  have hb13 := hb12.trans (hb3.mono hb12.size)
  have hc3 := (hb3.block d2 hd2).trans hc2
  have IS := is_true d2 40 2 (by decide) w3 hc3
  obtain ⟨g1, p1, rfl, hg1, _, hk1⟩ := (ht1.mono hb2).mono hb3
  obtain ⟨g3, p3, rfl, hg3, _, hk3⟩ := ht3
  have x1 := (hk1 2 _ _ _ rfl).2.1
  have x3 := (hk3 0 _ _ _ rfl).2.1
  have l1 : ([(1, [97], 0), (4, [61], 2), (3, [120, 36, 123, 98, 125], 4), (0, [], 15)] : List Tok).length = 4 := rfl
  have l3 : ([(3, [97, 92, 34, 98, 92, 110], 0), (0, [], 9)] : List Tok).length = 2 := rfl
  simp only [l1, l3]
  clear hk1 hk3 ht1 hc2 hc3 hb1 hb2 hb3 hb12 l1 l3
  go_wp2_with fail
  refine IS.mono ?_
  rintro e w4 ⟨rfl, hw4⟩
  rw [hw4]
  clear hw4 IS
  go_wp2
  go_ret
  exact ⟨rfl, hb13⟩

end Go.Proofs.YtgmgmjddadgkkaaDoor
