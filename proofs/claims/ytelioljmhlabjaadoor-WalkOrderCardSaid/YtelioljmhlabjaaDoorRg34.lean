/- A region of Finish that draws its order: what is read, and the call of Reach. Printed by rg34.py. -/
import Derived.Test.YtelioljmhlabjaaDoorFree
namespace Go.Proofs.YtelioljmhlabjaaDoor
open Go.RowKit
set_option maxRecDepth 100000

noncomputable def ops34 : List Oper := opsOf Tryd.f34 12
def dst34 : List Nat := [53, 54, 55, 56, 57, 58, 59, 60, 61, 62, 63, 64, 65, 66, 67, 68, 69, 52, 70, 71, 9, 10]
def V34 (b S N n k : Nat) (ev row : Value) (j : Nat) : Value := ([.pointer (some ⟨b, 0, none⟩), .pointer (some ⟨b, 0, none⟩), .pointer (some ⟨b, 0, none⟩), .slice (some ⟨S, 0, none⟩) n n, .int .i64 n, .pointer (some ⟨b, 0, none⟩), .pointer (some ⟨b, 0, none⟩), .pointer (some ⟨b, 3, none⟩), ev, .pointer (some ⟨b, 0, none⟩), .pointer (some ⟨b, 0, none⟩), .pointer (some ⟨b, 2, none⟩), .slice (some ⟨N, 0, none⟩) n n, .int .i64 k, .pointer (some ⟨N, k, none⟩), row] : List Value).getD j undef

structure G34 (w0 : World) (b S N n k : Nat) (ev row : Value) (R : Value → World → Prop) (L : Nat → Bool) (s : Nat → Value) (w : World) : Prop where
  bel : Below w0.heap.size w0 w
  fst : L 16 = false → w = w0
  det : ∀ j, j < 16 → L j = true → s j = V34 b S N n k ev row j
  res : L 16 = true → ∃ lv, s 16 = .tuple #[lv, .int .i64 0] ∧ R lv w ∧ (L 17 = true → s 17 = .tuple #[lv, .int .i64 0]) ∧ (L 18 = true → s 18 = lv) ∧ (L 19 = true → s 19 = .int .i64 0) ∧ (L 20 = true → s 20 = lv) ∧ (L 21 = true → s 21 = .int .i64 0)
  ord : ∀ j, 17 ≤ j → L j = true → L 16 = true

theorem or_off {L : Nat → Bool} {i j : Nat} (h : j ≠ i) : (L j || j == i) = L j := by
  have : (j == i) = false := by simpa using h
  rw [this, Bool.or_false]
theorem G34.read {w0 : World} {b S N n k : Nat} {ev row : Value} {R : Value → World → Prop} {L : Nat → Bool} {s : Nat → Value} {w : World} (h : G34 w0 b S N n k ev row R L s w) (i : Nat) (hi : i < 16) :
    G34 w0 b S N n k ev row R (fun j => L j || j == i) (updS s i (V34 b S N n k ev row i)) w := by
  have hne : ∀ j, 16 ≤ j → j ≠ i := fun j hj => by omega
  refine ⟨h.bel, fun h1 => h.fst (by rw [or_off (hne 16 (by omega))] at h1; exact h1), fun j hj hL => ?_, fun h1 => ?_, fun j hj h1 => ?_⟩
  · by_cases e : j = i
    · subst e; simp [updS]
    · rw [or_off e] at hL
      simp only [updS, e, if_false]
      exact h.det j hj hL
  · rw [or_off (hne 16 (by omega))] at h1
    obtain ⟨lv, a1, a2, a3, a4, a5, a6, a7⟩ := h.res h1
    have hu : ∀ j, 16 ≤ j → updS s i (V34 b S N n k ev row i) j = s j := fun j hj => by simp [updS, hne j hj]
    refine ⟨lv, by rw [hu 16 (by omega)]; exact a1, a2, ?_, ?_, ?_, ?_, ?_⟩
    · rw [or_off (hne 17 (by omega)), hu 17 (by omega)]; exact a3
    · rw [or_off (hne 18 (by omega)), hu 18 (by omega)]; exact a4
    · rw [or_off (hne 19 (by omega)), hu 19 (by omega)]; exact a5
    · rw [or_off (hne 20 (by omega)), hu 20 (by omega)]; exact a6
    · rw [or_off (hne 21 (by omega)), hu 21 (by omega)]; exact a7
  · rw [or_off (hne j (by omega))] at h1
    rw [or_off (hne 16 (by omega))]
    exact h.ord j hj h1
theorem G34.late {w0 : World} {b S N n k : Nat} {ev row : Value} {R : Value → World → Prop} {L : Nat → Bool} {s : Nat → Value} {w : World} (h : G34 w0 b S N n k ev row R L s w) (i : Nat) (hi : 17 ≤ i) (h16 : L 16 = true) (v : Value)
    (hv : ∀ lv, s 16 = .tuple #[lv, .int .i64 0] → (i = 17 → v = .tuple #[lv, .int .i64 0]) ∧ (i = 18 → v = lv) ∧ (i = 19 → v = .int .i64 0) ∧ (i = 20 → v = lv) ∧ (i = 21 → v = .int .i64 0)) :
    G34 w0 b S N n k ev row R (fun j => L j || j == i) (updS s i v) w := by
  obtain ⟨lv, a1, a2, a3, a4, a5, a6, a7⟩ := h.res h16
  obtain ⟨b3, b4, b5, b6, b7⟩ := hv lv a1
  have key : ∀ j (x : Value), (L j = true → s j = x) → (i = j → v = x) → (L j || j == i) = true → updS s i v j = x := fun j x h1 h2 h3 => by
    by_cases e : j = i
    · simp only [updS, e, if_true]; exact h2 e.symm
    · rw [or_off e] at h3
      simp only [updS, e, if_false]; exact h1 h3
  refine ⟨h.bel, fun h1 => ?_, fun j hj hL => ?_, fun _ => ⟨lv, ?_, a2, key 17 _ a3 b3, key 18 _ a4 b4, key 19 _ a5 b5, key 20 _ a6 b6, key 21 _ a7 b7⟩, fun j hj _ => ?_⟩
  · rw [or_off (by omega), h16] at h1; cases h1
  · rw [or_off (by omega)] at hL
    simp only [updS, show j ≠ i by omega, if_false]
    exact h.det j hj hL
  · simp only [updS, show (16 : Nat) ≠ i by omega, if_false]; exact a1
  · rw [or_off (by omega)]; exact h16

set_option maxHeartbeats 2000000 in
theorem region34 (a : Act) (w : World) (Q : Exit → Act → World → Prop) (b S N n k : Nat) (ev row : Value) (R : Value → World → Prop)
    (e0 : a.eval (.tmp 0) = .pointer (some ⟨b, 0, none⟩)) (e1 : a.eval (.tmp 1) = .int .i64 k) (hsz : a.tmps.size = 85) (hk : k < n)
    (c0 : w.drew.cell? ⟨b, 0, none⟩ = some (.slice (some ⟨S, 0, none⟩) n n)) (c3 : w.drew.cell? ⟨b, 3, none⟩ = some ev) (c2 : w.drew.cell? ⟨b, 2, none⟩ = some (.slice (some ⟨N, 0, none⟩) n n)) (cr : w.drew.cell? ⟨N, k, none⟩ = some row)
    (hC : Calls Tryd.prog 23 #[.int .i64 n, ev, row] w.drew fun e w' => ∃ lv, e = .returned (.tuple #[lv, .int .i64 0]) ∧ R lv w' ∧ Below w.drew.heap.size w.drew w')
    (hQ : ∀ lv w', R lv w' → Below w.drew.heap.size w.drew w' → Q .normal ((((((((((((((((((((((a.put (some 53) (.pointer (some ⟨b, 0, none⟩))).put (some 54) (.pointer (some ⟨b, 0, none⟩))).put (some 55) (.pointer (some ⟨b, 0, none⟩))).put (some 56) (.slice (some ⟨S, 0, none⟩) n n)).put (some 57) (.int .i64 n)).put (some 58) (.pointer (some ⟨b, 0, none⟩))).put (some 59) (.pointer (some ⟨b, 0, none⟩))).put (some 60) (.pointer (some ⟨b, 3, none⟩))).put (some 61) (ev)).put (some 62) (.pointer (some ⟨b, 0, none⟩))).put (some 63) (.pointer (some ⟨b, 0, none⟩))).put (some 64) (.pointer (some ⟨b, 2, none⟩))).put (some 65) (.slice (some ⟨N, 0, none⟩) n n)).put (some 66) (.int .i64 k)).put (some 67) (.pointer (some ⟨N, k, none⟩))).put (some 68) (row)).put (some 69) (.tuple #[lv, .int .i64 0])).put (some 52) (.tuple #[lv, .int .i64 0])).put (some 70) (lv)).put (some 71) (.int .i64 0)).put (some 9) (lv)).put (some 10) (.int .i64 0)) w') :
    (Code.region 12 ops34.toArray true).wp Tryd.prog Q a w := by
  have lb : b < w.drew.heap.size := World.block_lt_of_cell? _ _ c0
  have lN : N < w.drew.heap.size := World.block_lt_of_cell? _ _ cr
  refine wp_region_puts dst34 (G34 w.drew b S N n k ev row R) (by kernel_rfl) (by kernel_rfl) (by rfl) (by kernel_rfl) (by decide) (fun d hd => ?_)
    ⟨Below.refl _ _, fun _ => rfl, fun j _ h => (by cases h), fun h => (by cases h), fun j _ h => (by cases h)⟩ ?_ ?_
  · rw [hsz]
    have : ∀ d ∈ dst34, d < 85 := by decide
    exact this d hd
  · intro L s w1 hG i o ho hL hdep _ a' he K hK
    have hi : i < 22 := (List.getElem?_eq_some_iff.1 ho).1
    have f0 : a'.eval (.tmp 0) = .pointer (some ⟨b, 0, none⟩) := (he.other 0 (by decide)).trans e0
    have f1 : a'.eval (.tmp 1) = .int .i64 k := (he.other 1 (by decide)).trans e1
    have d0 := (hG.bel.cell (p := ⟨b, 0, none⟩) lb).trans c0
    have d3 := (hG.bel.cell (p := ⟨b, 3, none⟩) lb).trans c3
    have d2 := (hG.bel.cell (p := ⟨b, 2, none⟩) lb).trans c2
    have dr := (hG.bel.cell (p := ⟨N, k, none⟩) lN).trans cr
    have ev' : ∀ j, j < 16 → L j = true → a'.eval (.tmp (dst34.getD j 0)) = V34 b S N n k ev row j := fun j hj hLj => (he.done j (by have : dst34.length = 22 := rfl; omega) hLj).trans (hG.det j hj hLj)
    clear c0 c3 c2 cr e0 e1 hQ
    rcases (show i = 0 ∨ i = 1 ∨ i = 2 ∨ i = 3 ∨ i = 4 ∨ i = 5 ∨ i = 6 ∨ i = 7 ∨ i = 8 ∨ i = 9 ∨ i = 10 ∨ i = 11 ∨ i = 12 ∨ i = 13 ∨ i = 14 ∨ i = 15 ∨ i = 16 ∨ i = 17 ∨ i = 18 ∨ i = 19 ∨ i = 20 ∨ i = 21 by omega) with rfl | rfl | rfl | rfl | rfl | rfl | rfl | rfl | rfl | rfl | rfl | rfl | rfl | rfl | rfl | rfl | rfl | rfl | rfl | rfl | rfl | rfl
    · change some _ = some o at ho
      obtain rfl := Option.some.inj ho
      unfold Oper.wp execOp
      simp only [f0]
      go_simp
      exact hK _ _ (hG.read 0 (by decide))
    · change some _ = some o at ho
      obtain rfl := Option.some.inj ho
      have x53 : a'.eval (.tmp 53) = .pointer (some ⟨b, 0, none⟩) := ev' 0 (by decide) (hdep 0 (by decide))
      unfold Oper.wp execOp
      simp only [x53]
      go_simp
      exact hK _ _ (hG.read 1 (by decide))
    · change some _ = some o at ho
      obtain rfl := Option.some.inj ho
      have x54 : a'.eval (.tmp 54) = .pointer (some ⟨b, 0, none⟩) := ev' 1 (by decide) (hdep 1 (by decide))
      unfold Oper.wp execOp
      simp only [x54]
      go_simp
      exact hK _ _ (hG.read 2 (by decide))
    · change some _ = some o at ho
      obtain rfl := Option.some.inj ho
      have x55 : a'.eval (.tmp 55) = .pointer (some ⟨b, 0, none⟩) := ev' 2 (by decide) (hdep 2 (by decide))
      unfold Oper.wp execOp
      simp only [x55]
      go_simp
      exact hK _ _ (hG.read 3 (by decide))
    · change some _ = some o at ho
      obtain rfl := Option.some.inj ho
      have x56 : a'.eval (.tmp 56) = .slice (some ⟨S, 0, none⟩) n n := ev' 3 (by decide) (hdep 3 (by decide))
      unfold Oper.wp execOp
      simp only [resolve, List.map_toArray, List.map_cons, List.map_nil, x56]
      go_simp
      exact hK _ _ (hG.read 4 (by decide))
    · change some _ = some o at ho
      obtain rfl := Option.some.inj ho
      unfold Oper.wp execOp
      simp only [f0]
      go_simp
      exact hK _ _ (hG.read 5 (by decide))
    · change some _ = some o at ho
      obtain rfl := Option.some.inj ho
      have x58 : a'.eval (.tmp 58) = .pointer (some ⟨b, 0, none⟩) := ev' 5 (by decide) (hdep 5 (by decide))
      unfold Oper.wp execOp
      simp only [x58]
      go_simp
      exact hK _ _ (hG.read 6 (by decide))
    · change some _ = some o at ho
      obtain rfl := Option.some.inj ho
      have x59 : a'.eval (.tmp 59) = .pointer (some ⟨b, 0, none⟩) := ev' 6 (by decide) (hdep 6 (by decide))
      unfold Oper.wp execOp
      simp only [x59]
      go_simp
      exact hK _ _ (hG.read 7 (by decide))
    · change some _ = some o at ho
      obtain rfl := Option.some.inj ho
      have x60 : a'.eval (.tmp 60) = .pointer (some ⟨b, 3, none⟩) := ev' 7 (by decide) (hdep 7 (by decide))
      unfold Oper.wp execOp
      simp only [x60]
      go_simp
      exact hK _ _ (hG.read 8 (by decide))
    · change some _ = some o at ho
      obtain rfl := Option.some.inj ho
      unfold Oper.wp execOp
      simp only [f0]
      go_simp
      exact hK _ _ (hG.read 9 (by decide))
    · change some _ = some o at ho
      obtain rfl := Option.some.inj ho
      have x62 : a'.eval (.tmp 62) = .pointer (some ⟨b, 0, none⟩) := ev' 9 (by decide) (hdep 9 (by decide))
      unfold Oper.wp execOp
      simp only [x62]
      go_simp
      exact hK _ _ (hG.read 10 (by decide))
    · change some _ = some o at ho
      obtain rfl := Option.some.inj ho
      have x63 : a'.eval (.tmp 63) = .pointer (some ⟨b, 0, none⟩) := ev' 10 (by decide) (hdep 10 (by decide))
      unfold Oper.wp execOp
      simp only [x63]
      go_simp
      exact hK _ _ (hG.read 11 (by decide))
    · change some _ = some o at ho
      obtain rfl := Option.some.inj ho
      have x64 : a'.eval (.tmp 64) = .pointer (some ⟨b, 2, none⟩) := ev' 11 (by decide) (hdep 11 (by decide))
      unfold Oper.wp execOp
      simp only [x64]
      go_simp
      exact hK _ _ (hG.read 12 (by decide))
    · change some _ = some o at ho
      obtain rfl := Option.some.inj ho
      unfold Oper.wp execOp
      simp only [f1]
      go_simp
      exact hK _ _ (hG.read 13 (by decide))
    · change some _ = some o at ho
      obtain rfl := Option.some.inj ho
      have x65 : a'.eval (.tmp 65) = .slice (some ⟨N, 0, none⟩) n n := ev' 12 (by decide) (hdep 12 (by decide))
      have x66 : a'.eval (.tmp 66) = .int .i64 k := ev' 13 (by decide) (hdep 13 (by decide))
      unfold Oper.wp execOp
      simp only [x65, x66]
      go_simp
      exact hK _ _ (hG.read 14 (by decide))
    · change some _ = some o at ho
      obtain rfl := Option.some.inj ho
      have x67 : a'.eval (.tmp 67) = .pointer (some ⟨N, k, none⟩) := ev' 14 (by decide) (hdep 14 (by decide))
      unfold Oper.wp execOp
      simp only [x67]
      go_simp
      exact hK _ _ (hG.read 15 (by decide))
    · change some _ = some o at ho
      obtain rfl := Option.some.inj ho
      have x57 : a'.eval (.tmp 57) = .int .i64 n := ev' 4 (by decide) (hdep 4 (by decide))
      have x61 : a'.eval (.tmp 61) = ev := ev' 8 (by decide) (hdep 8 (by decide))
      have x68 : a'.eval (.tmp 68) = row := ev' 15 (by decide) (hdep 15 (by decide))
      obtain rfl := hG.fst hL
      unfold Oper.wp execOp
      simp only [resolve, List.map_toArray, List.map_cons, List.map_nil, x57, x61, x68]
      go_simp
      refine hC.mono ?_
      rintro e w2 ⟨lv, rfl, hr, hb⟩
      refine hK _ _ ⟨hb, fun h => (by simp at h), fun j hj hLj => ?_, fun _ => ⟨lv, by simp [updS], hr, ?_, ?_, ?_, ?_, ?_⟩, fun j hj hLj => by simp⟩
      · rw [or_off (by omega)] at hLj
        simp only [updS, show j ≠ 16 by omega, if_false]
        exact hG.det j hj hLj
      · intro h; rw [or_off (by decide)] at h; have := hG.ord 17 (by decide) h; rw [hL] at this; cases this
      · intro h; rw [or_off (by decide)] at h; have := hG.ord 18 (by decide) h; rw [hL] at this; cases this
      · intro h; rw [or_off (by decide)] at h; have := hG.ord 19 (by decide) h; rw [hL] at this; cases this
      · intro h; rw [or_off (by decide)] at h; have := hG.ord 20 (by decide) h; rw [hL] at this; cases this
      · intro h; rw [or_off (by decide)] at h; have := hG.ord 21 (by decide) h; rw [hL] at this; cases this
    · change some _ = some o at ho
      obtain rfl := Option.some.inj ho
      have h16 : L 16 = true := hdep 16 (by decide)
      obtain ⟨lv, a1, a2, a3, a4, a5, a6, a7⟩ := hG.res h16
      have x : a'.eval (.tmp 69) = _ := (he.done 16 (by decide) h16).trans a1
      unfold Oper.wp execOp
      simp only [x]
      go_simp
      refine hK _ _ (hG.late 17 (by decide) h16 _ fun lv2 h2 => ?_)
      obtain rfl : lv = lv2 := by rw [a1] at h2; injection h2 with h3; injection h3 with h4; injection h4
      refine ⟨?_, ?_, ?_, ?_, ?_⟩ <;> intro h <;> first | rfl | (exact absurd h (by decide))
    · change some _ = some o at ho
      obtain rfl := Option.some.inj ho
      have h16 : L 16 = true := hG.ord 17 (by decide) (hdep 17 (by decide))
      obtain ⟨lv, a1, a2, a3, a4, a5, a6, a7⟩ := hG.res h16
      have x : a'.eval (.tmp 52) = _ := (he.done 17 (by decide) (hdep 17 (by decide))).trans (a3 (hdep 17 (by decide)))
      unfold Oper.wp execOp
      simp only [x]
      go_simp
      refine hK _ _ (hG.late 18 (by decide) h16 _ fun lv2 h2 => ?_)
      obtain rfl : lv = lv2 := by rw [a1] at h2; injection h2 with h3; injection h3 with h4; injection h4
      refine ⟨?_, ?_, ?_, ?_, ?_⟩ <;> intro h <;> first | rfl | (exact absurd h (by decide))
    · change some _ = some o at ho
      obtain rfl := Option.some.inj ho
      have h16 : L 16 = true := hG.ord 17 (by decide) (hdep 17 (by decide))
      obtain ⟨lv, a1, a2, a3, a4, a5, a6, a7⟩ := hG.res h16
      have x : a'.eval (.tmp 52) = _ := (he.done 17 (by decide) (hdep 17 (by decide))).trans (a3 (hdep 17 (by decide)))
      unfold Oper.wp execOp
      simp only [x]
      go_simp
      refine hK _ _ (hG.late 19 (by decide) h16 _ fun lv2 h2 => ?_)
      obtain rfl : lv = lv2 := by rw [a1] at h2; injection h2 with h3; injection h3 with h4; injection h4
      refine ⟨?_, ?_, ?_, ?_, ?_⟩ <;> intro h <;> first | rfl | (exact absurd h (by decide))
    · change some _ = some o at ho
      obtain rfl := Option.some.inj ho
      have h16 : L 16 = true := hG.ord 18 (by decide) (hdep 18 (by decide))
      obtain ⟨lv, a1, a2, a3, a4, a5, a6, a7⟩ := hG.res h16
      have x : a'.eval (.tmp 70) = _ := (he.done 18 (by decide) (hdep 18 (by decide))).trans (a4 (hdep 18 (by decide)))
      unfold Oper.wp execOp
      simp only [x]
      go_simp
      refine hK _ _ (hG.late 20 (by decide) h16 _ fun lv2 h2 => ?_)
      obtain rfl : lv = lv2 := by rw [a1] at h2; injection h2 with h3; injection h3 with h4; injection h4
      refine ⟨?_, ?_, ?_, ?_, ?_⟩ <;> intro h <;> first | rfl | (exact absurd h (by decide))
    · change some _ = some o at ho
      obtain rfl := Option.some.inj ho
      have h16 : L 16 = true := hG.ord 19 (by decide) (hdep 19 (by decide))
      obtain ⟨lv, a1, a2, a3, a4, a5, a6, a7⟩ := hG.res h16
      have x : a'.eval (.tmp 71) = _ := (he.done 19 (by decide) (hdep 19 (by decide))).trans (a5 (hdep 19 (by decide)))
      unfold Oper.wp execOp
      simp only [x]
      go_simp
      refine hK _ _ (hG.late 21 (by decide) h16 _ fun lv2 h2 => ?_)
      obtain rfl : lv = lv2 := by rw [a1] at h2; injection h2 with h3; injection h3 with h4; injection h4
      refine ⟨?_, ?_, ?_, ?_, ?_⟩ <;> intro h <;> first | rfl | (exact absurd h (by decide))
  · intro s w1 L hall hG
    obtain ⟨lv, a1, a2, a3, a4, a5, a6, a7⟩ := hG.res (hall 16 (by decide))
    have hv := fun j hj => hG.det j hj (hall j (by have : ops34.length = 22 := rfl; omega))
    have := hQ lv w1 a2 hG.bel
    have e : putAll dst34 (fun _ => true) s dst34.length a = (((((((((((((((((((((a.put (some 53) (.pointer (some ⟨b, 0, none⟩))).put (some 54) (.pointer (some ⟨b, 0, none⟩))).put (some 55) (.pointer (some ⟨b, 0, none⟩))).put (some 56) (.slice (some ⟨S, 0, none⟩) n n)).put (some 57) (.int .i64 n)).put (some 58) (.pointer (some ⟨b, 0, none⟩))).put (some 59) (.pointer (some ⟨b, 0, none⟩))).put (some 60) (.pointer (some ⟨b, 3, none⟩))).put (some 61) (ev)).put (some 62) (.pointer (some ⟨b, 0, none⟩))).put (some 63) (.pointer (some ⟨b, 0, none⟩))).put (some 64) (.pointer (some ⟨b, 2, none⟩))).put (some 65) (.slice (some ⟨N, 0, none⟩) n n)).put (some 66) (.int .i64 k)).put (some 67) (.pointer (some ⟨N, k, none⟩))).put (some 68) (row)).put (some 69) (.tuple #[lv, .int .i64 0])).put (some 52) (.tuple #[lv, .int .i64 0])).put (some 70) (lv)).put (some 71) (.int .i64 0)).put (some 9) (lv)).put (some 10) (.int .i64 0) := by
      show putAll dst34 (fun _ => true) s 22 a = _
      simp only [putAll, if_true, hv 0 (by decide), hv 1 (by decide), hv 2 (by decide), hv 3 (by decide), hv 4 (by decide), hv 5 (by decide), hv 6 (by decide), hv 7 (by decide), hv 8 (by decide), hv 9 (by decide), hv 10 (by decide), hv 11 (by decide), hv 12 (by decide), hv 13 (by decide), hv 14 (by decide), hv 15 (by decide), a1, a3 (hall 17 (by decide)), a4 (hall 18 (by decide)), a5 (hall 19 (by decide)), a6 (hall 20 (by decide)), a7 (hall 21 (by decide))]
      rfl
    rw [e]
    exact this

end Go.Proofs.YtelioljmhlabjaaDoor
