/- A region of New that draws its order: the row of what is behind a node is read, grown and stored. Printed by rg31b.py. -/
import Derived.Test.YtelioljmhlabjaaDoorRg31
namespace Go.Proofs.YtelioljmhlabjaaDoor
open Go.RowKit
set_option maxRecDepth 100000

noncomputable def ops31b : List Oper := opsOf Tryd.f31 11
def dst31b : List Nat := [58, 59, 60, 61, 62, 63, 64, 65, 66, 67, 68, 69, 70, 71, 72, 73, 74, 75, 76]
def V31b (b c N n p q : Nat) (row : Value) (j : Nat) : Value := ([.pointer (some ⟨b, 0, none⟩), .pointer (some ⟨b, 0, none⟩), .pointer (some ⟨b, 2, none⟩), .slice (some ⟨N, 0, none⟩) n n, .pointer (some ⟨c, 0, none⟩), .int .i64 p, .pointer (some ⟨b, 0, none⟩), .pointer (some ⟨b, 0, none⟩), .pointer (some ⟨b, 2, none⟩), .slice (some ⟨N, 0, none⟩) n n, .pointer (some ⟨c, 0, none⟩), .int .i64 p, .pointer (some ⟨N, p, none⟩), row, .pointer (some ⟨c, 1, none⟩), .int .i64 q, undef, undef, .pointer (some ⟨N, p, none⟩)] : List Value).getD j undef

/-- What the append leaves: the row, one longer. -/
def RowR (w0 : World) (base q : Nat) (row : Value) (xs : List Value) (v : Value) (w : World) : Prop :=
  w.ownsRow base 3 1 v (xs.length + 1) (xs ++ [.int .i64 q]) ∧ (w0.alloc (.cells #[.int .i64 q] 3)).grownBy w row.ownBlock ∧ (v.ownBlock = row.ownBlock ∨ v.ownBlock = some (w0.heap.size + 1))

structure G11 (w0 : World) (b c N n p q base : Nat) (row : Value) (xs : List Value) (L : Nat → Bool) (s : Nat → Value) (w : World) : Prop where
  det : ∀ j, j < 16 ∨ j = 18 → L j = true → s j = V31b b c N n p q row j
  a0 : L 16 = false → w = w0
  a1 : L 16 = true → s 16 = .slice (some ⟨w0.heap.size, 0, none⟩) 1 1
  a2 : L 16 = true → L 17 = false → w = w0.alloc (.cells #[.int .i64 q] 3)
  a3 : L 17 = true → L 19 = false → RowR w0 base q row xs (s 17) w
  a4 : L 19 = true → ∃ w1, RowR w0 base q row xs (s 17) w1 ∧ w = w1.setCell ⟨N, p, none⟩ (s 17)

theorem or_off' {L : Nat → Bool} {i j : Nat} (h : j ≠ i) : (L j || j == i) = L j := by
  have : (j == i) = false := by simpa using h
  rw [this, Bool.or_false]

section
variable {w0 : World} {b c N n p q base : Nat} {row : Value} {xs : List Value} {L : Nat → Bool} {s : Nat → Value} {w : World}
theorem G11.read (h : G11 w0 b c N n p q base row xs L s w) (i : Nat) (hi : i < 16 ∨ i = 18) : G11 w0 b c N n p q base row xs (fun j => L j || j == i) (updS s i (V31b b c N n p q row i)) w := by
  have e16 : (L 16 || 16 == i) = L 16 := or_off' (by omega)
  have e17 : (L 17 || 17 == i) = L 17 := or_off' (by omega)
  have e19 : (L 19 || 19 == i) = L 19 := or_off' (by omega)
  have u16 : updS s i (V31b b c N n p q row i) 16 = s 16 := by simp [updS, show (16 : Nat) ≠ i by omega]
  have u17 : updS s i (V31b b c N n p q row i) 17 = s 17 := by simp [updS, show (17 : Nat) ≠ i by omega]
  refine ⟨fun j hj hL => ?_, fun h1 => h.a0 (by rw [e16] at h1; exact h1), fun h1 => ?_, fun h1 h2 => ?_, fun h1 h2 => ?_, fun h1 => ?_⟩
  · by_cases e : j = i
    · subst e; simp [updS]
    · rw [or_off' e] at hL
      simp only [updS, e, if_false]
      exact h.det j hj hL
  · rw [e16] at h1; rw [u16]; exact h.a1 h1
  · rw [e16] at h1; rw [e17] at h2; exact h.a2 h1 h2
  · rw [e17] at h1; rw [e19] at h2; rw [u17]; exact h.a3 h1 h2
  · rw [e19] at h1; rw [u17]; exact h.a4 h1
/-- What lay ahead, and isn't the row's own block, lies as it lay. -/
theorem G11.keep (h : G11 w0 b c N n p q base row xs L s w) (h19 : L 19 = false) {x : Nat} (hx : x < w0.heap.size) (hr : row.ownBlock ≠ some x) : w.heap[x]? = w0.heap[x]? := by
  cases h16 : L 16 with
  | false => rw [h.a0 h16]
  | true =>
    cases h17 : L 17 with
    | false => rw [h.a2 h16 h17]; exact Below.heap_alloc _ _ _ hx
    | true =>
      have := (h.a3 h17 h19).2.1
      exact (this.block x (by simp; omega) (fun e => hr e.symm)).trans (Below.heap_alloc _ _ _ hx)
end

set_option maxHeartbeats 2000000 in
theorem region31b (a : Act) (w : World) (Q : Exit → Act → World → Prop) (b c N n p q base : Nat) (row : Value) (xs : List Value)
    (e10 : a.eval (.tmp 10) = .pointer (some ⟨b, 0, none⟩)) (e12 : a.eval (.tmp 12) = .pointer (some ⟨c, 0, none⟩)) (hsz : a.tmps.size = 79) (hp : p < n)
    (c2 : w.drew.cell? ⟨b, 2, none⟩ = some (.slice (some ⟨N, 0, none⟩) n n)) (cp : w.drew.cell? ⟨c, 0, none⟩ = some (.int .i64 p)) (cq : w.drew.cell? ⟨c, 1, none⟩ = some (.int .i64 q)) (cr : w.drew.cell? ⟨N, p, none⟩ = some row) (fr : w.drew.frozen? ⟨N, p, none⟩ = false)
    (hown : w.drew.ownsRow base 3 1 row xs.length xs) (hbase : base ≤ w.heap.size) (hxl : xs.length ≤ 5000) (hr : ∀ x, row.ownBlock = some x → x ≠ b ∧ x ≠ c ∧ x ≠ N)
    (hQ : ∀ v w1, RowR w.drew base q row xs v w1 → Q .normal (((((((((((((((((((a.put (some 58) (.pointer (some ⟨b, 0, none⟩))).put (some 59) (.pointer (some ⟨b, 0, none⟩))).put (some 60) (.pointer (some ⟨b, 2, none⟩))).put (some 61) (.slice (some ⟨N, 0, none⟩) n n)).put (some 62) (.pointer (some ⟨c, 0, none⟩))).put (some 63) (.int .i64 p)).put (some 64) (.pointer (some ⟨b, 0, none⟩))).put (some 65) (.pointer (some ⟨b, 0, none⟩))).put (some 66) (.pointer (some ⟨b, 2, none⟩))).put (some 67) (.slice (some ⟨N, 0, none⟩) n n)).put (some 68) (.pointer (some ⟨c, 0, none⟩))).put (some 69) (.int .i64 p)).put (some 70) (.pointer (some ⟨N, p, none⟩))).put (some 71) (row)).put (some 72) (.pointer (some ⟨c, 1, none⟩))).put (some 73) (.int .i64 q)).put (some 74) (.slice (some ⟨w.drew.heap.size, 0, none⟩) 1 1)).put (some 75) (v)).put (some 76) (.pointer (some ⟨N, p, none⟩))) (w1.setCell ⟨N, p, none⟩ v)) :
    (Code.region 11 ops31b.toArray true).wp Tryd.prog Q a w := by
  have lb : b < w.drew.heap.size := World.block_lt_of_cell? _ _ c2
  have lc : c < w.drew.heap.size := World.block_lt_of_cell? _ _ cp
  have lN : N < w.drew.heap.size := World.block_lt_of_cell? _ _ cr
  have rb : row.ownBlock ≠ some b := fun e => (hr b e).1 rfl
  have rc : row.ownBlock ≠ some c := fun e => (hr c e).2.1 rfl
  have rN : row.ownBlock ≠ some N := fun e => (hr N e).2.2 rfl
  obtain ⟨i0, hi0, hz0, hz1, hz2⟩ := info_parts Tryd.info3
  refine wp_region_puts dst31b (G11 w.drew b c N n p q base row xs) (by kernel_rfl) (by kernel_rfl) (by rfl) (by kernel_rfl) (by decide) (fun d hd => ?_)
    ⟨fun j _ h => (by cases h), fun _ => rfl, fun h => (by cases h), fun h => (by cases h), fun h => (by cases h), fun h => (by cases h)⟩ ?_ ?_
  · rw [hsz]
    have : ∀ d ∈ dst31b, d < 79 := by decide
    exact this d hd
  · intro L s w1 hG i o ho hL hdep hcl a' he K hK
    have hi : i < 20 := (List.getElem?_eq_some_iff.1 ho).1
    have c17 : L 17 = true → L 16 = true := fun h => hcl 17 _ rfl h 16 (by decide)
    have c19 : ∀ j, j < 19 → L 19 = true → L j = true := fun j hj h => by
      have h1 := hcl 19 _ rfl h
      have : ∀ j, j < 19 → j ∈ depsOf (ops31b.getD 19 default) := by
        have e : depsOf (ops31b.getD 19 default) = depsOf (ops31b.getD 19 default) := rfl
        decide
      exact h1 j (this j hj)
    have f10 : a'.eval (.tmp 10) = .pointer (some ⟨b, 0, none⟩) := (he.other 10 (by decide)).trans e10
    have f12 : a'.eval (.tmp 12) = .pointer (some ⟨c, 0, none⟩) := (he.other 12 (by decide)).trans e12
    have h19 : i < 19 → L 19 = false := fun h => by
      cases hh : L 19 with
      | false => rfl
      | true => rw [c19 i h hh] at hL; cases hL
    have cell : ∀ (h : L 19 = false) (x o : Nat), x < w.drew.heap.size → row.ownBlock ≠ some x → w1.cell? ⟨x, o, none⟩ = w.drew.cell? ⟨x, o, none⟩ := fun h x o hx hrx => World.cell?_of_block (hG.keep h hx hrx)
    have ev' : ∀ j, j < 16 ∨ j = 18 → L j = true → a'.eval (.tmp (dst31b.getD j 0)) = V31b b c N n p q row j := fun j hj hLj => (he.done j (by have : dst31b.length = 19 := rfl; omega) hLj).trans (hG.det j hj hLj)
    clear hQ hcl e10 e12
    rcases (show i = 0 ∨ i = 1 ∨ i = 2 ∨ i = 3 ∨ i = 4 ∨ i = 5 ∨ i = 6 ∨ i = 7 ∨ i = 8 ∨ i = 9 ∨ i = 10 ∨ i = 11 ∨ i = 12 ∨ i = 13 ∨ i = 14 ∨ i = 15 ∨ i = 16 ∨ i = 17 ∨ i = 18 ∨ i = 19 by omega) with rfl | rfl | rfl | rfl | rfl | rfl | rfl | rfl | rfl | rfl | rfl | rfl | rfl | rfl | rfl | rfl | rfl | rfl | rfl | rfl
    · change some _ = some o at ho
      obtain rfl := Option.some.inj ho
      unfold Oper.wp execOp
      simp only [f10]
      go_simp
      exact hK _ _ (hG.read 0 (by decide))
    · change some _ = some o at ho
      obtain rfl := Option.some.inj ho
      have x58 : a'.eval (.tmp 58) = .pointer (some ⟨b, 0, none⟩) := ev' 0 (by decide) (hdep 0 (by decide))
      unfold Oper.wp execOp
      simp only [x58]
      go_simp
      exact hK _ _ (hG.read 1 (by decide))
    · change some _ = some o at ho
      obtain rfl := Option.some.inj ho
      have x59 : a'.eval (.tmp 59) = .pointer (some ⟨b, 0, none⟩) := ev' 1 (by decide) (hdep 1 (by decide))
      unfold Oper.wp execOp
      simp only [x59]
      go_simp
      exact hK _ _ (hG.read 2 (by decide))
    · change some _ = some o at ho
      obtain rfl := Option.some.inj ho
      have x60 : a'.eval (.tmp 60) = .pointer (some ⟨b, 2, none⟩) := ev' 2 (by decide) (hdep 2 (by decide))
      have dc := (cell (h19 (by decide)) b 2 lb rb).trans c2
      unfold Oper.wp execOp
      simp only [x60]
      go_simp
      exact hK _ _ (hG.read 3 (by decide))
    · change some _ = some o at ho
      obtain rfl := Option.some.inj ho
      unfold Oper.wp execOp
      simp only [f12]
      go_simp
      exact hK _ _ (hG.read 4 (by decide))
    · change some _ = some o at ho
      obtain rfl := Option.some.inj ho
      have x62 : a'.eval (.tmp 62) = .pointer (some ⟨c, 0, none⟩) := ev' 4 (by decide) (hdep 4 (by decide))
      have dc := (cell (h19 (by decide)) c 0 lc rc).trans cp
      unfold Oper.wp execOp
      simp only [x62]
      go_simp
      exact hK _ _ (hG.read 5 (by decide))
    · change some _ = some o at ho
      obtain rfl := Option.some.inj ho
      unfold Oper.wp execOp
      simp only [f10]
      go_simp
      exact hK _ _ (hG.read 6 (by decide))
    · change some _ = some o at ho
      obtain rfl := Option.some.inj ho
      have x64 : a'.eval (.tmp 64) = .pointer (some ⟨b, 0, none⟩) := ev' 6 (by decide) (hdep 6 (by decide))
      unfold Oper.wp execOp
      simp only [x64]
      go_simp
      exact hK _ _ (hG.read 7 (by decide))
    · change some _ = some o at ho
      obtain rfl := Option.some.inj ho
      have x65 : a'.eval (.tmp 65) = .pointer (some ⟨b, 0, none⟩) := ev' 7 (by decide) (hdep 7 (by decide))
      unfold Oper.wp execOp
      simp only [x65]
      go_simp
      exact hK _ _ (hG.read 8 (by decide))
    · change some _ = some o at ho
      obtain rfl := Option.some.inj ho
      have x66 : a'.eval (.tmp 66) = .pointer (some ⟨b, 2, none⟩) := ev' 8 (by decide) (hdep 8 (by decide))
      have dc := (cell (h19 (by decide)) b 2 lb rb).trans c2
      unfold Oper.wp execOp
      simp only [x66]
      go_simp
      exact hK _ _ (hG.read 9 (by decide))
    · change some _ = some o at ho
      obtain rfl := Option.some.inj ho
      unfold Oper.wp execOp
      simp only [f12]
      go_simp
      exact hK _ _ (hG.read 10 (by decide))
    · change some _ = some o at ho
      obtain rfl := Option.some.inj ho
      have x68 : a'.eval (.tmp 68) = .pointer (some ⟨c, 0, none⟩) := ev' 10 (by decide) (hdep 10 (by decide))
      have dc := (cell (h19 (by decide)) c 0 lc rc).trans cp
      unfold Oper.wp execOp
      simp only [x68]
      go_simp
      exact hK _ _ (hG.read 11 (by decide))
    · change some _ = some o at ho
      obtain rfl := Option.some.inj ho
      have x67 : a'.eval (.tmp 67) = .slice (some ⟨N, 0, none⟩) n n := ev' 9 (by decide) (hdep 9 (by decide))
      have x69 : a'.eval (.tmp 69) = .int .i64 p := ev' 11 (by decide) (hdep 11 (by decide))
      unfold Oper.wp execOp
      simp only [x67, x69]
      go_simp
      exact hK _ _ (hG.read 12 (by decide))
    · change some _ = some o at ho
      obtain rfl := Option.some.inj ho
      have x70 : a'.eval (.tmp 70) = .pointer (some ⟨N, p, none⟩) := ev' 12 (by decide) (hdep 12 (by decide))
      have dc := (cell (h19 (by decide)) N p lN rN).trans cr
      unfold Oper.wp execOp
      simp only [x70]
      go_simp
      exact hK _ _ (hG.read 13 (by decide))
    · change some _ = some o at ho
      obtain rfl := Option.some.inj ho
      unfold Oper.wp execOp
      simp only [f12]
      go_simp
      exact hK _ _ (hG.read 14 (by decide))
    · change some _ = some o at ho
      obtain rfl := Option.some.inj ho
      have x72 : a'.eval (.tmp 72) = .pointer (some ⟨c, 1, none⟩) := ev' 14 (by decide) (hdep 14 (by decide))
      have dc := (cell (h19 (by decide)) c 1 lc rc).trans cq
      unfold Oper.wp execOp
      simp only [x72]
      go_simp
      exact hK _ _ (hG.read 15 (by decide))
    · change some _ = some o at ho
      obtain rfl := Option.some.inj ho
      have x73 : a'.eval (.tmp 73) = .int .i64 q := ev' 15 (by decide) (hdep 15 (by decide))
      have h17 : L 17 = false := by
        cases hh : L 17 with
        | false => rfl
        | true => rw [c17 hh] at hL; cases hL
      obtain rfl := hG.a0 hL
      have hk : K (a'.put (some 74) (.slice (some ⟨w.drew.heap.size, 0, none⟩) 1 1)) (w.drew.alloc (.cells #[.int .i64 q] 3)) := by
        refine hK _ _ ⟨fun j hj hLj => ?_, fun h => (by simp at h), fun _ => by simp [updS], fun _ _ => rfl, fun h => ?_, fun h => ?_⟩
        · rw [or_off' (by omega)] at hLj
          simp only [updS, show j ≠ 16 by omega, if_false]
          exact hG.det j hj hLj
        · rw [or_off' (by decide), h17] at h; cases h
        · rw [or_off' (by decide), h19 (by decide)] at h; cases h
      unfold Oper.wp execOp
      simp only [Act.eval, Array.getD_eq_getD_getElem?] at x73
      go_simp
      exact hk
    · change some _ = some o at ho
      obtain rfl := Option.some.inj ho
      have d16 := hdep 16 (by decide)
      have x71 : a'.eval (.tmp 71) = row := ev' 13 (by decide) (hdep 13 (by decide))
      have x74 : a'.eval (.tmp 74) = .slice (some ⟨w.drew.heap.size, 0, none⟩) 1 1 := (he.done 16 (by decide) d16).trans (hG.a1 d16)
      obtain rfl := hG.a2 d16 hL
      obtain ⟨v', w2, hr', h2, h3, h4⟩ := run_append_fresh (P := Tryd.prog) (w.drew.alloc (.cells #[.int .i64 q] 3)) base 26 26 3 i0 _ 1 8 Tryd.underlying26 hi0 hz0 hz1 hz2 rfl (by decide) row xs.length xs (hown.alloc _) ⟨w.drew.heap.size, 0, none⟩ 1 1 [.int .i64 q] rfl (cell_one_new _ _ _) (fun u hu => by simp at hu; subst hu; rfl) (by unfold maxLen; omega) (by omega) (by
        have h1 : w.drew.heap.size = w.heap.size := rfl
        simp
        omega)
      have hk : K (a'.put (some 75) v') w2 := by
        refine hK _ _ ⟨fun j hj hLj => ?_, fun h => ?_, fun h => ?_, fun _ h => ?_, fun _ _ => ?_, fun h => ?_⟩
        · rw [or_off' (by omega)] at hLj
          simp only [updS, show j ≠ 17 by omega, if_false]
          exact hG.det j hj hLj
        · rw [or_off' (by decide), d16] at h; cases h
        · simp only [updS, show (16 : Nat) ≠ 17 by decide, if_false]; exact hG.a1 d16
        · simp at h
        · refine ⟨by simpa [updS] using h2, h3, ?_⟩
          simpa [updS] using h4
        · rw [or_off' (by decide), h19 (by decide)] at h; cases h
      unfold Oper.wp execOp
      simp only [resolve, invoke, builtin, Sem.run_bind, Sem.run_pure, Result.andThen_ok, List.map_toArray, List.map_cons, List.map_nil, x71, x74, hr']
      exact hk
    · change some _ = some o at ho
      obtain rfl := Option.some.inj ho
      have x61 : a'.eval (.tmp 61) = .slice (some ⟨N, 0, none⟩) n n := ev' 3 (by decide) (hdep 3 (by decide))
      have x63 : a'.eval (.tmp 63) = .int .i64 p := ev' 5 (by decide) (hdep 5 (by decide))
      unfold Oper.wp execOp
      simp only [x61, x63]
      go_simp
      exact hK _ _ (hG.read 18 (by decide))
    · change some _ = some o at ho
      obtain rfl := Option.some.inj ho
      have d17 := hdep 17 (by decide)
      have d18 := hdep 18 (by decide)
      have hR := hG.a3 d17 hL
      obtain ⟨ao, cap, hs17⟩ := own_slice hR.1
      have x75 : a'.eval (.tmp 75) = .slice ao (xs.length + 1) cap := (he.done 17 (by decide) d17).trans hs17
      have x76 : a'.eval (.tmp 76) = .pointer (some ⟨N, p, none⟩) := ev' 18 (by decide) d18
      have dc := (cell hL N p lN rN).trans cr
      have df : w1.frozen? ⟨N, p, none⟩ = false := (World.frozen?_of_block (a := ⟨N, p, none⟩) (hG.keep hL lN rN)).trans fr
      have hk : ∀ v, K (a'.put none v) (w1.setCell ⟨N, p, none⟩ (.slice ao (xs.length + 1) cap)) := fun v => by
        refine hK v _ ⟨fun j hj hLj => ?_, fun h => ?_, fun h => ?_, fun _ h => ?_, fun _ h => ?_, fun _ => ⟨w1, ?_, ?_⟩⟩
        · rw [or_off' (by omega)] at hLj
          simp only [updS, show j ≠ 19 by omega, if_false]
          exact hG.det j hj hLj
        · rw [or_off' (by decide), c17 d17] at h; cases h
        · simp only [updS, show (16 : Nat) ≠ 19 by decide, if_false]; exact hG.a1 (c17 d17)
        · rw [or_off' (by decide), d17] at h; cases h
        · simp at h
        · simp only [updS, show (17 : Nat) ≠ 19 by decide, if_false]; exact hR
        · simp only [updS, show (17 : Nat) ≠ 19 by decide, if_false]; rw [hs17]
      unfold Oper.wp execOp
      simp only [x75, x76]
      go_simp
      exact hk undef
  · intro s w1 L hall hG
    have l := fun j (hj : j < 20) => hall j (by have : ops31b.length = 20 := rfl; omega)
    obtain ⟨w2, hR, rfl⟩ := hG.a4 (l 19 (by decide))
    have hv := fun j hj => hG.det j hj (l j (by omega))
    have := hQ (s 17) w2 hR
    have e : putAll dst31b (fun _ => true) s dst31b.length a = ((((((((((((((((((a.put (some 58) (.pointer (some ⟨b, 0, none⟩))).put (some 59) (.pointer (some ⟨b, 0, none⟩))).put (some 60) (.pointer (some ⟨b, 2, none⟩))).put (some 61) (.slice (some ⟨N, 0, none⟩) n n)).put (some 62) (.pointer (some ⟨c, 0, none⟩))).put (some 63) (.int .i64 p)).put (some 64) (.pointer (some ⟨b, 0, none⟩))).put (some 65) (.pointer (some ⟨b, 0, none⟩))).put (some 66) (.pointer (some ⟨b, 2, none⟩))).put (some 67) (.slice (some ⟨N, 0, none⟩) n n)).put (some 68) (.pointer (some ⟨c, 0, none⟩))).put (some 69) (.int .i64 p)).put (some 70) (.pointer (some ⟨N, p, none⟩))).put (some 71) (row)).put (some 72) (.pointer (some ⟨c, 1, none⟩))).put (some 73) (.int .i64 q)).put (some 74) (.slice (some ⟨w.drew.heap.size, 0, none⟩) 1 1)).put (some 75) (s 17)).put (some 76) (.pointer (some ⟨N, p, none⟩)) := by
      show putAll dst31b (fun _ => true) s 19 a = _
      simp only [putAll, if_true, hv 0 (by decide), hv 1 (by decide), hv 2 (by decide), hv 3 (by decide), hv 4 (by decide), hv 5 (by decide), hv 6 (by decide), hv 7 (by decide), hv 8 (by decide), hv 9 (by decide), hv 10 (by decide), hv 11 (by decide), hv 12 (by decide), hv 13 (by decide), hv 14 (by decide), hv 15 (by decide), hv 18 (by decide), hG.a1 (l 16 (by decide))]
      rfl
    rw [e]
    exact this

end Go.Proofs.YtelioljmhlabjaaDoor
