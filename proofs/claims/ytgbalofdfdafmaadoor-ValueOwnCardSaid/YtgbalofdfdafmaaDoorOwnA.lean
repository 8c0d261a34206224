/- The region of ValueOwn that clones both values: in new memory, each in a box of its own. Printed by genown.py. -/
import Derived.Test.YtgbalofdfdafmaaDoorGhost
import Derived.Test.YtgbalofdfdafmaaDoorClnR
import Derived.Test.YtgbalofdfdafmaaDoorPutR
namespace Go.Proofs.YtgbalofdfdafmaaDoor
open Go.RowKit
set_option maxRecDepth 100000
attribute [local go_sem] str_size str_toList str_get

theorem alloc_size (w : World) (o : Obj) : (w.alloc o).heap.size = w.heap.size + 1 := Array.size_push _
noncomputable def opsOwnA : List Oper := opsOf Tryd.f5 5
def dstOwnA : List Nat := [25, 26, 27, 28, 7, 8]
def zeroBox : Obj := .cells #[.int .i64 0, .bool false, .string ⟨#[]⟩, .slice none 0 0, .slice none 0 0] 26 (0, 0)
def EA (t x : VT) (vv vx : Value) (L : Nat → Bool) (s : Nat → Value) (i : Nat) (F : List Nat) (w : World) : Prop :=
  match i with
  | 0 => s 0 = vv
  | 1 => OwnVal w t (s 1) F
  | 2 => s 2 = vx
  | 3 => OwnVal w x (s 3) F
  | 4 => ∃ b, s 4 = .pointer (some ⟨b, 0, none⟩) ∧ F = [b] ∧ (L 6 = false → w.heap[b]? = some zeroBox) ∧ (L 6 = true → w.heap[b]? = some (.cells (s 1).cells 26 (0, 0)))
  | 5 => ∃ b, s 5 = .pointer (some ⟨b, 0, none⟩) ∧ F = [b] ∧ (L 7 = false → w.heap[b]? = some zeroBox) ∧ (L 7 = true → w.heap[b]? = some (.cells (s 3).cells 26 (0, 0)))
  | _ => F = []
theorem EA.keep {t x : VT} {vv vx : Value} {L : Nat → Bool} {s : Nat → Value} {w w' : World} {i : Nat} {v : Value} (hL : L i = false) (h1 : L 6 = true → L 1 = true) (h3 : L 7 = true → L 3 = true) (h6 : i = 6 → False) (h7 : i = 7 → False) (j : Nat) (G : List Nat) (_hj : j < 8) (hLj : L j = true) (hk : ∀ b ∈ G, w'.heap[b]? = w.heap[b]?) (h : EA t x vv vx L s j G w) :
    EA t x vv vx (fun j => L j || j == i) (updS s i v) j G w' := by
  have hji : j ≠ i := fun e => by subst e; rw [hL] at hLj; cases hLj
  have n6 : (6 == i) = false := by simpa using fun e => h6 e.symm
  have n7 : (7 == i) = false := by simpa using fun e => h7 e.symm
  match j, h with
  | 0, h => simpa [EA, updS, hji] using h
  | 1, h => simp only [EA, updS, if_neg hji] at h ⊢; exact h.keep hk
  | 2, h => simpa [EA, updS, hji] using h
  | 3, h => simp only [EA, updS, if_neg hji] at h ⊢; exact h.keep hk
  | 4, h =>
    simp only [EA, updS, if_neg hji, n6, Bool.or_false] at h ⊢
    obtain ⟨b, e, rfl, g1, g2⟩ := h
    refine ⟨b, e, rfl, fun h => (hk b (by simp)).trans (g1 h), fun h => ?_⟩
    have : ¬ 1 = i := fun e => by subst e; rw [h1 h] at hL; cases hL
    rw [if_neg this]
    exact (hk b (by simp)).trans (g2 h)
  | 5, h =>
    simp only [EA, updS, if_neg hji, n7, Bool.or_false] at h ⊢
    obtain ⟨b, e, rfl, g1, g2⟩ := h
    refine ⟨b, e, rfl, fun h => (hk b (by simp)).trans (g1 h), fun h => ?_⟩
    have : ¬ 3 = i := fun e => by subst e; rw [h3 h] at hL; cases hL
    rw [if_neg this]
    exact (hk b (by simp)).trans (g2 h)
  | n + 6, h => exact h

set_option maxHeartbeats 8000000 in
theorem region_ownA (a : Act) (w : World) (Q : Exit → Act → World → Prop) (q r : Nat) (t x : VT) (c0 c1 c2 c3 c4 d0 d1 d2 d3 d4 : Value)
    (e3 : a.eval (.tmp 3) = .pointer (some ⟨q, 0, none⟩)) (e4 : a.eval (.tmp 4) = .pointer (some ⟨r, 0, none⟩)) (hsz : a.tmps.size = 75)
    (hq : w.heap[q]? = some (.cells #[c0, c1, c2, c3, c4] 26 (0, 0))) (hr : w.heap[r]? = some (.cells #[d0, d1, d2, d3, d4] 26 (0, 0)))
    (ht : ValAt w t (.agg #[c0, c1, c2, c3, c4])) (hx : ValAt w x (.agg #[d0, d1, d2, d3, d4])) (ft : fitV t = true) (fx : fitV x = true) (st : sizeV t ≤ 1000000) (sx : sizeV x ≤ 1000000)
    (hQ : ∀ (w' : World) (s : Nat → Value) (b4 b5 : Nat) (F G : List Nat), Below w.heap.size w w' → OwnVal w' t (s 1) F → OwnVal w' x (s 3) G → s 0 = .agg #[c0, c1, c2, c3, c4] → s 2 = .agg #[d0, d1, d2, d3, d4] → s 4 = .pointer (some ⟨b4, 0, none⟩) → s 5 = .pointer (some ⟨b5, 0, none⟩) →
      w'.heap[b4]? = some (.cells (s 1).cells 26 (0, 0)) → w'.heap[b5]? = some (.cells (s 3).cells 26 (0, 0)) → Q .normal (putAll dstOwnA (fun _ => true) s 6 a) w') :
    (Code.region 5 opsOwnA.toArray true).wp Tryd.prog Q a w := by
  have hqlt : q < w.heap.size := (Array.getElem?_eq_some_iff.1 hq).1
  have hrlt : r < w.heap.size := (Array.getElem?_eq_some_iff.1 hr).1
  have dep : ∀ (L : Nat → Bool), (∀ (j : Nat) (o : Oper), opsOwnA[j]? = some o → L j = true → ∀ d ∈ depsOf o, L d = true) → (L 6 = true → L 1 = true ∧ L 3 = true ∧ L 4 = true ∧ L 5 = true) ∧ (L 7 = true → L 3 = true ∧ L 6 = true ∧ L 5 = true) := fun L h =>
    ⟨fun h6 => ⟨h 6 _ rfl h6 1 (by decide), h 6 _ rfl h6 3 (by decide), h 6 _ rfl h6 4 (by decide), h 6 _ rfl h6 5 (by decide)⟩, fun h7 => ⟨h 7 _ rfl h7 3 (by decide), h 7 _ rfl h7 6 (by decide), h 7 _ rfl h7 5 (by decide)⟩⟩
  refine wp_region_puts (ops := opsOwnA) dstOwnA (fun L s w' => GG (EA t x (.agg #[c0, c1, c2, c3, c4]) (.agg #[d0, d1, d2, d3, d4])) 8 w L s w') (by kernel_rfl) (by kernel_rfl) (by kernel_rfl) (by kernel_rfl) (by decide) ?_ GG.zero ?_ ?_
  · rw [hsz]
    have : ∀ d ∈ dstOwnA, d < 75 := by decide
    exact this
  · rintro L s w1 hG i o ho hL hdep hcl a' hE K hK
    obtain ⟨k6, k7⟩ := dep L hcl
    have hi : i < 8 := (List.getElem?_eq_some_iff.1 ho).1
    have hlow := hG.1
    have keep := fun (v : Value) (w' : World) (n6 : i = 6 → False) (n7 : i = 7 → False) => EA.keep (t := t) (x := x) (vv := .agg #[c0, c1, c2, c3, c4]) (vx := .agg #[d0, d1, d2, d3, d4]) (w := w1) (w' := w') (s := s) (v := v) hL (fun h => (k6 h).1) (fun h => (k7 h).1) n6 n7
    clear hQ
    rcases (show i = 0 ∨ i = 1 ∨ i = 2 ∨ i = 3 ∨ i = 4 ∨ i = 5 ∨ i = 6 ∨ i = 7 by omega) with rfl | rfl | rfl | rfl | rfl | rfl | rfl | rfl
    · change some _ = some o at ho
      obtain rfl := Option.some.inj ho
      have y : a'.eval (.tmp 3) = _ := (hE.other 3 (by decide)).trans e3
      obtain ⟨m0, m1, m2, m3, m4, _, _⟩ := cell_box5 ((hlow.block _ hqlt).trans hq)
      unfold Oper.wp execOp
      simp only [y]
      go_simp
      exact hK _ _ (hG.read hL (keep _ _ (by decide) (by decide)) rfl)
    · change some _ = some o at ho
      obtain rfl := Option.some.inj ho
      have z : a'.eval (.tmp 25) = s 0 := hE.done 0 (by decide) (hdep 0 (by decide))
      obtain ⟨γ, g1, g2⟩ := hG.2
      have zz : s 0 = .agg #[c0, c1, c2, c3, c4] := (g1 0 (by decide) (hdep 0 (by decide))).1
      rw [zz] at z
      have C := clone_rval t _ w1 (ht.mono hlow) ft st
      unfold Oper.wp execOp
      simp only [resolve, List.map_toArray, List.map_cons, List.map_nil, z]
      go_simp
      refine C.mono ?_
      rintro e w2 ⟨v', F, rfl, h1, h2, h3, h4⟩
      exact hK _ _ (hG.add hL h4 (keep _ _ (by decide) (by decide)) (show OwnVal w2 t (updS s _ v' _) F by simpa [updS] using h1) h2 (fun b hb => ⟨h3 b hb, h1.lt b hb⟩))
    · change some _ = some o at ho
      obtain rfl := Option.some.inj ho
      have y : a'.eval (.tmp 4) = _ := (hE.other 4 (by decide)).trans e4
      obtain ⟨m0, m1, m2, m3, m4, _, _⟩ := cell_box5 ((hlow.block _ hrlt).trans hr)
      unfold Oper.wp execOp
      simp only [y]
      go_simp
      exact hK _ _ (hG.read hL (keep _ _ (by decide) (by decide)) rfl)
    · change some _ = some o at ho
      obtain rfl := Option.some.inj ho
      have z : a'.eval (.tmp 27) = s 2 := hE.done 2 (by decide) (hdep 2 (by decide))
      obtain ⟨γ, g1, g2⟩ := hG.2
      have zz : s 2 = .agg #[d0, d1, d2, d3, d4] := (g1 2 (by decide) (hdep 2 (by decide))).1
      rw [zz] at z
      have C := clone_rval x _ w1 (hx.mono hlow) fx sx
      unfold Oper.wp execOp
      simp only [resolve, List.map_toArray, List.map_cons, List.map_nil, z]
      go_simp
      refine C.mono ?_
      rintro e w2 ⟨v', F, rfl, h1, h2, h3, h4⟩
      exact hK _ _ (hG.add hL h4 (keep _ _ (by decide) (by decide)) (show OwnVal w2 x (updS s _ v' _) F by simpa [updS] using h1) h2 (fun b hb => ⟨h3 b hb, h1.lt b hb⟩))
    · change some _ = some o at ho
      obtain rfl := Option.some.inj ho
      unfold Oper.wp execOp
      go_simp
      refine hK _ _ (hG.add (F := [w1.heap.size]) hL ((Below.refl _ w1).alloc (Nat.le_refl _) _) (keep _ _ (by decide) (by decide)) ⟨w1.heap.size, by simp [updS], rfl, fun _ => heap_alloc_new _ _, fun h => ?_⟩ (by simp) (by intro b hb; rw [List.mem_singleton] at hb; subst hb; exact ⟨Nat.le_refl _, by rw [alloc_size]; omega⟩))
      have h : L 6 = true := by simpa using h
      have := hcl 6 _ rfl h 4 (by decide)
      rw [hL] at this
      cases this
    · change some _ = some o at ho
      obtain rfl := Option.some.inj ho
      unfold Oper.wp execOp
      go_simp
      refine hK _ _ (hG.add (F := [w1.heap.size]) hL ((Below.refl _ w1).alloc (Nat.le_refl _) _) (keep _ _ (by decide) (by decide)) ⟨w1.heap.size, by simp [updS], rfl, fun _ => heap_alloc_new _ _, fun h => ?_⟩ (by simp) (by intro b hb; rw [List.mem_singleton] at hb; subst hb; exact ⟨Nat.le_refl _, by rw [alloc_size]; omega⟩))
      have h : L 7 = true := by simpa using h
      have := hcl 7 _ rfl h 5 (by decide)
      rw [hL] at this
      cases this
    · change some _ = some o at ho
      obtain rfl := Option.some.inj ho
      obtain ⟨hb, γ, g1, g2⟩ := hG
      have L4 := hdep 4 (by decide)
      have L1 := hdep 1 (by decide)
      obtain ⟨⟨b, p1, p2, p3, p4⟩, _, p5⟩ := g1 4 (by decide) L4
      obtain ⟨o1, _, o2⟩ := g1 1 (by decide) L1
      replace o1 : OwnVal w1 t (s 1) (γ 1) := o1
      have zp : a'.eval (.tmp 7) = .pointer (some ⟨b, 0, none⟩) := (hE.done 4 (by decide) L4).trans p1
      have zv : a'.eval (.tmp 26) = s 1 := hE.done 1 (by decide) L1
      obtain ⟨ai, ci, ak, ck, hf⟩ := o1.at.form
      rw [hf] at zv
      have hz := p3 hL
      unfold zeroBox at hz
      obtain ⟨z0, z1, z2, z3, z4, f0, f1, f2, f3, f4⟩ := free5 hz
      obtain ⟨w5, hw5, hr5, hz5, hk5, hB5⟩ := put_box5 hz (.int .i64 t.kind) (.bool t.flag) (str t.text) (.slice ai t.items.length ci) (.slice ak t.keys.length ck)
      have hbF : b ∈ γ 4 := by rw [p2]; simp
      have hbb := p5 b hbF
      have hGG : GG (EA t x (.agg #[c0, c1, c2, c3, c4]) (.agg #[d0, d1, d2, d3, d4])) 8 w (fun j => L j || j == 6) (updS s 6 (.tuple #[])) w5 := by
        refine ⟨hB5 _ _ (by omega) hb, fun j => if j = 6 then [] else γ j, fun j hj hLj => ?_, fun j k hj hk hjk hLj hLk c hc d hd => ?_⟩
        · by_cases ej : j = 6
          · subst ej
            exact ⟨rfl, by simp, by simp⟩
          · simp only [if_neg ej]
            have hLj' : L j = true := by simpa [ej] using hLj
            obtain ⟨h1, h2, h3⟩ := g1 j hj hLj'
            refine ⟨?_, h2, fun b hb => ⟨(h3 b hb).1, by rw [hz5]; exact (h3 b hb).2⟩⟩
            by_cases e4 : j = 4
            · subst e4
              refine ⟨b, by simpa [updS] using p1, p2, fun h => by simp at h, fun _ => ?_⟩
              have : updS s 6 (.tuple #[]) 1 = s 1 := rfl
              rw [this, hf]
              exact hr5
            · have hkp : ∀ c ∈ γ j, w5.heap[c]? = w1.heap[c]? := fun c hc => hk5 c (fun e => g2 j 4 hj (by decide) e4 hLj' L4 c hc b hbF e)
              match j, hj, h1, ej, e4 with
              | 0, _, h1, _, _ => exact h1
              | 1, _, h1, _, _ => exact OwnVal.keep h1 hkp
              | 2, _, h1, _, _ => exact h1
              | 3, _, h1, _, _ => exact OwnVal.keep h1 hkp
              | 4, _, h1, _, e4 => exact absurd rfl e4
              | 5, _, h1, _, _ =>
                obtain ⟨b', q1, q2, q3, q4⟩ := h1
                rw [q2] at hkp
                refine ⟨b', q1, q2, fun h => (hkp b' (by simp)).trans (q3 (by simpa using h)), fun h => (hkp b' (by simp)).trans (q4 (by simpa using h))⟩
              | 6, _, h1, ej, _ => first | exact absurd rfl ej | exact h1
              | 7, _, h1, ej, _ => first | exact absurd rfl ej | exact h1
              | n + 8, hj, _, _, _ => omega
        · simp only at hc hd
          by_cases ej : j = 6
          · rw [if_pos ej] at hc; cases hc
          · by_cases ek : k = 6
            · rw [if_pos ek] at hd; cases hd
            · rw [if_neg ej] at hc
              rw [if_neg ek] at hd
              exact g2 j k hj hk hjk (by simpa [ej] using hLj) (by simpa [ek] using hLk) c hc d hd
      unfold Oper.wp execOp
      simp only [zp, zv]
      go_simp
      rw [← hw5]
      exact hK _ _ hGG
    · change some _ = some o at ho
      obtain rfl := Option.some.inj ho
      obtain ⟨hb, γ, g1, g2⟩ := hG
      have L5 := hdep 5 (by decide)
      have L3 := hdep 3 (by decide)
      obtain ⟨⟨b, p1, p2, p3, p4⟩, _, p5⟩ := g1 5 (by decide) L5
      obtain ⟨o1, _, o2⟩ := g1 3 (by decide) L3
      replace o1 : OwnVal w1 x (s 3) (γ 3) := o1
      have zp : a'.eval (.tmp 8) = .pointer (some ⟨b, 0, none⟩) := (hE.done 5 (by decide) L5).trans p1
      have zv : a'.eval (.tmp 28) = s 3 := hE.done 3 (by decide) L3
      obtain ⟨ai, ci, ak, ck, hf⟩ := o1.at.form
      rw [hf] at zv
      have hz := p3 hL
      unfold zeroBox at hz
      obtain ⟨z0, z1, z2, z3, z4, f0, f1, f2, f3, f4⟩ := free5 hz
      obtain ⟨w5, hw5, hr5, hz5, hk5, hB5⟩ := put_box5 hz (.int .i64 x.kind) (.bool x.flag) (str x.text) (.slice ai x.items.length ci) (.slice ak x.keys.length ck)
      have hbF : b ∈ γ 5 := by rw [p2]; simp
      have hbb := p5 b hbF
      have hGG : GG (EA t x (.agg #[c0, c1, c2, c3, c4]) (.agg #[d0, d1, d2, d3, d4])) 8 w (fun j => L j || j == 7) (updS s 7 (.tuple #[])) w5 := by
        refine ⟨hB5 _ _ (by omega) hb, fun j => if j = 7 then [] else γ j, fun j hj hLj => ?_, fun j k hj hk hjk hLj hLk c hc d hd => ?_⟩
        · by_cases ej : j = 7
          · subst ej
            exact ⟨rfl, by simp, by simp⟩
          · simp only [if_neg ej]
            have hLj' : L j = true := by simpa [ej] using hLj
            obtain ⟨h1, h2, h3⟩ := g1 j hj hLj'
            refine ⟨?_, h2, fun b hb => ⟨(h3 b hb).1, by rw [hz5]; exact (h3 b hb).2⟩⟩
            by_cases e4 : j = 5
            · subst e4
              refine ⟨b, by simpa [updS] using p1, p2, fun h => by simp at h, fun _ => ?_⟩
              have : updS s 7 (.tuple #[]) 3 = s 3 := rfl
              rw [this, hf]
              exact hr5
            · have hkp : ∀ c ∈ γ j, w5.heap[c]? = w1.heap[c]? := fun c hc => hk5 c (fun e => g2 j 5 hj (by decide) e4 hLj' L5 c hc b hbF e)
              match j, hj, h1, ej, e4 with
              | 0, _, h1, _, _ => exact h1
              | 1, _, h1, _, _ => exact OwnVal.keep h1 hkp
              | 2, _, h1, _, _ => exact h1
              | 3, _, h1, _, _ => exact OwnVal.keep h1 hkp
              | 4, _, h1, _, _ =>
                obtain ⟨b', q1, q2, q3, q4⟩ := h1
                rw [q2] at hkp
                refine ⟨b', q1, q2, fun h => (hkp b' (by simp)).trans (q3 (by simpa using h)), fun h => (hkp b' (by simp)).trans (q4 (by simpa using h))⟩
              | 5, _, h1, _, e4 => exact absurd rfl e4
              | 6, _, h1, ej, _ => first | exact absurd rfl ej | exact h1
              | 7, _, h1, ej, _ => first | exact absurd rfl ej | exact h1
              | n + 8, hj, _, _, _ => omega
        · simp only at hc hd
          by_cases ej : j = 7
          · rw [if_pos ej] at hc; cases hc
          · by_cases ek : k = 7
            · rw [if_pos ek] at hd; cases hd
            · rw [if_neg ej] at hc
              rw [if_neg ek] at hd
              exact g2 j k hj hk hjk (by simpa [ej] using hLj) (by simpa [ek] using hLk) c hc d hd
      unfold Oper.wp execOp
      simp only [zp, zv]
      go_simp
      rw [← hw5]
      exact hK _ _ hGG
  · rintro s w' L hall ⟨hb, γ, g1, _⟩
    have g := fun (i : Nat) (hi : i < 8) => (g1 i hi (hall i hi)).1
    obtain ⟨b4, p1, _, _, p2⟩ := g 4 (by decide)
    obtain ⟨b5, q1, _, _, q2⟩ := g 5 (by decide)
    exact hQ w' s b4 b5 (γ 1) (γ 3) hb (g 1 (by decide)) (g 3 (by decide)) (g 0 (by decide)) (g 2 (by decide)) p1 q1 (p2 (hall 6 (by decide))) (q2 (hall 7 (by decide)))

end Go.Proofs.YtgbalofdfdafmaaDoor
