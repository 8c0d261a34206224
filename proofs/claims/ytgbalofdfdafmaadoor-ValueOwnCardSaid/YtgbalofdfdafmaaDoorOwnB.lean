/- The region of ValueOwn that makes six values: each in memory of its own. Printed by genown.py. -/
import Derived.Test.YtgbalofdfdafmaaDoorGhost
import Derived.Test.YtgbalofdfdafmaaDoorOwnA
import Derived.Test.YtgbalofdfdafmaaDoorPutO
import Derived.Test.YtgbalofdfdafmaaDoorDrop
import Derived.Test.YtgbalofdfdafmaaDoorList
namespace Go.Proofs.YtgbalofdfdafmaaDoor
open Go.RowKit
set_option maxRecDepth 100000
attribute [local go_sem] str_size str_toList str_get

noncomputable def opsOwnB : List Oper := opsOf Tryd.f5 8
def dstOwnB : List Nat := [43, 44, 45, 46, 47, 48, 49, 50, 51, 52, 53, 54, 55, 56, 57, 58, 59, 60]
def EB (TP TD t _x TL : VT) (key : List UInt8) (vv vx vg vo : Value) (_L : Nat → Bool) (s : Nat → Value) (i : Nat) (F : List Nat) (w : World) : Prop :=
  match i with
  | 0 => s 0 = vv
  | 1 => s 1 = str key
  | 2 => s 2 = vx
  | 3 => OwnVal w TP (s 3) F
  | 4 => s 4 = vv
  | 5 => s 5 = str key
  | 6 => OwnVal w TD (s 6) F
  | 7 => s 7 = vv
  | 8 => OwnVal w t (s 8) F
  | 9 => s 9 = vv
  | 10 => s 10 = vx
  | 11 => ∃ b, s 11 = .slice (some ⟨b, 0, none⟩) 2 2 ∧ F = [b] ∧ w.heap[b]? = some (.cells (cellsV [vv, vx]).toArray 26 (0, 0))
  | 12 => OwnVal w TL (s 12) F
  | 13 => s 13 = vg
  | 14 => s 14 = vo
  | 15 => ∃ b, s 15 = .slice (some ⟨b, 0, none⟩) 6 6 ∧ F = [b] ∧ w.heap[b]? = some (.cells (cellsV [s 3, s 6, s 8, s 12, vg, vo]).toArray 26 (0, 0))
  | 16 => s 16 = .int .i64 6
  | 17 => s 17 = .int .i64 0
  | _ => True
theorem EB.keep {TP TD t x TL : VT} {key : List UInt8} {vv vx vg vo : Value} {L : Nat → Bool} {s : Nat → Value} {w w' : World} {i : Nat} {v : Value} (hL : L i = false) (h15 : L 15 = true → L 3 = true ∧ L 6 = true ∧ L 8 = true ∧ L 12 = true) (j : Nat) (G : List Nat) (_hj : j < 18) (hLj : L j = true) (hk : ∀ b ∈ G, w'.heap[b]? = w.heap[b]?) (h : EB TP TD t x TL key vv vx vg vo L s j G w) :
    EB TP TD t x TL key vv vx vg vo (fun j => L j || j == i) (updS s i v) j G w' := by
  have hji : j ≠ i := fun e => by subst e; rw [hL] at hLj; cases hLj
  match j, h, hLj with
  | 0, h, _ => simpa [EB, updS, hji] using h
  | 1, h, _ => simpa [EB, updS, hji] using h
  | 2, h, _ => simpa [EB, updS, hji] using h
  | 3, h, _ => simp only [EB, updS, if_neg hji] at h ⊢; exact h.keep hk
  | 4, h, _ => simpa [EB, updS, hji] using h
  | 5, h, _ => simpa [EB, updS, hji] using h
  | 6, h, _ => simp only [EB, updS, if_neg hji] at h ⊢; exact h.keep hk
  | 7, h, _ => simpa [EB, updS, hji] using h
  | 8, h, _ => simp only [EB, updS, if_neg hji] at h ⊢; exact h.keep hk
  | 9, h, _ => simpa [EB, updS, hji] using h
  | 10, h, _ => simpa [EB, updS, hji] using h
  | 11, h, _ =>
    simp only [EB, updS, if_neg hji] at h ⊢
    obtain ⟨b, e, rfl, g1⟩ := h
    exact ⟨b, e, rfl, (hk b (by simp)).trans g1⟩
  | 12, h, _ => simp only [EB, updS, if_neg hji] at h ⊢; exact h.keep hk
  | 13, h, _ => simpa [EB, updS, hji] using h
  | 14, h, _ => simpa [EB, updS, hji] using h
  | 15, h, hLj =>
    obtain ⟨l3, l6, l8, l12⟩ := h15 hLj
    have n3 : ¬ 3 = i := fun e => by subst e; rw [l3] at hL; cases hL
    have n6 : ¬ 6 = i := fun e => by subst e; rw [l6] at hL; cases hL
    have n8 : ¬ 8 = i := fun e => by subst e; rw [l8] at hL; cases hL
    have n12 : ¬ 12 = i := fun e => by subst e; rw [l12] at hL; cases hL
    simp only [EB, updS, if_neg hji, if_neg n3, if_neg n6, if_neg n8, if_neg n12] at h ⊢
    obtain ⟨b, e, rfl, g1⟩ := h
    exact ⟨b, e, rfl, (hk b (by simp)).trans g1⟩
  | 16, h, _ => simpa [EB, updS, hji] using h
  | 17, h, _ => simpa [EB, updS, hji] using h
  | n + 18, h, _ => trivial

set_option maxHeartbeats 16000000 in
theorem region_ownB (a : Act) (w : World) (Q : Exit → Act → World → Prop) (q r qg qo : Nat) (t x TG TO : VT) (key : List UInt8) (ti tk xi xk gi gk oi ok : Option Addr) (tp tq xp xq gp gq op oq : Nat)
    (e2 : a.eval (.tmp 2) = str key) (e3 : a.eval (.tmp 3) = .pointer (some ⟨q, 0, none⟩)) (e4 : a.eval (.tmp 4) = .pointer (some ⟨r, 0, none⟩)) (e9 : a.eval (.tmp 9) = .pointer (some ⟨qg, 0, none⟩)) (e11 : a.eval (.tmp 11) = .pointer (some ⟨qo, 0, none⟩)) (hsz : a.tmps.size = 75)
    (hq : w.heap[q]? = some (.cells (Value.cells (.agg #[.int .i64 t.kind, .bool t.flag, str t.text, .slice ti t.items.length tp, .slice tk t.keys.length tq])) 26 (0, 0))) (hr : w.heap[r]? = some (.cells (Value.cells (.agg #[.int .i64 x.kind, .bool x.flag, str x.text, .slice xi x.items.length xp, .slice xk x.keys.length xq])) 26 (0, 0)))
    (hg : w.heap[qg]? = some (.cells (Value.cells (.agg #[.int .i64 TG.kind, .bool TG.flag, str TG.text, .slice gi TG.items.length gp, .slice gk TG.keys.length gq])) 26 (0, 0))) (ho : w.heap[qo]? = some (.cells (Value.cells (.agg #[.int .i64 TO.kind, .bool TO.flag, str TO.text, .slice oi TO.items.length op, .slice ok TO.keys.length oq])) 26 (0, 0)))
    (ht : ValAt w t (.agg #[.int .i64 t.kind, .bool t.flag, str t.text, .slice ti t.items.length tp, .slice tk t.keys.length tq])) (hx : ValAt w x (.agg #[.int .i64 x.kind, .bool x.flag, str x.text, .slice xi x.items.length xp, .slice xk x.keys.length xq])) (ft : fitV t = true) (fx : fitV x = true) (st : sizeV t ≤ 1000000) (sx : sizeV x ≤ 1000000) (rt : rising t.keys = true) (kt : t.kind = 6 → t.keys.length = t.items.length)
    (hQ : ∀ (w' : World) (s : Nat → Value) (b : Nat) (F3 F6 F8 F12 : List Nat), Below w.heap.size w w' → OwnVal w' (putO t key x) (s 3) F3 → OwnVal w' (dropT t key) (s 6) F6 → OwnVal w' t (s 8) F8 → OwnVal w' (.mk 5 false [] [t, x] []) (s 12) F12 → (F3 ++ (F6 ++ (F8 ++ F12))).Nodup → (∀ c ∈ F3 ++ (F6 ++ (F8 ++ F12)), w.heap.size ≤ c ∧ c ≠ b) → w.heap.size ≤ b →
      s 15 = .slice (some ⟨b, 0, none⟩) 6 6 → s 16 = .int .i64 6 → s 17 = .int .i64 0 → w'.heap[b]? = some (.cells (cellsV [s 3, s 6, s 8, s 12, .agg #[.int .i64 TG.kind, .bool TG.flag, str TG.text, .slice gi TG.items.length gp, .slice gk TG.keys.length gq], .agg #[.int .i64 TO.kind, .bool TO.flag, str TO.text, .slice oi TO.items.length op, .slice ok TO.keys.length oq]]).toArray 26 (0, 0)) → Q .normal (putAll dstOwnB (fun _ => true) s 18 a) w') :
    (Code.region 8 opsOwnB.toArray true).wp Tryd.prog Q a w := by
  have hqlt : q < w.heap.size := (Array.getElem?_eq_some_iff.1 hq).1
  have hrlt : r < w.heap.size := (Array.getElem?_eq_some_iff.1 hr).1
  have hglt : qg < w.heap.size := (Array.getElem?_eq_some_iff.1 hg).1
  have holt : qo < w.heap.size := (Array.getElem?_eq_some_iff.1 ho).1
  have dep : ∀ (L : Nat → Bool), (∀ (j : Nat) (o : Oper), opsOwnB[j]? = some o → L j = true → ∀ d ∈ depsOf o, L d = true) → L 15 = true → L 3 = true ∧ L 6 = true ∧ L 8 = true ∧ L 12 = true := fun L h h15 =>
    ⟨h 15 _ rfl h15 3 (by decide), h 15 _ rfl h15 6 (by decide), h 15 _ rfl h15 8 (by decide), h 15 _ rfl h15 12 (by decide)⟩
  refine wp_region_puts (ops := opsOwnB) dstOwnB (fun L s w' => GG (EB (putO t key x) (dropT t key) t x (.mk 5 false [] [t, x] []) key (.agg #[.int .i64 t.kind, .bool t.flag, str t.text, .slice ti t.items.length tp, .slice tk t.keys.length tq]) (.agg #[.int .i64 x.kind, .bool x.flag, str x.text, .slice xi x.items.length xp, .slice xk x.keys.length xq]) (.agg #[.int .i64 TG.kind, .bool TG.flag, str TG.text, .slice gi TG.items.length gp, .slice gk TG.keys.length gq]) (.agg #[.int .i64 TO.kind, .bool TO.flag, str TO.text, .slice oi TO.items.length op, .slice ok TO.keys.length oq])) 18 w L s w') (by kernel_rfl) (by kernel_rfl) (by kernel_rfl) (by kernel_rfl) (by decide) ?_ GG.zero ?_ ?_
  · rw [hsz]
    have : ∀ d ∈ dstOwnB, d < 75 := by decide
    exact this
  · rintro L s w1 hG i o ho' hL hdep hcl a' hE K hK
    have k15 := dep L hcl
    have hi : i < 18 := (List.getElem?_eq_some_iff.1 ho').1
    have hlow := hG.1
    have keep := fun (v : Value) (w' : World) => EB.keep (TP := putO t key x) (TD := dropT t key) (t := t) (x := x) (TL := .mk 5 false [] [t, x] []) (key := key) (vv := .agg #[.int .i64 t.kind, .bool t.flag, str t.text, .slice ti t.items.length tp, .slice tk t.keys.length tq]) (vx := .agg #[.int .i64 x.kind, .bool x.flag, str x.text, .slice xi x.items.length xp, .slice xk x.keys.length xq]) (vg := .agg #[.int .i64 TG.kind, .bool TG.flag, str TG.text, .slice gi TG.items.length gp, .slice gk TG.keys.length gq]) (vo := .agg #[.int .i64 TO.kind, .bool TO.flag, str TO.text, .slice oi TO.items.length op, .slice ok TO.keys.length oq]) (w := w1) (w' := w') (s := s) (v := v) hL k15
    have ht1 := ht.mono hlow
    have hx1 := hx.mono hlow
    clear hQ
    rcases (show i = 0 ∨ i = 1 ∨ i = 2 ∨ i = 3 ∨ i = 4 ∨ i = 5 ∨ i = 6 ∨ i = 7 ∨ i = 8 ∨ i = 9 ∨ i = 10 ∨ i = 11 ∨ i = 12 ∨ i = 13 ∨ i = 14 ∨ i = 15 ∨ i = 16 ∨ i = 17 by omega) with rfl | rfl | rfl | rfl | rfl | rfl | rfl | rfl | rfl | rfl | rfl | rfl | rfl | rfl | rfl | rfl | rfl | rfl
    · change some _ = some o at ho'
      obtain rfl := Option.some.inj ho'
      have y : a'.eval (.tmp 3) = _ := (hE.other 3 (by decide)).trans e3
      obtain ⟨m0, m1, m2, m3, m4, _, _⟩ := cell_box5 ((hlow.block _ hqlt).trans hq)
      unfold Oper.wp execOp
      simp only [y]
      go_simp
      exact hK _ _ (hG.read hL (keep _ _) rfl)
    · change some _ = some o at ho'
      obtain rfl := Option.some.inj ho'
      have y : a'.eval (.tmp 2) = _ := (hE.other 2 (by decide)).trans e2
      unfold Oper.wp execOp
      simp only [y]
      go_simp
      exact hK _ _ (hG.read hL (keep _ _) rfl)
    · change some _ = some o at ho'
      obtain rfl := Option.some.inj ho'
      have y : a'.eval (.tmp 4) = _ := (hE.other 4 (by decide)).trans e4
      obtain ⟨m0, m1, m2, m3, m4, _, _⟩ := cell_box5 ((hlow.block _ hrlt).trans hr)
      unfold Oper.wp execOp
      simp only [y]
      go_simp
      exact hK _ _ (hG.read hL (keep _ _) rfl)
    · change some _ = some o at ho'
      obtain rfl := Option.some.inj ho'
      obtain ⟨γ, g1, g2⟩ := hG.2
      have z43 : a'.eval (.tmp 43) = s 0 := hE.done 0 (by decide) (hdep 0 (by decide))
      have zz0 : s 0 = .agg #[.int .i64 t.kind, .bool t.flag, str t.text, .slice ti t.items.length tp, .slice tk t.keys.length tq] := (g1 0 (by decide) (hdep 0 (by decide))).1
      have z44 : a'.eval (.tmp 44) = s 1 := hE.done 1 (by decide) (hdep 1 (by decide))
      have zz1 : s 1 = str key := (g1 1 (by decide) (hdep 1 (by decide))).1
      have z45 : a'.eval (.tmp 45) = s 2 := hE.done 2 (by decide) (hdep 2 (by decide))
      have zz2 : s 2 = .agg #[.int .i64 x.kind, .bool x.flag, str x.text, .slice xi x.items.length xp, .slice xk x.keys.length xq] := (g1 2 (by decide) (hdep 2 (by decide))).1
      rw [zz0] at z43
      rw [zz1] at z44
      rw [zz2] at z45
      have C := putO_val t _ key x _ w1 ht1 hx1 ft rt kt st fx sx
      unfold Oper.wp execOp
      simp only [resolve, List.map_toArray, List.map_cons, List.map_nil, z43, z44, z45]
      go_simp
      refine C.mono ?_
      rintro e w2 ⟨v', rfl, F, h1, h2, h3, h4⟩
      exact hK _ _ (hG.add hL h4 (keep _ _) (show OwnVal w2 (putO t key x) (updS s _ v' _) F by simpa [updS] using h1) h2 (fun b hb => ⟨h3 b hb, h1.lt b hb⟩))
    · change some _ = some o at ho'
      obtain rfl := Option.some.inj ho'
      have y : a'.eval (.tmp 3) = _ := (hE.other 3 (by decide)).trans e3
      obtain ⟨m0, m1, m2, m3, m4, _, _⟩ := cell_box5 ((hlow.block _ hqlt).trans hq)
      unfold Oper.wp execOp
      simp only [y]
      go_simp
      exact hK _ _ (hG.read hL (keep _ _) rfl)
    · change some _ = some o at ho'
      obtain rfl := Option.some.inj ho'
      have y : a'.eval (.tmp 2) = _ := (hE.other 2 (by decide)).trans e2
      unfold Oper.wp execOp
      simp only [y]
      go_simp
      exact hK _ _ (hG.read hL (keep _ _) rfl)
    · change some _ = some o at ho'
      obtain rfl := Option.some.inj ho'
      obtain ⟨γ, g1, g2⟩ := hG.2
      have z47 : a'.eval (.tmp 47) = s 4 := hE.done 4 (by decide) (hdep 4 (by decide))
      have zz4 : s 4 = .agg #[.int .i64 t.kind, .bool t.flag, str t.text, .slice ti t.items.length tp, .slice tk t.keys.length tq] := (g1 4 (by decide) (hdep 4 (by decide))).1
      have z48 : a'.eval (.tmp 48) = s 5 := hE.done 5 (by decide) (hdep 5 (by decide))
      have zz5 : s 5 = str key := (g1 5 (by decide) (hdep 5 (by decide))).1
      rw [zz4] at z47
      rw [zz5] at z48
      have C := dropO_val t _ key w1 ht1 ft rt kt st
      unfold Oper.wp execOp
      simp only [resolve, List.map_toArray, List.map_cons, List.map_nil, z47, z48]
      go_simp
      refine C.mono ?_
      rintro e w2 ⟨v', F, rfl, h1, h2, h3, h4⟩
      exact hK _ _ (hG.add hL h4 (keep _ _) (show OwnVal w2 (dropT t key) (updS s _ v' _) F by simpa [updS] using h1) h2 (fun b hb => ⟨h3 b hb, h1.lt b hb⟩))
    · change some _ = some o at ho'
      obtain rfl := Option.some.inj ho'
      have y : a'.eval (.tmp 3) = _ := (hE.other 3 (by decide)).trans e3
      obtain ⟨m0, m1, m2, m3, m4, _, _⟩ := cell_box5 ((hlow.block _ hqlt).trans hq)
      unfold Oper.wp execOp
      simp only [y]
      go_simp
      exact hK _ _ (hG.read hL (keep _ _) rfl)
    · change some _ = some o at ho'
      obtain rfl := Option.some.inj ho'
      obtain ⟨γ, g1, g2⟩ := hG.2
      have z50 : a'.eval (.tmp 50) = s 7 := hE.done 7 (by decide) (hdep 7 (by decide))
      have zz7 : s 7 = .agg #[.int .i64 t.kind, .bool t.flag, str t.text, .slice ti t.items.length tp, .slice tk t.keys.length tq] := (g1 7 (by decide) (hdep 7 (by decide))).1
      rw [zz7] at z50
      have C := clone_val t _ w1 ht1 ft st
      unfold Oper.wp execOp
      simp only [resolve, List.map_toArray, List.map_cons, List.map_nil, z50]
      go_simp
      refine C.mono ?_
      rintro e w2 ⟨v', F, rfl, h1, h2, h3, h4⟩
      exact hK _ _ (hG.add hL h4 (keep _ _) (show OwnVal w2 (t) (updS s _ v' _) F by simpa [updS] using h1) h2 (fun b hb => ⟨h3 b hb, h1.lt b hb⟩))
    · change some _ = some o at ho'
      obtain rfl := Option.some.inj ho'
      have y : a'.eval (.tmp 3) = _ := (hE.other 3 (by decide)).trans e3
      obtain ⟨m0, m1, m2, m3, m4, _, _⟩ := cell_box5 ((hlow.block _ hqlt).trans hq)
      unfold Oper.wp execOp
      simp only [y]
      go_simp
      exact hK _ _ (hG.read hL (keep _ _) rfl)
    · change some _ = some o at ho'
      obtain rfl := Option.some.inj ho'
      have y : a'.eval (.tmp 4) = _ := (hE.other 4 (by decide)).trans e4
      obtain ⟨m0, m1, m2, m3, m4, _, _⟩ := cell_box5 ((hlow.block _ hrlt).trans hr)
      unfold Oper.wp execOp
      simp only [y]
      go_simp
      exact hK _ _ (hG.read hL (keep _ _) rfl)
    · change some _ = some o at ho'
      obtain rfl := Option.some.inj ho'
      obtain ⟨γ, g1, g2⟩ := hG.2
      have z52 : a'.eval (.tmp 52) = s 9 := hE.done 9 (by decide) (hdep 9 (by decide))
      have zz9 : s 9 = .agg #[.int .i64 t.kind, .bool t.flag, str t.text, .slice ti t.items.length tp, .slice tk t.keys.length tq] := (g1 9 (by decide) (hdep 9 (by decide))).1
      have z53 : a'.eval (.tmp 53) = s 10 := hE.done 10 (by decide) (hdep 10 (by decide))
      have zz10 : s 10 = .agg #[.int .i64 x.kind, .bool x.flag, str x.text, .slice xi x.items.length xp, .slice xk x.keys.length xq] := (g1 10 (by decide) (hdep 10 (by decide))).1
      rw [zz9] at z52
      rw [zz10] at z53
      have z52' : a'.tmps[52]?.getD undef = .agg #[.int .i64 t.kind, .bool t.flag, str t.text, .slice ti t.items.length tp, .slice tk t.keys.length tq] := by rw [← Array.getD_eq_getD_getElem?]; exact z52
      have z53' : a'.tmps[53]?.getD undef = .agg #[.int .i64 x.kind, .bool x.flag, str x.text, .slice xi x.items.length xp, .slice xk x.keys.length xq] := by rw [← Array.getD_eq_getD_getElem?]; exact z53
      clear z52 z53
      unfold Oper.wp execOp
      go_simp
      refine hK _ _ (hG.add (F := [w1.heap.size]) hL ((Below.refl _ w1).alloc (Nat.le_refl _) _) (keep _ _) ⟨w1.heap.size, by simp [updS], rfl, heap_alloc_new _ _⟩ (by simp) (by intro b hb; rw [List.mem_singleton] at hb; subst hb; exact ⟨Nat.le_refl _, by rw [alloc_size]; omega⟩))
    · change some _ = some o at ho'
      obtain rfl := Option.some.inj ho'
      obtain ⟨γ, g1, g2⟩ := hG.2
      have z54 : a'.eval (.tmp 54) = s 11 := hE.done 11 (by decide) (hdep 11 (by decide))
      obtain ⟨b, zz, _, hbk⟩ := (g1 11 (by decide) (hdep 11 (by decide))).1
      rw [zz] at z54
      obtain ⟨hrow, hvals⟩ := row_both (w := w1) hbk ht1 hx1
      have C := list_val [t, x] _ _ w1 hrow hvals (by intro y hy; simp at hy; rcases hy with rfl | rfl <;> assumption) (by intro y hy; simp at hy; rcases hy with rfl | rfl <;> assumption) (by simp)
      unfold Oper.wp execOp
      simp only [resolve, List.map_toArray, List.map_cons, List.map_nil, z54]
      go_simp
      refine C.mono ?_
      rintro e w2 ⟨v', rfl, F, h1, h2, h3, h4⟩
      exact hK _ _ (hG.add hL h4 (keep _ _) (show OwnVal w2 (.mk 5 false [] [t, x] []) (updS s _ v' _) F by simpa [updS] using h1) h2 (fun b hb => ⟨h3 b hb, h1.lt b hb⟩))
    · change some _ = some o at ho'
      obtain rfl := Option.some.inj ho'
      have y : a'.eval (.tmp 9) = _ := (hE.other 9 (by decide)).trans e9
      obtain ⟨m0, m1, m2, m3, m4, _, _⟩ := cell_box5 ((hlow.block _ hglt).trans hg)
      unfold Oper.wp execOp
      simp only [y]
      go_simp
      exact hK _ _ (hG.read hL (keep _ _) rfl)
    · change some _ = some o at ho'
      obtain rfl := Option.some.inj ho'
      have y : a'.eval (.tmp 11) = _ := (hE.other 11 (by decide)).trans e11
      obtain ⟨m0, m1, m2, m3, m4, _, _⟩ := cell_box5 ((hlow.block _ holt).trans ho)
      unfold Oper.wp execOp
      simp only [y]
      go_simp
      exact hK _ _ (hG.read hL (keep _ _) rfl)
    · change some _ = some o at ho'
      obtain rfl := Option.some.inj ho'
      obtain ⟨γ, g1, g2⟩ := hG.2
      have z46 : a'.eval (.tmp 46) = s 3 := hE.done 3 (by decide) (hdep 3 (by decide))
      have o3 : OwnVal w1 (putO t key x) (s 3) (γ 3) := (g1 3 (by decide) (hdep 3 (by decide))).1
      obtain ⟨i3, p3, k3, r3, f3⟩ := o3.at.form
      have z49 : a'.eval (.tmp 49) = s 6 := hE.done 6 (by decide) (hdep 6 (by decide))
      have o6 : OwnVal w1 (dropT t key) (s 6) (γ 6) := (g1 6 (by decide) (hdep 6 (by decide))).1
      obtain ⟨i6, p6, k6, r6, f6⟩ := o6.at.form
      have z51 : a'.eval (.tmp 51) = s 8 := hE.done 8 (by decide) (hdep 8 (by decide))
      have o8 : OwnVal w1 (t) (s 8) (γ 8) := (g1 8 (by decide) (hdep 8 (by decide))).1
      obtain ⟨i8, p8, k8, r8, f8⟩ := o8.at.form
      have z55 : a'.eval (.tmp 55) = s 12 := hE.done 12 (by decide) (hdep 12 (by decide))
      have o12 : OwnVal w1 (.mk 5 false [] [t, x] []) (s 12) (γ 12) := (g1 12 (by decide) (hdep 12 (by decide))).1
      obtain ⟨i12, p12, k12, r12, f12⟩ := o12.at.form
      have z56 : a'.eval (.tmp 56) = s 13 := hE.done 13 (by decide) (hdep 13 (by decide))
      have zz13 : s 13 = .agg #[.int .i64 TG.kind, .bool TG.flag, str TG.text, .slice gi TG.items.length gp, .slice gk TG.keys.length gq] := (g1 13 (by decide) (hdep 13 (by decide))).1
      have z57 : a'.eval (.tmp 57) = s 14 := hE.done 14 (by decide) (hdep 14 (by decide))
      have zz14 : s 14 = .agg #[.int .i64 TO.kind, .bool TO.flag, str TO.text, .slice oi TO.items.length op, .slice ok TO.keys.length oq] := (g1 14 (by decide) (hdep 14 (by decide))).1
      have z46' : a'.tmps[46]?.getD undef = _ := (show a'.tmps[46]?.getD undef = s 3 by rw [← Array.getD_eq_getD_getElem?]; exact z46).trans f3
      have z49' : a'.tmps[49]?.getD undef = _ := (show a'.tmps[49]?.getD undef = s 6 by rw [← Array.getD_eq_getD_getElem?]; exact z49).trans f6
      have z51' : a'.tmps[51]?.getD undef = _ := (show a'.tmps[51]?.getD undef = s 8 by rw [← Array.getD_eq_getD_getElem?]; exact z51).trans f8
      have z55' : a'.tmps[55]?.getD undef = _ := (show a'.tmps[55]?.getD undef = s 12 by rw [← Array.getD_eq_getD_getElem?]; exact z55).trans f12
      have z56' : a'.tmps[56]?.getD undef = .agg #[.int .i64 TG.kind, .bool TG.flag, str TG.text, .slice gi TG.items.length gp, .slice gk TG.keys.length gq] := (show a'.tmps[56]?.getD undef = s 13 by rw [← Array.getD_eq_getD_getElem?]; exact z56).trans zz13
      have z57' : a'.tmps[57]?.getD undef = .agg #[.int .i64 TO.kind, .bool TO.flag, str TO.text, .slice oi TO.items.length op, .slice ok TO.keys.length oq] := (show a'.tmps[57]?.getD undef = s 14 by rw [← Array.getD_eq_getD_getElem?]; exact z57).trans zz14
      clear z46 z49 z51 z55 z56 z57
      unfold Oper.wp execOp
      go_simp
      refine hK _ _ (hG.add (F := [w1.heap.size]) hL ((Below.refl _ w1).alloc (Nat.le_refl _) _) (keep _ _) ⟨w1.heap.size, by simp [updS], rfl, ?_⟩ (by simp) (by intro b hb; rw [List.mem_singleton] at hb; subst hb; exact ⟨Nat.le_refl _, by rw [alloc_size]; omega⟩))
      have u3 : ∀ v, updS s 15 v 3 = s 3 := fun _ => rfl
      have u6 : ∀ v, updS s 15 v 6 = s 6 := fun _ => rfl
      have u8 : ∀ v, updS s 15 v 8 = s 8 := fun _ => rfl
      have u12 : ∀ v, updS s 15 v 12 = s 12 := fun _ => rfl
      rw [u3, u6, u8, u12, f3, f6, f8, f12]
      exact heap_alloc_new _ _
    · change some _ = some o at ho'
      obtain rfl := Option.some.inj ho'
      obtain ⟨γ, g1, g2⟩ := hG.2
      have z58 : a'.eval (.tmp 58) = s 15 := hE.done 15 (by decide) (hdep 15 (by decide))
      obtain ⟨b, zz, _, _⟩ := (g1 15 (by decide) (hdep 15 (by decide))).1
      rw [zz] at z58
      unfold Oper.wp execOp
      simp only [resolve, List.map_toArray, List.map_cons, List.map_nil, z58]
      go_simp
      exact hK _ _ (hG.read hL (keep _ _) rfl)
    · change some _ = some o at ho'
      obtain rfl := Option.some.inj ho'
      unfold Oper.wp execOp
      go_simp
      exact hK _ _ (hG.read hL (keep _ _) rfl)
  · rintro s w' L hall ⟨hb, γ, g1, g2⟩
    have g := fun (i : Nat) (hi : i < 18) => g1 i hi (hall i hi)
    have gd := fun (i j : Nat) (hi : i < 18) (hj : j < 18) (h : i ≠ j) => g2 i j hi hj h (hall i hi) (hall j hj)
    obtain ⟨⟨b, p1, p2, p3⟩, _, p4⟩ := g 15 (by decide)
    have hbm : b ∈ γ 15 := by rw [p2]; simp
    refine hQ w' s b (γ 3) (γ 6) (γ 8) (γ 12) hb (g 3 (by decide)).1 (g 6 (by decide)).1 (g 8 (by decide)).1 (g 12 (by decide)).1 ?_ ?_ (p4 b hbm).1 p1 (g 16 (by decide)).1 (g 17 (by decide)).1 p3
    · rw [List.nodup_append, List.nodup_append, List.nodup_append]
      refine ⟨(g 3 (by decide)).2.1, ⟨(g 6 (by decide)).2.1, ⟨(g 8 (by decide)).2.1, (g 12 (by decide)).2.1, gd 8 12 (by decide) (by decide) (by decide)⟩, ?_⟩, ?_⟩
      · intro c hc d hd
        rcases List.mem_append.1 hd with hd | hd
        · exact gd 6 8 (by decide) (by decide) (by decide) c hc d hd
        · exact gd 6 12 (by decide) (by decide) (by decide) c hc d hd
      · intro c hc d hd
        rcases List.mem_append.1 hd with hd | hd
        · exact gd 3 6 (by decide) (by decide) (by decide) c hc d hd
        · rcases List.mem_append.1 hd with hd | hd
          · exact gd 3 8 (by decide) (by decide) (by decide) c hc d hd
          · exact gd 3 12 (by decide) (by decide) (by decide) c hc d hd
    · intro c hc
      simp only [List.mem_append] at hc
      rcases hc with hc | hc | hc | hc
      · exact ⟨((g 3 (by decide)).2.2 c hc).1, gd 3 15 (by decide) (by decide) (by decide) c hc b hbm⟩
      · exact ⟨((g 6 (by decide)).2.2 c hc).1, gd 6 15 (by decide) (by decide) (by decide) c hc b hbm⟩
      · exact ⟨((g 8 (by decide)).2.2 c hc).1, gd 8 15 (by decide) (by decide) (by decide) c hc b hbm⟩
      · exact ⟨((g 12 (by decide)).2.2 c hc).1, gd 12 15 (by decide) (by decide) (by decide) c hc b hbm⟩

end Go.Proofs.YtgbalofdfdafmaaDoor
