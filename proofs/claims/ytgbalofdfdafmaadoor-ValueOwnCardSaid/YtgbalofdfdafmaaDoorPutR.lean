/- The region of put that draws its order: both rows take an element more. -/
import Derived.Test.YtgbalofdfdafmaaDoorFree
import Derived.Test.YtgbalofdfdafmaaDoorPutP
namespace Go.Proofs.YtgbalofdfdafmaaDoor
open Go.RowKit
set_option maxRecDepth 100000
attribute [local go_sem] str_size str_toList str_get

theorem alloc_at {A : World} {o : Obj} {k : Nat} (hk : k = A.heap.size) : (A.alloc o).heap[k]? = some o := by subst hk; exact heap_alloc_new _ _

/-- A new slice of one element. -/
def Made (w : World) (B : Nat) (v : Value) (cs : Array Value) (T : TypeId) : Prop := ∃ vb, v = .slice (some ⟨vb, 0, none⟩) 1 1 ∧ w.heap[vb]? = some (.cells cs T (0, 0)) ∧ B ≤ vb
/-- A row of one's own, where it was or in a new block. -/
def Grown (w : World) (e : TypeId) (size : Nat) (v : Value) (n : Nat) (xs : List Value) (F : List Nat) (B : Nat) : Prop := ∃ F', OwnS w e size v n xs F' ∧ (F' = F ∨ ∃ b, F' = [b] ∧ B ≤ b)
theorem Made.keep {w w' : World} {B : Nat} {v : Value} {cs : Array Value} {T : TypeId} {F : List Nat} (h : Made w B v cs T) (hs : Spares F w w') (hF : ∀ b ∈ F, b < B) : Made w' B v cs T := by
  obtain ⟨vb, hv, hh, hB⟩ := h
  refine ⟨vb, hv, (hs.block vb (Array.getElem?_eq_some_iff.1 hh).1 (fun hm => by have := hF vb hm; omega)).trans hh, hB⟩
theorem Grown.keep {w w' : World} {e : TypeId} {size n : Nat} {v : Value} {xs : List Value} {F G : List Nat} {B : Nat} (h : Grown w e size v n xs F B) (hs : Spares G w w') (hG : ∀ b ∈ G, b < B) (hd : ∀ a ∈ F, ∀ b ∈ G, a ≠ b) : Grown w' e size v n xs F B := by
  obtain ⟨F', hO, hF'⟩ := h
  refine ⟨F', hO.keep fun b hb => hs.block b (hO.lt b hb) (fun hm => ?_), hF'⟩
  rcases hF' with rfl | ⟨c, rfl, hc⟩
  · exact hd b hb b hm rfl
  · have := hG b hm
    simp at hb
    omega

noncomputable def opsPut : List Oper := opsOf Tryd.f40 5
def dstPut : List Nat := [23, 24, 25, 26, 27, 28, 29, 30, 31, 32, 33, 34, 35]
def DPut (q p m n B : Nat) (key : List UInt8) (xv vk vi : Value) (ks' : List (List UInt8)) (xs' : List Value) (Fk Fi : List Nat) (j : Nat) (v : Value) (w : World) : Prop :=
  match j with
  | 0 => v = .pointer (some ⟨q, 4, none⟩)
  | 1 => v = vk
  | 2 => v = .int .i64 p
  | 3 => v = str key
  | 4 => Made w B v #[str key] 9
  | 5 => Grown w 9 1 v (m + 1) (strV ks') Fk B
  | 6 => v = .pointer (some ⟨q, 3, none⟩)
  | 7 => v = vi
  | 8 => v = .int .i64 p
  | 9 => v = xv
  | 10 => Made w B v xv.cells 26
  | 11 => Grown w 26 5 v (n + 1) (cellsV xs') Fi B
  | 12 => v = .pointer (some ⟨q, 4, none⟩)
  | _ => True

/-- The frame behind the region, but for its last slot. -/
def putFrame (a : Act) (q p : Nat) (key : List UInt8) (vk vi xv s27 s33 vk' vi' : Value) : Act :=
  (((((((((((((a.put (some 23) (.pointer (some ⟨q, 4, none⟩))).put (some 24) vk).put (some 25) (.int .i64 p)).put (some 26) (str key)).put (some 27) s27).put (some 28) vk').put (some 29) (.pointer (some ⟨q, 3, none⟩))).put (some 30) vi).put (some 31) (.int .i64 p)).put (some 32) xv).put (some 33) s33).put (some 34) vi').put (some 35) (.pointer (some ⟨q, 4, none⟩)))

set_option maxHeartbeats 8000000 in
theorem region_put (a : Act) (w : World) (Q : Exit → Act → World → Prop) (q r p m n : Nat) (key : List UInt8) (ks : List (List UInt8)) (xs : List Value) (Fk Fi : List Nat) (k0 k1 k2 x0 x1 x2 x3 x4 : Value) (ak ao : Option Addr) (ck cap : Nat)
    (e1 : a.eval (.tmp 1) = str key) (e3 : a.eval (.tmp 3) = .pointer (some ⟨q, 0, none⟩)) (e5 : a.eval (.tmp 5) = .pointer (some ⟨r, 0, none⟩)) (e7 : a.eval (.tmp 7) = .int .i64 p) (hsz : a.tmps.size = 38)
    (hq : w.heap[q]? = some (.cells #[k0, k1, k2, .slice ao n cap, .slice ak m ck] 26 (0, 0))) (hr : w.heap[r]? = some (.cells #[x0, x1, x2, x3, x4] 26 (0, 0)))
    (hOk : OwnS w 9 1 (.slice ak m ck) m (strV ks) Fk) (hOi : OwnS w 26 5 (.slice ao n cap) n (cellsV xs) Fi) (hd : ∀ a ∈ Fk, ∀ b ∈ Fi, a ≠ b)
    (hqF : q ∉ Fk ++ Fi) (hrF : r ∉ Fk ++ Fi) (hm : ks.length = m) (hpm : p ≤ m) (hpn : p ≤ n) (hm6 : m ≤ 1000000) (hn6 : n ≤ 1000000) (h5 : ∀ v ∈ xs, v.cells.size = 5) (h1 : ∀ v ∈ cellsV xs, v.oneCell' = true) (hx1 : ∀ v ∈ (Value.agg #[x0, x1, x2, x3, x4]).cells.toList, v.oneCell' = true)
    (hQ : ∀ (w' : World) (s27 s33 vk' vi' : Value), Grown w' 9 1 vk' (m + 1) (strV (ks.take p ++ key :: ks.drop p)) Fk w.heap.size → Grown w' 26 5 vi' (n + 1) (cellsV (xs.take p ++ .agg #[x0, x1, x2, x3, x4] :: xs.drop p)) Fi w.heap.size →
      Spares (Fk ++ Fi) w w' → Q .normal ((putFrame a q p key (.slice ak m ck) (.slice ao n cap) (.agg #[x0, x1, x2, x3, x4]) s27 s33 vk' vi').put (some 36) (.pointer (some ⟨q, 3, none⟩))) ((w'.setCell ⟨q, 4, none⟩ vk').setCell ⟨q, 3, none⟩ vi')) :
    (Code.region 5 opsPut.toArray true).wp Tryd.prog Q a w := by
  have hlk := hOk.lt
  have hli := hOi.lt
  have hqlt : q < w.heap.size := (Array.getElem?_eq_some_iff.1 hq).1
  have hrlt : r < w.heap.size := (Array.getElem?_eq_some_iff.1 hr).1
  refine wp_region_tail (ops := opsPut) 13 dstPut (DPut q p m n w.heap.size key (.agg #[x0, x1, x2, x3, x4]) (.slice ak m ck) (.slice ao n cap) (ks.take p ++ key :: ks.drop p) (xs.take p ++ .agg #[x0, x1, x2, x3, x4] :: xs.drop p) Fk Fi)
    (fun L w' => Spares (Fk ++ Fi) w w' ∧ (L 5 = false → ∀ b ∈ Fk, w'.heap[b]? = w.heap[b]?) ∧ (L 11 = false → ∀ b ∈ Fi, w'.heap[b]? = w.heap[b]?))
    (fun i w w' => Spares (if i = 5 then Fk else if i = 11 then Fi else []) w w') (by kernel_rfl) (by kernel_rfl) (by kernel_rfl) (by kernel_rfl) (of_decide_eq_true (by kernel_rfl)) (by kernel_rfl) (by decide) ?_ ?_ ?_ ?_ ?_ ?_
  · rw [hsz]
    have : ∀ d ∈ dstPut, d < 38 := by decide
    exact this
  · exact ⟨(Spares.refl _ w).drew', fun _ _ _ => rfl, fun _ _ _ => rfl⟩
  · rintro L i v v' hi ⟨h1, h2, h3⟩ hR
    by_cases e5 : i = 5
    · subst e5
      rw [if_pos rfl] at hR
      refine ⟨h1.trans (hR.sub fun k hk _ => by simp [hk]), fun h => ?_, fun h b hb => ?_⟩
      · simp at h
      · have hL : L 11 = false := by simpa using h
        exact (hR.block b (Nat.lt_of_lt_of_le (hli b hb) h1.size) (fun hm => hd b hm b hb rfl)).trans (h3 hL b hb)
    · rw [if_neg e5] at hR
      have n5 : (5 == i) = false := by simp; omega
      by_cases e11 : i = 11
      · subst e11
        rw [if_pos rfl] at hR
        refine ⟨h1.trans (hR.sub fun k hk _ => by simp [hk]), fun h b hb => ?_, fun h => ?_⟩
        · have hL : L 5 = false := by simpa using h
          exact (hR.block b (Nat.lt_of_lt_of_le (hlk b hb) h1.size) (fun hm => hd b hb b hm rfl)).trans (h2 hL b hb)
        · simp at h
      · rw [if_neg e11] at hR
        have n11 : (11 == i) = false := by simp; omega
        refine ⟨h1.trans (hR.sub fun k hk _ => by cases hk), fun h b hb => ?_, fun h b hb => ?_⟩
        · have hL : L 5 = false := by simpa [n5] using h
          exact (hR.block b (Nat.lt_of_lt_of_le (hlk b hb) h1.size) (by simp)).trans (h2 hL b hb)
        · have hL : L 11 = false := by simpa [n11] using h
          exact (hR.block b (Nat.lt_of_lt_of_le (hli b hb) h1.size) (by simp)).trans (h3 hL b hb)
  · intro j i v v1 v2 hj hi hji hdep hD hR
    have hRF : ∀ b ∈ (if i = 5 then Fk else if i = 11 then Fi else []), b < w.heap.size := fun b hb => by
      split at hb
      · exact hlk b hb
      · split at hb
        · exact hli b hb
        · cases hb
    rcases (show j = 0 ∨ j = 1 ∨ j = 2 ∨ j = 3 ∨ j = 4 ∨ j = 5 ∨ j = 6 ∨ j = 7 ∨ j = 8 ∨ j = 9 ∨ j = 10 ∨ j = 11 ∨ j = 12 by omega) with rfl | rfl | rfl | rfl | rfl | rfl | rfl | rfl | rfl | rfl | rfl | rfl | rfl
    · exact hD
    · exact hD
    · exact hD
    · exact hD
    · exact Made.keep hD hR hRF
    · rw [if_neg (Ne.symm hji)] at hR hRF
      refine Grown.keep hD hR hRF fun x hx y hy => ?_
      split at hy
      · exact hd x hx y hy
      · cases hy
    · exact hD
    · exact hD
    · exact hD
    · exact hD
    · exact Made.keep hD hR hRF
    · have n5 : i ≠ 5 := fun e => by
        subst e
        obtain ⟨o, ho⟩ : ∃ o, opsPut[11]? = some o := ⟨_, rfl⟩
        refine hdep o ho ?_
        change some _ = some o at ho
        obtain rfl := Option.some.inj ho
        decide
      rw [if_neg n5, if_neg (Ne.symm hji)] at hR
      exact Grown.keep hD hR (by simp) (by simp)
    · exact hD
  · rintro L w1 ⟨hI1, hI2, hI3⟩ i o hi ho hL a' he hdep K hK
    clear hQ
    rcases (show i = 0 ∨ i = 1 ∨ i = 2 ∨ i = 3 ∨ i = 4 ∨ i = 5 ∨ i = 6 ∨ i = 7 ∨ i = 8 ∨ i = 9 ∨ i = 10 ∨ i = 11 ∨ i = 12 by omega) with rfl | rfl | rfl | rfl | rfl | rfl | rfl | rfl | rfl | rfl | rfl | rfl | rfl
    · change some _ = some o at ho
      obtain rfl := Option.some.inj ho
      have y3 : a'.eval (.tmp 3) = _ := (he 3 (by decide)).trans e3
      unfold Oper.wp execOp
      simp only [y3]
      go_simp
      exact hK _ _ (by rw [if_neg (by decide), if_neg (by decide)]; exact Spares.refl _ _) rfl
    · change some _ = some o at ho
      obtain rfl := Option.some.inj ho
      have z23 : a'.eval (.tmp 23) = .pointer (some ⟨q, 4, none⟩) := hdep 0 (by decide)
      obtain ⟨c0, c1, c2, c3, c4, _, _⟩ := cell_box5 ((hI1.block q hqlt hqF).trans hq)
      unfold Oper.wp execOp
      simp only [z23]
      go_simp
      exact hK _ _ (by rw [if_neg (by decide), if_neg (by decide)]; exact Spares.refl _ _) rfl
    · change some _ = some o at ho
      obtain rfl := Option.some.inj ho
      have y7 : a'.eval (.tmp 7) = _ := (he 7 (by decide)).trans e7
      unfold Oper.wp execOp
      simp only [y7]
      go_simp
      exact hK _ _ (by rw [if_neg (by decide), if_neg (by decide)]; exact Spares.refl _ _) rfl
    · change some _ = some o at ho
      obtain rfl := Option.some.inj ho
      have y1 : a'.eval (.tmp 1) = _ := (he 1 (by decide)).trans e1
      unfold Oper.wp execOp
      simp only [y1]
      go_simp
      exact hK _ _ (by rw [if_neg (by decide), if_neg (by decide)]; exact Spares.refl _ _) rfl
    · change some _ = some o at ho
      obtain rfl := Option.some.inj ho
      have z26 : a'.eval (.tmp 26) = str key := hdep 3 (by decide)
      have z26' : a'.tmps[26]?.getD undef = str key := by rw [← Array.getD_eq_getD_getElem?]; exact z26
      clear z26
      unfold Oper.wp execOp
      go_simp
      exact hK _ _ (by rw [if_neg (by decide), if_neg (by decide)]; exact (Spares.refl _ _).alloc' _) ⟨_, rfl, alloc_at rfl, hI1.size⟩
    · change some _ = some o at ho
      obtain rfl := Option.some.inj ho
      have z24 : a'.eval (.tmp 24) = .slice ak m ck := hdep 1 (by decide)
      have z25 : a'.eval (.tmp 25) = .int .i64 p := hdep 2 (by decide)
      have z27 : Made w1 w.heap.size (a'.eval (.tmp 27)) #[str key] 9 := hdep 4 (by decide)
      obtain ⟨vb, z27, hvb, hvB⟩ := z27
      have C := insert_keys ks key p (.slice ak m ck) Fk vb 1 w1 9 (by rw [hm]; exact hOk.keep (hI2 hL)) (by omega) (by omega) hvb (fun hh => by have := hlk vb hh; omega)
      rw [hm] at C
      clear hvb
      unfold Oper.wp execOp
      simp only [resolve, List.map_toArray, List.map_cons, List.map_nil, z24, z25, z27]
      go_simp
      refine C.mono ?_
      rintro e w2 ⟨v', F', rfl, g1, g2, g3⟩
      refine hK _ _ (by rw [if_pos rfl]; exact g3) ⟨F', g1, ?_⟩
      rcases g2 with rfl | rfl
      · exact .inl rfl
      · exact .inr ⟨_, rfl, hI1.size⟩
    · change some _ = some o at ho
      obtain rfl := Option.some.inj ho
      have y3 : a'.eval (.tmp 3) = _ := (he 3 (by decide)).trans e3
      unfold Oper.wp execOp
      simp only [y3]
      go_simp
      exact hK _ _ (by rw [if_neg (by decide), if_neg (by decide)]; exact Spares.refl _ _) rfl
    · change some _ = some o at ho
      obtain rfl := Option.some.inj ho
      have z29 : a'.eval (.tmp 29) = .pointer (some ⟨q, 3, none⟩) := hdep 6 (by decide)
      obtain ⟨c0, c1, c2, c3, c4, _, _⟩ := cell_box5 ((hI1.block q hqlt hqF).trans hq)
      unfold Oper.wp execOp
      simp only [z29]
      go_simp
      exact hK _ _ (by rw [if_neg (by decide), if_neg (by decide)]; exact Spares.refl _ _) rfl
    · change some _ = some o at ho
      obtain rfl := Option.some.inj ho
      have y7 : a'.eval (.tmp 7) = _ := (he 7 (by decide)).trans e7
      unfold Oper.wp execOp
      simp only [y7]
      go_simp
      exact hK _ _ (by rw [if_neg (by decide), if_neg (by decide)]; exact Spares.refl _ _) rfl
    · change some _ = some o at ho
      obtain rfl := Option.some.inj ho
      have y5 : a'.eval (.tmp 5) = _ := (he 5 (by decide)).trans e5
      obtain ⟨c0, c1, c2, c3, c4, _, _⟩ := cell_box5 ((hI1.block r hrlt hrF).trans hr)
      unfold Oper.wp execOp
      simp only [y5]
      go_simp
      exact hK _ _ (by rw [if_neg (by decide), if_neg (by decide)]; exact Spares.refl _ _) rfl
    · change some _ = some o at ho
      obtain rfl := Option.some.inj ho
      have z32 : a'.eval (.tmp 32) = .agg #[x0, x1, x2, x3, x4] := hdep 9 (by decide)
      have z32' : a'.tmps[32]?.getD undef = .agg #[x0, x1, x2, x3, x4] := by rw [← Array.getD_eq_getD_getElem?]; exact z32
      clear z32
      unfold Oper.wp execOp
      go_simp
      exact hK _ _ (by rw [if_neg (by decide), if_neg (by decide)]; exact (Spares.refl _ _).alloc' _) ⟨_, rfl, alloc_at rfl, hI1.size⟩
    · change some _ = some o at ho
      obtain rfl := Option.some.inj ho
      have z30 : a'.eval (.tmp 30) = .slice ao n cap := hdep 7 (by decide)
      have z31 : a'.eval (.tmp 31) = .int .i64 p := hdep 8 (by decide)
      have z33 : Made w1 w.heap.size (a'.eval (.tmp 33)) (Value.agg #[x0, x1, x2, x3, x4]).cells 26 := hdep 10 (by decide)
      obtain ⟨vb, z33, hvb, hvB⟩ := z33
      have C := insert_vals n p xs (.agg #[x0, x1, x2, x3, x4]) (.slice ao n cap) Fi vb 1 w1 26 (hOi.keep (hI3 hL)) hpn hn6 hvb (fun hh => by have := hli vb hh; omega) h5 h1 rfl hx1
      clear hvb
      unfold Oper.wp execOp
      simp only [resolve, List.map_toArray, List.map_cons, List.map_nil, z30, z31, z33]
      go_simp
      refine C.mono ?_
      rintro e w2 ⟨v', F', rfl, g1, g2, g3⟩
      refine hK _ _ (by rw [if_neg (by decide), if_pos rfl]; exact g3) ⟨F', g1, ?_⟩
      rcases g2 with rfl | rfl
      · exact .inl rfl
      · exact .inr ⟨_, rfl, hI1.size⟩
    · change some _ = some o at ho
      obtain rfl := Option.some.inj ho
      have y3 : a'.eval (.tmp 3) = _ := (he 3 (by decide)).trans e3
      unfold Oper.wp execOp
      simp only [y3]
      go_simp
      exact hK _ _ (by rw [if_neg (by decide), if_neg (by decide)]; exact Spares.refl _ _) rfl
  · rintro s L w' ⟨hI1, _, _⟩ hD
    have hin : ∀ d ∈ dstPut, d < a.tmps.size := by
      rw [hsz]
      have : ∀ d ∈ dstPut, d < 38 := by decide
      exact this
    have hnd : dstPut.Nodup := by decide
    have q0 : s 0 = _ := hD 0 (by decide)
    have q1 : s 1 = _ := hD 1 (by decide)
    have q2 : s 2 = _ := hD 2 (by decide)
    have q3 : s 3 = _ := hD 3 (by decide)
    have q5 : Grown w' 9 1 (s 5) (m + 1) _ Fk w.heap.size := hD 5 (by decide)
    have q6 : s 6 = _ := hD 6 (by decide)
    have q7 : s 7 = _ := hD 7 (by decide)
    have q8 : s 8 = _ := hD 8 (by decide)
    have q9 : s 9 = _ := hD 9 (by decide)
    have q11 : Grown w' 26 5 (s 11) (n + 1) _ Fi w.heap.size := hD 11 (by decide)
    have q12 : s 12 = _ := hD 12 (by decide)
    have hfin := hQ w' (s 4) (s 10) (s 5) (s 11) q5 q11 hI1
    have hA : putAll dstPut (fun _ => true) s 13 a = putFrame a q p key (.slice ak m ck) (.slice ao n cap) (.agg #[x0, x1, x2, x3, x4]) (s 4) (s 10) (s 5) (s 11) := by
      unfold putFrame
      simp only [putAll, if_true, dstPut, List.getD_cons_zero, List.getD_cons_succ, q0, q1, q2, q3, q6, q7, q8, q9, q12]
    have z28 : (putAll dstPut (fun _ => true) s 13 a).eval (.tmp 28) = s 5 := eval_done (i := 5) hnd _ s a hin rfl (by decide) 13 (by decide) (by decide)
    have z34 : (putAll dstPut (fun _ => true) s 13 a).eval (.tmp 34) = s 11 := eval_done (i := 11) hnd _ s a hin rfl (by decide) 13 (by decide) (by decide)
    have z35 : (putAll dstPut (fun _ => true) s 13 a).eval (.tmp 35) = s 12 := eval_done (i := 12) hnd _ s a hin rfl (by decide) 13 (by decide) (by decide)
    have z3 : (putAll dstPut (fun _ => true) s 13 a).eval (.tmp 3) = _ := (eval_other (fun _ => true) s a 3 (by decide) hin 13 (by decide)).trans e3
    have hs13 : (putAll dstPut (fun _ => true) s 13 a).tmps.size = 38 := by rw [putAll_size]; exact hsz
    rw [q12] at z35
    rw [← hA] at hfin
    generalize putAll dstPut (fun _ => true) s 13 a = A at hfin z28 z34 z35 z3 hs13 ⊢
    have hq' := (hI1.block q hqlt hqF).trans hq
    obtain ⟨_, _, _, _, c4, _, f4⟩ := cell_box5 hq'
    have hq2 : (w'.setCell ⟨q, 4, none⟩ (s 5)).heap[q]? = some (.cells #[k0, k1, k2, .slice ao n cap, s 5] 26 (0, 0)) := by
      simp [World.setCell, Array.getElem?_modify, hq']
    obtain ⟨_, _, _, d3, _, g3, _⟩ := cell_box5 hq2
    obtain ⟨ak', ck', hv5, _⟩ := q5.choose_spec.1.form
    obtain ⟨ao', cap', hv11, _⟩ := q11.choose_spec.1.form
    clear hQ hD q0 q1 q2 q3 q5 q6 q7 q8 q9 q11 q12 hA hq2
    change tailWp _ _ (_ :: _ :: _ :: []) _ _
    intro K hK
    unfold Oper.wp execOp
    simp only [z28, z35]
    go_simp
    refine hK _ _ ?_
    clear hK K
    intro K hK
    unfold Oper.wp execOp
    simp only [z3]
    go_simp
    refine hK _ _ ?_
    clear hK K
    have y36 : (A.put (some 36) (.pointer (some ⟨q, 3, none⟩))).eval (.tmp 36) = .pointer (some ⟨q, 3, none⟩) := by rw [eval_put _ _ _ _ (by omega), if_pos rfl]
    have y34 : (A.put (some 36) (.pointer (some ⟨q, 3, none⟩))).eval (.tmp 34) = s 11 := by rw [eval_put _ _ _ _ (by omega), if_neg (by decide)]; exact z34
    change tailWp _ _ _ (A.put (some 36) (.pointer (some ⟨q, 3, none⟩))) _
    generalize A.put (some 36) (.pointer (some ⟨q, 3, none⟩)) = A2 at hfin y36 y34 ⊢
    rw [hv11] at hfin y34
    rw [hv5] at hfin d3 g3
    clear hv5 hv11 z34 z35 z28 z3 hs13
    intro K hK
    unfold Oper.wp execOp
    simp only [y36, y34]
    go_simp
    exact hK _ _ hfin

end Go.Proofs.YtgbalofdfdafmaaDoor
