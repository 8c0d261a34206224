/- slices.Delete at rows of one's own; the region of value.Drop that draws its order. Printed by gendrop.py. -/
import Derived.Test.YtgbalofdfdafmaaDoorFree
import Derived.Test.YtgbalofdfdafmaaDoorPutR
import Derived.Test.YtgbalofdfdafmaaDoorDelV
namespace Go.Proofs.YtgbalofdfdafmaaDoor
open Go.RowKit
set_option maxRecDepth 100000
attribute [local go_sem] str_size str_toList str_get

set_option maxHeartbeats 1000000 in
theorem delete_keys (ks : List (List UInt8)) (i g cap : Nat) (F : List Nat) (W : World) (h : OwnS W 9 1 (.slice (some ⟨g, 0, none⟩) ks.length cap) ks.length (strV ks) F) (hi : i < ks.length) :
    Calls Tryd.prog 41 #[.slice (some ⟨g, 0, none⟩) ks.length cap, .int .i64 i, .int .i64 ((i : Int) + 1)] W fun e w' =>
      e = .returned (.slice (some ⟨g, 0, none⟩) (ks.length - 1) cap) ∧ OwnS w' 9 1 (.slice (some ⟨g, 0, none⟩) (ks.length - 1) cap) (ks.length - 1) (strV (ks.take i ++ ks.drop (i + 1))) F ∧ Spares F W w' := by
  obtain ⟨h, hF⟩ := h
  rcases h.2 with ⟨h0, _⟩ | ⟨g', cap', cur, hv, _, hg, g1, g2, g3, g4⟩
  · cases h0
  · injection hv with e1 e2 e3
    injection e1 with e1
    injection e1 with e1
    subst e1; subst e3
    have hl : (strV ks).length = ks.length := by simp [strV]
    refine (del_S g ks.length cap i cur ((strV ks).take i) [(strV ks)[i]'(by omega)] ((strV ks).drop (i + 1)) W hi g1 (by unfold maxLen at g2; omega) hg g3 (by simp [strV]; omega) rfl (by simp [strV]) ?_ (fun v hv => strV_one ks v (List.mem_of_mem_drop hv))).mono ?_
    · rw [g4, List.append_assoc]
      show strV ks = _
      rw [List.singleton_append, ← List.drop_eq_getElem_cons, List.take_append_drop]
    · rintro e w' ⟨rfl, hgr, hown⟩
      refine ⟨rfl, ⟨?_, hF⟩, Spares.grown hgr (fun k hk => by rw [hF]; injection hk with hk; subst hk; simp [Value.ownBlock])⟩
      have : strV (ks.take i ++ ks.drop (i + 1)) = (strV ks).take i ++ (strV ks).drop (i + 1) := by simp [strV]
      rw [this]
      exact hown
set_option maxHeartbeats 1000000 in
theorem delete_vals (n i g cap : Nat) (xs : List Value) (F : List Nat) (W : World) (h : OwnS W 26 5 (.slice (some ⟨g, 0, none⟩) n cap) n (cellsV xs) F) (hi : i < n) (hx : xs.length = n) (h5 : ∀ v ∈ xs, v.cells.size = 5) (h1 : ∀ v ∈ cellsV xs, v.oneCell' = true) :
    Calls Tryd.prog 42 #[.slice (some ⟨g, 0, none⟩) n cap, .int .i64 i, .int .i64 ((i : Int) + 1)] W fun e w' =>
      e = .returned (.slice (some ⟨g, 0, none⟩) (n - 1) cap) ∧ OwnS w' 26 5 (.slice (some ⟨g, 0, none⟩) (n - 1) cap) (n - 1) (cellsV (xs.take i ++ xs.drop (i + 1))) F ∧ Spares F W w' := by
  obtain ⟨h, hF⟩ := h
  rcases h.2 with ⟨h0, _⟩ | ⟨g', cap', cur, hv, _, hg, g1, g2, g3, g4⟩
  · cases h0
  · injection hv with e1 e2 e3
    injection e1 with e1
    injection e1 with e1
    subst e1; subst e3
    have hl : (cellsV xs).length = n * 5 := by rw [cellsV_len h5, hx]
    have hsp : cellsV xs = cellsV (xs.take i) ++ (xs[i]'(by omega)).cells.toList ++ cellsV (xs.drop (i + 1)) := by
      rw [← cellsV_one, ← cellsV_append, ← cellsV_append, List.append_assoc, List.singleton_append, ← List.drop_eq_getElem_cons, List.take_append_drop]
    refine (del_V g n cap i cur (cellsV (xs.take i)) (xs[i]'(by omega)).cells.toList (cellsV (xs.drop (i + 1))) W hi g1 (by unfold maxLen at g2; omega) hg g3 (by rw [cellsV_len (fun v hv => h5 v (List.mem_of_mem_take hv))]; simp; omega) (by simpa using h5 _ (List.getElem_mem (show i < xs.length by omega))) (by rw [cellsV_len (fun v hv => h5 v (List.mem_of_mem_drop hv))]; simp [hx]) ?_ (fun v hv => h1 v (by rw [hsp]; simp only [List.mem_append]; exact .inr hv))).mono ?_
    · rw [g4]
      exact hsp
    · rintro e w' ⟨rfl, hgr, hown⟩
      refine ⟨rfl, ⟨?_, hF⟩, Spares.grown hgr (fun k hk => by rw [hF]; injection hk with hk; subst hk; simp [Value.ownBlock])⟩
      rw [cellsV_append]
      exact hown
theorem OwnVals.del {w : World} {ts : List VT} {xs : List Value} {F : List Nat} (h : OwnVals w ts xs F) {i : Nat} (hi : i < ts.length) : ∃ G O H, F = G ++ (O ++ H) ∧ ∀ {w' : World}, (∀ b ∈ F, w'.heap[b]? = w.heap[b]?) →
    OwnVals w' (ts.take i ++ ts.drop (i + 1)) (xs.take i ++ xs.drop (i + 1)) (G ++ H) := by
  have hl := h.len
  obtain ⟨G, H, rfl, h1, h2⟩ := h.split i
  rw [List.drop_eq_getElem_cons hi] at h2
  obtain ⟨y, ys, Fy, Fr, e, rfl, h3, h4⟩ := h2.head
  rw [List.drop_eq_getElem_cons (show i < xs.length by omega)] at e
  injection e with e1 e2
  refine ⟨G, Fy, Fr, rfl, fun hk => ?_⟩
  rw [e2]
  exact (h1.keep fun b hb => hk b (by simp [hb])).append (h4.keep fun b hb => hk b (by simp [hb]))

noncomputable def opsDrop : List Oper := opsOf Tryd.f20 4
def dstDrop : List Nat := [22, 23, 24, 25, 26, 27, 28, 29, 30, 31, 32, 33, 34]
def DDrop (q p m n : Nat) (vk vi vk' vi' : Value) (ks' : List (List UInt8)) (xs' : List Value) (Fk Fi : List Nat) (j : Nat) (v : Value) (w : World) : Prop :=
  match j with
  | 0 => v = .pointer (some ⟨q, 4, none⟩)
  | 1 => v = vk
  | 2 => v = .int .i64 p
  | 3 => v = .int .i64 p
  | 4 => v = .int .i64 ((p : Int) + 1)
  | 5 => v = vk' ∧ OwnS w 9 1 vk' (m - 1) (strV ks') Fk
  | 6 => v = .pointer (some ⟨q, 3, none⟩)
  | 7 => v = vi
  | 8 => v = .int .i64 p
  | 9 => v = .int .i64 p
  | 10 => v = .int .i64 ((p : Int) + 1)
  | 11 => v = vi' ∧ OwnS w 26 5 vi' (n - 1) (cellsV xs') Fi
  | 12 => v = .pointer (some ⟨q, 4, none⟩)
  | _ => True

/-- The frame behind the region, but for its last slot. -/
def dropFrame (a : Act) (q p : Nat) (vk vi vk' vi' : Value) : Act :=
  (((((((((((((a.put (some 22) (.pointer (some ⟨q, 4, none⟩))).put (some 23) vk).put (some 24) (.int .i64 p)).put (some 25) (.int .i64 p)).put (some 26) (.int .i64 ((p : Int) + 1))).put (some 27) vk').put (some 28) (.pointer (some ⟨q, 3, none⟩))).put (some 29) vi).put (some 30) (.int .i64 p)).put (some 31) (.int .i64 p)).put (some 32) (.int .i64 ((p : Int) + 1))).put (some 33) vi').put (some 34) (.pointer (some ⟨q, 4, none⟩)))

set_option maxHeartbeats 8000000 in
theorem region_drop (a : Act) (w : World) (Q : Exit → Act → World → Prop) (q p m n gk gi : Nat) (ks : List (List UInt8)) (xs : List Value) (Fk Fi : List Nat) (k0 k1 k2 : Value) (ck cap : Nat)
    (e2 : a.eval (.tmp 2) = .pointer (some ⟨q, 0, none⟩)) (e5 : a.eval (.tmp 5) = .int .i64 p) (hsz : a.tmps.size = 37)
    (hq : w.heap[q]? = some (.cells #[k0, k1, k2, .slice (some ⟨gi, 0, none⟩) n cap, .slice (some ⟨gk, 0, none⟩) m ck] 26 (0, 0)))
    (hOk : OwnS w 9 1 (.slice (some ⟨gk, 0, none⟩) m ck) m (strV ks) Fk) (hOi : OwnS w 26 5 (.slice (some ⟨gi, 0, none⟩) n cap) n (cellsV xs) Fi) (hd : ∀ a ∈ Fk, ∀ b ∈ Fi, a ≠ b)
    (hqF : q ∉ Fk ++ Fi) (hm : ks.length = m) (hx : xs.length = n) (hpm : p < m) (hpn : p < n) (hm6 : m ≤ 1000000) (_hn6 : n ≤ 1000000) (h5 : ∀ v ∈ xs, v.cells.size = 5) (h1 : ∀ v ∈ cellsV xs, v.oneCell' = true)
    (hQ : ∀ (w' : World), OwnS w' 9 1 (.slice (some ⟨gk, 0, none⟩) (m - 1) ck) (m - 1) (strV (ks.take p ++ ks.drop (p + 1))) Fk → OwnS w' 26 5 (.slice (some ⟨gi, 0, none⟩) (n - 1) cap) (n - 1) (cellsV (xs.take p ++ xs.drop (p + 1))) Fi →
      Spares (Fk ++ Fi) w w' → Q .normal ((dropFrame a q p (.slice (some ⟨gk, 0, none⟩) m ck) (.slice (some ⟨gi, 0, none⟩) n cap) (.slice (some ⟨gk, 0, none⟩) (m - 1) ck) (.slice (some ⟨gi, 0, none⟩) (n - 1) cap)).put (some 35) (.pointer (some ⟨q, 3, none⟩))) ((w'.setCell ⟨q, 4, none⟩ (.slice (some ⟨gk, 0, none⟩) (m - 1) ck)).setCell ⟨q, 3, none⟩ (.slice (some ⟨gi, 0, none⟩) (n - 1) cap))) :
    (Code.region 4 opsDrop.toArray true).wp Tryd.prog Q a w := by
  have hlk := hOk.lt
  have hli := hOi.lt
  have hqlt : q < w.heap.size := (Array.getElem?_eq_some_iff.1 hq).1
  refine wp_region_tail (ops := opsDrop) 13 dstDrop (DDrop q p m n (.slice (some ⟨gk, 0, none⟩) m ck) (.slice (some ⟨gi, 0, none⟩) n cap) (.slice (some ⟨gk, 0, none⟩) (m - 1) ck) (.slice (some ⟨gi, 0, none⟩) (n - 1) cap) (ks.take p ++ ks.drop (p + 1)) (xs.take p ++ xs.drop (p + 1)) Fk Fi)
    (fun L w' => Spares (Fk ++ Fi) w w' ∧ (L 5 = false → ∀ b ∈ Fk, w'.heap[b]? = w.heap[b]?) ∧ (L 11 = false → ∀ b ∈ Fi, w'.heap[b]? = w.heap[b]?))
    (fun i w w' => Spares (if i = 5 then Fk else if i = 11 then Fi else []) w w') (by kernel_rfl) (by kernel_rfl) (by kernel_rfl) (by kernel_rfl) (of_decide_eq_true (by kernel_rfl)) (by kernel_rfl) (by decide) ?_ ?_ ?_ ?_ ?_ ?_
  · rw [hsz]
    have : ∀ d ∈ dstDrop, d < 37 := by decide
    exact this
  · exact ⟨(Spares.refl _ w).drew', fun _ _ _ => rfl, fun _ _ _ => rfl⟩
  · rintro L i v v' hi ⟨h1, h2, h3⟩ hR
    by_cases e5 : i = 5
    · subst e5
      rw [if_pos rfl] at hR
      refine ⟨h1.trans (hR.sub fun k hk _ => by simp [hk]), fun h => ?_, fun h b hb => ?_⟩
      · simp at h
      · have hL : L 11 = false := by simpa using h
        exact (hR.block b (Nat.lt_of_lt_of_le (hli b hb) h1.size) (fun hm => hd b hm b hb rfl)).trans (h3 hL b hb)
    · rw [if_neg e5] at hR
      have n5 : (5 == i) = false := by simp; omega
      by_cases e11 : i = 11
      · subst e11
        rw [if_pos rfl] at hR
        refine ⟨h1.trans (hR.sub fun k hk _ => by simp [hk]), fun h b hb => ?_, fun h => ?_⟩
        · have hL : L 5 = false := by simpa using h
          exact (hR.block b (Nat.lt_of_lt_of_le (hlk b hb) h1.size) (fun hm => hd b hb b hm rfl)).trans (h2 hL b hb)
        · simp at h
      · rw [if_neg e11] at hR
        have n11 : (11 == i) = false := by simp; omega
        refine ⟨h1.trans (hR.sub fun k hk _ => by cases hk), fun h b hb => ?_, fun h b hb => ?_⟩
        · have hL : L 5 = false := by simpa [n5] using h
          exact (hR.block b (Nat.lt_of_lt_of_le (hlk b hb) h1.size) (by simp)).trans (h2 hL b hb)
        · have hL : L 11 = false := by simpa [n11] using h
          exact (hR.block b (Nat.lt_of_lt_of_le (hli b hb) h1.size) (by simp)).trans (h3 hL b hb)
  · intro j i v v1 v2 hj hi hji hdep hD hR
    rcases (show j = 0 ∨ j = 1 ∨ j = 2 ∨ j = 3 ∨ j = 4 ∨ j = 5 ∨ j = 6 ∨ j = 7 ∨ j = 8 ∨ j = 9 ∨ j = 10 ∨ j = 11 ∨ j = 12 by omega) with rfl | rfl | rfl | rfl | rfl | rfl | rfl | rfl | rfl | rfl | rfl | rfl | rfl
    · exact hD
    · exact hD
    · exact hD
    · exact hD
    · exact hD
    · rw [if_neg (Ne.symm hji)] at hR
      refine ⟨hD.1, hD.2.keep fun x hx => hR.block x (hD.2.lt x hx) fun hm => ?_⟩
      split at hm
      · exact hd x hx x hm rfl
      · cases hm
    · exact hD
    · exact hD
    · exact hD
    · exact hD
    · exact hD
    · refine ⟨hD.1, hD.2.keep fun x hx => hR.block x (hD.2.lt x hx) fun hm => ?_⟩
      split at hm
      · exact hd x hm x hx rfl
      · rw [if_neg (Ne.symm hji)] at hm
        cases hm
    · exact hD
  · rintro L w1 ⟨hI1, hI2, hI3⟩ i o hi ho hL a' he hdep K hK
    clear hQ
    rcases (show i = 0 ∨ i = 1 ∨ i = 2 ∨ i = 3 ∨ i = 4 ∨ i = 5 ∨ i = 6 ∨ i = 7 ∨ i = 8 ∨ i = 9 ∨ i = 10 ∨ i = 11 ∨ i = 12 by omega) with rfl | rfl | rfl | rfl | rfl | rfl | rfl | rfl | rfl | rfl | rfl | rfl | rfl
    · change some _ = some o at ho
      obtain rfl := Option.some.inj ho
      have y2 : a'.eval (.tmp 2) = _ := (he 2 (by decide)).trans e2
      unfold Oper.wp execOp
      simp only [y2]
      go_simp
      exact hK _ _ (by rw [if_neg (by decide), if_neg (by decide)]; exact Spares.refl _ _) rfl
    · change some _ = some o at ho
      obtain rfl := Option.some.inj ho
      have z : a'.eval (.tmp 22) = .pointer (some ⟨q, 4, none⟩) := hdep 0 (by decide)
      obtain ⟨c0, c1, c2, c3, c4, _, _⟩ := cell_box5 ((hI1.block q hqlt hqF).trans hq)
      unfold Oper.wp execOp
      simp only [z]
      go_simp
      exact hK _ _ (by rw [if_neg (by decide), if_neg (by decide)]; exact Spares.refl _ _) rfl
    · change some _ = some o at ho
      obtain rfl := Option.some.inj ho
      have y5 : a'.eval (.tmp 5) = _ := (he 5 (by decide)).trans e5
      unfold Oper.wp execOp
      simp only [y5]
      go_simp
      exact hK _ _ (by rw [if_neg (by decide), if_neg (by decide)]; exact Spares.refl _ _) rfl
    · change some _ = some o at ho
      obtain rfl := Option.some.inj ho
      have y5 : a'.eval (.tmp 5) = _ := (he 5 (by decide)).trans e5
      unfold Oper.wp execOp
      simp only [y5]
      go_simp
      exact hK _ _ (by rw [if_neg (by decide), if_neg (by decide)]; exact Spares.refl _ _) rfl
    · change some _ = some o at ho
      obtain rfl := Option.some.inj ho
      have z : a'.eval (.tmp 25) = .int .i64 p := hdep 3 (by decide)
      have hw : IntKind.i64.wrap ((p : Int) + 1) = (p : Int) + 1 := by rw [IntKind.wrap_i64]; omega
      unfold Oper.wp execOp
      simp only [z]
      go_simp
      try rw [hw]
      exact hK _ _ (by rw [if_neg (by decide), if_neg (by decide)]; exact Spares.refl _ _) rfl
    · change some _ = some o at ho
      obtain rfl := Option.some.inj ho
      have z23 : a'.eval (.tmp 23) = .slice (some ⟨gk, 0, none⟩) m ck := hdep 1 (by decide)
      have z24 : a'.eval (.tmp 24) = .int .i64 p := hdep 2 (by decide)
      have z26 : a'.eval (.tmp 26) = .int .i64 ((p : Int) + 1) := hdep 4 (by decide)
      have C := delete_keys ks p gk ck Fk w1 (by rw [hm]; exact hOk.keep (hI2 hL)) (by omega)
      rw [hm] at C
      unfold Oper.wp execOp
      simp only [resolve, List.map_toArray, List.map_cons, List.map_nil, z23, z24, z26]
      go_simp
      refine C.mono ?_
      rintro e w2 ⟨rfl, g1, g2⟩
      exact hK _ _ (by rw [if_pos rfl]; exact g2) ⟨rfl, g1⟩
    · change some _ = some o at ho
      obtain rfl := Option.some.inj ho
      have y2 : a'.eval (.tmp 2) = _ := (he 2 (by decide)).trans e2
      unfold Oper.wp execOp
      simp only [y2]
      go_simp
      exact hK _ _ (by rw [if_neg (by decide), if_neg (by decide)]; exact Spares.refl _ _) rfl
    · change some _ = some o at ho
      obtain rfl := Option.some.inj ho
      have z : a'.eval (.tmp 28) = .pointer (some ⟨q, 3, none⟩) := hdep 6 (by decide)
      obtain ⟨c0, c1, c2, c3, c4, _, _⟩ := cell_box5 ((hI1.block q hqlt hqF).trans hq)
      unfold Oper.wp execOp
      simp only [z]
      go_simp
      exact hK _ _ (by rw [if_neg (by decide), if_neg (by decide)]; exact Spares.refl _ _) rfl
    · change some _ = some o at ho
      obtain rfl := Option.some.inj ho
      have y5 : a'.eval (.tmp 5) = _ := (he 5 (by decide)).trans e5
      unfold Oper.wp execOp
      simp only [y5]
      go_simp
      exact hK _ _ (by rw [if_neg (by decide), if_neg (by decide)]; exact Spares.refl _ _) rfl
    · change some _ = some o at ho
      obtain rfl := Option.some.inj ho
      have y5 : a'.eval (.tmp 5) = _ := (he 5 (by decide)).trans e5
      unfold Oper.wp execOp
      simp only [y5]
      go_simp
      exact hK _ _ (by rw [if_neg (by decide), if_neg (by decide)]; exact Spares.refl _ _) rfl
    · change some _ = some o at ho
      obtain rfl := Option.some.inj ho
      have z : a'.eval (.tmp 31) = .int .i64 p := hdep 9 (by decide)
      have hw : IntKind.i64.wrap ((p : Int) + 1) = (p : Int) + 1 := by rw [IntKind.wrap_i64]; omega
      unfold Oper.wp execOp
      simp only [z]
      go_simp
      try rw [hw]
      exact hK _ _ (by rw [if_neg (by decide), if_neg (by decide)]; exact Spares.refl _ _) rfl
    · change some _ = some o at ho
      obtain rfl := Option.some.inj ho
      have z29 : a'.eval (.tmp 29) = .slice (some ⟨gi, 0, none⟩) n cap := hdep 7 (by decide)
      have z30 : a'.eval (.tmp 30) = .int .i64 p := hdep 8 (by decide)
      have z32 : a'.eval (.tmp 32) = .int .i64 ((p : Int) + 1) := hdep 10 (by decide)
      have C := delete_vals n p gi cap xs Fi w1 (hOi.keep (hI3 hL)) hpn hx h5 h1
      unfold Oper.wp execOp
      simp only [resolve, List.map_toArray, List.map_cons, List.map_nil, z29, z30, z32]
      go_simp
      refine C.mono ?_
      rintro e w2 ⟨rfl, g1, g2⟩
      exact hK _ _ (by rw [if_neg (by decide), if_pos rfl]; exact g2) ⟨rfl, g1⟩
    · change some _ = some o at ho
      obtain rfl := Option.some.inj ho
      have y2 : a'.eval (.tmp 2) = _ := (he 2 (by decide)).trans e2
      unfold Oper.wp execOp
      simp only [y2]
      go_simp
      exact hK _ _ (by rw [if_neg (by decide), if_neg (by decide)]; exact Spares.refl _ _) rfl
  · rintro s L w' ⟨hI1, _, _⟩ hD
    have hin : ∀ d ∈ dstDrop, d < a.tmps.size := by
      rw [hsz]
      have : ∀ d ∈ dstDrop, d < 37 := by decide
      exact this
    have hnd : dstDrop.Nodup := by decide
    have q0 : s 0 = _ := hD 0 (by decide)
    have q1 : s 1 = _ := hD 1 (by decide)
    have q2 : s 2 = _ := hD 2 (by decide)
    have q3 : s 3 = _ := hD 3 (by decide)
    have q4 : s 4 = _ := hD 4 (by decide)
    have q6 : s 6 = _ := hD 6 (by decide)
    have q7 : s 7 = _ := hD 7 (by decide)
    have q8 : s 8 = _ := hD 8 (by decide)
    have q9 : s 9 = _ := hD 9 (by decide)
    have q10 : s 10 = _ := hD 10 (by decide)
    have q12 : s 12 = _ := hD 12 (by decide)
    have q5 : s 5 = _ ∧ OwnS w' 9 1 _ (m - 1) _ Fk := hD 5 (by decide)
    have q11 : s 11 = _ ∧ OwnS w' 26 5 _ (n - 1) _ Fi := hD 11 (by decide)
    have hfin := hQ w' q5.2 q11.2 hI1
    have hA : putAll dstDrop (fun _ => true) s 13 a = dropFrame a q p (.slice (some ⟨gk, 0, none⟩) m ck) (.slice (some ⟨gi, 0, none⟩) n cap) (.slice (some ⟨gk, 0, none⟩) (m - 1) ck) (.slice (some ⟨gi, 0, none⟩) (n - 1) cap) := by
      unfold dropFrame
      simp only [putAll, if_true, dstDrop, List.getD_cons_zero, List.getD_cons_succ, q0, q1, q2, q3, q4, q5.1, q6, q7, q8, q9, q10, q11.1, q12]
    have z27 : (putAll dstDrop (fun _ => true) s 13 a).eval (.tmp 27) = s 5 := eval_done (i := 5) hnd _ s a hin rfl (by decide) 13 (by decide) (by decide)
    have z33 : (putAll dstDrop (fun _ => true) s 13 a).eval (.tmp 33) = s 11 := eval_done (i := 11) hnd _ s a hin rfl (by decide) 13 (by decide) (by decide)
    have z34 : (putAll dstDrop (fun _ => true) s 13 a).eval (.tmp 34) = s 12 := eval_done (i := 12) hnd _ s a hin rfl (by decide) 13 (by decide) (by decide)
    have z2 : (putAll dstDrop (fun _ => true) s 13 a).eval (.tmp 2) = _ := (eval_other (fun _ => true) s a 2 (by decide) hin 13 (by decide)).trans e2
    have hs13 : (putAll dstDrop (fun _ => true) s 13 a).tmps.size = 37 := by rw [putAll_size]; exact hsz
    rw [q12] at z34
    rw [q5.1] at z27
    rw [q11.1] at z33
    rw [← hA] at hfin
    generalize putAll dstDrop (fun _ => true) s 13 a = A at hfin z27 z33 z34 z2 hs13 ⊢
    have hq' := (hI1.block q hqlt hqF).trans hq
    obtain ⟨_, _, _, _, c4, _, f4⟩ := cell_box5 hq'
    have hq2 : (w'.setCell ⟨q, 4, none⟩ (.slice (some ⟨gk, 0, none⟩) (m - 1) ck)).heap[q]? = some (.cells #[k0, k1, k2, .slice (some ⟨gi, 0, none⟩) n cap, .slice (some ⟨gk, 0, none⟩) (m - 1) ck] 26 (0, 0)) := by
      simp [World.setCell, Array.getElem?_modify, hq']
    obtain ⟨_, _, _, d3, _, g3, _⟩ := cell_box5 hq2
    clear hQ hD q0 q1 q2 q3 q4 q5 q6 q7 q8 q9 q10 q11 q12 hA hq2
    change tailWp _ _ (_ :: _ :: _ :: []) _ _
    intro K hK
    unfold Oper.wp execOp
    simp only [z27, z34]
    go_simp
    refine hK _ _ ?_
    clear hK K
    intro K hK
    unfold Oper.wp execOp
    simp only [z2]
    go_simp
    refine hK _ _ ?_
    clear hK K
    have y35 : (A.put (some 35) (.pointer (some ⟨q, 3, none⟩))).eval (.tmp 35) = .pointer (some ⟨q, 3, none⟩) := by rw [eval_put _ _ _ _ (by omega), if_pos rfl]
    have y33 : (A.put (some 35) (.pointer (some ⟨q, 3, none⟩))).eval (.tmp 33) = .slice (some ⟨gi, 0, none⟩) (n - 1) cap := by rw [eval_put _ _ _ _ (by omega), if_neg (by decide)]; exact z33
    change tailWp _ _ _ (A.put (some 35) (.pointer (some ⟨q, 3, none⟩))) _
    generalize A.put (some 35) (.pointer (some ⟨q, 3, none⟩)) = A2 at hfin y35 y33 ⊢
    clear z33 z34 z27 z2 hs13
    intro K hK
    unfold Oper.wp execOp
    simp only [y35, y33]
    go_simp
    exact hK _ _ hfin

end Go.Proofs.YtgbalofdfdafmaaDoor
