/- slices.Insert of one element into a row of one's own: with room, in place. slices.Insert of one element into a row of one's own: with room, in place. -/
import Derived.Test.YtgbalofdfdafmaaDoorMv
import Derived.Test.YtgbalofdfdafmaaDoorMn
import Derived.Shelf.Spec.SlicesInsert
namespace Go.Proofs.YtgbalofdfdafmaaDoor
open Go.RowKit
set_option maxRecDepth 100000

set_option maxHeartbeats 4000000 in
theorem ins_shift_S (g n cap i vb vc : Nat) (cur : Array Value) (A B news : List Value) (w : World) (tA : TypeId) (hi : i < n) (hroom : n + 1 ≤ cap) (hc63 : cap ≤ 9223372036854775807) (hvb : vb ≠ g)
    (hg : w.heap[g]? = some (.cells cur 9 (0, 0))) (hcs : cur.size = cap * 1) (hA : A.length = i * 1) (hB : B.length = (n - i) * 1) (hAB : cur.toList.take (n * 1) = A ++ B) (hn : news.length = 1)
    (hnews : w.heap[vb]? = some (.cells news.toArray tA (0, 0))) (h1B : ∀ v ∈ B, v.oneCell' = true) (h1n : ∀ v ∈ news, v.oneCell' = true) :
    Calls Tryd.prog 57 #[.slice (some ⟨g, 0, none⟩) n cap, .int .i64 i, .slice (some ⟨vb, 0, none⟩) 1 vc] w fun e w' =>
      e = .returned (.slice (some ⟨g, 0, none⟩) (n + 1) cap) ∧ w.grownBy w' (some g) ∧ w'.ownsRow 0 9 1 (.slice (some ⟨g, 0, none⟩) (n + 1) cap) (n + 1) (A ++ news ++ B) := by
  obtain ⟨i0, hi0, hz0, hzs, hzb⟩ := info_parts infoS
  have hsz : (Tryd.prog.info? 9).map (·.size) = some 1 := by rw [hi0]; simp [hzs]
  have hsrcB : ∀ j v, B[j]? = some v → w.cell? ⟨g, i * 1 + j, none⟩ = some v := fun j v hj => by
    have hjl : j < B.length := (List.getElem?_eq_some_iff.1 hj).1
    have h2 : (cur.toList.take (n * 1))[i * 1 + j]? = some v := by rw [hAB, List.getElem?_append_right (by omega), hA, Nat.add_sub_cancel_left]; exact hj
    rw [List.getElem?_take] at h2
    split at h2
    · simpa [World.cell?, hg] using h2
    · cases h2
  obtain ⟨cur1, hcur1⟩ : ∃ c, c = (cur.toList.take ((i + 1) * 1) ++ B ++ cur.toList.drop ((i + 1) * 1 + B.length)).toArray := ⟨_, rfl⟩
  have hl1 : cur1.size = cur.size := by rw [hcur1]; simp; omega
  have hcp1 : ∀ ty o1 o2 l1 l2 dc sc, o1 = (i + 1) * 1 → o2 = i * 1 → l1 = n - i → l2 = n + 1 - i → (Builtin.copy_ #[24, 24] ty #[.slice (some ⟨g, o1, none⟩) l1 dc, .slice (some ⟨g, o2, none⟩) l2 sc]).run Tryd.prog w.drew = .ok (goInt (Nat.min l2 l1)) (w.drew.setRow g cur1) := fun ty o1 o2 l1 l2 dc sc e1 e2 e3 e4 => by
    subst e1 e2 e3 e4
    rw [hcur1]
    exact run_copy_rowN (P := Tryd.prog) w.drew 1 24 24 ty 9 g ((i + 1) * 1) (n - i) dc ⟨g, i * 1, none⟩ (n + 1 - i) sc cur 9 B Tryd.underlying24 hsz hg (by rw [hB]; congr 1; simp only [Nat.min_def]; split <;> omega)
      (fun j v hj => by rw [Addr.add_lit]; exact hsrcB j v hj) (by omega) h1B
  obtain ⟨cur2, hcur2⟩ : ∃ c, c = (cur1.toList.take (i * 1) ++ news ++ cur1.toList.drop (i * 1 + news.length)).toArray := ⟨_, rfl⟩
  have hcp2 : ∀ (W : World), (∀ k : Nat, W.heap[k]? = (w.setRow g cur1).heap[k]?) → ∀ ty o1 l1 dc, o1 = i * 1 → l1 = n + 1 - i → (Builtin.copy_ #[24, 24] ty #[.slice (some ⟨g, o1, none⟩) l1 dc, .slice (some ⟨vb, 0, none⟩) 1 vc]).run Tryd.prog W = .ok (goInt (Nat.min 1 l1)) (W.setRow g cur2) := fun W hW ty o1 l1 dc e1 e2 => by
    subst e1 e2
    rw [hcur2]
    exact run_copy_rowN (P := Tryd.prog) W 1 24 24 ty 9 g (i * 1) (n + 1 - i) dc ⟨vb, 0, none⟩ 1 vc cur1 9 news Tryd.underlying24 hsz (by rw [hW]; exact heap_setRow hg) (by rw [hn]; simp only [Nat.min_def]; split <;> omega)
      (fun j v hj => by
        rw [Addr.add_lit]
        have : W.heap[vb]? = some (.cells news.toArray tA (0, 0)) := by rw [hW, heap_setRow_ne hvb]; exact hnews
        simp [World.cell?, this, hj]) (by omega) h1n
  have hov : ∀ o lb cb, (callFunc 70 #[.slice (some ⟨vb, 0, none⟩) 1 vc, .slice (some ⟨g, o, none⟩) lb cb]).run Tryd.prog w = .ok (.value (.bool false)) w := fun o lb cb => by
    rw [run_callFunc_extern Tryd.func70 (by kernel_rfl) (by kernel_rfl) (by kernel_rfl) (e := Extern.SlicesOverlaps.overlaps #[24, 24] #[4]) (by kernel_rfl),
      Lib.run_overlaps_apart w 24 4 9 Tryd.underlying24 1 Tryd.sizeOf9 ⟨vb, 0, none⟩ ⟨g, o, none⟩ 1 vc lb cb hvb tA 9 news.length cur.size (by simp [World.shape?, hnews]) (by simp [World.shape?, hg]) (by omega) (by simp [World.frozen?, hnews]) (by simp [World.frozen?, hnews])]
    rfl
  have hend : ∀ W : World, W.os = w.os → W.tape = w.tape → W.output = w.output → W.heap.size = w.heap.size → (∀ k : Nat, W.heap[k]? = ((w.setRow g cur1).setRow g cur2).heap[k]?) → w.grownBy W (some g) ∧ W.ownsRow 0 9 1 (.slice (some ⟨g, 0, none⟩) (n + 1) cap) (n + 1) (A ++ news ++ B) := by
    intro W e1 e2 e3 e4 e5
    refine ⟨⟨e1, e2, e3, by omega, fun k _ hk => ?_⟩, by simp; omega, .inr ⟨g, cap, cur2, rfl, Nat.zero_le _, ?_, hroom, by unfold maxLen; omega, ?_⟩⟩
    · have hne : k ≠ g := fun e => hk (by rw [e])
      rw [e5, heap_setRow_ne hne, heap_setRow_ne hne]
    · rw [e5]
      exact heap_setRow (heap_setRow hg)
    · have hs := shift_row (cur := cur.toList) (A := A) (B := B) (news := news) (s := 1) (by rw [← hAB]; congr 1; omega) hn (by simp; omega)
      rw [hA] at hs
      rw [hcur2, hcur1]
      rw [show (i + 1) * 1 = i * 1 + 1 by omega, show (n + 1) * 1 = i * 1 + B.length + 1 by omega, ← hcs]
      exact ⟨by simpa using hs.2, by simpa using hs.1⟩
  have HE := Lib.hid hend
  obtain ⟨W1, hW1⟩ : ∃ W1, W1 = w.drew.setRow g cur1 := ⟨_, rfl⟩
  have hcp2' := hcp2 W1 (fun k => by rw [hW1]; rfl)
  have hcp1' := fun ty dc sc => hcp1 ty (i + 1) (i) (n - i) (n + 1 - i) dc sc (by omega) (by omega) rfl rfl
  rw [← hW1] at hcp1'
  have hcp2'' := fun ty dc => hcp2' ty (i) (n + 1 - i) dc (by omega) rfl
  have HW1 := Lib.hid hW1
  clear hW1 hcp1 hcp2' hcp2 hend hcur1 hcur2 hsrcB hnews hg hcs hA hB hAB hn h1B h1n hl1
  have hw1 : IntKind.i64.wrap ((i : Int) + 1) = (i : Int) + 1 := by rw [IntKind.wrap_i64]; omega
  have hw2 : IntKind.i64.wrap ((n : Int) + 1) = (n : Int) + 1 := by rw [IntKind.wrap_i64]; omega
  have hz2 : ¬ ((i : Int) = (n : Int)) := by omega
  have hb1 : (0 : Int) ≤ (i : Int) + 1 := by omega
  have hin : i ≤ n := by omega
  have htn : ((i : Int) + 1).toNat = i + 1 := by omega
  have hb2 : ¬ (cap = i + 1) := by omega
  have hb3 : (i : Int) ≤ (n : Int) + 1 := by omega
  have hb4 : ¬ (cap = i) := by omega
  have hb5 : ¬ ((cap : Int) < (n : Int) + 1) := by omega
  have mixed : Tryd.prog.follows .mixedOrders = true := by kernel_rfl
  go_enter Tryd.func57, Tryd.ntmps57
  go_wp2_with (simp only [hov])
  go_region_law_o (refine step_copy_runI rfl _ _ 24 24 rfl _ _ (by simp [Act.eval, Act.put]) (by simp [Act.eval, Act.put]) (hcp1' _ _ _) ?_)
  go_wp2_with (simp only [hcp2''])
  go_ret
  exact ⟨rfl, HE.out _ (by rw [HW1.out]; rfl) (by rw [HW1.out]; rfl) (by rw [HW1.out]; rfl) (by rw [setRow_size, HW1.out, setRow_size]; rfl) (fun k => by rw [HW1.out]; rfl)⟩

set_option maxHeartbeats 4000000 in
theorem ins_end_S (n vb vc : Nat) (ad : Option Addr) (cap : Nat) (xs news : List Value) (w : World) (hown : w.ownsRow 0 9 1 (.slice ad n cap) n xs) (hnc : n ≤ cap) (hc63 : cap ≤ 9223372036854775807) (hbig : (n + 1) * 16 ≤ 140737488355328)
    (hn : news.length = 1) (tA : TypeId) (hnews : w.heap[vb]? = some (.cells news.toArray tA (0, 0))) (h1n : ∀ v ∈ news, v.oneCell' = true) :
    Calls Tryd.prog 57 #[.slice ad n cap, .int .i64 n, .slice (some ⟨vb, 0, none⟩) 1 vc] w fun e w' =>
      ∃ v', e = .returned v' ∧ w'.ownsRow 0 9 1 v' (n + 1) (xs ++ news) ∧ w.grownBy w' (Value.ownBlock (.slice ad n cap)) ∧ (v'.ownBlock = Value.ownBlock (.slice ad n cap) ∨ v'.ownBlock = some w.heap.size) := by
  obtain ⟨i0, hi0, hz0, hzs, hzb⟩ := info_parts infoS
  have hcell : ∀ j u, news[j]? = some u → w.cell? ((⟨vb, 0, none⟩ : Addr).add j) = some u := fun j u hj => by
    rw [Addr.add_lit]
    simp [World.cell?, hnews, hj]
  have HC := Lib.hid hcell
  have HW := Lib.hid hown
  have hnil : ad = none → n = 0 ∧ cap = 0 := fun e => by
    subst e
    rcases hown.2 with ⟨h, h0⟩ | ⟨g, c, cur, h, _⟩
    · cases h; exact ⟨rfl, rfl⟩
    · cases h
  have hsp : ∀ a, ad = some a → ∃ g, a = ⟨g, 0, none⟩ := fun a e => by
    subst e
    rcases hown.2 with ⟨h, h0⟩ | ⟨g, c, cur, h, _⟩
    · cases h
    · cases h; exact ⟨g, rfl⟩
  clear hown hcell hnews
  go_enter Tryd.func57, Tryd.ntmps57
  cases ad with
  | none =>
    obtain ⟨rfl, rfl⟩ := hnil rfl
    go_wp2_with (at_builtin; refine wpList_append_fresh _ rfl _ _ 24 rfl 0 9 i0 _ 1 16 Tryd.underlying24 hi0 hz0 hzs hzb rfl (by decide) _ 0 xs rfl HW.out ⟨vb, 0, none⟩ 1 vc news rfl (by omega) HC.out h1n (by unfold maxLen; omega) (by omega) (by omega) ?_)
    intro v' w1 h2 h3 h4
    go_wp2
    go_ret
    exact ⟨_, rfl, h2, h3, h4⟩
  | some a =>
    obtain ⟨g, rfl⟩ := hsp a rfl
    by_cases hcn : cap = n
    all_goals
      go_wp2_with (at_builtin; refine wpList_append_fresh _ rfl _ _ 24 rfl 0 9 i0 _ 1 16 Tryd.underlying24 hi0 hz0 hzs hzb rfl (by decide) _ n xs rfl HW.out ⟨vb, 0, none⟩ 1 vc news rfl (by omega) HC.out h1n (by unfold maxLen; omega) (by omega) (by omega) ?_)
      intro v' w1 h2 h3 h4
      go_wp2
      go_ret
      exact ⟨_, rfl, h2, h3, h4⟩

set_option maxHeartbeats 4000000 in
theorem ins_grow_S (g n cap i vb vc : Nat) (cur : Array Value) (A B news : List Value) (w : World) (tA : TypeId) (hi : i < n) (hnc : n ≤ cap) (hroom : cap < n + 1) (hbig : (n + 1) * 16 ≤ 140737488355328)
    (hg : w.heap[g]? = some (.cells cur 9 (0, 0))) (_hcs : cur.size = cap * 1) (hA : A.length = i * 1) (hB : B.length = (n - i) * 1) (hAB : cur.toList.take (n * 1) = A ++ B) (hn : news.length = 1)
    (hnews : w.heap[vb]? = some (.cells news.toArray tA (0, 0))) (h1B : ∀ v ∈ B, v.oneCell' = true) (h1n : ∀ v ∈ news, v.oneCell' = true) :
    Calls Tryd.prog 57 #[.slice (some ⟨g, 0, none⟩) n cap, .int .i64 i, .slice (some ⟨vb, 0, none⟩) 1 vc] w fun e w' =>
      ∃ G, e = .returned (.slice (some ⟨w.heap.size, 0, none⟩) (n + 1) G) ∧ w.grownBy w' none ∧ w'.ownsRow 0 9 1 (.slice (some ⟨w.heap.size, 0, none⟩) (n + 1) G) (n + 1) (A ++ news ++ B) := by
  obtain ⟨i0, hi0, hz0, hzs, hzb⟩ := info_parts infoS
  have hsz : (Tryd.prog.info? 9).map (·.size) = some 1 := by rw [hi0]; simp [hzs]
  have hglt : g < w.heap.size := (Array.getElem?_eq_some_iff.1 hg).1
  have hvlt : vb < w.heap.size := (Array.getElem?_eq_some_iff.1 hnews).1
  have hsrcA : ∀ j v, A[j]? = some v → w.cell? ⟨g, j, none⟩ = some v := fun j v hj => by
    have hjl : j < A.length := (List.getElem?_eq_some_iff.1 hj).1
    have h2 : (cur.toList.take (n * 1))[j]? = some v := by rw [hAB, List.getElem?_append_left (by omega)]; exact hj
    rw [List.getElem?_take] at h2
    split at h2
    · simpa [World.cell?, hg] using h2
    · cases h2
  have hsrcB : ∀ j v, B[j]? = some v → cur[i * 1 + j]? = some v := fun j v hj => by
    have hjl : j < B.length := (List.getElem?_eq_some_iff.1 hj).1
    have h2 : (cur.toList.take (n * 1))[i * 1 + j]? = some v := by rw [hAB, List.getElem?_append_right (by omega), hA, Nat.add_sub_cancel_left]; exact hj
    rw [List.getElem?_take] at h2
    split at h2
    · simpa using h2
    · cases h2
  have hkk : (n : Int) + 1 - (i : Int) = ((n + 1 - i : Nat) : Int) := by omega
  have hik : i + (n + 1 - i) = n + 1 := by omega
  have hold : (Builtin.firstCells i0.size i (.slice (some ⟨g, 0, none⟩) i cap)).run Tryd.prog w.drew = .ok A.toArray w.drew := by
    rw [hzs]
    exact run_firstCells_some w.drew 1 i ⟨g, 0, none⟩ i cap A hA (fun j v hj => by rw [Addr.add_lit, Nat.zero_add]; exact hsrcA j v hj)
  obtain ⟨G, hG⟩ : ∃ G, G = grownCap w (n + 1) cap 9 := ⟨_, rfl⟩
  obtain ⟨ROW, hROW⟩ : ∃ ROW : Array Value, ROW = A.toArray ++ Builtin.zeroCells (Value.cells (Value.string ⟨#[]⟩)) (n + 1 - i) ++ Builtin.zeroCells (Value.cells (Value.string ⟨#[]⟩)) (G - (n + 1)) := ⟨_, rfl⟩
  have hrz : ∀ ty, (Builtin.append_ #[24, 3] ty #[.slice (some ⟨g, 0, none⟩) i cap, .int .i64 ((n : Int) + 1 - (i : Int))]).run Tryd.prog w =
      .ok (.slice (some ⟨w.heap.size, 0, none⟩) (n + 1) G) (w.drew.alloc (.cells ROW 9)) := fun ty => by
    have h := Lib.run_append_grow_zeros w 24 3 ty 9 i0 _ .i64 .i64 Tryd.underlying24 Tryd.underlying3 hi0 hz0 (some ⟨g, 0, none⟩) i cap A hold (n + 1 - i) (by omega) (by omega) (by omega) (by omega) (by rw [hzb]; omega) (by rw [hzb, hik]; exact growslice_fits (by omega) hbig)
    rw [hik, ← hG, ← hROW] at h
    rw [hkk]
    exact h
  have hGn : n + 1 ≤ G := by rw [hG]; exact grownCap_ge w _ _ _
  have hG63 : G ≤ 9223372036854775807 := by
    have := grownCap_le_maxLen w (n + 1) cap 9 (by unfold maxLen; omega)
    rw [← hG] at this
    unfold maxLen at this
    omega
  have hZl : (Builtin.zeroCells (Value.cells (Value.string ⟨#[]⟩)) (n + 1 - i)).toList.length = (n + 1 - i) * 1 := by simp [Builtin.zeroCells, Value.cells]
  have hYl : (Builtin.zeroCells (Value.cells (Value.string ⟨#[]⟩)) (G - (n + 1))).toList.length = (G - (n + 1)) * 1 := by simp [Builtin.zeroCells, Value.cells]
  have hRL : ROW.toList = A ++ (Builtin.zeroCells (Value.cells (Value.string ⟨#[]⟩)) (n + 1 - i)).toList ++ (Builtin.zeroCells (Value.cells (Value.string ⟨#[]⟩)) (G - (n + 1))).toList := by rw [hROW]; simp
  generalize (Builtin.zeroCells (Value.cells (Value.string ⟨#[]⟩)) (n + 1 - i)).toList = Z at hZl hRL
  generalize (Builtin.zeroCells (Value.cells (Value.string ⟨#[]⟩)) (G - (n + 1))).toList = Y at hYl hRL
  have hRs : ROW.size = G * 1 := by
    have := congrArg List.length hRL
    simp only [Array.length_toList, List.length_append] at this
    omega
  clear hROW hold hsrcA hG
  obtain ⟨cur1, hcur1⟩ : ∃ c, c = (ROW.toList.take (i * 1) ++ news ++ ROW.toList.drop (i * 1 + news.length)).toArray := ⟨_, rfl⟩
  have hl1 : cur1.size = ROW.size := by rw [hcur1]; simp; omega
  obtain ⟨cur2, hcur2⟩ : ∃ c, c = (cur1.toList.take ((i + 1) * 1) ++ B ++ cur1.toList.drop ((i + 1) * 1 + B.length)).toArray := ⟨_, rfl⟩
  obtain ⟨W1, hW1⟩ : ∃ W1, W1 = w.drew.alloc (.cells ROW 9) := ⟨_, rfl⟩
  have hWN : W1.heap[w.heap.size]? = some (.cells ROW 9 (0, 0)) := by rw [hW1]; exact heap_alloc_new w.drew _
  have hWo : ∀ k, k < w.heap.size → W1.heap[k]? = w.heap[k]? := fun k hk => by rw [hW1]; exact Below.heap_alloc w.drew _ k hk
  rw [← hW1] at hrz
  have hcpA : ∀ (W : World), (∀ k : Nat, W.heap[k]? = W1.heap[k]?) → ∀ ty o1 l1 dc, o1 = i * 1 → l1 = n + 1 - i → (Builtin.copy_ #[24, 24] ty #[.slice (some ⟨w.heap.size, o1, none⟩) l1 dc, .slice (some ⟨vb, 0, none⟩) 1 vc]).run Tryd.prog W = .ok (goInt (Nat.min 1 l1)) (W.setRow w.heap.size cur1) := fun W hW ty o1 l1 dc e1 e2 => by
    subst e1 e2
    rw [hcur1]
    exact run_copy_rowN (P := Tryd.prog) W 1 24 24 ty 9 w.heap.size (i * 1) (n + 1 - i) dc ⟨vb, 0, none⟩ 1 vc ROW 9 news Tryd.underlying24 hsz (by rw [hW]; exact hWN) (by rw [hn]; simp only [Nat.min_def]; split <;> omega)
      (fun j v hj => by
        rw [Addr.add_lit]
        have : W.heap[vb]? = some (.cells news.toArray tA (0, 0)) := by rw [hW, hWo vb hvlt]; exact hnews
        simp [World.cell?, this, hj]) (by omega) h1n
  have hcpB : ∀ (W : World), (∀ k : Nat, W.heap[k]? = (W1.setRow w.heap.size cur1).heap[k]?) → ∀ ty o1 o2 l1 l2 dc sc, o1 = (i + 1) * 1 → o2 = i * 1 → l1 = n - i → l2 = n - i → (Builtin.copy_ #[24, 24] ty #[.slice (some ⟨w.heap.size, o1, none⟩) l1 dc, .slice (some ⟨g, o2, none⟩) l2 sc]).run Tryd.prog W = .ok (goInt (Nat.min l2 l1)) (W.setRow w.heap.size cur2) := fun W hW ty o1 o2 l1 l2 dc sc e1 e2 e3 e4 => by
    subst e1 e2 e3 e4
    rw [hcur2]
    exact run_copy_rowN (P := Tryd.prog) W 1 24 24 ty 9 w.heap.size ((i + 1) * 1) (n - i) dc ⟨g, i * 1, none⟩ (n - i) sc cur1 9 B Tryd.underlying24 hsz (by rw [hW]; exact heap_setRow hWN) (by rw [hB]; congr 1; simp only [Nat.min_def]; split <;> omega)
      (fun j v hj => by
        rw [Addr.add_lit]
        have : W.heap[g]? = some (.cells cur 9 (0, 0)) := by rw [hW, heap_setRow_ne (by omega), hWo g hglt]; exact hg
        simpa [World.cell?, this] using hsrcB j v hj) (by omega) h1B
  have hend : ∀ W : World, W.os = w.os → W.tape = w.tape → W.output = w.output → W.heap.size = w.heap.size + 1 → (∀ k : Nat, W.heap[k]? = ((W1.setRow w.heap.size cur1).setRow w.heap.size cur2).heap[k]?) → w.grownBy W none ∧ W.ownsRow 0 9 1 (.slice (some ⟨w.heap.size, 0, none⟩) (n + 1) G) (n + 1) (A ++ news ++ B) := by
    intro W e1 e2 e3 e4 e5
    refine ⟨⟨e1, e2, e3, by omega, fun k hk _ => ?_⟩, by simp; omega, .inr ⟨w.heap.size, G, cur2, rfl, Nat.zero_le _, ?_, hGn, by unfold maxLen; omega, ?_⟩⟩
    · rw [e5, heap_setRow_ne (by omega), heap_setRow_ne (by omega), hWo k hk]
    · rw [e5]
      exact heap_setRow (heap_setRow hWN)
    · have hs := grow_row (A := A) (B := B) (news := news) (Z := Z) (Y := Y) (by omega)
      have hc2 : cur2.toList = A ++ news ++ B ++ Y := by
        rw [hcur2, hcur1, hRL]
        rw [hA, hn] at hs
        rw [hn, show (i + 1) * 1 = i * 1 + 1 by omega]
        simpa using hs
      refine ⟨?_, ?_⟩
      · have := congrArg List.length hc2
        simp only [Array.length_toList, List.length_append] at this
        omega
      · rw [hc2, show (n + 1) * 1 = (A ++ news ++ B).length by simp; omega, List.take_left]
  have HE := Lib.hid hend
  have hcpA' := fun W hW ty dc => hcpA W hW ty (i) (n + 1 - i) dc (by omega) rfl
  have hcpB' := fun W hW ty dc sc => hcpB W hW ty (i + 1) (i) (n - i) (n - i) dc sc (by omega) (by omega) rfl rfl
  have HA := Lib.hid hcpA'
  have HB := Lib.hid hcpB'
  have hHS : W1.heap.size = w.heap.size + 1 := by rw [hW1]; simp only [World.alloc, Array.size_push]; rfl
  have hH2 : W1.os = w.os ∧ W1.tape = w.tape ∧ W1.output = w.output := by rw [hW1]; exact ⟨rfl, rfl, rfl⟩
  have HS := Lib.hid hHS
  have H2 := Lib.hid hH2
  clear hHS hH2
  have HRZ := Lib.hid hrz
  have hW1' := Lib.hid hW1
  clear hkk hik hcpA' hcpB' hcpA hcpB hend hcur1 hcur2 hsrcB hnews hg _hcs hA hB hAB hn h1B h1n hl1 hRL hRs hYl hZl hWN hWo hrz hW1
  have hw1 : IntKind.i64.wrap ((i : Int) + 1) = (i : Int) + 1 := by rw [IntKind.wrap_i64]; omega
  have hw2 : IntKind.i64.wrap ((n : Int) + 1) = (n : Int) + 1 := by rw [IntKind.wrap_i64]; omega
  have hw3 : IntKind.i64.wrap ((n : Int) + 1 - (i : Int)) = (n : Int) + 1 - (i : Int) := by rw [IntKind.wrap_i64]; omega
  have hz2 : ¬ ((i : Int) = (n : Int)) := by omega
  have hz3 : (cap : Int) < (n : Int) + 1 := by omega
  have hb1 : (0 : Int) ≤ (i : Int) + 1 := by omega
  have hin : i ≤ n := by omega
  have htn : ((i : Int) + 1).toNat = i + 1 := by omega
  have hb3 : (i : Int) ≤ (n : Int) := by omega
  have hGi : ¬ (G = i) := by omega
  have hGim : ¬ (G = i + 1) := by omega
  have hci : ¬ (cap = i) := by omega
  have mixed : Tryd.prog.follows .mixedOrders = true := by kernel_rfl
  go_enter Tryd.func57, Tryd.ntmps57
  go_wp2_with (at_builtin; refine Lib.wpList_append_run _ rfl _ _ _ _ rfl _ _ rfl rfl _ _ (HRZ.out _) ?_)
  have hcA := HA.out W1 (fun _ => rfl)
  go_wp2_with (simp only [hcA])
  clear hcA
  have hcB := HB.out ((W1.setRow w.heap.size cur1).drew) (fun _ => rfl)
  go_region
  clear hcB
  go_wp2
  go_ret
  obtain ⟨q1, q2, q3⟩ := H2.out
  exact ⟨_, rfl, HE.out _ q1 q2 q3 (by rw [setRow_size]; show ((W1.setRow _ _).heap.size) = _; rw [setRow_size]; exact HS.out) (fun k => rfl)⟩

/-- slices.Insert of one element into a row of one's own. -/
theorem insert_S (n i vb vc : Nat) (v : Value) (xs news : List Value) (F : List Nat) (w : World) (tA : TypeId) (h : OwnS w 9 1 v n xs F) (hi : i ≤ n) (hn : news.length = 1) (hnews : w.heap[vb]? = some (.cells news.toArray tA (0, 0))) (hvb : vb ∉ F)
    (h1x : ∀ v ∈ xs, v.oneCell' = true) (h1n : ∀ v ∈ news, v.oneCell' = true) (hbig : (n + 1) * 16 ≤ 140737488355328) :
    Calls Tryd.prog 57 #[v, .int .i64 i, .slice (some ⟨vb, 0, none⟩) 1 vc] w fun e w' =>
      ∃ v', e = .returned v' ∧ w'.ownsRow 0 9 1 v' (n + 1) (xs.take (i * 1) ++ news ++ xs.drop (i * 1)) ∧ w.grownBy w' v.ownBlock ∧ (v'.ownBlock = v.ownBlock ∨ v'.ownBlock = some w.heap.size) := by
  obtain ⟨ad, c, rfl, hnc, hc63, hxl⟩ := h.form
  obtain ⟨h, rfl⟩ := h
  by_cases hin : i = n
  · subst hin
    refine (ins_end_S i vb vc ad c xs news w h hnc hc63 hbig hn tA hnews h1n).mono ?_
    rintro e w' ⟨v', he, h2, h3, h4⟩
    refine ⟨v', he, ?_, h3, h4⟩
    rw [List.take_of_length_le (by omega), List.drop_of_length_le (by omega), List.append_nil]
    exact h2
  · rcases h.2 with ⟨hv, h0⟩ | ⟨g, cap, cur, hv, hb, hg, h1, h2, hs, ht⟩
    · omega
    · cases hv
      have hA : (xs.take (i * 1)).length = i * 1 := by rw [List.length_take, Nat.min_eq_left (by omega)]
      have hB : (xs.drop (i * 1)).length = (n - i) * 1 := by rw [List.length_drop]; omega
      have hAB : cur.toList.take (n * 1) = xs.take (i * 1) ++ xs.drop (i * 1) := by rw [List.take_append_drop]; exact ht
      have h1B : ∀ v ∈ xs.drop (i * 1), v.oneCell' = true := fun v hv => h1x v (List.mem_of_mem_drop hv)
      by_cases hroom : n + 1 ≤ c
      · refine (ins_shift_S g n c i vb vc cur _ _ news w tA (by omega) hroom hc63 (fun e => hvb (by rw [e]; simp [Value.ownBlock])) hg hs hA hB hAB hn hnews h1B h1n).mono ?_
        rintro e w' ⟨he, h3, h4⟩
        exact ⟨_, he, h4, h3, .inl rfl⟩
      · refine (ins_grow_S g n c i vb vc cur _ _ news w tA (by omega) hnc (by omega) hbig hg hs hA hB hAB hn hnews h1B h1n).mono ?_
        rintro e w' ⟨G, he, h3, h4⟩
        exact ⟨_, he, h4, ⟨h3.os, h3.tape, h3.output, h3.size, fun k hk _ => h3.block k hk (by simp)⟩, .inr rfl⟩

end Go.Proofs.YtgbalofdfdafmaaDoor
namespace Go.Proofs.YtgbalofdfdafmaaDoor
open Go.RowKit
set_option maxRecDepth 100000

set_option maxHeartbeats 4000000 in
theorem ins_shift_V (g n cap i vb vc : Nat) (cur : Array Value) (A B news : List Value) (w : World) (tA : TypeId) (hi : i < n) (hroom : n + 1 ≤ cap) (hc63 : cap ≤ 9223372036854775807) (hvb : vb ≠ g)
    (hg : w.heap[g]? = some (.cells cur 26 (0, 0))) (hcs : cur.size = cap * 5) (hA : A.length = i * 5) (hB : B.length = (n - i) * 5) (hAB : cur.toList.take (n * 5) = A ++ B) (hn : news.length = 5)
    (hnews : w.heap[vb]? = some (.cells news.toArray tA (0, 0))) (h1B : ∀ v ∈ B, v.oneCell' = true) (h1n : ∀ v ∈ news, v.oneCell' = true) :
    Calls Tryd.prog 58 #[.slice (some ⟨g, 0, none⟩) n cap, .int .i64 i, .slice (some ⟨vb, 0, none⟩) 1 vc] w fun e w' =>
      e = .returned (.slice (some ⟨g, 0, none⟩) (n + 1) cap) ∧ w.grownBy w' (some g) ∧ w'.ownsRow 0 26 5 (.slice (some ⟨g, 0, none⟩) (n + 1) cap) (n + 1) (A ++ news ++ B) := by
  obtain ⟨i0, hi0, hz0, hzs, hzb⟩ := info_parts infoVal
  have hsz : (Tryd.prog.info? 26).map (·.size) = some 5 := by rw [hi0]; simp [hzs]
  have hsrcB : ∀ j v, B[j]? = some v → w.cell? ⟨g, i * 5 + j, none⟩ = some v := fun j v hj => by
    have hjl : j < B.length := (List.getElem?_eq_some_iff.1 hj).1
    have h2 : (cur.toList.take (n * 5))[i * 5 + j]? = some v := by rw [hAB, List.getElem?_append_right (by omega), hA, Nat.add_sub_cancel_left]; exact hj
    rw [List.getElem?_take] at h2
    split at h2
    · simpa [World.cell?, hg] using h2
    · cases h2
  obtain ⟨cur1, hcur1⟩ : ∃ c, c = (cur.toList.take ((i + 1) * 5) ++ B ++ cur.toList.drop ((i + 1) * 5 + B.length)).toArray := ⟨_, rfl⟩
  have hl1 : cur1.size = cur.size := by rw [hcur1]; simp; omega
  have hcp1 : ∀ ty o1 o2 l1 l2 dc sc, o1 = (i + 1) * 5 → o2 = i * 5 → l1 = n - i → l2 = n + 1 - i → (Builtin.copy_ #[23, 23] ty #[.slice (some ⟨g, o1, none⟩) l1 dc, .slice (some ⟨g, o2, none⟩) l2 sc]).run Tryd.prog w.drew = .ok (goInt (Nat.min l2 l1)) (w.drew.setRow g cur1) := fun ty o1 o2 l1 l2 dc sc e1 e2 e3 e4 => by
    subst e1 e2 e3 e4
    rw [hcur1]
    exact run_copy_rowN (P := Tryd.prog) w.drew 5 23 23 ty 26 g ((i + 1) * 5) (n - i) dc ⟨g, i * 5, none⟩ (n + 1 - i) sc cur 26 B Tryd.underlying23 hsz hg (by rw [hB]; congr 1; simp only [Nat.min_def]; split <;> omega)
      (fun j v hj => by rw [Addr.add_lit]; exact hsrcB j v hj) (by omega) h1B
  obtain ⟨cur2, hcur2⟩ : ∃ c, c = (cur1.toList.take (i * 5) ++ news ++ cur1.toList.drop (i * 5 + news.length)).toArray := ⟨_, rfl⟩
  have hcp2 : ∀ (W : World), (∀ k : Nat, W.heap[k]? = (w.setRow g cur1).heap[k]?) → ∀ ty o1 l1 dc, o1 = i * 5 → l1 = n + 1 - i → (Builtin.copy_ #[23, 23] ty #[.slice (some ⟨g, o1, none⟩) l1 dc, .slice (some ⟨vb, 0, none⟩) 1 vc]).run Tryd.prog W = .ok (goInt (Nat.min 1 l1)) (W.setRow g cur2) := fun W hW ty o1 l1 dc e1 e2 => by
    subst e1 e2
    rw [hcur2]
    exact run_copy_rowN (P := Tryd.prog) W 5 23 23 ty 26 g (i * 5) (n + 1 - i) dc ⟨vb, 0, none⟩ 1 vc cur1 26 news Tryd.underlying23 hsz (by rw [hW]; exact heap_setRow hg) (by rw [hn]; simp only [Nat.min_def]; split <;> omega)
      (fun j v hj => by
        rw [Addr.add_lit]
        have : W.heap[vb]? = some (.cells news.toArray tA (0, 0)) := by rw [hW, heap_setRow_ne hvb]; exact hnews
        simp [World.cell?, this, hj]) (by omega) h1n
  have hov : ∀ o lb cb, (callFunc 72 #[.slice (some ⟨vb, 0, none⟩) 1 vc, .slice (some ⟨g, o, none⟩) lb cb]).run Tryd.prog w = .ok (.value (.bool false)) w := fun o lb cb => by
    rw [run_callFunc_extern Tryd.func72 (by kernel_rfl) (by kernel_rfl) (by kernel_rfl) (e := Extern.SlicesOverlaps.overlaps #[23, 23] #[4]) (by kernel_rfl),
      Lib.run_overlaps_apart w 23 4 26 Tryd.underlying23 5 Tryd.sizeOf26 ⟨vb, 0, none⟩ ⟨g, o, none⟩ 1 vc lb cb hvb tA 26 news.length cur.size (by simp [World.shape?, hnews]) (by simp [World.shape?, hg]) (by omega) (by simp [World.frozen?, hnews]) (by simp [World.frozen?, hnews])]
    rfl
  have hend : ∀ W : World, W.os = w.os → W.tape = w.tape → W.output = w.output → W.heap.size = w.heap.size → (∀ k : Nat, W.heap[k]? = ((w.setRow g cur1).setRow g cur2).heap[k]?) → w.grownBy W (some g) ∧ W.ownsRow 0 26 5 (.slice (some ⟨g, 0, none⟩) (n + 1) cap) (n + 1) (A ++ news ++ B) := by
    intro W e1 e2 e3 e4 e5
    refine ⟨⟨e1, e2, e3, by omega, fun k _ hk => ?_⟩, by simp; omega, .inr ⟨g, cap, cur2, rfl, Nat.zero_le _, ?_, hroom, by unfold maxLen; omega, ?_⟩⟩
    · have hne : k ≠ g := fun e => hk (by rw [e])
      rw [e5, heap_setRow_ne hne, heap_setRow_ne hne]
    · rw [e5]
      exact heap_setRow (heap_setRow hg)
    · have hs := shift_row (cur := cur.toList) (A := A) (B := B) (news := news) (s := 5) (by rw [← hAB]; congr 1; omega) hn (by simp; omega)
      rw [hA] at hs
      rw [hcur2, hcur1]
      rw [show (i + 1) * 5 = i * 5 + 5 by omega, show (n + 1) * 5 = i * 5 + B.length + 5 by omega, ← hcs]
      exact ⟨by simpa using hs.2, by simpa using hs.1⟩
  have HE := Lib.hid hend
  obtain ⟨W1, hW1⟩ : ∃ W1, W1 = w.drew.setRow g cur1 := ⟨_, rfl⟩
  have hcp2' := hcp2 W1 (fun k => by rw [hW1]; rfl)
  have hcp1' := fun ty dc sc => hcp1 ty ((i + 1) * 5) (i * 5) (n - i) (n + 1 - i) dc sc (by omega) (by omega) rfl rfl
  rw [← hW1] at hcp1'
  have hcp2'' := fun ty dc => hcp2' ty (i * 5) (n + 1 - i) dc (by omega) rfl
  have HW1 := Lib.hid hW1
  clear hW1 hcp1 hcp2' hcp2 hend hcur1 hcur2 hsrcB hnews hg hcs hA hB hAB hn h1B h1n hl1
  have hw1 : IntKind.i64.wrap ((i : Int) + 1) = (i : Int) + 1 := by rw [IntKind.wrap_i64]; omega
  have hw2 : IntKind.i64.wrap ((n : Int) + 1) = (n : Int) + 1 := by rw [IntKind.wrap_i64]; omega
  have hz2 : ¬ ((i : Int) = (n : Int)) := by omega
  have hb1 : (0 : Int) ≤ (i : Int) + 1 := by omega
  have hin : i ≤ n := by omega
  have htn : ((i : Int) + 1).toNat = i + 1 := by omega
  have hb2 : ¬ (cap = i + 1) := by omega
  have hb3 : (i : Int) ≤ (n : Int) + 1 := by omega
  have hb4 : ¬ (cap = i) := by omega
  have hb5 : ¬ ((cap : Int) < (n : Int) + 1) := by omega
  have mixed : Tryd.prog.follows .mixedOrders = true := by kernel_rfl
  go_enter Tryd.func58, Tryd.ntmps58
  go_wp2_with (simp only [hov])
  go_region_law_o (refine step_copy_runI rfl _ _ 23 23 rfl _ _ (by simp [Act.eval, Act.put]) (by simp [Act.eval, Act.put]) (hcp1' _ _ _) ?_)
  go_wp2_with (simp only [hcp2''])
  go_ret
  exact ⟨rfl, HE.out _ (by rw [HW1.out]; rfl) (by rw [HW1.out]; rfl) (by rw [HW1.out]; rfl) (by rw [setRow_size, HW1.out, setRow_size]; rfl) (fun k => by rw [HW1.out]; rfl)⟩

set_option maxHeartbeats 4000000 in
theorem ins_end_V (n vb vc : Nat) (ad : Option Addr) (cap : Nat) (xs news : List Value) (w : World) (hown : w.ownsRow 0 26 5 (.slice ad n cap) n xs) (hnc : n ≤ cap) (hc63 : cap ≤ 9223372036854775807) (hbig : (n + 1) * 80 ≤ 140737488355328)
    (hn : news.length = 5) (tA : TypeId) (hnews : w.heap[vb]? = some (.cells news.toArray tA (0, 0))) (h1n : ∀ v ∈ news, v.oneCell' = true) :
    Calls Tryd.prog 58 #[.slice ad n cap, .int .i64 n, .slice (some ⟨vb, 0, none⟩) 1 vc] w fun e w' =>
      ∃ v', e = .returned v' ∧ w'.ownsRow 0 26 5 v' (n + 1) (xs ++ news) ∧ w.grownBy w' (Value.ownBlock (.slice ad n cap)) ∧ (v'.ownBlock = Value.ownBlock (.slice ad n cap) ∨ v'.ownBlock = some w.heap.size) := by
  obtain ⟨i0, hi0, hz0, hzs, hzb⟩ := info_parts infoVal
  have hcell : ∀ j u, news[j]? = some u → w.cell? ((⟨vb, 0, none⟩ : Addr).add j) = some u := fun j u hj => by
    rw [Addr.add_lit]
    simp [World.cell?, hnews, hj]
  have HC := Lib.hid hcell
  have HW := Lib.hid hown
  have hnil : ad = none → n = 0 ∧ cap = 0 := fun e => by
    subst e
    rcases hown.2 with ⟨h, h0⟩ | ⟨g, c, cur, h, _⟩
    · cases h; exact ⟨rfl, rfl⟩
    · cases h
  have hsp : ∀ a, ad = some a → ∃ g, a = ⟨g, 0, none⟩ := fun a e => by
    subst e
    rcases hown.2 with ⟨h, h0⟩ | ⟨g, c, cur, h, _⟩
    · cases h
    · cases h; exact ⟨g, rfl⟩
  clear hown hcell hnews
  go_enter Tryd.func58, Tryd.ntmps58
  cases ad with
  | none =>
    obtain ⟨rfl, rfl⟩ := hnil rfl
    go_wp2_with (at_builtin; refine wpList_append_fresh _ rfl _ _ 23 rfl 0 26 i0 _ 5 80 Tryd.underlying23 hi0 hz0 hzs hzb rfl (by decide) _ 0 xs rfl HW.out ⟨vb, 0, none⟩ 1 vc news rfl (by omega) HC.out h1n (by unfold maxLen; omega) (by omega) (by omega) ?_)
    intro v' w1 h2 h3 h4
    go_wp2
    go_ret
    exact ⟨_, rfl, h2, h3, h4⟩
  | some a =>
    obtain ⟨g, rfl⟩ := hsp a rfl
    by_cases hcn : cap = n
    all_goals
      go_wp2_with (at_builtin; refine wpList_append_fresh _ rfl _ _ 23 rfl 0 26 i0 _ 5 80 Tryd.underlying23 hi0 hz0 hzs hzb rfl (by decide) _ n xs rfl HW.out ⟨vb, 0, none⟩ 1 vc news rfl (by omega) HC.out h1n (by unfold maxLen; omega) (by omega) (by omega) ?_)
      intro v' w1 h2 h3 h4
      go_wp2
      go_ret
      exact ⟨_, rfl, h2, h3, h4⟩

set_option maxHeartbeats 4000000 in
theorem ins_grow_V (g n cap i vb vc : Nat) (cur : Array Value) (A B news : List Value) (w : World) (tA : TypeId) (hi : i < n) (hnc : n ≤ cap) (hroom : cap < n + 1) (hbig : (n + 1) * 80 ≤ 140737488355328)
    (hg : w.heap[g]? = some (.cells cur 26 (0, 0))) (_hcs : cur.size = cap * 5) (hA : A.length = i * 5) (hB : B.length = (n - i) * 5) (hAB : cur.toList.take (n * 5) = A ++ B) (hn : news.length = 5)
    (hnews : w.heap[vb]? = some (.cells news.toArray tA (0, 0))) (h1B : ∀ v ∈ B, v.oneCell' = true) (h1n : ∀ v ∈ news, v.oneCell' = true) :
    Calls Tryd.prog 58 #[.slice (some ⟨g, 0, none⟩) n cap, .int .i64 i, .slice (some ⟨vb, 0, none⟩) 1 vc] w fun e w' =>
      ∃ G, e = .returned (.slice (some ⟨w.heap.size, 0, none⟩) (n + 1) G) ∧ w.grownBy w' none ∧ w'.ownsRow 0 26 5 (.slice (some ⟨w.heap.size, 0, none⟩) (n + 1) G) (n + 1) (A ++ news ++ B) := by
  obtain ⟨i0, hi0, hz0, hzs, hzb⟩ := info_parts infoVal
  have hsz : (Tryd.prog.info? 26).map (·.size) = some 5 := by rw [hi0]; simp [hzs]
  have hglt : g < w.heap.size := (Array.getElem?_eq_some_iff.1 hg).1
  have hvlt : vb < w.heap.size := (Array.getElem?_eq_some_iff.1 hnews).1
  have hsrcA : ∀ j v, A[j]? = some v → w.cell? ⟨g, j, none⟩ = some v := fun j v hj => by
    have hjl : j < A.length := (List.getElem?_eq_some_iff.1 hj).1
    have h2 : (cur.toList.take (n * 5))[j]? = some v := by rw [hAB, List.getElem?_append_left (by omega)]; exact hj
    rw [List.getElem?_take] at h2
    split at h2
    · simpa [World.cell?, hg] using h2
    · cases h2
  have hsrcB : ∀ j v, B[j]? = some v → cur[i * 5 + j]? = some v := fun j v hj => by
    have hjl : j < B.length := (List.getElem?_eq_some_iff.1 hj).1
    have h2 : (cur.toList.take (n * 5))[i * 5 + j]? = some v := by rw [hAB, List.getElem?_append_right (by omega), hA, Nat.add_sub_cancel_left]; exact hj
    rw [List.getElem?_take] at h2
    split at h2
    · simpa using h2
    · cases h2
  have hkk : (n : Int) + 1 - (i : Int) = ((n + 1 - i : Nat) : Int) := by omega
  have hik : i + (n + 1 - i) = n + 1 := by omega
  have hold : (Builtin.firstCells i0.size i (.slice (some ⟨g, 0, none⟩) i cap)).run Tryd.prog w.drew = .ok A.toArray w.drew := by
    rw [hzs]
    exact run_firstCells_some w.drew 5 i ⟨g, 0, none⟩ i cap A hA (fun j v hj => by rw [Addr.add_lit, Nat.zero_add]; exact hsrcA j v hj)
  obtain ⟨G, hG⟩ : ∃ G, G = grownCap w (n + 1) cap 26 := ⟨_, rfl⟩
  obtain ⟨ROW, hROW⟩ : ∃ ROW : Array Value, ROW = A.toArray ++ Builtin.zeroCells (Value.cells (Value.agg #[.int .i64 0, .bool false, .string ⟨#[]⟩, .slice none 0 0, .slice none 0 0])) (n + 1 - i) ++ Builtin.zeroCells (Value.cells (Value.agg #[.int .i64 0, .bool false, .string ⟨#[]⟩, .slice none 0 0, .slice none 0 0])) (G - (n + 1)) := ⟨_, rfl⟩
  have hrz : ∀ ty, (Builtin.append_ #[23, 3] ty #[.slice (some ⟨g, 0, none⟩) i cap, .int .i64 ((n : Int) + 1 - (i : Int))]).run Tryd.prog w =
      .ok (.slice (some ⟨w.heap.size, 0, none⟩) (n + 1) G) (w.drew.alloc (.cells ROW 26)) := fun ty => by
    have h := Lib.run_append_grow_zeros w 23 3 ty 26 i0 _ .i64 .i64 Tryd.underlying23 Tryd.underlying3 hi0 hz0 (some ⟨g, 0, none⟩) i cap A hold (n + 1 - i) (by omega) (by omega) (by omega) (by omega) (by rw [hzb]; omega) (by rw [hzb, hik]; exact growslice_fits (by omega) hbig)
    rw [hik, ← hG, ← hROW] at h
    rw [hkk]
    exact h
  have hGn : n + 1 ≤ G := by rw [hG]; exact grownCap_ge w _ _ _
  have hG63 : G ≤ 9223372036854775807 := by
    have := grownCap_le_maxLen w (n + 1) cap 26 (by unfold maxLen; omega)
    rw [← hG] at this
    unfold maxLen at this
    omega
  have hZl : (Builtin.zeroCells (Value.cells (Value.agg #[.int .i64 0, .bool false, .string ⟨#[]⟩, .slice none 0 0, .slice none 0 0])) (n + 1 - i)).toList.length = (n + 1 - i) * 5 := by simp [Builtin.zeroCells, Value.cells]
  have hYl : (Builtin.zeroCells (Value.cells (Value.agg #[.int .i64 0, .bool false, .string ⟨#[]⟩, .slice none 0 0, .slice none 0 0])) (G - (n + 1))).toList.length = (G - (n + 1)) * 5 := by simp [Builtin.zeroCells, Value.cells]
  have hRL : ROW.toList = A ++ (Builtin.zeroCells (Value.cells (Value.agg #[.int .i64 0, .bool false, .string ⟨#[]⟩, .slice none 0 0, .slice none 0 0])) (n + 1 - i)).toList ++ (Builtin.zeroCells (Value.cells (Value.agg #[.int .i64 0, .bool false, .string ⟨#[]⟩, .slice none 0 0, .slice none 0 0])) (G - (n + 1))).toList := by rw [hROW]; simp
  generalize (Builtin.zeroCells (Value.cells (Value.agg #[.int .i64 0, .bool false, .string ⟨#[]⟩, .slice none 0 0, .slice none 0 0])) (n + 1 - i)).toList = Z at hZl hRL
  generalize (Builtin.zeroCells (Value.cells (Value.agg #[.int .i64 0, .bool false, .string ⟨#[]⟩, .slice none 0 0, .slice none 0 0])) (G - (n + 1))).toList = Y at hYl hRL
  have hRs : ROW.size = G * 5 := by
    have := congrArg List.length hRL
    simp only [Array.length_toList, List.length_append] at this
    omega
  clear hROW hold hsrcA hG
  obtain ⟨cur1, hcur1⟩ : ∃ c, c = (ROW.toList.take (i * 5) ++ news ++ ROW.toList.drop (i * 5 + news.length)).toArray := ⟨_, rfl⟩
  have hl1 : cur1.size = ROW.size := by rw [hcur1]; simp; omega
  obtain ⟨cur2, hcur2⟩ : ∃ c, c = (cur1.toList.take ((i + 1) * 5) ++ B ++ cur1.toList.drop ((i + 1) * 5 + B.length)).toArray := ⟨_, rfl⟩
  obtain ⟨W1, hW1⟩ : ∃ W1, W1 = w.drew.alloc (.cells ROW 26) := ⟨_, rfl⟩
  have hWN : W1.heap[w.heap.size]? = some (.cells ROW 26 (0, 0)) := by rw [hW1]; exact heap_alloc_new w.drew _
  have hWo : ∀ k, k < w.heap.size → W1.heap[k]? = w.heap[k]? := fun k hk => by rw [hW1]; exact Below.heap_alloc w.drew _ k hk
  rw [← hW1] at hrz
  have hcpA : ∀ (W : World), (∀ k : Nat, W.heap[k]? = W1.heap[k]?) → ∀ ty o1 l1 dc, o1 = i * 5 → l1 = n + 1 - i → (Builtin.copy_ #[23, 23] ty #[.slice (some ⟨w.heap.size, o1, none⟩) l1 dc, .slice (some ⟨vb, 0, none⟩) 1 vc]).run Tryd.prog W = .ok (goInt (Nat.min 1 l1)) (W.setRow w.heap.size cur1) := fun W hW ty o1 l1 dc e1 e2 => by
    subst e1 e2
    rw [hcur1]
    exact run_copy_rowN (P := Tryd.prog) W 5 23 23 ty 26 w.heap.size (i * 5) (n + 1 - i) dc ⟨vb, 0, none⟩ 1 vc ROW 26 news Tryd.underlying23 hsz (by rw [hW]; exact hWN) (by rw [hn]; simp only [Nat.min_def]; split <;> omega)
      (fun j v hj => by
        rw [Addr.add_lit]
        have : W.heap[vb]? = some (.cells news.toArray tA (0, 0)) := by rw [hW, hWo vb hvlt]; exact hnews
        simp [World.cell?, this, hj]) (by omega) h1n
  have hcpB : ∀ (W : World), (∀ k : Nat, W.heap[k]? = (W1.setRow w.heap.size cur1).heap[k]?) → ∀ ty o1 o2 l1 l2 dc sc, o1 = (i + 1) * 5 → o2 = i * 5 → l1 = n - i → l2 = n - i → (Builtin.copy_ #[23, 23] ty #[.slice (some ⟨w.heap.size, o1, none⟩) l1 dc, .slice (some ⟨g, o2, none⟩) l2 sc]).run Tryd.prog W = .ok (goInt (Nat.min l2 l1)) (W.setRow w.heap.size cur2) := fun W hW ty o1 o2 l1 l2 dc sc e1 e2 e3 e4 => by
    subst e1 e2 e3 e4
    rw [hcur2]
    exact run_copy_rowN (P := Tryd.prog) W 5 23 23 ty 26 w.heap.size ((i + 1) * 5) (n - i) dc ⟨g, i * 5, none⟩ (n - i) sc cur1 26 B Tryd.underlying23 hsz (by rw [hW]; exact heap_setRow hWN) (by rw [hB]; congr 1; simp only [Nat.min_def]; split <;> omega)
      (fun j v hj => by
        rw [Addr.add_lit]
        have : W.heap[g]? = some (.cells cur 26 (0, 0)) := by rw [hW, heap_setRow_ne (by omega), hWo g hglt]; exact hg
        simpa [World.cell?, this] using hsrcB j v hj) (by omega) h1B
  have hend : ∀ W : World, W.os = w.os → W.tape = w.tape → W.output = w.output → W.heap.size = w.heap.size + 1 → (∀ k : Nat, W.heap[k]? = ((W1.setRow w.heap.size cur1).setRow w.heap.size cur2).heap[k]?) → w.grownBy W none ∧ W.ownsRow 0 26 5 (.slice (some ⟨w.heap.size, 0, none⟩) (n + 1) G) (n + 1) (A ++ news ++ B) := by
    intro W e1 e2 e3 e4 e5
    refine ⟨⟨e1, e2, e3, by omega, fun k hk _ => ?_⟩, by simp; omega, .inr ⟨w.heap.size, G, cur2, rfl, Nat.zero_le _, ?_, hGn, by unfold maxLen; omega, ?_⟩⟩
    · rw [e5, heap_setRow_ne (by omega), heap_setRow_ne (by omega), hWo k hk]
    · rw [e5]
      exact heap_setRow (heap_setRow hWN)
    · have hs := grow_row (A := A) (B := B) (news := news) (Z := Z) (Y := Y) (by omega)
      have hc2 : cur2.toList = A ++ news ++ B ++ Y := by
        rw [hcur2, hcur1, hRL]
        rw [hA, hn] at hs
        rw [hn, show (i + 1) * 5 = i * 5 + 5 by omega]
        simpa using hs
      refine ⟨?_, ?_⟩
      · have := congrArg List.length hc2
        simp only [Array.length_toList, List.length_append] at this
        omega
      · rw [hc2, show (n + 1) * 5 = (A ++ news ++ B).length by simp; omega, List.take_left]
  have HE := Lib.hid hend
  have hcpA' := fun W hW ty dc => hcpA W hW ty (i * 5) (n + 1 - i) dc (by omega) rfl
  have hcpB' := fun W hW ty dc sc => hcpB W hW ty ((i + 1) * 5) (i * 5) (n - i) (n - i) dc sc (by omega) (by omega) rfl rfl
  have HA := Lib.hid hcpA'
  have HB := Lib.hid hcpB'
  have hHS : W1.heap.size = w.heap.size + 1 := by rw [hW1]; simp only [World.alloc, Array.size_push]; rfl
  have hH2 : W1.os = w.os ∧ W1.tape = w.tape ∧ W1.output = w.output := by rw [hW1]; exact ⟨rfl, rfl, rfl⟩
  have HS := Lib.hid hHS
  have H2 := Lib.hid hH2
  clear hHS hH2
  have HRZ := Lib.hid hrz
  have hW1' := Lib.hid hW1
  clear hkk hik hcpA' hcpB' hcpA hcpB hend hcur1 hcur2 hsrcB hnews hg _hcs hA hB hAB hn h1B h1n hl1 hRL hRs hYl hZl hWN hWo hrz hW1
  have hw1 : IntKind.i64.wrap ((i : Int) + 1) = (i : Int) + 1 := by rw [IntKind.wrap_i64]; omega
  have hw2 : IntKind.i64.wrap ((n : Int) + 1) = (n : Int) + 1 := by rw [IntKind.wrap_i64]; omega
  have hw3 : IntKind.i64.wrap ((n : Int) + 1 - (i : Int)) = (n : Int) + 1 - (i : Int) := by rw [IntKind.wrap_i64]; omega
  have hz2 : ¬ ((i : Int) = (n : Int)) := by omega
  have hz3 : (cap : Int) < (n : Int) + 1 := by omega
  have hb1 : (0 : Int) ≤ (i : Int) + 1 := by omega
  have hin : i ≤ n := by omega
  have htn : ((i : Int) + 1).toNat = i + 1 := by omega
  have hb3 : (i : Int) ≤ (n : Int) := by omega
  have hGi : ¬ (G = i) := by omega
  have hGim : ¬ (G = i + 1) := by omega
  have hci : ¬ (cap = i) := by omega
  have mixed : Tryd.prog.follows .mixedOrders = true := by kernel_rfl
  go_enter Tryd.func58, Tryd.ntmps58
  go_wp2_with (at_builtin; refine Lib.wpList_append_run _ rfl _ _ _ _ rfl _ _ rfl rfl _ _ (HRZ.out _) ?_)
  have hcA := HA.out W1 (fun _ => rfl)
  go_wp2_with (simp only [hcA])
  clear hcA
  have hcB := HB.out ((W1.setRow w.heap.size cur1).drew) (fun _ => rfl)
  go_region
  clear hcB
  go_wp2
  go_ret
  obtain ⟨q1, q2, q3⟩ := H2.out
  exact ⟨_, rfl, HE.out _ q1 q2 q3 (by rw [setRow_size]; show ((W1.setRow _ _).heap.size) = _; rw [setRow_size]; exact HS.out) (fun k => rfl)⟩

/-- slices.Insert of one element into a row of one's own. -/
theorem insert_V (n i vb vc : Nat) (v : Value) (xs news : List Value) (F : List Nat) (w : World) (tA : TypeId) (h : OwnS w 26 5 v n xs F) (hi : i ≤ n) (hn : news.length = 5) (hnews : w.heap[vb]? = some (.cells news.toArray tA (0, 0))) (hvb : vb ∉ F)
    (h1x : ∀ v ∈ xs, v.oneCell' = true) (h1n : ∀ v ∈ news, v.oneCell' = true) (hbig : (n + 1) * 80 ≤ 140737488355328) :
    Calls Tryd.prog 58 #[v, .int .i64 i, .slice (some ⟨vb, 0, none⟩) 1 vc] w fun e w' =>
      ∃ v', e = .returned v' ∧ w'.ownsRow 0 26 5 v' (n + 1) (xs.take (i * 5) ++ news ++ xs.drop (i * 5)) ∧ w.grownBy w' v.ownBlock ∧ (v'.ownBlock = v.ownBlock ∨ v'.ownBlock = some w.heap.size) := by
  obtain ⟨ad, c, rfl, hnc, hc63, hxl⟩ := h.form
  obtain ⟨h, rfl⟩ := h
  by_cases hin : i = n
  · subst hin
    refine (ins_end_V i vb vc ad c xs news w h hnc hc63 hbig hn tA hnews h1n).mono ?_
    rintro e w' ⟨v', he, h2, h3, h4⟩
    refine ⟨v', he, ?_, h3, h4⟩
    rw [List.take_of_length_le (by omega), List.drop_of_length_le (by omega), List.append_nil]
    exact h2
  · rcases h.2 with ⟨hv, h0⟩ | ⟨g, cap, cur, hv, hb, hg, h1, h2, hs, ht⟩
    · omega
    · cases hv
      have hA : (xs.take (i * 5)).length = i * 5 := by rw [List.length_take, Nat.min_eq_left (by omega)]
      have hB : (xs.drop (i * 5)).length = (n - i) * 5 := by rw [List.length_drop]; omega
      have hAB : cur.toList.take (n * 5) = xs.take (i * 5) ++ xs.drop (i * 5) := by rw [List.take_append_drop]; exact ht
      have h1B : ∀ v ∈ xs.drop (i * 5), v.oneCell' = true := fun v hv => h1x v (List.mem_of_mem_drop hv)
      by_cases hroom : n + 1 ≤ c
      · refine (ins_shift_V g n c i vb vc cur _ _ news w tA (by omega) hroom hc63 (fun e => hvb (by rw [e]; simp [Value.ownBlock])) hg hs hA hB hAB hn hnews h1B h1n).mono ?_
        rintro e w' ⟨he, h3, h4⟩
        exact ⟨_, he, h4, h3, .inl rfl⟩
      · refine (ins_grow_V g n c i vb vc cur _ _ news w tA (by omega) hnc (by omega) hbig hg hs hA hB hAB hn hnews h1B h1n).mono ?_
        rintro e w' ⟨G, he, h3, h4⟩
        exact ⟨_, he, h4, ⟨h3.os, h3.tape, h3.output, h3.size, fun k hk _ => h3.block k hk (by simp)⟩, .inr rfl⟩

end Go.Proofs.YtgbalofdfdafmaaDoor
