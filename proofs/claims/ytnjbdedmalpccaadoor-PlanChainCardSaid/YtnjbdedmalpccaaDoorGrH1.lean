/- Walks of the methods of the heap of nodes. -/
import Derived.Test.YtnjbdedmalpccaaDoorGrApp
import Derived.Test.YtnjbdedmalpccaaDoorGrS1
import Derived.ChangeKeysEq
import Derived.Test.YtnjbdedmalpccaaDoorGrHeapP
namespace Go.Proofs.YtnjbdedmalpccaaDoor
open Go.RowKit

/-- The heap's memory: block hb holds the slice, block g the nodes. -/
def HeapAt (w : World) (hb g cap : Nat) (xs : List Int) : Prop :=
  w.heap[hb]? = some (.cells #[.slice (some ⟨g, 0, none⟩) xs.length cap] 95 (0, 0)) ∧
  ∃ cur, w.heap[g]? = some (.cells cur 3 (0, 0)) ∧ xs.length ≤ cap ∧ cap ≤ maxLen ∧ cur.size = cap ∧ cur.toList.take xs.length = xs.map (Value.int .i64)

theorem HeapAt.head {w : World} {hb g cap : Nat} {xs : List Int} (h : HeapAt w hb g cap xs) : w.cell? ⟨hb, 0, none⟩ = some (.slice (some ⟨g, 0, none⟩) xs.length cap) := by
  simp [World.cell?, h.1]
theorem HeapAt.headFree {w : World} {hb g cap : Nat} {xs : List Int} (h : HeapAt w hb g cap xs) : w.frozen? ⟨hb, 0, none⟩ = false := by
  simp [World.frozen?, h.1]
theorem HeapAt.ne {w : World} {hb g cap : Nat} {xs : List Int} (h : HeapAt w hb g cap xs) : hb ≠ g := by
  obtain ⟨h1, cur, h2, _⟩ := h
  intro e; rw [e, h2] at h1; simp at h1
theorem HeapAt.cell {w : World} {hb g cap : Nat} {xs : List Int} (h : HeapAt w hb g cap xs) {i : Nat} (hi : i < xs.length) : w.cell? ⟨g, i, none⟩ = some (.int .i64 (xs.getD i 0)) := by
  obtain ⟨_, cur, h2, hl, hc, hs, ht⟩ := h
  rw [cell_of_row w g i cur 3 (0, 0) h2]
  have h3 : (cur.toList.take xs.length)[i]? = (xs.map (Value.int .i64))[i]? := by rw [ht]
  rw [List.getElem?_take, if_pos hi] at h3
  simpa [List.getD, hi] using h3
theorem HeapAt.free {w : World} {hb g cap : Nat} {xs : List Int} (h : HeapAt w hb g cap xs) (i : Nat) : w.frozen? ⟨g, i, none⟩ = false := by
  obtain ⟨_, cur, h2, _⟩ := h
  simp [World.frozen?, h2]
theorem HeapAt.kept {w w' : World} {hb g cap : Nat} {xs : List Int} (h : HeapAt w hb g cap xs) (k1 : w'.heap[hb]? = w.heap[hb]?) (k2 : w'.heap[g]? = w.heap[g]?) : HeapAt w' hb g cap xs := by
  obtain ⟨h1, cur, h2, r⟩ := h
  exact ⟨k1.trans h1, cur, k2.trans h2, r⟩
theorem HeapAt.set {w : World} {hb g cap : Nat} {xs : List Int} (h : HeapAt w hb g cap xs) (i : Nat) (x : Int) : HeapAt (w.setCell ⟨g, i, none⟩ (.int .i64 x)) hb g cap (xs.set i x) := by
  have hne := h.ne
  obtain ⟨h1, cur, h2, hl, hc, hs, ht⟩ := h
  refine ⟨by rw [Below.heap_setCell _ _ _ _ hne, List.length_set]; exact h1, cur.setIfInBounds i (.int .i64 x), by simp [World.setCell, Array.getElem?_modify, h2], by simpa using hl, hc, by simpa using hs, ?_⟩
  rw [List.length_set, Array.toList_setIfInBounds, List.take_set, ht, List.map_set]

set_option maxHeartbeats 400000 in
theorem hlen_any (ao : Option Addr) (n cap : Nat) (w : World) :
    Calls Tryd.prog 35 #[.slice ao n cap] w fun e w' => e = .returned (.int .i64 n) ∧ w = w' := by
  go_enter Tryd.func35, Tryd.ntmps35
  go_wp2
  go_ret
  exact ⟨rfl, rfl⟩

set_option maxHeartbeats 400000 in
theorem hless_any (hb g cap : Nat) (xs : List Int) (i j : Nat) (w : World) (h : HeapAt w hb g cap xs) (hi : i < xs.length) (hj : j < xs.length) :
    Calls Tryd.prog 80 #[.slice (some ⟨g, 0, none⟩) xs.length cap, .int .i64 i, .int .i64 j] w fun e w' => e = .returned (.bool (decide (xs.getD i 0 < xs.getD j 0))) ∧ ∃ k, w' = w.drewN k := by
  have c1 := h.cell hi
  have c2 := h.cell hj
  obtain ⟨x, hx⟩ : ∃ x, x = xs.getD i 0 := ⟨_, rfl⟩
  obtain ⟨y, hy⟩ : ∃ x, x = xs.getD j 0 := ⟨_, rfl⟩
  rw [← hx] at c1 ⊢
  rw [← hy] at c2 ⊢
  clear hx hy h
  go_enter Tryd.func80, Tryd.ntmps80
  go_wp2
  go_quiet (fail)
  go_wp2
  go_ret
  exact ⟨rfl, _, rfl⟩

set_option maxHeartbeats 400000 in
theorem hswap_any (hb g cap : Nat) (xs : List Int) (i j : Nat) (w : World) (h : HeapAt w hb g cap xs) (hi : i < xs.length) (hj : j < xs.length) :
    Calls Tryd.prog 83 #[.slice (some ⟨g, 0, none⟩) xs.length cap, .int .i64 i, .int .i64 j] w fun e w' => e = .returned (.tuple #[]) ∧ w' = ((w.setCell ⟨g, i, none⟩ (.int .i64 (xs.getD j 0))).setCell ⟨g, j, none⟩ (.int .i64 (xs.getD i 0))).drew := by
  have c1 := h.cell hi
  have c2 := h.cell hj
  have f1 := h.free i
  have f2 := h.free j
  obtain ⟨x, hx⟩ : ∃ x, x = xs.getD i 0 := ⟨_, rfl⟩
  obtain ⟨y, hy⟩ : ∃ x, x = xs.getD j 0 := ⟨_, rfl⟩
  rw [← hx] at c1 ⊢
  rw [← hy] at c2 ⊢
  clear hx hy h
  obtain ⟨v1, k1⟩ := cell?_setCell_some (w := w) (p := ⟨g, i, none⟩) (x := .int .i64 y) (q := ⟨g, j, none⟩) c2
  obtain ⟨v2, k2⟩ := cell?_setCell_some (w := w) (p := ⟨g, j, none⟩) (x := .int .i64 x) (q := ⟨g, i, none⟩) c1
  go_enter Tryd.func83, Tryd.ntmps83
  go_region
  go_end0
  exact ⟨rfl, rfl⟩

/-- The same with the places as the walk spells them. -/
theorem hless_at (hb g cap : Nat) (xs : List Int) (i j : Int) (a b : Nat) (w : World) (ha : i = (a : Int)) (hb' : j = (b : Int)) (h : HeapAt w hb g cap xs) (hi : a < xs.length) (hj : b < xs.length) :
    Calls Tryd.prog 80 #[.slice (some ⟨g, 0, none⟩) xs.length cap, .int .i64 i, .int .i64 j] w fun e w' => e = .returned (.bool (decide (xs.getD a 0 < xs.getD b 0))) ∧ ∃ k, w' = w.drewN k := by
  subst ha hb'; exact hless_any hb g cap xs a b w h hi hj
theorem hswap_at (hb g cap : Nat) (xs : List Int) (i j : Int) (a b : Nat) (w : World) (ha : i = (a : Int)) (hb' : j = (b : Int)) (h : HeapAt w hb g cap xs) (hi : a < xs.length) (hj : b < xs.length) :
    Calls Tryd.prog 83 #[.slice (some ⟨g, 0, none⟩) xs.length cap, .int .i64 i, .int .i64 j] w fun e w' => e = .returned (.tuple #[]) ∧ HeapAt w' hb g cap (swapL xs a b) ∧ OnlyB g w w' := by
  subst ha hb'
  refine (hswap_any hb g cap xs a b w h hi hj).mono ?_
  rintro e w' ⟨rfl, rfl⟩
  exact ⟨rfl, ((h.set a _).set b _).kept rfl rfl, (((OnlyB.refl _ _).setCell _ _ _).setCell _ _ _).drew⟩

theorem HeapAt.swapped {w : World} {hb g cap : Nat} {xs : List Int} (h : HeapAt w hb g cap xs) (i j : Nat) :
    HeapAt ((w.setCell ⟨g, i, none⟩ (.int .i64 (xs.getD j 0))).setCell ⟨g, j, none⟩ (.int .i64 (xs.getD i 0))) hb g cap (swapL xs i j) := (h.set i _).set j _

/-- The methods that the heap's interface value has. -/
theorem meth_push (a : Addr) (w : World) : (method 249 94 (.pointer (some a)) "Push").run Tryd.prog w = .ok (82, .pointer (some a)) w := by kernel_rfl
theorem meth_pop (a : Addr) (w : World) : (method 249 94 (.pointer (some a)) "Pop").run Tryd.prog w = .ok (81, .pointer (some a)) w := by kernel_rfl
theorem meth_val (name : String) (f : FuncId) (hm : ((Tryd.prog.info? 94).bind fun i => (i.methods.find? (·.name == name)).map fun m => (m.path.toList.length, m.func)) = some (0, some (f, false)))
    (hb : Nat) (v : Value) (w : World) (h : w.cell? ⟨hb, 0, none⟩ = some v) : (method 249 94 (.pointer (some ⟨hb, 0, none⟩)) name).run Tryd.prog w = .ok (f, v) w := by
  obtain ⟨i, hi, h2⟩ := Option.bind_eq_some_iff.1 hm
  obtain ⟨m, hmm, h3⟩ := Option.map_eq_some_iff.1 h2
  simp only [Prod.mk.injEq] at h3
  have hp : m.path.toList = [] := List.eq_nil_of_length_eq_zero h3.1
  have h5 : m.path.isEmpty = true := by rw [← Array.isEmpty_toList, hp]; rfl
  have hl : (loadVar 95 ⟨hb, 0, none⟩).run Tryd.prog w = .ok v w := by go_simp
  have hs : ∀ t : String, (Builtin.ssaWrapNilChk_ #[94] 94 #[.pointer (some ⟨hb, 0, none⟩), strVal "", strVal t]).run Tryd.prog w = .ok (.pointer (some ⟨hb, 0, none⟩)) w := fun _ => rfl
  unfold method
  simp only [Sem.run_bind, run_typeInfo w hi, Result.andThen_ok, hmm, hp, follow, Sem.run_pure, h3.2, receiverAt, run_underlying Tryd.underlying94, Place.get, h5, if_true, hs, asAddr, hl]
theorem meth_less (hb : Nat) (v : Value) (w : World) (h : w.cell? ⟨hb, 0, none⟩ = some v) : (method 249 94 (.pointer (some ⟨hb, 0, none⟩)) "Less").run Tryd.prog w = .ok (80, v) w := meth_val "Less" 80 (by kernel_rfl) hb v w h
theorem meth_swap (hb : Nat) (v : Value) (w : World) (h : w.cell? ⟨hb, 0, none⟩ = some v) : (method 249 94 (.pointer (some ⟨hb, 0, none⟩)) "Swap").run Tryd.prog w = .ok (83, v) w := meth_val "Swap" 83 (by kernel_rfl) hb v w h
theorem meth_len (hb : Nat) (v : Value) (w : World) (h : w.cell? ⟨hb, 0, none⟩ = some v) : (method 249 94 (.pointer (some ⟨hb, 0, none⟩)) "Len").run Tryd.prog w = .ok (35, v) w := meth_val "Len" 35 (by kernel_rfl) hb v w h
theorem assert_int (x : Int) (w : World) : (Instr.typeAssert (.iface 3 (.int .i64 x)) 20 3 true).run Tryd.prog w = .ok (.tuple #[.int .i64 x, .bool true]) w := by kernel_rfl

/-- Blocks hb and g may have turned, and new ones may have come. -/
structure But2 (hb g : Nat) (w w' : World) : Prop where
  os : w'.os = w.os
  tape : w'.tape = w.tape
  output : w'.output = w.output
  size : w.heap.size ≤ w'.heap.size
  block : ∀ k, k < w.heap.size → k ≠ hb → k ≠ g → w'.heap[k]? = w.heap[k]?

set_option maxRecDepth 100000 in
set_option maxHeartbeats 400000 in
theorem hpush_any (hb g cap : Nat) (xs : List Int) (x : Int) (w : World) (h : HeapAt w hb g cap xs) (hn : xs.length ≤ 512) :
    Calls Tryd.prog 82 #[.pointer (some ⟨hb, 0, none⟩), .iface 3 (.int .i64 x)] w fun e w' => e = .returned (.tuple #[]) ∧ ∃ g' cap', HeapAt w' hb g' cap' (xs ++ [x]) ∧ (g' = g ∨ w.heap.size ≤ g') ∧ But2 hb g w w' := by
  obtain ⟨i0, hi, hz0, hz1, hz2⟩ := info_parts Tryd.info3
  have c1 := h.head
  have f1 := h.headFree
  have hown : w.ownsRow 0 3 1 (.slice (some ⟨g, 0, none⟩) xs.length cap) xs.length (xs.map (Value.int .i64)) := by
    obtain ⟨_, cur, h2, hl, hc, hs, ht⟩ := h
    exact ⟨by simp, .inr ⟨g, cap, cur, rfl, Nat.zero_le _, h2, hl, hc, by simpa using hs, by simpa using ht⟩⟩
  have H := Lib.hid h
  clear h
  have ha := fun w => assert_int x w
  go_enter Tryd.func82, Tryd.ntmps82
  go_wp2_with (at_builtin; refine wpList_append_fresh _ rfl (.tmp 15) (.tmp 17) 95 rfl 0 3 i0 (.int .i64 0) 1 8 Tryd.underlying95 hi hz0 hz1 hz2 rfl (by decide) _ _ _ rfl (hown.alloc _) ⟨w.heap.size, 0, none⟩ 1 1 [.int .i64 x] rfl rfl ?c1 ?c2 ?c3 ?c4 ?c5 ?_)
  case c1 => exact cell_one_new _ _ _
  case c2 => intro u hu; simp at hu; subst hu; rfl
  case c3 => unfold maxLen; omega
  case c4 => omega
  case c5 => omega
  intro v' w1 hown1 hgrow hfresh
  have hb1 : hb < w.heap.size := (Array.getElem?_eq_some_iff.1 H.out.1).1
  have hne : some hb ≠ (Value.slice (some ⟨g, 0, none⟩) xs.length cap).ownBlock := fun e => H.out.ne (Option.some.inj e)
  have hh1 : w1.heap[hb]? = w.heap[hb]? := (hgrow.block hb (by simp; omega) hne).trans (Below.heap_alloc _ _ _ hb1)
  have c2 : w1.cell? ⟨hb, 0, none⟩ = some (.slice (some ⟨g, 0, none⟩) xs.length cap) := (World.cell?_of_block (w := w) (a := ⟨hb, 0, none⟩) hh1).trans c1
  have f2 : w1.frozen? ⟨hb, 0, none⟩ = false := (World.frozen?_of_block (w := w) (a := ⟨hb, 0, none⟩) hh1).trans f1
  obtain ⟨g', cap', cur', hv, hg', hl', hc', hs', ht'⟩ : ∃ g' cap' cur', v' = .slice (some ⟨g', 0, none⟩) (xs.length + 1) cap' ∧ w1.heap[g']? = some (.cells cur' 3 (0, 0)) ∧ xs.length + 1 ≤ cap' ∧ cap' ≤ maxLen ∧ cur'.size = cap' ∧ cur'.toList.take (xs.length + 1) = xs.map (Value.int .i64) ++ [.int .i64 x] := by
    rcases hown1.2 with ⟨_, h0⟩ | ⟨g', cap', cur', hv, _, h1, h2, h3, h4, h5⟩
    · omega
    · exact ⟨g', cap', cur', hv, h1, h2, h3, by simpa using h4, by simpa using h5⟩
  have hfr : g' = g ∨ w.heap.size ≤ g' := by
    rw [hv] at hfresh
    rcases hfresh with e | e
    · exact Or.inl (Option.some.inj e)
    · right; have := Option.some.inj e; simp at this; omega
  have hhb : HeapAt (w1.setCell ⟨hb, 0, none⟩ (.slice (some ⟨g', 0, none⟩) (xs.length + 1) cap')) hb g' cap' (xs ++ [x]) := by
    have hgb : g' ≠ hb := by
      intro e; rw [e, hh1, H.out.1] at hg'; simp at hg'
    refine ⟨?_, cur', ?_, by simpa using hl', hc', hs', by simpa using ht'⟩
    · simp [World.setCell, Array.getElem?_modify, hh1, H.out.1]
    · rw [Below.heap_setCell _ _ _ _ hgb]; exact hg'
  have hbut : But2 hb g w (w1.setCell ⟨hb, 0, none⟩ (.slice (some ⟨g', 0, none⟩) (xs.length + 1) cap')) := by
    refine ⟨hgrow.os, hgrow.tape, hgrow.output, ?_, fun k hk h1 h2 => ?_⟩
    · have := hgrow.size; simp [World.setCell] at this ⊢; omega
    · rw [Below.heap_setCell _ _ _ _ h1]
      exact (hgrow.block k (by simp; omega) (fun e => h2 (Option.some.inj e))).trans (Below.heap_alloc _ _ _ hk)
  rw [hv]
  clear hv hown1 hgrow hfresh hne hh1 hg' hl' hc' hs' ht' hown c1 f1
  go_wp2
  go_end0
  exact ⟨rfl, g', cap', hhb, hfr, hbut⟩

set_option maxRecDepth 100000 in
set_option maxHeartbeats 400000 in
theorem hpop_any (hb g cap : Nat) (xs : List Int) (x : Int) (w : World) (h : HeapAt w hb g cap (xs ++ [x])) (hn : xs.length ≤ 512) :
    Calls Tryd.prog 81 #[.pointer (some ⟨hb, 0, none⟩)] w fun e w' => e = .returned (.iface 3 (.int .i64 x)) ∧ HeapAt w' hb g cap xs ∧ OnlyB hb w w' := by
  have c1 := h.head
  have f1 := h.headFree
  have c2 := h.cell (i := xs.length) (by simp)
  have e2 : (xs ++ [x]).getD xs.length 0 = x := by simp [List.getD]
  rw [e2] at c2
  have e3 : (xs ++ [x]).length = xs.length + 1 := by simp
  rw [e3] at c1
  have hcap : xs.length + 1 ≤ cap := by obtain ⟨_, cur, _, hl, _⟩ := h; simpa using hl
  have HH : HeapAt (w.setCell ⟨hb, 0, none⟩ (.slice (some ⟨g, 0, none⟩) xs.length cap)) hb g cap xs := by
    have hne := h.ne
    obtain ⟨h1, cur, h2, hl, hc, hs, ht⟩ := h
    refine ⟨by simp [World.setCell, Array.getElem?_modify, h1], cur, by rw [Below.heap_setCell _ _ _ _ (Ne.symm hne)]; exact h2, by omega, hc, hs, ?_⟩
    have h3 : (cur.toList.take (xs ++ [x]).length).take xs.length = ((xs ++ [x]).map (Value.int .i64)).take xs.length := by rw [ht]
    rw [List.take_take, Nat.min_eq_left (by simp)] at h3
    rw [h3]; simp
  clear h e2 e3
  go_enter Tryd.func81, Tryd.ntmps81
  go_wp2
  go_quiet (fail)
  go_wp2
  go_region
  go_wp2
  go_ret
  exact ⟨rfl, HH.kept rfl rfl, ((OnlyB.refl _ _).setCell _ _ _).trans ⟨rfl, rfl, rfl, rfl, fun _ _ => rfl⟩⟩

set_option maxRecDepth 100000 in
set_option maxHeartbeats 800000 in
theorem hup_any (hb g cap : Nat) (xs : List Int) (j : Nat) (w : World) (h : HeapAt w hb g cap xs) (hn : xs.length ≤ 513) (hu : UpInv xs j) :
    Calls Tryd.prog 54 #[.iface 94 (.pointer (some ⟨hb, 0, none⟩)), .int .i64 j] w fun e w' => e = .returned (.tuple #[]) ∧ ∃ xs', HeapAt w' hb g cap xs' ∧ xs'.Perm xs ∧ HeapN xs' xs'.length ∧ OnlyB g w w' := by
  go_enter Tryd.func54, Tryd.ntmps54
  go_wp2
  go_loopw [1] (fun v1 wr => ∃ (j : Nat) (ys : List Int), v1 = .int .i64 j ∧ HeapAt wr hb g cap ys ∧ ys.Perm xs ∧ UpInv ys j ∧ OnlyB g w wr) (fun v1 _ => (intOf v1).toNat)
  case atStart => exact ⟨j, xs, rfl, h, .refl _, hu, OnlyB.refl _ _⟩
  case round =>
    obtain ⟨k, ys, rfl, hh, hp, hv, ho⟩ := hrel
    have hkl := hv.lt
    have hyl : ys.length ≤ xs.length := by have := hp.length_eq; omega
    cases k with
    | zero =>
      have HD := Lib.hid (hv.done (Or.inl rfl))
      clear hu hv h
      go_wp2_with fail
      go_end0
      exact ⟨rfl, ys, hh, hp, HD.out, ho⟩
    | succ m =>
      have hpm : par (m + 1) = m / 2 := by unfold par; simp
      have hne : ((m : Int) / 2 == (m : Int) + 1) = false := by simp; omega
      have hkl' : m + 1 < ys.length := hkl
      have L := hless_at hb g cap ys ((m : Int) + 1) ((m : Int) / 2) (m + 1) (m / 2) wr (by omega) (by omega) hh hkl (by omega)
      have m1 := meth_less hb _ wr hh.head
      have m2 : ∀ k, (method 249 94 (.pointer (some ⟨hb, 0, none⟩)) "Swap").run Tryd.prog (wr.drewN k) = .ok (83, .slice (some ⟨g, 0, none⟩) ys.length cap) (wr.drewN k) := fun k => meth_swap hb _ _ hh.head
      have SW := fun k => hswap_at hb g cap ys ((m : Int) / 2) ((m : Int) + 1) (m / 2) (m + 1) (wr.drewN k) (by omega) (by omega) (hh.kept rfl rfl) (by omega) hkl
      by_cases hlt : ys.getD (m + 1) 0 < ys.getD (m / 2) 0
      · have HV := Lib.hid (hv.step (Nat.succ_pos m) (by rw [hpm]; exact hlt))
        have hd : decide (ys.getD (m + 1) 0 < ys.getD (m / 2) 0) = true := by simpa using hlt
        rw [hd] at L
        rw [hpm] at HV
        have hpm2 := (swapL_perm ys (m / 2) (m + 1) (by omega) hkl).trans hp
        clear hu hv h hd hlt hkl hpm
        go_wp2_with (first | (go_at_call 80; refine L.mono ?_; rintro e w' ⟨rfl, kk, rfl⟩) | (go_at_call 83; refine (SW _).mono ?_; rintro e w' ⟨rfl, hh', ho'⟩))
        go_roundw
        case rel => exact ⟨m / 2, _, by go_num, hh', hpm2, HV.out, (ho.drewN kk).trans ho'⟩
        case measure => simp only [intOf]; omega
      · have HD := Lib.hid (hv.done (Or.inr (by rw [hpm]; omega)))
        have hd : decide (ys.getD (m + 1) 0 < ys.getD (m / 2) 0) = false := by simpa using hlt
        rw [hd] at L
        clear hu hv h hd hlt hpm hkl
        go_wp2_with (first | (go_at_call 80; refine L.mono ?_; rintro e w' ⟨rfl, kk, rfl⟩))
        go_end0
        exact ⟨rfl, ys, hh.kept rfl rfl, hp, HD.out, ho.drewN kk⟩

end Go.Proofs.YtnjbdedmalpccaaDoor
