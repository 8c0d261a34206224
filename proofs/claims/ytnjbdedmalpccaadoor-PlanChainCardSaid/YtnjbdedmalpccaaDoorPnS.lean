/- The walks of the planner's small methods: ahead, make, remove. -/
import Derived.Test.YtnjbdedmalpccaaDoorPnM
namespace Go.Proofs.YtnjbdedmalpccaaDoor
open Go.RowKit
set_option maxRecDepth 100000
attribute [local go_sem] str_size str_toList str_get

theorem stepNe : (53 : TypeId) ≠ 63 := by decide
theorem pairNe : (56 : TypeId) ≠ 63 := by decide
theorem stepNeP : (53 : TypeId) ≠ 56 := by decide
theorem cells6 {w : World} {g : Nat} {c0 c1 c2 c3 c4 c5 : Value} {T : TypeId} (h : w.heap[g]? = some (.cells #[c0, c1, c2, c3, c4, c5] T (0, 0))) : w.cell? ⟨g, 0, none⟩ = some c0 ∧ w.cell? ⟨g, 1, none⟩ = some c1 ∧ w.cell? ⟨g, 2, none⟩ = some c2 ∧ w.cell? ⟨g, 3, none⟩ = some c3 ∧ w.cell? ⟨g, 4, none⟩ = some c4 ∧ w.cell? ⟨g, 5, none⟩ = some c5 := by
  refine ⟨?_, ?_, ?_, ?_, ?_, ?_⟩ <;> (rw [Lib.cell_of_heap h]; rfl)
theorem own_after {w w' : World} {base e size n : Nat} {v : Value} {xs : List Value} {row : Option Nat} (h : w.ownsRow base e size v n xs) (hg : w.grownBy w' row) (hne : ∀ q, v.ownBlock = some q → row ≠ some q) : w'.ownsRow base e size v n xs := row_keep h fun q hq => by
  obtain ⟨_, hh⟩ := row_block h hq
  exact hg.block q (heap_lt hh) (fun e => hne q hq e.symm)

/-- A new slice in one of the planner's fields. -/
theorem PnAt.edged {B N : Nat} {w w1 w2 : World} {p : Nat} {S : PS} {a r m v : Nat} {vs ve v' : Value} {e : Int × Int} {o : Obj}
    (h1 : w.heap[p]? = some (.cells #[.map (some a), .map (some r), vs, .map (some m), .map (some v), ve] 63 (0, 0))) (h2 : B ≤ p ∧ B ≤ a ∧ B ≤ r ∧ B ≤ m ∧ B ≤ v) (h3 : a ≠ r ∧ a ≠ m ∧ a ≠ v ∧ r ≠ m ∧ r ≠ v ∧ m ≠ v)
    (h4 : MapF w a N (fun t => (S.act t).map fun i => .int .i64 i)) (h5 : MapF w r N (fun t => (S.rcd t).map recV)) (h6 : MapF w m N (fun t => (S.mak t).map fun i : Nat => .int .i64 (i : Int))) (h7 : MapF w v N (fun t => (S.rem t).map fun i : Nat => .int .i64 (i : Int)))
    (h8 : w.ownsRow B 53 5 vs S.steps.length (stepsC S.steps)) (h9 : w.ownsRow B 56 2 ve S.edges.length (pairCells S.edges))
    (hw1 : w1 = w.alloc o) (hown : w2.ownsRow B 56 2 v' (S.edges.length + 1) (pairCells S.edges ++ [.int .i64 e.1, .int .i64 e.2])) (hg : w1.grownBy w2 ve.ownBlock) :
    PnAt B N (w2.setCell ⟨p, 5, none⟩ v') p { S with edges := S.edges ++ [e] } ∧ Below B w (w2.setCell ⟨p, 5, none⟩ v') ∧ Aside2 w (w2.setCell ⟨p, 5, none⟩ v') := by
  have hB : B ≤ w.heap.size := by have := heap_lt h1; omega
  have k1 : ∀ q, q < w.heap.size → w1.heap[q]? = w.heap[q]? := fun q hq => by rw [hw1]; exact Below.heap_alloc _ _ q hq
  have hs1 : w.heap.size ≤ w1.heap.size := by rw [hw1]; simp only [World.alloc, Array.size_push]; omega
  have k2 : ∀ q, q < w.heap.size → ve.ownBlock ≠ some q → w2.heap[q]? = w.heap[q]? := fun q hq hne => by
    rw [hg.block q (by omega) (fun e => hne e.symm)]
    exact k1 q hq
  have k3 : ∀ q, q < w.heap.size → ve.ownBlock ≠ some q → q ≠ p → (w2.setCell ⟨p, 5, none⟩ v').heap[q]? = w.heap[q]? := fun q hq hne hp => by
    rw [Below.heap_setCell _ _ _ _ hp]
    exact k2 q hq hne
  have nm : ∀ {b n : Nat} {f : S8 → Option Value}, MapF w b n f → ve.ownBlock ≠ some b ∧ b ≠ p ∧ b < w.heap.size := fun {b n f} h => by
    obtain ⟨es, clock, hh⟩ := h.block
    refine ⟨fun e => ?_, fun e => ?_, heap_lt hh⟩
    · obtain ⟨_, h'⟩ := row_block h9 e
      rw [hh] at h'
      cases h'
    · rw [e, h1] at hh
      cases hh
  have km : ∀ {b n : Nat} {f : S8 → Option Value}, MapF w b n f → MapF (w2.setCell ⟨p, 5, none⟩ v') b n f := fun h => h.keep (k3 _ (nm h).2.2 (nm h).1 (nm h).2.1)
  have hp2 : w2.heap[p]? = w.heap[p]? := k2 p (heap_lt h1) fun e => by
    obtain ⟨_, h'⟩ := row_block h9 e
    rw [h1] at h'
    injection h' with h'
    injection h' with _ h' _
    exact pairNe h'.symm
  refine ⟨⟨a, r, m, v, vs, v', setC (hp2.trans h1) 5 v', h2, h3, km h4, km h5, km h6, km h7, row_keep h8 fun q hq => ?_, ?_⟩, ?_, fun q cs T fz hq t1 _ t3 => k3 q (heap_lt hq) (fun e => ?_) fun e => ?_⟩
  · obtain ⟨_, hh⟩ := row_block h8 hq
    refine k3 q (heap_lt hh) (fun e => ?_) fun e => ?_
    · obtain ⟨_, h'⟩ := row_block h9 e
      rw [hh] at h'
      injection h' with h'
      injection h' with _ h' _
      exact stepNeP h'
    · rw [e, h1] at hh
      injection hh with hh
      injection hh with _ h' _
      exact stepNe h'.symm
  · show (w2.setCell ⟨p, 5, none⟩ v').ownsRow B _ 2 v' (S.edges ++ [e]).length (pairCells (S.edges ++ [e]))
    rw [List.length_append, pairCells_snoc]
    refine row_keep hown fun q hq => ?_
    obtain ⟨_, hh⟩ := row_block hown hq
    refine Below.heap_setCell _ _ _ _ fun e => ?_
    have e : q = p := e
    rw [e, hp2, h1] at hh
    injection hh with hh
    injection hh with _ h' _
    exact pairNe h'.symm
  · have b1 : Below B w w1 := by rw [hw1]; exact (Below.refl B w).alloc hB o
    have b2 := b1.grown hg (Nat.le_trans hB hs1) (fun k e => (h9.lt k e).1)
    exact b2.setCell (p := ⟨p, 5, none⟩) h2.1 v'
  · obtain ⟨_, h'⟩ := row_block h9 e
    rw [hq] at h'
    injection h' with h'
    injection h' with _ h' _
    exact t3 h'
  · rw [e, h1] at hq
    injection hq with hq
    injection hq with _ h' _
    exact t1 h'.symm

/-- A new slice of steps. -/
theorem PnAt.stepped {B N : Nat} {w w1 w2 : World} {p : Nat} {S : PS} {a r m v : Nat} {vs ve v' : Value} {e : StepT} {o : Obj}
    (h1 : w.heap[p]? = some (.cells #[.map (some a), .map (some r), vs, .map (some m), .map (some v), ve] 63 (0, 0))) (h2 : B ≤ p ∧ B ≤ a ∧ B ≤ r ∧ B ≤ m ∧ B ≤ v) (_h3 : a ≠ r ∧ a ≠ m ∧ a ≠ v ∧ r ≠ m ∧ r ≠ v ∧ m ≠ v)
    (_h4 : MapF w a N (fun t => (S.act t).map fun i => .int .i64 i)) (_h5 : MapF w r N (fun t => (S.rcd t).map recV)) (_h6 : MapF w m N (fun t => (S.mak t).map fun i : Nat => .int .i64 (i : Int))) (_h7 : MapF w v N (fun t => (S.rem t).map fun i : Nat => .int .i64 (i : Int)))
    (h8 : w.ownsRow B 53 5 vs S.steps.length (stepsC S.steps)) (h9 : w.ownsRow B 56 2 ve S.edges.length (pairCells S.edges))
    (hw1 : w1 = w.alloc o) (hown : w2.ownsRow B 53 5 v' (S.steps.length + 1) (stepsC S.steps ++ stepC e)) (hg : w1.grownBy w2 vs.ownBlock) :
    (w2.setCell ⟨p, 2, none⟩ v').heap[p]? = some (.cells #[.map (some a), .map (some r), v', .map (some m), .map (some v), ve] 63 (0, 0)) ∧ (∀ b n f, MapF w b n f → MapF (w2.setCell ⟨p, 2, none⟩ v') b n f) ∧
    (w2.setCell ⟨p, 2, none⟩ v').ownsRow B 53 5 v' (S.steps ++ [e]).length (stepsC (S.steps ++ [e])) ∧ (w2.setCell ⟨p, 2, none⟩ v').ownsRow B 56 2 ve S.edges.length (pairCells S.edges) ∧ Below B w (w2.setCell ⟨p, 2, none⟩ v') ∧
    (∀ q cs T fz, w.heap[q]? = some (.cells cs T fz) → T ≠ 53 ∨ q < B → q ≠ p → (w2.setCell ⟨p, 2, none⟩ v').heap[q]? = w.heap[q]?) := by
  have hB : B ≤ w.heap.size := by have := heap_lt h1; omega
  have k1 : ∀ q, q < w.heap.size → w1.heap[q]? = w.heap[q]? := fun q hq => by rw [hw1]; exact Below.heap_alloc _ _ q hq
  have hs1 : w.heap.size ≤ w1.heap.size := by rw [hw1]; simp only [World.alloc, Array.size_push]; omega
  have k2 : ∀ q, q < w.heap.size → vs.ownBlock ≠ some q → w2.heap[q]? = w.heap[q]? := fun q hq hne => by
    rw [hg.block q (by omega) (fun e => hne e.symm)]
    exact k1 q hq
  have k3 : ∀ q, q < w.heap.size → vs.ownBlock ≠ some q → q ≠ p → (w2.setCell ⟨p, 2, none⟩ v').heap[q]? = w.heap[q]? := fun q hq hne hp => by
    rw [Below.heap_setCell _ _ _ _ hp]
    exact k2 q hq hne
  have nm : ∀ {b n : Nat} {f : S8 → Option Value}, MapF w b n f → vs.ownBlock ≠ some b ∧ b ≠ p ∧ b < w.heap.size := fun {b n f} h => by
    obtain ⟨es, clock, hh⟩ := h.block
    refine ⟨fun e => ?_, fun e => ?_, heap_lt hh⟩
    · obtain ⟨_, h'⟩ := row_block h8 e
      rw [hh] at h'
      cases h'
    · rw [e, h1] at hh
      cases hh
  have hp2 : w2.heap[p]? = w.heap[p]? := k2 p (heap_lt h1) fun e => by
    obtain ⟨_, h'⟩ := row_block h8 e
    rw [h1] at h'
    injection h' with h'
    injection h' with _ h' _
    exact stepNe h'.symm
  refine ⟨setC (hp2.trans h1) 2 v', fun b n f h => h.keep (k3 _ (nm h).2.2 (nm h).1 (nm h).2.1), ?_, row_keep h9 fun q hq => ?_, ?_, fun q cs T fz hq hT hqp => k3 q (heap_lt hq) (fun e => ?_) hqp⟩
  · rw [List.length_append, stepsC_snoc]
    refine row_keep hown fun q hq => ?_
    obtain ⟨_, hh⟩ := row_block hown hq
    refine Below.heap_setCell _ _ _ _ fun e => ?_
    have e : q = p := e
    rw [e, hp2, h1] at hh
    injection hh with hh
    injection hh with _ h' _
    exact stepNe h'.symm
  · obtain ⟨_, hh⟩ := row_block h9 hq
    refine k3 q (heap_lt hh) (fun e => ?_) fun e => ?_
    · obtain ⟨_, h'⟩ := row_block h8 e
      rw [hh] at h'
      injection h' with h'
      injection h' with _ h' _
      exact stepNeP h'.symm
    · rw [e, h1] at hh
      injection hh with hh
      injection hh with _ h' _
      exact pairNe h'.symm
  · have b1 : Below B w w1 := by rw [hw1]; exact (Below.refl B w).alloc hB o
    have b2 := b1.grown hg (Nat.le_trans hB hs1) (fun k e => (h8.lt k e).1)
    exact b2.setCell (p := ⟨p, 2, none⟩) h2.1 v'
  · rcases hT with hT | hT
    · obtain ⟨_, h'⟩ := row_block h8 e
      rw [hq] at h'
      injection h' with h'
      injection h' with _ h' _
      exact hT h'
    · have := (h8.lt q e).1
      omega
theorem upd_map {α β : Type} (f : S8 → Option α) (g : α → β) (t : S8) (v : α) : (fun x => (upd f t v x).map g) = upd (fun x => (f x).map g) t (g v) := by
  funext x
  unfold upd
  by_cases e : x = t
  · rw [if_pos e, if_pos e]
    rfl
  · rw [if_neg e, if_neg e]
theorem MapF.other {w w' : World} {b b' n : Nat} {f : S8 → Option Value} (h : MapF w b n f) (ho : OnlyM b' w w') (hne : b ≠ b') : MapF w' b n f := by
  obtain ⟨es, clock, hh⟩ := h.block
  exact h.keep (ho.block b (heap_lt hh) hne)
theorem row_other {w w' : World} {b base e size n : Nat} {v : Value} {xs : List Value} (h : w.ownsRow base e size v n xs) (ho : OnlyM b w w') (hm : ∃ es clock, w.heap[b]? = some (.map es clock)) : w'.ownsRow base e size v n xs := row_keep h fun q hq => by
  obtain ⟨_, hh⟩ := row_block h hq
  obtain ⟨es, clock, hb⟩ := hm
  refine ho.block q (heap_lt hh) fun e => ?_
  rw [e, hb] at hh
  cases hh

set_option maxHeartbeats 4000000 in
theorem ahead_any {B N : Nat} {w : World} {p : Nat} {S : PS} (h : PnAt B N w p S) (x y : Nat) (hx : x ≤ 100000) (hy : y ≤ 100000) (hl : S.edges.length ≤ 100000) :
    Calls Tryd.prog 15 #[.pointer (some ⟨p, 0, none⟩), .int .i64 x, .int .i64 y] w fun e w' => e = .returned (.tuple #[]) ∧ PnAt B N w' p (S.ahead x y) ∧ Below B w w' ∧ Aside2 w w' := by
  have mixed : Tryd.prog.follows .mixedOrders = true := by kernel_rfl
  obtain ⟨i1, hi1, hz1, hzs1, hzb1⟩ := info_parts Tryd.info56
  by_cases hc : 0 < x ∧ 0 < y
  · have c1 : (0 : Int) < (x : Int) := by omega
    have c2 : (0 : Int) < (y : Int) := by omega
    obtain ⟨a, r, m, v, vs, ve, h1, h2, h3, h4, h5, h6, h7, h8, h9⟩ := h.at'
    have hS : S.ahead x y = { S with edges := S.edges ++ [((x : Int) - 1, (y : Int) - 1)] } := by unfold PS.ahead; rw [if_pos hc]
    rw [hS]
    obtain ⟨P9, c9, rfl⟩ := slice_form h9
    have hB : B ≤ w.heap.size := h.lt
    have HE := Lib.hid (fun (w2 : World) (v' : Value) (o : Obj) hown hg => PnAt.edged (w2 := w2) (v' := v') (o := o) (e := ((x : Int) - 1, (y : Int) - 1)) h1 h2 h3 h4 h5 h6 h7 h8 h9 rfl hown hg)
    have HO := Lib.hid (fun (o : Obj) => row_keep h9 fun q hq => by
      obtain ⟨_, hh⟩ := row_block h9 hq
      exact Below.heap_alloc w o q (heap_lt hh))
    obtain ⟨x0, x1, x2, x3, x4, x5⟩ := cells6 h1
    have hp := heap_lt h1
    have hfz := Lib.frozen_of_heap h1 5
    have HP := Lib.hid h1
    have hnp : Value.ownBlock (.slice P9 S.edges.length c9) ≠ some p := fun e => by
      obtain ⟨_, hh⟩ := row_block h9 e
      rw [h1] at hh
      cases hh
    have HN := Lib.hid hnp
    clear h hS hnp h1 h2 h3 h4 h5 h6 h7 h8 h9
    go_enter Tryd.func15, Tryd.ntmps15
    go_upto_region 1 with fail
    go_wp2_with (at_builtin; refine wpList_append_fresh _ rfl (.tmp 16) (.tmp 22) 43 rfl B 56 i1 _ 2 16 Tryd.underlying43 hi1 hz1 hzs1 hzb1 rfl (by decide) _ _ _ rfl (HO.out _) ⟨w.heap.size, 0, none⟩ 1 1 [.int .i64 ((x : Int) - 1), .int .i64 ((y : Int) - 1)] rfl rfl ?a1 ?a2 ?a3 ?a4 ?a5 ?_)
    case a2 => exact ⟨rfl, rfl⟩
    case a3 => unfold maxLen; omega
    case a4 => omega
    case a5 => first | omega | (simp; omega)
    intro v' w2 hown hg _
    have hp2 : w2.heap[p]? = w.heap[p]? := (hg.block p (by simp; omega) (fun e => HN.out e.symm)).trans (Below.heap_alloc _ _ p hp)
    have hpc := hp2.trans HP.out
    have y5 : w2.cell? ⟨p, 5, none⟩ = some (.slice P9 S.edges.length c9) := by rw [Lib.cell_of_heap hpc]; rfl
    have z5 := Lib.frozen_of_heap hpc 5
    have HF := Lib.hid (HE.out w2 v' _ hown hg)
    obtain ⟨P8, c8, rfl⟩ := slice_form hown
    clear hown hg hp2 hpc HE HO HN HP
    go_wp2
    first | refine bodyPost_end (results_none rfl _ _ _) rfl ?_ | refine bodyPost_ret (results_none rfl _ _ _) rfl ?_
    exact ⟨rfl, HF.out⟩
  · have hS : S.ahead x y = S := by unfold PS.ahead; rw [if_neg hc]
    rw [hS]
    have H := Lib.hid h
    have hb := Below.refl B w
    have hap := Aside2.refl w
    clear h
    by_cases hx0 : 0 < x
    · have c1 : (0 : Int) < (x : Int) := by omega
      have c2 : ¬ (0 : Int) < (y : Int) := by omega
      go_enter Tryd.func15, Tryd.ntmps15
      go_wp2
      first | refine bodyPost_end (results_none rfl _ _ _) rfl ?_ | refine bodyPost_ret (results_none rfl _ _ _) rfl ?_
      exact ⟨rfl, H.out, hb, hap⟩
    · have c1 : ¬ (0 : Int) < (x : Int) := by omega
      go_enter Tryd.func15, Tryd.ntmps15
      go_wp2
      first | refine bodyPost_end (results_none rfl _ _ _) rfl ?_ | refine bodyPost_ret (results_none rfl _ _ _) rfl ?_
      exact ⟨rfl, H.out, hb, hap⟩

end Go.Proofs.YtnjbdedmalpccaaDoor
