/- slices.Backward over a slice of nodes: what its function value hands to a loop, from the last one to the first. -/
import Derived.Test.YtnjbdedmalpccaaDoorGrBase
import Derived.RangeFuncNested
import Derived.RangeFuncBound
import Derived.RangeFuncBox
import Derived.RangeFuncCalls
import Derived.RangeFuncLeaves
import Derived.Shelf.Abstract
import Derived.Shelf.RegionOpen
import Derived.OwnWalkIn
import Derived.TacticsInMore
import Derived.LoopNIn
import Derived.LoopIn
namespace Go.Proofs.YtnjbdedmalpccaaDoor
open Go.RowKit Go.Shelf
set_option maxRecDepth 100000

attribute [local go_sem] Oper.semAt_some

/-- What lay below, and one block, lies as it lay. -/
def KeepP (n₀ B : Nat) (W W' : World) : Prop := ∀ k, k < n₀ ∨ k = B → W'.heap[k]? = W.heap[k]?
theorem KeepP.refl (n₀ B : Nat) (W : World) : KeepP n₀ B W W := fun _ _ => rfl
theorem KeepP.trans {n₀ B : Nat} {W1 W2 W3 : World} (h : KeepP n₀ B W1 W2) (k : KeepP n₀ B W2 W3) : KeepP n₀ B W1 W3 := fun i hi => (k i hi).trans (h i hi)
theorem KeepP.cell {n₀ B : Nat} {W W' : World} (h : KeepP n₀ B W W') {b : Nat} (hb : b < n₀ ∨ b = B) (o : Nat) : W'.cell? ⟨b, o, none⟩ = W.cell? ⟨b, o, none⟩ := World.cell?_of_block (h b hb)

/-- The slices of nodes that are gone over. -/
def BackAt (n₀ : Nat) (W : World) (ao : Option Addr) (os : List Nat) : Prop :=
  os ≠ [] → ∃ b off, ao = some ⟨b, off, none⟩ ∧ b < n₀ ∧ ∀ i, i < os.length → W.cell? ⟨b, off + i, none⟩ = some (.int .i64 (os.getD i 0 : Nat))
/-- What a round is handed: the index, and the node. -/
def BackEnc {α : Type} (encs : α → Array Value) (os : List Nat) (zs : List α) : Prop :=
  ∀ (j : Nat) (x : α), zs[j]? = some x → ∃ i, i + j + 1 = os.length ∧ encs x = #[.int .i64 (i : Nat), .int .i64 (os.getD i 0 : Nat)]

set_option maxHeartbeats 2000000 in
theorem back1_in {α : Type} (n : Nat) (hn : 1 ≤ n) (encs : α → Array Value) (l Bs n₀ : Nat) (ao : Option Addr) (cap : Nat) (os : List Nat) (zs : List α) (hz : zs.length = os.length) (hreach : os.length ≤ 17592186044416)
    (henc : BackEnc encs os zs) (J Jx : List α → World → Prop)
    (hY : ∀ pre x W, J pre W → pre.length < zs.length → YieldAt Fence.wide (n - 1) Tryd.prog l (encs x) W fun e W' =>
      (e = .returned (.bool true) ∧ J (pre ++ [x]) W' ∧ KeepP n₀ Bs W W') ∨ (e = .returned (.bool false) ∧ Jx (pre ++ [x]) W'))
    (W : World) (hBs : W.cell? ⟨Bs, 0, none⟩ = some (.slice ao os.length cap)) (hI : BackAt n₀ W ao os) (h0 : J [] W) :
    CallsIn Fence.wide n Tryd.prog 61 #[.func (.yield l) #[] #[], .pointer (some ⟨Bs, 0, none⟩)] W fun e W' => (∃ v, e = .returned v) ∧
      ((∃ ys, ys = zs ∧ J ys W') ∨ (∃ pre, pre <+: zs ∧ Jx pre W')) := by
  have HI := Lib.hid hI
  have HN := Lib.hid henc
  have HZ := Lib.hid hz
  clear hI henc
  refine callsIn_of_wp Tryd.func61 rfl trivial ?_ rfl
  simp only [Tryd.ntmps61, List.size_toArray, List.length_cons, List.length_nil, Nat.reduceAdd, Nat.reduceSub, Array.replicate_succ, Array.replicate_zero, List.push_toArray, List.append_toArray, List.nil_append, List.cons_append]
  gi_wp2
  gi_loopw [3] (fun v3 wr => ∃ (i : Int) (k : Nat), i + k + 1 = os.length ∧ v3 = .int .i64 i ∧ J (zs.take k) wr ∧ KeepP n₀ Bs W wr ∧ k ≤ os.length) (fun v3 _ => (intOf v3 + 1).toNat)
  case atStart => exact ⟨_, 0, by omega, rfl, by simpa using h0, KeepP.refl _ _ _, Nat.zero_le _⟩
  case round =>
    obtain ⟨i, k, hik, rfl, hJs, hnx, hk⟩ := hrel
    have hbs := (hnx.cell (Or.inr rfl) 0).trans hBs
    by_cases hlt : k < os.length
    · obtain ⟨j, rfl⟩ := Int.eq_ofNat_of_zero_le (show 0 ≤ i by omega)
      obtain ⟨b, off, rfl, hb, hcs⟩ := HI.out (by intro h; simp [h] at hlt)
      have hzk : zs[k]? = some (zs[k]'(by omega)) := List.getElem?_eq_getElem _
      obtain ⟨x, hx⟩ : ∃ x, x = zs[k]'(by omega) := ⟨_, rfl⟩
      rw [← hx] at hzk
      obtain ⟨j', hj', he⟩ := HN.out k x hzk
      have hjj : j' = j := by omega
      subst hjj
      have hjl : j' < os.length := by omega
      have hcx := (hnx.cell (Or.inl hb) (off + j')).trans (hcs j' hjl)
      have hts : Hid (zs.take (k + 1) = zs.take k ++ [x]) := by
        rw [Hid, List.take_add_one, hzk]; rfl
      obtain ⟨fn, tmps, assign, body, hy, hR⟩ := hY _ x wr hJs (by rw [List.length_take]; omega)
      rw [he] at hy
      obtain ⟨y, hy0⟩ : ∃ y : Nat, y = os.getD j' 0 := ⟨_, rfl⟩
      rw [← hy0] at hy hcx
      clear hx hzk he hy0 hJs HN HI hcs hY
      gi_wp2
      refine hR.mono ?_
      rintro e W3 (⟨rfl, hJ3, hk3⟩ | ⟨rfl, hJx3⟩)
      · gi_wp2
        go_roundw
        case rel => exact ⟨_, k + 1, by omega, rfl, by rw [hts.out]; exact hJ3, hnx.trans hk3, by omega⟩
        case measure => simp [intOf]
      · gi_wp2
        refine bodyPost_ret (results_none rfl _ _ _) rfl ?_
        exact ⟨⟨_, rfl⟩, .inr ⟨_, by rw [← hts.out]; exact List.take_prefix _ _, hJx3⟩⟩
    · have hi : i = -1 := by omega
      subst hi
      have hkz : zs.take k = zs := List.take_of_length_le (by have := HZ.out; omega)
      rw [hkz] at hJs
      clear hkz hik hlt hk
      gi_wp2
      go_end0
      exact ⟨⟨_, rfl⟩, .inl ⟨_, rfl, hJs⟩⟩

theorem backward_any (ao : Option Addr) (len cap : Nat) (w : World) :
    Calls Tryd.prog 49 #[.slice ao len cap] w fun e w' => e = .returned (.func (.func 61) #[] #[.pointer (some ⟨w.heap.size, 0, none⟩)]) ∧ w' = w.alloc (.cells #[.slice ao len cap] 49) := by
  go_enter Tryd.func49, Tryd.ntmps49
  go_wp2
  go_ret
  exact ⟨rfl, rfl⟩

/-- The function value of slices.Backward goes over all nodes, from the last one to the first. -/
theorem back_stops {α : Type} (n : Nat) (hn : 1 ≤ n) (encs : α → Array Value) (Bs n₀ : Nat) (ao : Option Addr) (cap : Nat) (os : List Nat) (zs : List α) (hz : zs.length = os.length) (hreach : os.length ≤ 17592186044416)
    (henc : BackEnc encs os zs) (w : World) (hBs : w.cell? ⟨Bs, 0, none⟩ = some (.slice ao os.length cap)) (hBl : Bs < w.heap.size) (hn₀ : n₀ ≤ w.heap.size) (hI : BackAt n₀ w ao os) :
    SeqStopsK Fence.wide n Tryd.prog 61 #[.pointer (some ⟨Bs, 0, none⟩)] encs (KeepP n₀ Bs) (fun ys => ys = zs) (fun pre => pre <+: zs) zs.length w := fun l J Jx W hW _ _ hY h0 => by
  refine back1_in n hn encs l Bs n₀ ao cap os zs hz hreach henc J Jx hY W ((hW.cell (p := ⟨Bs, 0, none⟩) hBl).trans hBs) (fun hne => ?_) h0
  obtain ⟨b, off, e, hb, hc⟩ := hI hne
  exact ⟨b, off, e, hb, fun i hi => (hW.cell (p := ⟨b, off + i, none⟩) (show b < w.heap.size by omega)).trans (hc i hi)⟩

end Go.Proofs.YtnjbdedmalpccaaDoor
