/- slices.Backward of limbs: its pairs come from the last to the first. -/
import Derived.RangeFuncNested
import Derived.RangeFuncBound
import Derived.RangeFuncCalls
import Derived.RangeFuncLeaves
import Derived.Shelf.Abstract
import Derived.Shelf.RegionOpen
import Derived.WalkKit
import Derived.OwnWalkIn
import Derived.TacticsInMore
import Derived.LoopNIn
import Derived.LoopIn
import Derived.Test.YtekpdmjobkikfaaDoorMem
namespace Go.Proofs.YtekpdmjobkikfaaDoor
open Go.RowKit Go.Shelf
attribute [local go_sem] Oper.semAt_some

/-- What has come when k rounds are over. -/
def downto {α : Type} (el : Nat → α) (len k : Nat) : List α := (List.range k).map fun j => el (len - 1 - j)
theorem downto_succ {α : Type} (el : Nat → α) (len k : Nat) : downto el len (k + 1) = downto el len k ++ [el (len - 1 - k)] := by simp [downto, List.range_succ]
theorem downto_length {α : Type} (el : Nat → α) (len k : Nat) : (downto el len k).length = k := by simp [downto]

/-- What a round keeps: what lay below n₀, and the captured slice's box. -/
def KeepB (n₀ Bs : Nat) (W W' : World) : Prop := Below n₀ W W' ∧ W'.heap[Bs]? = W.heap[Bs]?
theorem KeepB.refl (n₀ Bs : Nat) (W : World) : KeepB n₀ Bs W W := ⟨Below.refl _ _, rfl⟩
theorem KeepB.trans {n₀ Bs : Nat} {A B C : World} (h : KeepB n₀ Bs A B) (k : KeepB n₀ Bs B C) : KeepB n₀ Bs A C := ⟨h.1.trans k.1, k.2.trans h.2⟩

set_option maxRecDepth 100000 in
set_option maxHeartbeats 2000000 in
theorem back1_in {α : Type} (encs : α → Array Value) (el : Nat → α) (F : Fence) (n : Nat) (hf : F.fn 66) (hro : F.round = none) (hn : 1 ≤ n) (l Bs n₀ b off cap : Nat) (zs : List Nat) (hz : zs.length ≤ 4096) (hb : b < n₀) (hel : ∀ q, q < zs.length → encs (el q) = #[.int .i64 (q : Int), .int .u64 ((zs[q]?.getD 0 : Nat) : Int)]) (J Jx : List α → World → Prop)
    (hY : ∀ pre x W, J pre W → pre.length < zs.length → YieldAt F (n - 1) Tryd.prog l (encs x) W fun e W' =>
      (e = .returned (.bool true) ∧ J (pre ++ [x]) W' ∧ KeepB n₀ Bs W W') ∨ (e = .returned (.bool false) ∧ Jx (pre ++ [x]) W'))
    (W : World) (hBs : W.cell? ⟨Bs, 0, none⟩ = some (.slice (some ⟨b, off, none⟩) zs.length cap)) (hc : ∀ j, j < zs.length → W.cell? ⟨b, off + j, none⟩ = some (.int .u64 ((zs[j]?.getD 0 : Nat) : Int))) (h0 : J [] W) :
    CallsIn F n Tryd.prog 66 #[.func (.yield l) #[] #[], .pointer (some ⟨Bs, 0, none⟩)] W fun e W' => (∃ v, e = .returned v) ∧
      ((∃ ys, ys = downto el zs.length zs.length ∧ J ys W') ∨ (∃ pre, (∃ k, k ≤ zs.length ∧ pre = downto el zs.length k) ∧ Jx pre W')) := by
  refine callsIn_of_wp Tryd.func66 rfl hf ?_ hro
  simp only [Tryd.ntmps66, List.size_toArray, List.length_cons, List.length_nil, Nat.reduceAdd, Nat.reduceSub, Array.replicate_succ, Array.replicate_zero, List.push_toArray, List.append_toArray, List.nil_append, List.cons_append]
  gi_wp2
  gi_loopw [3] (fun i wr => ∃ k : Nat, k ≤ zs.length ∧ i = .int .i64 ((zs.length : Int) - 1 - (k : Int)) ∧ J (downto el zs.length k) wr ∧ KeepB n₀ Bs W wr)
    (fun i _ => (intOf i + 1).toNat)
  case atStart => exact ⟨0, Nat.zero_le _, by simp, h0, KeepB.refl _ _ _⟩
  case round =>
    obtain ⟨k, hk, rfl, hJs, hnx⟩ := hrel
    by_cases hlt : k < zs.length
    · have hge : (0 : Int) ≤ (zs.length : Int) - 1 - (k : Int) := by omega
      obtain ⟨q, hq⟩ : ∃ q : Nat, q = zs.length - 1 - k := ⟨_, rfl⟩
      have hqi : (zs.length : Int) - 1 - (k : Int) = (q : Int) := by omega
      have hqlt : q < zs.length := by omega
      have hqlt' : (q : Int) < (zs.length : Int) := by omega
      obtain ⟨x, hx⟩ : ∃ x, zs[q]?.getD 0 = x := ⟨_, rfl⟩
      obtain ⟨fn, tmps, assign, body, hy, hR⟩ := hY _ (el q) wr hJs (by rw [downto_length]; exact hlt)
      rw [hel q hqlt, hx] at hy
      have hcx' := (hnx.1.cell (p := ⟨b, off + q, none⟩) hb).trans (hc q hqlt)
      rw [hx] at hcx'
      have hbx' := (World.cell?_of_block (w := W) (a := ⟨Bs, 0, none⟩) hnx.2).trans hBs
      rw [hqi]
      have hnext : downto el zs.length (k + 1) = downto el zs.length k ++ [el q] := by rw [downto_succ, ← hq]
      have HNX := Lib.hid hnext
      have HQ := Lib.hid hqi
      clear hnext hqi hq hge hx
      gi_wp2
      refine hR.mono ?_
      rintro e W3 (⟨rfl, hJ3, hk3⟩ | ⟨rfl, hJx3⟩)
      · gi_wp2
        go_roundw
        case rel => exact ⟨k + 1, by omega, by have := HQ.out; go_num, by rw [HNX.out]; exact hJ3, hnx.trans hk3⟩
        case measure => simp [intOf]
      · gi_wp2
        refine bodyPost_ret (results_none rfl _ _ _) rfl ?_
        exact ⟨⟨_, rfl⟩, .inr ⟨_, ⟨k + 1, by omega, HNX.out.symm⟩, hJx3⟩⟩
    · obtain rfl : k = zs.length := by omega
      have hge : ¬ (0 : Int) ≤ (zs.length : Int) - 1 - (zs.length : Int) := by omega
      gi_wp2
      go_end0
      exact ⟨⟨_, rfl⟩, .inl hJs⟩

theorem keepB_b {n₀ Bs : Nat} {w : World} (hn : n₀ ≤ w.heap.size) (hs : Bs < w.heap.size) (W : World) (l : Nat) (o o' : Obj) (hl : w.heap.size ≤ l) (h : W.heap[l]? = some o) (h1 : o.isCells = false) (h2 : o.isWalk = false) : KeepB n₀ Bs W (W.putObj l o') :=
  ⟨belowK_b hn W l o o' hl h h1 h2, (grownBy_putObj' W l o').block Bs (by have := (Array.getElem?_eq_some_iff.1 h).1; omega) (fun e => by cases e; omega)⟩

set_option maxRecDepth 100000 in
set_option maxHeartbeats 1000000 in
theorem back_in (F : Fence) (n : Nat) (hf : F.fn 50) (hro : F.round = none) (a : Option Addr) (len cap : Nat) (w : World) :
    CallsIn F n Tryd.prog 50 #[.slice a len cap] w fun e w' => e = .returned (.func (.func 66) #[] #[.pointer (some ⟨w.heap.size, 0, none⟩)]) ∧ w' = w.alloc (.cells #[.slice a len cap] 47) := by
  refine callsIn_of_wp Tryd.func50 rfl hf ?_ hro
  simp only [Tryd.ntmps50, List.size_toArray, List.length_cons, List.length_nil, Nat.reduceAdd, Nat.reduceSub, Array.replicate_succ, Array.replicate_zero, List.push_toArray, List.append_toArray, List.nil_append, List.cons_append]
  gi_wp2
  go_ret
  exact ⟨rfl, rfl⟩

theorem back_stops {α : Type} (encs : α → Array Value) (el : Nat → α) (F : Fence) (n : Nat) (hf : F.fn 66) (hro : F.round = none) (hn : 1 ≤ n) (Bs n₀ b off cap : Nat) (zs : List Nat) (hz : zs.length ≤ 4096) (w : World) (hBs : Bs < w.heap.size) (hn₀ : n₀ ≤ w.heap.size) (hb : b < n₀)
    (hel : ∀ q, q < zs.length → encs (el q) = #[.int .i64 (q : Int), .int .u64 ((zs[q]?.getD 0 : Nat) : Int)]) (hc : w.cell? ⟨Bs, 0, none⟩ = some (.slice (some ⟨b, off, none⟩) zs.length cap)) (hcs : ∀ j, j < zs.length → w.cell? ⟨b, off + j, none⟩ = some (.int .u64 ((zs[j]?.getD 0 : Nat) : Int))) :
    SeqStopsK F n Tryd.prog 66 #[.pointer (some ⟨Bs, 0, none⟩)] encs (KeepB n₀ Bs) (fun ys => ys = downto el zs.length zs.length)
      (fun pre => ∃ k, k ≤ zs.length ∧ pre = downto el zs.length k) zs.length w := fun l J Jx W hW _ _ hY h0 =>
  back1_in encs el F n hf hro hn l Bs n₀ b off cap zs hz hb hel J Jx hY W ((hW.cell (p := ⟨Bs, 0, none⟩) hBs).trans hc) (fun j hj => (hW.cell (p := ⟨b, off + j, none⟩) (Nat.lt_of_lt_of_le hb hn₀)).trans (hcs j hj)) h0

end Go.Proofs.YtekpdmjobkikfaaDoor
