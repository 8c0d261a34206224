/- The walk of the law's own awake. -/
import Derived.Test.YtnjbdedmalpccaaDoorPnW
namespace Go.Proofs.YtnjbdedmalpccaaDoor
open Go.RowKit
set_option maxRecDepth 100000
attribute [local go_sem] str_size str_toList str_get

theorem cellsAt_blk {w : World} {g n : Nat} {cs : List Value} {T : TypeId} (h : w.heap[g]? = some (.cells cs.toArray T (0, 0))) (hn : n ≤ 9223372036854775807) : CellsAt w (.slice (some ⟨g, 0, none⟩) n n) n cs := by
  refine ⟨_, n, rfl, ⟨Nat.le_refl _, hn, fun e => by cases e⟩, fun _ => ⟨g, 0, rfl, heap_lt h, fun j u hj => ?_⟩⟩
  rw [Addr.add_lit, Nat.zero_add, Lib.cell_of_heap h]
  simpa using hj
theorem strsAt_one {w : World} {g : Nat} {s : S8} {T : TypeId} (h : w.heap[g]? = some (.cells #[str s] T (0, 0))) : StrsAt w (.slice (some ⟨g, 0, none⟩) 1 1) [s] := by
  refine ⟨_, 1, rfl, ⟨by simp, by omega, fun e => by cases e⟩, fun _ => ⟨g, 0, rfl, heap_lt h, fun i hi => ?_⟩⟩
  obtain rfl : i = 0 := by simpa using hi
  rw [Lib.cell_of_heap h]
  rfl
def awXm (q : Nat) : List IX := [(⟨nA, [116], 6, false, [], none, 0, 0, none, 0, 0, 4, false, none, 0, 0⟩, []), (⟨nB, [116], 6, false, [], none, 0, 0, none, 0, 0, 2, false, some ⟨q, 0, none⟩, 1, 1⟩, [nA])]
def awRm (q : Nat) : List RX := [(⟨nA, [116], [65], 6, false, [], none, 0, 0, none, 0, 0, none, 0, 0⟩, []), (⟨nB, [116], [66], 6, false, [], none, 0, 0, none, 0, 0, some ⟨q, 0, none⟩, 1, 1⟩, [nA]), (⟨nZ, [116], [90], 6, false, [], none, 0, 0, none, 0, 0, none, 0, 0⟩, [])]
theorem aw_insts {w : World} {g q : Nat} (h : w.heap[g]? = some (.cells ((awXm q).flatMap fun x => instC x.1).toArray 41 (0, 0))) (hq : w.heap[q]? = some (.cells #[str nA] 9 (0, 0))) : InstsAt w (.slice (some ⟨g, 0, none⟩) 2 2) (awXm q) := by
  refine ⟨cellsAt_blk h (by omega), fun x hx => ?_, fun x hx => ?_⟩
  · simp only [awXm, List.mem_cons, List.not_mem_nil, or_false] at hx
    rcases hx with rfl | rfl
    · exact StrsAt.nil w
    · exact strsAt_one hq
  · simp only [awXm, List.mem_cons, List.not_mem_nil, or_false] at hx
    rcases hx with rfl | rfl
    · exact ⟨by decide, fun d hd => (by cases hd), by decide⟩
    · exact ⟨by show nB.length ≤ 1000; decide, fun d hd => (by simp at hd; subst hd; decide), by show 1 ≤ 60; decide⟩
theorem aw_recs {w : World} {g q : Nat} (h : w.heap[g]? = some (.cells ((awRm q).flatMap fun x => recC x.1).toArray 37 (0, 0))) (hq : w.heap[q]? = some (.cells #[str nA] 9 (0, 0))) : RecsAt w (.slice (some ⟨g, 0, none⟩) 3 3) (awRm q) := by
  refine ⟨cellsAt_blk h (by omega), fun x hx => ?_, fun x hx => ?_⟩
  · simp only [awRm, List.mem_cons, List.not_mem_nil, or_false] at hx
    rcases hx with rfl | rfl | rfl
    · exact StrsAt.nil w
    · exact strsAt_one hq
    · exact StrsAt.nil w
  · simp only [awRm, List.mem_cons, List.not_mem_nil, or_false] at hx
    rcases hx with rfl | rfl | rfl
    · exact ⟨by decide, fun d hd => (by cases hd), by decide⟩
    · exact ⟨by show nB.length ≤ 1000; decide, fun d hd => (by simp at hd; subst hd; decide), by show 1 ≤ 60; decide⟩
    · exact ⟨by decide, fun d hd => (by cases hd), by decide⟩
theorem aw_same (q k : Nat) : (makeS (awXm q) (awRm k)).edges = awE ∧ (makeS (awXm q) (awRm k)).steps = [⟨1, nA, [116], [], true⟩, ⟨5, [116, 46, 97, 126], [116], [65], true⟩, ⟨2, nB, [116], [66], false⟩, ⟨5, nZ, [116], [90], false⟩] := by
  obtain ⟨h1, h2⟩ := makeS_alike (xs := awXm q) (ys := awX) (rs := awRm k) (ss := awR) rfl rfl
  exact ⟨h2.trans aw_make.1, h1.trans aw_make.2⟩

set_option maxHeartbeats 8000000 in
theorem awake18 (w : World) (hT : Tab w) : Calls Tryd.prog 4 #[] w fun e w' => e = .returned (.bool true) ∧ Below w.heap.size w w' := by
  have mixed : Tryd.prog.follows .mixedOrders = true := by kernel_rfl
  obtain ⟨wA, hwA⟩ : ∃ wA, wA = ((((((w.alloc (.cells #[.int .i64 6, .bool false, .string ⟨#[]⟩, .slice none 0 0, .slice none 0 0] 29)).alloc (.cells #[.string ⟨#[116, 46, 97]⟩] 9)).alloc (.cells ((awRm (w.heap.size + 1)).flatMap fun x => recC x.1).toArray 37)).alloc (.cells #[.int .i64 0, .slice (some ⟨w.heap.size + 1 + 1, 0, none⟩) 3 3] 34)).alloc (.cells #[.string ⟨#[116, 46, 97]⟩] 9)).alloc (.cells ((awXm (w.heap.size + 1 + 1 + 1 + 1)).flatMap fun x => instC x.1).toArray 41)).alloc (.cells #[.slice (some ⟨w.heap.size + 1 + 1 + 1 + 1 + 1, 0, none⟩) 2 2, .int .i64 0, .bool false, .string ⟨#[]⟩, .slice none 0 0, .slice none 0 0] 31) := ⟨_, rfl⟩
  have sz : ∀ (u : World) (o : Obj), (u.alloc o).heap.size = u.heap.size + 1 := fun u o => by simp only [World.alloc, Array.size_push]
  have old : ∀ (u : World) (o : Obj) (k : Nat), k < u.heap.size → (u.alloc o).heap[k]? = u.heap[k]? := fun u o k h => Below.heap_alloc u o k h
  have new : ∀ (u : World) (o : Obj) (k : Nat), u.heap.size = k → (u.alloc o).heap[k]? = some o := fun u o k h => by rw [← h]; exact heap_alloc_new _ _
  obtain ⟨n, hn⟩ : ∃ n, w.heap.size = n := ⟨_, rfl⟩
  rw [hn] at hwA
  have bA : Below n w wA := by
    rw [hwA]
    have b0 := Below.refl n w
    refine ((((((b0.alloc (by omega) _).alloc ?_ _).alloc ?_ _).alloc ?_ _).alloc ?_ _).alloc ?_ _).alloc ?_ _ <;> simp only [sz] <;> omega
  have n1 : wA.heap[n + 1]? = some (.cells #[str nA] 9 (0, 0)) := by
    rw [hwA]
    repeat rw [old _ _ _ (by simp only [sz]; omega)]
    exact new _ _ _ (by simp only [sz]; omega)
  have n2 : wA.heap[n + 1 + 1]? = some (.cells ((awRm (n + 1)).flatMap fun x => recC x.1).toArray 37 (0, 0)) := by
    rw [hwA]
    repeat rw [old _ _ _ (by simp only [sz]; omega)]
    exact new _ _ _ (by simp only [sz]; omega)
  have n3 : wA.heap[n + 1 + 1 + 1]? = some (.cells #[.int .i64 0, .slice (some ⟨n + 1 + 1, 0, none⟩) 3 3] 34 (0, 0)) := by
    rw [hwA]
    repeat rw [old _ _ _ (by simp only [sz]; omega)]
    exact new _ _ _ (by simp only [sz]; omega)
  have n4 : wA.heap[n + 1 + 1 + 1 + 1]? = some (.cells #[str nA] 9 (0, 0)) := by
    rw [hwA]
    repeat rw [old _ _ _ (by simp only [sz]; omega)]
    exact new _ _ _ (by simp only [sz]; omega)
  have n5 : wA.heap[n + 1 + 1 + 1 + 1 + 1]? = some (.cells ((awXm (n + 1 + 1 + 1 + 1)).flatMap fun x => instC x.1).toArray 41 (0, 0)) := by
    rw [hwA]
    repeat rw [old _ _ _ (by simp only [sz]; omega)]
    exact new _ _ _ (by simp only [sz]; omega)
  have n6 : wA.heap[n + 1 + 1 + 1 + 1 + 1 + 1]? = some (.cells #[.slice (some ⟨n + 1 + 1 + 1 + 1 + 1, 0, none⟩) 2 2, .int .i64 0, .bool false, .string ⟨#[]⟩, .slice none 0 0, .slice none 0 0] 31 (0, 0)) := by
    rw [hwA]
    exact new _ _ _ (by simp only [sz]; omega)
  have HI := aw_insts n5 n4
  have HR := aw_recs n2 n1
  obtain ⟨hE, hS⟩ := aw_same (n + 1 + 1 + 1 + 1) (n + 1)
  have MK := Make_any (awXm (n + 1 + 1 + 1 + 1)) (awRm (n + 1)) _ _ wA [(0, 2), (2, 1)] HI HR (by show 2 ≤ 40; omega) (by show 3 ≤ 60; omega) (fun x hx => by simp only [awXm, List.mem_cons, List.not_mem_nil, or_false] at hx; rcases hx with rfl | rfl <;> rfl) (hT.mono (by rw [hn]; exact bA)) (by rw [hS]; decide) (by rw [hE]; decide) (by rw [hE]; decide) (fun ts hp => by rw [hE] at hp; rw [hS]; exact aw_reduce ts hp)
  unfold solV stV at MK
  rw [hS] at MK
  obtain ⟨g0, g1, g2, g3, g4, g5⟩ := cells6 n6
  obtain ⟨h0, h1⟩ := cells2 n3
  have HB := Lib.hid (show Below w.heap.size w wA by rw [hn]; exact bA)
  clear n1 n2 n3 n4 n5 n6 HI HR hE hS bA sz old new hT
  go_enter Tryd.func4, Tryd.ntmps4
  go_upto_region 4 with fail
  try rw [hn]
  have hwB : wA = ((((((w.alloc (.cells #[.int .i64 6, .bool false, .string ⟨#[]⟩, .slice none 0 0, .slice none 0 0] 29)).alloc (.cells #[.string ⟨#[116, 46, 97]⟩] 9)).alloc _).alloc (.cells #[.int .i64 0, .slice (some ⟨n + 1 + 1, 0, none⟩) 3 3] 34)).alloc (.cells #[.string ⟨#[116, 46, 97]⟩] 9)).alloc _).alloc (.cells #[.slice (some ⟨n + 1 + 1 + 1 + 1 + 1, 0, none⟩) 2 2, .int .i64 0, .bool false, .string ⟨#[]⟩, .slice none 0 0, .slice none 0 0] 31) := hwA
  simp only [awRm, awXm, recC, instC, nA, nB, nZ, List.flatMap_cons, List.flatMap_nil, List.cons_append, List.nil_append, List.append_nil] at hwB
  rw [← hwB]
  clear hwA hwB
  go_wp2_with fail
  refine MK.mono ?_
  rintro e w1 ⟨vs, vL, rfl, hc, hp, hb⟩
  have HC := Lib.hid hc
  have HP := Lib.hid hp
  obtain ⟨aS, cS, rfl, _⟩ := hc
  obtain ⟨aL, cL, rfl, _⟩ := hp
  have HB1 := Lib.hid (HB.out.trans (hb.mono HB.out.size))
  clear MK hb g0 g1 g2 g3 g4 g5 h0 h1
  obtain ⟨wP, hwP⟩ : ∃ wP, wP = w1.alloc (.cells #[.slice aS 4 cS, .slice aL 2 cL] 45) := ⟨_, rfl⟩
  have nP : wP.heap[w1.heap.size]? = some (.cells #[.slice aS 4 cS, .slice aL 2 cL] 45 (0, 0)) := by rw [hwP]; exact heap_alloc_new _ _
  have bP : Below w1.heap.size w1 wP := by rw [hwP]; exact (Below.refl _ w1).alloc (Nat.le_refl _) _
  have HBP := Lib.hid (HB1.out.trans (bP.mono HB1.out.size))
  obtain ⟨bs, os, rfl, hls, hcs⟩ := CellsAt.at_ (c := stepC) (k := 5) (fun _ => rfl) (HC.out.mono bP) (i := 1) (x := ⟨5, [116, 46, 97, 126], [116], [65], true⟩) rfl
  have s0 : wP.cell? ⟨bs, os + 1 * 5, none⟩ = some (.int .i64 5) := hcs 0 _ rfl
  have s1 : wP.cell? ⟨bs, os + 1 * 5 + 1, none⟩ = some (str [116, 46, 97, 126]) := hcs 1 _ rfl
  have s2 : wP.cell? ⟨bs, os + 1 * 5 + 2, none⟩ = some (str [116]) := hcs 2 _ rfl
  have s3 : wP.cell? ⟨bs, os + 1 * 5 + 3, none⟩ = some (str [65]) := hcs 3 _ rfl
  have s4 : wP.cell? ⟨bs, os + 1 * 5 + 4, none⟩ = some (.bool true) := hcs 4 _ rfl
  obtain ⟨_, _, he1, _, _, hce⟩ := HP.out.mono bP
  cases he1
  obtain ⟨be, oe, rfl, hle, hce⟩ := hce (by simp)
  have e0 : wP.cell? ⟨be, oe + 0 * 2, none⟩ = some (.int .i64 0) := (hce 0 (by decide)).1
  have e1 : wP.cell? ⟨be, oe + 0 * 2 + 1, none⟩ = some (.int .i64 2) := (hce 0 (by decide)).2
  have e2 : wP.cell? ⟨be, oe + 1 * 2, none⟩ = some (.int .i64 2) := (hce 1 (by decide)).1
  have e3 : wP.cell? ⟨be, oe + 1 * 2 + 1, none⟩ = some (.int .i64 1) := (hce 1 (by decide)).2
  simp only [Nat.zero_mul, Nat.one_mul, Nat.add_zero, Nat.add_assoc, Nat.reduceAdd] at s0 s1 s2 s3 s4 e0 e1 e2 e3
  obtain ⟨y0, y1⟩ := cells2 nP
  have hst : ∀ W : World, (binOp .eql 53 (.agg #[.int .i64 5, .string ⟨#[116, 46, 97, 126]⟩, .string ⟨#[116]⟩, .string ⟨#[65]⟩, .bool true]) (.agg #[.int .i64 5, .string ⟨#[116, 46, 97, 126]⟩, .string ⟨#[116]⟩, .string ⟨#[65]⟩, .bool true])).run Tryd.prog W = .ok (.bool true) W := fun W => by kernel_rfl
  clear nP bP hcs hce HC HP
  go_upto_region 5 with fail
  try simp only [List.length_cons, List.length_nil]
  try rw [← hwP]
  clear hwP
  go_wp2
  go_ret
  exact ⟨rfl, HBP.out⟩

end Go.Proofs.YtnjbdedmalpccaaDoor
