/- Walks of the sets of nodes: TrailingZeros64, put, has, join, list. -/
import Derived.Test.YtnjbdedmalpccaaDoorGrBase
import Derived.Test.YtnjbdedmalpccaaDoorGrSetP
import Derived.Laws.Bits64
import Derived.Laws.Bits64b
namespace Go.Proofs.YtnjbdedmalpccaaDoor
open Go.RowKit

/-- The table of math/bits lies where the program lays it. -/
def Tab (w : World) : Prop := 0 < w.heap.size ∧ ∀ k, k < 64 → w.cell? ⟨0, k, none⟩ = some (.int .u8 (Lib.deBruijn64tab.getD k 0 : Nat))
theorem Tab.mono {w w' : World} (h : Tab w) (hb : Below w.heap.size w w') : Tab w' :=
  ⟨Nat.lt_of_lt_of_le h.1 hb.size, fun k hk => (hb.cell (p := ⟨0, k, none⟩) h.1).trans (h.2 k hk)⟩

/-- The numbers that the walk meets: the lowest bit, and its place in the table. -/
theorem tz_nums (x : Nat) (h0 : x ≠ 0) (hx : x < 18446744073709551616) :
    ∃ y p j : Nat, IntKind.u64.wrap (-(x : Int)) = (y : Int) ∧ bits .and .u64 (x : Int) (y : Int) = (p : Int) ∧
      IntKind.u64.wrap ((p : Int) * 285870213051353865) / 288230376151711744 = (j : Int) ∧ j < 64 ∧ Lib.deBruijn64tab.getD j 0 = Lib.ctz 64 x := by
  obtain ⟨hb, hk⟩ := Lib.lowest_bit 64 x h0 hx
  obtain ⟨d1, d2⟩ := Lib.deBruijn64_at (Lib.ctz 64 x) hk
  refine ⟨18446744073709551616 - x, 2 ^ Lib.ctz 64 x, 2 ^ Lib.ctz 64 x * 285870213051353865 % 18446744073709551616 / 288230376151711744, ?_, ?_, ?_, d1, d2⟩
  · rw [IntKind.wrap_u64]; omega
  · rw [bits_and_u64_nat _ _ hx (by omega), ← hb]
  · rw [IntKind.wrap_u64]
    generalize 2 ^ Lib.ctz 64 x = q
    omega

set_option maxHeartbeats 400000 in
theorem tz_any (x : Nat) (w : World) (hT : Tab w) (h0 : x ≠ 0) (hx : x < 18446744073709551616) :
    Calls Tryd.prog 51 #[.int .u64 x] w fun e w' => e = .returned (.int .i64 (Lib.ctz 64 x : Nat)) ∧ w = w' := by
  have hne : ((x : Int) == 0) = false := by simp; exact h0
  obtain ⟨y, p, j, e1, e2, e3, hj, ht⟩ := tz_nums x h0 hx
  have hc := hT.2 j hj
  obtain ⟨_, hk⟩ := Lib.lowest_bit 64 x h0 hx
  rw [ht] at hc
  generalize Lib.ctz 64 x = t at hc hk ⊢
  clear hT h0 ht hx
  go_enter Tryd.func51, Tryd.ntmps51
  go_wp2
  go_ret
  exact ⟨rfl, rfl⟩

theorem has_bit (x k : Nat) (hx : x < 2 ^ 64) : (bits .and .u64 ((x : Int) / 2 ^ k) 1 == 1) = x.testBit k := by
  rw [Nat.testBit_eq_decide_div_mod_eq]
  have e : (x : Int) / 2 ^ k = ((x / 2 ^ k : Nat) : Int) := by simp
  have hle : x / 2 ^ k ≤ x := Nat.div_le_self _ _
  generalize x / 2 ^ k = q at e hle ⊢
  rw [e, and_one_u64 _ (by omega) (by omega), Bool.eq_iff_iff, beq_iff_eq, decide_eq_true_eq]
  omega

theorem put_bit (x k : Nat) (hx : x < 2 ^ 64) (hk : k < 64) : bits .or .u64 (x : Int) (IntKind.u64.wrap (2 ^ k)) = ((x ||| 2 ^ k : Nat) : Int) := by
  have hp : 2 ^ k < 2 ^ 64 := Nat.pow_lt_pow_right (by decide) hk
  have e : IntKind.u64.wrap (2 ^ k) = ((2 ^ k : Nat) : Int) := by
    rw [IntKind.wrap_u64]
    have : ((2 : Int) ^ k) = ((2 ^ k : Nat) : Int) := by simp
    rw [this]
    generalize 2 ^ k = q at hp
    omega
  rw [e, bits_or_u64_nat _ _ (by omega) (by omega)]

set_option maxHeartbeats 400000 in
theorem has_raw (b off i x : Nat) (w : World) (hi : i < 512) (hx : x < 2 ^ 64) (hc : w.cell? ⟨b, off + i / 64, none⟩ = some (.int .u64 x)) :
    Calls Tryd.prog 29 #[.pointer (some ⟨b, off, none⟩), .int .i64 i] w fun e w' => e = .returned (.bool (x.testBit (i % 64))) ∧ w = w' := by
  have H := Lib.hid (has_bit x (i % 64) hx)
  clear hx
  go_enter Tryd.func29, Tryd.ntmps29
  go_wp2
  go_ret
  exact ⟨ret_bool H.out, rfl⟩

set_option maxHeartbeats 400000 in
theorem put_raw (b off i x : Nat) (w : World) (hi : i < 512) (hx : x < 2 ^ 64) (hc : w.cell? ⟨b, off + i / 64, none⟩ = some (.int .u64 x)) (hf : w.frozen? ⟨b, off + i / 64, none⟩ = false) :
    Calls Tryd.prog 48 #[.pointer (some ⟨b, off, none⟩), .int .i64 i] w fun e w' => e = .returned (.tuple #[]) ∧ w' = (w.setCell ⟨b, off + i / 64, none⟩ (.int .u64 ((x ||| 2 ^ (i % 64) : Nat)))).drew := by
  have H := Lib.hid (put_bit x (i % 64) hx (Nat.mod_lt _ (by decide)))
  clear hx
  go_enter Tryd.func48, Tryd.ntmps48
  go_region
  go_end0
  exact ⟨rfl, by rw [H.out]⟩

/-- A block of the call's own: n sets of eight words, as g says. -/
def WRow (w : World) (b : Nat) (T : TypeId) (n : Nat) (g : Nat → Nat → Nat) : Prop :=
  ∃ arr : Array Value, w.heap[b]? = some (.cells arr T (0, 0)) ∧ arr.size = n * 8 ∧ ∀ k j, k < n → j < 8 → arr[k * 8 + j]? = some (.int .u64 (g k j))

theorem WRow.cell {w : World} {b T n k j : Nat} {g : Nat → Nat → Nat} (h : WRow w b T n g) (hk : k < n) (hj : j < 8) : w.cell? ⟨b, k * 8 + j, none⟩ = some (.int .u64 (g k j)) := by
  obtain ⟨arr, hh, _, hc⟩ := h
  simp [World.cell?, hh, hc k j hk hj]
theorem WRow.free {w : World} {b T n : Nat} {g : Nat → Nat → Nat} (h : WRow w b T n g) (o : Nat) : w.frozen? ⟨b, o, none⟩ = false := by
  obtain ⟨arr, hh, _, hc⟩ := h
  simp [World.frozen?, hh]
theorem WRow.lt {w : World} {b T n : Nat} {g : Nat → Nat → Nat} (h : WRow w b T n g) : b < w.heap.size := by
  obtain ⟨arr, hh, _, hc⟩ := h
  exact (Array.getElem?_eq_some_iff.1 hh).1
theorem WRow.kept {w w' : World} {b T n : Nat} {g : Nat → Nat → Nat} (h : WRow w b T n g) (hk : w'.heap[b]? = w.heap[b]?) : WRow w' b T n g := by
  obtain ⟨arr, hh, r⟩ := h
  exact ⟨arr, hk.trans hh, r⟩
theorem WRow.congr {w : World} {b T n : Nat} {g g' : Nat → Nat → Nat} (h : WRow w b T n g) (hg : ∀ k j, k < n → j < 8 → g k j = g' k j) : WRow w b T n g' := by
  obtain ⟨arr, hh, hs, hc⟩ := h
  exact ⟨arr, hh, hs, fun k j hk hj => by rw [← hg k j hk hj]; exact hc k j hk hj⟩
theorem WRow.set {w : World} {b T n k j : Nat} {g : Nat → Nat → Nat} (h : WRow w b T n g) (hk : k < n) (hj : j < 8) (x : Nat) :
    WRow (w.setCell ⟨b, k * 8 + j, none⟩ (.int .u64 x)) b T n (fun k' j' => if k' = k ∧ j' = j then x else g k' j') := by
  obtain ⟨arr, hh, hs, hc⟩ := h
  refine ⟨arr.setIfInBounds (k * 8 + j) (.int .u64 x), by simp [World.setCell, Array.getElem?_modify, hh], by simp [hs], fun k' j' hk' hj' => ?_⟩
  rw [Array.getElem?_setIfInBounds]
  by_cases e : k * 8 + j = k' * 8 + j'
  · have e1 : k' = k := by omega
    have e2 : j' = j := by omega
    subst e1 e2
    have : k' * 8 + j' < arr.size := by omega
    simp [this]
  · have : ¬ (k' = k ∧ j' = j) := by omega
    simp only [if_neg e, if_neg this]
    exact hc k' j' hk' hj'

/-- All but block b, and the draws, is as it was. -/
structure OnlyB (b : Nat) (w w' : World) : Prop where
  os : w'.os = w.os
  tape : w'.tape = w.tape
  output : w'.output = w.output
  size : w'.heap.size = w.heap.size
  block : ∀ k, k ≠ b → w'.heap[k]? = w.heap[k]?
theorem OnlyB.refl (b : Nat) (w : World) : OnlyB b w w := ⟨rfl, rfl, rfl, rfl, fun _ _ => rfl⟩
theorem OnlyB.trans {b : Nat} {w1 w2 w3 : World} (h : OnlyB b w1 w2) (k : OnlyB b w2 w3) : OnlyB b w1 w3 :=
  ⟨k.os.trans h.os, k.tape.trans h.tape, k.output.trans h.output, k.size.trans h.size, fun i hi => (k.block i hi).trans (h.block i hi)⟩
theorem OnlyB.drew {b : Nat} {w w' : World} (h : OnlyB b w w') : OnlyB b w w'.drew := h.trans ⟨rfl, rfl, rfl, rfl, fun _ _ => rfl⟩
theorem OnlyB.drewN {b : Nat} {w w' : World} (h : OnlyB b w w') (n : Nat) : OnlyB b w (w'.drewN n) := h.trans ⟨rfl, rfl, rfl, rfl, fun _ _ => rfl⟩
theorem OnlyB.setCell {b : Nat} {w w' : World} (h : OnlyB b w w') (o : Nat) (s : Option Nat) (u : Value) : OnlyB b w (w'.setCell ⟨b, o, s⟩ u) :=
  h.trans ⟨rfl, rfl, rfl, by simp [World.setCell], fun k hk => Below.heap_setCell _ _ _ _ hk⟩
theorem Below.only {B b : Nat} {a w w' : World} (h : Below B a w) (k : OnlyB b w w') (hb : B ≤ b) : Below B a w' :=
  h.trans ⟨k.os, k.tape, k.output, by rw [k.size]; exact Nat.le_refl _, fun i hi => k.block i (by omega)⟩

/-- The set's own contract: a node put into set k of a row. -/
theorem put_any (b T n k i : Nat) (f : Nat → Nat) (w : World) (h : WRow w b T n (fun k j => wd (f k) j)) (hk : k < n) (hi : i < 512) :
    Calls Tryd.prog 48 #[.pointer (some ⟨b, k * 8, none⟩), .int .i64 i] w fun e w' => e = .returned (.tuple #[]) ∧ WRow w' b T n (fun k' j => wd (if k' = k then f k ||| 2 ^ i else f k') j) ∧ OnlyB b w w' := by
  refine (put_raw b (k * 8) i (wd (f k) (i / 64)) w hi (wd_lt _ _) (h.cell hk (by omega)) (h.free _)).mono ?_
  rintro e w' ⟨rfl, rfl⟩
  refine ⟨rfl, ?_, ((OnlyB.refl _ _).setCell _ _ _).drew⟩
  refine WRow.kept (w := w.setCell ⟨b, k * 8 + i / 64, none⟩ (.int .u64 ((wd (f k) (i / 64) ||| 2 ^ (i % 64) : Nat)))) ?_ rfl
  refine (h.set hk (by omega) _).congr ?_
  intro k' j hk' hj
  by_cases e : k' = k
  · subst e
    simp only [true_and, if_true]
    rw [wd_put]
    by_cases e2 : j = i / 64
    · subst e2; simp
    · simp [e2]
  · simp [e]

theorem has_any' (b T n k i : Nat) (f : Nat → Nat) (w : World) (h : WRow w b T n (fun k j => wd (f k) j)) (hk : k < n) (hi : i < 512) :
    Calls Tryd.prog 29 #[.pointer (some ⟨b, k * 8, none⟩), .int .i64 i] w fun e w' => e = .returned (.bool ((f k).testBit i)) ∧ w = w' := by
  refine (has_raw b (k * 8) i (wd (f k) (i / 64)) w hi (wd_lt _ _) (h.cell hk (by omega))).mono ?_
  rintro e w' ⟨rfl, rfl⟩
  refine ⟨ret_bool ?_, rfl⟩
  rw [wd_bit _ _ _ (Nat.mod_lt _ (by decide))]
  congr 1
  omega

theorem or_words (x y : Nat) (hx : x < 2 ^ 64) (hy : y < 2 ^ 64) : bits .or .u64 (x : Int) (y : Int) = ((x ||| y : Nat) : Int) := bits_or_u64_nat _ _ (by omega) (by omega)

set_option maxHeartbeats 400000 in
/-- One set joined to another of the same row. -/
theorem join_any (b T n k1 k2 : Nat) (f : Nat → Nat) (w : World) (h : WRow w b T n (fun k j => wd (f k) j)) (h1 : k1 < n) (h2 : k2 < n) :
    Calls Tryd.prog 50 #[.pointer (some ⟨b, k1 * 8, none⟩), .pointer (some ⟨b, k2 * 8, none⟩)] w fun e w' => e = .returned (.tuple #[]) ∧ WRow w' b T n (fun k' j => wd (if k' = k1 then f k1 ||| f k2 else f k') j) ∧ OnlyB b w w' := by
  go_enter Tryd.func50, Tryd.ntmps50
  go_wp2
  go_loopw [5] (fun v5 wr => ∃ i : Nat, i ≤ 8 ∧ v5 = .int .i64 i ∧ WRow wr b T n (fun k' j => if k' = k1 ∧ j < i then wd (f k1) j ||| wd (f k2) j else wd (f k') j) ∧ OnlyB b w wr) (fun v5 _ => 8 - (intOf v5).toNat)
  case atStart => exact ⟨0, by omega, rfl, h.congr (fun k j _ _ => by simp), OnlyB.refl _ _⟩
  case round =>
    obtain ⟨i, hi, rfl, hr, hob⟩ := hrel
    by_cases hlt : i < 8
    · have c1 := hr.cell h1 hlt
      have c2 := hr.cell h2 hlt
      have hf := hr.free (k1 * 8 + i)
      have e1 : (if k1 = k1 ∧ i < i then wd (f k1) i ||| wd (f k2) i else wd (f k1) i) = wd (f k1) i := by simp
      have e2 : (if k2 = k1 ∧ i < i then wd (f k1) i ||| wd (f k2) i else wd (f k2) i) = wd (f k2) i := by simp
      rw [e1] at c1
      rw [e2] at c2
      have HO := Lib.hid (or_words _ _ (wd_lt (f k1) i) (wd_lt (f k2) i))
      have hset := hr.set h1 hlt (wd (f k1) i ||| wd (f k2) i)
      have HR : Hid (WRow (wr.setCell ⟨b, k1 * 8 + i, none⟩ (.int .u64 ((wd (f k1) i ||| wd (f k2) i : Nat)))) b T n (fun k' j => if k' = k1 ∧ j < i + 1 then wd (f k1) j ||| wd (f k2) j else wd (f k') j)) := by
        refine hset.congr ?_
        intro k' j _ _
        by_cases e : k' = k1
        · subst e
          by_cases e2 : j = i
          · subst e2; simp
          · have : (j < i + 1) = (j < i) := by apply propext; omega
            simp [e2, this]
        · simp [e]
      clear e1 e2 hset
      obtain ⟨x, hx⟩ : ∃ x, x = wd (f k1) i := ⟨_, rfl⟩
      obtain ⟨y, hy⟩ : ∃ x, x = wd (f k2) i := ⟨_, rfl⟩
      rw [← hx] at c1 HO HR
      rw [← hy] at c2 HO HR
      clear hx hy hr h
      go_wp2
      go_region
      have HOW : OnlyB b w ((wr.setCell ⟨b, k1 * 8 + i, none⟩ (.int .u64 (x ||| y : Nat))).drew) := (hob.setCell _ _ _).drew
      rw [← HO.out] at HR HOW
      clear hob hf c1 c2 HO
      go_wp2
      go_roundw
      case rel => exact ⟨i + 1, by omega, by go_num, HR.out.kept rfl, HOW⟩
      case measure => simp [intOf]; omega
    · have hi8 : i = 8 := by omega
      have HR : Hid (WRow wr b T n (fun k' j => wd (if k' = k1 then f k1 ||| f k2 else f k') j)) := by
        refine hr.congr ?_
        intro k' j _ hj
        by_cases e : k' = k1
        · subst e
          have : j < i := by omega
          simp [this, wd_or]
        · simp [e]
      clear hr hi8
      go_wp2
      go_end0
      exact ⟨rfl, HR.out, hob⟩

end Go.Proofs.YtnjbdedmalpccaaDoor
