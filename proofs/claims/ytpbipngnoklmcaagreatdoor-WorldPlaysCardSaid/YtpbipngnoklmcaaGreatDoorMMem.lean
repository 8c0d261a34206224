/- Predicates on memory for the walks over numbers: slices of limbs, read in a world; big numbers. No condition. Texts in walks: their bytes, cut and joined; the table of powers of ten. No condition. -/
import Derived.Test.YtpbipngnoklmcaaGreatDoorProg
import Derived.Test.YtpbipngnoklmcaaGreatDoorLimbP
import Derived.WalkKit
import Derived.WalkSpells
import Derived.WalkLawsBesides
import Derived.BigQuiet
import Derived.Deep.QuietTactic
import Derived.Deep.LoopGhost
import Derived.Deep.Cut
import Derived.Deep.CutRange
import Derived.Lib.Hide
import Derived.Laws.AppendOwnNone
import Derived.Laws.MakeOwn
import Derived.StillTailTactics
import Derived.Laws.Concat
import Derived.Laws.Strings2
import Derived.Laws.Strings3
import Derived.Laws.IdiomStrings
import Derived.Lib.Strings
import Derived.Lib.LaidTab
import Derived.Lib.ItoaMem
namespace Go.Proofs.YtpbipngnoklmcaaGreatDoor
open Go.RowKit

/-- v is a slice (perhaps nil) of limbs xs. -/
def LimbsAt (w : World) (v : Value) (xs : List Nat) : Prop :=
  ∃ (ao : Option Addr) (cap : Nat), v = .slice ao xs.length cap ∧ xs.length ≤ 4096 ∧ (xs.length ≤ cap ∧ cap ≤ 9223372036854775807 ∧ (ao = none → cap = 0)) ∧
    (xs ≠ [] → ∃ b off, ao = some ⟨b, off, none⟩ ∧ (b < w.heap.size ∧ ∃ cs fz, w.heap[b]? = some (.cells cs 139 fz)) ∧ ∀ i, i < xs.length → w.cell? ⟨b, off + i, none⟩ = some (.int .u64 ((xs.getD i 0 : Nat) : Int)))

theorem LimbsAt.mono {w w' : World} {v : Value} {xs : List Nat} (h : LimbsAt w v xs) (hb : Below w.heap.size w w') : LimbsAt w' v xs := by
  obtain ⟨ao, cap, hv, hl, hm, hc⟩ := h
  refine ⟨ao, cap, hv, hl, hm, fun hne => ?_⟩
  obtain ⟨b, off, ha, hlt, hcell⟩ := hc hne
  obtain ⟨hlt, cs, fz, ht⟩ := hlt
  exact ⟨b, off, ha, ⟨Nat.lt_of_lt_of_le hlt hb.size, cs, fz, (hb.block b hlt).trans ht⟩, fun i hi => (hb.cell (p := ⟨b, off + i, none⟩) hlt).trans (hcell i hi)⟩
theorem LimbsAt.get {w : World} {ao : Option Addr} {n cap : Nat} {xs : List Nat} (h : LimbsAt w (.slice ao n cap) xs) {i : Nat} (hi : i < xs.length) : ∃ b off, ao = some ⟨b, off, none⟩ ∧ b < w.heap.size ∧ w.cell? ⟨b, off + i, none⟩ = some (.int .u64 ((xs.getD i 0 : Nat) : Int)) := by
  obtain ⟨ao', cap', hv, hl, hm, hc⟩ := h
  cases hv
  obtain ⟨b, off, ha, hb, hcell⟩ := hc (by intro e; simp [e] at hi)
  exact ⟨b, off, ha, hb.1, hcell i hi⟩
theorem LimbsAt.val {w : World} {v : Value} {xs : List Nat} (h : LimbsAt w v xs) : ∃ ao cap, v = .slice ao xs.length cap ∧ xs.length ≤ 4096 ∧ xs.length ≤ cap ∧ cap ≤ 9223372036854775807 := by
  obtain ⟨ao, cap, hv, hl, hm, _⟩ := h
  exact ⟨ao, cap, hv, hl, hm.1, hm.2.1⟩
theorem LimbsAt.nil (w : World) : LimbsAt w (.slice none 0 0) [] := ⟨none, 0, rfl, by simp, by simp, fun h => absurd rfl h⟩
theorem LimbsAt.cut {w : World} {ao : Option Addr} {n cap : Nat} {xs : List Nat} (h : LimbsAt w (.slice ao n cap) xs) (k : Nat) (hk : k ≤ xs.length) : LimbsAt w (.slice ao k cap) (xs.take k) := by
  obtain ⟨ao', cap', hv, hl, hm, hc⟩ := h
  cases hv
  have e : (xs.take k).length = k := by rw [List.length_take, Nat.min_eq_left hk]
  refine ⟨ao, cap, by rw [e], by omega, ⟨by omega, hm.2⟩, fun hne => ?_⟩
  obtain ⟨b, off, ha, hb, hcell⟩ := hc (by intro h0; subst h0; simp at hne)
  refine ⟨b, off, ha, hb, fun i hi => ?_⟩
  have hik : i < k := by omega
  have e2 : (xs.take k).getD i 0 = xs.getD i 0 := by simp [List.getD, hik]
  rw [e2]
  exact hcell i (by omega)
def limbs (xs : List Nat) : List Value := xs.map fun n : Nat => Value.int .u64 (n : Int)
theorem limbs_len (xs : List Nat) : (limbs xs).length = xs.length := by simp [limbs]
theorem limbs_snoc (xs : List Nat) (x : Nat) : limbs (xs ++ [x]) = limbs xs ++ [.int .u64 (x : Int)] := by simp [limbs]
/-- What the call owns reads as limbs. -/
theorem limbs_of_own {w : World} {base : Nat} {v : Value} {xs : List Nat} (h : w.ownsRow base 139 1 v xs.length (limbs xs)) (hl : xs.length ≤ 4096) : LimbsAt w v xs := by
  obtain ⟨_, h2⟩ := h
  rcases h2 with ⟨rfl, h0⟩ | ⟨g, cap, cur, rfl, _, hh, hn, hcap, hs, ht⟩
  · have : xs = [] := List.eq_nil_of_length_eq_zero h0
    subst this
    exact LimbsAt.nil w
  · refine ⟨_, cap, rfl, hl, ⟨hn, by unfold maxLen at hcap; omega, fun e => by cases e⟩, fun _ => ⟨g, 0, rfl, ⟨(Array.getElem?_eq_some_iff.1 hh).1, _, _, hh⟩, fun i hi => ?_⟩⟩
    rw [Nat.zero_add, cell_of_row w g i cur _ (0, 0) hh]
    have h3 : (cur.toList.take (xs.length * 1))[i]? = (limbs xs)[i]? := by rw [ht]
    rw [List.getElem?_take, if_pos (by omega)] at h3
    simpa [limbs, List.getD, hi] using h3

/-- Limbs lie in no variable that holds a big number. -/
theorem LimbsAt.box {w w' : World} {v : Value} {xs : List Nat} {ty q n c : Nat} {b : Bool} {ao : Option Addr} (h : LimbsAt w v xs) (hq : w.heap[q]? = some (.cells #[.bool b, .slice ao n c] ty (0, 0))) (hs : w.heap.size ≤ w'.heap.size) (hk : ∀ k, k ≠ q → w'.heap[k]? = w.heap[k]?) : LimbsAt w' v xs := by
  obtain ⟨a, cap, hv, hl, hm, hc⟩ := h
  refine ⟨a, cap, hv, hl, hm, fun hne => ?_⟩
  obtain ⟨bk, off, ha, ⟨hlt, cs, fz, ht⟩, hcell⟩ := hc hne
  have hne2 : bk ≠ q := by
    rintro rfl
    have h0 := hcell 0 (by cases xs with | nil => exact absurd rfl hne | cons _ _ => simp)
    unfold World.cell? at h0
    simp only [hq, Nat.add_zero] at h0
    rcases off with _ | _ | off
    · simp at h0
    · simp at h0
    · simp at h0
  refine ⟨bk, off, ha, ⟨Nat.lt_of_lt_of_le hlt hs, cs, fz, (hk bk hne2).trans ht⟩, fun i hi => ?_⟩
  rw [World.cell?_of_block (w := w) (a := ⟨bk, off + i, none⟩) (hk bk hne2)]
  exact hcell i hi
/-- Limbs lie in no row of bytes. -/
theorem LimbsAt.grown {w w' : World} {v : Value} {xs : List Nat} {row : Option Nat} (h : LimbsAt w v xs) (hg : w.grownBy w' row) (hr : ∀ g, row = some g → ∃ cs fz, w.heap[g]? = some (.cells cs 5 fz)) : LimbsAt w' v xs := by
  obtain ⟨a, cap, hv, hl, hm, hc⟩ := h
  refine ⟨a, cap, hv, hl, hm, fun hne => ?_⟩
  obtain ⟨bk, off, ha, ⟨hlt, cs, fz, ht⟩, hcell⟩ := hc hne
  have hk := hg.block bk hlt (fun e => by
    obtain ⟨cs2, fz2, h2⟩ := hr bk e.symm
    rw [ht] at h2
    injection h2 with h2
    injection h2 with _ h3
    revert h3
    decide)
  refine ⟨bk, off, ha, ⟨Nat.lt_of_lt_of_le hlt hg.size, cs, fz, hk.trans ht⟩, fun i hi => ?_⟩
  rw [World.cell?_of_block (w := w) (a := ⟨bk, off + i, none⟩) hk]
  exact hcell i hi
theorem limbs_one (w : World) (n : Nat) : LimbsAt (w.alloc (.cells #[.int .u64 (n : Int)] 139)) (.slice (some ⟨w.heap.size, 0, none⟩) 1 1) [n] := by
  have hh := heap_alloc_new w (.cells #[.int .u64 (n : Int)] 139)
  refine ⟨_, 1, rfl, by simp, ⟨by simp, by omega, fun e => by cases e⟩, fun _ => ⟨_, 0, rfl, ⟨by simp, _, _, hh⟩, fun i hi => ?_⟩⟩
  have : i = 0 := by simpa using hi
  subst this
  simp only [World.cell?, hh]
  rfl

/-- A big number: its sign, its limbs. -/
def BigAt (w : World) (v : Value) (below : Bool) (xs : List Nat) : Prop := ∃ u, v = .agg #[.bool below, u] ∧ LimbsAt w u xs
theorem BigAt.mono {w w' : World} {v : Value} {below : Bool} {xs : List Nat} (h : BigAt w v below xs) (hb : Below w.heap.size w w') : BigAt w' v below xs := by
  obtain ⟨u, rfl, hu⟩ := h
  exact ⟨u, rfl, hu.mono hb⟩
/-- A variable of two cells. -/
theorem cell_box2 {w : World} {ty q : Nat} {x0 x1 : Value} (h : w.heap[q]? = some (.cells #[x0, x1] ty (0, 0))) :
    w.cell? ⟨q, 0, none⟩ = some x0 ∧ w.cell? ⟨q, 1, none⟩ = some x1 ∧ w.frozen? ⟨q, 0, none⟩ = false ∧ w.frozen? ⟨q, 1, none⟩ = false := by
  simp [World.cell?, World.frozen?, h]

/-- A region that draws its order, all but its last operations being still: the draw under its own name. -/
theorem still_drew {P : Program} {id : Nat} {Q : Exit → Act → World → Prop} {a : Act} {w : World} {l : List Oper} (n : Nat) (hm : P.follows .mixedOrders = true) (hB : Region.lexTailB .any l.toArray n = true)
    (h : wpStill P l.toArray w.drew (fun a' => wpList P l.toArray Q (l.drop n) a' w.drew) (l.take n) a) : (Code.region id l.toArray true).wp P Q a w := wp_region_still_tail n hm hB h
theorem ret_bool {a b : Bool} (h : a = b) : Ending.returned (.bool a) = .returned (.bool b) := by rw [h]
theorem ret_int {a b : Int} (h : a = b) : Ending.returned (.int .i64 a) = .returned (.int .i64 b) := by rw [h]
theorem own_keep {w w' : World} {base e size n : Nat} {v : Value} {xs : List Value} (h : w.ownsRow base e size v n xs) (hk : ∀ k, base ≤ k → k < w.heap.size → w'.heap[k]? = w.heap[k]?) : w'.ownsRow base e size v n xs := by
  refine ⟨h.1, ?_⟩
  rcases h.2 with h2 | ⟨g, cap, cur, hv, hg, hh, r⟩
  · exact .inl h2
  · exact .inr ⟨g, cap, cur, hv, hg, (hk g hg (Array.getElem?_eq_some_iff.1 hh).1).trans hh, r⟩
theorem own_below {w w' : World} {base e size n : Nat} {v : Value} {xs : List Value} (h : w.ownsRow base e size v n xs) (hb : Below w.heap.size w w') : w'.ownsRow base e size v n xs :=
  own_keep h fun k _ hk => hb.block k hk
theorem ownsRow_block {w : World} {base e size g n : Nat} {xs : List Value} (h : w.ownsRow base e size (.slice (some ⟨g, 0, none⟩) n n) n xs) : w.heap[g]? = some (.cells xs.toArray e (0, 0)) := by
  obtain ⟨_, h2⟩ := h
  rcases h2 with ⟨h0, _⟩ | ⟨g', cap, cur, hv, _, hh, _, _, hs, ht⟩
  · cases h0
  · cases hv
    rw [hh]
    congr 2
    rw [← ht, ← hs, ← Array.length_toList, List.take_length]
theorem Tryz.info139 : (Tryz.prog.info? 139).map (fun i => (i.zero, i.size, i.bytes)) = some (some (.int .u64 0), 1, 8) := by kernel_rfl
/-- A text. -/
abbrev str (l : List UInt8) : Value := .string ⟨l.toArray⟩

end Go.Proofs.YtpbipngnoklmcaaGreatDoor
namespace Go.Proofs.YtpbipngnoklmcaaGreatDoor
open Go.RowKit

theorem str_size (l : List UInt8) : (ByteArray.mk l.toArray).size = l.length := by show l.toArray.size = _; simp
theorem str_toList (l : List UInt8) : (ByteArray.mk l.toArray).toList = l := by rw [Lib.toList_data]
theorem str_get (l : List UInt8) (i : Nat) (h : i < (ByteArray.mk l.toArray).size) : (ByteArray.mk l.toArray)[i]'h = l[i]?.getD 0 := by
  have hl : i < l.length := by rw [← str_size]; exact h
  simp only [List.getElem?_eq_getElem hl, Option.getD_some]
  rfl
theorem str_add {P : Program} {w : World} (x y : List UInt8) (h : x.length + y.length ≤ 9223372036854775807) : (Op.stringOp .add (ByteArray.mk x.toArray) (ByteArray.mk y.toArray)).run P w = .ok (.string ⟨(x ++ y).toArray⟩) w := by
  rw [run_string_add_sum w _ _ (by rw [str_size, str_size]; exact h), ByteArray.mk_append_mk]

def TabW (w : World) : Prop := Lib.TabIs Tryz.prog w "internal/strconv.uint64pow10" .u64 Lib.pow10Tab
theorem TabW.mono {w w' : World} (h : TabW w) (hb : Below w.heap.size w w') : TabW w' := by
  unfold TabW Lib.TabIs World.var? at h ⊢
  cases hg : Tryz.prog.globalNamed "internal/strconv.uint64pow10" with
  | none => simp [hg] at h
  | some g =>
    simp only [hg, Option.bind_some] at h ⊢
    have hlt : g < w.heap.size := by
      rcases Nat.lt_or_ge g w.heap.size with h' | h'
      · exact h'
      · simp [Array.getElem?_eq_none h'] at h
    rw [hb.block g hlt]
    exact h

end Go.Proofs.YtpbipngnoklmcaaGreatDoor
