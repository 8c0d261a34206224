/- Predicates on memory for the walks over numbers: slices of limbs, read in a world; big numbers. No condition. An append to a row of the call's own, with word of where the row lies behind it: where it lay, or in a new block. The walk of trim: no noughts on top. The walk of plus: the sum without signs. The walk of minus: the difference without signs. The walk of size: big numbers compared without signs. The walk of sum: the sum with signs. Limbs in a block of the call's own. The walk of turned: the other sign. -/
import Derived.Test.YtgbalofdfdafmaaDoorProg
import Derived.Test.YtgbalofdfdafmaaDoorMp
import Derived.WalkKit
import Derived.WalkSpells
import Derived.WalkLawsBesides
import Derived.BigQuiet
import Derived.Deep.QuietTactic
import Derived.Deep.LoopGhost
import Derived.Deep.Cut
import Derived.Deep.CutRange
import Derived.Lib.Hide
import Derived.Laws.AppendOwnNone
import Derived.Laws.MakeOwn
import Derived.StillTailTactics
import Derived.Deep.RegionHeld3
namespace Go.Proofs.YtgbalofdfdafmaaDoor
open Go.RowKit

/-- v is a slice (perhaps nil) of limbs xs. -/
def LimbsAt (w : World) (v : Value) (xs : List Nat) : Prop :=
  ∃ (ao : Option Addr) (cap : Nat), v = .slice ao xs.length cap ∧ xs.length ≤ 4096 ∧ (xs.length ≤ cap ∧ cap ≤ 9223372036854775807 ∧ (ao = none → cap = 0)) ∧
    (xs ≠ [] → ∃ b off, ao = some ⟨b, off, none⟩ ∧ (b < w.heap.size ∧ ∃ cs fz, w.heap[b]? = some (.cells cs 92 fz)) ∧ ∀ i, i < xs.length → w.cell? ⟨b, off + i, none⟩ = some (.int .u64 ((xs.getD i 0 : Nat) : Int)))

theorem LimbsAt.mono {w w' : World} {v : Value} {xs : List Nat} (h : LimbsAt w v xs) (hb : Below w.heap.size w w') : LimbsAt w' v xs := by
  obtain ⟨ao, cap, hv, hl, hm, hc⟩ := h
  refine ⟨ao, cap, hv, hl, hm, fun hne => ?_⟩
  obtain ⟨b, off, ha, hlt, hcell⟩ := hc hne
  obtain ⟨hlt, cs, fz, ht⟩ := hlt
  exact ⟨b, off, ha, ⟨Nat.lt_of_lt_of_le hlt hb.size, cs, fz, (hb.block b hlt).trans ht⟩, fun i hi => (hb.cell (p := ⟨b, off + i, none⟩) hlt).trans (hcell i hi)⟩
theorem LimbsAt.get {w : World} {ao : Option Addr} {n cap : Nat} {xs : List Nat} (h : LimbsAt w (.slice ao n cap) xs) {i : Nat} (hi : i < xs.length) : ∃ b off, ao = some ⟨b, off, none⟩ ∧ b < w.heap.size ∧ w.cell? ⟨b, off + i, none⟩ = some (.int .u64 ((xs.getD i 0 : Nat) : Int)) := by
  obtain ⟨ao', cap', hv, hl, hm, hc⟩ := h
  cases hv
  obtain ⟨b, off, ha, hb, hcell⟩ := hc (by intro e; simp [e] at hi)
  exact ⟨b, off, ha, hb.1, hcell i hi⟩
theorem LimbsAt.val {w : World} {v : Value} {xs : List Nat} (h : LimbsAt w v xs) : ∃ ao cap, v = .slice ao xs.length cap ∧ xs.length ≤ 4096 ∧ xs.length ≤ cap ∧ cap ≤ 9223372036854775807 := by
  obtain ⟨ao, cap, hv, hl, hm, _⟩ := h
  exact ⟨ao, cap, hv, hl, hm.1, hm.2.1⟩
theorem LimbsAt.nil (w : World) : LimbsAt w (.slice none 0 0) [] := ⟨none, 0, rfl, by simp, by simp, fun h => absurd rfl h⟩
theorem LimbsAt.cut {w : World} {ao : Option Addr} {n cap : Nat} {xs : List Nat} (h : LimbsAt w (.slice ao n cap) xs) (k : Nat) (hk : k ≤ xs.length) : LimbsAt w (.slice ao k cap) (xs.take k) := by
  obtain ⟨ao', cap', hv, hl, hm, hc⟩ := h
  cases hv
  have e : (xs.take k).length = k := by rw [List.length_take, Nat.min_eq_left hk]
  refine ⟨ao, cap, by rw [e], by omega, ⟨by omega, hm.2⟩, fun hne => ?_⟩
  obtain ⟨b, off, ha, hb, hcell⟩ := hc (by intro h0; subst h0; simp at hne)
  refine ⟨b, off, ha, hb, fun i hi => ?_⟩
  have hik : i < k := by omega
  have e2 : (xs.take k).getD i 0 = xs.getD i 0 := by simp [List.getD, hik]
  rw [e2]
  exact hcell i (by omega)
def limbs (xs : List Nat) : List Value := xs.map fun n : Nat => Value.int .u64 (n : Int)
theorem limbs_len (xs : List Nat) : (limbs xs).length = xs.length := by simp [limbs]
theorem limbs_snoc (xs : List Nat) (x : Nat) : limbs (xs ++ [x]) = limbs xs ++ [.int .u64 (x : Int)] := by simp [limbs]
/-- What the call owns reads as limbs. -/
theorem limbs_of_own {w : World} {base : Nat} {v : Value} {xs : List Nat} (h : w.ownsRow base 92 1 v xs.length (limbs xs)) (hl : xs.length ≤ 4096) : LimbsAt w v xs := by
  obtain ⟨_, h2⟩ := h
  rcases h2 with ⟨rfl, h0⟩ | ⟨g, cap, cur, rfl, _, hh, hn, hcap, hs, ht⟩
  · have : xs = [] := List.eq_nil_of_length_eq_zero h0
    subst this
    exact LimbsAt.nil w
  · refine ⟨_, cap, rfl, hl, ⟨hn, by unfold maxLen at hcap; omega, fun e => by cases e⟩, fun _ => ⟨g, 0, rfl, ⟨(Array.getElem?_eq_some_iff.1 hh).1, _, _, hh⟩, fun i hi => ?_⟩⟩
    rw [Nat.zero_add, cell_of_row w g i cur _ (0, 0) hh]
    have h3 : (cur.toList.take (xs.length * 1))[i]? = (limbs xs)[i]? := by rw [ht]
    rw [List.getElem?_take, if_pos (by omega)] at h3
    simpa [limbs, List.getD, hi] using h3

/-- Limbs lie in no variable that holds a big number. -/
theorem LimbsAt.box {w w' : World} {v : Value} {xs : List Nat} {ty q n c : Nat} {b : Bool} {ao : Option Addr} (h : LimbsAt w v xs) (hq : w.heap[q]? = some (.cells #[.bool b, .slice ao n c] ty (0, 0))) (hs : w.heap.size ≤ w'.heap.size) (hk : ∀ k, k ≠ q → w'.heap[k]? = w.heap[k]?) : LimbsAt w' v xs := by
  obtain ⟨a, cap, hv, hl, hm, hc⟩ := h
  refine ⟨a, cap, hv, hl, hm, fun hne => ?_⟩
  obtain ⟨bk, off, ha, ⟨hlt, cs, fz, ht⟩, hcell⟩ := hc hne
  have hne2 : bk ≠ q := by
    rintro rfl
    have h0 := hcell 0 (by cases xs with | nil => exact absurd rfl hne | cons _ _ => simp)
    unfold World.cell? at h0
    simp only [hq, Nat.add_zero] at h0
    rcases off with _ | _ | off
    · simp at h0
    · simp at h0
    · simp at h0
  refine ⟨bk, off, ha, ⟨Nat.lt_of_lt_of_le hlt hs, cs, fz, (hk bk hne2).trans ht⟩, fun i hi => ?_⟩
  rw [World.cell?_of_block (w := w) (a := ⟨bk, off + i, none⟩) (hk bk hne2)]
  exact hcell i hi
/-- Limbs lie in no row of bytes. -/
theorem LimbsAt.grown {w w' : World} {v : Value} {xs : List Nat} {row : Option Nat} (h : LimbsAt w v xs) (hg : w.grownBy w' row) (hr : ∀ g, row = some g → ∃ cs fz, w.heap[g]? = some (.cells cs 5 fz)) : LimbsAt w' v xs := by
  obtain ⟨a, cap, hv, hl, hm, hc⟩ := h
  refine ⟨a, cap, hv, hl, hm, fun hne => ?_⟩
  obtain ⟨bk, off, ha, ⟨hlt, cs, fz, ht⟩, hcell⟩ := hc hne
  have hk := hg.block bk hlt (fun e => by
    obtain ⟨cs2, fz2, h2⟩ := hr bk e.symm
    rw [ht] at h2
    injection h2 with h2
    injection h2 with _ h3
    revert h3
    decide)
  refine ⟨bk, off, ha, ⟨Nat.lt_of_lt_of_le hlt hg.size, cs, fz, hk.trans ht⟩, fun i hi => ?_⟩
  rw [World.cell?_of_block (w := w) (a := ⟨bk, off + i, none⟩) hk]
  exact hcell i hi
theorem limbs_one (w : World) (n : Nat) : LimbsAt (w.alloc (.cells #[.int .u64 (n : Int)] 92)) (.slice (some ⟨w.heap.size, 0, none⟩) 1 1) [n] := by
  have hh := heap_alloc_new w (.cells #[.int .u64 (n : Int)] 92)
  refine ⟨_, 1, rfl, by simp, ⟨by simp, by omega, fun e => by cases e⟩, fun _ => ⟨_, 0, rfl, ⟨by simp, _, _, hh⟩, fun i hi => ?_⟩⟩
  have : i = 0 := by simpa using hi
  subst this
  simp only [World.cell?, hh]
  rfl

/-- A big number: its sign, its limbs. -/
def BigAt (w : World) (v : Value) (below : Bool) (xs : List Nat) : Prop := ∃ u, v = .agg #[.bool below, u] ∧ LimbsAt w u xs
theorem BigAt.mono {w w' : World} {v : Value} {below : Bool} {xs : List Nat} (h : BigAt w v below xs) (hb : Below w.heap.size w w') : BigAt w' v below xs := by
  obtain ⟨u, rfl, hu⟩ := h
  exact ⟨u, rfl, hu.mono hb⟩
/-- A variable of two cells. -/
theorem cell_box2 {w : World} {ty q : Nat} {x0 x1 : Value} (h : w.heap[q]? = some (.cells #[x0, x1] ty (0, 0))) :
    w.cell? ⟨q, 0, none⟩ = some x0 ∧ w.cell? ⟨q, 1, none⟩ = some x1 ∧ w.frozen? ⟨q, 0, none⟩ = false ∧ w.frozen? ⟨q, 1, none⟩ = false := by
  simp [World.cell?, World.frozen?, h]

/-- A region that draws its order, all but its last operations being still: the draw under its own name. -/
theorem still_drew {P : Program} {id : Nat} {Q : Exit → Act → World → Prop} {a : Act} {w : World} {l : List Oper} (n : Nat) (hm : P.follows .mixedOrders = true) (hB : Region.lexTailB .any l.toArray n = true)
    (h : wpStill P l.toArray w.drew (fun a' => wpList P l.toArray Q (l.drop n) a' w.drew) (l.take n) a) : (Code.region id l.toArray true).wp P Q a w := wp_region_still_tail n hm hB h
theorem ret_bool {a b : Bool} (h : a = b) : Ending.returned (.bool a) = .returned (.bool b) := by rw [h]
theorem ret_int {a b : Int} (h : a = b) : Ending.returned (.int .i64 a) = .returned (.int .i64 b) := by rw [h]
theorem own_keep {w w' : World} {base e size n : Nat} {v : Value} {xs : List Value} (h : w.ownsRow base e size v n xs) (hk : ∀ k, base ≤ k → k < w.heap.size → w'.heap[k]? = w.heap[k]?) : w'.ownsRow base e size v n xs := by
  refine ⟨h.1, ?_⟩
  rcases h.2 with h2 | ⟨g, cap, cur, hv, hg, hh, r⟩
  · exact .inl h2
  · exact .inr ⟨g, cap, cur, hv, hg, (hk g hg (Array.getElem?_eq_some_iff.1 hh).1).trans hh, r⟩
theorem own_below {w w' : World} {base e size n : Nat} {v : Value} {xs : List Value} (h : w.ownsRow base e size v n xs) (hb : Below w.heap.size w w') : w'.ownsRow base e size v n xs :=
  own_keep h fun k _ hk => hb.block k hk
theorem ownsRow_block {w : World} {base e size g n : Nat} {xs : List Value} (h : w.ownsRow base e size (.slice (some ⟨g, 0, none⟩) n n) n xs) : w.heap[g]? = some (.cells xs.toArray e (0, 0)) := by
  obtain ⟨_, h2⟩ := h
  rcases h2 with ⟨h0, _⟩ | ⟨g', cap, cur, hv, _, hh, _, _, hs, ht⟩
  · cases h0
  · cases hv
    rw [hh]
    congr 2
    rw [← ht, ← hs, ← Array.length_toList, List.take_length]
theorem Tryd.info92 : (Tryd.prog.info? 92).map (fun i => (i.zero, i.size, i.bytes)) = some (some (.int .u64 0), 1, 8) := by kernel_rfl
/-- A text. -/
abbrev str (l : List UInt8) : Value := .string ⟨l.toArray⟩

end Go.Proofs.YtgbalofdfdafmaaDoor
namespace Go.Proofs.YtgbalofdfdafmaaDoor
open Go.RowKit

theorem run_append_fresh {P : Program} (w : World) (base : Nat) (t ty e : TypeId) (i : TypeInfo) (z : Value) (size bytes : Nat) (ht : P.underlying t = some (.slice e)) (hi : P.info? e = some i) (hz : i.zero = some z)
    (hsize : i.size = size) (hby : i.bytes = bytes) (hzs : z.cells.size = size) (hsz : 0 < size)
    (v : Value) (n : Nat) (xs : List Value) (hown : w.ownsRow base e size v n xs)
    (a : Addr) (m c : Nat) (news : List Value) (hl : news.length = m * size) (hnews : ∀ j u, news[j]? = some u → w.cell? (a.add j) = some u) (h1 : ∀ u ∈ news, u.oneCell' = true)
    (h63 : n + m ≤ maxLen) (hbytes : (n + m) * bytes ≤ 140737488355328) (hbase : base ≤ w.heap.size) :
    ∃ v' w', (Builtin.append_ #[t, t] ty #[v, .slice (some a) m c]).run P w = .ok v' w' ∧ w'.ownsRow base e size v' (n + m) (xs ++ news) ∧ w.grownBy w' v.ownBlock ∧
      (v'.ownBlock = v.ownBlock ∨ v'.ownBlock = some w.heap.size) := by
  obtain ⟨v', w', hr, h2, h3, h4⟩ := run_append_own (P := P) w base t ty e i z size bytes ht hi hz hsize hby hzs hsz v n xs hown a m c news hl hnews h1 h63 hbytes hbase
  refine ⟨v', w', hr, h2, h3, ?_⟩
  subst hsize hby
  have hsmall : n + m ≤ 9223372036854775807 := by simp only [maxLen] at h63; omega
  rcases hown.2 with ⟨rfl, rfl⟩ | ⟨g, cap, cur, rfl, hbg, hg, hnc, hcm, hcs, htake⟩
  · by_cases hm : m = 0
    · left; rw [h4.2 ⟨rfl, hm⟩]
    · have hr' := run_append_nil (P := P) w t ty e i z ht hi hz a m c news hl hnews (by omega) (by omega) (by have hb := hbytes; simp only [Nat.zero_add] at hb; omega)
      rw [hr'] at hr
      simp only [Result.ok.injEq] at hr
      right; rw [← hr.1]; rfl
  · by_cases hroom : n + m ≤ cap
    · have hfit : n * i.size + news.length ≤ cur.size := by rw [hl, hcs, ← Nat.add_mul]; exact Nat.mul_le_mul_right _ hroom
      have hr' := run_append_room (P := P) w t ty e i ht hi g n cap cur hg a m c news hl hnews h1 hroom hfit
      rw [hr'] at hr
      simp only [Result.ok.injEq] at hr
      left; rw [← hr.1]; rfl
    · have holds : ∀ j u, xs[j]? = some u → w.cell? ((⟨g, 0, none⟩ : Addr).add j) = some u := hown.cells (g := g) rfl
      have hr' := run_append_grow (P := P) w t ty e i z ht hi hz ⟨g, 0, none⟩ n cap xs hown.1 holds a m c news hl hnews (by omega) (by omega) (growslice_fits (by omega) hbytes)
      rw [hr'] at hr
      simp only [Result.ok.injEq] at hr
      right; rw [← hr.1]; rfl

theorem wpList_append_fresh {P : Program} (w : World) {ops : Array Oper} {rest : List Oper} {o : Oper} {a : Act} {Q : Exit → Act → World → Prop} (hgd : o.guard = none) (s x : Operand) (t : TypeId)
    (ho : o.op = .call { callee := .builtin .append, args := #[s, x], argTypes := #[t, t] })
    (base : Nat) (e : TypeId) (i : TypeInfo) (z : Value) (size bytes : Nat) (ht : P.underlying t = some (.slice e)) (hi : P.info? e = some i) (hz : i.zero = some z)
    (hsize : i.size = size) (hby : i.bytes = bytes) (hzs : z.cells.size = size) (hsz : 0 < size)
    (v : Value) (n : Nat) (xs : List Value) (hs : a.eval s = v) (hown : w.ownsRow base e size v n xs)
    (ad : Addr) (m c : Nat) (news : List Value) (hx : a.eval x = .slice (some ad) m c) (hl : news.length = m * size) (hnews : ∀ j u, news[j]? = some u → w.cell? (ad.add j) = some u) (h1 : ∀ u ∈ news, u.oneCell' = true)
    (h63 : n + m ≤ maxLen) (hbytes : (n + m) * bytes ≤ 140737488355328) (hbase : base ≤ w.heap.size)
    (h : ∀ v' w', w'.ownsRow base e size v' (n + m) (xs ++ news) → w.grownBy w' v.ownBlock → (v'.ownBlock = v.ownBlock ∨ v'.ownBlock = some w.heap.size) → wpList P ops Q rest (a.put o.dst v') w') : wpList P ops Q (o :: rest) a w := by
  refine wpList_plain hgd fun K hK => ?_
  obtain ⟨v', w', hr, h2, h3, h4⟩ := run_append_fresh (P := P) w base t o.type e i z size bytes ht hi hz hsize hby hzs hsz v n xs hown ad m c news hl hnews h1 h63 hbytes hbase
  unfold Oper.wp execOp
  simp only [ho, resolve, invoke, builtin, Sem.run_bind, Sem.run_pure, Result.andThen_ok, List.map_toArray, List.map_cons, List.map_nil, hs, hx, hr]
  exact hK _ _ (h v' w' h2 h3 h4)

end Go.Proofs.YtgbalofdfdafmaaDoor
namespace Go.Proofs.YtgbalofdfdafmaaDoor
open Go.RowKit
set_option maxRecDepth 100000

/-- What a call that makes a big number leaves. -/
def BigPost (below : Bool) (xs : List Nat) (w : World) (e : Ending) (w' : World) : Prop := ∃ v, e = .returned v ∧ BigAt w' v below xs ∧ Below w.heap.size w w'

/-- A cell of a variable of two is set. -/
theorem set_box2 {w : World} {ty q : Nat} {x0 x1 : Value} (h : w.heap[q]? = some (.cells #[x0, x1] ty (0, 0))) (a1 : Value) :
    ∃ w6, w6 = w.setCell ⟨q, 1, none⟩ a1 ∧ w6.heap[q]? = some (.cells #[x0, a1] ty (0, 0)) ∧ w6.heap.size = w.heap.size ∧ (∀ k, k ≠ q → w6.heap[k]? = w.heap[k]?) ∧ ∀ (b : Nat) (wb : World), b ≤ q → Below b wb w → Below b wb w6 := by
  refine ⟨_, rfl, ?_, by simp, fun k hk => Below.heap_setCell _ _ _ _ hk, fun b wb hq hb => hb.setCell hq _⟩
  simp [World.setCell, Array.getElem?_modify, h]
theorem set_box2' {w : World} {ty q : Nat} {x0 x1 : Value} (h : w.heap[q]? = some (.cells #[x0, x1] ty (0, 0))) (a0 : Value) :
    ∃ w6, w6 = w.setCell ⟨q, 0, none⟩ a0 ∧ w6.heap[q]? = some (.cells #[a0, x1] ty (0, 0)) ∧ w6.heap.size = w.heap.size ∧ (∀ k, k ≠ q → w6.heap[k]? = w.heap[k]?) ∧ ∀ (b : Nat) (wb : World), b ≤ q → Below b wb w → Below b wb w6 := by
  refine ⟨_, rfl, ?_, by simp, fun k hk => Below.heap_setCell _ _ _ _ hk, fun b wb hq hb => hb.setCell hq _⟩
  simp [World.setCell, Array.getElem?_modify, h]

set_option maxHeartbeats 1600000 in
theorem trim_any (below : Bool) (ao : Option Addr) (cap : Nat) (xs : List Nat) (w : World) (h : LimbsAt w (.slice ao xs.length cap) xs) :
    Calls Tryd.prog 77 #[.agg #[.bool below, .slice ao xs.length cap]] w (BigPost (below && !(trimL xs).isEmpty) (trimL xs) w) := by
  have HL := Lib.hid h
  have hlen : xs.length ≤ 4096 := by obtain ⟨_, _, _, h1, _⟩ := h; exact h1
  obtain ⟨w0, hw0⟩ : ∃ w0, w0 = (w.alloc (.cells #[.bool below, .slice ao xs.length cap] 78)).alloc (.cells #[.bool false, .slice none 0 0] 78) := ⟨_, rfl⟩
  have hs0 : w0.heap.size = w.heap.size + 2 := by rw [hw0]; simp
  have hb0 : Below w.heap.size w w0 := by rw [hw0]; exact ((Below.refl _ w).alloc (Nat.le_refl _) _).alloc (by simp) _
  have hx0 : w0.heap[w.heap.size]? = some (.cells #[.bool below, .slice ao xs.length cap] 78 (0, 0)) := by
    rw [hw0]; exact (Below.heap_alloc _ _ _ (by simp)).trans (heap_alloc_new _ _)
  have hr0 : w0.heap[w.heap.size + 1]? = some (.cells #[.bool false, .slice none 0 0] 78 (0, 0)) := by
    have := heap_alloc_new (w.alloc (.cells #[.bool below, .slice ao xs.length cap] 78)) (.cells #[.bool false, .slice none 0 0] 78)
    rw [hw0]
    rwa [show (w.alloc (.cells #[.bool below, .slice ao xs.length cap] 78)).heap.size = w.heap.size + 1 by simp] at this
  clear h
  go_enter Tryd.func77, Tryd.ntmps77
  go_wp2
  rw [← hw0]
  clear hw0
  go_loopg [3] xs.length (fun g _ wr => g ≤ xs.length ∧ trimL (xs.take g) = trimL xs ∧ wr.heap[w.heap.size]? = some (.cells #[.bool below, .slice ao g cap] 78 (0, 0)) ∧ wr.heap[w.heap.size + 1]? = some (.cells #[.bool false, .slice none 0 0] 78 (0, 0)) ∧ Below w.heap.size w wr)
  case atStart => exact ⟨Nat.le_refl _, by rw [List.take_length], hx0, hr0, hb0⟩
  case round =>
    obtain ⟨hg, ht, hx, hr, hb⟩ := hrel
    obtain ⟨y0, y1, z0, z1⟩ := cell_box2 hx
    cases gk with
    | zero =>
      have htt : trimL xs = xs.take 0 := by rw [← ht]; rfl
      cases below with
      | false =>
        have hbb : (false && !(trimL xs).isEmpty) = false := rfl
        obtain ⟨w1, hw1, hx1, hz1, hk1, hB1⟩ := set_box2' hx (.bool false)
        have hr1 := (hk1 (w.heap.size + 1) (by omega)).trans hr
        obtain ⟨w2, hw2, hr2, hz2, hk2, hB2⟩ := set_box2' hr1 (.bool false)
        obtain ⟨w3, hw3, hr3, hz3, hk3, hB3⟩ := set_box2 hr2 (.slice ao 0 cap)
        have hb3 := hB3 _ _ (Nat.le_succ _) (hB2 _ _ (Nat.le_succ _) (hB1 _ _ (Nat.le_refl _) hb))
        obtain ⟨q0, q1, _, _⟩ := cell_box2 hr3
        obtain ⟨c0, c1, o0, o1⟩ := cell_box2 hr
        have HW1 := Lib.hid hw1
        have HW2 := Lib.hid hw2
        have HW3 := Lib.hid hw3
        have hLk := (HL.out.cut 0 (by omega)).mono hb3
        have HTT := Lib.hid htt
        have HBB := Lib.hid hbb
        clear hx hr hb hx1 hr1 hr2 hr3 hk1 hk2 hk3 hB1 hB2 hB3 ht htt hbb hw1 hw2 hw3
        go_wp2
        rw [← HW1.out, ← HW2.out, ← HW3.out]
        refine bodyPost_ret (v := .agg #[.bool false, .slice ao 0 cap]) (by simp [results, go_sem, q0, q1]) rfl ?_
        exact ⟨_, rfl, ⟨_, by rw [HBB.out], by rw [HTT.out]; exact hLk⟩, hb3⟩
      | true =>
        have hbb : (true && !(trimL xs).isEmpty) = false := by rw [htt]; rfl
        obtain ⟨w1, hw1, hx1, hz1, hk1, hB1⟩ := set_box2' hx (.bool false)
        have hr1 := (hk1 (w.heap.size + 1) (by omega)).trans hr
        obtain ⟨w2, hw2, hr2, hz2, hk2, hB2⟩ := set_box2' hr1 (.bool false)
        obtain ⟨w3, hw3, hr3, hz3, hk3, hB3⟩ := set_box2 hr2 (.slice ao 0 cap)
        have hb3 := hB3 _ _ (Nat.le_succ _) (hB2 _ _ (Nat.le_succ _) (hB1 _ _ (Nat.le_refl _) hb))
        obtain ⟨q0, q1, _, _⟩ := cell_box2 hr3
        obtain ⟨c0, c1, o0, o1⟩ := cell_box2 hr
        have HW1 := Lib.hid hw1
        have HW2 := Lib.hid hw2
        have HW3 := Lib.hid hw3
        have hLk := (HL.out.cut 0 (by omega)).mono hb3
        have HTT := Lib.hid htt
        have HBB := Lib.hid hbb
        clear hx hr hb hx1 hr1 hr2 hr3 hk1 hk2 hk3 hB1 hB2 hB3 ht htt hbb hw1 hw2 hw3
        go_wp2
        rw [← HW1.out, ← HW2.out, ← HW3.out]
        refine bodyPost_ret (v := .agg #[.bool false, .slice ao 0 cap]) (by simp [results, go_sem, q0, q1]) rfl ?_
        exact ⟨_, rfl, ⟨_, by rw [HBB.out], by rw [HTT.out]; exact hLk⟩, hb3⟩
    | succ g =>
      obtain ⟨bl, off, hao, hbl, hc⟩ := HL.out.get (i := g) (by omega)
      have hcw := (hb.cell (p := ⟨bl, off + g, none⟩) hbl).trans hc
      have htk : xs.take (g + 1) = xs.take g ++ [xs.getD g 0] := by
        rw [List.take_add_one]; simp [List.getD, show g < xs.length by omega]
      rw [htk, trimL_snoc] at ht
      obtain ⟨x, hxe⟩ : ∃ x, x = xs.getD g 0 := ⟨_, rfl⟩
      rw [← hxe] at hcw htk ht
      by_cases h0 : x = 0
      · rw [if_pos h0] at ht
        rw [h0] at hcw
        obtain ⟨w1, hw1, hx1, hz1, hk1, hB1⟩ := set_box2 hx (.slice ao g cap)
        have hr1 := (hk1 (w.heap.size + 1) (by omega)).trans hr
        have hb1 := hB1 _ _ (Nat.le_refl _) hb
        have hcap : g + 1 ≤ cap := by obtain ⟨_, _, hv, _, h2, _⟩ := HL.out; cases hv; omega
        subst hao
        clear hxe
        clear hx hr hb hx0 hr0 hb0 htk hc h0 hk1 hB1
        go_wp2_with (rw [← hw1])
        go_roundg g
        case measure => omega
        case rel => exact ⟨by omega, ht, hx1, hr1, hb1⟩
      · rw [if_neg h0, ← htk] at ht
        have htt : trimL xs = xs.take (g + 1) := ht.symm
        have hne : ((x : Int) == 0) = false := by simpa using h0
        have hnx : ¬ (x : Int) = 0 := by omega
        have hemp : (xs.take (g + 1)).isEmpty = false := by rw [htk]; simp
        subst hao
        clear hxe hc htk h0
        cases below with
        | false =>
          have hbb : (false && !(trimL xs).isEmpty) = false := rfl
          obtain ⟨w1, hw1, hx1, hz1, hk1, hB1⟩ := set_box2' hx (.bool false)
          have hr1 := (hk1 (w.heap.size + 1) (by omega)).trans hr
          obtain ⟨w2, hw2, hr2, hz2, hk2, hB2⟩ := set_box2' hr1 (.bool false)
          obtain ⟨w3, hw3, hr3, hz3, hk3, hB3⟩ := set_box2 hr2 (.slice (some ⟨bl, off, none⟩) (g + 1) cap)
          have hb3 := hB3 _ _ (Nat.le_succ _) (hB2 _ _ (Nat.le_succ _) (hB1 _ _ (Nat.le_refl _) hb))
          obtain ⟨q0, q1, _, _⟩ := cell_box2 hr3
          obtain ⟨c0, c1, o0, o1⟩ := cell_box2 hr
          have HW1 := Lib.hid hw1
          have HW2 := Lib.hid hw2
          have HW3 := Lib.hid hw3
          have hLk := (HL.out.cut (g + 1) (by omega)).mono hb3
          have HTT := Lib.hid htt
          have HBB := Lib.hid hbb
          clear hx hr hb hx1 hr1 hr2 hr3 hk1 hk2 hk3 hB1 hB2 hB3 ht htt hbb hw1 hw2 hw3
          go_wp2
          rw [← HW1.out, ← HW2.out, ← HW3.out]
          refine bodyPost_ret (v := .agg #[.bool false, .slice (some ⟨bl, off, none⟩) (g + 1) cap]) (by simp [results, go_sem, q0, q1]) rfl ?_
          exact ⟨_, rfl, ⟨_, by rw [HBB.out], by rw [HTT.out]; exact hLk⟩, hb3⟩
        | true =>
          have hbb : (true && !(trimL xs).isEmpty) = true := by rw [htt, hemp]; rfl
          obtain ⟨w1, hw1, hx1, hz1, hk1, hB1⟩ := set_box2' hx (.bool true)
          have hr1 := (hk1 (w.heap.size + 1) (by omega)).trans hr
          obtain ⟨w2, hw2, hr2, hz2, hk2, hB2⟩ := set_box2' hr1 (.bool true)
          obtain ⟨w3, hw3, hr3, hz3, hk3, hB3⟩ := set_box2 hr2 (.slice (some ⟨bl, off, none⟩) (g + 1) cap)
          have hb3 := hB3 _ _ (Nat.le_succ _) (hB2 _ _ (Nat.le_succ _) (hB1 _ _ (Nat.le_refl _) hb))
          obtain ⟨q0, q1, _, _⟩ := cell_box2 hr3
          obtain ⟨c0, c1, o0, o1⟩ := cell_box2 hr
          have HW1 := Lib.hid hw1
          have HW2 := Lib.hid hw2
          have HW3 := Lib.hid hw3
          have hLk := (HL.out.cut (g + 1) (by omega)).mono hb3
          have HTT := Lib.hid htt
          have HBB := Lib.hid hbb
          clear hx hr hb hx1 hr1 hr2 hr3 hk1 hk2 hk3 hB1 hB2 hB3 ht htt hbb hw1 hw2 hw3
          go_wp2
          rw [← HW1.out, ← HW2.out, ← HW3.out]
          refine bodyPost_ret (v := .agg #[.bool true, .slice (some ⟨bl, off, none⟩) (g + 1) cap]) (by simp [results, go_sem, q0, q1]) rfl ?_
          exact ⟨_, rfl, ⟨_, by rw [HBB.out], by rw [HTT.out]; exact hLk⟩, hb3⟩

end Go.Proofs.YtgbalofdfdafmaaDoor
namespace Go.Proofs.YtgbalofdfdafmaaDoor
open Go.RowKit
set_option maxRecDepth 100000

/-- What a call that makes limbs leaves: their worth. -/
def LimbsPost (v : Nat) (top : Nat) (w : World) (e : Ending) (w' : World) : Prop := ∃ u zs, e = .returned u ∧ LimbsAt w' u zs ∧ okL zs ∧ valL zs = v ∧ zs.length ≤ top ∧ Below w.heap.size w w'

set_option maxHeartbeats 1600000 in
theorem plus_any (bx by_ : Bool) (vx vy : Value) (xs ys : List Nat) (w : World) (hx : LimbsAt w vx xs) (hy : LimbsAt w vy ys) (ox : okL xs) (oy : okL ys) (lx : xs.length ≤ 2000) (ly : ys.length ≤ 2000) :
    Calls Tryd.prog 76 #[.agg #[.bool bx, vx], .agg #[.bool by_, vy]] w (LimbsPost (valL xs + valL ys) (max xs.length ys.length + 1) w) := by
  obtain ⟨ax, cx, rfl, _, _, _⟩ := hx.val
  obtain ⟨ay, cy, rfl, _, _, _⟩ := hy.val
  obtain ⟨i53, hi53, hz53, hs53, hy53⟩ := info_parts Tryd.info92
  obtain ⟨w0, hw0⟩ : ∃ w0, w0 = (w.alloc (.cells #[.bool bx, .slice ax xs.length cx] 78)).alloc (.cells #[.bool by_, .slice ay ys.length cy] 78) := ⟨_, rfl⟩
  have hs0 : w0.heap.size = w.heap.size + 2 := by rw [hw0]; simp
  have hb0 : Below w.heap.size w w0 := by rw [hw0]; exact ((Below.refl _ w).alloc (Nat.le_refl _) _).alloc (by simp) _
  have hx0 : w0.heap[w.heap.size]? = some (.cells #[.bool bx, .slice ax xs.length cx] 78 (0, 0)) := by
    rw [hw0]; exact (Below.heap_alloc _ _ _ (by simp)).trans (heap_alloc_new _ _)
  have hr0 : w0.heap[w.heap.size + 1]? = some (.cells #[.bool by_, .slice ay ys.length cy] 78 (0, 0)) := by
    have := heap_alloc_new (w.alloc (.cells #[.bool bx, .slice ax xs.length cx] 78)) (.cells #[.bool by_, .slice ay ys.length cy] 78)
    rw [hw0]
    rwa [show (w.alloc (.cells #[.bool bx, .slice ax xs.length cx] 78)).heap.size = w.heap.size + 1 by simp] at this
  have HX := Lib.hid hx
  have HY := Lib.hid hy
  have OX := Lib.hid ox
  have OY := Lib.hid oy
  clear hx hy ox oy
  obtain ⟨M, hM⟩ : ∃ M, M = max xs.length ys.length := ⟨_, rfl⟩
  obtain ⟨a0, a1, _, _⟩ := cell_box2 hx0
  obtain ⟨b0, b1, _, _⟩ := cell_box2 hr0
  go_enter Tryd.func76, Tryd.ntmps76
  go_upto_region 3 with (rw [← hw0])
  clear hw0
  go_cut [14, 15] from 8 (fun s14 s15 wx => s14 = .int .i64 (M : Nat) ∧ s15 = .int .i64 0 ∧ wx = w0)
  case first =>
    by_cases hlt : xs.length < ys.length
    · have hm : M = ys.length := by omega
      go_wp2
      go_meet
      exact ⟨by rw [hm], rfl, rfl⟩
    · have hm : M = xs.length := by omega
      go_wp2
      go_meet
      exact ⟨by rw [hm], rfl, rfl⟩
  case rest =>
    obtain ⟨rfl, rfl, rfl⟩ := hcut
    have hxM : xs.length ≤ M := by omega
    have hyM : ys.length ≤ M := by omega
    have HM := Lib.hid hM
    have hM4 : M ≤ 2000 := by omega
    clear hM
    go_wp2
    go_loopg [5, 6, 15] M (fun g v5 v6 v15 wr => ∃ (k c : Nat) (out : List Nat), k + g = M ∧ v15 = .int .i64 k ∧ v6 = .int .u64 c ∧ c ≤ 1 ∧ out.length = k ∧ okL out ∧ valL out + BB ^ k * c = valL (xs.take k) + valL (ys.take k) ∧ wr.ownsRow wc.heap.size 92 1 v5 out.length (limbs out) ∧ Below wc.heap.size wc wr)
    case atStart => exact ⟨0, 0, [], by omega, rfl, rfl, by omega, rfl, okL_nil, by simp [valL], World.ownsRow_nil _ _ _ _, Below.refl _ _⟩
    case round =>
      obtain ⟨k, c, out, hkg, rfl, rfl, hc, hl, ho, hv, hown, hb⟩ := hrel
      obtain ⟨y0, y1, _, _⟩ := cell_box2 ((hb.block _ (by omega)).trans hx0)
      obtain ⟨z0, z1, _, _⟩ := cell_box2 ((hb.block _ (by omega)).trans hr0)
      have hB := hb0.trans (hb.mono hb0.size)
      cases gk with
      | zero =>
        have hkM : ¬ (k : Int) < (M : Int) := by omega
        have hend := plus_end hl ho hc (show xs.length ≤ k by omega) (show ys.length ≤ k by omega) hv
        have HEND := Lib.hid hend
        have hln : out.length + 1 ≤ max xs.length ys.length + 1 := by have := HM.out; omega
        have hl4 : out.length ≤ 2000 := by omega
        clear hend hv hx0 hr0 ho
        go_wp2_with (at_builtin; refine wpList_append_fresh _ rfl (.tmp 50) (.tmp 52) 76 rfl wc.heap.size 92 i53 _ 1 8 Tryd.underlying76 hi53 hz53 hs53 hy53 rfl (by decide) _ _ _ rfl (hown.alloc _) ⟨wr.heap.size, 0, none⟩ 1 1 [.int .u64 (c : Int)] rfl rfl (cell_one_new _ _ _) ?e2 ?e3 ?e4 ?e5 ?_)
        case e2 => first | rfl | (intro u hu; simp at hu; subst hu; rfl)
        case e3 => unfold maxLen; omega
        case e4 => omega
        case e5 => have := hb.size; simp; omega
        intro v' w5 hown5 hgrow5 _
        have hown6 : w5.ownsRow wc.heap.size 92 1 v' (out ++ [c]).length (limbs (out ++ [c])) := by
          rw [limbs_snoc, List.length_append, hl, hs0]; exact hown5
        have hb5 : Below wc.heap.size wc w5 := (hb.alloc hb.size _).grown hgrow5 (by have := hb.size; simp; omega) (fun k e => (hown.lt _ e).1)
        have hB5 := hb0.trans (hb5.mono hb0.size)
        clear hown5 hgrow5 hown hb
        go_wp2
        go_ret
        exact ⟨_, out ++ [c], rfl, limbs_of_own hown6 (by rw [List.length_append, List.length_singleton]; omega), HEND.out.1, HEND.out.2, by rw [List.length_append, List.length_singleton]; exact hln, hB5⟩
      | succ g =>
        have hkM : (k : Int) < (M : Int) := by omega
        have hBB : BB = 1000000000 := rfl
        have hst := plus_step hl ho OX.out OY.out hc hv
        have hX1 := okL_getD OX.out k
        have hY1 := okL_getD OY.out k
        have hxc : k < xs.length → ∃ b off, ax = some ⟨b, off, none⟩ ∧ wr.cell? ⟨b, off + k, none⟩ = some (.int .u64 ((xs.getD k 0 : Nat) : Int)) := fun h => by
          obtain ⟨b, off, h1, h2, h3⟩ := HX.out.get h
          exact ⟨b, off, h1, (hB.cell (p := ⟨b, off + k, none⟩) h2).trans h3⟩
        have hyc : k < ys.length → ∃ b off, ay = some ⟨b, off, none⟩ ∧ wr.cell? ⟨b, off + k, none⟩ = some (.int .u64 ((ys.getD k 0 : Nat) : Int)) := fun h => by
          obtain ⟨b, off, h1, h2, h3⟩ := HY.out.get h
          exact ⟨b, off, h1, (hB.cell (p := ⟨b, off + k, none⟩) h2).trans h3⟩
        have hxn : ¬ k < xs.length → xs.getD k 0 = 0 := fun h => by simp [List.getD, List.getElem?_eq_none (Nat.le_of_not_lt h)]
        have hyn : ¬ k < ys.length → ys.getD k 0 = 0 := fun h => by simp [List.getD, List.getElem?_eq_none (Nat.le_of_not_lt h)]
        generalize xs.getD k 0 = X at hst hX1 hxc hxn
        generalize ys.getD k 0 = Y at hst hY1 hyc hyn
        have HST := Lib.hid hst
        clear hst hv hx0 hr0
        by_cases hkx : k < xs.length
        · by_cases hky : k < ys.length
          · obtain ⟨b1, o1, hax, hcx⟩ := hxc hkx
            have hkx' : (k : Int) < (xs.length : Int) := by omega
            have hcapx : xs.length ≤ cx := by obtain ⟨_, _, hv, _, h2, _⟩ := HX.out; cases hv; omega
            subst hax
            obtain ⟨b2, o2, hay, hcy⟩ := hyc hky
            have hky' : (k : Int) < (ys.length : Int) := by omega
            have hcapy : ys.length ≤ cy := by obtain ⟨_, _, hv, _, h2, _⟩ := HY.out; cases hv; omega
            subst hay
            clear hxc hyc hxn hyn hkx hky
            have hsb : (c + X + Y) < 2147483648 := by omega
            go_upto_region 10 with fail
            rw [show (c : Int) + (X : Int) + (Y : Int) = ((c + X + Y : Nat) : Int) by omega]
            generalize (c + X + Y) = s at HST hsb ⊢
            obtain ⟨r, hr⟩ : ∃ r, s % BB = r := ⟨_, rfl⟩
            obtain ⟨d, hd⟩ : ∃ d, s / BB = d := ⟨_, rfl⟩
            have hmod : ((s : Nat) : Int).tmod 1000000000 = (r : Int) := by rw [← hr, Int.tmod_eq_emod_of_nonneg (by omega)]; rfl
            have hquo : ((s : Nat) : Int).tdiv 1000000000 = (d : Int) := by rw [← hd, Int.tdiv_eq_ediv_of_nonneg (by omega)]; rfl
            have hrb : r < 1000000000 := by rw [← hr]; exact Nat.mod_lt _ (by decide)
            have hdb : d < 2147483648 := by rw [← hd]; exact Nat.lt_of_le_of_lt (Nat.div_le_self _ _) hsb
            rw [hr, hd] at HST
            clear hr hd
            go_wp2_with (at_builtin; refine wpList_append_fresh _ rfl (.tmp 42) (.tmp 45) 76 rfl wc.heap.size 92 i53 _ 1 8 Tryd.underlying76 hi53 hz53 hs53 hy53 rfl (by decide) _ _ _ rfl (hown.alloc _) ⟨wr.heap.size, 0, none⟩ 1 1 [.int .u64 (r : Int)] rfl rfl (cell_one_new _ _ _) ?a2 ?a3 ?a4 ?a5 ?_)
            case a2 => first | rfl | (intro u hu; simp at hu; subst hu; rfl)
            case a3 => unfold maxLen; omega
            case a4 => omega
            case a5 => have := hb.size; simp; omega
            intro v' w5 hown5 hgrow5 _
            have hown6 : w5.ownsRow wc.heap.size 92 1 v' (out ++ [r]).length (limbs (out ++ [r])) := by
              rw [limbs_snoc, List.length_append, hl, hs0]; exact hown5
            have hb5 : Below wc.heap.size wc w5 := (hb.alloc hb.size _).grown hgrow5 (by have := hb.size; simp; omega) (fun k e => (hown.lt _ e).1)
            clear hown5 hgrow5 hown hb
            go_wp2
            go_roundg g
            case measure => omega
            case rel => exact ⟨k + 1, d, out ++ [r], by omega, by go_num, by go_num, HST.out.2.1, by rw [List.length_append, hl]; rfl, HST.out.1, HST.out.2.2, hown6, hb5⟩
          · obtain ⟨b1, o1, hax, hcx⟩ := hxc hkx
            have hkx' : (k : Int) < (xs.length : Int) := by omega
            have hcapx : xs.length ≤ cx := by obtain ⟨_, _, hv, _, h2, _⟩ := HX.out; cases hv; omega
            subst hax
            have hy00 := hyn hky
            have hky' : ¬ (k : Int) < (ys.length : Int) := by omega
            subst hy00
            clear hxc hyc hxn hyn hkx hky
            rw [show c + X + 0 = c + X by omega] at HST
            have hsb : (c + X) < 2147483648 := by omega
            go_upto_region 10 with fail
            rw [show (c : Int) + (X : Int) = ((c + X : Nat) : Int) by omega]
            generalize (c + X) = s at HST hsb ⊢
            obtain ⟨r, hr⟩ : ∃ r, s % BB = r := ⟨_, rfl⟩
            obtain ⟨d, hd⟩ : ∃ d, s / BB = d := ⟨_, rfl⟩
            have hmod : ((s : Nat) : Int).tmod 1000000000 = (r : Int) := by rw [← hr, Int.tmod_eq_emod_of_nonneg (by omega)]; rfl
            have hquo : ((s : Nat) : Int).tdiv 1000000000 = (d : Int) := by rw [← hd, Int.tdiv_eq_ediv_of_nonneg (by omega)]; rfl
            have hrb : r < 1000000000 := by rw [← hr]; exact Nat.mod_lt _ (by decide)
            have hdb : d < 2147483648 := by rw [← hd]; exact Nat.lt_of_le_of_lt (Nat.div_le_self _ _) hsb
            rw [hr, hd] at HST
            clear hr hd
            go_wp2_with (at_builtin; refine wpList_append_fresh _ rfl (.tmp 42) (.tmp 45) 76 rfl wc.heap.size 92 i53 _ 1 8 Tryd.underlying76 hi53 hz53 hs53 hy53 rfl (by decide) _ _ _ rfl (hown.alloc _) ⟨wr.heap.size, 0, none⟩ 1 1 [.int .u64 (r : Int)] rfl rfl (cell_one_new _ _ _) ?a2 ?a3 ?a4 ?a5 ?_)
            case a2 => first | rfl | (intro u hu; simp at hu; subst hu; rfl)
            case a3 => unfold maxLen; omega
            case a4 => omega
            case a5 => have := hb.size; simp; omega
            intro v' w5 hown5 hgrow5 _
            have hown6 : w5.ownsRow wc.heap.size 92 1 v' (out ++ [r]).length (limbs (out ++ [r])) := by
              rw [limbs_snoc, List.length_append, hl, hs0]; exact hown5
            have hb5 : Below wc.heap.size wc w5 := (hb.alloc hb.size _).grown hgrow5 (by have := hb.size; simp; omega) (fun k e => (hown.lt _ e).1)
            clear hown5 hgrow5 hown hb
            go_wp2
            go_roundg g
            case measure => omega
            case rel => exact ⟨k + 1, d, out ++ [r], by omega, by go_num, by go_num, HST.out.2.1, by rw [List.length_append, hl]; rfl, HST.out.1, HST.out.2.2, hown6, hb5⟩
        · by_cases hky : k < ys.length
          · have hx00 := hxn hkx
            have hkx' : ¬ (k : Int) < (xs.length : Int) := by omega
            subst hx00
            obtain ⟨b2, o2, hay, hcy⟩ := hyc hky
            have hky' : (k : Int) < (ys.length : Int) := by omega
            have hcapy : ys.length ≤ cy := by obtain ⟨_, _, hv, _, h2, _⟩ := HY.out; cases hv; omega
            subst hay
            clear hxc hyc hxn hyn hkx hky
            rw [show c + 0 + Y = c + Y by omega] at HST
            have hsb : (c + Y) < 2147483648 := by omega
            go_upto_region 10 with fail
            rw [show (c : Int) + (Y : Int) = ((c + Y : Nat) : Int) by omega]
            generalize (c + Y) = s at HST hsb ⊢
            obtain ⟨r, hr⟩ : ∃ r, s % BB = r := ⟨_, rfl⟩
            obtain ⟨d, hd⟩ : ∃ d, s / BB = d := ⟨_, rfl⟩
            have hmod : ((s : Nat) : Int).tmod 1000000000 = (r : Int) := by rw [← hr, Int.tmod_eq_emod_of_nonneg (by omega)]; rfl
            have hquo : ((s : Nat) : Int).tdiv 1000000000 = (d : Int) := by rw [← hd, Int.tdiv_eq_ediv_of_nonneg (by omega)]; rfl
            have hrb : r < 1000000000 := by rw [← hr]; exact Nat.mod_lt _ (by decide)
            have hdb : d < 2147483648 := by rw [← hd]; exact Nat.lt_of_le_of_lt (Nat.div_le_self _ _) hsb
            rw [hr, hd] at HST
            clear hr hd
            go_wp2_with (at_builtin; refine wpList_append_fresh _ rfl (.tmp 42) (.tmp 45) 76 rfl wc.heap.size 92 i53 _ 1 8 Tryd.underlying76 hi53 hz53 hs53 hy53 rfl (by decide) _ _ _ rfl (hown.alloc _) ⟨wr.heap.size, 0, none⟩ 1 1 [.int .u64 (r : Int)] rfl rfl (cell_one_new _ _ _) ?a2 ?a3 ?a4 ?a5 ?_)
            case a2 => first | rfl | (intro u hu; simp at hu; subst hu; rfl)
            case a3 => unfold maxLen; omega
            case a4 => omega
            case a5 => have := hb.size; simp; omega
            intro v' w5 hown5 hgrow5 _
            have hown6 : w5.ownsRow wc.heap.size 92 1 v' (out ++ [r]).length (limbs (out ++ [r])) := by
              rw [limbs_snoc, List.length_append, hl, hs0]; exact hown5
            have hb5 : Below wc.heap.size wc w5 := (hb.alloc hb.size _).grown hgrow5 (by have := hb.size; simp; omega) (fun k e => (hown.lt _ e).1)
            clear hown5 hgrow5 hown hb
            go_wp2
            go_roundg g
            case measure => omega
            case rel => exact ⟨k + 1, d, out ++ [r], by omega, by go_num, by go_num, HST.out.2.1, by rw [List.length_append, hl]; rfl, HST.out.1, HST.out.2.2, hown6, hb5⟩
          · exfalso
            have := HM.out
            omega

end Go.Proofs.YtgbalofdfdafmaaDoor
namespace Go.Proofs.YtgbalofdfdafmaaDoor
open Go.RowKit
set_option maxRecDepth 100000

set_option maxHeartbeats 1600000 in
theorem minus_any (bx by_ : Bool) (vx vy : Value) (xs ys : List Nat) (w : World) (hx : LimbsAt w vx xs) (hy : LimbsAt w vy ys) (ox : okL xs) (oy : okL ys) (lx : xs.length ≤ 2000) (lyx : ys.length ≤ xs.length) (hle : valL ys ≤ valL xs) :
    Calls Tryd.prog 79 #[.agg #[.bool bx, vx], .agg #[.bool by_, vy]] w (LimbsPost (valL xs - valL ys) xs.length w) := by
  obtain ⟨ax, cx, rfl, _, _, _⟩ := hx.val
  obtain ⟨ay, cy, rfl, _, _, _⟩ := hy.val
  obtain ⟨i53, hi53, hz53, hs53, hy53⟩ := info_parts Tryd.info92
  obtain ⟨w0, hw0⟩ : ∃ w0, w0 = (w.alloc (.cells #[.bool bx, .slice ax xs.length cx] 78)).alloc (.cells #[.bool by_, .slice ay ys.length cy] 78) := ⟨_, rfl⟩
  have hs0 : w0.heap.size = w.heap.size + 2 := by rw [hw0]; simp
  have hb0 : Below w.heap.size w w0 := by rw [hw0]; exact ((Below.refl _ w).alloc (Nat.le_refl _) _).alloc (by simp) _
  have hx0 : w0.heap[w.heap.size]? = some (.cells #[.bool bx, .slice ax xs.length cx] 78 (0, 0)) := by
    rw [hw0]; exact (Below.heap_alloc _ _ _ (by simp)).trans (heap_alloc_new _ _)
  have hr0 : w0.heap[w.heap.size + 1]? = some (.cells #[.bool by_, .slice ay ys.length cy] 78 (0, 0)) := by
    have := heap_alloc_new (w.alloc (.cells #[.bool bx, .slice ax xs.length cx] 78)) (.cells #[.bool by_, .slice ay ys.length cy] 78)
    rw [hw0]
    rwa [show (w.alloc (.cells #[.bool bx, .slice ax xs.length cx] 78)).heap.size = w.heap.size + 1 by simp] at this
  have HX := Lib.hid hx
  have HY := Lib.hid hy
  have OX := Lib.hid ox
  have OY := Lib.hid oy
  clear hx hy ox oy
  obtain ⟨a0, a1, _, _⟩ := cell_box2 hx0
  obtain ⟨b0, b1, _, _⟩ := cell_box2 hr0
  have HLE := Lib.hid hle
  clear hle
  go_enter Tryd.func79, Tryd.ntmps79
  go_wp2_with (rw [← hw0])
  go_loopg [5, 6, 13] xs.length (fun g v5 v6 v13 wr => ∃ (k c : Nat) (out : List Nat), k + g = xs.length ∧ v13 = .int .i64 k ∧ v6 = .int .u64 c ∧ c ≤ 1 ∧ out.length = k ∧ okL out ∧ valL out + valL (ys.take k) = valL (xs.take k) + BB ^ k * c ∧ wr.ownsRow w0.heap.size 92 1 v5 out.length (limbs out) ∧ Below w0.heap.size w0 wr)
  case atStart => exact ⟨0, 0, [], by omega, rfl, rfl, by omega, rfl, okL_nil, by simp [valL], World.ownsRow_nil _ _ _ _, Below.refl _ _⟩
  case round =>
    obtain ⟨k, c, out, hkg, rfl, rfl, hc, hl, ho, hv, hown, hb⟩ := hrel
    obtain ⟨y0, y1, _, _⟩ := cell_box2 ((hb.block _ (by omega)).trans hx0)
    obtain ⟨z0, z1, _, _⟩ := cell_box2 ((hb.block _ (by omega)).trans hr0)
    have hB := hb0.trans (hb.mono hb0.size)
    have hBB : BB = 1000000000 := rfl
    cases gk with
    | zero =>
      have hkM : ¬ (k : Int) < (xs.length : Int) := by omega
      obtain rfl : k = xs.length := by omega
      have hend := minus_end hl ho lyx HLE.out hv
      have HEND : Hid (valL out = valL xs - valL ys) := by rw [Hid]; omega
      have HO := Lib.hid ho
      have hown' : LimbsAt wr u5 out := limbs_of_own hown (by omega)
      clear hend hv hx0 hr0 ho hown
      go_wp2
      go_ret
      exact ⟨_, out, rfl, hown', HO.out, HEND.out, by omega, hB⟩
    | succ g =>
      have hkM : (k : Int) < (xs.length : Int) := by omega
      have hst := minus_step hl ho OX.out OY.out hc hv
      have hX1 := okL_getD OX.out k
      have hY1 := okL_getD OY.out k
      obtain ⟨b1, o1, hax, hxc0, hcx0⟩ := HX.out.get (i := k) (by omega)
      have hcx := (hB.cell (p := ⟨b1, o1 + k, none⟩) hxc0).trans hcx0
      have hyc : k < ys.length → ∃ b off, ay = some ⟨b, off, none⟩ ∧ wr.cell? ⟨b, off + k, none⟩ = some (.int .u64 ((ys.getD k 0 : Nat) : Int)) := fun h => by
        obtain ⟨b, off, h1, h2, h3⟩ := HY.out.get h
        exact ⟨b, off, h1, (hB.cell (p := ⟨b, off + k, none⟩) h2).trans h3⟩
      have hyn : ¬ k < ys.length → ys.getD k 0 = 0 := fun h => by simp [List.getD, List.getElem?_eq_none (Nat.le_of_not_lt h)]
      have hcapx : xs.length ≤ cx := by obtain ⟨_, _, hv, _, h2, _⟩ := HX.out; cases hv; omega
      have hxc : True := trivial
      clear hcx0
      generalize xs.getD k 0 = X at hst hX1 hcx
      generalize ys.getD k 0 = Y at hst hY1 hyc hyn
      subst hax
      clear hv hx0 hr0 ho
      by_cases hky : k < ys.length
      · obtain ⟨b2, o2, hay, hcy⟩ := hyc hky
        have hky' : (k : Int) < (ys.length : Int) := by omega
        have hcapy : ys.length ≤ cy := by obtain ⟨_, _, hv, _, h2, _⟩ := HY.out; cases hv; omega
        subst hay
        by_cases hlt : X < c + Y
        · have HST := Lib.hid (hst.1 hlt)
          obtain ⟨r, hr⟩ : ∃ r, X + BB - (c + Y) = r := ⟨_, rfl⟩
          rw [hr] at HST
          have hlt' : (X : Int) < (c : Int) + (Y : Int) := by omega
          have hsub : (X : Int) + 1000000000 - ((c : Int) + (Y : Int)) = (r : Int) := by omega
          have hrb : r < 2147483648 := by omega
          clear hr hlt hst hxc hyc hyn hky
          go_wp2_with (at_builtin; refine wpList_append_fresh _ rfl (.tmp 36) (.tmp 40) 76 rfl w0.heap.size 92 i53 _ 1 8 Tryd.underlying76 hi53 hz53 hs53 hy53 rfl (by decide) _ _ _ rfl (hown.alloc _) ⟨wr.heap.size, 0, none⟩ 1 1 [.int .u64 (r : Int)] rfl rfl (cell_one_new _ _ _) ?a2 ?a3 ?a4 ?a5 ?_)
          case a2 => first | rfl | (intro u hu; simp at hu; subst hu; rfl)
          case a3 => unfold maxLen; omega
          case a4 => omega
          case a5 => have := hb.size; simp; omega
          intro v' w5 hown5 hgrow5 _
          have hown6 : w5.ownsRow w0.heap.size 92 1 v' (out ++ [r]).length (limbs (out ++ [r])) := by
            rw [limbs_snoc, List.length_append, hl, hs0]; exact hown5
          have hb5 : Below w0.heap.size w0 w5 := (hb.alloc hb.size _).grown hgrow5 (by have := hb.size; simp; omega) (fun k e => (hown.lt _ e).1)
          clear hown5 hgrow5 hown hb
          go_wp2
          go_roundg g
          case measure => omega
          case rel => exact ⟨k + 1, 1, out ++ [r], by omega, by go_num, by rfl, by omega, by rw [List.length_append, hl]; rfl, HST.out.1, HST.out.2, hown6, hb5⟩
        · have HST := Lib.hid (hst.2 hlt)
          obtain ⟨r, hr⟩ : ∃ r, X - (c + Y) = r := ⟨_, rfl⟩
          rw [hr] at HST
          have hlt' : ¬ (X : Int) < (c : Int) + (Y : Int) := by omega
          have hsub : (X : Int) - ((c : Int) + (Y : Int)) = (r : Int) := by omega
          have hrb : r < 2147483648 := by omega
          clear hr hlt hst hxc hyc hyn hky
          go_wp2_with (at_builtin; refine wpList_append_fresh _ rfl (.tmp 36) (.tmp 40) 76 rfl w0.heap.size 92 i53 _ 1 8 Tryd.underlying76 hi53 hz53 hs53 hy53 rfl (by decide) _ _ _ rfl (hown.alloc _) ⟨wr.heap.size, 0, none⟩ 1 1 [.int .u64 (r : Int)] rfl rfl (cell_one_new _ _ _) ?a2 ?a3 ?a4 ?a5 ?_)
          case a2 => first | rfl | (intro u hu; simp at hu; subst hu; rfl)
          case a3 => unfold maxLen; omega
          case a4 => omega
          case a5 => have := hb.size; simp; omega
          intro v' w5 hown5 hgrow5 _
          have hown6 : w5.ownsRow w0.heap.size 92 1 v' (out ++ [r]).length (limbs (out ++ [r])) := by
            rw [limbs_snoc, List.length_append, hl, hs0]; exact hown5
          have hb5 : Below w0.heap.size w0 w5 := (hb.alloc hb.size _).grown hgrow5 (by have := hb.size; simp; omega) (fun k e => (hown.lt _ e).1)
          clear hown5 hgrow5 hown hb
          go_wp2
          go_roundg g
          case measure => omega
          case rel => exact ⟨k + 1, 0, out ++ [r], by omega, by go_num, by rfl, by omega, by rw [List.length_append, hl]; rfl, HST.out.1, HST.out.2, hown6, hb5⟩
      · have hy00 := hyn hky
        have hky' : ¬ (k : Int) < (ys.length : Int) := by omega
        subst hy00
        by_cases hlt : X < c + 0
        · have HST := Lib.hid (hst.1 hlt)
          obtain ⟨r, hr⟩ : ∃ r, X + BB - (c + 0) = r := ⟨_, rfl⟩
          rw [hr] at HST
          have hlt' : (X : Int) < (c : Int) := by omega
          have hsub : (X : Int) + 1000000000 - ((c : Int)) = (r : Int) := by omega
          have hrb : r < 2147483648 := by omega
          clear hr hlt hst hxc hyc hyn hky
          go_wp2_with (at_builtin; refine wpList_append_fresh _ rfl (.tmp 36) (.tmp 40) 76 rfl w0.heap.size 92 i53 _ 1 8 Tryd.underlying76 hi53 hz53 hs53 hy53 rfl (by decide) _ _ _ rfl (hown.alloc _) ⟨wr.heap.size, 0, none⟩ 1 1 [.int .u64 (r : Int)] rfl rfl (cell_one_new _ _ _) ?a2 ?a3 ?a4 ?a5 ?_)
          case a2 => first | rfl | (intro u hu; simp at hu; subst hu; rfl)
          case a3 => unfold maxLen; omega
          case a4 => omega
          case a5 => have := hb.size; simp; omega
          intro v' w5 hown5 hgrow5 _
          have hown6 : w5.ownsRow w0.heap.size 92 1 v' (out ++ [r]).length (limbs (out ++ [r])) := by
            rw [limbs_snoc, List.length_append, hl, hs0]; exact hown5
          have hb5 : Below w0.heap.size w0 w5 := (hb.alloc hb.size _).grown hgrow5 (by have := hb.size; simp; omega) (fun k e => (hown.lt _ e).1)
          clear hown5 hgrow5 hown hb
          go_wp2
          go_roundg g
          case measure => omega
          case rel => exact ⟨k + 1, 1, out ++ [r], by omega, by go_num, by rfl, by omega, by rw [List.length_append, hl]; rfl, HST.out.1, HST.out.2, hown6, hb5⟩
        · have HST := Lib.hid (hst.2 hlt)
          obtain ⟨r, hr⟩ : ∃ r, X - (c + 0) = r := ⟨_, rfl⟩
          rw [hr] at HST
          have hlt' : ¬ (X : Int) < (c : Int) := by omega
          have hsub : (X : Int) - ((c : Int)) = (r : Int) := by omega
          have hrb : r < 2147483648 := by omega
          clear hr hlt hst hxc hyc hyn hky
          go_wp2_with (at_builtin; refine wpList_append_fresh _ rfl (.tmp 36) (.tmp 40) 76 rfl w0.heap.size 92 i53 _ 1 8 Tryd.underlying76 hi53 hz53 hs53 hy53 rfl (by decide) _ _ _ rfl (hown.alloc _) ⟨wr.heap.size, 0, none⟩ 1 1 [.int .u64 (r : Int)] rfl rfl (cell_one_new _ _ _) ?a2 ?a3 ?a4 ?a5 ?_)
          case a2 => first | rfl | (intro u hu; simp at hu; subst hu; rfl)
          case a3 => unfold maxLen; omega
          case a4 => omega
          case a5 => have := hb.size; simp; omega
          intro v' w5 hown5 hgrow5 _
          have hown6 : w5.ownsRow w0.heap.size 92 1 v' (out ++ [r]).length (limbs (out ++ [r])) := by
            rw [limbs_snoc, List.length_append, hl, hs0]; exact hown5
          have hb5 : Below w0.heap.size w0 w5 := (hb.alloc hb.size _).grown hgrow5 (by have := hb.size; simp; omega) (fun k e => (hown.lt _ e).1)
          clear hown5 hgrow5 hown hb
          go_wp2
          go_roundg g
          case measure => omega
          case rel => exact ⟨k + 1, 0, out ++ [r], by omega, by go_num, by rfl, by omega, by rw [List.length_append, hl]; rfl, HST.out.1, HST.out.2, hown6, hb5⟩

end Go.Proofs.YtgbalofdfdafmaaDoor
namespace Go.Proofs.YtgbalofdfdafmaaDoor
open Go.RowKit
set_option maxRecDepth 100000

theorem cmp_lt {a b : Nat} (h : a < b) : cmpN a b = -1 := by unfold cmpN; rw [if_pos h]
theorem cmp_eq (a : Nat) : cmpN a a = 0 := by unfold cmpN; rw [if_neg (by omega), if_pos rfl]
theorem cmp_gt {a b : Nat} (h : b < a) : cmpN a b = 1 := by unfold cmpN; rw [if_neg (by omega), if_neg (by omega)]

theorem compare_int (x y : Nat) (w : World) : Calls Tryd.prog 46 #[.int .i64 x, .int .i64 y] w fun e w' => e = .returned (.int .i64 (cmpN x y)) ∧ w' = w := by
  rcases Nat.lt_trichotomy x y with h | h | h
  · rw [cmp_lt h]
    have h1 : (x : Int) < (y : Int) := by omega
    go_enter Tryd.func46, Tryd.ntmps46
    go_wp2
    go_ret
    exact ⟨rfl, rfl⟩
  · subst h
    rw [cmp_eq]
    go_enter Tryd.func46, Tryd.ntmps46
    go_wp2
    go_ret
    exact ⟨rfl, rfl⟩
  · rw [cmp_gt h]
    have h1 : (y : Int) < (x : Int) := by omega
    have h2 : ¬ (x : Int) < (y : Int) := by omega
    go_enter Tryd.func46, Tryd.ntmps46
    go_wp2
    go_ret
    exact ⟨rfl, rfl⟩
theorem compare_u64 (x y : Nat) (w : World) : Calls Tryd.prog 87 #[.int .u64 x, .int .u64 y] w fun e w' => e = .returned (.int .i64 (cmpN x y)) ∧ w' = w := by
  rcases Nat.lt_trichotomy x y with h | h | h
  · rw [cmp_lt h]
    have h1 : (x : Int) < (y : Int) := by omega
    go_enter Tryd.func87, Tryd.ntmps87
    go_wp2
    go_ret
    exact ⟨rfl, rfl⟩
  · subst h
    rw [cmp_eq]
    go_enter Tryd.func87, Tryd.ntmps87
    go_wp2
    go_ret
    exact ⟨rfl, rfl⟩
  · rw [cmp_gt h]
    have h1 : (y : Int) < (x : Int) := by omega
    have h2 : ¬ (x : Int) < (y : Int) := by omega
    go_enter Tryd.func87, Tryd.ntmps87
    go_wp2
    go_ret
    exact ⟨rfl, rfl⟩

set_option maxHeartbeats 1600000 in
theorem size_any (bx by_ : Bool) (vx vy : Value) (xs ys : List Nat) (w : World) (hx : LimbsAt w vx xs) (hy : LimbsAt w vy ys) (ox : okL xs) (oy : okL ys) (tx : isTrim xs) (ty : isTrim ys) :
    Calls Tryd.prog 78 #[.agg #[.bool bx, vx], .agg #[.bool by_, vy]] w fun e w' => e = .returned (.int .i64 (cmpN (valL xs) (valL ys))) ∧ Below w.heap.size w w' := by
  obtain ⟨ax, cx, rfl, lx, _, _⟩ := hx.val
  obtain ⟨ay, cy, rfl, ly, _, _⟩ := hy.val
  obtain ⟨w0, hw0⟩ : ∃ w0, w0 = (w.alloc (.cells #[.bool bx, .slice ax xs.length cx] 78)).alloc (.cells #[.bool by_, .slice ay ys.length cy] 78) := ⟨_, rfl⟩
  have hs0 : w0.heap.size = w.heap.size + 2 := by rw [hw0]; simp
  have hb0 : Below w.heap.size w w0 := by rw [hw0]; exact ((Below.refl _ w).alloc (Nat.le_refl _) _).alloc (by simp) _
  have hx0 : w0.heap[w.heap.size]? = some (.cells #[.bool bx, .slice ax xs.length cx] 78 (0, 0)) := by
    rw [hw0]; exact (Below.heap_alloc _ _ _ (by simp)).trans (heap_alloc_new _ _)
  have hr0 : w0.heap[w.heap.size + 1]? = some (.cells #[.bool by_, .slice ay ys.length cy] 78 (0, 0)) := by
    have := heap_alloc_new (w.alloc (.cells #[.bool bx, .slice ax xs.length cx] 78)) (.cells #[.bool by_, .slice ay ys.length cy] 78)
    rw [hw0]
    rwa [show (w.alloc (.cells #[.bool bx, .slice ax xs.length cx] 78)).heap.size = w.heap.size + 1 by simp] at this
  have HX := Lib.hid hx
  have HY := Lib.hid hy
  have OX := Lib.hid ox
  have OY := Lib.hid oy
  have TX := Lib.hid tx
  have TY := Lib.hid ty
  obtain ⟨a0, a1, _, _⟩ := cell_box2 hx0
  obtain ⟨b0, b1, _, _⟩ := cell_box2 hr0
  have CI := compare_int xs.length ys.length w0
  clear hx hy ox oy tx ty
  by_cases hl : xs.length = ys.length
  · rw [hl, cmp_eq] at CI
    have HL := Lib.hid hl
    have CU := compare_u64
    go_enter Tryd.func78, Tryd.ntmps78
    rw [hl] at hw0 hx0 a1 ⊢
    clear hl
    go_wp2_with (rw [← hw0])
    refine CI.mono ?_
    rintro e w1 ⟨rfl, rfl⟩
    clear CI CU hw0
    go_wp2
    go_loopg [6] ys.length (fun g v6 wr => g ≤ ys.length ∧ v6 = .int .i64 ((g : Int) - 1) ∧ xs.drop g = ys.drop g ∧ Below w1.heap.size w1 wr)
    case atStart => exact ⟨Nat.le_refl _, rfl, by rw [List.drop_of_length_le (Nat.le_refl _), List.drop_of_length_le (by rw [HL.out]; exact Nat.le_refl _)], Below.refl _ _⟩
    case round =>
      obtain ⟨hg, rfl, hd, hb⟩ := hrel
      obtain ⟨y0, y1, _, _⟩ := cell_box2 ((hb.block _ (by omega)).trans hx0)
      obtain ⟨z0, z1, _, _⟩ := cell_box2 ((hb.block _ (by omega)).trans hr0)
      have hB := hb0.trans (hb.mono hb0.size)
      cases gk with
      | zero =>
        have hxy : xs = ys := by simpa using hd
        have HXY : Hid (cmpN (valL xs) (valL ys) = 0) := by rw [Hid, hxy, cmp_eq]
        clear hxy hd hx0 hr0
        go_wp2
        go_ret
        exact ⟨by rw [HXY.out]; rfl, hB⟩
      | succ g =>
        have hge : (0 : Int) ≤ ((g + 1 : Nat) : Int) - 1 := by omega
        have e1 : ((g + 1 : Nat) : Int) - 1 = (g : Int) := by omega
        obtain ⟨b1, o1, hax, hl1, hc1⟩ := HX.out.get (i := g) (by rw [HL.out]; omega)
        obtain ⟨b2, o2, hay, hl2, hc2⟩ := HY.out.get (i := g) (by omega)
        have hcx := (hB.cell (p := ⟨b1, o1 + g, none⟩) hl1).trans hc1
        have hcy := (hB.cell (p := ⟨b2, o2 + g, none⟩) hl2).trans hc2
        have hcapx : xs.length ≤ cx := by obtain ⟨_, _, hv, _, h2, _⟩ := HX.out; cases hv; omega
        have hcapy : ys.length ≤ cy := by obtain ⟨_, _, hv, _, h2, _⟩ := HY.out; cases hv; omega
        rw [HL.out] at hcapx
        have hdx := drop_cons (l := xs) (i := g) (by rw [HL.out]; omega)
        have hdy := drop_cons (l := ys) (i := g) (by omega)
        have hlt1 : Hid (xs.getD g 0 < ys.getD g 0 → cmpN (valL xs) (valL ys) = -1) := fun h => cmp_lt (limb_lt OX.out HL.out (by rw [HL.out]; omega) hd h)
        have hlt2 : Hid (ys.getD g 0 < xs.getD g 0 → cmpN (valL xs) (valL ys) = 1) := fun h => cmp_gt (limb_lt OY.out HL.out.symm (by omega) hd.symm h)
        have hnx : Hid (xs.getD g 0 = ys.getD g 0 → xs.drop g = ys.drop g) := fun h => by rw [hdx, hdy, h, hd]
        generalize xs.getD g 0 = X at hcx hlt1 hlt2 hnx
        generalize ys.getD g 0 = Y at hcy hlt1 hlt2 hnx
        have hgm : (g : Int) < (ys.length : Int) := by omega
        subst hax hay
        clear hc1 hc2 hdx hdy hd hx0 hr0
        rw [e1]
        rcases Nat.lt_trichotomy X Y with h | h | h
        · have HR := Lib.hid (hlt1.out h)
          have CU : ∀ nq, Calls Tryd.prog 87 #[.int .u64 X, .int .u64 Y] (wr.drewN nq) fun e w' => e = .returned (.int .i64 (-1)) ∧ w' = wr.drewN nq := fun nq => by
            have := compare_u64 X Y (wr.drewN nq)
            rw [cmp_lt h] at this
            exact this
          clear h hlt1 hlt2 hnx
          go_wp2_with (go_quiet ((go_at_call 87; refine Calls.quiet_of_same (CU _))))
          go_ret
          exact ⟨by rw [HR.out]; rfl, below_drewN hB _⟩
        · have HR := Lib.hid (hnx.out h)
          subst h
          have CU : ∀ nq, Calls Tryd.prog 87 #[.int .u64 X, .int .u64 X] (wr.drewN nq) fun e w' => e = .returned (.int .i64 0) ∧ w' = wr.drewN nq := fun nq => by
            have := compare_u64 X X (wr.drewN nq)
            rw [cmp_eq] at this
            exact this
          clear hlt1 hlt2 hnx
          go_wp2_with (go_quiet ((go_at_call 87; refine Calls.quiet_of_same (CU _))))
          go_roundg g
          case measure => omega
          case rel => exact ⟨by omega, by go_num, HR.out, below_drewN hb _⟩
        · have HR := Lib.hid (hlt2.out h)
          have CU : ∀ nq, Calls Tryd.prog 87 #[.int .u64 X, .int .u64 Y] (wr.drewN nq) fun e w' => e = .returned (.int .i64 1) ∧ w' = wr.drewN nq := fun nq => by
            have := compare_u64 X Y (wr.drewN nq)
            rw [cmp_gt h] at this
            exact this
          clear h hlt1 hlt2 hnx
          go_wp2_with (go_quiet ((go_at_call 87; refine Calls.quiet_of_same (CU _))))
          go_ret
          exact ⟨by rw [HR.out]; rfl, below_drewN hB _⟩
  · have hres : cmpN (valL xs) (valL ys) = cmpN xs.length ys.length := by
      rcases Nat.lt_or_gt_of_ne hl with h | h
      · rw [cmp_lt h, cmp_lt (len_lt OX.out TY.out h)]
      · rw [cmp_gt h, cmp_gt (len_lt OY.out TX.out h)]
    rw [hres]
    have hne : (cmpN xs.length ys.length != 0) = true := by
      rcases Nat.lt_or_gt_of_ne hl with h | h
      · rw [cmp_lt h]; rfl
      · rw [cmp_gt h]; rfl
    have hne' : ¬ cmpN xs.length ys.length = 0 := by simpa using hne
    generalize cmpN xs.length ys.length = z at CI hne hne'
    clear hres hl hx0 hr0
    go_enter Tryd.func78, Tryd.ntmps78
    go_wp2_with (rw [← hw0])
    refine CI.mono ?_
    rintro e w1 ⟨rfl, rfl⟩
    clear CI hw0
    go_wp2
    go_ret
    exact ⟨rfl, hb0⟩

end Go.Proofs.YtgbalofdfdafmaaDoor
namespace Go.Proofs.YtgbalofdfdafmaaDoor
open Go.RowKit
set_option maxRecDepth 100000

/-- What a big number is worth. -/
def numV (b : Bool) (xs : List Nat) : Int := if b = true then -(valL xs : Int) else (valL xs : Int)
theorem num_trim (b : Bool) (zs : List Nat) : numV (b && !(trimL zs).isEmpty) (trimL zs) = numV b zs := by
  unfold numV
  rw [valL_trim]
  cases b with
  | false => rfl
  | true =>
    by_cases h : trimL zs = []
    · have : valL zs = 0 := by rw [← valL_trim, h]; rfl
      rw [h, this]; rfl
    · have : (trimL zs).isEmpty = false := by simpa using h
      rw [this]; rfl
/-- A big number that is in its form. -/
def bigOk (b : Bool) (xs : List Nat) : Prop := okL xs ∧ isTrim xs ∧ (b = true → xs ≠ [])
theorem big_trim (b : Bool) {zs : List Nat} (h : okL zs) : bigOk (b && !(trimL zs).isEmpty) (trimL zs) := by
  refine ⟨okL_trim h, trim_is zs, fun e => ?_⟩
  simp only [Bool.and_eq_true, Bool.not_eq_true', List.isEmpty_eq_false_iff] at e
  exact e.2
theorem trimL_len (zs : List Nat) : (trimL zs).length ≤ zs.length := by
  obtain ⟨k, hk, e⟩ := trimL_take zs
  rw [e, List.length_take]
  omega
/-- What a call that makes a number leaves. -/
def NumPost (z : Int) (top : Nat) (w : World) (e : Ending) (w' : World) : Prop := ∃ v b zs, e = .returned v ∧ BigAt w' v b zs ∧ bigOk b zs ∧ numV b zs = z ∧ zs.length ≤ top ∧ Below w.heap.size w w'

set_option maxHeartbeats 1600000 in
theorem sum_any (bx by_ : Bool) (vx vy : Value) (xs ys : List Nat) (w : World) (hx : LimbsAt w vx xs) (hy : LimbsAt w vy ys) (ox : bigOk bx xs) (oy : bigOk by_ ys) (lx : xs.length ≤ 2000) (ly : ys.length ≤ 2000) :
    Calls Tryd.prog 64 #[.agg #[.bool bx, vx], .agg #[.bool by_, vy]] w (NumPost (numV bx xs + numV by_ ys) (max xs.length ys.length + 1) w) := by
  obtain ⟨ax, cx, rfl, _, _, _⟩ := hx.val
  obtain ⟨ay, cy, rfl, _, _, _⟩ := hy.val
  obtain ⟨w0, hw0⟩ : ∃ w0, w0 = ((w.alloc (.cells #[.bool bx, .slice ax xs.length cx] 78)).alloc (.cells #[.bool by_, .slice ay ys.length cy] 78)).alloc (.cells #[.bool false, .slice none 0 0] 78) := ⟨_, rfl⟩
  have hs0 : w0.heap.size = w.heap.size + 3 := by rw [hw0]; simp only [World.alloc, Array.size_push]
  have hb0 : Below w.heap.size w w0 := by rw [hw0]; exact (((Below.refl _ w).alloc (Nat.le_refl _) _).alloc (by simp) _).alloc (by simp <;> omega) _
  have hx0 : w0.heap[w.heap.size]? = some (.cells #[.bool bx, .slice ax xs.length cx] 78 (0, 0)) := by
    rw [hw0]; exact (Below.heap_alloc _ _ _ (by simp <;> omega)).trans ((Below.heap_alloc _ _ _ (by simp)).trans (heap_alloc_new _ _))
  have hy0 : w0.heap[w.heap.size + 1]? = some (.cells #[.bool by_, .slice ay ys.length cy] 78 (0, 0)) := by
    have := heap_alloc_new (w.alloc (.cells #[.bool bx, .slice ax xs.length cx] 78)) (.cells #[.bool by_, .slice ay ys.length cy] 78)
    rw [show (w.alloc (.cells #[.bool bx, .slice ax xs.length cx] 78)).heap.size = w.heap.size + 1 by simp] at this
    rw [hw0]; exact (Below.heap_alloc _ _ _ (by simp <;> omega)).trans this
  have hr0 : w0.heap[w.heap.size + 1 + 1]? = some (.cells #[.bool false, .slice none 0 0] 78 (0, 0)) := by
    have := heap_alloc_new ((w.alloc (.cells #[.bool bx, .slice ax xs.length cx] 78)).alloc (.cells #[.bool by_, .slice ay ys.length cy] 78)) (.cells #[.bool false, .slice none 0 0] 78)
    rw [show ((w.alloc (.cells #[.bool bx, .slice ax xs.length cx] 78)).alloc (.cells #[.bool by_, .slice ay ys.length cy] 78)).heap.size = w.heap.size + 1 + 1 by simp only [World.alloc, Array.size_push]] at this
    rw [hw0]; exact this
  obtain ⟨a0, a1, _, _⟩ := cell_box2 hx0
  obtain ⟨b0, b1, _, _⟩ := cell_box2 hy0
  have hX := hx.mono hb0
  have hY := hy.mono hb0
  have HR0 := Lib.hid hr0
  have OX := Lib.hid ox
  have OY := Lib.hid oy
  clear hx hy ox oy hx0 hy0 hr0
  go_enter Tryd.func64, Tryd.ntmps64
  by_cases hxy : bx = by_
  · have PL := fun w' hb => plus_any bx by_ _ _ xs ys w' (hX.mono hb) (hY.mono hb) OX.out.1 OY.out.1 lx ly
    subst hxy
    go_upto_region 2 with (rw [← hw0])
    clear hw0
    go_region_held3 (fun w' => w'.cell? ⟨w.heap.size, 0, none⟩ = some (.bool bx) ∧ w'.cell? ⟨w.heap.size, 1, none⟩ = some (.slice ax xs.length cx) ∧ w'.cell? ⟨w.heap.size + 1, 0, none⟩ = some (.bool bx) ∧ w'.cell? ⟨w.heap.size + 1, 1, none⟩ = some (.slice ay ys.length cy))
      (first | exact ⟨a0, a1, b0, b1⟩ | exact ⟨k0, k1, k2, k3⟩ | exact ⟨m0, m1, m2, m3⟩ | (refine ⟨?_, ?_, ?_, ?_⟩ <;> (rw [World.cell?_setCell_other _ _ _ _ (by simp <;> omega), World.cell?_setCell_other _ _ _ _ (by simp <;> omega)]; assumption)))
      (first
        | (go_at_call 76; refine (PL _ (Below.refl _ w0).drew).mono ?_; rintro e w1 ⟨u, zs, rfl, hu, hok, hvz, hlz, hb1⟩; obtain ⟨au, cu, rfl, _, _, _⟩ := hu.val; have k0 := (hb1.cell (p := ⟨w.heap.size, 0, none⟩) (by show w.heap.size < w0.drew.heap.size; simp; omega)).trans a0; have k1 := (hb1.cell (p := ⟨w.heap.size, 1, none⟩) (by show w.heap.size < w0.drew.heap.size; simp; omega)).trans a1; have k2 := (hb1.cell (p := ⟨w.heap.size + 1, 0, none⟩) (by show w.heap.size + 1 < w0.drew.heap.size; simp; omega)).trans b0; have k3 := (hb1.cell (p := ⟨w.heap.size + 1, 1, none⟩) (by show w.heap.size + 1 < w0.drew.heap.size; simp; omega)).trans b1)
        | (go_at_call 77; refine (trim_any bx au cu zs _ hu).mono ?_; rintro e w2 ⟨v2, rfl, ⟨u2, rfl, hu2⟩, hb2⟩; obtain ⟨a2, c2, rfl, _, _, _⟩ := hu2.val; have hz1 := hb1.size; have m0 := (hb2.cell (p := ⟨w.heap.size, 0, none⟩) (by simp at hz1 ⊢; omega)).trans k0; have m1 := (hb2.cell (p := ⟨w.heap.size, 1, none⟩) (by simp at hz1 ⊢; omega)).trans k1; have m2 := (hb2.cell (p := ⟨w.heap.size + 1, 0, none⟩) (by simp at hz1 ⊢; omega)).trans k2; have m3 := (hb2.cell (p := ⟨w.heap.size + 1, 1, none⟩) (by simp at hz1 ⊢; omega)).trans k3; have hr2 := ((hb2.block (w.heap.size + 1 + 1) (by simp at hz1 ⊢; omega)).trans (hb1.block (w.heap.size + 1 + 1) (by simp; omega))).trans HR0.out; obtain ⟨r0, r1, f0, f1⟩ := cell_box2 hr2; have HR2 := Lib.hid hr2; clear hr2))
    have hb12 : Below w0.heap.size w0 w2 := (Below.trans (Below.refl _ w0).drew hb1).trans (hb2.mono hz1)
    have hz12 := hb12.size
    obtain ⟨w3, hw3, hr3, hz3, hk3, hB3⟩ := set_box2' HR2.out (.bool (bx && !(trimL zs).isEmpty))
    obtain ⟨w4, hw4, hr4, hz4, hk4, hB4⟩ := set_box2 hr3 (.slice a2 (trimL zs).length c2)
    have hb4 := hB4 _ _ (by omega) (hB3 _ _ (by omega) (hb0.trans (hb12.mono hb0.size)))
    have HU : Hid (LimbsAt w4 (.slice a2 (trimL zs).length c2) (trimL zs)) := hu2.box HR2.out (by omega) (fun k hk => (hk4 k hk).trans (hk3 k hk))
    obtain ⟨q0, q1, _, _⟩ := cell_box2 hr4
    have hfin : bigOk (bx && !(trimL zs).isEmpty) (trimL zs) ∧ numV (bx && !(trimL zs).isEmpty) (trimL zs) = numV bx xs + numV bx ys ∧ (trimL zs).length ≤ max xs.length ys.length + 1 := by
      refine ⟨big_trim _ hok, ?_, Nat.le_trans (trimL_len zs) (by omega)⟩
      rw [num_trim]
      unfold numV
      rw [hvz]
      cases bx <;> simp <;> omega
    have HFIN := Lib.hid hfin
    rw [← hw3, ← hw4]
    clear hfin hw3 hw4 hr3 hr4 hk3 hk4 hB3 hB4 hu hu2 hok hvz hlz PL r0 r1 f0 f1 m0 m1 m2 m3 k0 k1 k2 k3
    go_wp2
    refine bodyPost_ret (v := .agg #[.bool (bx && !(trimL zs).isEmpty), .slice a2 (trimL zs).length c2]) (by simp [results, go_sem, q0, q1]) rfl ?_
    exact ⟨_, _, trimL zs, rfl, ⟨_, rfl, HU.out⟩, HFIN.out.1, HFIN.out.2.1, HFIN.out.2.2, hb4⟩
  · have SZ := size_any bx by_ _ _ xs ys w0 hX hY OX.out.1 OY.out.1 OX.out.2.1 OY.out.2.1
    have hor : (bx = true ∧ by_ = false) ∨ (bx = false ∧ by_ = true) := by revert hxy; cases bx <;> cases by_ <;> simp
    have hne : (bx == by_) = false := by simpa using hxy
    have HOR := Lib.hid hor
    clear hor
    by_cases hc : valL xs < valL ys
    · rw [cmp_lt hc] at SZ
      have hl : xs.length ≤ ys.length := by
        apply Classical.byContradiction
        intro hn
        have := len_lt OY.out.1 OX.out.2.1 (show ys.length < xs.length by omega)
        omega
      have HC := Lib.hid hc
      have PL := fun w' hb => minus_any by_ bx _ _ ys xs w' (hY.mono hb) (hX.mono hb) OY.out.1 OX.out.1 ly hl (Nat.le_of_lt hc)
      clear hc
      go_upto_region 3 with (rw [← hw0])
      clear hw0
      go_wp2_with fail
      refine SZ.mono ?_
      rintro e wS ⟨rfl, hbS⟩
      have hbS0 := hbS.mono hb0.size
      have hzS := hbS.size
      have a0 := (hbS.cell (p := ⟨w.heap.size, 0, none⟩) (by simp; omega)).trans a0
      have a1 := (hbS.cell (p := ⟨w.heap.size, 1, none⟩) (by simp; omega)).trans a1
      have b0 := (hbS.cell (p := ⟨w.heap.size + 1, 0, none⟩) (by simp; omega)).trans b0
      have b1 := (hbS.cell (p := ⟨w.heap.size + 1, 1, none⟩) (by simp; omega)).trans b1
      have HR0 := Lib.hid ((hbS.block (w.heap.size + 1 + 1) (by omega)).trans HR0.out)
      have hb0 := hb0.trans hbS0
      go_upto_region 5 with fail
      have PL := fun w' (hb : Below wS.heap.size wS w') => PL w' (hbS.trans (hb.mono hzS))
      go_region_held3 (fun w' => w'.cell? ⟨w.heap.size, 0, none⟩ = some (.bool bx) ∧ w'.cell? ⟨w.heap.size, 1, none⟩ = some (.slice ax xs.length cx) ∧ w'.cell? ⟨w.heap.size + 1, 0, none⟩ = some (.bool by_) ∧ w'.cell? ⟨w.heap.size + 1, 1, none⟩ = some (.slice ay ys.length cy))
        (first | exact ⟨a0, a1, b0, b1⟩ | exact ⟨k0, k1, k2, k3⟩ | exact ⟨m0, m1, m2, m3⟩ | (refine ⟨?_, ?_, ?_, ?_⟩ <;> (rw [World.cell?_setCell_other _ _ _ _ (by simp <;> omega), World.cell?_setCell_other _ _ _ _ (by simp <;> omega)]; assumption)))
        (first
          | (go_at_call 79; refine (PL _ (Below.refl _ wS).drew).mono ?_; rintro e w1 ⟨u, zs, rfl, hu, hok, hvz, hlz, hb1⟩; obtain ⟨au, cu, rfl, _, _, _⟩ := hu.val; have k0 := (hb1.cell (p := ⟨w.heap.size, 0, none⟩) (by show w.heap.size < wS.drew.heap.size; simp; omega)).trans a0; have k1 := (hb1.cell (p := ⟨w.heap.size, 1, none⟩) (by show w.heap.size < wS.drew.heap.size; simp; omega)).trans a1; have k2 := (hb1.cell (p := ⟨w.heap.size + 1, 0, none⟩) (by show w.heap.size + 1 < wS.drew.heap.size; simp; omega)).trans b0; have k3 := (hb1.cell (p := ⟨w.heap.size + 1, 1, none⟩) (by show w.heap.size + 1 < wS.drew.heap.size; simp; omega)).trans b1)
          | (go_at_call 77; refine (trim_any by_ au cu zs _ hu).mono ?_; rintro e w2 ⟨v2, rfl, ⟨u2, rfl, hu2⟩, hb2⟩; obtain ⟨a2, c2, rfl, _, _, _⟩ := hu2.val; have hz1 := hb1.size; have m0 := (hb2.cell (p := ⟨w.heap.size, 0, none⟩) (by simp at hz1 ⊢; omega)).trans k0; have m1 := (hb2.cell (p := ⟨w.heap.size, 1, none⟩) (by simp at hz1 ⊢; omega)).trans k1; have m2 := (hb2.cell (p := ⟨w.heap.size + 1, 0, none⟩) (by simp at hz1 ⊢; omega)).trans k2; have m3 := (hb2.cell (p := ⟨w.heap.size + 1, 1, none⟩) (by simp at hz1 ⊢; omega)).trans k3; have hr2 := ((hb2.block (w.heap.size + 1 + 1) (by simp at hz1 ⊢; omega)).trans (hb1.block (w.heap.size + 1 + 1) (by simp; omega))).trans HR0.out; obtain ⟨r0, r1, f0, f1⟩ := cell_box2 hr2; have HR2 := Lib.hid hr2; clear hr2))
      have hb12 : Below wS.heap.size wS w2 := (Below.trans (Below.refl _ wS).drew hb1).trans (hb2.mono hz1)
      have hz12 := hb12.size
      obtain ⟨w3, hw3, hr3, hz3, hk3, hB3⟩ := set_box2' HR2.out (.bool (by_ && !(trimL zs).isEmpty))
      obtain ⟨w4, hw4, hr4, hz4, hk4, hB4⟩ := set_box2 hr3 (.slice a2 (trimL zs).length c2)
      have hb4 := hB4 _ _ (by omega) (hB3 _ _ (by omega) (hb0.trans (hb12.mono hb0.size)))
      have HU : Hid (LimbsAt w4 (.slice a2 (trimL zs).length c2) (trimL zs)) := hu2.box HR2.out (by omega) (fun k hk => (hk4 k hk).trans (hk3 k hk))
      obtain ⟨q0, q1, _, _⟩ := cell_box2 hr4
      have hfin : bigOk (by_ && !(trimL zs).isEmpty) (trimL zs) ∧ numV (by_ && !(trimL zs).isEmpty) (trimL zs) = numV bx xs + numV by_ ys ∧ (trimL zs).length ≤ max xs.length ys.length + 1 := by
        refine ⟨big_trim _ hok, ?_, Nat.le_trans (trimL_len zs) (by omega)⟩
        rw [num_trim]
        unfold numV
        rw [hvz]
        have := HC.out
        rcases HOR.out with ⟨h1, h2⟩ | ⟨h1, h2⟩ <;> simp [h1, h2] <;> omega
      have HFIN := Lib.hid hfin
      rw [← hw3, ← hw4]
      clear hfin hw3 hw4 hr3 hr4 hk3 hk4 hB3 hB4 hu hu2 hok hvz hlz PL r0 r1 f0 f1 m0 m1 m2 m3 k0 k1 k2 k3
      go_wp2
      refine bodyPost_ret (v := .agg #[.bool (by_ && !(trimL zs).isEmpty), .slice a2 (trimL zs).length c2]) (by simp [results, go_sem, q0, q1]) rfl ?_
      exact ⟨_, _, trimL zs, rfl, ⟨_, rfl, HU.out⟩, HFIN.out.1, HFIN.out.2.1, HFIN.out.2.2, hb4⟩
    · have hcz : ∃ z : Int, cmpN (valL xs) (valL ys) = z ∧ 0 ≤ z := by
        refine ⟨_, rfl, ?_⟩
        unfold cmpN
        rw [if_neg hc]
        split <;> decide
      obtain ⟨z, hz, hz0⟩ := hcz
      rw [hz] at SZ
      have hl : ys.length ≤ xs.length := by
        apply Classical.byContradiction
        intro hn
        have := len_lt OX.out.1 OY.out.2.1 (show xs.length < ys.length by omega)
        omega
      have HC := Lib.hid hc
      have PL := fun w' hb => minus_any bx by_ _ _ xs ys w' (hX.mono hb) (hY.mono hb) OX.out.1 OY.out.1 lx hl (Nat.le_of_not_lt hc)
      clear hc hz
      go_upto_region 3 with (rw [← hw0])
      clear hw0
      go_wp2_with fail
      refine SZ.mono ?_
      rintro e wS ⟨rfl, hbS⟩
      have hbS0 := hbS.mono hb0.size
      have hzS := hbS.size
      have a0 := (hbS.cell (p := ⟨w.heap.size, 0, none⟩) (by simp; omega)).trans a0
      have a1 := (hbS.cell (p := ⟨w.heap.size, 1, none⟩) (by simp; omega)).trans a1
      have b0 := (hbS.cell (p := ⟨w.heap.size + 1, 0, none⟩) (by simp; omega)).trans b0
      have b1 := (hbS.cell (p := ⟨w.heap.size + 1, 1, none⟩) (by simp; omega)).trans b1
      have HR0 := Lib.hid ((hbS.block (w.heap.size + 1 + 1) (by omega)).trans HR0.out)
      have hb0 := hb0.trans hbS0
      go_upto_region 4 with fail
      have PL := fun w' (hb : Below wS.heap.size wS w') => PL w' (hbS.trans (hb.mono hzS))
      go_region_held3 (fun w' => w'.cell? ⟨w.heap.size, 0, none⟩ = some (.bool bx) ∧ w'.cell? ⟨w.heap.size, 1, none⟩ = some (.slice ax xs.length cx) ∧ w'.cell? ⟨w.heap.size + 1, 0, none⟩ = some (.bool by_) ∧ w'.cell? ⟨w.heap.size + 1, 1, none⟩ = some (.slice ay ys.length cy))
        (first | exact ⟨a0, a1, b0, b1⟩ | exact ⟨k0, k1, k2, k3⟩ | exact ⟨m0, m1, m2, m3⟩ | (refine ⟨?_, ?_, ?_, ?_⟩ <;> (rw [World.cell?_setCell_other _ _ _ _ (by simp <;> omega), World.cell?_setCell_other _ _ _ _ (by simp <;> omega)]; assumption)))
        (first
          | (go_at_call 79; refine (PL _ (Below.refl _ wS).drew).mono ?_; rintro e w1 ⟨u, zs, rfl, hu, hok, hvz, hlz, hb1⟩; obtain ⟨au, cu, rfl, _, _, _⟩ := hu.val; have k0 := (hb1.cell (p := ⟨w.heap.size, 0, none⟩) (by show w.heap.size < wS.drew.heap.size; simp; omega)).trans a0; have k1 := (hb1.cell (p := ⟨w.heap.size, 1, none⟩) (by show w.heap.size < wS.drew.heap.size; simp; omega)).trans a1; have k2 := (hb1.cell (p := ⟨w.heap.size + 1, 0, none⟩) (by show w.heap.size + 1 < wS.drew.heap.size; simp; omega)).trans b0; have k3 := (hb1.cell (p := ⟨w.heap.size + 1, 1, none⟩) (by show w.heap.size + 1 < wS.drew.heap.size; simp; omega)).trans b1)
          | (go_at_call 77; refine (trim_any bx au cu zs _ hu).mono ?_; rintro e w2 ⟨v2, rfl, ⟨u2, rfl, hu2⟩, hb2⟩; obtain ⟨a2, c2, rfl, _, _, _⟩ := hu2.val; have hz1 := hb1.size; have m0 := (hb2.cell (p := ⟨w.heap.size, 0, none⟩) (by simp at hz1 ⊢; omega)).trans k0; have m1 := (hb2.cell (p := ⟨w.heap.size, 1, none⟩) (by simp at hz1 ⊢; omega)).trans k1; have m2 := (hb2.cell (p := ⟨w.heap.size + 1, 0, none⟩) (by simp at hz1 ⊢; omega)).trans k2; have m3 := (hb2.cell (p := ⟨w.heap.size + 1, 1, none⟩) (by simp at hz1 ⊢; omega)).trans k3; have hr2 := ((hb2.block (w.heap.size + 1 + 1) (by simp at hz1 ⊢; omega)).trans (hb1.block (w.heap.size + 1 + 1) (by simp; omega))).trans HR0.out; obtain ⟨r0, r1, f0, f1⟩ := cell_box2 hr2; have HR2 := Lib.hid hr2; clear hr2))
      have hb12 : Below wS.heap.size wS w2 := (Below.trans (Below.refl _ wS).drew hb1).trans (hb2.mono hz1)
      have hz12 := hb12.size
      obtain ⟨w3, hw3, hr3, hz3, hk3, hB3⟩ := set_box2' HR2.out (.bool (bx && !(trimL zs).isEmpty))
      obtain ⟨w4, hw4, hr4, hz4, hk4, hB4⟩ := set_box2 hr3 (.slice a2 (trimL zs).length c2)
      have hb4 := hB4 _ _ (by omega) (hB3 _ _ (by omega) (hb0.trans (hb12.mono hb0.size)))
      have HU : Hid (LimbsAt w4 (.slice a2 (trimL zs).length c2) (trimL zs)) := hu2.box HR2.out (by omega) (fun k hk => (hk4 k hk).trans (hk3 k hk))
      obtain ⟨q0, q1, _, _⟩ := cell_box2 hr4
      have hfin : bigOk (bx && !(trimL zs).isEmpty) (trimL zs) ∧ numV (bx && !(trimL zs).isEmpty) (trimL zs) = numV bx xs + numV by_ ys ∧ (trimL zs).length ≤ max xs.length ys.length + 1 := by
        refine ⟨big_trim _ hok, ?_, Nat.le_trans (trimL_len zs) (by omega)⟩
        rw [num_trim]
        unfold numV
        rw [hvz]
        have := HC.out
        rcases HOR.out with ⟨h1, h2⟩ | ⟨h1, h2⟩ <;> simp [h1, h2] <;> omega
      have HFIN := Lib.hid hfin
      rw [← hw3, ← hw4]
      clear hfin hw3 hw4 hr3 hr4 hk3 hk4 hB3 hB4 hu hu2 hok hvz hlz PL r0 r1 f0 f1 m0 m1 m2 m3 k0 k1 k2 k3
      go_wp2
      refine bodyPost_ret (v := .agg #[.bool (bx && !(trimL zs).isEmpty), .slice a2 (trimL zs).length c2]) (by simp [results, go_sem, q0, q1]) rfl ?_
      exact ⟨_, _, trimL zs, rfl, ⟨_, rfl, HU.out⟩, HFIN.out.1, HFIN.out.2.1, HFIN.out.2.2, hb4⟩

end Go.Proofs.YtgbalofdfdafmaaDoor
namespace Go.Proofs.YtgbalofdfdafmaaDoor
open Go.RowKit
set_option maxRecDepth 100000

/-- A whole block of limbs. -/
def OwnLimbs (w : World) (b : Nat) (xs : List Nat) : Prop := w.heap[b]? = some (.cells (limbs xs).toArray 92 (0, 0))
theorem OwnLimbs.lt {w : World} {b : Nat} {xs : List Nat} (h : OwnLimbs w b xs) : b < w.heap.size := (Array.getElem?_eq_some_iff.1 h).1
theorem OwnLimbs.cell {w : World} {b : Nat} {xs : List Nat} (h : OwnLimbs w b xs) {i : Nat} (hi : i < xs.length) : w.cell? ⟨b, i, none⟩ = some (.int .u64 ((xs.getD i 0 : Nat) : Int)) := by
  simp [World.cell?, show w.heap[b]? = _ from h, List.getD, hi, limbs]
theorem OwnLimbs.free {w : World} {b : Nat} {xs : List Nat} (h : OwnLimbs w b xs) (i : Nat) : w.frozen? ⟨b, i, none⟩ = false := by
  simp [World.frozen?, show w.heap[b]? = _ from h]
theorem OwnLimbs.set {w : World} {b : Nat} {xs : List Nat} (h : OwnLimbs w b xs) (i : Nat) (x : Nat) : OwnLimbs (w.setCell ⟨b, i, none⟩ (.int .u64 (x : Int))) b (xs.set i x) := by
  unfold OwnLimbs at h ⊢
  simp [World.setCell, Array.getElem?_modify, h, limbs, List.map_set]
theorem OwnLimbs.at {w : World} {b : Nat} {xs : List Nat} (h : OwnLimbs w b xs) (hl : xs.length ≤ 4096) : LimbsAt w (.slice (some ⟨b, 0, none⟩) xs.length xs.length) xs :=
  ⟨_, _, rfl, hl, ⟨Nat.le_refl _, by omega, fun e => by cases e⟩, fun _ => ⟨b, 0, rfl, ⟨h.lt, _, _, h⟩, fun i hi => by rw [Nat.zero_add]; exact h.cell hi⟩⟩
theorem made_limbs (n : Nat) : (madeCells #[Value.int .u64 0] n).toList = limbs (List.replicate n 0) := by
  simp [madeCells, Nat.mod_one, List.map_const', limbs]


end Go.Proofs.YtgbalofdfdafmaaDoor
namespace Go.Proofs.YtgbalofdfdafmaaDoor
open Go.RowKit
set_option maxRecDepth 100000

set_option maxHeartbeats 1600000 in
theorem turned_any (below : Bool) (v : Value) (xs : List Nat) (w : World) (h : LimbsAt w v xs) :
    Calls Tryd.prog 66 #[.agg #[.bool below, v]] w (BigPost (!below && !(trimL xs).isEmpty) (trimL xs) w) := by
  obtain ⟨ao, cap, rfl, _, _, _⟩ := h.val
  obtain ⟨w0, hw0⟩ : ∃ w0, w0 = (w.alloc (.cells #[.bool below, .slice ao xs.length cap] 78)).alloc (.cells #[.bool false, .slice none 0 0] 78) := ⟨_, rfl⟩
  have hs0 : w0.heap.size = w.heap.size + 2 := by rw [hw0]; simp
  have hb0 : Below w.heap.size w w0 := by rw [hw0]; exact ((Below.refl _ w).alloc (Nat.le_refl _) _).alloc (by simp) _
  have hx0 : w0.heap[w.heap.size]? = some (.cells #[.bool below, .slice ao xs.length cap] 78 (0, 0)) := by
    rw [hw0]; exact (Below.heap_alloc _ _ _ (by simp)).trans (heap_alloc_new _ _)
  have hr0 : w0.heap[w.heap.size + 1]? = some (.cells #[.bool false, .slice none 0 0] 78 (0, 0)) := by
    have := heap_alloc_new (w.alloc (.cells #[.bool below, .slice ao xs.length cap] 78)) (.cells #[.bool false, .slice none 0 0] 78)
    rw [hw0]
    rwa [show (w.alloc (.cells #[.bool below, .slice ao xs.length cap] 78)).heap.size = w.heap.size + 1 by simp] at this
  have TR := trim_any (!below) ao cap xs w0 (h.mono hb0)
  obtain ⟨a0, a1, _, _⟩ := cell_box2 hx0
  have HR := Lib.hid hr0
  clear h hx0 hr0
  go_enter Tryd.func66, Tryd.ntmps66
  go_wp2_with (rw [← hw0])
  refine TR.mono ?_
  rintro e w1 ⟨v1, rfl, ⟨u, rfl, hu⟩, hb1⟩
  obtain ⟨au, cu, rfl, _, _, _⟩ := hu.val
  have hr1 := (hb1.block (w.heap.size + 1) (by omega)).trans HR.out
  obtain ⟨w2, hw2, hr2, hz2, hk2, hB2⟩ := set_box2' hr1 (.bool (!below && !(trimL xs).isEmpty))
  obtain ⟨w3, hw3, hr3, hz3, hk3, hB3⟩ := set_box2 hr2 (.slice au (trimL xs).length cu)
  have hb3 := hB3 _ _ (Nat.le_succ _) (hB2 _ _ (Nat.le_succ _) (hb0.trans (hb1.mono hb0.size)))
  obtain ⟨q0, q1, _, _⟩ := cell_box2 hr3
  obtain ⟨c0, c1, o0, o1⟩ := cell_box2 hr1
  have HW2 := Lib.hid hw2
  have HW3 := Lib.hid hw3
  have HU : Hid (LimbsAt w3 (.slice au (trimL xs).length cu) (trimL xs)) := by
    exact hu.box hr1 (by omega) (fun k hk => (hk3 k hk).trans (hk2 k hk))
  clear hr1 hr2 hr3 hk2 hk3 hB2 hB3 hw2 hw3 TR hw0 hu
  go_wp2
  rw [← HW2.out, ← HW3.out]
  refine bodyPost_ret (v := .agg #[.bool (!below && !(trimL xs).isEmpty), .slice au (trimL xs).length cu]) (by simp [results, go_sem, q0, q1]) rfl ?_
  exact ⟨_, rfl, ⟨_, rfl, HU.out⟩, hb3⟩

end Go.Proofs.YtgbalofdfdafmaaDoor
