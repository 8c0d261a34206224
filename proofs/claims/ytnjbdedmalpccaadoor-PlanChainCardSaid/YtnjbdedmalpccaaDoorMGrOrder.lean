/- Walk of the program's Order, of own, and the two examples: awake. Walk of own: edges with memory of their own. An append of any ints that are read, to a row of the call's own; a row of the call's own stays where its blocks stay. -/
import Derived.Test.YtnjbdedmalpccaaDoorGrOrd
import Derived.Test.YtnjbdedmalpccaaDoorGrG4
import Derived.Test.YtnjbdedmalpccaaDoorGrApp
import Derived.Laws.AppendOwnNone
import Derived.Test.YtnjbdedmalpccaaDoorGrS1
namespace Go.Proofs.YtnjbdedmalpccaaDoor
open Go.RowKit

def OrderPost (n : Int) (es : List (Int × Int)) (w : World) (e : Ending) (w' : World) : Prop :=
  ∃ v', e = .returned (.tuple #[v', .int .i64 (orderR n es).2]) ∧ IntsAt w' v' (orderR n es).1 ∧ Below w.heap.size w w'

set_option maxRecDepth 100000 in
set_option maxHeartbeats 800000 in
theorem Order_any (v : Value) (es : List (Int × Int)) (n : Int) (w : World) (hT : Tab w) (h : PairsAt w v es) :
    Calls Tryd.prog 13 #[.int .i64 n, v] w (OrderPost n es w) := by
  have LK := look_any v (.slice none 0 0) es [] n w h (IntsAt.nil w)
  by_cases h0 : lookE n es [] = 0
  · obtain ⟨hn0, hn1, _, hes, _⟩ := lookE_zero h0
    obtain ⟨m, rfl⟩ := Int.eq_ofNat_of_zero_le hn0
    rw [h0] at LK
    have HR : Hid (orderR (m : Int) es = if ((kahn m es).length : Int) < (m : Int) then ([], 130) else ((kahn m es).map (fun i : Nat => (i : Int)), 0)) := by
      unfold orderR; rw [Hid, if_pos h0, Int.toNat_natCast]
    clear h0
    have HES := Lib.hid hes
    clear hes
    go_enter Tryd.func13, Tryd.ntmps13
    go_wp2_with fail
    refine LK.mono ?_
    rintro e w1 ⟨rfl, hb1⟩
    have OR := order_any v es m w1 (hT.mono hb1) (h.mono hb1) (by omega) HES.out
    clear LK hT h
    go_wp2_with fail
    refine OR.mono ?_
    rintro e w2 ⟨lv, rfl, hli, hb2, _⟩
    have hb3 : Below w.heap.size w w2 := hb1.trans (hb2.mono hb1.size)
    have hkl := (kahn_ok m es).len
    obtain ⟨ao, cap, hv, _, _⟩ := hli.val
    rw [List.length_map] at hv
    subst hv
    clear hb1 hb2 OR
    by_cases hlt : (kahn m es).length < m
    · have HE : Hid (orderR (m : Int) es = ([], 130)) := by rw [Hid, HR.out, if_pos (by omega)]
      generalize (kahn m es).length = c at hlt hkl
      clear HR hli
      go_wp2
      go_ret2
      exact ⟨_, by rw [HE.out]; rfl, by rw [HE.out]; exact IntsAt.nil _, hb3⟩
    · have HE : Hid (orderR (m : Int) es = ((kahn m es).map (fun i : Nat => (i : Int)), 0)) := by rw [Hid, HR.out, if_neg (by omega)]
      have HLI := Lib.hid hli
      generalize (kahn m es).length = c at hlt hkl HLI
      clear HR hli
      go_wp2
      go_ret2
      exact ⟨_, by rw [HE.out]; rfl, by rw [HE.out]; exact HLI.out, hb3⟩
  · have HE : Hid (orderR n es = ([], lookE n es [])) := by unfold orderR; rw [Hid, if_neg h0]
    have hne : (lookE n es [] != 0) = true := by simpa using h0
    generalize lookE n es [] = c at LK HE hne
    clear h0 hT h
    go_enter Tryd.func13, Tryd.ntmps13
    go_wp2_with fail
    refine LK.mono ?_
    rintro e w1 ⟨rfl, hb1⟩
    go_wp2_with fail
    go_ret2
    exact ⟨_, by rw [HE.out]; rfl, by rw [HE.out]; exact IntsAt.nil _, hb1⟩

end Go.Proofs.YtnjbdedmalpccaaDoor
namespace Go.Proofs.YtnjbdedmalpccaaDoor
open Go.RowKit
set_option maxRecDepth 100000

theorem Tryd.info56 : (Tryd.prog.info? 56).map (fun i => (i.zero, i.size, i.bytes)) = some (some (.agg #[.int .i64 0, .int .i64 0]), 2, 16) := by kernel_rfl

def pairCells (es : List (Int × Int)) : List Value := es.flatMap fun p => [Value.int .i64 p.1, Value.int .i64 p.2]
theorem pairCells_len (es : List (Int × Int)) : (pairCells es).length = es.length * 2 := by
  induction es with
  | nil => rfl
  | cons p l ih => simp only [pairCells, List.flatMap_cons, List.length_append, List.length_cons, List.length_nil] at ih ⊢; omega
theorem pairCells_one (es : List (Int × Int)) : ∀ u ∈ pairCells es, u.oneCell' = true := by
  intro u hu
  obtain ⟨p, _, h⟩ := List.mem_flatMap.1 hu
  simp at h
  rcases h with rfl | rfl <;> rfl
theorem pairCells_get : ∀ (l : List (Int × Int)) (i : Nat), i < l.length → (pairCells l)[i * 2]? = some (.int .i64 (l.getD i (0, 0)).1) ∧ (pairCells l)[i * 2 + 1]? = some (.int .i64 (l.getD i (0, 0)).2) := by
  intro l
  induction l with
  | nil => intro i hi; simp at hi
  | cons p l ih =>
    intro i hi
    cases i with
    | zero => simp [pairCells]
    | succ i =>
      have := ih i (by simpa using hi)
      have e1 : (i + 1) * 2 = i * 2 + 1 + 1 := by omega
      simp only [pairCells, e1, List.flatMap_cons, List.cons_append, List.nil_append, List.getElem?_cons_succ, List.getD_cons_succ] at this ⊢
      exact this
/-- The cells of a slice of pairs, as the laws on append ask for them. -/
theorem pairs_cells {w : World} {b off : Nat} {es : List (Int × Int)} (h : ∀ i, i < es.length → w.cell? ⟨b, off + i * 2, none⟩ = some (.int .i64 (es.getD i (0, 0)).1) ∧ w.cell? ⟨b, off + i * 2 + 1, none⟩ = some (.int .i64 (es.getD i (0, 0)).2)) :
    ∀ j u, (pairCells es)[j]? = some u → w.cell? ((⟨b, off, none⟩ : Addr).add j) = some u := by
  intro j u hu
  have hj : j < es.length * 2 := by rw [← pairCells_len]; exact (List.getElem?_eq_some_iff.1 hu).1
  have hi : j / 2 < es.length := by omega
  have h2 := pairCells_get es (j / 2) hi
  rw [Addr.add_lit]
  rcases Nat.mod_two_eq_zero_or_one j with e | e
  · have ej : j = j / 2 * 2 := by omega
    rw [← ej] at h2
    have := (h _ hi).1
    rw [← ej] at this
    rw [this]; rw [h2.1] at hu; exact hu
  · have ej : j = j / 2 * 2 + 1 := by omega
    rw [← ej] at h2
    have := (h _ hi).2
    rw [Nat.add_assoc, ← ej] at this
    rw [this]; rw [h2.2] at hu; exact hu

end Go.Proofs.YtnjbdedmalpccaaDoor
namespace Go.Proofs.YtnjbdedmalpccaaDoor
open Go.RowKit

theorem own_keep {w w' : World} {base e size n : Nat} {v : Value} {xs : List Value} (h : w.ownsRow base e size v n xs) (hk : ∀ k, base ≤ k → k < w.heap.size → w'.heap[k]? = w.heap[k]?) : w'.ownsRow base e size v n xs := by
  refine ⟨h.1, ?_⟩
  rcases h.2 with h2 | ⟨g, cap, cur, hv, hg, hh, r⟩
  · exact .inl h2
  · exact .inr ⟨g, cap, cur, hv, hg, (hk g hg (Array.getElem?_eq_some_iff.1 hh).1).trans hh, r⟩
theorem own_below {w w' : World} {base e size n : Nat} {v : Value} {xs : List Value} (h : w.ownsRow base e size v n xs) (hb : Below w.heap.size w w') : w'.ownsRow base e size v n xs :=
  own_keep h fun k _ hk => hb.block k hk
theorem own_only {w w' : World} {base e size n b : Nat} {v : Value} {xs : List Value} (h : w.ownsRow base e size v n xs) (hb : OnlyB b w w') (hlt : b < base) : w'.ownsRow base e size v n xs :=
  own_keep h fun k h1 _ => hb.block k (by omega)
theorem grown_refl (w : World) (r : Option Nat) : w.grownBy w r := ⟨rfl, rfl, rfl, Nat.le_refl _, fun _ _ _ => rfl⟩

end Go.Proofs.YtnjbdedmalpccaaDoor
