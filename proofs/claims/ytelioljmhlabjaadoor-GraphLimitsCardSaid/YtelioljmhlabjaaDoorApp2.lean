/- An append of any ints that are read, to a row of the call's own; a row of the call's own stays where its blocks stay. -/
import Derived.Test.YtelioljmhlabjaaDoorClone
import Derived.Test.YtelioljmhlabjaaDoorS1
namespace Go.Proofs.YtelioljmhlabjaaDoor
open Go.RowKit

theorem own_keep {w w' : World} {base e size n : Nat} {v : Value} {xs : List Value} (h : w.ownsRow base e size v n xs) (hk : ∀ k, base ≤ k → k < w.heap.size → w'.heap[k]? = w.heap[k]?) : w'.ownsRow base e size v n xs := by
  refine ⟨h.1, ?_⟩
  rcases h.2 with h2 | ⟨g, cap, cur, hv, hg, hh, r⟩
  · exact .inl h2
  · exact .inr ⟨g, cap, cur, hv, hg, (hk g hg (Array.getElem?_eq_some_iff.1 hh).1).trans hh, r⟩
theorem own_below {w w' : World} {base e size n : Nat} {v : Value} {xs : List Value} (h : w.ownsRow base e size v n xs) (hb : Below w.heap.size w w') : w'.ownsRow base e size v n xs :=
  own_keep h fun k _ hk => hb.block k hk
theorem own_only {w w' : World} {base e size n b : Nat} {v : Value} {xs : List Value} (h : w.ownsRow base e size v n xs) (hb : OnlyB b w w') (hlt : b < base) : w'.ownsRow base e size v n xs :=
  own_keep h fun k h1 _ => hb.block k (by omega)
theorem grown_refl (w : World) (r : Option Nat) : w.grownBy w r := ⟨rfl, rfl, rfl, Nat.le_refl _, fun _ _ _ => rfl⟩

theorem wpList_append_ints (w : World) {ops : Array Oper} {rest : List Oper} {o : Oper} {a : Act} {Q : Exit → Act → World → Prop} (hgd : o.guard = none) (s x : Operand)
    (ho : o.op = .call { callee := .builtin .append, args := #[s, x], argTypes := #[26, 26] })
    (base : Nat) (v : Value) (n : Nat) (xs : List Value) (hs : a.eval s = v) (hown : w.ownsRow base 3 1 v n xs)
    (vx : Value) (ys : List Int) (hx : a.eval x = vx) (hys : IntsAt w vx ys)
    (hb : n + ys.length ≤ 1000000) (hbase : base ≤ w.heap.size)
    (h : ∀ v' w', w'.ownsRow base 3 1 v' (n + ys.length) (xs ++ ys.map (Value.int .i64)) → w.grownBy w' v.ownBlock → (v'.ownBlock = v.ownBlock ∨ v'.ownBlock = some w.heap.size) → wpList Tryd.prog ops Q rest (a.put o.dst v') w') : wpList Tryd.prog ops Q (o :: rest) a w := by
  obtain ⟨i0, hi, hz0, hz1, hz2⟩ := info_parts Tryd.info3
  obtain ⟨ao, cap, rfl, _, hm, hc⟩ := hys
  cases ao with
  | none =>
    obtain rfl := hm.2.2 rfl
    have : ys = [] := List.eq_nil_of_length_eq_zero (by omega)
    subst this
    refine wpList_append_own_none hgd s x 26 ho base 3 i0 1 Tryd.underlying26 hi v n xs hs hown hx ?_
    exact h v w (by simpa using hown) (grown_refl _ _) (Or.inl rfl)
  | some ad =>
    refine wpList_append_fresh w hgd s x 26 ho base 3 i0 _ 1 8 Tryd.underlying26 hi hz0 hz1 hz2 rfl (by decide) v n xs hs hown ad ys.length cap (ys.map (Value.int .i64)) hx (by simp) ?_ (ints_one ys) (by unfold maxLen; omega) (by omega) hbase h
    by_cases he : ys = []
    · subst he; intro j u hu; simp at hu
    · obtain ⟨b, off, had, _, hcell⟩ := hc he
      cases had
      exact ints_cells hcell

end Go.Proofs.YtelioljmhlabjaaDoor
