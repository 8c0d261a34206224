/- A walk and the reference's value side by side, in memory. -/
import Derived.Test.YtelioljmhlabjaaDoorPlay0
namespace Go.Proofs.YtelioljmhlabjaaDoor
open Go.RowKit
set_option maxRecDepth 100000

/-- The value's block is none of the walk's. -/
structure Sep (w : World) (Q b S A N n : Nat) (ev : Value) (rows : List Value) : Prop where
  blk : b ≠ Q ∧ S ≠ Q ∧ A ≠ Q ∧ N ≠ Q
  ed : ∀ k, ev.ownBlock = some k → k ≠ Q
  row : ∀ i, i < n → ∀ k, (rows.getD i (.slice none 0 0)).ownBlock = some k → k ≠ Q
  old : w.heap.size ≤ Q ∧ w.heap.size ≤ S ∧ w.heap.size ≤ A
structure PlMem (w wr : World) (Q b S A N n : Nat) (ev : Value) (rows : List Value) (es : List (Int × Int)) (lim : Int) (ag : Option Addr) (cg : Nat) (sa : Option Addr) (cs : Nat) (st : List Int) : Prop where
  wk : WkM wr b S A N n ev rows es lim st (cnts n (aheadN es st))
  bx : wr.heap[Q]? = some (.cells #[.slice ag es.length cg, .int .i64 lim, .slice sa n cs] 58 (0, 0))
  ia : IntsAt wr (.slice sa n cs) st
  fr : ∀ a, sa = some a → a.block ≠ S ∧ a.block ≠ A ∧ a.block ≠ Q
  inv : WInv es st
  bel : Below w.heap.size w wr

section
variable {w wr : World} {Q b S A N n : Nat} {ev : Value} {rows : List Value} {es : List (Int × Int)} {lim : Int} {ag : Option Addr} {cg : Nat} {sa : Option Addr} {cs : Nat} {st : List Int}
theorem PlMem.qlt (h : PlMem w wr Q b S A N n ev rows es lim ag cg sa cs st) : Q < wr.heap.size := (Array.getElem?_eq_some_iff.1 h.bx).1
theorem PlMem.below {w' : World} (h : PlMem w wr Q b S A N n ev rows es lim ag cg sa cs st) (hb : Below wr.heap.size wr w') : PlMem w w' Q b S A N n ev rows es lim ag cg sa cs st :=
  ⟨h.wk.below hb, (hb.block _ h.qlt).trans h.bx, h.ia.mono hb, h.fr, h.inv, h.bel.trans (hb.mono h.bel.size)⟩
theorem PlMem.rw (h : PlMem w wr Q b S A N n ev rows es lim ag cg sa cs st) (he : PairsAt w (.slice ag es.length cg) es) : RwM wr (.agg #[.slice ag es.length cg, .int .i64 lim, .slice sa n cs]) n es lim st :=
  ⟨ag, cg, sa, cs, rfl, he.mono h.bel, h.ia, h.wk.lst⟩
/-- Behind a call of the walk. -/
theorem PlMem.mid {w1 : World} (h : PlMem w wr Q b S A N n ev rows es lim ag cg sa cs st) (hs : Sep w Q b S A N n ev rows) (hc : ChSA S A wr w1) :
    w1.heap[Q]? = some (.cells #[.slice ag es.length cg, .int .i64 lim, .slice sa n cs] 58 (0, 0)) ∧ IntsAt w1 (.slice sa n cs) st ∧ Below w.heap.size w w1 := by
  refine ⟨(hc.block Q h.qlt (fun e => hs.blk.2.1 e.symm) (fun e => hs.blk.2.2.1 e.symm)).trans h.bx, h.ia.stay hc.size fun a ha hlt => hc.block _ hlt (h.fr a ha).1 (h.fr a ha).2.1, ?_⟩
  have hz := h.bel.size
  exact h.bel.trans ⟨hc.os, hc.tape, hc.output, by have := hc.size; omega, fun k hk => hc.block k (by omega) (by have := hs.old; omega) (by have := hs.old; omega)⟩
/-- Behind the reference's call, its value stored. -/
theorem PlMem.fin {w1 w2 : World} {sb : Option Addr} {cb : Nat} {st' : List Int} (h : PlMem w wr Q b S A N n ev rows es lim ag cg sa cs st) (hs : Sep w Q b S A N n ev rows) (hw : WkM w1 b S A N n ev rows es lim st' (cnts n (aheadN es st'))) (hc : ChSA S A wr w1)
    (hi : IntsAt w2 (.slice sb n cb) st') (hf : ∀ a, sb = some a → sa = some a ∨ w1.heap.size ≤ a.block) (hb : Below w1.heap.size w1 w2) (hinv : WInv es st') :
    ∃ w6, w6 = ((w2.setCell ⟨Q, 0, none⟩ (.slice ag es.length cg)).setCell ⟨Q, 1, none⟩ (.int .i64 lim)).setCell ⟨Q, 2, none⟩ (.slice sb n cb) ∧ PlMem w w6 Q b S A N n ev rows es lim ag cg sb cb st' := by
  obtain ⟨m1, _, m3⟩ := h.mid hs hc
  have hq := h.qlt
  have hz := hc.size
  have hx : w2.heap[Q]? = some (.cells #[.slice ag es.length cg, .int .i64 lim, .slice sa n cs] 58 (0, 0)) := (hb.block Q (by omega)).trans m1
  have hS := hw.sst.lt
  have hA := hw.sah.lt
  have hfb : ∀ a, sb = some a → a.block ≠ S ∧ a.block ≠ A ∧ a.block ≠ Q := fun a ha => by
    rcases hf a ha with h1 | h1
    · exact h.fr a h1
    · omega
  obtain ⟨w6, hw6, g6, g7, g8, g9⟩ := set3 hx (.slice ag es.length cg) (.int .i64 lim) (.slice sb n cb)
  refine ⟨w6, hw6, ⟨?_, g6, hi.stay (by omega) fun a ha _ => g8 _ (hfb a ha).2.2, hfb, hinv, g9 _ _ hs.old.1 (m3.trans (hb.mono m3.size))⟩⟩
  exact (hw.below hb).kept (fun k => k = Q) ⟨hs.blk.1, hs.blk.2.1, hs.blk.2.2.1, hs.blk.2.2.2⟩ hs.ed hs.row (by omega) fun k hk _ => g8 k hk
end

end Go.Proofs.YtelioljmhlabjaaDoor
