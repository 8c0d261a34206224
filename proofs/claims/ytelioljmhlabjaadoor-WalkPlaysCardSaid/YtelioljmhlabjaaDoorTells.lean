/- The walk of tells: all that is told of a walk is what the reference tells. -/
import Derived.Test.YtelioljmhlabjaaDoorRg41
import Derived.Test.YtelioljmhlabjaaDoorRw4
namespace Go.Proofs.YtelioljmhlabjaaDoor
open Go.RowKit
set_option maxRecDepth 100000

set_option maxHeartbeats 1600000 in
theorem tells_any (b S A N n : Nat) (ev : Value) (rows : List Value) (es : List (Int × Int)) (lim : Int) (st : List Int) (rv : Value) (w : World)
    (hW : WkM w b S A N n ev rows es lim st (cnts n (aheadN es st))) (h : RwM w rv n es lim st) (hn : n ≤ 512) (hes : ∀ e ∈ es, 0 ≤ e.1 ∧ e.1 < n ∧ 0 ≤ e.2 ∧ e.2 < n) :
    Calls Tryd.prog 41 #[.pointer (some ⟨b, 0, none⟩), rv] w fun e w' => e = .returned (.bool true) ∧ Below w.heap.size w w' := by
  have HWM := Lib.hid hW
  have HRM := Lib.hid h
  have HES := Lib.hid hes
  obtain ⟨ae, ce, sa, cs, rfl, hed, hst, hln⟩ := h
  have hxs : w.heap.size < (w.alloc (.cells #[.slice ae es.length ce, .int .i64 lim, .slice sa n cs] 58)).heap.size := by simp
  have hb0 : Below w.heap.size w (w.alloc (.cells #[.slice ae es.length ce, .int .i64 lim, .slice sa n cs] 58)) := (Below.refl _ _).alloc (Nat.le_refl _) _
  have hbx : (w.alloc (.cells #[.slice ae es.length ce, .int .i64 lim, .slice sa n cs] 58)).heap[w.heap.size]? = some (.cells #[.slice ae es.length ce, .int .i64 lim, .slice sa n cs] 58 (0, 0)) := heap_alloc_new _ _
  clear hW hes hed hst
  go_enter Tryd.func41, Tryd.ntmps41
  go_wp2
  obtain ⟨w0, hw0⟩ : ∃ w0, w0 = w.alloc (.cells #[.slice ae es.length ce, .int .i64 lim, .slice sa n cs] 58) := ⟨_, rfl⟩
  rw [← hw0] at hxs hb0 hbx ⊢
  clear hw0
  go_loopg [5] (n + 2) (fun g v5 wr => ∃ k : Nat, k + g = n + 2 ∧ v5 = .int .i64 ((k : Int) - 1) ∧ Below w0.heap.size w0 wr)
  case atStart => exact ⟨0, by omega, rfl, Below.refl _ _⟩
  case round =>
    obtain ⟨k, hkg, rfl, hb⟩ := hrel
    have hB : Below w.heap.size w wr := hb0.trans (hb.mono hb0.size)
    have hx := (hb.block _ hxs).trans hbx
    have hsz := hb.size
    obtain ⟨y0, y1, y2, _⟩ := box3 hx
    cases gk with
    | zero =>
      have hle : ¬ ((k : Int) - 1 ≤ (n : Int)) := by omega
      have RC := rchoices_any _ n es lim st wr (HRM.out.mono hB) hn HES.out
      clear hb
      go_wp2_with fail
      refine RC.mono ?_
      rintro e w1 ⟨v1, rfl, hv1, hb1⟩
      have hB1 := hB.trans (hb1.mono hB.size)
      obtain ⟨al, cl, hv, _, _⟩ := hv1.val
      rw [ints_len] at hv
      subst hv
      have hx1 := (hb1.block _ (by omega)).trans hx
      have hBd : Below w.heap.size w w1.drew := hB1.drew
      have hxd : w1.drew.heap[w.heap.size]? = some (.cells #[.slice ae es.length ce, .int .i64 lim, .slice sa n cs] 58 (0, 0)) := hx1
      obtain ⟨z0, z1, z2, _⟩ := box3 hxd
      clear RC hv1 hb1 y0 y1 y2 hx hx1
      go_upto_region 7 with fail
      refine region41x7 _ _ _ b S A N n ev rows es lim st w.heap.size ae ce sa cs al cl rfl rfl rfl HES.out rfl z0 z1 z2 (HWM.out.below hBd) (HRM.out.mono hBd) hn ?_
      intro a' w2 hb2 _ hdf _ hv
      have hB2 := hBd.trans (hb2.mono hBd.size)
      go_wp2
      refine bodyPost_ret (v := .bool true) ?_ hdf ⟨rfl, hB2⟩
      simp only [Act.eval, Array.getD_eq_getD_getElem?] at hv
      simp [results, go_sem, hv]
    | succ g =>
      have hle : (k : Int) - 1 ≤ (n : Int) := by omega
      have hBd : Below w.heap.size w wr.drew := hB.drew
      have hxd : wr.drew.heap[w.heap.size]? = some (.cells #[.slice ae es.length ce, .int .i64 lim, .slice sa n cs] 58 (0, 0)) := hx
      obtain ⟨z0, z1, z2, _⟩ := box3 hxd
      clear hx
      go_upto_region 4 with fail
      refine region41x4 _ _ _ b S A N n ev rows es lim st w.heap.size ae ce sa cs ((k : Int) - 1) rfl rfl rfl rfl z0 z1 z2 (HWM.out.below hBd) (HRM.out.mono hBd) hn ?_
      intro w2 hb2
      have hB2 : Below w0.heap.size w0 w2 := hb.trans (((Below.refl _ wr).drew.trans hb2).mono hb.size)
      clear hb hb2 hB hBd hxd z0 z1 z2 y0 y1 y2
      simp only [Act.put, List.setIfInBounds_toArray, List.set_cons_succ, List.set_cons_zero]
      go_wp2
      go_roundg g
      case measure => omega
      case rel => exact ⟨k + 1, by omega, by go_num, hB2⟩

end Go.Proofs.YtelioljmhlabjaaDoor
