/- Walk of New: a walk is laid, or it is told what is wrong. -/
import Derived.Test.YtelioljmhlabjaaDoorRg31b
import Derived.Test.YtelioljmhlabjaaDoorWk1
import Derived.Test.YtelioljmhlabjaaDoorOrder
import Derived.Test.YtelioljmhlabjaaDoorTopP
import Derived.Deep.Cut
namespace Go.Proofs.YtelioljmhlabjaaDoor
open Go.RowKit
set_option maxRecDepth 100000

/-- What is wrong with a new walk. -/
def newE (n : Int) (es : List (Int × Int)) (lim : Int) : Int := if (orderR n es).2 ≠ 0 then (orderR n es).2 else if lim < 1 ∨ 16 < lim then 1 else 0

/-- A new walk's memory, of the first edges. -/
structure NwL (w0 wr : World) (b S A N m base : Nat) (ev : Value) (es : List (Int × Int)) (lim : Int) (q : Nat) (rows : List Value) : Prop where
  bel : Below w0.heap.size w0 wr
  blk : wr.heap[b]? = some (.cells #[.slice (some ⟨S, 0, none⟩) m m, .slice (some ⟨A, 0, none⟩) m m, .slice (some ⟨N, 0, none⟩) m m, ev, .int .i64 lim] 92 (0, 0))
  sst : OwnInts wr S (List.replicate m 0)
  sah : OwnInts wr A (cnts m (aheadN (es.take q) (List.replicate m 0)))
  nb : wr.heap[N]? = some (.cells rows.toArray 26 (0, 0))
  lrw : rows.length = m
  row : ∀ i, i < m → wr.ownsRow base 3 1 (rows.getD i (.slice none 0 0)) (nxN (es.take q) i).length ((ints (nxN (es.take q) i)).map (Value.int .i64))
  rd : ∀ i j, i < m → j < m → i ≠ j → ∀ x, (rows.getD i (.slice none 0 0)).ownBlock = some x → (rows.getD j (.slice none 0 0)).ownBlock ≠ some x
  ed : PairsAt wr ev es
  ge : w0.heap.size ≤ b ∧ w0.heap.size ≤ S ∧ w0.heap.size ≤ A ∧ w0.heap.size ≤ N
  lt : b < base ∧ S < base ∧ A < base ∧ N < base
  bs : base ≤ wr.heap.size
  h0 : b ≠ S ∧ b ≠ A ∧ S ≠ A ∧ N ≠ S ∧ N ≠ A ∧ b ≠ N
  h1 : ∀ k, ev.ownBlock = some k → k ≠ S ∧ k ≠ A ∧ k ≠ N ∧ k ≠ b ∧ k < base

theorem getD_rows {rows : List Value} {p i : Nat} {v d : Value} (hp : p < rows.length) : (rows.set p v).getD i d = if i = p then v else rows.getD i d := by
  by_cases h : i = p
  · subst h; simp [List.getD, hp]
  · have : p ≠ i := fun e => h e.symm
    simp [List.getD, h, List.getElem?_set_ne this]

theorem NwL.step {w0 wr W w1 : World} {b S A N m base : Nat} {ev : Value} {es : List (Int × Int)} {lim : Int} {q p y : Nat} {rows : List Value} {v : Value} (h : NwL w0 wr b S A N m base ev es lim q rows)
    (he : es.take (q + 1) = es.take q ++ [((p : Int), (y : Int))]) (hp : p < m)
    (hWs : W.heap.size = wr.heap.size + 1) (hWo : W.os = wr.os ∧ W.tape = wr.tape ∧ W.output = wr.output) (hWk : ∀ k, k < wr.heap.size → k ≠ A → W.heap[k]? = wr.heap[k]?)
    (hWA : OwnInts W A ((cnts m (aheadN (es.take q) (List.replicate m 0))).set y ((aheadN (es.take q) (List.replicate m 0) y + 1 : Nat) : Int)))
    (hR : RowR W base y (rows.getD p (.slice none 0 0)) ((ints (nxN (es.take q) p)).map (Value.int .i64)) v w1) :
    NwL w0 (w1.setCell ⟨N, p, none⟩ v) b S A N m base ev es lim (q + 1) (rows.set p v) := by
  obtain ⟨hown, hgrow, hfr⟩ := hR
  obtain ⟨g1, g2, g3, g4⟩ := h.ge
  obtain ⟨l1, l2, l3, l4⟩ := h.lt
  obtain ⟨d1, d2, d3, d4, d5, d6⟩ := h.h0
  have hbs := h.bs
  have hrow : ∀ i, i < m → ∀ x, (rows.getD i (.slice none 0 0)).ownBlock = some x → base ≤ x ∧ x < wr.heap.size := fun i hi x hx => (h.row i hi).lt _ hx
  -- what isn't touched
  have k1 : ∀ k, k < wr.heap.size → some k ≠ (rows.getD p (.slice none 0 0)).ownBlock → w1.heap[k]? = W.heap[k]? := fun k hk hne => by
    refine (hgrow.block k (by simp; omega) hne).trans ?_
    exact Below.heap_alloc _ _ _ (by omega)
  have k2 : ∀ k, k < wr.heap.size → some k ≠ (rows.getD p (.slice none 0 0)).ownBlock → k ≠ A → w1.heap[k]? = wr.heap[k]? := fun k hk hne hA => (k1 k hk hne).trans (hWk k hk hA)
  have k3 : ∀ k, k < wr.heap.size → some k ≠ (rows.getD p (.slice none 0 0)).ownBlock → k ≠ A → k ≠ N → (w1.setCell ⟨N, p, none⟩ v).heap[k]? = wr.heap[k]? := fun k hk hne hA hN => (Below.heap_setCell _ _ _ _ hN).trans (k2 k hk hne hA)
  have low : ∀ k, k < base → some k ≠ (rows.getD p (.slice none 0 0)).ownBlock := fun k hk e => by have := (hrow p hp k e.symm).1; omega
  have sz2 : wr.heap.size ≤ w1.heap.size := Nat.le_trans (by simp; omega) hgrow.size
  have sz3 : (w1.setCell ⟨N, p, none⟩ v).heap.size = w1.heap.size := by simp [World.setCell]
  have hsA : OwnInts W A (cnts m (aheadN (es.take (q + 1)) (List.replicate m 0))) := by
    have h2 := hWA
    rw [cnts_set] at h2
    have e : cnts m (fun j => if j = y then aheadN (es.take q) (List.replicate m 0) y + 1 else aheadN (es.take q) (List.replicate m 0) j) = cnts m (aheadN (es.take (q + 1)) (List.replicate m 0)) := by
      refine cnts_congr m _ _ fun j _ => ?_
      rw [he, aheadN_snoc]
      have hz : (List.replicate m (0 : Int)).getD ((p : Int)).toNat 0 ≠ 2 := by
        simp only [List.getD, List.getElem?_replicate, Int.toNat_natCast, hp, if_true, Option.getD_some]
        decide
      by_cases hj : j = y
      · subst hj; rw [if_pos rfl, if_pos ⟨rfl, hz⟩]
      · rw [if_neg hj, if_neg (fun hh => hj (by have := hh.1; simp only at this; omega))]; rfl
    rw [← e]; exact h2
  have hne : ∀ i, nxN (es.take (q + 1)) i = if i = p then nxN (es.take q) i ++ [y] else nxN (es.take q) i := fun i => by
    rw [he, nxN_snoc]
    by_cases hi : i = p
    · subst hi; simp
    · rw [if_neg hi, if_neg (by simp only; omega)]
  refine ⟨?_, ?_, ?_, ?_, ?_, ?_, fun i hi => ?_, fun i j hi hj hij x hx => ?_, ?_, h.ge, h.lt, by rw [sz3]; omega, h.h0, h.h1⟩
  · refine h.bel.trans ⟨(show w1.os = W.os from hgrow.os).trans hWo.1, (show w1.tape = W.tape from hgrow.tape).trans hWo.2.1, (show w1.output = W.output from hgrow.output).trans hWo.2.2, by rw [sz3]; omega, fun k hk => ?_⟩
    have := h.bel.size
    exact k3 k (by omega) (low k (by omega)) (by omega) (by omega)
  · exact (k3 b (by omega) (low b l1) d2 d6).trans h.blk
  · exact h.sst.kept (k3 S (by omega) (low S l2) d3 (fun e => d4 e.symm))
  · exact (hsA.kept (k1 A (by omega) (low A l3))).kept (Below.heap_setCell _ _ _ _ (fun e => d5 e.symm))
  · have hN := (k2 N (by omega) (low N l4) d5).trans h.nb
    have hpl : p < rows.length := by rw [h.lrw]; exact hp
    simp [World.setCell, Array.getElem?_modify, hN]
  · rw [List.length_set]; exact h.lrw
  · rw [getD_rows (by rw [h.lrw]; exact hp), hne i]
    by_cases hip : i = p
    · subst hip
      rw [if_pos rfl, if_pos rfl]
      have := ownsRow_setCell_below hown (a := ⟨N, i, none⟩) (show N < base by omega) v
      simpa [ints] using this
    · rw [if_neg hip, if_neg hip]
      refine ⟨(h.row i hi).1, ?_⟩
      rcases (h.row i hi).2 with e | ⟨g, cap, cur, e, eb, eh, r⟩
      · exact .inl e
      · have hgl : g < wr.heap.size := (Array.getElem?_eq_some_iff.1 eh).1
        refine .inr ⟨g, cap, cur, e, eb, (k3 g hgl (fun e2 => ?_) (by omega) (by omega)).trans eh, r⟩
        exact h.rd i p hi hp hip g (by rw [e]; rfl) e2.symm
  · rw [getD_rows (by rw [h.lrw]; exact hp)] at hx ⊢
    by_cases hip : i = p
    · rw [if_pos hip] at hx
      have hjp : ¬ j = p := fun e => hij (hip.trans e.symm)
      rw [if_neg hjp]
      rcases hfr with hf | hf
      · rw [hf] at hx
        exact h.rd p j hp hj (fun e => hjp e.symm) x hx
      · rw [hf, hWs] at hx
        intro e
        have := (hrow j hj x e).2
        have := Option.some.inj hx
        omega
    · rw [if_neg hip] at hx
      by_cases hjp : j = p
      · rw [if_pos hjp]
        intro e
        rcases hfr with hf | hf
        · rw [hf] at e
          exact h.rd i p hi hp hip x hx e
        · rw [hf, hWs] at e
          have := (hrow i hi x hx).2
          have := Option.some.inj e
          omega
      · rw [if_neg hjp]
        exact h.rd i j hi hj hij x hx
  · refine h.ed.keep (by rw [sz3]; omega) (fun k hk hkl => ?_)
    obtain ⟨a1, a2, a3, a4, a5⟩ := h.h1 k hk
    exact k3 k hkl (low k a5) a2 a3

/-- What New leaves: a walk, no node of which has started. -/
def NewPost (m : Nat) (es : List (Int × Int)) (lim : Int) (w : World) (e : Ending) (w' : World) : Prop :=
  ∃ b S A N ev rows, e = .returned (.tuple #[.pointer (some ⟨b, 0, none⟩), .int .i64 0]) ∧ WkM w' b S A N m ev rows es lim (List.replicate m 0) (cnts m (aheadN es (List.replicate m 0))) ∧ Below w.heap.size w w' ∧ w.heap.size ≤ S ∧ w.heap.size ≤ A

/-- The same, with all of the walk's memory new. -/
def NewPostF (m : Nat) (es : List (Int × Int)) (lim : Int) (w : World) (e : Ending) (w' : World) : Prop :=
  ∃ b S A N ev rows, e = .returned (.tuple #[.pointer (some ⟨b, 0, none⟩), .int .i64 0]) ∧ WkM w' b S A N m ev rows es lim (List.replicate m 0) (cnts m (aheadN es (List.replicate m 0))) ∧ Below w.heap.size w w' ∧ w.heap.size ≤ b ∧ w.heap.size ≤ S ∧ w.heap.size ≤ A ∧ w.heap.size ≤ N ∧
    (∀ k, ev.ownBlock = some k → w.heap.size ≤ k ∧ k < w'.heap.size) ∧ ∀ i, i < m → ∀ k, (rows.getD i (.slice none 0 0)).ownBlock = some k → w.heap.size ≤ k ∧ k < w'.heap.size

set_option maxHeartbeats 4000000 in
theorem new_fresh (v : Value) (es : List (Int × Int)) (m : Nat) (lim : Int) (w : World) (hT : Tab w) (h : PairsAt w v es) (ho : (orderR m es).2 = 0) (hl1 : 1 ≤ lim) (hl2 : lim ≤ 16) (hesl : es.length ≤ 4096) :
    Calls Tryd.prog 31 #[.int .i64 m, v, .int .i64 lim] w (NewPostF m es lim w) := by
  obtain ⟨m', hm', hm, hes, _, _⟩ := orderR_zero ho
  obtain rfl : m = m' := by omega
  clear hm'
  have OR := Order_any v es (m : Int) w hT h
  unfold OrderPost at OR
  rw [ho] at OR
  have HES := Lib.hid hes
  clear hes hT ho
  go_enter Tryd.func31, Tryd.ntmps31
  go_wp2_with fail
  refine OR.mono ?_
  rintro e w1 ⟨lv, rfl, _, hb1⟩
  have h1 := h.mono hb1
  clear OR h
  go_upto_region 6 with fail
  refine region31a _ _ _ m v es lim hm (by omega) rfl rfl rfl rfl (h1.mono ((Below.refl _ w1).drew)) ?_
  intro w2 b S A N ev hP
  have hs0 : w1.drew.heap.size = w1.heap.size := rfl
  have hgw := hb1.size
  have hL0 : NwL w w2 b S A N m w2.heap.size ev es lim 0 (List.replicate m (.slice none 0 0)) := by
    obtain ⟨g1, g2, g3, g4⟩ := hP.ge
    refine ⟨hb1.trans (((Below.refl _ w1).drew.trans hP.bel).mono hgw), hP.blk, hP.sst, ?_, ?_, by simp, fun i hi => ?_, fun i j hi hj hij x hx => ?_, ?_, ⟨by omega, by omega, by omega, by omega⟩,
      ⟨(Array.getElem?_eq_some_iff.1 hP.blk).1, hP.sst.lt, hP.sah.lt, (Array.getElem?_eq_some_iff.1 hP.nb).1⟩, Nat.le_refl _, hP.h0, fun k hk => ?_⟩
    · have e : cnts m (aheadN (es.take 0) (List.replicate m 0)) = List.replicate m 0 := by
        unfold cnts aheadN
        simp [List.map_const']
      rw [e]; exact hP.sah
    · rw [hP.nb]; simp
    · have e : (List.replicate m (Value.slice none 0 0)).getD i (.slice none 0 0) = .slice none 0 0 := by simp [List.getD, hi]
      rw [e]
      exact World.ownsRow_nil _ _ _ _
    · have e : (List.replicate m (Value.slice none 0 0)).getD i (.slice none 0 0) = .slice none 0 0 := by simp [List.getD, hi]
      rw [e] at hx; cases hx
    · exact pairs_of_own hP.ed (by omega)
    · obtain ⟨a1, a2, a3, a4⟩ := hP.h1 k hk
      exact ⟨a1, a2, a3, a4, (hP.ed.lt k hk).2⟩
  have hc3 : w2.cell? ⟨b, 3, none⟩ = some ev := by simp [World.cell?, hP.blk]
  obtain ⟨ao, cap, hev⟩ := own_slice hP.ed
  subst hev
  have hSA : w.heap.size ≤ b ∧ w.heap.size ≤ S ∧ w.heap.size ≤ A ∧ w.heap.size ≤ N := by have := hP.ge; omega
  have hevk : Hid (∀ k, (Value.slice ao es.length cap).ownBlock = some k → w.heap.size ≤ k ∧ k < w2.heap.size) := fun k hk => by have := hP.ed.lt k hk; omega
  have hw2 : w.heap.size ≤ w2.heap.size := by have := hP.bel.size; omega
  clear hP h1 hb1 hgw
  go_wp2
  go_loopg [44] es.length (fun g v44 wr => ∃ q rows, q + g = es.length ∧ v44 = .int .i64 (q : Nat) ∧ NwL w wr b S A N m w2.heap.size (.slice ao es.length cap) es lim q rows)
  case atStart => exact ⟨0, _, by omega, rfl, hL0⟩
  case round =>
    obtain ⟨q, rows, hqg, rfl, hM⟩ := hrel
    clear hL0 hc3
    cases gk with
    | zero =>
      have hq : q = es.length := by omega
      have hqn : ¬ (q : Int) < (es.length : Int) := by omega
      have hend : NewPostF m es lim w (.returned (.tuple #[.pointer (some ⟨b, 0, none⟩), .int .i64 0])) wr := by
        obtain ⟨d1, d2, d3, d4, d5, d6⟩ := hM.h0
        obtain ⟨l1, l2, l3, l4⟩ := hM.lt
        have hA := hM.sah
        have hR := hM.row
        rw [hq, List.take_length] at hA hR
        refine ⟨b, S, A, N, _, rows, rfl, ⟨hM.blk, hM.sst, hA, by simp, cnts_len _ _, hM.nb, hM.lrw, fun i hi => ?_, hM.ed, hm, hesl, ⟨d1, d2, d3, d4, d5⟩, fun k hk => ⟨(hM.h1 k hk).1, (hM.h1 k hk).2.1⟩, fun i hi k hk => ?_⟩, hM.bel, hSA.1, hSA.2.1, hSA.2.2.1, hSA.2.2.2, fun k hk => by have := hevk.out k hk; have := hM.bs; omega, fun i hi k hk => by have := (hR i hi).lt _ hk; omega⟩
        · have := hR i hi
          rw [show (nxN es i).length = (ints (nxN es i)).length by rw [ints_len]] at this
          exact ints_of_own this (by rw [ints_len]; have := nxN_len es i; omega)
        · have := (hR i hi).lt _ hk
          omega
      have HF := Lib.hid hend
      clear hend hM
      go_wp2
      go_ret2
      exact HF.out
    | succ g =>
      have hql : q < es.length := by omega
      have hqn : (q : Int) < (es.length : Int) := by omega
      obtain ⟨_, _, hv3, _, _, hc3⟩ := id hM.ed
      cases hv3
      obtain ⟨bl, off, hao, hbl, hcell⟩ := hc3 (by intro e; simp [e] at hql)
      subst hao
      obtain ⟨hx1, hx2⟩ := hcell q hql
      have hts := take_next es q (0, 0) hql
      have hmem : es.getD q (0, 0) ∈ es := by simp [List.getD, hql]
      obtain ⟨⟨x, y'⟩, hx⟩ : ∃ e, e = es.getD q (0, 0) := ⟨_, rfl⟩
      rw [← hx] at hx1 hx2 hts hmem
      obtain ⟨p0, p1, y0, y1⟩ := HES.out _ hmem
      simp only at hx1 hx2 p0 p1 y0 y1
      obtain ⟨p, rfl⟩ := Int.eq_ofNat_of_zero_le p0
      obtain ⟨y, rfl⟩ := Int.eq_ofNat_of_zero_le y0
      have hpm : p < m := by omega
      have hym : y < m := by omega
      have HTS := Lib.hid hts
      have hbl2 : b < wr.heap.size := Nat.lt_of_lt_of_le hM.lt.1 hM.bs
      have hA2 : A < wr.heap.size := Nat.lt_of_lt_of_le hM.lt.2.2.1 hM.bs
      have cb1 : wr.cell? ⟨b, 1, none⟩ = some (.slice (some ⟨A, 0, none⟩) m m) := by simp [World.cell?, hM.blk]
      have ca := hM.sah.cell (i := y) (by rw [cnts_len]; exact hym)
      rw [cnts_get m _ y hym] at ca
      have fa := hM.sah.free y
      have hle := aheadN_le (es.take q) (List.replicate m 0) y
      have hle2 : (es.take q).length ≤ 4096 := by rw [List.length_take]; omega
      obtain ⟨av, hav⟩ : ∃ av, av = aheadN (es.take q) (List.replicate m 0) y := ⟨_, rfl⟩
      rw [← hav] at ca hle
      have hav2 : av ≤ 4096 := by omega
      have hAV : Hid (aheadN (es.take q) (List.replicate m 0) y = av) := hav.symm
      have HMM := Lib.hid hM
      clear hM hx hmem hts hcell hc3 hav hle hle2
      go_wp2
      go_region
      go_upto_region 11 with fail
      have hsz : (wr.setCell ⟨A, y, none⟩ (.int .i64 ((av : Int) + 1))).heap.size = wr.heap.size := by simp [World.setCell]
      have hWs : (((wr.setCell ⟨A, y, none⟩ (.int .i64 ((av : Int) + 1))).alloc (.cells #[.int .i64 (p : Int), .int .i64 (y : Int)] 34)).drew).heap.size = wr.heap.size + 1 := by
        show ((wr.setCell ⟨A, y, none⟩ (.int .i64 ((av : Int) + 1))).alloc (.cells #[.int .i64 (p : Int), .int .i64 (y : Int)] 34)).heap.size = _
        rw [World.size_alloc, hsz]
      have hWk : ∀ k, k < wr.heap.size → k ≠ A → (((wr.setCell ⟨A, y, none⟩ (.int .i64 ((av : Int) + 1))).alloc (.cells #[.int .i64 (p : Int), .int .i64 (y : Int)] 34)).drew).heap[k]? = wr.heap[k]? := fun k hk hA =>
        (Below.heap_alloc _ _ _ (by rw [hsz]; exact hk)).trans (Below.heap_setCell _ _ _ _ hA)
      have hWA : OwnInts (((wr.setCell ⟨A, y, none⟩ (.int .i64 ((av : Int) + 1))).alloc (.cells #[.int .i64 (p : Int), .int .i64 (y : Int)] 34)).drew) A ((cnts m (aheadN (es.take q) (List.replicate m 0))).set y ((av : Int) + 1)) :=
        (HMM.out.sah.set y ((av : Int) + 1)).kept (Below.heap_alloc _ _ _ (by rw [hsz]; exact hA2))
      have hWc : ∀ o : Nat, (((wr.setCell ⟨A, y, none⟩ (.int .i64 ((av : Int) + 1))).alloc (.cells #[.int .i64 (p : Int), .int .i64 (y : Int)] 34)).drew).cell? ⟨wr.heap.size, o, none⟩ = (#[Value.int .i64 (p : Int), .int .i64 (y : Int)])[o]? := fun o => by
        have := heap_alloc_new (wr.setCell ⟨A, y, none⟩ (.int .i64 ((av : Int) + 1))) (.cells #[.int .i64 (p : Int), .int .i64 (y : Int)] 34)
        rw [hsz] at this
        exact cell_of_row _ _ _ _ _ _ this
      obtain ⟨W, hW⟩ : ∃ W, W = (((wr.setCell ⟨A, y, none⟩ (.int .i64 ((av : Int) + 1))).alloc (.cells #[.int .i64 (p : Int), .int .i64 (y : Int)] 34)).drew) := ⟨_, rfl⟩
      have hWo : W.os = wr.os ∧ W.tape = wr.tape ∧ W.output = wr.output := by rw [hW]; exact ⟨rfl, rfl, rfl⟩
      rw [← hW] at hWs hWk hWA hWc ⊢
      have hM := HMM.out
      obtain ⟨d1, d2, d3, d4, d5, d6⟩ := hM.h0
      obtain ⟨l1, l2, l3, l4⟩ := hM.lt
      have hbs := hM.bs
      have hrl := hM.lrw
      have hrow := hM.row p hpm
      have hxl : ((ints (nxN (es.take q) p)).map (Value.int .i64)).length = (nxN (es.take q) p).length := by simp [ints]
      have hnl := nxN_len (es.take q) p
      have hle2 : (es.take q).length ≤ 4096 := by rw [List.length_take]; omega
      refine region31b _ _ _ b wr.heap.size N m p y w2.heap.size (rows.getD p (.slice none 0 0)) ((ints (nxN (es.take q) p)).map (Value.int .i64)) rfl rfl rfl hpm ?c2 ?cp ?cq ?cr ?fr ?own ?bs ?xl ?hr ?_
      case c2 =>
        refine (World.cell?_of_block (w := wr) (a := ⟨b, 2, none⟩) (hWk b hbl2 d2)).trans ?_
        simp [World.cell?, hM.blk]
      case cp => exact (hWc 0).trans rfl
      case cq => exact (hWc 1).trans rfl
      case cr =>
        refine (World.cell?_of_block (w := wr) (a := ⟨N, p, none⟩) (hWk N (by omega) d5)).trans ?_
        simp [World.cell?, hM.nb, List.getD, hrl, hpm]
      case fr =>
        refine (World.frozen?_of_block (w := wr) (a := ⟨N, p, none⟩) (hWk N (by omega) d5)).trans ?_
        simp [World.frozen?, hM.nb]
      case own =>
        rw [hxl]
        exact own_keep hrow fun k h1 h2 => hWk k h2 (by omega)
      case bs => omega
      case xl => rw [hxl]; omega
      case hr =>
        intro k hk
        have := hrow.lt _ hk
        exact ⟨by omega, by omega, by omega⟩
      intro v' w3 hR
      have hst := hM.step (W := W.drew) (y := y) HTS.out hpm hWs hWo hWk (by rw [hAV.out]; exact hWA) hR
      have HST := Lib.hid hst
      clear hst hR hM hWs hWo hWk hWA hWc hW HMM ca fa cb1 hrow
      go_wp2
      go_roundg g
      case measure => omega
      case rel => exact ⟨q + 1, _, by omega, by go_num, HST.out⟩

theorem new_good (v : Value) (es : List (Int × Int)) (m : Nat) (lim : Int) (w : World) (hT : Tab w) (h : PairsAt w v es) (ho : (orderR m es).2 = 0) (hl1 : 1 ≤ lim) (hl2 : lim ≤ 16) (hesl : es.length ≤ 4096) :
    Calls Tryd.prog 31 #[.int .i64 m, v, .int .i64 lim] w (NewPost m es lim w) := by
  refine (new_fresh v es m lim w hT h ho hl1 hl2 hesl).mono ?_
  rintro e w' ⟨b, S, A, N, ev, rows, h1, h2, h3, _, h5, h6, _⟩
  exact ⟨b, S, A, N, ev, rows, h1, h2, h3, h5, h6⟩

theorem new_bad (v : Value) (es : List (Int × Int)) (n : Int) (lim : Int) (w : World) (hT : Tab w) (h : PairsAt w v es) (hE : newE n es lim ≠ 0) :
    Calls Tryd.prog 31 #[.int .i64 n, v, .int .i64 lim] w fun e w' => e = .returned (.tuple #[.pointer none, .int .i64 (newE n es lim)]) ∧ Below w.heap.size w w' := by
  have OR := Order_any v es n w hT h
  unfold OrderPost at OR
  by_cases ho : (orderR n es).2 = 0
  · have hl : lim < 1 ∨ 16 < lim := by
      apply Classical.byContradiction
      intro hh
      apply hE
      unfold newE
      rw [if_neg (by rw [ho]; simp), if_neg hh]
    have hr : newE n es lim = 1 := by
      unfold newE
      rw [if_neg (by rw [ho]; simp), if_pos hl]
    rw [hr]
    rw [ho] at OR
    clear hE hr ho hT h
    rcases hl with hl | hl
    · go_enter Tryd.func31, Tryd.ntmps31
      go_wp2_with fail
      refine OR.mono ?_
      rintro e w1 ⟨lv, rfl, _, hb1⟩
      clear OR
      go_wp2_with fail
      go_ret2
      exact ⟨rfl, hb1⟩
    · have hl2 : ¬ lim < 1 := by omega
      go_enter Tryd.func31, Tryd.ntmps31
      go_wp2_with fail
      refine OR.mono ?_
      rintro e w1 ⟨lv, rfl, _, hb1⟩
      clear OR
      go_wp2_with fail
      go_ret2
      exact ⟨rfl, hb1⟩
  · have hr : newE n es lim = (orderR n es).2 := by
      unfold newE
      rw [if_pos ho]
    rw [hr]
    have hne : ((orderR n es).2 != 0) = true := by simpa using ho
    clear hE hr ho hT h
    generalize (orderR n es).2 = c at OR hne
    go_enter Tryd.func31, Tryd.ntmps31
    go_wp2_with fail
    refine OR.mono ?_
    rintro e w1 ⟨lv, rfl, _, hb1⟩
    clear OR
    go_wp2_with fail
    go_ret2
    exact ⟨rfl, hb1⟩

end Go.Proofs.YtelioljmhlabjaaDoor
