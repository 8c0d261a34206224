/- A walk in memory; walks of Status, with, Ready, Running. -/
import Derived.Test.YtelioljmhlabjaaDoorWkP
import Derived.Test.YtelioljmhlabjaaDoorOMem
import Derived.Deep.LoopGhost
namespace Go.Proofs.YtelioljmhlabjaaDoor
open Go.RowKit
set_option maxRecDepth 100000

/-- A walk in memory: its own block, the statuses, the counts ahead, what is behind each node, the edges. -/
structure WkM (w : World) (b S A N n : Nat) (ev : Value) (rows : List Value) (es : List (Int × Int)) (lim : Int) (st ah : List Int) : Prop where
  blk : w.heap[b]? = some (.cells #[.slice (some ⟨S, 0, none⟩) n n, .slice (some ⟨A, 0, none⟩) n n, .slice (some ⟨N, 0, none⟩) n n, ev, .int .i64 lim] 92 (0, 0))
  sst : OwnInts w S st
  sah : OwnInts w A ah
  lst : st.length = n
  lah : ah.length = n
  nb : w.heap[N]? = some (.cells rows.toArray 26 (0, 0))
  lrw : rows.length = n
  row : ∀ i, i < n → IntsAt w (rows.getD i (.slice none 0 0)) (ints (nxN es i))
  ed : PairsAt w ev es
  hn : n ≤ 512
  hl : es.length ≤ 4096
  h0 : b ≠ S ∧ b ≠ A ∧ S ≠ A ∧ N ≠ S ∧ N ≠ A
  h1 : ∀ k, ev.ownBlock = some k → k ≠ S ∧ k ≠ A
  h2 : ∀ i, i < n → ∀ k, (rows.getD i (.slice none 0 0)).ownBlock = some k → k ≠ S ∧ k ≠ A

theorem PairsAt.keep {w w' : World} {v : Value} {xs : List (Int × Int)} (h : PairsAt w v xs) (hs : w.heap.size ≤ w'.heap.size) (hk : ∀ k, v.ownBlock = some k → k < w.heap.size → w'.heap[k]? = w.heap[k]?) : PairsAt w' v xs := by
  obtain ⟨ao, cap, hv, hl, hm, hc⟩ := h
  refine ⟨ao, cap, hv, hl, hm, fun hne => ?_⟩
  obtain ⟨b, off, ha, hlt, hcell⟩ := hc hne
  refine ⟨b, off, ha, Nat.lt_of_lt_of_le hlt hs, fun i hi => ?_⟩
  have hkb := hk b (by rw [hv, ha]; rfl) hlt
  rw [World.cell?_of_block (w := w) (a := ⟨b, off + i * 2, none⟩) hkb, World.cell?_of_block (w := w) (a := ⟨b, off + i * 2 + 1, none⟩) hkb]
  exact hcell i hi

section
variable {w : World} {b S A N n : Nat} {ev : Value} {rows : List Value} {es : List (Int × Int)} {lim : Int} {st ah : List Int}
theorem WkM.c0 (h : WkM w b S A N n ev rows es lim st ah) : w.cell? ⟨b, 0, none⟩ = some (.slice (some ⟨S, 0, none⟩) n n) := by simp [World.cell?, h.blk]
theorem WkM.c1 (h : WkM w b S A N n ev rows es lim st ah) : w.cell? ⟨b, 1, none⟩ = some (.slice (some ⟨A, 0, none⟩) n n) := by simp [World.cell?, h.blk]
theorem WkM.c2 (h : WkM w b S A N n ev rows es lim st ah) : w.cell? ⟨b, 2, none⟩ = some (.slice (some ⟨N, 0, none⟩) n n) := by simp [World.cell?, h.blk]
theorem WkM.c3 (h : WkM w b S A N n ev rows es lim st ah) : w.cell? ⟨b, 3, none⟩ = some ev := by simp [World.cell?, h.blk]
theorem WkM.c4 (h : WkM w b S A N n ev rows es lim st ah) : w.cell? ⟨b, 4, none⟩ = some (.int .i64 lim) := by simp [World.cell?, h.blk]
theorem WkM.cr (h : WkM w b S A N n ev rows es lim st ah) {i : Nat} (hi : i < n) : w.cell? ⟨N, i, none⟩ = some (rows.getD i (.slice none 0 0)) := by
  have := h.lrw
  simp [World.cell?, h.nb, List.getD, this, hi]
theorem WkM.blt (h : WkM w b S A N n ev rows es lim st ah) : b < w.heap.size := (Array.getElem?_eq_some_iff.1 h.blk).1
theorem WkM.nlt (h : WkM w b S A N n ev rows es lim st ah) : N < w.heap.size := (Array.getElem?_eq_some_iff.1 h.nb).1
theorem WkM.below {w' : World} (h : WkM w b S A N n ev rows es lim st ah) (hb : Below w.heap.size w w') : WkM w' b S A N n ev rows es lim st ah :=
  ⟨(hb.block _ h.blt).trans h.blk, h.sst.kept (hb.block _ h.sst.lt), h.sah.kept (hb.block _ h.sah.lt), h.lst, h.lah, (hb.block _ h.nlt).trans h.nb, h.lrw, fun i hi => (h.row i hi).mono hb, h.ed.mono hb, h.hn, h.hl, h.h0, h.h1, h.h2⟩
/-- A store into the statuses. -/
theorem WkM.setS (h : WkM w b S A N n ev rows es lim st ah) (i : Nat) (x : Int) : WkM (w.setCell ⟨S, i, none⟩ (.int .i64 x)) b S A N n ev rows es lim (st.set i x) ah := by
  obtain ⟨d1, d2, d3, d4, d5⟩ := h.h0
  have hk : ∀ k, k ≠ S → (w.setCell ⟨S, i, none⟩ (.int .i64 x)).heap[k]? = w.heap[k]? := fun k hk => Below.heap_setCell _ _ _ _ hk
  have hs : (w.setCell ⟨S, i, none⟩ (.int .i64 x)).heap.size = w.heap.size := by simp [World.setCell]
  exact ⟨(hk _ d1).trans h.blk, h.sst.set i x, h.sah.kept (hk _ (fun e => d3 e.symm)), by rw [List.length_set]; exact h.lst, h.lah, (hk _ d4).trans h.nb, h.lrw,
    fun j hj => (h.row j hj).keep (by rw [hs]; exact Nat.le_refl _) (fun k e _ => hk k (h.h2 j hj k e).1), h.ed.keep (by rw [hs]; exact Nat.le_refl _) (fun k e _ => hk k (h.h1 k e).1), h.hn, h.hl, h.h0, h.h1, h.h2⟩
/-- A store into the counts. -/
theorem WkM.setA (h : WkM w b S A N n ev rows es lim st ah) (i : Nat) (x : Int) : WkM (w.setCell ⟨A, i, none⟩ (.int .i64 x)) b S A N n ev rows es lim st (ah.set i x) := by
  obtain ⟨d1, d2, d3, d4, d5⟩ := h.h0
  have hk : ∀ k, k ≠ A → (w.setCell ⟨A, i, none⟩ (.int .i64 x)).heap[k]? = w.heap[k]? := fun k hk => Below.heap_setCell _ _ _ _ hk
  have hs : (w.setCell ⟨A, i, none⟩ (.int .i64 x)).heap.size = w.heap.size := by simp [World.setCell]
  exact ⟨(hk _ d2).trans h.blk, h.sst.kept (hk _ d3), h.sah.set i x, h.lst, by rw [List.length_set]; exact h.lah, (hk _ d5).trans h.nb, h.lrw,
    fun j hj => (h.row j hj).keep (by rw [hs]; exact Nat.le_refl _) (fun k e _ => hk k (h.h2 j hj k e).2), h.ed.keep (by rw [hs]; exact Nat.le_refl _) (fun k e _ => hk k (h.h1 k e).2), h.hn, h.hl, h.h0, h.h1, h.h2⟩
theorem WkM.congrA {ah' : List Int} (h : WkM w b S A N n ev rows es lim st ah) (e : ah = ah') : WkM w b S A N n ev rows es lim st ah' := e ▸ h
theorem WkM.congrS {st' : List Int} (h : WkM w b S A N n ev rows es lim st ah) (e : st = st') : WkM w b S A N n ev rows es lim st' ah := e ▸ h
end

set_option maxHeartbeats 800000 in
theorem status_any (b S A N n : Nat) (ev : Value) (rows : List Value) (es : List (Int × Int)) (lim : Int) (st ah : List Int) (i : Int) (w : World) (h : WkM w b S A N n ev rows es lim st ah) :
    Calls Tryd.prog 43 #[.pointer (some ⟨b, 0, none⟩), .int .i64 i] w fun e w' => e = .returned (.int .i64 (statusR n st i)) ∧ w = w' := by
  have c0 := h.c0
  have hn := h.hn
  by_cases h0 : i < 0
  · have hr : statusR n st i = -1 := by unfold statusR; rw [if_pos (Or.inl h0)]
    rw [hr]
    clear h hr
    go_enter Tryd.func43, Tryd.ntmps43
    go_wp2
    go_ret
    exact ⟨rfl, rfl⟩
  · obtain ⟨k, rfl⟩ := Int.eq_ofNat_of_zero_le (show 0 ≤ i by omega)
    by_cases hk : (n : Int) ≤ (k : Int)
    · have hr : statusR n st k = -1 := by unfold statusR; rw [if_pos (Or.inr hk)]
      rw [hr]
      clear h hr
      go_enter Tryd.func43, Tryd.ntmps43
      go_wp2
      go_ret
      exact ⟨rfl, rfl⟩
    · have hkn : k < n := by omega
      have hr : statusR n st k = st.getD k 0 := by unfold statusR; rw [if_neg (by omega), Int.toNat_natCast]
      have cs := h.sst.cell (i := k) (by rw [h.lst]; exact hkn)
      rw [hr]
      generalize st.getD k 0 = x at cs
      clear h hr
      go_enter Tryd.func43, Tryd.ntmps43
      go_wp2
      go_ret
      exact ⟨rfl, rfl⟩

def IntsPost (l : List Nat) (w : World) (e : Ending) (w' : World) : Prop := ∃ v', e = .returned v' ∧ IntsAt w' v' (ints l) ∧ Below w.heap.size w w'

set_option maxHeartbeats 1600000 in
theorem with_any (b S A N n : Nat) (ev : Value) (rows : List Value) (es : List (Int × Int)) (lim : Int) (st : List Int) (s : Int) (w : World) (h : WkM w b S A N n ev rows es lim st (cnts n (aheadN es st))) :
    Calls Tryd.prog 77 #[.pointer (some ⟨b, 0, none⟩), .int .i64 s] w (IntsPost (withL n es st s) w) := by
  obtain ⟨i3, hi3, hz3, hs3, hy3⟩ := info_parts Tryd.info3
  have c0 := h.c0
  have hn := h.hn
  go_enter Tryd.func77, Tryd.ntmps77
  go_wp2
  go_loopg [5, 13] n (fun g v5 v13 wr => ∃ i : Nat, i + g = n ∧ v13 = .int .i64 i ∧ wr.ownsRow w.heap.size 3 1 v5 (((List.range i).filter (withB es st s)).length) ((ints ((List.range i).filter (withB es st s))).map (Value.int .i64)) ∧ Below w.heap.size w wr)
  case atStart => exact ⟨0, by omega, rfl, World.ownsRow_nil _ _ _ _, Below.refl _ _⟩
  case round =>
    obtain ⟨i, hig, rfl, hown, hb⟩ := hrel
    have hfl : ((List.range i).filter (withB es st s)).length ≤ i := Nat.le_trans (List.length_filter_le _ _) (by simp)
    cases gk with
    | zero =>
      have hi : i = n := by omega
      have hin : ¬ (i : Int) < (n : Int) := by omega
      rw [hi] at hown
      have hlen := withL_len n es st s
      clear h hi hfl
      go_wp2
      go_ret
      refine ⟨_, rfl, ?_, hb⟩
      exact ints_of_own (by rw [ints_len]; exact hown) (by rw [ints_len]; omega)
    | succ g =>
      have hi : i < n := by omega
      have hin : (i : Int) < (n : Int) := by omega
      have hM := h.below hb
      have c0' := hM.c0
      have c1' := hM.c1
      have cs := hM.sst.cell (i := i) (by rw [hM.lst]; exact hi)
      have ca := hM.sah.cell (i := i) (by rw [cnts_len]; exact hi)
      rw [cnts_get n _ i hi] at ca
      have hfs : Hid ((List.range (i + 1)).filter (withB es st s) = (List.range i).filter (withB es st s) ++ if withB es st s i = true then [i] else []) := by
        rw [Hid, List.range_succ, List.filter_append]
        congr 1
        by_cases hw : withB es st s i = true <;> simp [hw]
      have hwb : Hid (withB es st s i = (st.getD i 0 == s && (!(st.getD i 0 == 0) || aheadN es st i == 0))) := by
        unfold withB
        rw [Hid]
        by_cases e : st.getD i 0 = s
        · rw [e]
        · have : (st.getD i 0 == s) = false := by simpa using e
          rw [this]; rfl
      generalize st.getD i 0 = x at cs hwb
      generalize aheadN es st i = a at ca hwb
      clear h hM
      have hyes : withB es st s i = true → Hid ((List.range (i + 1)).filter (withB es st s) = (List.range i).filter (withB es st s) ++ [i]) := fun hw => by
        rw [Hid, hfs.out, if_pos hw]
      have hno : withB es st s i = false → Hid ((List.range (i + 1)).filter (withB es st s) = (List.range i).filter (withB es st s)) := fun hw => by
        rw [Hid, hfs.out, if_neg (by rw [hw]; simp), List.append_nil]
      generalize (List.range i).filter (withB es st s) = l at hown hfl hyes hno
      clear hfs
      have HY := Lib.hid hyes
      have HN := Lib.hid hno
      clear hyes hno
      by_cases e1 : x = s
      · have t1 : (x == s) = true := by simpa using e1
        by_cases e2 : x = 0
        · have t2 : (x != 0) = false := by simpa using e2
          by_cases e3 : a = 0
          · have t3 : ((a : Int) == 0) = true := by simp [e3]
            have hst := HY.out (by rw [hwb.out, t1, e3]; simp)
            clear e1 e2 e3 HY HN
            go_wp2_with (at_builtin; refine wpList_append_fresh _ rfl (.tmp 35) (.tmp 37) 26 rfl w.heap.size 3 i3 _ 1 8 Tryd.underlying26 hi3 hz3 hs3 hy3 rfl (by decide) _ _ _ rfl (hown.alloc _) ⟨wr.heap.size, 0, none⟩ 1 1 [.int .i64 i] rfl rfl ?a1 ?a2 ?a3 ?a4 ?a5 ?_)
            case a1 => exact cell_one_new _ _ _
            case a2 => intro u hu; simp at hu; subst hu; rfl
            case a3 => unfold maxLen; omega
            case a4 => omega
            case a5 => have := hb.size; simp; omega
            intro v' w1 hown1 hgrow1 _
            have hown2 : w1.ownsRow w.heap.size 3 1 v' (l ++ [i]).length ((ints (l ++ [i])).map (Value.int .i64)) := by
              simpa [ints] using hown1
            have hb1 : Below w.heap.size w w1 := (hb.alloc hb.size _).grown hgrow1 (by have := hb.size; simp; omega) (fun k e => (hown.lt _ e).1)
            clear hown1 hgrow1 hown hb
            go_wp2
            go_roundg g
            case measure => omega
            case rel => exact ⟨i + 1, by omega, by go_num, by rw [hst.out]; exact hown2, hb1⟩
          · have t3 : ((a : Int) == 0) = false := by simp; exact e3
            have hst := HN.out (by rw [hwb.out, t1]; simp [e2, e3])
            clear e1 e2 e3 HY HN
            go_wp2
            go_roundg g
            case measure => omega
            case rel => exact ⟨i + 1, by omega, by go_num, by rw [hst.out]; exact hown, hb⟩
        · have t2 : (x != 0) = true := by simpa using e2
          have hst := HY.out (by rw [hwb.out, t1]; simp [e2])
          clear e1 e2 HY HN
          go_wp2_with (at_builtin; refine wpList_append_fresh _ rfl (.tmp 35) (.tmp 37) 26 rfl w.heap.size 3 i3 _ 1 8 Tryd.underlying26 hi3 hz3 hs3 hy3 rfl (by decide) _ _ _ rfl (hown.alloc _) ⟨wr.heap.size, 0, none⟩ 1 1 [.int .i64 i] rfl rfl ?b1 ?b2 ?b3 ?b4 ?b5 ?_)
          case b1 => exact cell_one_new _ _ _
          case b2 => intro u hu; simp at hu; subst hu; rfl
          case b3 => unfold maxLen; omega
          case b4 => omega
          case b5 => have := hb.size; simp; omega
          intro v' w1 hown1 hgrow1 _
          have hown2 : w1.ownsRow w.heap.size 3 1 v' (l ++ [i]).length ((ints (l ++ [i])).map (Value.int .i64)) := by
            simpa [ints] using hown1
          have hb1 : Below w.heap.size w w1 := (hb.alloc hb.size _).grown hgrow1 (by have := hb.size; simp; omega) (fun k e => (hown.lt _ e).1)
          clear hown1 hgrow1 hown hb
          go_wp2
          go_roundg g
          case measure => omega
          case rel => exact ⟨i + 1, by omega, by go_num, by rw [hst.out]; exact hown2, hb1⟩
      · have t1 : (x == s) = false := by simpa using e1
        have hst := HN.out (by rw [hwb.out, t1]; rfl)
        clear e1 HY HN
        go_wp2
        go_roundg g
        case measure => omega
        case rel => exact ⟨i + 1, by omega, by go_num, by rw [hst.out]; exact hown, hb⟩

theorem running_any (b S A N n : Nat) (ev : Value) (rows : List Value) (es : List (Int × Int)) (lim : Int) (st : List Int) (w : World) (h : WkM w b S A N n ev rows es lim st (cnts n (aheadN es st))) :
    Calls Tryd.prog 58 #[.pointer (some ⟨b, 0, none⟩)] w (IntsPost (withL n es st 1) w) := by
  have W := with_any b S A N n ev rows es lim st 1 w h
  clear h
  go_enter Tryd.func58, Tryd.ntmps58
  go_wp2_with fail
  refine W.mono ?_
  rintro e w1 ⟨v, rfl, hv, hb⟩
  go_wp2_with fail
  go_ret
  exact ⟨_, rfl, hv, hb⟩
theorem ready_any (b S A N n : Nat) (ev : Value) (rows : List Value) (es : List (Int × Int)) (lim : Int) (st : List Int) (w : World) (h : WkM w b S A N n ev rows es lim st (cnts n (aheadN es st))) :
    Calls Tryd.prog 65 #[.pointer (some ⟨b, 0, none⟩)] w (IntsPost (withL n es st 0) w) := by
  have W := with_any b S A N n ev rows es lim st 0 w h
  clear h
  go_enter Tryd.func65, Tryd.ntmps65
  go_wp2_with fail
  refine W.mono ?_
  rintro e w1 ⟨v, rfl, hv, hb⟩
  go_wp2_with fail
  go_ret
  exact ⟨_, rfl, hv, hb⟩

end Go.Proofs.YtelioljmhlabjaaDoor
