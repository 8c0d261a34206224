/- Walk of the law GraphOrderly: it answers true, whatever the graph. -/
import Derived.Test.YtelioljmhlabjaaDoorLawOrders
import Derived.Test.YtelioljmhlabjaaDoorTopP
namespace Go.Proofs.YtelioljmhlabjaaDoor
open Go.RowKit
set_option maxRecDepth 100000

theorem PairsAt.cut {w : World} {ao : Option Addr} {cap : Nat} {es : List (Int × Int)} (h : PairsAt w (.slice ao es.length cap) es) (k : Nat) (hk : k ≤ es.length) : PairsAt w (.slice ao (es.take k).length cap) (es.take k) := by
  obtain ⟨ao', cap', hv, hl, hm, hc⟩ := h
  cases hv
  have e : (es.take k).length = k := by rw [List.length_take, Nat.min_eq_left hk]
  refine ⟨ao, cap, rfl, by omega, ⟨by omega, hm.2⟩, fun hne => ?_⟩
  obtain ⟨b, off, ha, hb, hcell⟩ := hc (by intro h0; subst h0; simp at hne)
  refine ⟨b, off, ha, hb, fun i hi => ?_⟩
  have hik : i < k := by omega
  have e2 : (es.take k).getD i (0, 0) = es.getD i (0, 0) := by simp [List.getD, hik]
  rw [e2]
  exact hcell i (by omega)

/-- Where the nodes of an order stand, each place and one, those ahead of place i alone. -/
def posL (n : Nat) (L : List Nat) (i : Nat) : List Int := (List.range n).map fun k => if k ∈ L.take i then ((L.idxOf k : Nat) : Int) + 1 else 0
theorem posL_len (n : Nat) (L : List Nat) (i : Nat) : (posL n L i).length = n := by simp [posL]
theorem posL_get (n : Nat) (L : List Nat) (i k : Nat) (hk : k < n) : (posL n L i).getD k 0 = if k ∈ L.take i then ((L.idxOf k : Nat) : Int) + 1 else 0 := by simp [posL, List.getD, hk]
theorem posL_zero (n : Nat) (L : List Nat) : posL n L 0 = List.replicate n 0 := by
  simp only [posL, List.take_zero, List.not_mem_nil, if_false, List.map_const', List.length_range]
theorem posL_succ (n : Nat) (L : List Nat) (i : Nat) (hi : i < L.length) (hnd : L.Nodup) : (posL n L i).set (L.getD i 0) ((i : Int) + 1) = posL n L (i + 1) := by
  have e1 : L.getD i 0 = L[i] := by simp [List.getD, hi]
  have e2 : L.take (i + 1) = L.take i ++ [L[i]] := by rw [← e1]; exact take_next L i 0 hi
  rw [e1]
  apply List.ext_getElem
  · simp [posL]
  · intro k h1 h2
    rw [List.getElem_set]
    simp only [posL, List.getElem_map, List.getElem_range]
    have e3 : k ∈ L.take (i + 1) ↔ k ∈ L.take i ∨ k = L[i] := by rw [e2, List.mem_append, List.mem_singleton]
    by_cases e : L[i] = k
    · rw [if_pos e, if_pos (e3.2 (Or.inr e.symm)), ← e, hnd.idxOf_getElem i hi]
    · have e4 : k ∈ L.take (i + 1) ↔ k ∈ L.take i := e3.trans ⟨fun h => h.resolve_right (fun h => e h.symm), Or.inl⟩
      rw [if_neg e]
      by_cases e5 : k ∈ L.take i
      · rw [if_pos e5, if_pos (e4.2 e5)]
      · rw [if_neg e5, if_neg (fun h => e5 (e4.1 h))]

set_option maxHeartbeats 3200000 in
theorem graphOrderly_any (v : Value) (es : List (Int × Int)) (n : Int) (w : World) (hT : Tab w) (h : PairsAt w v es) :
    Calls Tryd.prog 4 #[.int .i64 n, v] w (LawPost w) := by
  obtain ⟨i34, hi34, hz34, hs34, hy34⟩ := info_parts Tryd.info34
  obtain ⟨i0, hi, hz0, hz1, hz2⟩ := info_parts Tryd.info3
  have hend : ∀ w', Below w.heap.size w w' → LawPost w (.returned (.bool true)) w' := fun _ h => ⟨rfl, h⟩
  have HE := Lib.hid hend
  clear hend
  go_enter Tryd.func4, Tryd.ntmps4
  go_wp2_with fail
  refine (awake_any w hT).mono ?_
  rintro e w1 ⟨rfl, hb1⟩
  have hT1 := hT.mono hb1
  have h1 := h.mono hb1
  clear hT h
  obtain ⟨ao, cap, rfl, hl1, hl2, hl3⟩ := id h1
  clear hl3
  go_wp2_with fail
  · have hle : 4096 ≤ es.length := by omega
    obtain ⟨es2, hP, hlen⟩ : ∃ es2 : List (Int × Int), PairsAt w1 (.slice ao es2.length cap) es2 ∧ es2.length = 4096 := ⟨_, h1.cut 4096 hle, by rw [List.length_take, Nat.min_eq_left hle]⟩
    have hle2 : es2.length ≤ 4096 := by omega
    rw [← hlen]
    clear hlen hle hl1 hl2 h1
    refine (own_any _ es2 w1 hP (by omega)).mono ?_
    rintro e w2 ⟨iv, rfl, hown, hb2⟩
    have hin : PairsAt w2 iv es2 := pairs_of_own hown (by omega)
    have hP2 := hP.mono hb2
    have hT2 := hT1.mono hb2
    have hb12 : Below w.heap.size w w2 := hb1.trans (hb2.mono hb1.size)
    clear hb1 hb2 hT1 hP hown
    go_wp2_with fail
    refine (Order_any iv es2 n w2 hT2 hin).mono ?_
    rintro e w3 ⟨lv, rfl, hli, hb3⟩
    have hP3 := hP2.mono hb3
    have hT3 := hT2.mono hb3
    have hb13 : Below w.heap.size w w3 := hb12.trans (hb3.mono hb12.size)
    clear hb12 hb3 hT2 hP2 hin
    obtain ⟨_, _, hve, hPl, hPm, hPc⟩ := id hP3
    cases hve
    have HPC := Lib.hid hPc
    clear hPc
    go_wp2
    go_loopw [7, 33] (fun v7 v33 wr => ∃ i : Nat, i ≤ es2.length ∧ v33 = .int .i64 i ∧ wr.ownsRow w3.heap.size 34 2 v7 i (pairCells (revE (es2.take i))) ∧ Below w3.heap.size w3 wr) (fun _ v33 _ => es2.length - (intOf v33).toNat)
    case atStart => exact ⟨0, by omega, rfl, World.ownsRow_nil _ _ _ _, Below.refl _ _⟩
    case round =>
      obtain ⟨i, hil, rfl, hown, hb⟩ := hrel
      by_cases hlt : i < es2.length
      · obtain ⟨b, off, rfl, hbl, hcell⟩ := HPC.out (by intro h; simp [h] at hlt)
        have c1 := (hb.cell (p := ⟨b, off + i * 2, none⟩) hbl).trans (hcell i hlt).1
        have c2 := (hb.cell (p := ⟨b, off + i * 2 + 1, none⟩) hbl).trans (hcell i hlt).2
        have hts := take_next es2 i (0, 0) hlt
        obtain ⟨⟨x, y⟩, hx⟩ : ∃ p, p = es2.getD i (0, 0) := ⟨_, rfl⟩
        rw [← hx] at c1 c2 hts
        have HTS := Lib.hid hts
        clear hts hx hcell HPC
        go_wp2_with (at_builtin; refine wpList_append_fresh _ rfl (.tmp 37) (.tmp 43) 22 rfl w3.heap.size 34 i34 _ 2 16 Tryd.underlying22 hi34 hz34 hs34 hy34 rfl (by decide) _ _ _ rfl ((hown.alloc _).alloc _) ⟨wr.heap.size + 1, 0, none⟩ 1 1 [.int .i64 y, .int .i64 x] rfl rfl ?a1 ?a2 ?a3 ?a4 ?a5 ?_)
        case a2 => exact ⟨rfl, rfl⟩
        case a3 => unfold maxLen; omega
        case a4 => omega
        case a5 => have := hb.size; simp; omega
        intro v' w4 hown4 hgrow4 _
        have hown5 : w4.ownsRow w3.heap.size 34 2 v' (i + 1) (pairCells (revE (es2.take (i + 1)))) := by
          rw [HTS.out, revE_snoc]; simpa [pairCells] using hown4
        have hb4 : Below w3.heap.size w3 w4 := ((hb.alloc hb.size _).alloc (by have := hb.size; simp; omega) _).grown hgrow4 (by have := hb.size; simp; omega) (fun k e => (hown.lt _ e).1)
        clear hown4 hgrow4 hown hb HTS c1 c2
        go_wp2
        go_roundw
        case rel => exact ⟨i + 1, by omega, by go_num, hown5, hb4⟩
        case measure => simp [intOf]; omega
      · have hil2 : i = es2.length := by omega
        rw [hil2, List.take_length] at hown
        have hback : PairsAt wr u7 (revE es2) := pairs_of_own (by rw [revE_len]; exact hown) (by rw [revE_len]; omega)
        have O2 := Order_any u7 (revE es2) n wr (hT3.mono hb) hback
        unfold OrderPost at O2
        rw [order_rev] at O2
        have hb4 : Below w.heap.size w wr := hb13.trans (hb.mono hb13.size)
        have hli4 := hli.mono hb
        clear hown hil2 hb13 hli hT3
        go_wp2_with fail
        refine O2.mono ?_
        rintro e w5 ⟨lv2, rfl, _, hb5⟩
        have hb15 : Below w.heap.size w w5 := hb4.trans (hb5.mono hb4.size)
        have hli5 := hli4.mono hb5
        clear O2 hb4 hli4
        by_cases h0 : (orderR n es2).2 = 0
        · obtain ⟨m, rfl, hm, hin, hlen, hro⟩ := orderR_zero h0
          have hfw := kahn_fwd (n := m) (es := es2) (fun e he => ⟨(hin e he).1, (hin e he).2.2.1⟩)
          have hok := kahn_ok m es2
          rw [hro] at hli5
          rw [h0]
          clear hro h0
          generalize hL : kahn m es2 = L at hli5 hlen hfw hok
          clear hL
          obtain ⟨lo, lc, hv, _, _⟩ := hli5.val
          rw [List.length_map, hlen] at hv
          subst hv
          have HIN := Lib.hid hin
          have HFW := Lib.hid hfw
          have HOK := Lib.hid hok
          have HLEN := Lib.hid hlen
          have hP5 := (hP3.mono hb).mono hb5
          clear hin hfw hok hlen hP3 hback hb5
          go_wp2_with (at_make; refine wpList_make_full _ rfl _ _ 26 rfl w5.heap.size 3 i0 _ 1 Tryd.underlying26 hi hz0 hz1 _ _ _ _ m rfl rfl rfl rfl (by rw [hz2]; omega) (by unfold maxLen; omega) (Nat.le_refl _) ?_)
          intro w6 hown6 hgrow6
          have hA : OwnInts w6 w5.heap.size (posL m L 0) := by
            have := ownsRow_block hown6
            rw [made_ints] at this
            rw [posL_zero]; exact this
          have hb6 : Below w5.heap.size w5 w6 := (Below.refl _ _).grown hgrow6 (Nat.le_refl _) (fun k hk => by cases hk)
          clear hown6 hgrow6
          go_wp2
          go_loopw [64] (fun v64 wr => ∃ i : Nat, i ≤ m ∧ v64 = .int .i64 i ∧ OwnInts wr w5.heap.size (posL m L i) ∧ Below w5.heap.size w5 wr) (fun v64 _ => m - (intOf v64).toNat)
          case atStart => exact ⟨0, by omega, rfl, hA, hb6⟩
          case round =>
            obtain ⟨q, hqm, rfl, hA7, hb7⟩ := hrel
            clear hA hb6
            by_cases hlt : q < m
            · have hqL : q < L.length := by rw [HLEN.out]; exact hlt
              obtain ⟨b, off, rfl, hbl, hcell⟩ := (hli5.mono hb7).get (i := q) (by simpa using hqL)
              have hgk : (L.map fun i : Nat => (i : Int)).getD q 0 = ((L.getD q 0 : Nat) : Int) := by simp [List.getD, hqL]
              rw [hgk] at hcell
              have hkm : L.getD q 0 < m := HOK.out.lt _ (by simp [List.getD, hqL])
              have hnot : L.getD q 0 ∉ L.take q := by
                have hnd := HOK.out.nd
                have hts := take_next L q 0 hqL
                rw [← List.take_append_drop (q + 1) L, hts, List.append_assoc, List.nodup_append] at hnd
                intro hmm
                exact hnd.2.2 _ hmm _ (by simp) rfl
              have hac := hA7.cell (i := L.getD q 0) (by rw [posL_len]; exact hkm)
              have haf := hA7.free (L.getD q 0)
              rw [posL_get _ _ _ _ hkm, if_neg hnot] at hac
              have HA8 : Hid (OwnInts (wr.setCell ⟨w5.heap.size, L.getD q 0, none⟩ (.int .i64 ((q : Int) + 1))) w5.heap.size (posL m L (q + 1))) := by
                have := hA7.set (L.getD q 0) ((q : Int) + 1)
                rw [posL_succ m L q hqL HOK.out.nd] at this
                exact this
              generalize L.getD q 0 = k at hcell hkm hac haf HA8
              have hb8 : Below w5.heap.size w5 (wr.setCell ⟨w5.heap.size, k, none⟩ (.int .i64 ((q : Int) + 1))) := hb7.setCell (Nat.le_refl _) _
              have H8 := Lib.hid hb8
              clear hgk hnot hb8 hA7 hb7 hli5 hP5
              go_wp2
              go_roundw
              case rel => exact ⟨q + 1, by omega, by go_num, HA8.out, H8.out⟩
              case measure => simp [intOf]; omega
            · have hqm2 : q = m := by omega
              rw [hqm2] at hA7
              have hL2 : L.take m = L := by rw [← HLEN.out, List.take_length]
              have hgetA : ∀ k, k < m → (posL m L m).getD k 0 = ((L.idxOf k : Nat) : Int) + 1 := fun k hk => by
                rw [posL_get _ _ _ _ hk, hL2, if_pos (HOK.out.all HLEN.out k hk)]
              have HG := Lib.hid hgetA
              clear hqm2 hL2 hgetA
              go_wp2
              go_loopw [91] (fun v91 wr => ∃ i : Nat, i ≤ es2.length ∧ v91 = .int .i64 i ∧ OwnInts wr w5.heap.size (posL m L m) ∧ Below w5.heap.size w5 wr) (fun v91 _ => es2.length - (intOf v91).toNat)
              case atStart => exact ⟨0, by omega, rfl, hA7, hb7⟩
              case round =>
                obtain ⟨i, hil3, rfl, hA9, hb9⟩ := hrel
                clear hA7 hb7
                by_cases hlt3 : i < es2.length
                · obtain ⟨_, _, hve, _, _, hPc9⟩ := hP5.mono hb9
                  cases hve
                  obtain ⟨b, off, rfl, hbl, hcell⟩ := hPc9 (by intro h; simp [h] at hlt3)
                  obtain ⟨c1, c2⟩ := hcell i hlt3
                  have hmem : es2.getD i (0, 0) ∈ es2 := by simp [List.getD, hlt3]
                  generalize hpe : es2.getD i (0, 0) = p at c1 c2 hmem
                  obtain ⟨x, y⟩ := p
                  obtain ⟨hx0, hx1, hy0, hy1⟩ := HIN.out _ hmem
                  simp only at hx0 hx1 hy0 hy1
                  obtain ⟨p, rfl⟩ := Int.eq_ofNat_of_zero_le hx0
                  obtain ⟨r, rfl⟩ := Int.eq_ofNat_of_zero_le hy0
                  have hpm : p < m := by omega
                  have hrm : r < m := by omega
                  have a1 := hA9.cell (i := p) (by rw [posL_len]; exact hpm)
                  have a2 := hA9.cell (i := r) (by rw [posL_len]; exact hrm)
                  rw [HG.out p hpm] at a1
                  rw [HG.out r hrm] at a2
                  have hpi : L.idxOf p < L.length := List.idxOf_lt_length_of_mem (HOK.out.all HLEN.out p hpm)
                  have hri : L.idxOf r < L.length := List.idxOf_lt_length_of_mem (HOK.out.all HLEN.out r hrm)
                  have hfwd : L.idxOf p < L.idxOf r := HFW.out.lt _ hmem _ _
                    (by rw [List.getElem?_eq_getElem hpi]; simp)
                    (by rw [List.getElem?_eq_getElem hri]; simp)
                  generalize L.idxOf p = ip at a1 hpi hfwd
                  generalize L.idxOf r = ir at a2 hri hfwd
                  rw [HLEN.out] at hpi hri
                  have hA10 := Lib.hid hA9
                  have hb10 := Lib.hid hb9
                  have hbA : wr.heap.size > w5.heap.size := hA9.lt
                  have a1' := fun o => (((Below.refl wr.heap.size wr).alloc (Nat.le_refl _) o).cell (p := ⟨w5.heap.size, p, none⟩) hbA).trans a1
                  have a2' := fun o => (((Below.refl wr.heap.size wr).alloc (Nat.le_refl _) o).cell (p := ⟨w5.heap.size, r, none⟩) hbA).trans a2
                  clear hcell hPc9 hmem hpe hA9 hb9 hP5 hli5
                  go_wp2
                  go_quiet (fail)
                  go_wp2
                  go_roundw
                  case rel => exact ⟨i + 1, by omega, by go_num, (hA10.out.kept (Below.heap_alloc _ _ _ hbA)).kept rfl, below_drewN (hb10.out.alloc (Nat.le_of_lt hbA) _) _⟩
                  case measure => simp [intOf]; omega
                · have HF := Lib.hid (HE.out _ (hb15.trans (hb9.mono hb15.size)))
                  clear hA9 hb9 hP5 hli5 hb15
                  go_wp2
                  go_ret
                  exact HF.out
        · have hnil := orderR_ne h0
          rw [hnil] at hli5
          obtain ⟨lo, lc, hv, _, _⟩ := hli5.val
          simp only [List.length_nil] at hv
          subst hv
          have hne : ((orderR n es2).2 != 0) = true := by simpa using h0
          generalize (orderR n es2).2 = c at hne
          clear hli5 hnil h0 hP3 hb5 hback HPC
          go_wp2_with fail
          go_ret
          exact HE.out _ hb15
  · have hle2 : es.length ≤ 4096 := by omega
    have hP : PairsAt w1 (.slice ao es.length cap) es := h1
    clear hl1 hl2 h1
    refine (own_any _ es w1 hP (by omega)).mono ?_
    rintro e w2 ⟨iv, rfl, hown, hb2⟩
    have hin : PairsAt w2 iv es := pairs_of_own hown (by omega)
    have hP2 := hP.mono hb2
    have hT2 := hT1.mono hb2
    have hb12 : Below w.heap.size w w2 := hb1.trans (hb2.mono hb1.size)
    clear hb1 hb2 hT1 hP hown
    go_wp2_with fail
    refine (Order_any iv es n w2 hT2 hin).mono ?_
    rintro e w3 ⟨lv, rfl, hli, hb3⟩
    have hP3 := hP2.mono hb3
    have hT3 := hT2.mono hb3
    have hb13 : Below w.heap.size w w3 := hb12.trans (hb3.mono hb12.size)
    clear hb12 hb3 hT2 hP2 hin
    obtain ⟨_, _, hve, hPl, hPm, hPc⟩ := id hP3
    cases hve
    have HPC := Lib.hid hPc
    clear hPc
    go_wp2
    go_loopw [7, 33] (fun v7 v33 wr => ∃ i : Nat, i ≤ es.length ∧ v33 = .int .i64 i ∧ wr.ownsRow w3.heap.size 34 2 v7 i (pairCells (revE (es.take i))) ∧ Below w3.heap.size w3 wr) (fun _ v33 _ => es.length - (intOf v33).toNat)
    case atStart => exact ⟨0, by omega, rfl, World.ownsRow_nil _ _ _ _, Below.refl _ _⟩
    case round =>
      obtain ⟨i, hil, rfl, hown, hb⟩ := hrel
      by_cases hlt : i < es.length
      · obtain ⟨b, off, rfl, hbl, hcell⟩ := HPC.out (by intro h; simp [h] at hlt)
        have c1 := (hb.cell (p := ⟨b, off + i * 2, none⟩) hbl).trans (hcell i hlt).1
        have c2 := (hb.cell (p := ⟨b, off + i * 2 + 1, none⟩) hbl).trans (hcell i hlt).2
        have hts := take_next es i (0, 0) hlt
        obtain ⟨⟨x, y⟩, hx⟩ : ∃ p, p = es.getD i (0, 0) := ⟨_, rfl⟩
        rw [← hx] at c1 c2 hts
        have HTS := Lib.hid hts
        clear hts hx hcell HPC
        go_wp2_with (at_builtin; refine wpList_append_fresh _ rfl (.tmp 37) (.tmp 43) 22 rfl w3.heap.size 34 i34 _ 2 16 Tryd.underlying22 hi34 hz34 hs34 hy34 rfl (by decide) _ _ _ rfl ((hown.alloc _).alloc _) ⟨wr.heap.size + 1, 0, none⟩ 1 1 [.int .i64 y, .int .i64 x] rfl rfl ?b1 ?b2 ?b3 ?b4 ?b5 ?_)
        case b2 => exact ⟨rfl, rfl⟩
        case b3 => unfold maxLen; omega
        case b4 => omega
        case b5 => have := hb.size; simp; omega
        intro v' w4 hown4 hgrow4 _
        have hown5 : w4.ownsRow w3.heap.size 34 2 v' (i + 1) (pairCells (revE (es.take (i + 1)))) := by
          rw [HTS.out, revE_snoc]; simpa [pairCells] using hown4
        have hb4 : Below w3.heap.size w3 w4 := ((hb.alloc hb.size _).alloc (by have := hb.size; simp; omega) _).grown hgrow4 (by have := hb.size; simp; omega) (fun k e => (hown.lt _ e).1)
        clear hown4 hgrow4 hown hb HTS c1 c2
        go_wp2
        go_roundw
        case rel => exact ⟨i + 1, by omega, by go_num, hown5, hb4⟩
        case measure => simp [intOf]; omega
      · have hil2 : i = es.length := by omega
        rw [hil2, List.take_length] at hown
        have hback : PairsAt wr u7 (revE es) := pairs_of_own (by rw [revE_len]; exact hown) (by rw [revE_len]; omega)
        have O2 := Order_any u7 (revE es) n wr (hT3.mono hb) hback
        unfold OrderPost at O2
        rw [order_rev] at O2
        have hb4 : Below w.heap.size w wr := hb13.trans (hb.mono hb13.size)
        have hli4 := hli.mono hb
        clear hown hil2 hb13 hli hT3
        go_wp2_with fail
        refine O2.mono ?_
        rintro e w5 ⟨lv2, rfl, _, hb5⟩
        have hb15 : Below w.heap.size w w5 := hb4.trans (hb5.mono hb4.size)
        have hli5 := hli4.mono hb5
        clear O2 hb4 hli4
        by_cases h0 : (orderR n es).2 = 0
        · obtain ⟨m, rfl, hm, hin, hlen, hro⟩ := orderR_zero h0
          have hfw := kahn_fwd (n := m) (es := es) (fun e he => ⟨(hin e he).1, (hin e he).2.2.1⟩)
          have hok := kahn_ok m es
          rw [hro] at hli5
          rw [h0]
          clear hro h0
          generalize hL : kahn m es = L at hli5 hlen hfw hok
          clear hL
          obtain ⟨lo, lc, hv, _, _⟩ := hli5.val
          rw [List.length_map, hlen] at hv
          subst hv
          have HIN := Lib.hid hin
          have HFW := Lib.hid hfw
          have HOK := Lib.hid hok
          have HLEN := Lib.hid hlen
          have hP5 := (hP3.mono hb).mono hb5
          clear hin hfw hok hlen hP3 hback hb5
          go_wp2_with (at_make; refine wpList_make_full _ rfl _ _ 26 rfl w5.heap.size 3 i0 _ 1 Tryd.underlying26 hi hz0 hz1 _ _ _ _ m rfl rfl rfl rfl (by rw [hz2]; omega) (by unfold maxLen; omega) (Nat.le_refl _) ?_)
          intro w6 hown6 hgrow6
          have hA : OwnInts w6 w5.heap.size (posL m L 0) := by
            have := ownsRow_block hown6
            rw [made_ints] at this
            rw [posL_zero]; exact this
          have hb6 : Below w5.heap.size w5 w6 := (Below.refl _ _).grown hgrow6 (Nat.le_refl _) (fun k hk => by cases hk)
          clear hown6 hgrow6
          go_wp2
          go_loopw [64] (fun v64 wr => ∃ i : Nat, i ≤ m ∧ v64 = .int .i64 i ∧ OwnInts wr w5.heap.size (posL m L i) ∧ Below w5.heap.size w5 wr) (fun v64 _ => m - (intOf v64).toNat)
          case atStart => exact ⟨0, by omega, rfl, hA, hb6⟩
          case round =>
            obtain ⟨q, hqm, rfl, hA7, hb7⟩ := hrel
            clear hA hb6
            by_cases hlt : q < m
            · have hqL : q < L.length := by rw [HLEN.out]; exact hlt
              obtain ⟨b, off, rfl, hbl, hcell⟩ := (hli5.mono hb7).get (i := q) (by simpa using hqL)
              have hgk : (L.map fun i : Nat => (i : Int)).getD q 0 = ((L.getD q 0 : Nat) : Int) := by simp [List.getD, hqL]
              rw [hgk] at hcell
              have hkm : L.getD q 0 < m := HOK.out.lt _ (by simp [List.getD, hqL])
              have hnot : L.getD q 0 ∉ L.take q := by
                have hnd := HOK.out.nd
                have hts := take_next L q 0 hqL
                rw [← List.take_append_drop (q + 1) L, hts, List.append_assoc, List.nodup_append] at hnd
                intro hmm
                exact hnd.2.2 _ hmm _ (by simp) rfl
              have hac := hA7.cell (i := L.getD q 0) (by rw [posL_len]; exact hkm)
              have haf := hA7.free (L.getD q 0)
              rw [posL_get _ _ _ _ hkm, if_neg hnot] at hac
              have HA8 : Hid (OwnInts (wr.setCell ⟨w5.heap.size, L.getD q 0, none⟩ (.int .i64 ((q : Int) + 1))) w5.heap.size (posL m L (q + 1))) := by
                have := hA7.set (L.getD q 0) ((q : Int) + 1)
                rw [posL_succ m L q hqL HOK.out.nd] at this
                exact this
              generalize L.getD q 0 = k at hcell hkm hac haf HA8
              have hb8 : Below w5.heap.size w5 (wr.setCell ⟨w5.heap.size, k, none⟩ (.int .i64 ((q : Int) + 1))) := hb7.setCell (Nat.le_refl _) _
              have H8 := Lib.hid hb8
              clear hgk hnot hb8 hA7 hb7 hli5 hP5
              go_wp2
              go_roundw
              case rel => exact ⟨q + 1, by omega, by go_num, HA8.out, H8.out⟩
              case measure => simp [intOf]; omega
            · have hqm2 : q = m := by omega
              rw [hqm2] at hA7
              have hL2 : L.take m = L := by rw [← HLEN.out, List.take_length]
              have hgetA : ∀ k, k < m → (posL m L m).getD k 0 = ((L.idxOf k : Nat) : Int) + 1 := fun k hk => by
                rw [posL_get _ _ _ _ hk, hL2, if_pos (HOK.out.all HLEN.out k hk)]
              have HG := Lib.hid hgetA
              clear hqm2 hL2 hgetA
              go_wp2
              go_loopw [91] (fun v91 wr => ∃ i : Nat, i ≤ es.length ∧ v91 = .int .i64 i ∧ OwnInts wr w5.heap.size (posL m L m) ∧ Below w5.heap.size w5 wr) (fun v91 _ => es.length - (intOf v91).toNat)
              case atStart => exact ⟨0, by omega, rfl, hA7, hb7⟩
              case round =>
                obtain ⟨i, hil3, rfl, hA9, hb9⟩ := hrel
                clear hA7 hb7
                by_cases hlt3 : i < es.length
                · obtain ⟨_, _, hve, _, _, hPc9⟩ := hP5.mono hb9
                  cases hve
                  obtain ⟨b, off, rfl, hbl, hcell⟩ := hPc9 (by intro h; simp [h] at hlt3)
                  obtain ⟨c1, c2⟩ := hcell i hlt3
                  have hmem : es.getD i (0, 0) ∈ es := by simp [List.getD, hlt3]
                  generalize hpe : es.getD i (0, 0) = p at c1 c2 hmem
                  obtain ⟨x, y⟩ := p
                  obtain ⟨hx0, hx1, hy0, hy1⟩ := HIN.out _ hmem
                  simp only at hx0 hx1 hy0 hy1
                  obtain ⟨p, rfl⟩ := Int.eq_ofNat_of_zero_le hx0
                  obtain ⟨r, rfl⟩ := Int.eq_ofNat_of_zero_le hy0
                  have hpm : p < m := by omega
                  have hrm : r < m := by omega
                  have a1 := hA9.cell (i := p) (by rw [posL_len]; exact hpm)
                  have a2 := hA9.cell (i := r) (by rw [posL_len]; exact hrm)
                  rw [HG.out p hpm] at a1
                  rw [HG.out r hrm] at a2
                  have hpi : L.idxOf p < L.length := List.idxOf_lt_length_of_mem (HOK.out.all HLEN.out p hpm)
                  have hri : L.idxOf r < L.length := List.idxOf_lt_length_of_mem (HOK.out.all HLEN.out r hrm)
                  have hfwd : L.idxOf p < L.idxOf r := HFW.out.lt _ hmem _ _
                    (by rw [List.getElem?_eq_getElem hpi]; simp)
                    (by rw [List.getElem?_eq_getElem hri]; simp)
                  generalize L.idxOf p = ip at a1 hpi hfwd
                  generalize L.idxOf r = ir at a2 hri hfwd
                  rw [HLEN.out] at hpi hri
                  have hA10 := Lib.hid hA9
                  have hb10 := Lib.hid hb9
                  have hbA : wr.heap.size > w5.heap.size := hA9.lt
                  have a1' := fun o => (((Below.refl wr.heap.size wr).alloc (Nat.le_refl _) o).cell (p := ⟨w5.heap.size, p, none⟩) hbA).trans a1
                  have a2' := fun o => (((Below.refl wr.heap.size wr).alloc (Nat.le_refl _) o).cell (p := ⟨w5.heap.size, r, none⟩) hbA).trans a2
                  clear hcell hPc9 hmem hpe hA9 hb9 hP5 hli5
                  go_wp2
                  go_quiet (fail)
                  go_wp2
                  go_roundw
                  case rel => exact ⟨i + 1, by omega, by go_num, (hA10.out.kept (Below.heap_alloc _ _ _ hbA)).kept rfl, below_drewN (hb10.out.alloc (Nat.le_of_lt hbA) _) _⟩
                  case measure => simp [intOf]; omega
                · have HF := Lib.hid (HE.out _ (hb15.trans (hb9.mono hb15.size)))
                  clear hA9 hb9 hP5 hli5 hb15
                  go_wp2
                  go_ret
                  exact HF.out
        · have hnil := orderR_ne h0
          rw [hnil] at hli5
          obtain ⟨lo, lc, hv, _, _⟩ := hli5.val
          simp only [List.length_nil] at hv
          subst hv
          have hne : ((orderR n es).2 != 0) = true := by simpa using h0
          generalize (orderR n es).2 = c at hne
          clear hli5 hnil h0 hP3 hb5 hback HPC
          go_wp2_with fail
          go_ret
          exact HE.out _ hb15

end Go.Proofs.YtelioljmhlabjaaDoor
