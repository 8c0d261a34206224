/- Walk of the law WalkOrder: it answers true, whatever the graph, the picks and the nodes that fail. -/
import Derived.Test.YtelioljmhlabjaaDoorRun
import Derived.Test.YtelioljmhlabjaaDoorRw6
import Derived.Test.YtelioljmhlabjaaDoorAwake19
import Derived.Test.YtelioljmhlabjaaDoorLawOrders
import Derived.Test.YtelioljmhlabjaaDoorRReach
import Derived.BigQuiet
namespace Go.Proofs.YtelioljmhlabjaaDoor
open Go.RowKit
set_option maxRecDepth 100000

/-- Where each node stands in an order: its place, from 1 on; 0: nowhere. -/
def atL (m : Nat) (o : List Nat) : List Int := (List.range m).map fun i => if i ∈ o then ((o.idxOf i : Nat) : Int) + 1 else 0
theorem atL_len (m : Nat) (o : List Nat) : (atL m o).length = m := by simp [atL]
theorem atL_get {m : Nat} {o : List Nat} {i : Nat} (h : i < m) : (atL m o).getD i 0 = if i ∈ o then ((o.idxOf i : Nat) : Int) + 1 else 0 := by simp [atL, List.getD, h]
theorem atL_nil (m : Nat) : atL m [] = List.replicate m 0 := by
  apply List.ext_getElem
  · simp [atL]
  · intro i h1 h2; simp [atL]
theorem atL_snoc {m : Nat} {o : List Nat} {x : Nat} (hx : x ∉ o) : (atL m o).set x ((o.length : Int) + 1) = atL m (o ++ [x]) := by
  apply List.ext_getElem
  · simp [atL]
  · intro i h1 h2
    rw [List.getElem_set]
    simp only [atL, List.getElem_map, List.getElem_range, List.mem_append, List.mem_singleton]
    by_cases e : x = i
    · subst e
      rw [if_pos rfl, if_pos (Or.inr rfl), idxOf_snoc_new hx]
    · have e' : ¬ i = x := fun h => e h.symm
      rw [if_neg e]
      by_cases hi : i ∈ o
      · rw [if_pos hi, if_pos (Or.inl hi), idxOf_snoc hi]
      · rw [if_neg hi, if_neg (by rintro (h | h); exact hi h; exact e' h)]

/-- What is known of the end of a walk. -/
structure EndF (m : Nat) (es : List (Int × Int)) (lim : Int) (fl : List Bool) (s : RunS) : Prop where
  nod : s.o.Nodup
  lt : ∀ i ∈ s.o, i < m
  kind : ∀ i, i < m → (i ∈ s.o ∧ s.st.getD i 0 = 2 ∧ okF fl i = true) ∨ (i ∈ s.o ∧ s.st.getD i 0 = 3 ∧ okF fl i = false) ∨ (i ∉ s.o ∧ s.st.getD i 0 = 4)
  beh : ∀ i k, Way (Edge es (-1, -1)) i k → s.st.getD i 0 ≠ 2 → s.st.getD k 0 = 4 ∧ k ∉ s.o
  fst : ∀ i k, Way (Edge es (-1, -1)) i k → k ∈ s.o → i ∈ s.o ∧ s.o.idxOf i < s.o.idxOf k
  most : (s.m : Int) ≤ lim
theorem end_facts {m : Nat} {es : List (Int × Int)} {lim : Int} {fl : List Bool} {s : RunS} (hes : ∀ e ∈ es, 0 ≤ e.1 ∧ e.1 < m ∧ 0 ≤ e.2 ∧ e.2 < m) {L : List Nat} (hL : Ok m L) (hf : L.length = m) (hw : Fwd es L)
    (h : AInv m es lim (okF fl) s) (ho : overR m es s.st = true) : EndF m es lim fl s := by
  have en := h.ends hes hL hf hw ho
  refine ⟨h.nod, fun i hi => ((h.mem i).1 hi).1, fun i hi => ?_, fun i k hw hs => ?_, fun i k hw hk => ⟨?_, h.ord i k hw hk⟩, h.mst.1⟩
  · obtain ⟨k2, k3⟩ := h.okt i hi
    rcases en i hi with e | e | e
    · exact Or.inl ⟨(h.mem i).2 ⟨hi, Or.inr (Or.inl e)⟩, e, k2 e⟩
    · exact Or.inr (Or.inl ⟨(h.mem i).2 ⟨hi, Or.inr (Or.inr e)⟩, e, k3 e⟩)
    · exact Or.inr (Or.inr ⟨fun hh => by have := ((h.mem i).1 hh).2; omega, e⟩)
  · have h34 : s.st.getD i 0 = 3 ∨ s.st.getD i 0 = 4 := by
      rcases en i (Way_lt hes hw).1 with e | e | e
      · exact absurd e hs
      · exact Or.inl e
      · exact Or.inr e
    have h4 := h.behind hw h34
    exact ⟨h4, fun hh => by have := ((h.mem k).1 hh).2; omega⟩
  · have h2 := h.inv.way hw ((h.mem k).1 hk).2
    exact (h.mem i).2 ⟨(Way_lt hes hw).1, Or.inr (Or.inl h2)⟩

set_option maxHeartbeats 4000000 in
theorem walkOrder_any (n lim : Int) (ag : Option Addr) (cg : Nat) (es : List (Int × Int)) (pv : Value) (ps : List Int) (fv : Value) (fl : List Bool) (w : World) (hT : Tab w) (h : PairsAt w (.slice ag es.length cg) es) (hp : IntsAt w pv ps) (hf : BoolsAt w fv fl) :
    Calls Tryd.prog 11 #[.agg #[.int .i64 n, .slice ag es.length cg, .int .i64 lim], pv, fv] w (LawPost w) := by
  obtain ⟨i3, hi3, hz3, hs3, hy3⟩ := info_parts Tryd.info3
  have hend : ∀ w', Below w.heap.size w w' → LawPost w (.returned (.bool true)) w' := fun _ h => ⟨rfl, h⟩
  have HE := Lib.hid hend
  have hb0 : Below w.heap.size w (w.alloc (.cells #[.int .i64 n, .slice ag es.length cg, .int .i64 lim] 54)) := (Below.refl _ _).alloc (Nat.le_refl _) _
  have hgx : (w.alloc (.cells #[.int .i64 n, .slice ag es.length cg, .int .i64 lim] 54)).heap[w.heap.size]? = some (.cells #[.int .i64 n, .slice ag es.length cg, .int .i64 lim] 54 (0, 0)) := heap_alloc_new _ _
  obtain ⟨w0, hw0⟩ : ∃ w0, w0 = w.alloc (.cells #[.int .i64 n, .slice ag es.length cg, .int .i64 lim] 54) := ⟨_, rfl⟩
  have hs0 : w0.heap.size = w.heap.size + 1 := by rw [hw0]; simp
  rw [← hw0] at hb0 hgx
  obtain ⟨ap, cp, hpv, _, _⟩ := id hp
  obtain ⟨af, cf, hfv, hfl, _⟩ := id hf
  subst hpv hfv
  have HP := Lib.hid hp
  have HFL := Lib.hid hf
  have AW := awake19_any w0 (hT.mono hb0)
  have hel : es.length ≤ 17592186044416 := by obtain ⟨_, _, hv, h1, _⟩ := h; exact h1
  have HH := Lib.hid h
  clear hend h hp hf
  go_enter Tryd.func11, Tryd.ntmps11
  go_wp2_with (simp only [← hw0])
  refine AW.mono ?_
  rintro e w1 ⟨rfl, hb1⟩
  have hB1 := hb0.trans (hb1.mono hb0.size)
  have hg1 := (hb1.block w.heap.size (by omega)).trans hgx
  have hs1 := hb1.size
  obtain ⟨y0, y1, y2, _⟩ := box3g hg1
  have SM := small19_any n lim ag cg es.length w1 hel
  clear AW hgx hb0 hb1 hw0
  by_cases hsm : (decide (n ≤ 30) && decide (es.length ≤ 120)) = true
  · rw [hsm] at SM
    have hsm2 := hsm
    simp only [Bool.and_eq_true, decide_eq_true_eq] at hsm2
    obtain ⟨hn30, hl120⟩ := hsm2
    clear hsm
    go_wp2_with fail
    refine SM.mono ?_
    rintro e w2 ⟨rfl, hb2⟩
    have hB2 := hB1.trans (hb2.mono hB1.size)
    have hg2 := (hb2.block w.heap.size (by omega)).trans hg1
    have hs2 := hb2.size
    clear SM y0 y1 y2 hB1 hb2 hg1
    obtain ⟨y0, y1, y2, _⟩ := box3g hg2
    by_cases hE : newE n es lim = 0
    · have ho : (orderR n es).2 = 0 := by
        apply Classical.byContradiction
        intro hh
        unfold newE at hE
        rw [if_pos hh] at hE
        exact hh hE
      have hl : 1 ≤ lim ∧ lim ≤ 16 := by
        unfold newE at hE
        rw [if_neg (by rw [ho]; simp)] at hE
        apply Classical.byContradiction
        intro hh
        rw [if_pos (by omega)] at hE
        exact absurd hE (by decide)
      obtain ⟨m, rfl, hm512, hes, hkl, _⟩ := orderR_zero ho
      have RB := rnew_good ag cg es m lim w2 (HH.out.mono hB2) hE
      have RUN := fun w' hT' hp h0 hf => run_any m lim ag cg es (.slice ap ps.length cp) ps (.slice af fl.length cf) fl w' hT' hp h0 hf hE (by omega)
      have hesp : ∀ e ∈ es, 0 ≤ e.1 ∧ 0 ≤ e.2 := fun e he => ⟨(hes e he).1, (hes e he).2.2.1⟩
      have EF := Lib.hid (end_facts (fl := fl) hes (kahn_ok m es) hkl (kahn_fwd hesp) (run_inv (ok := okF fl) (pk := pkF ps) hl.1 hes (2 * m)).1 (run_over hl.1 hes))
      have hend : endR m es lim (okF fl) (pkF ps) = runR m es lim (okF fl) (pkF ps) (2 * m) := rfl
      rw [hend] at RUN
      generalize runR m es lim (okF fl) (pkF ps) (2 * m) = s at RUN EF
      have RR := fun a w' hp => rreach_any (.slice ag es.length cg) es m a (-1) (-1) w' hp hm512 hes
      have hol : s.o.length ≤ m := Ok.len (n := m) ⟨EF.out.lt, EF.out.nod⟩
      have hmost : ¬ lim < (s.m : Int) := by have := EF.out.most; omega
      clear hE ho hes hkl hesp hend
      go_wp2_with fail
      refine RB.mono ?_
      rintro e w4 ⟨sa, cs, rfl, hi4, hfr4, hb4⟩
      have hB4 := hB2.trans (hb4.mono hB2.size)
      have hg4 := (hb4.block w.heap.size (by omega)).trans hg2
      have hs4 := hb4.size
      clear RB hb4 hg2 y0 y1 y2 hB2 hi4 hfr4
      have hg5e : (w4.alloc (.cells #[.slice ag es.length cg, .int .i64 lim, .slice sa m cs] 58)).heap[w.heap.size]? = some (.cells #[.int .i64 m, .slice ag es.length cg, .int .i64 lim] 54 (0, 0)) := (Below.heap_alloc _ _ _ (by omega)).trans hg4
      obtain ⟨v0, v1, v2, _⟩ := box3g hg5e
      clear hg5e
      obtain ⟨w5, hw5⟩ : ∃ w5, w5 = w4.alloc (.cells #[.slice ag es.length cg, .int .i64 lim, .slice sa m cs] 58) := ⟨_, rfl⟩
      have hs5 : w5.heap.size = w4.heap.size + 1 := by rw [hw5]; simp
      have hg5 : w5.heap[w.heap.size]? = some (.cells #[.int .i64 m, .slice ag es.length cg, .int .i64 lim] 54 (0, 0)) := by rw [hw5]; exact (Below.heap_alloc _ _ _ (by omega)).trans hg4
      have hB5 : Below w.heap.size w w5 := by rw [hw5]; exact hB4.alloc hB4.size _
      obtain ⟨y0, y1, y2, _⟩ := box3g hg5
      have RUN5 := RUN w5 (hT.mono hB5) (HH.out.mono hB5) (HP.out.mono hB5) (HFL.out.mono hB5)
      clear hg4 hB4 RUN
      go_wp2_with (rw [← hw5])
      refine RUN5.mono ?_
      clear v0 v1 v2
      rintro e w6 ⟨b, S, A, N, ev, rows, ov, rfl, hW6, ho6, hb6⟩
      have hB6 := hB5.trans (hb6.mono hB5.size)
      have hg6 := (hb6.block w.heap.size (by omega)).trans hg5
      have hs6 := hb6.size
      have HW6 := Lib.hid hW6
      obtain ⟨oa, oc, hove, _, _⟩ := id ho6
      rw [ints_len] at hove
      subst hove
      have HO6 := Lib.hid ho6
      obtain ⟨y0, y1, y2, _⟩ := box3g hg6
      clear RUN5 hW6 hb6 hg5 ho6 hw5 hB5
      go_wp2_with (first | (at_make; refine wpList_make_full _ rfl _ _ 26 rfl w6.heap.size 3 i3 (.int .i64 0) 1 Tryd.underlying26 hi3 hz3 hs3 _ _ _ _ m rfl rfl rfl rfl (by rw [hy3]; omega) (by unfold maxLen; omega) (Nat.le_refl _) ?_))
      intro w7 hown7 hgrow7
      have hA7 : OwnInts w7 w6.heap.size (atL m []) := by
        unfold OwnInts
        rw [atL_nil]
        have := ownsRow_block hown7
        rw [made_ints] at this
        exact this
      have hb7 : Below w6.heap.size w6 w7 := (Below.refl _ _).grown hgrow7 (Nat.le_refl _) (fun k hk => by cases hk)
      clear hown7 hgrow7 y0 y1 y2
      go_wp2
      go_loopg [62] s.o.length (fun g v62 wr => ∃ k : Nat, k + g = s.o.length ∧ v62 = .int .i64 k ∧ OwnInts wr w6.heap.size (atL m (s.o.take k)) ∧ Below w6.heap.size w6 wr)
      case atStart => exact ⟨0, by omega, rfl, by rw [List.take_zero]; exact hA7, hb7⟩
      case round =>
        obtain ⟨k, hkg, rfl, hA, hb⟩ := hrel
        clear hA7 hb7
        cases gk with
        | zero =>
          have hkn : ¬ (k : Int) < (s.o.length : Int) := by omega
          have hkd : decide (k < s.o.length) = false := decide_eq_false (by omega)
          rw [List.take_of_length_le (by omega)] at hA
          go_wp2
          go_loopg [16] m (fun g v16 wy => ∃ i : Nat, i + g = m ∧ v16 = .int .i64 i ∧ OwnInts wy w6.heap.size (atL m s.o) ∧ Below w6.heap.size w6 wy)
          case atStart => exact ⟨0, by omega, rfl, hA, hb⟩
          case round =>
            obtain ⟨i, hig, rfl, hA2, hb2⟩ := hrel
            clear hA hb
            have hB2 := hB6.trans (hb2.mono hB6.size)
            have hg2 := (hb2.block w.heap.size (by omega)).trans hg6
            obtain ⟨y0, y1, y2, _⟩ := box3g hg2
            cases gk with
            | zero =>
              have him : ¬ (i : Int) < (m : Int) := by omega
              have HF := Lib.hid (HE.out _ hB2)
              go_wp2
              go_ret
              exact HF.out
            | succ g =>
              have hi : i < m := by omega
              have him : (i : Int) < (m : Int) := by omega
              have ST := status_any b S A N m ev rows es lim s.st _ i wr (HW6.out.below hb2)
              have hr : ∀ k, k < m → statusR m s.st (k : Nat) = s.st.getD k 0 := fun k hk => by unfold statusR; rw [if_neg (by omega), Int.toNat_natCast]
              rw [hr i hi] at ST
              have HA2 := Lib.hid hA2
              have HB2 := Lib.hid hb2
              have ca := hA2.cell (i := i) (by rw [atL_len]; exact hi)
              rw [atL_get hi] at ca
              have RR2 := RR i wr (HH.out.mono hB2)
              obtain ⟨x, hx⟩ : ∃ x, x = s.st.getD i 0 := ⟨_, rfl⟩
              rw [← hx] at ST
              have HR := Lib.hid hr
              have HX := Lib.hid hx
              clear hr hA2 hb2 hx
              go_wp2_with fail
              refine ST.mono ?_
              rintro e w8 ⟨rfl, rfl⟩
              clear ST
              go_upto_region 21 with fail
              go_cut [120] from 78 to 172 (fun s120 wx => s120 = .bool false ∧ wx = wr)
              case first =>
                have hfi : i < fl.length → ∃ bf off, af = some ⟨bf, off, none⟩ ∧ wr.cell? ⟨bf, off + i, none⟩ = some (.bool (fl.getD i false)) := fun hif => by
                  obtain ⟨_, _, hv3, _, _, hc3⟩ := HFL.out
                  cases hv3
                  obtain ⟨bf, off, h1, h2, h3⟩ := hc3 (fun e => by rw [e] at hif; simp at hif)
                  exact ⟨bf, off, h1, (hB2.cell (p := ⟨bf, off + i, none⟩) h2).trans (h3 i hif)⟩
                rcases EF.out.kind i hi with ⟨ho, hs, hk⟩ | ⟨ho, hs, hk⟩ | ⟨ho, hs⟩
                · obtain rfl : x = 2 := by rw [HX.out]; exact hs
                  rw [if_pos ho] at ca
                  generalize s.o.idxOf i = p at ca
                  have hp0 : (0 : Int) < (p : Int) + 1 := by omega
                  by_cases hif : i < fl.length
                  · obtain ⟨bf, off, haf, hcf⟩ := hfi hif
                    have hfb : fl.getD i false = false := by
                      unfold okF at hk
                      rw [decide_eq_true hif, Bool.true_and] at hk
                      simpa using hk
                    rw [hfb] at hcf
                    subst haf
                    have hil : (i : Int) < (fl.length : Int) := by omega
                    clear hfi hk hs ho hfb
                    go_wp2
                    go_meet
                    exact ⟨rfl, rfl⟩
                  · have hil : ¬ (i : Int) < (fl.length : Int) := by omega
                    clear hfi hk hs ho
                    go_wp2
                    go_meet
                    exact ⟨rfl, rfl⟩
                · obtain rfl : x = 3 := by rw [HX.out]; exact hs
                  rw [if_pos ho] at ca
                  generalize s.o.idxOf i = p at ca
                  have hp0 : (0 : Int) < (p : Int) + 1 := by omega
                  have hif : i < fl.length := by
                    apply Classical.byContradiction
                    intro hh
                    unfold okF at hk
                    rw [decide_eq_false hh] at hk
                    simp at hk
                  obtain ⟨bf, off, haf, hcf⟩ := hfi hif
                  have hfb : fl.getD i false = true := by
                    unfold okF at hk
                    rw [decide_eq_true hif, Bool.true_and] at hk
                    simpa using hk
                  rw [hfb] at hcf
                  subst haf
                  have hil : (i : Int) < (fl.length : Int) := by omega
                  clear hfi hk hs ho hfb
                  go_wp2
                  go_meet
                  exact ⟨rfl, rfl⟩
                · obtain rfl : x = 4 := by rw [HX.out]; exact hs
                  rw [if_neg ho] at ca
                  clear hfi hs ho
                  go_wp2
                  go_meet
                  exact ⟨rfl, rfl⟩
              case rest =>
                obtain ⟨rfl, rfl⟩ := hcut
                go_wp2_with fail
                refine RR2.mono ?_
                rintro e w8 ⟨rb, rfl, hrb, hb8, _⟩
                have hB8 := HB2.out.trans (hb8.mono HB2.out.size)
                have HRB := Lib.hid hrb
                have hA8 : OwnInts w8 w6.heap.size (atL m s.o) := (hb8.block _ HA2.out.lt).trans HA2.out
                clear RR2 hrb hb8
                go_wp2
                go_loopg [130] m (fun g v130 wz => ∃ k : Nat, k + g = m ∧ v130 = .int .i64 k ∧ Below w8.heap.size w8 wz)
                case atStart => exact ⟨0, by omega, rfl, Below.refl _ _⟩
                case round =>
                  obtain ⟨k, hkg2, rfl, hb9⟩ := hrel
                  have hB9 := hB8.trans (hb9.mono hB8.size)
                  have hA9 : OwnInts wr w6.heap.size (atL m s.o) := (hb9.block _ hA8.lt).trans hA8
                  cases gk with
                  | zero =>
                    have hkm : ¬ (k : Int) < (m : Int) := by omega
                    have HA9 := Lib.hid hA9
                    clear hA9 ca
                    go_wp2
                    go_roundg g
                    case measure => omega
                    case rel => exact ⟨i + 1, by omega, by go_num, HA9.out, hB9⟩
                  | succ g2 =>
                    have hk : k < m := by omega
                    have hkm : (k : Int) < (m : Int) := by omega
                    have rk := (hb9.cell (p := ⟨rb, k, none⟩) (Array.getElem?_eq_some_iff.1 (show w8.heap[rb]? = some _ from HRB.out)).1).trans (HRB.out.cell (i := k) (by rw [marks_len]; exact hk))
                    rw [marks_get m _ k hk] at rk
                    have ai := hA9.cell (i := i) (by rw [atL_len]; exact hi)
                    rw [atL_get hi] at ai
                    have ak := hA9.cell (i := k) (by rw [atL_len]; exact hk)
                    rw [atL_get hk] at ak
                    have HB9 := Lib.hid hb9
                    have WB : Hid (∀ nq, WkM (wr.drewN nq) b S A N m ev rows es lim s.st (cnts m (aheadN es s.st))) := fun nq => HW6.out.below (below_drewN hB9 nq)
                    clear hA9 hB9 hb9 ca
                    by_cases hR : k ∈ wayL m es (-1, -1) i
                    · have hway := (mem_wayL.1 hR).2
                      rw [show (wayL m es (-1, -1) i).contains k = true by simpa using hR] at rk
                      by_cases hs2 : x = 2
                      · have hx2 : (x != 2) = false := by simpa using hs2
                        by_cases hko : k ∈ s.o
                        · obtain ⟨hio, hlt⟩ := EF.out.fst i k hway hko
                          rw [if_pos hio] at ai
                          rw [if_pos hko] at ak
                          generalize s.o.idxOf i = p at ai hlt
                          generalize s.o.idxOf k = q at ak hlt
                          have t1 : (0 : Int) < (q : Int) + 1 := by omega
                          have t2 : (((p : Int) + 1) == 0) = false := by simp; omega
                          have t3 : ¬ (q : Int) + 1 < (p : Int) + 1 := by omega
                          have t4 : decide ((q : Int) + 1 < (p : Int) + 1) = false := decide_eq_false t3
                          subst hs2
                          clear WB hway hio hko hlt hR
                          go_wp2_with (go_quiet (fail))
                          go_roundg g2
                          case measure => omega
                          case rel => exact ⟨k + 1, by omega, by go_num, below_drewN HB9.out nq⟩
                        · rw [if_neg hko] at ak
                          generalize (if i ∈ s.o then ((s.o.idxOf i : Nat) : Int) + 1 else 0) = p at ai
                          subst hs2
                          clear WB hway hko hR
                          go_wp2_with (go_quiet (fail))
                          go_roundg g2
                          case measure => omega
                          case rel => exact ⟨k + 1, by omega, by go_num, below_drewN HB9.out nq⟩
                      · have hx2 : (x != 2) = true := by simpa using hs2
                        obtain ⟨h4, hko⟩ := EF.out.beh i k hway (by rw [← HX.out]; exact hs2)
                        rw [if_neg hko] at ak
                        have STK : ∀ nq, Calls Tryd.prog 43 #[.pointer (some ⟨b, 0, none⟩), .int .i64 k] (wr.drewN nq) fun e w' => e = .returned (.int .i64 4) ∧ w' = wr.drewN nq := fun nq => by
                          have := status_any b S A N m ev rows es lim s.st _ k (wr.drewN nq) (WB.out nq)
                          rw [HR.out k hk, h4] at this
                          exact this.mono fun e w' h => ⟨h.1, h.2.symm⟩
                        clear WB hway hko hR h4 hs2
                        go_wp2_with (go_quiet ((go_at_call 43; refine Calls.quiet_of_same (STK _))))
                        go_roundg g2
                        case measure => omega
                        case rel => exact ⟨k + 1, by omega, by go_num, below_drewN HB9.out nq⟩
                    · rw [show (wayL m es (-1, -1) i).contains k = false by simpa using hR] at rk
                      clear WB hR
                      go_wp2_with (go_quiet (fail))
                      go_roundg g2
                      case measure => omega
                      case rel => exact ⟨k + 1, by omega, by go_num, below_drewN HB9.out nq⟩
        | succ g =>
          have hkl : k < s.o.length := by omega
          have hkn : (k : Int) < (s.o.length : Int) := by omega
          have hkd : decide (k < s.o.length) = true := decide_eq_true hkl
          obtain ⟨x, hx⟩ : ∃ x, x = s.o[k] := ⟨_, rfl⟩
          have hxm : x ∈ s.o := by rw [hx]; exact List.getElem_mem hkl
          have hxl := EF.out.lt x hxm
          have htk : s.o.take (k + 1) = s.o.take k ++ [x] := by rw [hx]; exact (List.take_append_getElem hkl).symm
          have hxn : x ∉ s.o.take k := by
            have h1 : (s.o.take (k + 1)).Nodup := EF.out.nod.sublist (List.take_sublist _ _)
            rw [htk, List.nodup_append] at h1
            exact fun hh => h1.2.2 x hh x (by simp) rfl
          obtain ⟨bo, off, hao, hbo, hco⟩ := HO6.out.get (i := k) (by rw [ints_len]; exact hkl)
          have hix : (ints s.o).getD k 0 = (x : Int) := by
            rw [hx]
            simp [ints, List.getD, hkl]
          rw [hix] at hco
          have hcx := (hb.cell (p := ⟨bo, off + k, none⟩) hbo).trans hco
          have ca := hA.cell (i := x) (by rw [atL_len]; exact hxl)
          rw [atL_get hxl, if_neg hxn] at ca
          have fa := hA.free x
          have hxm' : (x : Int) < (m : Int) := by omega
          obtain ⟨w9, hw9⟩ : ∃ w9, w9 = wr.setCell ⟨w6.heap.size, x, none⟩ (.int .i64 ((k : Int) + 1)) := ⟨_, rfl⟩
          have hA9 : OwnInts w9 w6.heap.size (atL m (s.o.take (k + 1))) := by
            rw [htk, ← atL_snoc hxn, hw9, List.length_take, Nat.min_eq_left (by omega)]
            exact hA.set x _
          have hb9 : Below w6.heap.size w6 w9 := by rw [hw9]; exact hb.setCell (Nat.le_refl _) _
          subst hao
          clear hA hb hco hix htk hxn hxm hx
          go_wp2_with (rw [← hw9])
          go_roundg g
          case measure => omega
          case rel => exact ⟨k + 1, by omega, by go_num, hA9, hb9⟩
    · have RB := rnew_bad (.slice ag es.length cg) es n lim w2 (HH.out.mono hB2) hE
      have hc0 : (newE n es lim != 0) = true := by simpa using hE
      have hcn : ¬ newE n es lim = 0 := hE
      generalize newE n es lim = c at RB hc0 hcn
      clear hE
      go_wp2_with fail
      refine RB.mono ?_
      rintro e w4 ⟨rfl, hb4⟩
      have hB4 := hB2.trans (hb4.mono hB2.size)
      have HF := Lib.hid (HE.out _ (hB4.alloc hB4.size (.cells #[.slice none 0 0, .int .i64 0, .slice none 0 0] 58)))
      clear RB hb4 hg2 y0 y1 y2 hB2 hB4
      go_wp2
      go_ret
      exact HF.out
  · have hsf : (decide (n ≤ 30) && decide (es.length ≤ 120)) = false := by simpa using hsm
    rw [hsf] at SM
    clear hsm hsf
    go_wp2_with fail
    refine SM.mono ?_
    rintro e w2 ⟨rfl, hb2⟩
    have hB2 := hB1.trans (hb2.mono hB1.size)
    have AW2 := awake19_any w2 (hT.mono hB2)
    clear SM hB1 hb2 y0 y1 y2
    go_wp2_with fail
    refine AW2.mono ?_
    rintro e w3 ⟨rfl, hb3⟩
    have HF := Lib.hid (HE.out _ (hB2.trans (hb3.mono hB2.size)))
    clear AW2 hb3 hB2
    go_wp2_with fail
    go_ret
    exact HF.out

end Go.Proofs.YtelioljmhlabjaaDoor
