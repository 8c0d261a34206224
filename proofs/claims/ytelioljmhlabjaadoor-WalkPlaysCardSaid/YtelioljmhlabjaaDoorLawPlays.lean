/- Walk of the law WalkPlays: it answers true, whatever the graph and the script. -/
import Derived.Test.YtelioljmhlabjaaDoorPlay1
import Derived.Test.YtelioljmhlabjaaDoorTells
import Derived.Test.YtelioljmhlabjaaDoorRw5
import Derived.Test.YtelioljmhlabjaaDoorRw6
import Derived.Test.YtelioljmhlabjaaDoorWk4
import Derived.Test.YtelioljmhlabjaaDoorAwake19
import Derived.Test.YtelioljmhlabjaaDoorLawOrders
namespace Go.Proofs.YtelioljmhlabjaaDoor
open Go.RowKit
set_option maxRecDepth 100000

set_option maxHeartbeats 4000000 in
theorem walkPlays_any (n lim : Int) (ag : Option Addr) (cg : Nat) (es : List (Int × Int)) (tv : Value) (ops : List (Int × Int)) (w : World) (hT : Tab w) (h : PairsAt w (.slice ag es.length cg) es) (ho : PairsAt w tv ops) :
    Calls Tryd.prog 10 #[.agg #[.int .i64 n, .slice ag es.length cg, .int .i64 lim], tv] w (LawPost w) := by
  have hend : ∀ w', Below w.heap.size w w' → LawPost w (.returned (.bool true)) w' := fun _ h => ⟨rfl, h⟩
  have HE := Lib.hid hend
  have hb0 : Below w.heap.size w (w.alloc (.cells #[.int .i64 n, .slice ag es.length cg, .int .i64 lim] 54)) := (Below.refl _ _).alloc (Nat.le_refl _) _
  have hgx : (w.alloc (.cells #[.int .i64 n, .slice ag es.length cg, .int .i64 lim] 54)).heap[w.heap.size]? = some (.cells #[.int .i64 n, .slice ag es.length cg, .int .i64 lim] 54 (0, 0)) := heap_alloc_new _ _
  obtain ⟨w0, hw0⟩ : ∃ w0, w0 = w.alloc (.cells #[.int .i64 n, .slice ag es.length cg, .int .i64 lim] 54) := ⟨_, rfl⟩
  have hs0 : w0.heap.size = w.heap.size + 1 := by rw [hw0]; simp
  rw [← hw0] at hb0 hgx
  have AW := awake19_any w0 (hT.mono hb0)
  obtain ⟨at', ct, htv, hol, _, _⟩ := id ho
  subst htv
  have hel : es.length ≤ 17592186044416 := by obtain ⟨_, _, hv, h1, _⟩ := h; exact h1
  have HH := Lib.hid h
  have HO := Lib.hid ho
  clear hend h ho
  go_enter Tryd.func10, Tryd.ntmps10
  go_wp2_with (simp only [← hw0])
  refine AW.mono ?_
  rintro e w1 ⟨rfl, hb1⟩
  have hB1 := hb0.trans (hb1.mono hb0.size)
  have hg1 := (hb1.block w.heap.size (by omega)).trans hgx
  have hs1 := hb1.size
  obtain ⟨y0, y1, y2, _⟩ := box3g hg1
  have SM := small19_any n lim ag cg es.length w1 hel
  clear AW hgx hb0 hb1 hw0
  by_cases hsm : (decide (n ≤ 30) && decide (es.length ≤ 120)) = true
  · rw [hsm] at SM
    have hsm2 := hsm
    simp only [Bool.and_eq_true, decide_eq_true_eq] at hsm2
    obtain ⟨hn30, hl120⟩ := hsm2
    clear hsm
    go_wp2_with fail
    refine SM.mono ?_
    rintro e w2 ⟨rfl, hb2⟩
    have hB2 := hB1.trans (hb2.mono hB1.size)
    have hg2 := (hb2.block w.heap.size (by omega)).trans hg1
    have hs2 := hb2.size
    clear SM y0 y1 y2 hB1 hb2 hg1
    have hmade := World.ownsRow_made (e := 34) (size := 2) w2 #[] 0 (Nat.le_refl _) (by unfold maxLen; omega) rfl
    have hBm : Below w2.heap.size w2 (w2.alloc (.cells #[] 34)) := (Below.refl _ _).alloc (Nat.le_refl _) _
    obtain ⟨Wm, hWm⟩ : ∃ Wm, Wm = w2.alloc (.cells #[] 34) := ⟨_, rfl⟩
    rw [← hWm] at hmade hBm
    have hwl : w2.heap.size + 1 = Wm.heap.size := by rw [hWm]; simp
    have hgm := (hBm.block w.heap.size (by omega)).trans hg2
    have y1 : (w2.alloc (.cells #[] 34)).cell? ⟨w.heap.size, 1, none⟩ = some (.slice ag es.length cg) := by rw [← hWm]; exact (box3g hgm).2.1
    have hPm := (HH.out.mono hB2).mono hBm
    clear hg2
    go_wp2_with (simp only [← hWm]; at_builtin; refine wpList_append_pairs _ rfl (.tmp 25) (.tmp 27) rfl w2.heap.size _ 0 [] rfl hmade _ es rfl hPm ?b1 ?b2 ?_)
    case b1 => omega
    case b2 => omega
    intro v3 w3 hown3 hgrow3 _
    rw [Nat.zero_add, List.nil_append] at hown3
    have hb3 : Below w2.heap.size w2 w3 := hBm.grown hgrow3 hBm.size (fun k e => (hmade.lt _ e).1)
    have hB3 := hB2.trans (hb3.mono hB2.size)
    have hg3 : w3.heap[w.heap.size]? = some (.cells #[.int .i64 n, .slice ag es.length cg, .int .i64 lim] 54 (0, 0)) := (hgrow3.block _ (by omega) (fun e => by have := (hmade.lt _ e.symm).1; omega)).trans hgm
    have hin : PairsAt w3 v3 es := pairs_of_own hown3 hel
    have hs3 : w2.heap.size ≤ w3.heap.size := hb3.size
    obtain ⟨y0, y1, y2, _⟩ := box3g hg3
    clear hmade hBm hgrow3 hPm hWm hwl hgm hb3 hB2
    by_cases hE : newE n es lim = 0
    · have ho : (orderR n es).2 = 0 := by
        apply Classical.byContradiction
        intro hh
        unfold newE at hE
        rw [if_pos hh] at hE
        exact hh hE
      have hl : 1 ≤ lim ∧ lim ≤ 16 := by
        unfold newE at hE
        rw [if_neg (by rw [ho]; simp)] at hE
        apply Classical.byContradiction
        intro hh
        rw [if_pos (by omega)] at hE
        exact absurd hE (by decide)
      obtain ⟨m, rfl, hm512, hes, _, _⟩ := orderR_zero ho
      have NB := new_fresh v3 es m lim w3 (hT.mono hB3) hin ho hl.1 hl.2 (by omega)
      have RB := fun w' hb => rnew_good ag cg es m lim w' (HH.out.mono hb) hE
      have HES := Lib.hid hes
      clear hE ho hl hes
      go_wp2_with fail
      refine NB.mono ?_
      rintro e w4 ⟨b, S, A, N, ev, rows, rfl, hW4, hb4, gb, gS, gA, gN, gev, grw⟩
      have hB4 := hB3.trans (hb4.mono hB3.size)
      have hown4 := own_below hown3 hb4
      have hg4 := (hb4.block w.heap.size (by omega)).trans hg3
      have hs4 := hb4.size
      have RB4 := RB w4 hB4
      have hlt3 : Hid (∀ k, v3.ownBlock = some k → k < w3.heap.size) := fun k hk => (hown3.lt k hk).2
      have HW4 := Lib.hid hW4
      have GEV := Lib.hid gev
      have GRW := Lib.hid grw
      clear NB RB hg3 hown3 hb4 hin y0 y1 y2 hB3 hW4 gev grw
      obtain ⟨y0, y1, y2, _⟩ := box3g hg4
      go_wp2_with fail
      refine RB4.mono ?_
      rintro e w5 ⟨sa, cs, rfl, hi5, hfr5, hb5⟩
      have hB5 := hB4.trans (hb5.mono hB4.size)
      have hown5 := own_below hown4 hb5
      have hg5 := (hb5.block w.heap.size (by omega)).trans hg4
      have hs5 := hb5.size
      have HW5 := Lib.hid (HW4.out.below hb5)
      have hq4 : S < w4.heap.size ∧ A < w4.heap.size ∧ b < w4.heap.size ∧ N < w4.heap.size := ⟨HW4.out.sst.lt, HW4.out.sah.lt, HW4.out.blt, HW4.out.nlt⟩
      have HSEP : Hid (Sep w w5.heap.size b S A N m ev rows) := by
        refine ⟨⟨by omega, by omega, by omega, by omega⟩, fun k hk => ?_, fun i hi k hk => ?_, ⟨by have := hB5.size; omega, by omega, by omega⟩⟩
        · have := GEV.out k hk; omega
        · have := GRW.out i hi k hk; omega
      have hfr6 : Hid (∀ a, sa = some a → a.block ≠ S ∧ a.block ≠ A ∧ w3.heap.size ≤ a.block ∧ a.block < w5.heap.size) := fun a ha => by have := hfr5 a ha; omega
      clear RB4 hb5 hg4 hown4 y0 y1 y2 hB4 HW4
      obtain ⟨w6, hw6⟩ : ∃ w6, w6 = w5.alloc (.cells #[.slice ag es.length cg, .int .i64 lim, .slice sa m cs] 58) := ⟨_, rfl⟩
      have hsz6 : w6.heap.size = w5.heap.size + 1 := by rw [hw6]; simp
      have hk6 : ∀ k, k < w5.heap.size → w6.heap[k]? = w5.heap[k]? := fun k hk => by rw [hw6]; exact Below.heap_alloc _ _ _ hk
      have hB6 : Below w.heap.size w w6 := by rw [hw6]; exact hB5.alloc hB5.size _
      have hbx6 : w6.heap[w5.heap.size]? = some (.cells #[.slice ag es.length cg, .int .i64 lim, .slice sa m cs] 58 (0, 0)) := by rw [hw6]; exact heap_alloc_new _ _
      have hown6 := own_keep hown5 fun k _ hk => hk6 k hk
      have hg6 := (hk6 w.heap.size (by omega)).trans hg5
      obtain ⟨aw3, cw3, hv3e, _, _⟩ := id (pairs_of_own hown6 hel)
      subst hv3e
      clear hown5 hg5 hB5

      have hwB : w.heap.size < w2.heap.size := by omega
      have HI6 := Lib.hid (hi5.stay (by omega) fun a ha hlt => hk6 _ hlt)
      have HW6 := Lib.hid (HW5.out.kept (fun k => ¬ k < w5.heap.size) ⟨by have := HW5.out.blt; omega, by have := HW5.out.sst.lt; omega, by have := HW5.out.sah.lt; omega, by have := HW5.out.nlt; omega⟩ (fun k hk => by have := GEV.out k hk; omega) (fun i hi k hk => by have := GRW.out i hi k hk; omega) (by omega) fun k _ hk => hk6 k hk)
      clear hi5 hfr5 HW5
      generalize w2.heap.size = B at hown6 hwB
      go_wp2_with (rw [← hw6])
      go_loopg [60] es.length (fun g v60 wr => ∃ q : Nat, q + g = es.length ∧ v60 = .int .i64 q ∧ wr.ownsRow B 34 2 (Value.slice aw3 es.length cw3) es.length (pairCells (wiped es q)) ∧ wr.heap.size = w6.heap.size ∧ (∀ k, (Value.slice aw3 es.length cw3).ownBlock ≠ some k → wr.heap[k]? = w6.heap[k]?) ∧ Below w.heap.size w wr)
      case atStart => exact ⟨0, by omega, rfl, by rw [wiped_zero]; exact hown6, rfl, fun _ _ => rfl, hB6⟩
      case round =>
        obtain ⟨q, hqg, rfl, hown, hsz, hkp, hB⟩ := hrel
        have hgr := (hkp w.heap.size (fun e => by have := (hown.lt _ e).1; omega)).trans hg6
        have HKP := Lib.hid hkp
        clear hown6 hkp
        cases gk with
        | zero =>
          have hqn : ¬ (q : Int) < (es.length : Int) := by omega
          clear hown
          have hP0 : PlMem w wr w5.heap.size b S A N m ev rows es lim ag cg sa cs (List.replicate m 0) := by
            refine ⟨HW6.out.kept (fun k => (Value.slice aw3 es.length cw3).ownBlock = some k) ⟨fun e => ?_, fun e => ?_, fun e => ?_, fun e => ?_⟩ (fun k hk e => ?_) (fun i hi k hk e => ?_) (by omega) (fun k hk _ => HKP.out k hk), (HKP.out _ (fun e => ?_)).trans hbx6, HI6.out.stay (by omega) (fun a ha _ => HKP.out _ (fun e => ?_)), fun a ha => ⟨(hfr6.out a ha).1, (hfr6.out a ha).2.1, ?_⟩, WInv.zeros es m, hB⟩
            · have := hlt3.out _ e; omega
            · have := hlt3.out _ e; omega
            · have := hlt3.out _ e; omega
            · have := hlt3.out _ e; omega
            · have := hlt3.out _ e; have := GEV.out k hk; omega
            · have := hlt3.out _ e; have := GRW.out i hi k hk; omega
            · have := hlt3.out _ e; omega
            · have := hlt3.out _ e; have := hfr6.out a ha; omega
            · have := hfr6.out a ha; omega
          have hQ : w3.heap.size ≤ w5.heap.size := by omega
          have h0S : 0 < S := by have := hT.1; have := HSEP.out.old; omega
          have h0A : 0 < A := by have := hT.1; have := HSEP.out.old; omega
          clear hgr hB HKP hbx6 HW6 HI6 hfr6 GEV GRW hlt3 hqn
          generalize w5.heap.size = Q at hP0 HSEP
          have hqd : decide (q < es.length) = false := decide_eq_false (by omega)
          go_wp2
          go_loopg [11] 100 (fun g v11 wx => ∃ (i : Nat) (sa : Option Addr) (cs : Nat) (st : List Int), i + g = 100 ∧ v11 = .int .i64 i ∧ PlMem w wx Q b S A N m ev rows es lim ag cg sa cs st)
          case atStart => exact ⟨0, sa, cs, _, by omega, rfl, hP0⟩
          case round =>
            obtain ⟨i, sa, cs, st, hig, rfl, hP⟩ := hrel
            clear hP0
            have HF := Lib.hid (HE.out _ hP.bel)
            cases gk with
            | zero =>
              have h100 : ¬ (i : Int) < 100 := by omega
              clear hP
              by_cases hil : (i : Int) < (ops.length : Int)
              · go_wp2
                go_ret
                exact HF.out
              · go_wp2
                go_ret
                exact HF.out
            | succ g =>
              have h100 : (i : Int) < 100 := by omega
              by_cases hil : (i : Int) < (ops.length : Int)
              · have hiln : i < ops.length := by omega
                obtain ⟨bo, oo, hao, hbo, hcell⟩ : ∃ bo oo, at' = some ⟨bo, oo, none⟩ ∧ bo < w.heap.size ∧ ∀ i, i < ops.length → w.cell? ⟨bo, oo + i * 2, none⟩ = some (.int .i64 (ops.getD i (0, 0)).1) ∧ w.cell? ⟨bo, oo + i * 2 + 1, none⟩ = some (.int .i64 (ops.getD i (0, 0)).2) := by
                  obtain ⟨_, _, hv3, _, _, hc3⟩ := HO.out
                  cases hv3
                  exact hc3 (by intro e; simp [e] at hiln)
                subst hao
                obtain ⟨hx1, hy1⟩ := hcell i hiln
                have d1 := (hP.bel.cell (p := ⟨bo, oo + i * 2, none⟩) hbo).trans hx1
                have d2 := (hP.bel.cell (p := ⟨bo, oo + i * 2 + 1, none⟩) hbo).trans hy1
                obtain ⟨⟨kd, oi⟩, hop⟩ : ∃ o, o = ops.getD i (0, 0) := ⟨_, rfl⟩
                rw [← hop] at d1 d2
                simp only at d1 d2
                have hbn : Below wr.heap.size wr (wr.alloc (.cells #[.int .i64 kd, .int .i64 oi] 62)) := (Below.refl _ _).alloc (Nat.le_refl _) _
                have hkx : (wr.alloc (.cells #[.int .i64 kd, .int .i64 oi] 62)).heap[wr.heap.size]? = some (.cells #[.int .i64 kd, .int .i64 oi] 62 (0, 0)) := heap_alloc_new _ _
                have hsx : (wr.alloc (.cells #[.int .i64 kd, .int .i64 oi] 62)).heap.size = wr.heap.size + 1 := by simp
                have hP1 := hP.below hbn
                have hSx := hP.wk.sst.lt
                have hAx := hP.wk.sah.lt
                have HP1 := Lib.hid hP1
                clear hop hx1 hy1 hcell hbn hP HF hP1
                obtain ⟨W1, hW1⟩ : ∃ W1, W1 = wr.alloc (.cells #[.int .i64 kd, .int .i64 oi] 62) := ⟨_, rfl⟩
                rw [← hW1] at hkx hsx HP1
                have k0 : W1.cell? ⟨wr.heap.size, 0, none⟩ = some (.int .i64 kd) := by simp [World.cell?, hkx]
                have k1 : W1.cell? ⟨wr.heap.size, 1, none⟩ = some (.int .i64 oi) := by simp [World.cell?, hkx]
                go_upto_region 19 with (rw [← hW1])
                clear hW1 d1 d2
                have hinS := WInv.start (lim := lim) (i := oi) HP1.out.inv HP1.out.wk.lst (fun e he => ⟨(HES.out e he).1, (HES.out e he).2.2.1⟩)
                have hlst := HP1.out.wk.lst
                have hinv := HP1.out.inv
                have hlst := HP1.out.wk.lst
                have hTW := hT.mono HP1.out.bel
                by_cases hk1 : kd = 1
                · subst hk1
                  have hinS := WInv.start (lim := lim) (i := oi) hinv hlst (fun e he => ⟨(HES.out e he).1, (HES.out e he).2.2.1⟩)
                  clear hinv hTW
                  have ST := start_any b S A N m ev rows es lim st oi W1 HP1.out.wk
                  have RSTF := fun w' hed hst => rstart_any ag cg sa cs m es lim st oi w' hed hst hlst hm512 HES.out
                  generalize startR m es lim st oi = r at ST RSTF hinS
                  obtain ⟨st', code⟩ := r
                  go_wp2_with fail
                  refine ST.mono ?_
                  rintro e w7 ⟨rfl, hW7, hc7⟩
                  simp only at hW7 hinS
                  obtain ⟨m1, m2, m3⟩ := HP1.out.mid HSEP.out hc7
                  have hk7 := (hc7.block wr.heap.size (by omega) (by omega) (by omega)).trans hkx
                  have RS := RSTF w7 (HH.out.mono m3) m2
                  obtain ⟨y0, y1, y2, z0, z1, z2⟩ := box3 m1
                  have k0 : w7.cell? ⟨wr.heap.size, 0, none⟩ = some (.int .i64 1) := by simp [World.cell?, hk7]
                  have k1 : w7.cell? ⟨wr.heap.size, 1, none⟩ = some (.int .i64 oi) := by simp [World.cell?, hk7]
                  clear ST RSTF
                  go_wp2_with fail
                  refine RS.mono ?_
                  rintro e w8 ⟨sb, cb, rfl, hi8, hl8, hf8, hb8⟩
                  obtain ⟨w9, hw9, hP9⟩ := HP1.out.fin HSEP.out hW7 hc7 hi8 hf8 hb8 hinS
                  have hq7 : Q < w7.heap.size := (Array.getElem?_eq_some_iff.1 m1).1
                  obtain ⟨u0, u1, u2, g0, g1, g2⟩ := box3 ((hb8.block Q hq7).trans m1)
                  have TL := tells_any b S A N m ev rows es lim st' (.agg #[.slice ag es.length cg, .int .i64 lim, .slice sb m cb]) w9 hP9.wk (hP9.rw HH.out) hm512 HES.out
                  have HP9 := Lib.hid hP9
                  obtain ⟨n0, n1, n2, _⟩ := box3 hP9.bx
                  clear RS y0 y1 y2 z0 z1 z2 hkx k0 k1 hP9 hW7 hc7 m1 m2 m3 hi8 hf8 hb8 hinS
                  go_wp2_with (rw [← hw9])
                  refine TL.mono ?_
                  rintro e w10 ⟨rfl, hb10⟩
                  have hP10 := HP9.out.below hb10
                  clear TL HP9 HP1 n0 n1 n2 u0 u1 u2 g0 g1 g2 hw9
                  go_wp2
                  go_roundg g
                  case measure => omega
                  case rel => exact ⟨i + 1, sb, cb, st', by omega, by go_num, hP10⟩
                · by_cases hk2 : kd = 2
                  · subst hk2
                    have hinS := WInv.finish (i := oi) (ok := true) hinv hlst HES.out
                    have FI := finish_any b S A N m ev rows es lim st oi true W1 hTW h0S h0A HP1.out.wk HES.out hinv
                    clear hinv hTW
                    have ST := FI
                    clear FI
                    have RSTF := fun w' hed hst => rfinish_any ag cg sa cs m es lim st oi true w' hed hst hlst hm512 HES.out
                    generalize finishR m es st oi true = r at ST RSTF hinS
                    obtain ⟨st', code⟩ := r
                    go_wp2_with fail
                    refine ST.mono ?_
                    rintro e w7 ⟨rfl, hW7, hc7⟩
                    simp only at hW7 hinS
                    obtain ⟨m1, m2, m3⟩ := HP1.out.mid HSEP.out hc7
                    have hk7 := (hc7.block wr.heap.size (by omega) (by omega) (by omega)).trans hkx
                    have RS := RSTF w7 (HH.out.mono m3) m2
                    obtain ⟨y0, y1, y2, z0, z1, z2⟩ := box3 m1
                    have k0 : w7.cell? ⟨wr.heap.size, 0, none⟩ = some (.int .i64 2) := by simp [World.cell?, hk7]
                    have k1 : w7.cell? ⟨wr.heap.size, 1, none⟩ = some (.int .i64 oi) := by simp [World.cell?, hk7]
                    clear ST RSTF
                    go_wp2_with fail
                    refine RS.mono ?_
                    rintro e w8 ⟨sb, cb, rfl, hi8, hl8, hf8, hb8⟩
                    obtain ⟨w9, hw9, hP9⟩ := HP1.out.fin HSEP.out hW7 hc7 hi8 hf8 hb8 hinS
                    have hq7 : Q < w7.heap.size := (Array.getElem?_eq_some_iff.1 m1).1
                    obtain ⟨u0, u1, u2, g0, g1, g2⟩ := box3 ((hb8.block Q hq7).trans m1)
                    have TL := tells_any b S A N m ev rows es lim st' (.agg #[.slice ag es.length cg, .int .i64 lim, .slice sb m cb]) w9 hP9.wk (hP9.rw HH.out) hm512 HES.out
                    have HP9 := Lib.hid hP9
                    obtain ⟨n0, n1, n2, _⟩ := box3 hP9.bx
                    clear RS y0 y1 y2 z0 z1 z2 hkx k0 k1 hP9 hW7 hc7 m1 m2 m3 hi8 hf8 hb8 hinS
                    go_wp2_with (rw [← hw9])
                    refine TL.mono ?_
                    rintro e w10 ⟨rfl, hb10⟩
                    have hP10 := HP9.out.below hb10
                    clear TL HP9 HP1 n0 n1 n2 u0 u1 u2 g0 g1 g2 hw9
                    go_wp2
                    go_roundg g
                    case measure => omega
                    case rel => exact ⟨i + 1, sb, cb, st', by omega, by go_num, hP10⟩
                  · by_cases hk3 : kd = 3
                    · subst hk3
                      have hinS := WInv.finish (i := oi) (ok := false) hinv hlst HES.out
                      have FI := finish_any b S A N m ev rows es lim st oi false W1 hTW h0S h0A HP1.out.wk HES.out hinv
                      clear hinv hTW
                      have ST := FI
                      clear FI
                      have RSTF := fun w' hed hst => rfinish_any ag cg sa cs m es lim st oi false w' hed hst hlst hm512 HES.out
                      generalize finishR m es st oi false = r at ST RSTF hinS
                      obtain ⟨st', code⟩ := r
                      go_wp2_with fail
                      refine ST.mono ?_
                      rintro e w7 ⟨rfl, hW7, hc7⟩
                      simp only at hW7 hinS
                      obtain ⟨m1, m2, m3⟩ := HP1.out.mid HSEP.out hc7
                      have hk7 := (hc7.block wr.heap.size (by omega) (by omega) (by omega)).trans hkx
                      have RS := RSTF w7 (HH.out.mono m3) m2
                      obtain ⟨y0, y1, y2, z0, z1, z2⟩ := box3 m1
                      have k0 : w7.cell? ⟨wr.heap.size, 0, none⟩ = some (.int .i64 3) := by simp [World.cell?, hk7]
                      have k1 : w7.cell? ⟨wr.heap.size, 1, none⟩ = some (.int .i64 oi) := by simp [World.cell?, hk7]
                      clear ST RSTF
                      go_wp2_with fail
                      refine RS.mono ?_
                      rintro e w8 ⟨sb, cb, rfl, hi8, hl8, hf8, hb8⟩
                      obtain ⟨w9, hw9, hP9⟩ := HP1.out.fin HSEP.out hW7 hc7 hi8 hf8 hb8 hinS
                      have hq7 : Q < w7.heap.size := (Array.getElem?_eq_some_iff.1 m1).1
                      obtain ⟨u0, u1, u2, g0, g1, g2⟩ := box3 ((hb8.block Q hq7).trans m1)
                      have TL := tells_any b S A N m ev rows es lim st' (.agg #[.slice ag es.length cg, .int .i64 lim, .slice sb m cb]) w9 hP9.wk (hP9.rw HH.out) hm512 HES.out
                      have HP9 := Lib.hid hP9
                      obtain ⟨n0, n1, n2, _⟩ := box3 hP9.bx
                      clear RS y0 y1 y2 z0 z1 z2 hkx k0 k1 hP9 hW7 hc7 m1 m2 m3 hi8 hf8 hb8 hinS
                      go_wp2_with (rw [← hw9])
                      refine TL.mono ?_
                      rintro e w10 ⟨rfl, hb10⟩
                      have hP10 := HP9.out.below hb10
                      clear TL HP9 HP1 n0 n1 n2 u0 u1 u2 g0 g1 g2 hw9
                      go_wp2
                      go_roundg g
                      case measure => omega
                      case rel => exact ⟨i + 1, sb, cb, st', by omega, by go_num, hP10⟩
                    · have hpq : IntKind.u64.wrap oi = ((IntKind.u64.wrap oi).toNat : Int) := by
                        have : 0 ≤ IntKind.u64.wrap oi := by
                          simp only [IntKind.wrap]
                          exact Int.emod_nonneg _ (by decide)
                        omega
                      have CHm := choose_any b S A N m ev rows es lim st oi _ W1 HP1.out.wk hpq
                      have CHR := fun w' h => rchoose_any (.agg #[.slice ag es.length cg, .int .i64 lim, .slice sa m cs]) m es lim st oi _ w' h hm512 HES.out hpq
                      generalize chooseR m es lim st (IntKind.u64.wrap oi).toNat = r at CHm CHR
                      obtain ⟨c1, c2⟩ := r
                      simp only at CHm CHR
                      clear hpq hinv hTW
                      go_wp2_with fail
                      refine CHm.mono ?_
                      rintro e w7 ⟨rfl, hb7⟩
                      have hP7 := HP1.out.below hb7
                      have hk7 := (hb7.block wr.heap.size (by omega)).trans hkx
                      obtain ⟨y0, y1, y2, _⟩ := box3 hP7.bx
                      have k1 : w7.cell? ⟨wr.heap.size, 1, none⟩ = some (.int .i64 oi) := by simp [World.cell?, hk7]
                      have CR := CHR w7 (hP7.rw HH.out)
                      have HP7 := Lib.hid hP7
                      clear CHm CHR k0 hP7 HP1 hkx
                      go_wp2_with fail
                      refine CR.mono ?_
                      rintro e w8 ⟨rfl, hb8⟩
                      have hP8 := HP7.out.below hb8
                      obtain ⟨y0, y1, y2, _⟩ := box3 hP8.bx
                      have TL := tells_any b S A N m ev rows es lim st (.agg #[.slice ag es.length cg, .int .i64 lim, .slice sa m cs]) w8 hP8.wk (hP8.rw HH.out) hm512 HES.out
                      have HP8 := Lib.hid hP8
                      clear CR hP8 HP7 k1
                      go_wp2_with fail
                      refine TL.mono ?_
                      rintro e w9 ⟨rfl, hb9⟩
                      have hP9 := HP8.out.below hb9
                      clear TL HP8 y0 y1 y2
                      go_wp2
                      go_roundg g
                      case measure => omega
                      case rel => exact ⟨i + 1, sa, cs, st, by omega, by go_num, hP9⟩
              · clear hP
                go_wp2
                go_ret
                exact HF.out
        | succ g =>
          have hql : q < es.length := by omega
          have hqn : (q : Int) < (es.length : Int) := by omega
          obtain ⟨bl, off, hao, hbl, hcell⟩ : ∃ bl off, ag = some ⟨bl, off, none⟩ ∧ bl < w.heap.size ∧ ∀ i, i < es.length → w.cell? ⟨bl, off + i * 2, none⟩ = some (.int .i64 (es.getD i (0, 0)).1) ∧ w.cell? ⟨bl, off + i * 2 + 1, none⟩ = some (.int .i64 (es.getD i (0, 0)).2) := by
            obtain ⟨_, _, hv3, _, _, hc3⟩ := HH.out
            cases hv3
            exact hc3 (by intro e; simp [e] at hql)
          subst hao
          obtain ⟨hx1, hy1⟩ := hcell q hql
          have d1 := (hB.cell (p := ⟨bl, off + q * 2, none⟩) hbl).trans hx1
          have d2 := (hB.cell (p := ⟨bl, off + q * 2 + 1, none⟩) hbl).trans hy1
          obtain ⟨gg, cap, cur, hvg, hbg, hgh, hnc, hcm, hcs, htk⟩ : ∃ gg cap cur, (Value.slice aw3 es.length cw3) = .slice (some ⟨gg, 0, none⟩) es.length cap ∧ B ≤ gg ∧ wr.heap[gg]? = some (.cells cur 34 (0, 0)) ∧ es.length ≤ cap ∧ cap ≤ maxLen ∧ cur.size = cap * 2 ∧ cur.toList.take (es.length * 2) = pairCells (wiped es q) := by
            rcases hown.2 with ⟨_, h0⟩ | h0
            · omega
            · exact h0
          injection hvg with hvg1 _ hvg2
          subst hvg1 hvg2
          have hwl := wiped_len (es := es) (q := q) (by omega)
          have hpc := pairCells_get (wiped es q) q (by omega)
          rw [wiped_get hql] at hpc
          have hcc : ∀ j u, j < es.length * 2 → (pairCells (wiped es q))[j]? = some u → wr.cell? ⟨gg, j, none⟩ = some u := fun j u hj hu => by
            rw [← htk, List.getElem?_take, if_pos hj] at hu
            simp only [World.cell?, hgh]
            simpa using hu
          have f1 := hcc _ _ (by omega) hpc.1
          have f2 := hcc _ _ (by omega) hpc.2
          have fz : ∀ o, wr.frozen? ⟨gg, o, none⟩ = false := fun o => by simp [World.frozen?, hgh]
          have fz1 := fz (q * 2)
          have fz2 := fz (q * 2 + 1)
          obtain ⟨y0, y1, y2, _⟩ := box3g hgr
          obtain ⟨ex, hex⟩ : ∃ ex, ex = es.getD q (0, 0) := ⟨_, rfl⟩
          obtain ⟨x, y⟩ := ex
          rw [← hex] at d1 d2 f1 f2
          simp only at d1 d2 f1 f2
          have hgW : w.heap.size ≤ gg := by omega
          have HREL : Hid (∀ nq, ∃ w9, w9 = ((wr.drewN nq).setCell ⟨gg, q * 2, none⟩ (.int .i64 0)).setCell ⟨gg, q * 2 + 1, none⟩ (.int .i64 0) ∧ w9.ownsRow B 34 2 (Value.slice (some ⟨gg, 0, none⟩) es.length cw3) es.length (pairCells (wiped es (q + 1))) ∧ w9.heap.size = w6.heap.size ∧ (∀ k, (Value.slice (some ⟨gg, 0, none⟩) es.length cw3).ownBlock ≠ some k → w9.heap[k]? = w6.heap[k]?) ∧ Below w.heap.size w w9) := fun nq => by
            have hd : (wr.drewN nq).heap = wr.heap := World.heap_drewN wr nq
            obtain ⟨w9, hw9, hown9, hsz9, hk9, hB9⟩ := own_set (w := wr.drewN nq) (by rw [hd]; exact hgh) hbg hnc hcm hcs hwl htk (q := q) (0, 0)
            rw [wiped_set hql] at hown9
            rw [hd] at hsz9
            exact ⟨w9, hw9, hown9, by omega, fun k hk => (hk9 k (fun e => hk (by rw [e]; rfl))).trans (by rw [hd]; exact HKP.out k hk), hB9 _ _ hgW (below_drewN hB nq)⟩
          clear hx1 hy1 hcell hown hgr hgh hcs htk hpc hcc hex fz hwl HKP
          go_wp2_with (go_quiet (fail))
          obtain ⟨w9, hw9, hrl⟩ := HREL.out nq
          rw [← hw9]
          go_roundg g
          case measure => omega
          case rel => exact ⟨q + 1, by omega, by go_num, hrl⟩
    · have NB := new_bad v3 es n lim w3 (hT.mono hB3) hin hE
      have RB := fun w' hb => rnew_bad (.slice ag es.length cg) es n lim w' (HH.out.mono hb) hE
      have hc0 : (newE n es lim != 0) = true := by simpa using hE
      have hcn : ¬ newE n es lim = 0 := hE
      generalize newE n es lim = c at NB RB hc0 hcn
      clear hE
      go_wp2_with fail
      refine NB.mono ?_
      rintro e w4 ⟨rfl, hb4⟩
      have hB4 := hB3.trans (hb4.mono hB3.size)
      have hown4 := own_below hown3 hb4
      have hg4 := (hb4.block w.heap.size (by omega)).trans hg3
      have hs4 := hb4.size
      have RB4 := RB w4 hB4
      clear NB RB hg3 hown3 hb4 hin y0 y1 y2 hB3
      obtain ⟨y0, y1, y2, _⟩ := box3g hg4
      go_wp2_with fail
      refine RB4.mono ?_
      rintro e w5 ⟨rfl, hb5⟩
      have hB5 := hB4.trans (hb5.mono hB4.size)
      have hown5 := own_below hown4 hb5
      have hg5 := (hb5.block w.heap.size (by omega)).trans hg4
      have hs5 := hb5.size
      clear RB4 hb5 hg4 hown4 y0 y1 y2 hB4
      obtain ⟨w6, hw6⟩ : ∃ w6, w6 = w5.alloc (.cells #[.slice none 0 0, .int .i64 0, .slice none 0 0] 58) := ⟨_, rfl⟩
      have hsz6 : w6.heap.size = w5.heap.size + 1 := by rw [hw6]; simp
      have hk6 : ∀ k, k < w5.heap.size → w6.heap[k]? = w5.heap[k]? := fun k hk => by rw [hw6]; exact Below.heap_alloc _ _ _ hk
      have hB6 : Below w.heap.size w w6 := by rw [hw6]; exact hB5.alloc hB5.size _
      have hbx6 : w6.heap[w5.heap.size]? = some (.cells #[.slice none 0 0, .int .i64 0, .slice none 0 0] 58 (0, 0)) := by rw [hw6]; exact heap_alloc_new _ _
      have hown6 := own_keep hown5 fun k _ hk => hk6 k hk
      have hg6 := (hk6 w.heap.size (by omega)).trans hg5
      obtain ⟨aw3, cw3, hv3e, _, _⟩ := id (pairs_of_own hown6 hel)
      subst hv3e
      clear hown5 hg5 hB5
      have hwB : w.heap.size < w2.heap.size := by omega
      generalize w2.heap.size = B at hown6 hwB
      go_wp2_with (rw [← hw6])
      go_loopg [60] es.length (fun g v60 wr => ∃ q : Nat, q + g = es.length ∧ v60 = .int .i64 q ∧ wr.ownsRow B 34 2 (Value.slice aw3 es.length cw3) es.length (pairCells (wiped es q)) ∧ wr.heap.size = w6.heap.size ∧ (∀ k, (Value.slice aw3 es.length cw3).ownBlock ≠ some k → wr.heap[k]? = w6.heap[k]?) ∧ Below w.heap.size w wr)
      case atStart => exact ⟨0, by omega, rfl, by rw [wiped_zero]; exact hown6, rfl, fun _ _ => rfl, hB6⟩
      case round =>
        obtain ⟨q, hqg, rfl, hown, hsz, hkp, hB⟩ := hrel
        have hgr := (hkp w.heap.size (fun e => by have := (hown.lt _ e).1; omega)).trans hg6
        have HKP := Lib.hid hkp
        clear hown6 hkp
        cases gk with
        | zero =>
          have hqn : ¬ (q : Int) < (es.length : Int) := by omega
          clear hown
          have HF := Lib.hid (HE.out _ hB)
          clear hB hgr
          go_wp2
          go_loopw [11] (fun _ wx => wx = wr) (fun _ _ => 0)
          case atStart => rfl
          case round =>
            obtain rfl := hrel
            go_wp2
            go_ret
            exact HF.out
        | succ g =>
          have hql : q < es.length := by omega
          have hqn : (q : Int) < (es.length : Int) := by omega
          obtain ⟨bl, off, hao, hbl, hcell⟩ : ∃ bl off, ag = some ⟨bl, off, none⟩ ∧ bl < w.heap.size ∧ ∀ i, i < es.length → w.cell? ⟨bl, off + i * 2, none⟩ = some (.int .i64 (es.getD i (0, 0)).1) ∧ w.cell? ⟨bl, off + i * 2 + 1, none⟩ = some (.int .i64 (es.getD i (0, 0)).2) := by
            obtain ⟨_, _, hv3, _, _, hc3⟩ := HH.out
            cases hv3
            exact hc3 (by intro e; simp [e] at hql)
          subst hao
          obtain ⟨hx1, hy1⟩ := hcell q hql
          have d1 := (hB.cell (p := ⟨bl, off + q * 2, none⟩) hbl).trans hx1
          have d2 := (hB.cell (p := ⟨bl, off + q * 2 + 1, none⟩) hbl).trans hy1
          obtain ⟨gg, cap, cur, hvg, hbg, hgh, hnc, hcm, hcs, htk⟩ : ∃ gg cap cur, (Value.slice aw3 es.length cw3) = .slice (some ⟨gg, 0, none⟩) es.length cap ∧ B ≤ gg ∧ wr.heap[gg]? = some (.cells cur 34 (0, 0)) ∧ es.length ≤ cap ∧ cap ≤ maxLen ∧ cur.size = cap * 2 ∧ cur.toList.take (es.length * 2) = pairCells (wiped es q) := by
            rcases hown.2 with ⟨_, h0⟩ | h0
            · omega
            · exact h0
          injection hvg with hvg1 _ hvg2
          subst hvg1 hvg2
          have hwl := wiped_len (es := es) (q := q) (by omega)
          have hpc := pairCells_get (wiped es q) q (by omega)
          rw [wiped_get hql] at hpc
          have hcc : ∀ j u, j < es.length * 2 → (pairCells (wiped es q))[j]? = some u → wr.cell? ⟨gg, j, none⟩ = some u := fun j u hj hu => by
            rw [← htk, List.getElem?_take, if_pos hj] at hu
            simp only [World.cell?, hgh]
            simpa using hu
          have f1 := hcc _ _ (by omega) hpc.1
          have f2 := hcc _ _ (by omega) hpc.2
          have fz : ∀ o, wr.frozen? ⟨gg, o, none⟩ = false := fun o => by simp [World.frozen?, hgh]
          have fz1 := fz (q * 2)
          have fz2 := fz (q * 2 + 1)
          obtain ⟨y0, y1, y2, _⟩ := box3g hgr
          obtain ⟨ex, hex⟩ : ∃ ex, ex = es.getD q (0, 0) := ⟨_, rfl⟩
          obtain ⟨x, y⟩ := ex
          rw [← hex] at d1 d2 f1 f2
          simp only at d1 d2 f1 f2
          have hgW : w.heap.size ≤ gg := by omega
          have HREL : Hid (∀ nq, ∃ w9, w9 = ((wr.drewN nq).setCell ⟨gg, q * 2, none⟩ (.int .i64 0)).setCell ⟨gg, q * 2 + 1, none⟩ (.int .i64 0) ∧ w9.ownsRow B 34 2 (Value.slice (some ⟨gg, 0, none⟩) es.length cw3) es.length (pairCells (wiped es (q + 1))) ∧ w9.heap.size = w6.heap.size ∧ (∀ k, (Value.slice (some ⟨gg, 0, none⟩) es.length cw3).ownBlock ≠ some k → w9.heap[k]? = w6.heap[k]?) ∧ Below w.heap.size w w9) := fun nq => by
            have hd : (wr.drewN nq).heap = wr.heap := World.heap_drewN wr nq
            obtain ⟨w9, hw9, hown9, hsz9, hk9, hB9⟩ := own_set (w := wr.drewN nq) (by rw [hd]; exact hgh) hbg hnc hcm hcs hwl htk (q := q) (0, 0)
            rw [wiped_set hql] at hown9
            rw [hd] at hsz9
            exact ⟨w9, hw9, hown9, by omega, fun k hk => (hk9 k (fun e => hk (by rw [e]; rfl))).trans (by rw [hd]; exact HKP.out k hk), hB9 _ _ hgW (below_drewN hB nq)⟩
          clear hx1 hy1 hcell hown hgr hgh hcs htk hpc hcc hex fz hwl HKP
          go_wp2_with (go_quiet (fail))
          obtain ⟨w9, hw9, hrl⟩ := HREL.out nq
          rw [← hw9]
          go_roundg g
          case measure => omega
          case rel => exact ⟨q + 1, by omega, by go_num, hrl⟩
  · have hsf : (decide (n ≤ 30) && decide (es.length ≤ 120)) = false := by simpa using hsm
    rw [hsf] at SM
    clear hsm hsf
    go_wp2_with fail
    refine SM.mono ?_
    rintro e w2 ⟨rfl, hb2⟩
    have hB2 := hB1.trans (hb2.mono hB1.size)
    have AW2 := awake19_any w2 (hT.mono hB2)
    clear SM hB1 hb2 y0 y1 y2
    go_wp2_with fail
    refine AW2.mono ?_
    rintro e w3 ⟨rfl, hb3⟩
    have HF := Lib.hid (HE.out _ (hB2.trans (hb3.mono hB2.size)))
    clear AW2 hb3 hB2
    go_wp2_with fail
    go_ret
    exact HF.out

end Go.Proofs.YtelioljmhlabjaaDoor
