/- Walk of the law GraphLimits: it answers true, whatever the node. -/
import Derived.Test.YtelioljmhlabjaaDoorLimP
import Derived.Test.YtelioljmhlabjaaDoorLawOrderly
import Derived.Test.YtelioljmhlabjaaDoorRed
import Derived.Test.YtelioljmhlabjaaDoorCycle
import Derived.Deep.Cut
namespace Go.Proofs.YtelioljmhlabjaaDoor
open Go.RowKit
set_option maxRecDepth 100000

theorem cells_two (w : World) (x y : Value) (T : TypeId) : ∀ (j : Nat) (u : Value), [x, y][j]? = some u → (w.alloc (.cells #[x, y] T)).cell? ((⟨w.heap.size, 0, none⟩ : Addr).add j) = some u := by
  intro j u hu
  rw [Addr.add_lit, cell_of_row _ _ _ _ _ _ (heap_alloc_new w (.cells #[x, y] T))]
  simpa using hu
theorem ints_one_at (w : World) (x : Int) : IntsAt (w.alloc (.cells #[.int .i64 x] 3)) (.slice (some ⟨w.heap.size, 0, none⟩) 1 1) [x] :=
  ⟨some ⟨w.heap.size, 0, none⟩, 1, rfl, by simp, ⟨by simp, by decide, fun e => by cases e⟩, fun _ => ⟨w.heap.size, 0, rfl, by simp, fun i hi => by
    have : i = 0 := by simpa using hi
    subst this
    exact cell_of_row _ _ _ _ _ _ (heap_alloc_new w (.cells #[.int .i64 x] 3))⟩⟩
theorem pick_512 (fr : Int) : ∃ f : Nat, f < 512 ∧ wrap64 ((IntKind.u64.wrap fr).tmod 512) = (f : Int) := by
  obtain ⟨x, hx⟩ := Int.eq_ofNat_of_zero_le (show 0 ≤ IntKind.u64.wrap fr by rw [IntKind.wrap_u64]; omega)
  refine ⟨x % 512, Nat.mod_lt _ (by decide), ?_⟩
  have e : ((x : Int)).tmod 512 = ((x % 512 : Nat) : Int) := by rw [Int.tmod_eq_emod_of_nonneg (by omega)]; simp
  have := Nat.mod_lt x (show 0 < 512 by decide)
  rw [hx, e]
  unfold wrap64
  omega

set_option maxHeartbeats 4000000 in
theorem graphLimits_any (fr : Int) (w : World) (hT : Tab w) : Calls Tryd.prog 14 #[.int .i64 fr] w (LawPost w) := by
  have hend : ∀ w', Below w.heap.size w w' → LawPost w (.returned (.bool true)) w' := fun _ h => ⟨rfl, h⟩
  have HE := Lib.hid hend
  clear hend
  obtain ⟨i34, hi34, hz34, hs34, hy34⟩ := info_parts Tryd.info34
  obtain ⟨f, hf, hfw⟩ := pick_512 fr
  go_enter Tryd.func14, Tryd.ntmps14
  go_wp2_with fail
  refine (awake_any w hT).mono ?_
  rintro e w1 ⟨rfl, hb1⟩
  have hT1 := hT.mono hb1
  clear hT
  go_upto_region 4 with fail
  rw [hfw]
  clear hfw
  go_wp2
  go_loopg [3, 4] 4096 (fun g v3 v4 wr => ∃ k : Nat, k + g = 4096 ∧ v4 = .int .i64 k ∧ wr.ownsRow w1.heap.size 34 2 v3 (limE k).length (pairCells (limE k)) ∧ Below w1.heap.size w1 wr)
  case atStart => exact ⟨0, by omega, rfl, World.ownsRow_nil _ _ _ _, Below.refl _ _⟩
  case round =>
    obtain ⟨k, hkg, rfl, hown, hb⟩ := hrel
    cases gk with
    | zero =>
      obtain rfl : k = 4096 := by omega
      have hP : PairsAt wr u3 (limE 4096) := pairs_of_own hown (by rw [limE_len]; decide)
      have hT2 := hT1.mono hb
      have hB := hb1.trans (hb.mono hb1.size)
      clear hown hb hT1 hb1
      obtain ⟨ao, cap, hv3, _, hcap, _⟩ := id hP
      rw [limE_len] at hv3
      subst hv3
      have hcl := hcap.1
      rw [limE_len] at hcl
      have h511 : (511 : Int) ≤ (cap : Int) := by omega
      have OR1 := fun w' hT' hp => Order_any (.slice ao 4096 cap) (limE 4096) 512 w' hT' hp
      have OR2 := fun w' hT' hp => Order_any (.slice ao 4096 cap) (limE 4096) 513 w' hT' hp
      have OW1 := fun w' hp => own_any (.slice ao 4096 cap) (limE 4096) w' hp (by rw [limE_len]; decide)
      have OR3 := fun v w' hT' hp => Order_any v (limE 4096 ++ [(0, 1)]) 512 w' hT' hp
      have RED := fun w' hT' hp => Reduce_any (.slice ao 4096 cap) (limE 4096) 512 w' hT' hp
      have REA := fun u w' hT' hp hu => Reach_any (.slice ao 4096 cap) u (limE 4096) [(f : Int)] 512 w' hT' hp hu (by simp)
      have OW2 := fun w' (hp : PairsAt w' (.slice ao 511 cap) (limE 511)) => own_any (.slice ao 511 cap) (limE 511) w' hp (by rw [limE_len]; decide)
      have CYC := fun v w' hT' hp => Cycle_any v (limE 511 ++ [(511, (f : Int))]) 512 w' hT' hp
      unfold OrderPost at OR1 OR2 OR3
      unfold ReducePost at RED
      unfold ReachPost at REA
      unfold CyclePost at CYC
      unfold OwnPost at OW1 OW2
      obtain ⟨rr1, rr2⟩ := lim_reduce
      obtain ⟨cc1, cc2⟩ := lim_cycle f hf
      have hre : reachR 512 (limE 4096) [(f : Int)] = (ints (allL 512 (limE 4096) [f]), 0) := by
        unfold reachR
        rw [if_pos (lim_look f hf)]
        rfl
      have hal := lim_all f
      obtain ⟨d, hd⟩ : ∃ d, 512 - f = d := ⟨_, rfl⟩
      rw [hd] at cc2 hal
      have hdd : (512 : Int) - (f : Int) = (d : Int) := by omega
      simp only [lim_order] at OR1
      simp only [lim_513] at OR2
      simp only [lim_long] at OR3
      simp only [hre] at REA
      simp only [rr1] at RED
      simp only [cc1] at CYC
      generalize (reduceR 512 (limE 4096)).1 = rl at RED rr2
      generalize (cycR 512 (limE 511 ++ [(511, (f : Int))])).1 = cl at CYC cc2
      generalize allL 512 (limE 4096) [f] = al at REA hal
      have l1 : (limE 4096).length = 4096 := limE_len _
      have l2 : (limE 511).length = 511 := limE_len _
      have htk : (limE 4096).take 511 = limE 511 := by
        unfold limE
        rw [← List.map_take, List.take_range]
        rfl
      have hcut : ∀ w', PairsAt w' (.slice ao 4096 cap) (limE 4096) → PairsAt w' (.slice ao 511 cap) (limE 511) := fun w' hp => by
        have := PairsAt.cut (ao := ao) (cap := cap) (es := limE 4096) (by rw [l1]; exact hp) 511 (by rw [l1]; decide)
        rw [htk, l2] at this
        exact this
      generalize limE 4096 = E at OR1 OR2 OW1 OR3 RED REA hP l1 hcut
      generalize limE 511 = E2 at OW2 CYC l2 hcut
      clear rr1 cc1 hre htk hcap
      have HP := Lib.hid hP
      have OR1' := OR1 wr hT2 hP
      clear OR1 hP
      go_wp2_with fail
      refine OR1'.mono ?_
      rintro e w2 ⟨lv, rfl, hlv, hb2⟩
      have HP2 := Lib.hid (HP.out.mono hb2)
      have hT3 := hT2.mono hb2
      have hB2 := hB.trans (hb2.mono hB.size)
      obtain ⟨la, lc, hlve, _, _⟩ := hlv.val
      have hln : ((List.range 512).map fun i : Nat => (i : Int)).length = 512 := by simp
      rw [hln] at hlve
      subst hlve
      obtain ⟨lb, lo, hla, hlb, hlc⟩ := hlv.get (i := 511) (by rw [hln]; decide)
      rw [show ((List.range 512).map fun i : Nat => (i : Int)).getD 511 0 = 511 by simp [List.getD]] at hlc
      subst hla
      have OR2' := OR2 w2 hT3 HP2.out
      clear OR1' OR2 hlv hln HP hb2 hT2 hB
      go_wp2_with fail
      refine OR2'.mono ?_
      rintro e w3 ⟨v513, rfl, _, hb3⟩
      have HP3 := Lib.hid (HP2.out.mono hb3)
      have hT4 := hT3.mono hb3
      have hB3 := hB2.trans (hb3.mono hB2.size)
      have hlc3 := (hb3.cell (p := ⟨lb, lo + 511, none⟩) hlb).trans hlc
      have hs3 := hb3.size
      have OW1' := OW1 w3 HP3.out
      clear OR2' OW1 HP2 hb3 hT3 hB2 hlc
      go_wp2_with fail
      refine OW1'.mono ?_
      rintro e w4 ⟨iv, rfl, hown4, hb4⟩
      have HB34 := Lib.hid hb4
      have hs4 := hb4.size
      clear OW1' hb4
      have hsz4 : w3.heap.size ≤ w4.heap.size := hs4
      go_wp2_with (at_builtin; refine wpList_append_fresh _ rfl (.tmp 48) (.tmp 50) 22 rfl w3.heap.size 34 i34 _ 2 16 Tryd.underlying22 hi34 hz34 hs34 hy34 rfl (by decide) _ _ _ rfl (hown4.alloc _) ⟨w4.heap.size, 0, none⟩ 1 1 [.int .i64 0, .int .i64 1] rfl rfl ?a1 ?a2 ?a3 ?a4 ?a5 ?_)
      case a1 => exact cells_two _ _ _ _
      case a2 => intro u hu; simp at hu; rcases hu with rfl | rfl <;> rfl
      case a3 => unfold maxLen; omega
      case a4 => omega
      case a5 => simp; omega
      intro v5 w5 hown5 hgrow5 _
      have hin5 : PairsAt w5 v5 (E ++ [(0, 1)]) := by
        refine pairs_of_own (base := w3.heap.size) (e := 34) ?_ (by rw [List.length_append, l1]; decide)
        have := pairCells_snoc E 0 1
        unfold pairCells at this
        rw [this, List.length_append, l1]
        exact hown5
      have hb5 : Below w3.heap.size w3 w5 := ((Below.refl _ _).trans HB34.out |>.alloc HB34.out.size _).grown hgrow5 (by have := HB34.out.size; simp; omega) (fun k e => (hown4.lt _ e).1)
      have HP5 := Lib.hid (HP3.out.mono hb5)
      have hT6 := hT4.mono hb5
      have hB5 := hB3.trans (hb5.mono hB3.size)
      have hlc5 := (hb5.cell (p := ⟨lb, lo + 511, none⟩) (by simp only; omega)).trans hlc3
      have hs5 := hb5.size
      have OR3' := OR3 v5 w5 hT6 hin5
      clear hown5 hgrow5 hown4 OR3 HP3 hT4 hB3 hlc3 HB34 hb5 hin5
      go_wp2_with fail
      refine OR3'.mono ?_
      rintro e w6 ⟨v6, rfl, _, hb6⟩
      have HP6 := Lib.hid (HP5.out.mono hb6)
      have hT7 := hT6.mono hb6
      have hB6 := hB5.trans (hb6.mono hB5.size)
      have hlc6 := (hb6.cell (p := ⟨lb, lo + 511, none⟩) (by simp only; omega)).trans hlc5
      have hs6 := hb6.size
      have RED' := RED w6 hT7 HP6.out
      clear OR3' RED HP5 hT6 hB5 hlc5 hb6
      go_wp2_with fail
      refine RED'.mono ?_
      rintro e w7 ⟨rv, rfl, hrv, hb7⟩
      obtain ⟨ar, cr, hrve, _, _⟩ := id hrv
      rw [rr2] at hrve
      subst hrve
      have HP7 := Lib.hid (HP6.out.mono hb7)
      have hT8 := hT7.mono hb7
      have hB7 := hB6.trans (hb7.mono hB6.size)
      have hlc7 := (hb7.cell (p := ⟨lb, lo + 511, none⟩) (by simp only; omega)).trans hlc6
      have hs7 := hb7.size
      have hb8 : Below w7.heap.size w7 (w7.alloc (.cells #[.int .i64 (f : Int)] 3)) := (Below.refl _ _).alloc (Nat.le_refl _) _
      have REA' := REA _ _ (hT8.mono hb8) (HP7.out.mono hb8) (ints_one_at w7 (f : Int))
      have HP8 := Lib.hid (HP7.out.mono hb8)
      have hT9 := hT8.mono hb8
      have hB8 := hB7.trans (hb8.mono hB7.size)
      have hlc8 := (hb8.cell (p := ⟨lb, lo + 511, none⟩) (by simp only; omega)).trans hlc7
      have hs8 := hb8.size
      clear RED' REA HP6 hT7 hB6 hlc6 hb7 hrv HP7 hT8 hB7 hlc7 hb8
      go_wp2_with fail
      refine REA'.mono ?_
      generalize w7.alloc (.cells #[.int .i64 (f : Int)] 3) = w8 at HP8 hT9 hB8 hlc8 hs8
      rintro e w9 ⟨mv, rfl, hmv, hb9⟩
      obtain ⟨am, cm, hmve, _, _⟩ := hmv.val
      rw [ints_len, hal] at hmve
      subst hmve
      have HP9 := Lib.hid (HP8.out.mono hb9)
      have hT10 := hT9.mono hb9
      have hB9 := hB8.trans (hb9.mono hB8.size)
      have hlc9 := (hb9.cell (p := ⟨lb, lo + 511, none⟩) (by simp only; omega)).trans hlc8
      have hs9 := hb9.size
      have OW2' := OW2 w9 (hcut w9 HP9.out)
      clear REA' hmv HP8 hT9 hB8 hlc8 hb9 OW2
      go_wp2_with fail
      refine OW2'.mono ?_
      rintro e w10 ⟨iv2, rfl, hown10, hb10⟩
      have HB910 := Lib.hid hb10
      have hs10 := hb10.size
      clear OW2' hb10
      go_wp2_with (at_builtin; refine wpList_append_fresh _ rfl (.tmp 70) (.tmp 73) 22 rfl w9.heap.size 34 i34 _ 2 16 Tryd.underlying22 hi34 hz34 hs34 hy34 rfl (by decide) _ _ _ rfl (hown10.alloc _) ⟨w10.heap.size, 0, none⟩ 1 1 [.int .i64 511, .int .i64 f] rfl rfl ?c1 ?c2 ?c3 ?c4 ?c5 ?_)
      case c1 => exact cells_two _ _ _ _
      case c2 => intro u hu; simp at hu; rcases hu with rfl | rfl <;> rfl
      case c3 => unfold maxLen; omega
      case c4 => omega
      case c5 => simp; omega
      intro v11 w11 hown11 hgrow11 _
      have hin11 : PairsAt w11 v11 (E2 ++ [(511, (f : Int))]) := by
        refine pairs_of_own (base := w9.heap.size) (e := 34) ?_ (by rw [List.length_append, l2]; simp)
        have := pairCells_snoc E2 511 (f : Int)
        unfold pairCells at this
        rw [this, List.length_append, l2]
        exact hown11
      have hb11 : Below w9.heap.size w9 w11 := (HB910.out.alloc HB910.out.size _).grown hgrow11 (by have := HB910.out.size; simp; omega) (fun k e => (hown10.lt _ e).1)
      have hT12 := hT10.mono hb11
      have hB11 := hB9.trans (hb11.mono hB9.size)
      have hlc11 := (hb11.cell (p := ⟨lb, lo + 511, none⟩) (by simp only; omega)).trans hlc9
      have hs11 := hb11.size
      have CYC' := CYC v11 w11 hT12 hin11
      clear hown11 hgrow11 hown10 CYC HP9 hT10 hB9 hlc9 HB910 hb11 hin11 hcut
      go_wp2_with fail
      refine CYC'.mono ?_
      rintro e w12 ⟨cv, rfl, hcv, hb12⟩
      obtain ⟨ac, cc, hcve, _, _⟩ := hcv.val
      rw [ints_len, cc2] at hcve
      subst hcve
      have hlc12 := (hb12.cell (p := ⟨lb, lo + 511, none⟩) (by simp only; omega)).trans hlc11
      have HF := Lib.hid (HE.out _ (hB11.trans (hb12.mono hB11.size)))
      clear CYC' hcv hlc11 hB11 hb12 hT12
      go_wp2
      go_ret
      exact HF.out
    | succ g =>
      have hk : (k : Int) < 4096 := by omega
      have hl := limE_len k
      have hst : Hid (limE (k + 1) = limE k ++ [((k : Int) % 511, (k : Int) % 511 + 1)]) := by
        rw [Hid, limE_succ]
        have : ((k % 511 : Nat) : Int) = (k : Int) % 511 := by omega
        rw [this]
      generalize limE k = xs at hst hown hl
      go_wp2_with (at_builtin; refine wpList_append_fresh _ rfl (.tmp 27) (.tmp 34) 22 rfl w1.heap.size 34 i34 _ 2 16 Tryd.underlying22 hi34 hz34 hs34 hy34 rfl (by decide) _ _ _ rfl (hown.alloc _) ⟨wr.heap.size, 0, none⟩ 1 1 [.int .i64 ((k : Int) % 511), .int .i64 ((k : Int) % 511 + 1)] rfl rfl ?a1 ?a2 ?a3 ?a4 ?a5 ?_)
      case a1 => exact cells_two _ _ _ _
      case a2 => intro u hu; simp at hu; rcases hu with rfl | rfl <;> rfl
      case a3 => unfold maxLen; omega
      case a4 => omega
      case a5 => have := hb.size; simp; omega
      intro v' w5 hown5 hgrow5 _
      have hown6 : w5.ownsRow w1.heap.size 34 2 v' (xs ++ [((k : Int) % 511, (k : Int) % 511 + 1)]).length (pairCells (xs ++ [((k : Int) % 511, (k : Int) % 511 + 1)])) := by
        rw [pairCells_snoc, List.length_append, hl]; exact hown5
      have hb5 : Below w1.heap.size w1 w5 := (hb.alloc hb.size _).grown hgrow5 (by have := hb.size; simp; omega) (fun k e => (hown.lt _ e).1)
      clear hown5 hgrow5 hown hb
      go_wp2
      go_roundg g
      case measure => omega
      case rel => exact ⟨k + 1, by omega, by go_num, by rw [hst.out]; exact hown6, hb5⟩

end Go.Proofs.YtelioljmhlabjaaDoor
