/- PlanChain: of instances that depend on one another in a row the plan is a row. No condition. -/
import Derived.Test.YtnjbdedmalpccaaDoorPnN
import Derived.Test.YtnjbdedmalpccaaDoorPnTx
namespace Go.Proofs.YtnjbdedmalpccaaDoor
open Go.RowKit
set_option maxRecDepth 100000
attribute [local go_sem] str_size str_toList str_get

theorem pick_20 (fr : Int) : ∃ f : Nat, f < 20 ∧ wrap64 ((IntKind.u64.wrap fr).tmod 20) = (f : Int) := by
  obtain ⟨x, hx⟩ := Int.eq_ofNat_of_zero_le (show 0 ≤ IntKind.u64.wrap fr by rw [IntKind.wrap_u64]; omega)
  refine ⟨x % 20, Nat.mod_lt _ (by decide), ?_⟩
  have e : ((x : Int)).tmod 20 = ((x % 20 : Nat) : Int) := by rw [Int.tmod_eq_emod_of_nonneg (by omega)]; simp
  have := Nat.mod_lt x (show 0 < 20 by decide)
  rw [hx, e]
  unfold wrap64
  omega
theorem pick_4 (fr : Int) : ∃ f : Nat, f < 4 ∧ wrap64 ((IntKind.u64.wrap fr).tmod 4) = (f : Int) := by
  obtain ⟨x, hx⟩ := Int.eq_ofNat_of_zero_le (show 0 ≤ IntKind.u64.wrap fr by rw [IntKind.wrap_u64]; omega)
  refine ⟨x % 4, Nat.mod_lt _ (by decide), ?_⟩
  have e : ((x : Int)).tmod 4 = ((x % 4 : Nat) : Int) := by rw [Int.tmod_eq_emod_of_nonneg (by omega)]; simp
  have := Nat.mod_lt x (show 0 < 4 by decide)
  rw [hx, e]
  unfold wrap64
  omega
theorem act_ix : ∀ (h : Nat), h < 4 → ∀ W, (Instr.index 39 (.agg #[.int .i64 1, .int .i64 0, .int .i64 3, .int .i64 4]) (.int .i64 (h : Int))).run Tryd.prog W = .ok (.int .i64 (actC h)) W
  | 0, _, _ => by kernel_rfl
  | 1, _, _ => by kernel_rfl
  | 2, _, _ => by kernel_rfl
  | 3, _, _ => by kernel_rfl
  | h + 4, hh, _ => by omega

set_option maxHeartbeats 16000000 in
theorem chain_true (n f : Int) (w : World) (hT : Tab w) :
    Calls Tryd.prog 3 #[.int .i64 n, .int .i64 f] w fun e w' => e = .returned (.bool true) ∧ Below w.heap.size w w' := by
  have mixed : Tryd.prog.follows .mixedOrders = true := by kernel_rfl
  obtain ⟨i1, hi1, hz1, hzs1, hzb1⟩ := info_parts infoRec
  obtain ⟨i2, hi2, hz2, hzs2, hzb2⟩ := info_parts infoInst
  obtain ⟨i3, hi3, hz3, hzs3, hzb3⟩ := info_parts infoStr
  have HT := Lib.hid hT
  obtain ⟨N0, hN, hNw⟩ := pick_20 n
  obtain ⟨H, hH, hHw⟩ := pick_4 f
  have AW := awake18 w hT
  clear hT
  go_enter Tryd.func3, Tryd.ntmps3
  go_wp2_with fail
  refine AW.mono ?_
  rintro e w1 ⟨rfl, hb1⟩
  clear AW
  go_upto_region 4 with fail
  obtain ⟨N, hNN⟩ : ∃ N : Nat, N = N0 + 1 := ⟨_, rfl⟩
  have eN : (N0 : Int) + 1 = (N : Int) := by omega
  have bN : 1 ≤ N ∧ N ≤ 20 := by omega
  obtain ⟨bN0, bN1⟩ := bN
  rw [eN, hHw]
  clear eN hNw hNN hN hHw
  obtain ⟨wL, hwL⟩ : ∃ wL, wL = (w1.alloc (.cells #[.slice none 0 0, .int .i64 0, .bool false, .string ⟨#[]⟩, .slice none 0 0, .slice none 0 0] 31)).alloc (.cells #[.int .i64 0, .slice none 0 0] 34) := ⟨_, rfl⟩
  have s1 : ∀ (u : World) (o : Obj), (u.alloc o).heap.size = u.heap.size + 1 := fun u o => by simp only [World.alloc, Array.size_push]
  have n6 : wL.heap[w1.heap.size + 1]? = some (.cells #[.int .i64 0, .slice none 0 0] 34 (0, 0)) := by rw [hwL, ← s1]; exact heap_alloc_new _ _
  have n5 : wL.heap[w1.heap.size]? = some (.cells #[.slice none 0 0, .int .i64 0, .bool false, .string ⟨#[]⟩, .slice none 0 0, .slice none 0 0] 31 (0, 0)) := by rw [hwL, Below.heap_alloc _ _ _ (by rw [s1]; omega)]; exact heap_alloc_new _ _
  have bL : Below w1.heap.size w1 wL := by rw [hwL]; exact ((Below.refl _ w1).alloc (Nat.le_refl _) _).alloc (by rw [s1]; omega) _
  have hw1 := hb1.size
  have C0 := Chn.start (fun _ => (none, 0)) (hb1.trans (bL.mono hw1)) hw1 (show w.heap.size ≤ w1.heap.size + 1 by omega) n5 n6 H
  have HC0 := Lib.hid C0
  clear s1 n5 n6 bL C0 hb1 hw1
  go_wp2
  rw [← hwL]
  clear hwL
  obtain ⟨g6, hg6⟩ : ∃ g6, w1.heap.size + 1 = g6 := ⟨_, rfl⟩
  rw [hg6] at HC0 ⊢
  obtain ⟨g5, hg5⟩ : ∃ g5, w1.heap.size = g5 := ⟨_, rfl⟩
  rw [hg5] at HC0 ⊢
  clear hg5 hg6
  go_loopg [7, 8] N (fun gg v7 v8 wr => ∃ (i : Nat) (D : Nat → Option Addr × Nat) (vi vr : Value), v8 = .int .i64 i ∧ i + gg = N ∧ Hid (Chn w wr g5 g6 i i v7 vi vr D (xsY H i D) (rsY H i D)))
  case atStart => exact ⟨0, _, _, _, rfl, by omega, HC0⟩
  case round =>
    clear HC0
    obtain ⟨i, D, vi, vr, rfl, hig, HC⟩ := hrel
    obtain ⟨P7, c7, rfl⟩ := slice_form HC.out.dp
    obtain ⟨Pi, ci, rfl⟩ := slice_form HC.out.xi
    obtain ⟨Pr, cr, rfl⟩ := slice_form HC.out.ri
    cases gk with
    | succ g =>
      have hiN : (i : Int) < (N : Int) := by omega
      have hi20 : i < 20 := by omega
      have hcv := fun (W : World) => str_byte (w := W) i (by omega) (97 + (i : Int)) rfl
      have hadd : ∀ W : World, (Op.stringOp .add (ByteArray.mk #[116, 46, 110]) (ByteArray.mk [UInt8.ofNat (97 + i)].toArray)).run Tryd.prog W = .ok (str (nameC i)) W := fun W => str_add [116, 46, 110] [UInt8.ofNat (97 + i)] (by simp)
      obtain ⟨ch, hch⟩ : ∃ ch, UInt8.ofNat (97 + i) = ch := ⟨_, rfl⟩
      rw [hch] at hcv hadd
      obtain ⟨A, hA⟩ : ∃ A, nameC i = A := ⟨_, rfl⟩
      rw [hA] at hadd
      have HA := Lib.hid hA
      clear hch hA
      go_upto_region 10 with fail
      obtain ⟨wB, hwB⟩ : ∃ wB, wB = wr.alloc (.cells #[.int .u8 (97 + (i : Int))] 5) := ⟨_, rfl⟩
      have bB : Below wr.heap.size wr wB := by rw [hwB]; exact (Below.refl _ wr).alloc (Nat.le_refl _) _
      rw [← hwB]
      have HCB := Lib.hid (HC.out.below bB)
      have HS := Lib.hid (strs_row (w := wB) (v := .slice P7 i c7) (ss := depsC i) (by rw [depsC_len]; exact HCB.out.dp))
      clear hwB bB hcv hadd HC
      go_wp2_with (at_builtin; refine wpList_copy_strs wB rfl (.tmp 47) (.tmp 48) rfl (depsC i) P7 i c7 (depsC_len i).symm HS.out (by rw [depsC_len]; omega) rfl rfl ?_)
      intro v' wC hown hbC
      obtain ⟨aD, cD, rfl⟩ := slice_form hown
      have hC := HCB.out.copy hown hbC
      rw [← xsY_upd H i D (aD, cD), ← rsY_upd H i D (aD, cD)] at hC
      obtain ⟨D', hD'⟩ : ∃ D', updD D i (aD, cD) = D' := ⟨_, rfl⟩
      rw [hD'] at hC
      have HDi := Lib.hid (show D' i = (aD, cD) by rw [← hD']; exact updD_at _ _ _)
      have HC := Lib.hid hC
      clear hown hbC HCB HS hD' hC
      obtain ⟨X, hX⟩ : ∃ X, xsY H i D' = X := ⟨_, rfl⟩
      obtain ⟨R, hR⟩ : ∃ R, rsY H i D' = R := ⟨_, rfl⟩
      rw [hX, hR] at HC
      have hX20 : X.length ≤ 20 := by have := xsY_len H i D'; rw [hX] at this; omega
      have hR20 : R.length ≤ 20 := by have := rsY_len H i D'; rw [hR] at this; omega
      have HX1 := Lib.hid (fun h : H ≠ 1 => (xsY_snoc i D' h).trans (by rw [hX, HDi.out] : _ = X ++ [instY H i (aD, cD)]))
      have HR1 := Lib.hid (fun h : H ≠ 0 => (rsY_snoc i D' h).trans (by rw [hR, HDi.out] : _ = R ++ [recY i (aD, cD)]))
      have HX0 := Lib.hid (fun h : H = 1 => (show xsY H (i + 1) D' = X by rw [← hX, h]; rfl))
      have HR0 := Lib.hid (fun h : H = 0 => (show rsY H (i + 1) D' = R by rw [← hR, h]; rfl))
      clear hX hR HDi
      go_upto_if 51 with fail
      go_cut [] from 36 to 79 (fun wx => ∃ vr' : Value, Hid (Chn w wx g5 g6 i (i + 1) (.slice P7 i c7) (.slice Pi X.length ci) vr' D' X (rsY H (i + 1) D')))
      case first =>
        by_cases h0 : H = 0
        · have hp : ¬ (0 : Int) < (H : Int) := by omega
          have HF := Lib.hid (show ∃ vr' : Value, Hid (Chn w wC g5 g6 i (i + 1) (.slice P7 i c7) (.slice Pi X.length ci) vr' D' X (rsY H (i + 1) D')) from ⟨_, by rw [HR0.out h0]; exact HC⟩)
          clear HX1 HR1 HX0 HR0 h0
          go_wp2_with fail
          go_meet
          exact HF.out
        · have hp : (0 : Int) < (H : Int) := by omega
          obtain ⟨h0', h1'⟩ := cells2 HC.out.st
          have HO := Lib.hid (fun (o : Obj) => row_below HC.out.ri ((Below.refl _ wC).alloc (Nat.le_refl _) o))
          have hlt := HC.out.lt
          have HR2 := Lib.hid (HR1.out h0)
          clear HX1 HR1 HX0 HR0 h0
          go_wp2_with (at_builtin; refine wpList_append_fresh _ rfl (.tmp 53) (.tmp 59) 32 rfl w.heap.size 37 i1 _ 9 152 Tryd.underlying32 hi1 hz1 hzs1 hzb1 rfl (by decide) _ _ _ rfl (HO.out _) ⟨wC.heap.size, 0, none⟩ 1 1 [str A, .string ⟨#[116]⟩, str A, .int .i64 6, .bool false, .string ⟨#[]⟩, .slice none 0 0, .slice none 0 0, .slice aD i cD] rfl rfl ?a1 ?a2 ?a3 ?a4 ?a5 ?_)
          case a1 => exact cells_new wC _ _
          case a2 => intro y hy; simp at hy; rcases hy with rfl | rfl | rfl | rfl | rfl | rfl | rfl | rfl | rfl <;> rfl
          case a3 => unfold maxLen; omega
          case a4 => omega
          case a5 => first | omega | (simp; omega)
          intro v' w2 hown hg _
          have hbx := HC.out.rcd_box ((Below.refl _ wC).alloc (Nat.le_refl _) _) hg
          obtain ⟨y0, y1⟩ := cells2 hbx
          have z1 := Lib.frozen_of_heap hbx 1
          have hcl : recC (recY i (aD, cD)).1 = [str A, .string ⟨#[116]⟩, str A, .int .i64 6, .bool false, .string ⟨#[]⟩, .slice none 0 0, .slice none 0 0, .slice aD i cD] := by rw [← HA.out]; rfl
          have hF := HC.out.rcd (recY i (aD, cD)) (by rw [hcl]; exact hown) ((Below.refl _ wC).alloc (Nat.le_refl _) _) hg
          rw [← HR2.out] at hF
          have HF := Lib.hid (show ∃ vr' : Value, Hid (Chn w (w2.setCell ⟨g6, 1, none⟩ v') g5 g6 i (i + 1) (.slice P7 i c7) (.slice Pi X.length ci) vr' D' X (rsY H (i + 1) D')) from ⟨_, hF⟩)
          obtain ⟨P8, c8, rfl⟩ := slice_form hown
          clear hown hg hbx hcl hF HO HR2 h0' h1'
          go_wp2_with fail
          go_meet
          exact HF.out
      case rest =>
        clear HC HR1 HR0
        obtain ⟨vr', HC⟩ := hcut
        obtain ⟨Pr', cr', rfl⟩ := slice_form HC.out.ri
        obtain ⟨R', hR'⟩ : ∃ R', rsY H (i + 1) D' = R' := ⟨_, rfl⟩
        rw [hR'] at HC
        have HRR := Lib.hid hR'
        clear hR'
        go_upto_if 63 with fail
        go_cut [] from 36 to 79 (fun wx => ∃ vi' : Value, Hid (Chn w wx g5 g6 i (i + 1) (.slice P7 i c7) vi' (.slice Pr' R'.length cr') D' (xsY H (i + 1) D') R'))
        case first =>
          by_cases h0 : H = 1
          · have hp : (((H : Int) == 1) = true) := by simp; omega
            have hp' : (((H : Int) != 1) = false) := by simp; omega
            have HF := Lib.hid (show ∃ vi' : Value, Hid (Chn w wc g5 g6 i (i + 1) (.slice P7 i c7) vi' (.slice Pr' R'.length cr') D' (xsY H (i + 1) D') R') from ⟨_, by rw [HX0.out h0]; exact HC⟩)
            clear HX1 HX0 h0
            go_wp2_with fail
            go_meet
            exact HF.out
          · have hp : (((H : Int) == 1) = false) := by simp; omega
            have hp' : (((H : Int) != 1) = true) := by simp; omega
            obtain ⟨h0', h1', h2', h3', h4', h5'⟩ := cells6 HC.out.sol
            have HO := Lib.hid (fun (W : World) (hb : Below wc.heap.size wc W) => row_below HC.out.xi hb)
            have HN := Lib.hid (fun (W : World) (cs : List Value) (T : TypeId) (hb : W.heap[wc.heap.size]? = some (.cells cs.toArray T (0, 0))) => cells_of_blk hb)
            have hlt := HC.out.lt
            have HX2 := Lib.hid (HX1.out h0)
            have hIX := act_ix H hH
            obtain ⟨AC, hAC⟩ : ∃ AC, actC H = AC := ⟨_, rfl⟩
            rw [hAC] at hIX
            have HAC := Lib.hid hAC
            clear HX1 HX0 h0 hAC
            have hcl : instC (instY H i (aD, cD)).1 = [str A, .string ⟨#[116]⟩, .int .i64 6, .bool false, .string ⟨#[]⟩, .slice none 0 0, .slice none 0 0, .int .i64 AC, .bool false, .slice aD i cD] := by rw [← HA.out, ← HAC.out]; rfl
            have HIN := Lib.hid (fun (W : World) (v' : Value) (w2 : World) (hb : Below wc.heap.size wc W) hown hg => HC.out.ins (w1 := W) (v' := v') (w2 := w2) (instY H i (aD, cD)) hown hb hg)
            have HIB := Lib.hid (fun (W w2 : World) (hb : Below wc.heap.size wc W) hg => HC.out.ins_box (w1 := W) (w2 := w2) hb hg)
            rw [hcl, ← HX2.out] at HIN
            have hq0 : (wc.alloc (.cells #[str A, .string ⟨#[116]⟩, .int .i64 6, .bool false, .string ⟨#[]⟩, .slice none 0 0, .slice none 0 0, .int .i64 AC, .bool false, .slice aD i cD] 41)).cell? ⟨g5, 0, none⟩ = some (.slice Pi X.length ci) := (((Below.refl _ wc).alloc (Nat.le_refl _) _).cell (p := ⟨g5, 0, none⟩) (heap_lt HC.out.sol)).trans h0'
            clear hcl HX2 HAC
            go_upto_region 14 with fail
            go_region_law_o (refine step_append_fresh rfl (.tmp 65) (.tmp 73) 24 rfl w.heap.size 41 i2 _ 10 152 Tryd.underlying24 hi2 hz2 hzs2 hzb2 rfl (by decide) (.slice Pi X.length ci) X.length (X.flatMap fun x => instC x.1) (by simp [Act.eval]) (HO.out _ (by first | exact ((Below.refl _ wc).drew).alloc (Nat.le_refl _) _ | exact ((Below.refl _ wc).alloc (Nat.le_refl _) _).drew | exact (((Below.refl _ wc).drew).alloc (Nat.le_refl _) _).drew | exact (Below.refl _ wc).alloc (Nat.le_refl _) _)) ⟨wc.heap.size, 0, none⟩ 1 1 [str A, .string ⟨#[116]⟩, .int .i64 6, .bool false, .string ⟨#[]⟩, .slice none 0 0, .slice none 0 0, .int .i64 AC, .bool false, .slice aD i cD] (by simp [Act.eval]) rfl (HN.out _ [str A, .string ⟨#[116]⟩, .int .i64 6, .bool false, .string ⟨#[]⟩, .slice none 0 0, .slice none 0 0, .int .i64 AC, .bool false, .slice aD i cD] 41 (heap_alloc_new _ _)) (by intro y hy; simp at hy; rcases hy with rfl | rfl | rfl | rfl | rfl | rfl | rfl | rfl | rfl | rfl <;> rfl) (by unfold maxLen; omega) (by omega) (by simp; omega) ?_; intro v' w2 hown hgr _; have hbx := HIB.out _ _ (by first | exact ((Below.refl _ wc).drew).alloc (Nat.le_refl _) _ | exact ((Below.refl _ wc).alloc (Nat.le_refl _) _).drew | exact (((Below.refl _ wc).drew).alloc (Nat.le_refl _) _).drew | exact (Below.refl _ wc).alloc (Nat.le_refl _) _) hgr; obtain ⟨y0, y1, y2, y3, y4, y5⟩ := cells6 hbx; have z0 := Lib.frozen_of_heap hbx 0; have HF := Lib.hid (HIN.out _ _ _ (by first | exact ((Below.refl _ wc).drew).alloc (Nat.le_refl _) _ | exact ((Below.refl _ wc).alloc (Nat.le_refl _) _).drew | exact (((Below.refl _ wc).drew).alloc (Nat.le_refl _) _).drew | exact (Below.refl _ wc).alloc (Nat.le_refl _) _) hown hgr); obtain ⟨P8, c8, rfl⟩ := slice_form hown; clear hown hgr hbx)
            all_goals
              have HF2 := Lib.hid (show ∃ vi' : Value, Hid (Chn w (w2.setCell ⟨g5, 0, none⟩ (.slice P8 (X.length + 1) c8)) g5 g6 i (i + 1) (.slice P7 i c7) vi' (.slice Pr' R'.length cr') D' (xsY H (i + 1) D') R') from ⟨_, HF⟩)
              clear HF HIN HIB HN HO hIX hq0
              (try go_wp2_with fail)
              go_meet
              exact HF2.out
        case rest =>
          clear HC HX1 HX0
          obtain ⟨vi', HC⟩ := hcut
          rw [← HRR.out] at HC
          have HO := Lib.hid (fun (o : Obj) => row_below HC.out.dp ((Below.refl _ wc).alloc (Nat.le_refl _) o))
          have hlt := HC.out.lt
          clear HRR
          go_wp2_with (at_builtin; refine wpList_append_fresh _ rfl (.tmp 76) (.tmp 78) 27 rfl w.heap.size 9 i3 _ 1 16 Tryd.underlying27 hi3 hz3 hzs3 hzb3 rfl (by decide) _ _ _ rfl (HO.out _) ⟨wc.heap.size, 0, none⟩ 1 1 [str A] rfl rfl ?a1 ?a2 ?a3 ?a4 ?a5 ?_)
          case a1 => exact cells_new wc _ _
          case a2 => intro y hy; simp at hy; subst hy; rfl
          case a3 => unfold maxLen; omega
          case a4 => omega
          case a5 => first | omega | (simp; omega)
          intro v' w2 hown hg hv
          have hF := HC.out.dep (v' := v') (by rw [HA.out]; exact hown) hg hv
          have HF := Lib.hid hF
          clear hF hown hg hv HO HC
          go_wp2
          go_roundg g
          case measure => omega
          case rel => exact ⟨i + 1, D', _, _, by go_num, by omega, HF⟩
    | zero =>

      obtain rfl : i = N := by omega
      have hie : ¬ (i : Int) < (i : Int) := by omega
      have HI := HC.out.insts bN1
      have HRr := HC.out.recs bN1
      have CH := chain_ok hH bN0 bN1
      obtain ⟨m1, m2⟩ := makeY H i D
      have MK := Make_any (xsY H i D) (rsY H i D) _ _ wr (redL (planC H i).steps.length (planC H i).edges) HI HRr (by have := xsY_len H i D; omega) (by have := rsY_len H i D; omega) (fun x hx => by obtain ⟨k, _, rfl⟩ := xsY_mem hx; rfl) (HT.out.mono HC.out.bel) (by rw [m1]; have := CH.steps; omega) (by rw [m2]; exact CH.edges) (by rw [m2]; exact CH.nodup) (fun ts hp => by rw [m2] at hp; rw [m1]; exact CH.red ts hp)
      unfold solV stV at MK
      rw [m1] at MK
      obtain ⟨F, hF⟩ : ∃ F, (planC H i).steps = F := ⟨_, rfl⟩
      obtain ⟨L, hL⟩ : ∃ L, redL (planC H i).steps.length (planC H i).edges = L := ⟨_, rfl⟩
      have hO := CH.ord
      have hAt := CH.at_
      have hF40 := CH.steps
      rw [hL] at MK hO
      rw [hF] at MK hO hAt hF40
      obtain ⟨W, hW⟩ : ∃ W, wantC H i = W := ⟨_, rfl⟩
      obtain ⟨O, hOO⟩ : ∃ O, ordC H i = O := ⟨_, rfl⟩
      have hWO := ord_want_len H i
      have hW2 := want_two (n := i) hH
      have hWs := fun (x : S8) => wantC_short (how := H) (n := i) (x := x)
      rw [hW] at hAt hWO hW2 hWs
      rw [hOO] at hAt hWO hO
      have HO := Lib.hid hO
      have HAT := Lib.hid hAt
      have HWO := Lib.hid hWO
      have HW2 := Lib.hid hW2
      have HWS := Lib.hid hWs
      obtain ⟨x0, x1, x2, x3, x4, x5⟩ := cells6 HC.out.sol
      obtain ⟨z0, z1⟩ := cells2 HC.out.st
      obtain ⟨XL, hXL⟩ : ∃ XL, (xsY H i D).length = XL := ⟨_, rfl⟩
      obtain ⟨RL, hRL⟩ : ∃ RL, (rsY H i D).length = RL := ⟨_, rfl⟩
      rw [hXL] at MK x0
      rw [hRL] at MK z1
      clear hig HI HRr CH m1 m2 hF hL hO hAt hW hOO hWO hW2 hWs hXL hRL
      go_wp2_with fail
      refine MK.mono ?_
      rintro e w2 ⟨vs, vL, rfl, hc, hp, hb⟩
      have HCs := Lib.hid hc
      have HPs := Lib.hid hp
      obtain ⟨aS, cS, rfl, _⟩ := hc
      obtain ⟨aL, cL, rfl, _⟩ := hp
      have HB2 := Lib.hid (HC.out.bel.trans (hb.mono HC.out.lt))
      have HDp := Lib.hid (strs_row (w := w2) (v := .slice P7 i c7) (ss := depsC i) (by rw [depsC_len]; exact row_below HC.out.dp hb))
      clear MK hb HC x0 x1 x2 x3 x4 x5 z0 z1
      obtain ⟨wP, hwP⟩ : ∃ wP, wP = w2.alloc (.cells #[.slice aS F.length cS, .slice aL L.length cL] 45) := ⟨_, rfl⟩
      have nP : wP.heap[w2.heap.size]? = some (.cells #[.slice aS F.length cS, .slice aL L.length cL] 45 (0, 0)) := by rw [hwP]; exact heap_alloc_new _ _
      have bP : Below w2.heap.size w2 wP := by rw [hwP]; exact (Below.refl _ w2).alloc (Nat.le_refl _) _
      have HBP := Lib.hid (HB2.out.trans (bP.mono HB2.out.size))
      have OR := Order_p aS F.length cS (.slice aL L.length cL) L wP (HT.out.mono HBP.out) (HPs.out.mono bP)
      unfold OrderPost at OR
      rw [HO.out] at OR
      have HNP := Lib.hid nP
      have HCP := Lib.hid (HCs.out.mono bP)
      have HDP := Lib.hid (HDp.out.mono bP)
      obtain ⟨y0, y1⟩ := cells2 nP
      clear bP nP HCs HPs HDp HB2 HO
      go_upto_region 17 with fail
      rw [← hwP]
      clear hwP
      go_wp2_with fail
      refine OR.mono ?_
      rintro e w3 ⟨v3, rfl, hi, hb3⟩
      have HIs := Lib.hid hi
      have hOl : (O.map (fun k : Nat => (k : Int))).length = O.length := by simp
      obtain ⟨aO, cO, rfl, hOm, _⟩ := hi.val
      rw [hOl] at hOm
      rw [hOl]
      have HB3 := Lib.hid (HBP.out.trans (hb3.mono HBP.out.size))
      have HN3 := Lib.hid ((hb3.block _ (heap_lt HNP.out)).trans HNP.out)
      have HC3 := Lib.hid (HCP.out.mono hb3)
      have HD3 := Lib.hid (HDP.out.mono hb3)
      obtain ⟨gP, hgP⟩ : ∃ gP, w2.heap.size = gP := ⟨_, rfl⟩
      rw [hgP] at HN3
      clear OR hi hb3 HNP HCP HDP HBP hOl y0 y1
      go_upto_region 18 with fail
      (try rw [hgP])
      clear hgP
      obtain ⟨b7, o7, rfl, hb7, _⟩ := StrsAt.get (i := 0) HD3.out (by rw [depsC_len]; omega)
      have HK := Lib.hid (fun (W : World) (hW : Below w3.heap.size w3 W) (k : Nat) (hk : k < i) => (show W.cell? ⟨b7, o7 + k, none⟩ = some (str (nameC k)) by
        obtain ⟨b, o, he, hl, hc⟩ := StrsAt.get (i := k) HD3.out (by rw [depsC_len]; exact hk)
        cases he
        rw [depsC_get hk] at hc
        exact (hW.cell (p := ⟨b7, o7 + k, none⟩) hl).trans hc))
      clear hb7
      go_wp2
      go_loopg [16, 17] i (fun gg v16 v17 wr => ∃ j : Nat, v17 = .int .i64 j ∧ j + gg = i ∧ Hid (wr.ownsRow w3.heap.size 9 1 v16 j (((List.range j).map (wantA H i)).map str)) ∧ Hid (Below w3.heap.size w3 wr))
      case atStart => exact ⟨0, rfl, by omega, ⟨rfl, .inl ⟨rfl, rfl⟩⟩, Below.refl _ _⟩
      case round =>
        obtain ⟨j, rfl, hjg, HW, HBw⟩ := hrel
        obtain ⟨P16, c16, rfl⟩ := slice_form HW.out
        have hwr := HBw.out.size
        cases gk with
        | succ g =>
          have hji : (j : Int) < (i : Int) := by omega
          have hj20 : j < 20 := by omega
          have HOw := Lib.hid (fun (o : Obj) => row_below HW.out ((Below.refl _ wr).alloc (Nat.le_refl _) o))
          obtain ⟨q, hq⟩ : ∃ q : Nat, q = i - 1 - j := ⟨_, rfl⟩
          have hqe : (i : Int) - 1 - (j : Int) = (q : Int) := by omega
          have hqi : (q : Int) < (i : Int) := by omega
          have hqi' : q < i := by omega
          have hQ := HK.out wr HBw.out q hqi'
          have hJ := HK.out wr HBw.out j (by omega)
          have HQq := Lib.hid hq
          clear hq
          obtain ⟨L2, hL2⟩ : ∃ L2, (List.range j).map (wantA H i) = L2 := ⟨_, rfl⟩
          rw [hL2] at HW HOw
          have HL2 := Lib.hid hL2
          clear hL2
          rcases (show H = 0 ∨ H = 1 ∨ H = 2 ∨ H = 3 by omega) with h | h | h | h
          · have e0 : ((H : Int) == 0) = true := by simp; omega
            have HPU := Lib.hid (show L2 ++ [43 :: nameC j] = (List.range (j + 1)).map (wantA H i) by rw [← HL2.out, List.range_succ, List.map_append]; congr 1; show _ = [wantA H i j]; unfold wantA; rw [if_pos (by omega)])
            have hadd : ∀ W : World, (Op.stringOp .add (ByteArray.mk #[43]) (ByteArray.mk (nameC j).toArray)).run Tryd.prog W = .ok (str (43 :: nameC j)) W := fun W => str_add [43] (nameC j) (by simp [nameC_len])
            obtain ⟨A, hA⟩ : ∃ A, nameC j = A := ⟨_, rfl⟩
            rw [hA] at HPU hadd hJ
            clear hA h HQq HL2 hQ hqe hqi hqi'
            go_wp2_with (at_builtin; refine wpList_append_fresh _ rfl (.tmp 106) (.tmp 112) 27 rfl w3.heap.size 9 i3 _ 1 16 Tryd.underlying27 hi3 hz3 hzs3 hzb3 rfl (by decide) _ _ _ rfl (HOw.out _) ⟨wr.heap.size, 0, none⟩ 1 1 [str (43 :: A)] rfl rfl ?a1 ?a2 ?a3 ?a4 ?a5 ?_)
            case a1 => exact cells_new wr _ _
            case a2 => intro y hy; simp at hy; subst hy; rfl
            case a3 => unfold maxLen; omega
            case a4 => omega
            case a5 => first | omega | (simp; omega)
            intro v' w5 hown hg _
            have HF := Lib.hid (row_push (n := j) hown HPU.out)
            have HBF := Lib.hid (push_below HBw.out HW.out (Nat.le_refl _) hwr hg)
            clear hown hg HW HBw HOw HPU
            go_wp2
            go_roundg g
            case measure => omega
            case rel => exact ⟨j + 1, by go_num, by omega, HF, HBF⟩
          · have e0 : ((H : Int) == 0) = false := by simp; omega
            have e1 : ((H : Int) == 1) = true := by simp; omega
            have HPU := Lib.hid (show L2 ++ [45 :: nameC q] = (List.range (j + 1)).map (wantA H i) by rw [← HL2.out, List.range_succ, List.map_append]; congr 1; show _ = [wantA H i j]; unfold wantA; rw [if_neg (by omega), HQq.out])
            have hadd : ∀ W : World, (Op.stringOp .add (ByteArray.mk #[45]) (ByteArray.mk (nameC q).toArray)).run Tryd.prog W = .ok (str (45 :: nameC q)) W := fun W => str_add [45] (nameC q) (by simp [nameC_len])
            obtain ⟨A, hA⟩ : ∃ A, nameC q = A := ⟨_, rfl⟩
            rw [hA] at HPU hadd hQ
            clear hA h HQq HL2 hJ
            go_wp2_with (at_builtin; refine wpList_append_fresh _ rfl (.tmp 116) (.tmp 125) 27 rfl w3.heap.size 9 i3 _ 1 16 Tryd.underlying27 hi3 hz3 hzs3 hzb3 rfl (by decide) _ _ _ rfl (HOw.out _) ⟨wr.heap.size, 0, none⟩ 1 1 [str (45 :: A)] rfl rfl ?a1 ?a2 ?a3 ?a4 ?a5 ?_)
            case a1 => exact cells_new wr _ _
            case a2 => intro y hy; simp at hy; subst hy; rfl
            case a3 => unfold maxLen; omega
            case a4 => omega
            case a5 => first | omega | (simp; omega)
            intro v' w5 hown hg _
            have HF := Lib.hid (row_push (n := j) hown HPU.out)
            have HBF := Lib.hid (push_below HBw.out HW.out (Nat.le_refl _) hwr hg)
            clear hown hg HW HBw HOw HPU
            go_wp2
            go_roundg g
            case measure => omega
            case rel => exact ⟨j + 1, by go_num, by omega, HF, HBF⟩
          · have e0 : ((H : Int) == 0) = false := by simp; omega
            have e1 : ((H : Int) == 1) = false := by simp; omega
            have e2 : ((H : Int) == 2) = true := by simp; omega
            have HPU := Lib.hid (show L2 ++ [45 :: nameC q] = (List.range (j + 1)).map (wantA H i) by rw [← HL2.out, List.range_succ, List.map_append]; congr 1; show _ = [wantA H i j]; unfold wantA; rw [if_neg (by omega), HQq.out])
            have hadd : ∀ W : World, (Op.stringOp .add (ByteArray.mk #[45]) (ByteArray.mk (nameC q).toArray)).run Tryd.prog W = .ok (str (45 :: nameC q)) W := fun W => str_add [45] (nameC q) (by simp [nameC_len])
            obtain ⟨A, hA⟩ : ∃ A, nameC q = A := ⟨_, rfl⟩
            rw [hA] at HPU hadd hQ
            clear hA h HQq HL2 hJ
            go_wp2_with (at_builtin; refine wpList_append_fresh _ rfl (.tmp 129) (.tmp 138) 27 rfl w3.heap.size 9 i3 _ 1 16 Tryd.underlying27 hi3 hz3 hzs3 hzb3 rfl (by decide) _ _ _ rfl (HOw.out _) ⟨wr.heap.size, 0, none⟩ 1 1 [str (45 :: A)] rfl rfl ?a1 ?a2 ?a3 ?a4 ?a5 ?_)
            case a1 => exact cells_new wr _ _
            case a2 => intro y hy; simp at hy; subst hy; rfl
            case a3 => unfold maxLen; omega
            case a4 => omega
            case a5 => first | omega | (simp; omega)
            intro v' w5 hown hg _
            have HF := Lib.hid (row_push (n := j) hown HPU.out)
            have HBF := Lib.hid (push_below HBw.out HW.out (Nat.le_refl _) hwr hg)
            clear hown hg HW HBw HOw HPU
            go_wp2
            go_roundg g
            case measure => omega
            case rel => exact ⟨j + 1, by go_num, by omega, HF, HBF⟩
          · have e0 : ((H : Int) == 0) = false := by simp; omega
            have e1 : ((H : Int) == 1) = false := by simp; omega
            have e2 : ((H : Int) == 2) = false := by simp; omega
            have e3 : ((H : Int) == 3) = true := by simp; omega
            have HPU := Lib.hid (show L2 ++ [43 :: nameC j] = (List.range (j + 1)).map (wantA H i) by rw [← HL2.out, List.range_succ, List.map_append]; congr 1; show _ = [wantA H i j]; unfold wantA; rw [if_pos (by omega)])
            have hadd : ∀ W : World, (Op.stringOp .add (ByteArray.mk #[43]) (ByteArray.mk (nameC j).toArray)).run Tryd.prog W = .ok (str (43 :: nameC j)) W := fun W => str_add [43] (nameC j) (by simp [nameC_len])
            obtain ⟨A, hA⟩ : ∃ A, nameC j = A := ⟨_, rfl⟩
            rw [hA] at HPU hadd hJ
            clear hA h HQq HL2 hQ hqe hqi hqi'
            go_wp2_with (at_builtin; refine wpList_append_fresh _ rfl (.tmp 142) (.tmp 148) 27 rfl w3.heap.size 9 i3 _ 1 16 Tryd.underlying27 hi3 hz3 hzs3 hzb3 rfl (by decide) _ _ _ rfl (HOw.out _) ⟨wr.heap.size, 0, none⟩ 1 1 [str (43 :: A)] rfl rfl ?a1 ?a2 ?a3 ?a4 ?a5 ?_)
            case a1 => exact cells_new wr _ _
            case a2 => intro y hy; simp at hy; subst hy; rfl
            case a3 => unfold maxLen; omega
            case a4 => omega
            case a5 => first | omega | (simp; omega)
            intro v' w5 hown hg _
            have HF := Lib.hid (row_push (n := j) hown HPU.out)
            have HBF := Lib.hid (push_below HBw.out HW.out (Nat.le_refl _) hwr hg)
            clear hown hg HW HBw HOw HPU
            go_wp2
            go_roundg g
            case measure => omega
            case rel => exact ⟨j + 1, by go_num, by omega, HF, HBF⟩
        | zero =>
          obtain rfl : i = j := by omega
          obtain ⟨w4, rfl⟩ : ∃ w4, w4 = wr := ⟨_, rfl⟩
          obtain ⟨M, hM⟩ : ∃ M, M = if 1 < H then i else 0 := ⟨_, rfl⟩
          have hMi : M ≤ i := by rw [hM]; split <;> omega
          have HM1 := Lib.hid (fun h : 1 < H => (show M = i by rw [hM, if_pos h]))
          have HM0 := Lib.hid (fun h : ¬ 1 < H => (show M = 0 by rw [hM, if_neg h]))
          have hW2 := HW2.out
          obtain ⟨LA, hLA⟩ : ∃ LA, (List.range i).map (wantA H i) = LA := ⟨_, rfl⟩
          rw [hLA] at HW hW2
          have HLA := Lib.hid (show LA.length = i by rw [← hLA]; simp)
          have hW3 : LA ++ (List.range M).map (wantB H i) = W := by
            rw [← hW2, hM]
            split <;> simp
          have HW3 := Lib.hid hW3
          have HW0 : Hid (w4.ownsRow w3.heap.size 9 1 (.slice P16 i c16) (i + 0) ((LA ++ (List.range 0).map (wantB H i)).map str)) := Lib.hid (by simpa using HW.out)
          clear hM hW2 hW3 hLA HW HW2 hjg
          go_wp2
          go_loopg [16, 18] M (fun gg v16 v18 wr => ∃ j : Nat, v18 = .int .i64 j ∧ j + gg = M ∧ Hid (wr.ownsRow w3.heap.size 9 1 v16 (i + j) ((LA ++ (List.range j).map (wantB H i)).map str)) ∧ Hid (Below w3.heap.size w3 wr))
          case atStart => exact ⟨0, rfl, by omega, HW0, HBw⟩
          case round =>
            clear HW0 HBw hwr
            obtain ⟨j, rfl, hjg, HW, HBw⟩ := hrel
            obtain ⟨P16, c16, rfl⟩ := slice_form HW.out
            have hwr := HBw.out.size
            cases gk with
            | succ g =>
              have h1 : 1 < H := by
                refine Nat.lt_of_not_le fun h => ?_
                have := HM0.out (by omega)
                omega
              have hMe := HM1.out h1
              have h1' : (1 : Int) < (H : Int) := by omega
              have hji : (j : Int) < (i : Int) := by omega
              have hj20 : i + j ≤ 40 := by omega
              have HOw := Lib.hid (fun (o : Obj) => row_below HW.out ((Below.refl _ wr).alloc (Nat.le_refl _) o))
              obtain ⟨q, hq⟩ : ∃ q : Nat, q = i - 1 - j := ⟨_, rfl⟩
              have hqe : (i : Int) - 1 - (j : Int) = (q : Int) := by omega
              have hqi : (q : Int) < (i : Int) := by omega
              have hqi' : q < i := by omega
              have hQ := HK.out wr HBw.out q hqi'
              have hJ := HK.out wr HBw.out j (by omega)
              have HQq := Lib.hid hq
              clear hq hMe
              obtain ⟨L2, hL2⟩ : ∃ L2, LA ++ (List.range j).map (wantB H i) = L2 := ⟨_, rfl⟩
              rw [hL2] at HW HOw
              have HL2 := Lib.hid hL2
              clear hL2
              rcases (show H = 2 ∨ H = 3 by omega) with h | h
              · have e2 : ((H : Int) == 2) = true := by simp; omega
                have HPU := Lib.hid (show L2 ++ [43 :: nameC j] = LA ++ (List.range (j + 1)).map (wantB H i) by rw [← HL2.out, List.range_succ, List.map_append, List.append_assoc]; congr 2; show _ = [wantB H i j]; unfold wantB; rw [if_pos (by omega)])
                have hadd : ∀ W : World, (Op.stringOp .add (ByteArray.mk #[43]) (ByteArray.mk (nameC j).toArray)).run Tryd.prog W = .ok (str (43 :: nameC j)) W := fun W => str_add [43] (nameC j) (by simp [nameC_len])
                obtain ⟨A, hA⟩ : ∃ A, nameC j = A := ⟨_, rfl⟩
                rw [hA] at HPU hadd hJ
                clear hA h h1 HQq HL2 hQ hqe hqi hqi'
                go_wp2_with (at_builtin; refine wpList_append_fresh _ rfl (.tmp 161) (.tmp 167) 27 rfl w3.heap.size 9 i3 _ 1 16 Tryd.underlying27 hi3 hz3 hzs3 hzb3 rfl (by decide) _ _ _ rfl (HOw.out _) ⟨wr.heap.size, 0, none⟩ 1 1 [str (43 :: A)] rfl rfl ?a1 ?a2 ?a3 ?a4 ?a5 ?_)
                case a1 => exact cells_new wr _ _
                case a2 => intro y hy; simp at hy; subst hy; rfl
                case a3 => unfold maxLen; omega
                case a4 => omega
                case a5 => first | omega | (simp; omega)
                intro v' w5 hown hg _
                have HF := Lib.hid (row_push (n := i + j) hown HPU.out)
                have HBF := Lib.hid (push_below HBw.out HW.out (Nat.le_refl _) hwr hg)
                clear hown hg HW HBw HOw HPU
                go_wp2
                go_roundg g
                case measure => omega
                case rel => exact ⟨j + 1, by go_num, by omega, HF, HBF⟩
              · have e2 : ((H : Int) == 2) = false := by simp; omega
                have HPU := Lib.hid (show L2 ++ [45 :: (nameC q ++ [126])] = LA ++ (List.range (j + 1)).map (wantB H i) by rw [← HL2.out, List.range_succ, List.map_append, List.append_assoc]; congr 2; show _ = [wantB H i j]; unfold wantB; rw [if_neg (by omega), HQq.out])
                have hadd : ∀ W : World, (Op.stringOp .add (ByteArray.mk #[45]) (ByteArray.mk (nameC q).toArray)).run Tryd.prog W = .ok (str (45 :: nameC q)) W := fun W => str_add [45] (nameC q) (by simp [nameC_len])
                have hadd2 : ∀ W : World, (Op.stringOp .add (ByteArray.mk (45 :: nameC q).toArray) (ByteArray.mk #[126])).run Tryd.prog W = .ok (str (45 :: (nameC q ++ [126]))) W := fun W => str_add (45 :: nameC q) [126] (by simp [nameC_len])
                obtain ⟨B, hB⟩ : ∃ B, 45 :: (nameC q ++ [126]) = B := ⟨_, rfl⟩
                rw [hB] at HPU hadd2
                obtain ⟨B', hB'⟩ : ∃ B, 45 :: nameC q = B := ⟨_, rfl⟩
                rw [hB'] at hadd hadd2
                obtain ⟨A, hA⟩ : ∃ A, nameC q = A := ⟨_, rfl⟩
                rw [hA] at hadd hQ
                clear hA hB hB' h h1 HQq HL2 hJ
                go_wp2_with (at_builtin; refine wpList_append_fresh _ rfl (.tmp 169) (.tmp 179) 27 rfl w3.heap.size 9 i3 _ 1 16 Tryd.underlying27 hi3 hz3 hzs3 hzb3 rfl (by decide) _ _ _ rfl (HOw.out _) ⟨wr.heap.size, 0, none⟩ 1 1 [str (B)] rfl rfl ?a1 ?a2 ?a3 ?a4 ?a5 ?_)
                case a1 => exact cells_new wr _ _
                case a2 => intro y hy; simp at hy; subst hy; rfl
                case a3 => unfold maxLen; omega
                case a4 => omega
                case a5 => first | omega | (simp; omega)
                intro v' w5 hown hg _
                have HF := Lib.hid (row_push (n := i + j) hown HPU.out)
                have HBF := Lib.hid (push_below HBw.out HW.out (Nat.le_refl _) hwr hg)
                clear hown hg HW HBw HOw HPU
                go_wp2
                go_roundg g
                case measure => omega
                case rel => exact ⟨j + 1, by go_num, by omega, HF, HBF⟩
            | zero =>
              obtain rfl : M = j := by omega
              go_upto_region 34 with fail
              go_cut [156] from 150 to 180 (fun s156 wx => s156 = .bool false ∧ wx = wr)
              case first =>
                by_cases h1 : 1 < H
                · have hMe := HM1.out h1
                  have hlt : ¬ (M : Int) < (i : Int) := by omega
                  clear HM0 HM1 hMe h1
                  go_wp2_with fail
                  go_meet
                  exact ⟨rfl, rfl⟩
                · have hMe := HM0.out h1
                  have hlt : (M : Int) < (i : Int) := by omega
                  have h1' : ¬ (1 : Int) < (H : Int) := by omega
                  clear HM0 HM1 hMe h1
                  go_wp2_with fail
                  go_meet
                  exact ⟨rfl, rfl⟩
              case rest =>
                obtain ⟨rfl, rfl⟩ := hcut
                have hlw : i + M = W.length := by rw [← HW3.out, List.length_append, HLA.out]; simp
                have hWw := HW.out
                rw [HW3.out] at hWw
                have HWT := Lib.hid (strs_row2 hlw hWw)
                have hOi : 0 < O.length := by rw [← HWO.out]; omega
                obtain ⟨bO, oO, rfl, _, _⟩ := IntsAt.get (i := 0) HIs.out (by rw [List.length_map]; exact hOi)
                have HOJ := Lib.hid (fun (U : World) (hU : Below w3.heap.size w3 U) (k : Nat) (hk : k < O.length) => (show U.cell? ⟨bO, oO + k, none⟩ = some (.int .i64 ((O.getD k 0 : Nat) : Int)) by
                  obtain ⟨b, o, he, hl, hc⟩ := IntsAt.get (i := k) HIs.out (by rw [List.length_map]; exact hk)
                  cases he
                  have e : (O.map (fun k : Nat => (k : Int))).getD k 0 = ((O.getD k 0 : Nat) : Int) := by simp [List.getD, hk]
                  rw [e] at hc
                  exact (hU.cell (p := ⟨bO, oO + k, none⟩) hl).trans hc))
                have hF0 : ∀ k, k < F.length → F[k]? = some (F.getD k step0) := fun k hk => by simp [List.getD, hk]
                obtain ⟨bS, oS, rfl, _, _⟩ := CellsAt.at_ (c := stepC) (k := 5) (fun _ => rfl) HC3.out (hF0 _ (HAT.out 0 hOi).1)
                have HSJ := Lib.hid (fun (U : World) (hU : Below w3.heap.size w3 U) (k : Nat) (hk : k < F.length) => (show U.cell? ⟨bS, oS + k * 5, none⟩ = some (.int .i64 (F.getD k step0).op) ∧ U.cell? ⟨bS, oS + k * 5 + 1, none⟩ = some (str (F.getD k step0).addr) by
                  obtain ⟨b, o, he, hl, hc⟩ := CellsAt.at_ (c := stepC) (k := 5) (fun _ => rfl) HC3.out (hF0 k hk)
                  cases he
                  exact ⟨(hU.cell (p := ⟨bS, oS + k * 5, none⟩) hl).trans (hc 0 _ rfl), (hU.cell (p := ⟨bS, oS + k * 5 + 1, none⟩) hl).trans (hc 1 _ rfl)⟩))
                obtain ⟨w6, rfl⟩ : ∃ w6, w6 = wc := ⟨_, rfl⟩
                have HB6 := Lib.hid HBw.out
                have HB66 := Lib.hid (HB3.out.trans (HBw.out.mono HB3.out.size))
                have hO40 : O.length ≤ 40 := by rw [← HWO.out]; omega
                clear hlw hWw hOi hF0 HW HBw HW3 HLA HM0 HM1 hwr HK HD3 HIs HC3 hjg hMi
                go_wp2
                go_loopg [19, 183] O.length (fun gg v19 v183 wr => ∃ j : Nat, v183 = .int .i64 j ∧ j + gg = O.length ∧ Hid (wr.ownsRow w6.heap.size 9 1 v19 j ((W.take j).map str)) ∧ Hid (Below w6.heap.size w6 wr))
                case atStart => exact ⟨0, rfl, by omega, ⟨rfl, .inl ⟨rfl, rfl⟩⟩, Below.refl _ _⟩
                case round =>
                  obtain ⟨j, rfl, hjg, HW, HBw⟩ := hrel
                  obtain ⟨P19, c19, rfl⟩ := slice_form HW.out
                  have hwr := HBw.out.size
                  have H3r := Lib.hid (HB6.out.trans (HBw.out.mono HB6.out.size))
                  cases gk with
                  | succ g =>
                    have hjO : j < O.length := by omega
                    have hji : (j : Int) < (O.length : Int) := by omega
                    have HOw := Lib.hid (fun (o : Obj) => row_below HW.out ((Below.refl _ wr).alloc (Nat.le_refl _) o))
                    have q0 := HOJ.out wr H3r.out j hjO
                    obtain ⟨hk, hsg⟩ := HAT.out j hjO
                    obtain ⟨k, hkE⟩ : ∃ k, O.getD j 0 = k := ⟨_, rfl⟩
                    rw [hkE] at q0 hk hsg
                    have hkF : (k : Int) < (F.length : Int) := by omega
                    obtain ⟨c0, c1⟩ := HSJ.out wr H3r.out k hk
                    obtain ⟨y0, y1⟩ := cells2 ((H3r.out.block _ (heap_lt HN3.out)).trans HN3.out)
                    have hjW : j < W.length := by rw [HWO.out]; exact hjO
                    have hst : W.take j ++ [W.getD j []] = W.take (j + 1) := by rw [List.take_add_one]; simp [List.getD, hjW]
                    have hsh := HWS.out (W.getD j []) (by simp [List.getD, hjW])
                    unfold signS at hsg
                    obtain ⟨op, hopE⟩ : ∃ op, (F.getD k step0).op = op := ⟨_, rfl⟩
                    obtain ⟨A, hA⟩ : ∃ A, (F.getD k step0).addr = A := ⟨_, rfl⟩
                    rw [hopE, hA] at hsg
                    rw [hopE] at c0
                    rw [hA] at c1
                    rw [← hsg] at hst hsh
                    have hA6 : A.length ≤ 6 := by simp at hsh; omega
                    obtain ⟨L2, hL2⟩ : ∃ L2, W.take j = L2 := ⟨_, rfl⟩
                    rw [hL2] at HW HOw hst
                    have HST := Lib.hid hst
                    clear hsg hst hsh hjW hkE hopE hA hL2 H3r hjO
                    by_cases hop : op = 5
                    · have e5 : (op == 5) = true := by simpa using hop
                      have HPU := Lib.hid (show L2 ++ [45 :: A] = W.take (j + 1) by rw [← HST.out, if_pos hop])
                      have hadd : ∀ U : World, (Op.stringOp .add (ByteArray.mk #[45]) (ByteArray.mk A.toArray)).run Tryd.prog U = .ok (str (45 :: A)) U := fun U => str_add [45] A (by simp; omega)
                      clear hop HST
                      go_wp2_with (at_builtin; refine wpList_append_fresh _ rfl (.tmp 194) (.tmp 203) 27 rfl w6.heap.size 9 i3 _ 1 16 Tryd.underlying27 hi3 hz3 hzs3 hzb3 rfl (by decide) _ _ _ rfl (HOw.out _) ⟨wr.heap.size, 0, none⟩ 1 1 [str (45 :: A)] rfl rfl ?a1 ?a2 ?a3 ?a4 ?a5 ?_)
                      case a1 => exact cells_new wr _ _
                      case a2 => intro y hy; simp at hy; subst hy; rfl
                      case a3 => unfold maxLen; omega
                      case a4 => omega
                      case a5 => first | omega | (simp; omega)
                      intro v' w5 hown hg _
                      have HF := Lib.hid (row_push (n := j) hown HPU.out)
                      have HBF := Lib.hid (push_below HBw.out HW.out (Nat.le_refl _) hwr hg)
                      clear hown hg HW HBw HOw HPU
                      go_wp2
                      go_roundg g
                      case measure => omega
                      case rel => exact ⟨j + 1, by go_num, by omega, HF, HBF⟩
                    · have e5 : (op == 5) = false := by simpa using hop
                      have HPU := Lib.hid (show L2 ++ [43 :: A] = W.take (j + 1) by rw [← HST.out, if_neg hop])
                      have hadd : ∀ U : World, (Op.stringOp .add (ByteArray.mk #[43]) (ByteArray.mk A.toArray)).run Tryd.prog U = .ok (str (43 :: A)) U := fun U => str_add [43] A (by simp; omega)
                      clear HST
                      go_wp2_with (at_builtin; refine wpList_append_fresh _ rfl (.tmp 194) (.tmp 203) 27 rfl w6.heap.size 9 i3 _ 1 16 Tryd.underlying27 hi3 hz3 hzs3 hzb3 rfl (by decide) _ _ _ rfl (HOw.out _) ⟨wr.heap.size, 0, none⟩ 1 1 [str (43 :: A)] rfl rfl ?a1 ?a2 ?a3 ?a4 ?a5 ?_)
                      case a1 => exact cells_new wr _ _
                      case a2 => intro y hy; simp at hy; subst hy; rfl
                      case a3 => unfold maxLen; omega
                      case a4 => omega
                      case a5 => first | omega | (simp; omega)
                      intro v' w5 hown hg _
                      have HF := Lib.hid (row_push (n := j) hown HPU.out)
                      have HBF := Lib.hid (push_below HBw.out HW.out (Nat.le_refl _) hwr hg)
                      clear hown hg HW HBw HOw HPU
                      go_wp2
                      go_roundg g
                      case measure => omega
                      case rel => exact ⟨j + 1, by go_num, by omega, HF, HBF⟩
                  | zero =>
                    obtain rfl : j = O.length := by omega
                    have hgot := HW.out
                    rw [← HWO.out, List.take_length] at hgot
                    have hWT := HWT.out.mono HBw.out
                    have hgs := strs_row2 (n := W.length) rfl hgot
                    rw [HWO.out] at hgs
                    have TX := texts_any W W _ _ wr hgs hWT
                    rw [beq_self_eq_true] at TX
                    have HBE := Lib.hid (HB66.out.trans (HBw.out.mono HB66.out.size))
                    have hie4 : ¬ (O.length : Int) < (O.length : Int) := by omega
                    clear hgot hWT hgs HW HBw HOJ HSJ HWT HAT hjg
                    go_wp2_with fail
                    refine TX.mono ?_
                    rintro e w9 ⟨rfl, hb9⟩
                    have HB9 := Lib.hid (HBE.out.trans (hb9.mono HBE.out.size))
                    clear TX hb9
                    go_wp2
                    go_ret
                    exact ⟨rfl, HB9.out⟩

end Go.Proofs.YtnjbdedmalpccaaDoor
