/- The document's world: New. -/
import Derived.Test.YtpbipngnoklmcaaGreatDoorMGoodR
import Derived.Test.YtpbipngnoklmcaaGreatDoorMWldO
import Derived.Deep.RegionHeld3
namespace Go.Proofs.YtpbipngnoklmcaaGreatDoor
open Go.RowKit
set_option maxRecDepth 100000
attribute [local go_sem] str_size str_toList str_get

/-- What New leaves of the document's world. -/
def NewPR (F : List Nat) (os : List O3) (fs : List F2) (w : World) (e : Ending) (w' : World) : Prop :=
  Below w.heap.size w w' ∧ match newP os fs with
  | (none, c) => e = .returned (.tuple #[.agg #[.slice none 0 0, .slice none 0 0, .slice none 0 0], .int .i64 c])
  | (some S, c) => ∃ m rs', e = .returned (.tuple #[m, .int .i64 c]) ∧ RAt F w' m rs' S
theorem NewPR.bad {F : List Nat} {os : List O3} {fs : List F2} {w w' : World} (hb : Below w.heap.size w w') (h : (os.all fun o => goodA o.2.2) = false) : NewPR F os fs w (.returned (.tuple #[.agg #[.slice none 0 0, .slice none 0 0, .slice none 0 0], .int .i64 1])) w' := by
  refine ⟨hb, ?_⟩
  unfold newP
  rw [if_pos h]
theorem NewPR.twice {F : List Nat} {os : List O3} {fs : List F2} {w w' : World} (hb : Below w.heap.size w w') (h : (os.all fun o => goodA o.2.2) = true) (hl : loadP os [] = none) : NewPR F os fs w (.returned (.tuple #[.agg #[.slice none 0 0, .slice none 0 0, .slice none 0 0], .int .i64 2])) w' := by
  refine ⟨hb, ?_⟩
  unfold newP
  rw [if_neg (by simp [h]), hl]
theorem NewPR.good {F : List Nat} {os l : List O3} {fs : List F2} {w w' : World} {m : Value} {rs : List R3} (hb : Below w.heap.size w w') (h : (os.all fun o => goodA o.2.2) = true) (hl : loadP os [] = some l) (hr : RAt F w' m rs ⟨l, fs, []⟩) : NewPR F os fs w (.returned (.tuple #[m, .int .i64 0])) w' := by
  refine ⟨hb, ?_⟩
  unfold newP
  rw [if_neg (by simp [h]), hl]
  exact ⟨m, rs, rfl, hr⟩

/-- The objects that stand there so far. -/
structure NewL (rs : List R3) (g : Nat) (i : Nat) (ls : List R3) (a0 : Option Addr) (c0 : Nat) (af : Option Addr) (nf cf : Nat) (w0 w : World) : Prop where
  box : Box2 (g + 1) g #[.slice a0 ls.length c0, .slice af nf cf, .slice none 0 0] #[.slice none 0 0, .slice none 0 0, .slice none 0 0] 32 w
  row : w.ownsRow (g + 2) 47 7 (.slice a0 ls.length c0) ls.length (rowC ls)
  below : Below w0.heap.size w0 w
  mem : ∀ r ∈ ls, r ∈ rs
  len : ls.length ≤ i
  ris : risO (osR ls)
  load : loadP ((osR rs).drop i) (osR ls) = loadP (osR rs) []

set_option maxHeartbeats 8000000 in
theorem new_r {F : List Nat} {w : World} (hF : ∀ q ∈ F, q < w.heap.size) (rs : List R3) (ao : Option Addr) (co : Nat) (fs : List F2) (af : Option Addr) (cf : Nat)
    (k1 : Kept F w fun W => CellsAt W (.slice ao rs.length co) rs.length (rowC rs)) (k2 : Kept F w fun W => CellsAt W (.slice af fs.length cf) fs.length (failCells fs))
    (hv : ∀ r ∈ rs, Kept F w fun W => ValAt W r.1.2.2 (rV r)) (hf : fitO (osR rs)) (hl : rs.length ≤ 10000) :
    Calls Tryz.prog 8 #[.slice ao rs.length co, .slice af fs.length cf] w (NewPR F (osR rs) fs w) := by
  have mixed : Tryz.prog.follows .mixedOrders = true := by kernel_rfl
  obtain ⟨wA, hwA⟩ : ∃ wA, wA = (w.alloc (.cells #[.slice none 0 0, .slice none 0 0, .slice none 0 0] 32)).alloc (.cells #[.slice none 0 0, .slice af fs.length cf, .slice none 0 0] 32) := ⟨_, rfl⟩
  have BX0 := Box2.made w #[.slice none 0 0, .slice none 0 0, .slice none 0 0] #[.slice none 0 0, .slice af fs.length cf, .slice none 0 0] 32
  have hbA := Box2.made_below w #[.slice none 0 0, .slice none 0 0, .slice none 0 0] #[.slice none 0 0, .slice af fs.length cf, .slice none 0 0] 32
  rw [← hwA] at BX0 hbA
  have BX : Box2 (w.heap.size + 1) w.heap.size #[.slice none 0 0, .slice af fs.length cf, .slice none 0 0] #[.slice none 0 0, .slice none 0 0, .slice none 0 0] 32 wA := ⟨BX0.two, BX0.one⟩
  have hnm : rs.length ≤ 9223372036854775807 := by omega
  have HBX := Lib.hid BX
  have HBA := Lib.hid hbA
  have K1 := Lib.hid k1
  have K2 := Lib.hid k2
  have HV := Lib.hid hv
  have HFT := Lib.hid hf
  have HFF := Lib.hid hF
  have hgl := heap_lt BX0.two
  have hco := k1.now
  obtain ⟨_, _, hcv, hcm, _⟩ := hco
  cases hcv
  have hcap : rs.length ≤ co := hcm.1
  clear BX BX0 hbA k1 k2 hv hf hF hcm
  go_enter Tryz.func8, Tryz.ntmps8
  go_upto_region 2 with fail
  rw [← hwA]
  clear hwA
  go_wp2
  go_loopg [13] rs.length (fun gg v13 wr => ∃ i : Nat, v13 = .int .i64 i ∧ i + gg = rs.length ∧ Hid (((osR rs).take i).all (fun o => goodA o.2.2) = true) ∧ Hid (Below wA.heap.size wA wr))
  case atStart => exact ⟨0, rfl, by omega, rfl, Below.refl _ _⟩
  case round =>
    obtain ⟨i, rfl, hig, HA, HB⟩ := hrel
    have hBw := HBA.out.trans (HB.out.mono HBA.out.size)
    cases gk with
    | succ gg =>
      have hil : i < rs.length := by omega
      have hii : (i : Int) < (rs.length : Int) := by omega
      obtain ⟨r, hr⟩ : ∃ r, rs[i]? = some r := ⟨_, List.getElem?_eq_getElem hil⟩
      obtain ⟨b, off, rfl, hlt, c0, c1, c2, c3, c4, c5, c6⟩ := (K1.out.below hBw).now.obj hr
      have G := good17_w r.1.2.2 _ wr ((HV.out r (List.mem_of_getElem? hr)).below hBw).now
      unfold rV at G
      have hor : (osR rs)[i]? = some r.1 := by rw [osR_get, hr]; rfl
      have HT : Hid (goodA r.1.2.2 = true → ((osR rs).take (i + 1)).all (fun o => goodA o.2.2) = true) := fun hg => by
        rw [List.take_add_one, hor, List.all_append, HA.out]
        simp [hg]
      have HNO : Hid (goodA r.1.2.2 = false → (osR rs).all (fun o => goodA o.2.2) = false) := fun hg => by
        rw [List.all_eq_false]
        exact ⟨r.1, List.mem_of_getElem? hor, by simp [hg]⟩
      generalize goodA r.1.2.2 = g at G HT HNO
      clear hr hor c0 c1
      go_wp2_with fail
      refine G.mono ?_
      rintro e w1 ⟨rfl, hb1⟩
      have HB1 := Lib.hid (HB.out.trans (hb1.mono HB.out.size))
      clear G hb1 c2 c3 c4 c5 c6
      cases g with
      | true =>
        have HT2 := Lib.hid (HT.out rfl)
        clear HT HNO
        go_wp2
        go_roundg gg
        case measure => omega
        case rel => exact ⟨i + 1, by go_num, by omega, HT2, HB1⟩
      | false =>
        have HN := Lib.hid (HNO.out rfl)
        have BX1 := HBX.out.below HB1.out
        obtain ⟨x0, x1, x2, x3, z0, z1, z2, z3, z4, z5⟩ := BX1.cells
        obtain ⟨wR, hwR, xR, _, _⟩ := put_box3 BX1.two (.slice none 0 0) (.slice none 0 0) (.slice none 0 0)
        have hsR := put3_spares w1 w.heap.size (.slice none 0 0) (.slice none 0 0) (.slice none 0 0)
        rw [← hwR] at hsR
        have hbw1 := HBA.out.trans (HB1.out.mono HBA.out.size)
        have HBR := Lib.hid (Below.spared hbw1 hsR hbw1.size (fun k hk => by simp at hk; omega))
        have HXR := Lib.hid xR
        clear HT HNO BX1 hsR hbw1 xR
        go_wp2
        rw [← hwR]
        (try simp only [Exit.inBlock, Exit.then]); refine bodyPost_ret (results_ct rfl _ _ w.heap.size _ _ _ _ rfl HXR.out Tryz.underlying32 rfl (by kernel_rfl)) rfl ?_
        exact NewPR.bad HBR.out HN.out
    | zero =>
      obtain rfl : i = rs.length := by omega
      have hall := HA.out
      rw [← osR_len, List.take_length] at hall
      have HALL := Lib.hid hall
      have HST := Lib.hid (⟨HBX.out.below HB.out, World.ownsRow_nil _ _ _ _, hBw, (fun r hr => by cases hr), Nat.le_refl _, List.Pairwise.nil, rfl⟩ : NewL rs w.heap.size 0 [] none 0 af fs.length cf w wr)
      clear hall HA hig
      go_wp2
      go_loopg [27] rs.length (fun gg v27 wr => ∃ (i : Nat) (ls : List R3) (a0 : Option Addr) (c0 : Nat), v27 = .int .i64 i ∧ i + gg = rs.length ∧ Hid (NewL rs w.heap.size i ls a0 c0 af fs.length cf w wr))
      case atStart => exact ⟨0, [], none, 0, rfl, by omega, HST⟩
      case round =>
        clear HST
        obtain ⟨i, ls, a0, c0, rfl, hig, HL⟩ := hrel
        have BX1 := HL.out.box
        obtain ⟨x0, x1, x2, x3, z0, z1, z2, z3, z4, z5⟩ := BX1.cells
        cases gk with
        | zero =>
          obtain rfl : i = rs.length := by omega
          obtain ⟨wR, hwR, xR, _, _⟩ := put_box3 BX1.two (.slice a0 ls.length c0) (.slice af fs.length cf) (.slice none 0 0)
          have hsR := put3_spares wr w.heap.size (.slice a0 ls.length c0) (.slice af fs.length cf) (.slice none 0 0)
          rw [← hwR] at hsR
          have hb := HL.out.below
          have hbR : Below w.heap.size w wR := Below.spared hb hsR hb.size (fun k hk => by simp at hk; omega)
          have hlo := HL.out.load
          rw [← osR_len, List.drop_length] at hlo
          have hrow := row_away HL.out.row hsR (fun q hq => by simp at hq; omega)
          have hra : RAt F wR (.agg #[.slice a0 ls.length c0, .slice af fs.length cf, .slice none 0 0]) ls ⟨osR ls, fs, []⟩ :=
            ⟨⟨a0, c0, af, cf, none, 0, rfl, Kept.row hrow (fun q hq => by have := HFF.out q hq; omega), K2.out.below hbR, fun _ _ => CellsAt.nil _⟩, fun r hr => (HV.out r (HL.out.mem r hr)).below hbR, rfl, fun o ho => by
              obtain ⟨r, hr, rfl⟩ := List.mem_map.1 ho
              exact HFT.out _ (List.mem_map.2 ⟨r, HL.out.mem r hr, rfl⟩), HL.out.ris⟩
          have HP := Lib.hid (NewPR.good (F := F) (os := osR rs) hbR HALL.out hlo.symm hra)
          have HXR := Lib.hid xR
          clear hsR hb hbR hlo hrow hra xR BX1
          go_wp2
          rw [← hwR]
          (try simp only [Exit.inBlock, Exit.then]); refine bodyPost_ret (results_ct rfl _ _ w.heap.size _ _ _ _ rfl HXR.out Tryz.underlying32 rfl (by kernel_rfl)) rfl ?_
          exact HP.out
        | succ gg =>
          have hil : i < rs.length := by omega
          have hii : (i : Int) < (rs.length : Int) := by omega
          obtain ⟨r, hr⟩ : ∃ r, rs[i]? = some r := ⟨_, List.getElem?_eq_getElem hil⟩
          have hb := HL.out.below
          obtain ⟨b, off, rfl, hlt, c0', c1', c2', c3', c4', c5', c6'⟩ := (K1.out.below hb).now.obj hr
          have hor : (osR rs)[i]? = some r.1 := by rw [osR_get, hr]; rfl
          have hdr : (osR rs).drop i = r.1 :: (osR rs).drop (i + 1) := by
            obtain ⟨h1, h2⟩ := List.getElem?_eq_some_iff.1 hor
            rw [List.drop_eq_getElem_cons h1, h2]
          have hld := HL.out.load
          rw [hdr, loadP] at hld
          have HLD := Lib.hid hld
          have hlen := HL.out.len
          have AT := fun (W : World) (hW : Below wr.heap.size wr W) => at_r ls a0 c0 (.slice af fs.length cf) (.slice none 0 0) r.1.1 r.1.2.1 W (CellsAt.row (row_keep HL.out.row fun q hq => by
            obtain ⟨_, hh⟩ := row_block HL.out.row hq
            exact hW.block q (heap_lt hh)))
          have HAT := Lib.hid AT
          have HS := Lib.hid (fun (W : World) (hW : Below wr.heap.size wr W) => (⟨(BX1.below hW).cells, (K1.out.below (hb.trans (hW.mono hb.size))).now.obj hr⟩ : _ ∧ _))
          have HR := Lib.hid hr
          have hd : Below wr.heap.size wr wr.drew := (Below.refl _ wr).drew
          clear hor hdr hld AT
          go_upto_region 11 with fail
          go_region_held3 (fun W => W.cell? ⟨w.heap.size + 1, 0, none⟩ = some (.slice a0 ls.length c0) ∧ W.cell? ⟨w.heap.size + 1, 1, none⟩ = some (.slice af fs.length cf) ∧ W.cell? ⟨w.heap.size + 1, 2, none⟩ = some (.slice none 0 0) ∧ W.cell? ⟨b, off + i * 7, none⟩ = some (str r.1.1) ∧ W.cell? ⟨b, off + i * 7 + 1, none⟩ = some (str r.1.2.1))
            (first | exact ⟨x0, x1, x2, c0', c1'⟩ | (obtain ⟨q, _, _, qe, _, q0, q1, _⟩ := HS.out _ hd; cases qe; exact ⟨q.1, q.2.1, q.2.2.1, q0, q1⟩))
            (first
              | (go_at_call 31; refine (HAT.out _ hd).mono ?_; rintro e q2 ⟨z, rfl, hz, hq⟩; have hd := hd.trans (hq.mono hd.size); have HZ := Lib.hid hz; clear hq hz HAT))
          rename_i hHeld
          clear hHeld
          have hh := HZ.out.has
          have HHH := Lib.hid hh
          have HDD := Lib.hid hd
          clear hh hd x0 x1 x2 x3 z0 z1 z2 z3 z4 z5 c0' c1' c2' c3' c4' c5' c6' HZ
          have BX2 := BX1.below HDD.out
          obtain ⟨x0, x1, x2, x3, z0, z1, z2, z3, z4, z5⟩ := BX2.cells
          have hb2 := hb.trans (HDD.out.mono hb.size)
          by_cases hz0 : 0 ≤ z
          · have hB : hasO (osR ls) r.1.1 r.1.2.1 = true := by rw [← HHH.out]; simpa using hz0
            have hlo := HLD.out
            rw [if_pos hB] at hlo
            obtain ⟨wR, hwR, xR, _, _⟩ := put_box3 BX2.two (.slice none 0 0) (.slice none 0 0) (.slice none 0 0)
            have hsR := put3_spares q2 w.heap.size (.slice none 0 0) (.slice none 0 0) (.slice none 0 0)
            rw [← hwR] at hsR
            have HP := Lib.hid (NewPR.twice (F := F) (os := osR rs) (fs := fs) (Below.spared hb2 hsR hb2.size (fun k hk => by simp at hk; omega)) HALL.out hlo.symm)
            have HXR := Lib.hid xR
            clear hsR hlo xR BX1 BX2 hB HHH HS HLD hb hb2
            go_wp2
            rw [← hwR]
            (try simp only [Exit.inBlock, Exit.then]); refine bodyPost_ret (results_ct rfl _ _ w.heap.size _ _ _ _ rfl HXR.out Tryz.underlying32 rfl (by kernel_rfl)) rfl ?_
            exact HP.out
          · have hB : hasO (osR ls) r.1.1 r.1.2.1 = false := by rw [← HHH.out]; simpa using hz0
            have hlo := HLD.out
            rw [if_neg (by rw [hB]; simp)] at hlo
            have HLO := Lib.hid hlo
            obtain ⟨_, _, hae, _, c0', c1', c2', c3', c4', c5', c6'⟩ := (K1.out.below hb2).now.obj HR.out
            cases hae
            have HWT := Lib.hid (fun (W : World) (hW : Below q2.heap.size q2 W) => with_r ls r a0 c0 W (CellsAt.row (row_keep HL.out.row fun q hq => by
              obtain ⟨_, hh⟩ := row_block HL.out.row hq
              exact (HDD.out.trans (hW.mono HDD.out.size)).block q (heap_lt hh))) (by omega))
            have HBX2 := Lib.hid BX2
            have HB2 := Lib.hid hb2
            have hq2 := HDD.out.size
            have hge := heap_lt BX2.one
            clear hlo hB HHH HLD HS BX1 BX2 hb hb2 z0 z1 z2 z3 z4 z5
            go_upto_region 13 with fail
            go_region_law_o (go_simp; go_at_call 32; refine (HWT.out _ (Below.refl _ q2).drew).mono ?_; rintro e w3 ⟨v', rfl, hN⟩; obtain ⟨a1, c1, rfl⟩ := slice_form hN.1; have hd3 : Below q2.heap.size q2 w3 := (Below.refl _ q2).drew.trans (hN.2.mono (Nat.le_refl _)); obtain ⟨y0, y1, y2, y3, _⟩ := (HBX2.out.below hd3).cells; have HD3 := Lib.hid hd3; have HN3 := Lib.hid hN.1; clear hN hd3)
            all_goals
              have hnx : NewL rs w.heap.size (i + 1) (withR ls r) a1 c1 af fs.length cf w (w3.setCell ⟨w.heap.size + 1, 0, none⟩ (.slice a1 (withR ls r).length c1)) := by
                have hgg := heap_lt HBX2.out.one
                refine ⟨(HBX2.out.below HD3.out).set (by omega) 0 _, row_away (row_base HN3.out (show w.heap.size + 2 ≤ q2.heap.size by omega)) (setC_spares w3 (w.heap.size + 1) 0 _) (fun q hq => by simp at hq; omega), (HB2.out.trans (HD3.out.mono HB2.out.size)).setCell (p := ⟨w.heap.size + 1, 0, none⟩) (Nat.le_succ _) _, fun x hx => ?_, ?_, ?_, ?_⟩
                · rcases mem_withR hx with rfl | hx
                  · exact List.mem_of_getElem? HR.out
                  · exact HL.out.mem x hx
                · have := len_withR ls r
                  omega
                · rw [withR_os]
                  exact ris_with HL.out.ris _
                · rw [withR_os]
                  exact HLO.out
              have HNX := Lib.hid hnx
              clear hnx y0 y1 y2 y3 HD3 HN3 HWT x0 x1 x2 x3 c0' c1' c2' c3' c4' c5' c6'
              go_wp2
              go_roundg gg
              case measure => omega
              case rel => exact ⟨i + 1, withR ls r, a1, c1, by go_num, by omega, HNX⟩

end Go.Proofs.YtpbipngnoklmcaaGreatDoor
