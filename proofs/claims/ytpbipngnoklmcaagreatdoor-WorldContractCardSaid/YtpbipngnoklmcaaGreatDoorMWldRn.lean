/- The document's world: New. A row of calls that came in; what the law's loop holds. What WorldContract compares, in plain terms. -/
import Derived.Test.YtpbipngnoklmcaaGreatDoorMGoodR
import Derived.Test.YtpbipngnoklmcaaGreatDoorMWldS
import Derived.Deep.RegionHeld3
import Derived.Test.YtpbipngnoklmcaaGreatDoorMPlA
import Derived.Test.YtpbipngnoklmcaaGreatDoorMWldRe
import Derived.Test.YtpbipngnoklmcaaGreatDoorMConH
namespace Go.Proofs.YtpbipngnoklmcaaGreatDoor
open Go.RowKit
set_option maxRecDepth 100000
attribute [local go_sem] str_size str_toList str_get

/-- What New leaves of the document's world. -/
def NewPR (F : List Nat) (os : List O3) (fs : List F2) (w : World) (e : Ending) (w' : World) : Prop :=
  Below w.heap.size w w' ∧ match newP os fs with
  | (none, c) => e = .returned (.tuple #[.agg #[.slice none 0 0, .slice none 0 0, .slice none 0 0], .int .i64 c])
  | (some S, c) => ∃ m rs', e = .returned (.tuple #[m, .int .i64 c]) ∧ RAt F w' m rs' S
theorem NewPR.bad {F : List Nat} {os : List O3} {fs : List F2} {w w' : World} (hb : Below w.heap.size w w') (h : (os.all fun o => goodA o.2.2) = false) : NewPR F os fs w (.returned (.tuple #[.agg #[.slice none 0 0, .slice none 0 0, .slice none 0 0], .int .i64 1])) w' := by
  refine ⟨hb, ?_⟩
  unfold newP
  rw [if_pos h]
theorem NewPR.twice {F : List Nat} {os : List O3} {fs : List F2} {w w' : World} (hb : Below w.heap.size w w') (h : (os.all fun o => goodA o.2.2) = true) (hl : loadP os [] = none) : NewPR F os fs w (.returned (.tuple #[.agg #[.slice none 0 0, .slice none 0 0, .slice none 0 0], .int .i64 2])) w' := by
  refine ⟨hb, ?_⟩
  unfold newP
  rw [if_neg (by simp [h]), hl]
theorem NewPR.good {F : List Nat} {os l : List O3} {fs : List F2} {w w' : World} {m : Value} {rs : List R3} (hb : Below w.heap.size w w') (h : (os.all fun o => goodA o.2.2) = true) (hl : loadP os [] = some l) (hr : RAt F w' m rs ⟨l, fs, []⟩) : NewPR F os fs w (.returned (.tuple #[m, .int .i64 0])) w' := by
  refine ⟨hb, ?_⟩
  unfold newP
  rw [if_neg (by simp [h]), hl]
  exact ⟨m, rs, rfl, hr⟩

/-- The objects that stand there so far. -/
structure NewL (rs : List R3) (g : Nat) (i : Nat) (ls : List R3) (a0 : Option Addr) (c0 : Nat) (af : Option Addr) (nf cf : Nat) (w0 w : World) : Prop where
  box : Box2 (g + 1) g #[.slice a0 ls.length c0, .slice af nf cf, .slice none 0 0] #[.slice none 0 0, .slice none 0 0, .slice none 0 0] 32 w
  row : w.ownsRow (g + 2) 47 7 (.slice a0 ls.length c0) ls.length (rowC ls)
  below : Below w0.heap.size w0 w
  mem : ∀ r ∈ ls, r ∈ rs
  len : ls.length ≤ i
  ris : risO (osR ls)
  load : loadP ((osR rs).drop i) (osR ls) = loadP (osR rs) []

set_option maxHeartbeats 8000000 in
theorem new_r {F : List Nat} {w : World} (hF : ∀ q ∈ F, q < w.heap.size) (rs : List R3) (ao : Option Addr) (co : Nat) (fs : List F2) (af : Option Addr) (cf : Nat)
    (k1 : Kept F w fun W => CellsAt W (.slice ao rs.length co) rs.length (rowC rs)) (k2 : Kept F w fun W => CellsAt W (.slice af fs.length cf) fs.length (failCells fs))
    (hv : ∀ r ∈ rs, Kept F w fun W => ValAt W r.1.2.2 (rV r)) (hf : fitO (osR rs)) (hl : rs.length ≤ 10000) :
    Calls Tryz.prog 8 #[.slice ao rs.length co, .slice af fs.length cf] w (NewPR F (osR rs) fs w) := by
  have mixed : Tryz.prog.follows .mixedOrders = true := by kernel_rfl
  obtain ⟨wA, hwA⟩ : ∃ wA, wA = (w.alloc (.cells #[.slice none 0 0, .slice none 0 0, .slice none 0 0] 32)).alloc (.cells #[.slice none 0 0, .slice af fs.length cf, .slice none 0 0] 32) := ⟨_, rfl⟩
  have BX0 := Box2.made w #[.slice none 0 0, .slice none 0 0, .slice none 0 0] #[.slice none 0 0, .slice af fs.length cf, .slice none 0 0] 32
  have hbA := Box2.made_below w #[.slice none 0 0, .slice none 0 0, .slice none 0 0] #[.slice none 0 0, .slice af fs.length cf, .slice none 0 0] 32
  rw [← hwA] at BX0 hbA
  have BX : Box2 (w.heap.size + 1) w.heap.size #[.slice none 0 0, .slice af fs.length cf, .slice none 0 0] #[.slice none 0 0, .slice none 0 0, .slice none 0 0] 32 wA := ⟨BX0.two, BX0.one⟩
  have hnm : rs.length ≤ 9223372036854775807 := by omega
  have HBX := Lib.hid BX
  have HBA := Lib.hid hbA
  have K1 := Lib.hid k1
  have K2 := Lib.hid k2
  have HV := Lib.hid hv
  have HFT := Lib.hid hf
  have HFF := Lib.hid hF
  have hgl := heap_lt BX0.two
  have hco := k1.now
  obtain ⟨_, _, hcv, hcm, _⟩ := hco
  cases hcv
  have hcap : rs.length ≤ co := hcm.1
  clear BX BX0 hbA k1 k2 hv hf hF hcm
  go_enter Tryz.func8, Tryz.ntmps8
  go_upto_region 2 with fail
  rw [← hwA]
  clear hwA
  go_wp2
  go_loopg [13] rs.length (fun gg v13 wr => ∃ i : Nat, v13 = .int .i64 i ∧ i + gg = rs.length ∧ Hid (((osR rs).take i).all (fun o => goodA o.2.2) = true) ∧ Hid (Below wA.heap.size wA wr))
  case atStart => exact ⟨0, rfl, by omega, rfl, Below.refl _ _⟩
  case round =>
    obtain ⟨i, rfl, hig, HA, HB⟩ := hrel
    have hBw := HBA.out.trans (HB.out.mono HBA.out.size)
    cases gk with
    | succ gg =>
      have hil : i < rs.length := by omega
      have hii : (i : Int) < (rs.length : Int) := by omega
      obtain ⟨r, hr⟩ : ∃ r, rs[i]? = some r := ⟨_, List.getElem?_eq_getElem hil⟩
      obtain ⟨b, off, rfl, hlt, c0, c1, c2, c3, c4, c5, c6⟩ := (K1.out.below hBw).now.obj hr
      have G := good17_w r.1.2.2 _ wr ((HV.out r (List.mem_of_getElem? hr)).below hBw).now
      unfold rV at G
      have hor : (osR rs)[i]? = some r.1 := by rw [osR_get, hr]; rfl
      have HT : Hid (goodA r.1.2.2 = true → ((osR rs).take (i + 1)).all (fun o => goodA o.2.2) = true) := fun hg => by
        rw [List.take_add_one, hor, List.all_append, HA.out]
        simp [hg]
      have HNO : Hid (goodA r.1.2.2 = false → (osR rs).all (fun o => goodA o.2.2) = false) := fun hg => by
        rw [List.all_eq_false]
        exact ⟨r.1, List.mem_of_getElem? hor, by simp [hg]⟩
      generalize goodA r.1.2.2 = g at G HT HNO
      clear hr hor c0 c1
      go_wp2_with fail
      refine G.mono ?_
      rintro e w1 ⟨rfl, hb1⟩
      have HB1 := Lib.hid (HB.out.trans (hb1.mono HB.out.size))
      clear G hb1 c2 c3 c4 c5 c6
      cases g with
      | true =>
        have HT2 := Lib.hid (HT.out rfl)
        clear HT HNO
        go_wp2
        go_roundg gg
        case measure => omega
        case rel => exact ⟨i + 1, by go_num, by omega, HT2, HB1⟩
      | false =>
        have HN := Lib.hid (HNO.out rfl)
        have BX1 := HBX.out.below HB1.out
        obtain ⟨x0, x1, x2, x3, z0, z1, z2, z3, z4, z5⟩ := BX1.cells
        obtain ⟨wR, hwR, xR, _, _⟩ := put_box3 BX1.two (.slice none 0 0) (.slice none 0 0) (.slice none 0 0)
        have hsR := put3_spares w1 w.heap.size (.slice none 0 0) (.slice none 0 0) (.slice none 0 0)
        rw [← hwR] at hsR
        have hbw1 := HBA.out.trans (HB1.out.mono HBA.out.size)
        have HBR := Lib.hid (Below.spared hbw1 hsR hbw1.size (fun k hk => by simp at hk; omega))
        have HXR := Lib.hid xR
        clear HT HNO BX1 hsR hbw1 xR
        go_wp2
        rw [← hwR]
        (try simp only [Exit.inBlock, Exit.then]); refine bodyPost_ret (results_ct rfl _ _ w.heap.size _ _ _ _ rfl HXR.out Tryz.underlying32 rfl (by kernel_rfl)) rfl ?_
        exact NewPR.bad HBR.out HN.out
    | zero =>
      obtain rfl : i = rs.length := by omega
      have hall := HA.out
      rw [← osR_len, List.take_length] at hall
      have HALL := Lib.hid hall
      have HST := Lib.hid (⟨HBX.out.below HB.out, World.ownsRow_nil _ _ _ _, hBw, (fun r hr => by cases hr), Nat.le_refl _, List.Pairwise.nil, rfl⟩ : NewL rs w.heap.size 0 [] none 0 af fs.length cf w wr)
      clear hall HA hig
      go_wp2
      go_loopg [27] rs.length (fun gg v27 wr => ∃ (i : Nat) (ls : List R3) (a0 : Option Addr) (c0 : Nat), v27 = .int .i64 i ∧ i + gg = rs.length ∧ Hid (NewL rs w.heap.size i ls a0 c0 af fs.length cf w wr))
      case atStart => exact ⟨0, [], none, 0, rfl, by omega, HST⟩
      case round =>
        clear HST
        obtain ⟨i, ls, a0, c0, rfl, hig, HL⟩ := hrel
        have BX1 := HL.out.box
        obtain ⟨x0, x1, x2, x3, z0, z1, z2, z3, z4, z5⟩ := BX1.cells
        cases gk with
        | zero =>
          obtain rfl : i = rs.length := by omega
          obtain ⟨wR, hwR, xR, _, _⟩ := put_box3 BX1.two (.slice a0 ls.length c0) (.slice af fs.length cf) (.slice none 0 0)
          have hsR := put3_spares wr w.heap.size (.slice a0 ls.length c0) (.slice af fs.length cf) (.slice none 0 0)
          rw [← hwR] at hsR
          have hb := HL.out.below
          have hbR : Below w.heap.size w wR := Below.spared hb hsR hb.size (fun k hk => by simp at hk; omega)
          have hlo := HL.out.load
          rw [← osR_len, List.drop_length] at hlo
          have hrow := row_away HL.out.row hsR (fun q hq => by simp at hq; omega)
          have hra : RAt F wR (.agg #[.slice a0 ls.length c0, .slice af fs.length cf, .slice none 0 0]) ls ⟨osR ls, fs, []⟩ :=
            ⟨⟨a0, c0, af, cf, none, 0, rfl, Kept.row hrow (fun q hq => by have := HFF.out q hq; omega), K2.out.below hbR, fun _ _ => CellsAt.nil _⟩, fun r hr => (HV.out r (HL.out.mem r hr)).below hbR, rfl, fun o ho => by
              obtain ⟨r, hr, rfl⟩ := List.mem_map.1 ho
              exact HFT.out _ (List.mem_map.2 ⟨r, HL.out.mem r hr, rfl⟩), HL.out.ris⟩
          have HP := Lib.hid (NewPR.good (F := F) (os := osR rs) hbR HALL.out hlo.symm hra)
          have HXR := Lib.hid xR
          clear hsR hb hbR hlo hrow hra xR BX1
          go_wp2
          rw [← hwR]
          (try simp only [Exit.inBlock, Exit.then]); refine bodyPost_ret (results_ct rfl _ _ w.heap.size _ _ _ _ rfl HXR.out Tryz.underlying32 rfl (by kernel_rfl)) rfl ?_
          exact HP.out
        | succ gg =>
          have hil : i < rs.length := by omega
          have hii : (i : Int) < (rs.length : Int) := by omega
          obtain ⟨r, hr⟩ : ∃ r, rs[i]? = some r := ⟨_, List.getElem?_eq_getElem hil⟩
          have hb := HL.out.below
          obtain ⟨b, off, rfl, hlt, c0', c1', c2', c3', c4', c5', c6'⟩ := (K1.out.below hb).now.obj hr
          have hor : (osR rs)[i]? = some r.1 := by rw [osR_get, hr]; rfl
          have hdr : (osR rs).drop i = r.1 :: (osR rs).drop (i + 1) := by
            obtain ⟨h1, h2⟩ := List.getElem?_eq_some_iff.1 hor
            rw [List.drop_eq_getElem_cons h1, h2]
          have hld := HL.out.load
          rw [hdr, loadP] at hld
          have HLD := Lib.hid hld
          have hlen := HL.out.len
          have AT := fun (W : World) (hW : Below wr.heap.size wr W) => at_r ls a0 c0 (.slice af fs.length cf) (.slice none 0 0) r.1.1 r.1.2.1 W (CellsAt.row (row_keep HL.out.row fun q hq => by
            obtain ⟨_, hh⟩ := row_block HL.out.row hq
            exact hW.block q (heap_lt hh)))
          have HAT := Lib.hid AT
          have HS := Lib.hid (fun (W : World) (hW : Below wr.heap.size wr W) => (⟨(BX1.below hW).cells, (K1.out.below (hb.trans (hW.mono hb.size))).now.obj hr⟩ : _ ∧ _))
          have HR := Lib.hid hr
          have hd : Below wr.heap.size wr wr.drew := (Below.refl _ wr).drew
          clear hor hdr hld AT
          go_upto_region 11 with fail
          go_region_held3 (fun W => W.cell? ⟨w.heap.size + 1, 0, none⟩ = some (.slice a0 ls.length c0) ∧ W.cell? ⟨w.heap.size + 1, 1, none⟩ = some (.slice af fs.length cf) ∧ W.cell? ⟨w.heap.size + 1, 2, none⟩ = some (.slice none 0 0) ∧ W.cell? ⟨b, off + i * 7, none⟩ = some (str r.1.1) ∧ W.cell? ⟨b, off + i * 7 + 1, none⟩ = some (str r.1.2.1))
            (first | exact ⟨x0, x1, x2, c0', c1'⟩ | (obtain ⟨q, _, _, qe, _, q0, q1, _⟩ := HS.out _ hd; cases qe; exact ⟨q.1, q.2.1, q.2.2.1, q0, q1⟩))
            (first
              | (go_at_call 31; refine (HAT.out _ hd).mono ?_; rintro e q2 ⟨z, rfl, hz, hq⟩; have hd := hd.trans (hq.mono hd.size); have HZ := Lib.hid hz; clear hq hz HAT))
          rename_i hHeld
          clear hHeld
          have hh := HZ.out.has
          have HHH := Lib.hid hh
          have HDD := Lib.hid hd
          clear hh hd x0 x1 x2 x3 z0 z1 z2 z3 z4 z5 c0' c1' c2' c3' c4' c5' c6' HZ
          have BX2 := BX1.below HDD.out
          obtain ⟨x0, x1, x2, x3, z0, z1, z2, z3, z4, z5⟩ := BX2.cells
          have hb2 := hb.trans (HDD.out.mono hb.size)
          by_cases hz0 : 0 ≤ z
          · have hB : hasO (osR ls) r.1.1 r.1.2.1 = true := by rw [← HHH.out]; simpa using hz0
            have hlo := HLD.out
            rw [if_pos hB] at hlo
            obtain ⟨wR, hwR, xR, _, _⟩ := put_box3 BX2.two (.slice none 0 0) (.slice none 0 0) (.slice none 0 0)
            have hsR := put3_spares q2 w.heap.size (.slice none 0 0) (.slice none 0 0) (.slice none 0 0)
            rw [← hwR] at hsR
            have HP := Lib.hid (NewPR.twice (F := F) (os := osR rs) (fs := fs) (Below.spared hb2 hsR hb2.size (fun k hk => by simp at hk; omega)) HALL.out hlo.symm)
            have HXR := Lib.hid xR
            clear hsR hlo xR BX1 BX2 hB HHH HS HLD hb hb2
            go_wp2
            rw [← hwR]
            (try simp only [Exit.inBlock, Exit.then]); refine bodyPost_ret (results_ct rfl _ _ w.heap.size _ _ _ _ rfl HXR.out Tryz.underlying32 rfl (by kernel_rfl)) rfl ?_
            exact HP.out
          · have hB : hasO (osR ls) r.1.1 r.1.2.1 = false := by rw [← HHH.out]; simpa using hz0
            have hlo := HLD.out
            rw [if_neg (by rw [hB]; simp)] at hlo
            have HLO := Lib.hid hlo
            obtain ⟨_, _, hae, _, c0', c1', c2', c3', c4', c5', c6'⟩ := (K1.out.below hb2).now.obj HR.out
            cases hae
            have HWT := Lib.hid (fun (W : World) (hW : Below q2.heap.size q2 W) => with_r ls r a0 c0 W (CellsAt.row (row_keep HL.out.row fun q hq => by
              obtain ⟨_, hh⟩ := row_block HL.out.row hq
              exact (HDD.out.trans (hW.mono HDD.out.size)).block q (heap_lt hh))) (by omega))
            have HBX2 := Lib.hid BX2
            have HB2 := Lib.hid hb2
            have hq2 := HDD.out.size
            have hge := heap_lt BX2.one
            clear hlo hB HHH HLD HS BX1 BX2 hb hb2 z0 z1 z2 z3 z4 z5
            go_upto_region 13 with fail
            go_region_law_o (go_simp; go_at_call 32; refine (HWT.out _ (Below.refl _ q2).drew).mono ?_; rintro e w3 ⟨v', rfl, hN⟩; obtain ⟨a1, c1, rfl⟩ := slice_form hN.1; have hd3 : Below q2.heap.size q2 w3 := (Below.refl _ q2).drew.trans (hN.2.mono (Nat.le_refl _)); obtain ⟨y0, y1, y2, y3, _⟩ := (HBX2.out.below hd3).cells; have HD3 := Lib.hid hd3; have HN3 := Lib.hid hN.1; clear hN hd3)
            all_goals
              have hnx : NewL rs w.heap.size (i + 1) (withR ls r) a1 c1 af fs.length cf w (w3.setCell ⟨w.heap.size + 1, 0, none⟩ (.slice a1 (withR ls r).length c1)) := by
                have hgg := heap_lt HBX2.out.one
                refine ⟨(HBX2.out.below HD3.out).set (by omega) 0 _, row_away (row_base HN3.out (show w.heap.size + 2 ≤ q2.heap.size by omega)) (setC_spares w3 (w.heap.size + 1) 0 _) (fun q hq => by simp at hq; omega), (HB2.out.trans (HD3.out.mono HB2.out.size)).setCell (p := ⟨w.heap.size + 1, 0, none⟩) (Nat.le_succ _) _, fun x hx => ?_, ?_, ?_, ?_⟩
                · rcases mem_withR hx with rfl | hx
                  · exact List.mem_of_getElem? HR.out
                  · exact HL.out.mem x hx
                · have := len_withR ls r
                  omega
                · rw [withR_os]
                  exact ris_with HL.out.ris _
                · rw [withR_os]
                  exact HLO.out
              have HNX := Lib.hid hnx
              clear hnx y0 y1 y2 y3 HD3 HN3 HWT x0 x1 x2 x3 c0' c1' c2' c3' c4' c5' c6'
              go_wp2
              go_roundg gg
              case measure => omega
              case rel => exact ⟨i + 1, withR ls r, a1, c1, by go_num, by omega, HNX⟩

end Go.Proofs.YtpbipngnoklmcaaGreatDoor
namespace Go.Proofs.YtpbipngnoklmcaaGreatDoor
open Go.RowKit

theorem newP_code (os : List O3) (fs : List F2) : (∃ c : Int, newP os fs = (none, c) ∧ (c == 0) = false ∧ (c != 0) = true) ∨ ∃ S, newP os fs = (some S, 0) ∧ S.fails = fs ∧ S.trace = [] := by
  unfold newP
  split
  · exact .inl ⟨1, rfl, rfl, rfl⟩
  · split
    · exact .inl ⟨2, rfl, rfl, rfl⟩
    · exact .inr ⟨_, rfl, rfl, rfl⟩
theorem loadP_len : ∀ (l m : List O3) {r : List O3}, loadP l m = some r → r.length ≤ l.length + m.length
  | [], m, r, h => by
    rw [loadP] at h
    cases h
    simp
  | o :: l, m, r, h => by
    rw [loadP] at h
    split at h
    · cases h
    · have := loadP_len l _ h
      have h2 : (withO m o).length ≤ m.length + 1 := by
        unfold withO
        have go : ∀ (q : List O3), (insO o q).length = q.length + 1 := by
          intro q
          induction q with
          | nil => rfl
          | cons x r ih =>
            rw [insO]
            split
            · rfl
            · rw [List.length_cons, ih, List.length_cons]
        rw [go]
        have : (outO m o.1 o.2.1).length ≤ m.length := List.length_filter_le _ _
        omega
      rw [List.length_cons]
      omega
theorem newP_len {os : List O3} {fs : List F2} {S : WS} {c : Int} (h : newP os fs = (some S, c)) : S.objs.length ≤ os.length := by
  unfold newP at h
  split at h
  · cases h
  · split at h
    · cases h
    · next l hl =>
      cases h
      have := loadP_len os [] hl
      simpa using this

abbrev OR := OpT × (Option Addr × Nat × Option Addr × Nat)
def oV (r : OR) : Value := .agg #[.int .i64 r.1.x.kind, .bool r.1.x.flag, str r.1.x.text, .slice r.2.1 r.1.x.items.length r.2.2.1, .slice r.2.2.2.1 r.1.x.keys.length r.2.2.2.2]
def oC (r : OR) : List Value := [.int .i64 r.1.kind, str r.1.addr, str r.1.typ, str r.1.id, str r.1.after, .int .i64 r.1.x.kind, .bool r.1.x.flag, str r.1.x.text, .slice r.2.1 r.1.x.items.length r.2.2.1, .slice r.2.2.2.1 r.1.x.keys.length r.2.2.2.2]
def opsC (rs : List OR) : List Value := rs.flatMap oC
theorem opsC_get : ∀ (rs : List OR) (i : Nat) (r : OR) (j : Nat), rs[i]? = some r → j < 10 → (opsC rs)[i * 10 + j]? = (oC r)[j]?
  | [], _, _, _, h, _ => by cases h
  | x :: rs, 0, r, j, h, hj => by
    cases h
    show (oC x ++ opsC rs)[0 * 10 + j]? = _
    rw [Nat.zero_mul, Nat.zero_add, List.getElem?_append_left (by simp only [oC, List.length_cons, List.length_nil]; omega)]
  | x :: rs, i + 1, r, j, h, hj => by
    show (oC x ++ opsC rs)[(i + 1) * 10 + j]? = _
    rw [List.getElem?_append_right (by simp only [oC, List.length_cons, List.length_nil]; omega), show (i + 1) * 10 + j - (oC x).length = i * 10 + j by simp only [oC, List.length_cons, List.length_nil]; omega]
    exact opsC_get rs i r j h hj
theorem CellsAt.op {w : World} {ao : Option Addr} {m cap : Nat} {rs : List OR} (h : CellsAt w (.slice ao m cap) rs.length (opsC rs)) {i : Nat} {r : OR} (hi : rs[i]? = some r) :
    ∃ b off, ao = some ⟨b, off, none⟩ ∧ b < w.heap.size ∧ w.cell? ⟨b, off + i * 10, none⟩ = some (.int .i64 r.1.kind) ∧ w.cell? ⟨b, off + i * 10 + 1, none⟩ = some (str r.1.addr) ∧ w.cell? ⟨b, off + i * 10 + 2, none⟩ = some (str r.1.typ) ∧ w.cell? ⟨b, off + i * 10 + 3, none⟩ = some (str r.1.id) ∧ w.cell? ⟨b, off + i * 10 + 4, none⟩ = some (str r.1.after) ∧
      w.cell? ⟨b, off + i * 10 + 5, none⟩ = some (.int .i64 r.1.x.kind) ∧ w.cell? ⟨b, off + i * 10 + 6, none⟩ = some (.bool r.1.x.flag) ∧ w.cell? ⟨b, off + i * 10 + 7, none⟩ = some (str r.1.x.text) ∧ w.cell? ⟨b, off + i * 10 + 8, none⟩ = some (.slice r.2.1 r.1.x.items.length r.2.2.1) ∧ w.cell? ⟨b, off + i * 10 + 9, none⟩ = some (.slice r.2.2.2.1 r.1.x.keys.length r.2.2.2.2) := by
  obtain ⟨_, _, hv, _, hk⟩ := h
  cases hv
  have hil : i < rs.length := (List.getElem?_eq_some_iff.1 hi).1
  obtain ⟨b, off, rfl, hl, hk⟩ := hk (by omega)
  have q : ∀ j u, j < 10 → (oC r)[j]? = some u → w.cell? ⟨b, off + i * 10 + j, none⟩ = some u := fun j u hj hu => by
    have := hk (i * 10 + j) u (by rw [opsC_get rs i r j hi hj]; exact hu)
    rw [Addr.add_lit] at this
    rw [Nat.add_assoc]
    exact this
  exact ⟨b, off, rfl, hl, q 0 _ (by omega) rfl, q 1 _ (by omega) rfl, q 2 _ (by omega) rfl, q 3 _ (by omega) rfl, q 4 _ (by omega) rfl, q 5 _ (by omega) rfl, q 6 _ (by omega) rfl, q 7 _ (by omega) rfl, q 8 _ (by omega) rfl, q 9 _ (by omega) rfl⟩
/-- A row of calls that reads as these. -/
structure OpsAt (w : World) (v : Value) (rs : List OR) : Prop where
  cells : CellsAt w v rs.length (opsC rs)
  vals : ∀ r ∈ rs, ValAt w r.1.x (oV r)
  len : ∀ r ∈ rs, r.1.addr.length ≤ 281474976710656 ∧ r.1.after.length ≤ 281474976710656 ∧ fitS r.1.typ ∧ fitS r.1.id

/-- What the law's loop holds: both worlds, the box of the document's one. -/
structure LpI (w wr : World) (p b g i n : Nat) (S : WS) (val : S8 → S8 → Value) (vf vt : Value) (D : DataW Value) (m0 m1 m2 : Value) (ms : List R3) : Prop where
  wat : WAt wr p b n S val vf vt D
  ref : RAt (wF p b vt ++ [g]) wr (.agg #[m0, m1, m2]) ms S
  box : wr.heap[g]? = some (.cells #[m0, m1, m2] 32 (0, 0))
  bel : Below w.heap.size w wr
  new : ∀ q ∈ wF p b vt, w.heap.size ≤ q
  old : w.heap.size ≤ g
  out : g ∉ wF p b vt
  tl : S.trace.length ≤ i
  ol : S.objs.length ≤ 40 + i
  nl : n ≤ 40 + i
variable {w wr w' : World} {p b g i n : Nat} {S : WS} {val : S8 → S8 → Value} {vf vt : Value} {D : DataW Value} {m0 m1 m2 : Value} {ms : List R3}
theorem LpI.below (h : LpI w wr p b g i n S val vf vt D m0 m1 m2 ms) (hb : Below wr.heap.size wr w') : LpI w w' p b g i n S val vf vt D m0 m1 m2 ms :=
  ⟨h.wat.below hb, h.ref.below hb, (hb.block _ (heap_lt h.box)).trans h.box, h.bel.trans (hb.mono h.bel.size), h.new, h.old, h.out, h.tl, h.ol, h.nl⟩
theorem LpI.all (h : LpI w wr p b g i n S val vf vt D m0 m1 m2 ms) : ∀ q ∈ wF p b vt ++ [g], w.heap.size ≤ q := fun q hq => by
  rcases List.mem_append.1 hq with hq | hq
  · exact h.new q hq
  · have : q = g := by simpa using hq
    rw [this]
    exact h.old
theorem LpI.next {e : Ending} (h : LpI w wr p b g i n S val vf vt D m0 m1 m2 ms) (hp : Played [g] p b n S vf vt wr e w') :
    ∃ (ao : Option Addr) (co : Nat) (af : Option Addr) (cf : Nat) (at' : Option Addr) (ct : Nat) (ms' : List R3) (S' : WS) (n' : Nat) (val' : S8 → S8 → Value) (vt' : Value) (D' : DataW Value), e = .returned (.tuple #[.agg #[.slice ao ms'.length co, .slice af S'.fails.length cf, .slice at' S'.trace.length ct], .bool true]) ∧ w'.heap[g]? = some (.cells #[m0, m1, m2] 32 (0, 0)) ∧
      LpI w (((w'.setCell ⟨g, 0, none⟩ (.slice ao ms'.length co)).setCell ⟨g, 1, none⟩ (.slice af S'.fails.length cf)).setCell ⟨g, 2, none⟩ (.slice at' S'.trace.length ct)) p b g (i + 1) n' S' val' vf vt' D' (.slice ao ms'.length co) (.slice af S'.fails.length cf) (.slice at' S'.trace.length ct) ms' := by
  obtain ⟨m', ms', S', n', val', vt', D', rfl, hn, hg, hW, hR, hs, hF⟩ := hp
  obtain ⟨ao, co, af, cf, at', ct, rfl, _⟩ := hR.form
  have hbox : w'.heap[g]? = some (.cells #[m0, m1, m2] 32 (0, 0)) := (hs.block g (heap_lt h.box) h.out).trans h.box
  obtain ⟨wR, hwR, xR, _, _⟩ := put_box3 hbox (.slice ao ms'.length co) (.slice af S'.fails.length cf) (.slice at' S'.trace.length ct)
  have hsR := put3_spares w' g (.slice ao ms'.length co) (.slice af S'.fails.length cf) (.slice at' S'.trace.length ct)
  rw [← hwR] at hsR
  refine ⟨ao, co, af, cf, at', ct, ms', S', n', val', vt', D', rfl, hbox, ?_⟩
  rw [← hwR]
  have b1 := Below.spared h.bel hs h.bel.size h.new
  obtain ⟨t1, t2⟩ := hg
  have tl := h.tl
  have ol := h.ol
  have nl := h.nl
  refine ⟨hW.boxed hsR fun q hq => ?_, hR.step (hsR.sub fun q hq _ => List.mem_append.2 (.inr hq)) fun q hq => .inl hq, xR, Below.spared b1 hsR b1.size fun q hq => ?_, fun q hq => ?_, h.old, fun hq => ?_, by omega, by omega, by omega⟩
  · have : q = g := by simpa using hq
    rw [this]
    exact ⟨_, _, hbox⟩
  · have : q = g := by simpa using hq
    rw [this]
    exact h.old
  · rcases hF q hq with hq | hq
    · exact h.new q hq
    · exact Nat.le_trans h.bel.size hq
  · rcases hF g hq with hq | hq
    · exact h.out hq
    · exact Nat.lt_irrefl _ (Nat.lt_of_lt_of_le (heap_lt h.box) hq)

end Go.Proofs.YtpbipngnoklmcaaGreatDoor
namespace Go.Proofs.YtpbipngnoklmcaaGreatDoor
open Go.RowKit

def noS : S8 := [110, 111]
def fsC : List F2 := [(1, noS), (2, noS), (5, noS)]
theorem fails_no : failsP fsC 1 noS = true ∧ failsP fsC 2 noS = true ∧ failsP fsC 5 noS = true := by decide
theorem fails_ne {addr : S8} (h : addr ≠ noS) (op : Int) : failsP fsC op addr = false := by
  unfold failsP fsC
  have : (noS == addr) = false := by simpa using fun e => h e.symm
  simp [this]
variable {S : WS} {addr typ after i : S8} {x y : VT}
theorem con_bad (hg : goodA x = false) : createP S addr typ after x = (S, [], 1) := by unfold createP; rw [if_pos hg]
theorem con_no (hf : S.fails = fsC) (hg : goodA x = true) : createP S noS typ after x = (noteP S 1 noS typ [] 160, [], 160) := by
  unfold createP
  rw [if_neg (by rw [hg]; simp), hf, if_pos fails_no.1]
theorem con_no_up (hf : S.fails = fsC) (hg : goodA x = true) : updateP S noS typ i x = (noteP S 2 noS typ i 160, 160) := by
  unfold updateP
  rw [if_neg (by rw [hg]; simp), hf, if_pos fails_no.2.1]
theorem con_no_del (hf : S.fails = fsC) : deleteP S noS typ i = (noteP S 5 noS typ i 160, 160) := by
  unfold deleteP
  rw [hf, if_pos fails_no.2.2]
/-- Behind Create: a new object, all else as it was. -/
theorem con_new (hf : S.fails = fsC) (hg : goodA x = true) (ha : addr ≠ noS) : ∃ S1 i, createP S addr typ after x = (S1, i, 0) ∧ S1.fails = fsC ∧ S1.trace.length = S.trace.length + 1 ∧ hasO S.objs typ i = false ∧ S1.objs = withO S.objs (typ, i, x) := by
  refine ⟨noteP (putP S (typ, newId S.objs addr typ after, x)) 1 addr typ (newId S.objs addr typ after) 0, newId S.objs addr typ after, ?_, hf, ?_, newId_free S.objs addr typ after, rfl⟩
  · unfold createP
    rw [if_neg (by rw [hg]; simp), hf, fails_ne ha, if_neg (by simp)]
  · simp [noteP, putP]
theorem con_len {l : List O3} {o : O3} (h : hasO l o.1 o.2.1 = false) : (withO l o).length = l.length + 1 := by
  have go : ∀ (q : List O3), (insO o q).length = q.length + 1 := by
    intro q
    induction q with
    | nil => rfl
    | cons x r ih =>
      rw [insO]
      split
      · rfl
      · rw [List.length_cons, ih, List.length_cons]
  unfold withO
  rw [go, out_none h]
theorem con_read {l : List O3} (hr : risO l) (o : O3) : readV (withO l o) o.1 o.2.1 = o.2.2 ∧ hasO (withO l o) o.1 o.2.1 = true := by
  have h := atO_with hr o o.1 o.2.1
  rw [if_pos (isO_self o)] at h
  refine ⟨by unfold readV; rw [h]; rfl, by rw [hasO_at, h]; rfl⟩
/-- Behind Update of what stands there. -/
theorem con_up (hf : S.fails = fsC) (hg : goodA y = true) (ha : addr ≠ noS) (hh : hasO S.objs typ i = true) : ∃ S1, updateP S addr typ i y = (S1, 0) ∧ S1.fails = fsC ∧ S1.trace.length = S.trace.length + 1 ∧ S1.objs = withO S.objs (typ, i, y) := by
  refine ⟨noteP (putP S (typ, i, y)) 2 addr typ i 0, ?_, hf, ?_, rfl⟩
  · unfold updateP
    rw [if_neg (by rw [hg]; simp), hf, fails_ne ha, if_neg (by simp), if_neg (by rw [hh]; simp)]
  · simp [noteP, putP]
theorem con_up_none (hf : S.fails = fsC) (hg : goodA y = true) (ha : addr ≠ noS) (hh : hasO S.objs typ i = false) : updateP S addr typ i y = (noteP S 2 addr typ i 4, 4) := by
  unfold updateP
  rw [if_neg (by rw [hg]; simp), hf, fails_ne ha, if_neg (by simp), if_pos hh]
theorem con_del (hf : S.fails = fsC) (ha : addr ≠ noS) : ∃ S1, deleteP S addr typ i = (S1, 0) ∧ S1.fails = fsC ∧ S1.trace.length = S.trace.length + 1 ∧ S1.objs = outO S.objs typ i := by
  refine ⟨noteP (delP S typ i) 5 addr typ i 0, ?_, hf, ?_, rfl⟩
  · unfold deleteP
    rw [hf, fails_ne ha, if_neg (by simp)]
  · simp [noteP, delP]
/-- Put anew, and put anew once more, then taken out: as it was. -/
theorem con_back {l : List O3} (hr : risO l) {t i : S8} {x y : VT} (h : hasO l t i = false) : outO (withO (withO l (t, i, x)) (t, i, y)) t i = l := by
  refine ris_ext (ris_out (ris_with (ris_with hr _) _) _ _) hr fun z => ?_
  rw [mem_outO, mem_withO, mem_withO]
  have hz : z ∈ l → isO t i z = false := fun hz => by
    cases hh : isO t i z with
    | false => rfl
    | true =>
      have : hasO l t i = true := by
        unfold hasO
        exact List.any_eq_true.2 ⟨z, hz, hh⟩
      rw [h] at this
      cases this
  have e1 : isO t i (t, i, x) = true := isO_self (t, i, x)
  have e2 : isO t i (t, i, y) = true := isO_self (t, i, y)
  constructor
  · rintro ⟨rfl | ⟨rfl | ⟨k, _⟩, _⟩, k2⟩
    · rw [e2] at k2; cases k2
    · rw [e1] at k2; cases k2
    · exact k
  · intro k
    exact ⟨.inr ⟨.inr ⟨k, hz k⟩, hz k⟩, hz k⟩
def moreV : VT := putR noneV [107] (.mk 3 false (Lib.itoa 1) [] [])
theorem itoa_one : Lib.itoa 1 = [49] := by
  simp [Lib.itoa]
  first | rfl | decide | (rw [Lib.decDigits]; simp; done) | (unfold Lib.decDigits; simp; done) | (unfold Lib.decDigits; rfl)
theorem moreV_is : moreV = .mk 6 false [] [.mk 3 false [49] [] []] [[107]] := by
  unfold moreV
  rw [itoa_one]
  rfl
theorem more_good : goodA moreV = true := by
  rw [moreV_is]
  simp [goodA, goodV, sizeV, sizeL, deepV, plainV, plainL, nodeOk, aOk, bOk, knownV, knownL, VT.kind]
  refine ⟨by decide, by decide, by decide⟩

end Go.Proofs.YtpbipngnoklmcaaGreatDoor
