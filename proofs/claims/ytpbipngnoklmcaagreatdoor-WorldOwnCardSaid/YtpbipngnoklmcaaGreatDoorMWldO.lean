/- The walk of New. Plain: the document's rows of objects, each with the addresses of its parts. No walk. -/
import Derived.Test.YtpbipngnoklmcaaGreatDoorMWldF
import Derived.Carry
namespace Go.Proofs.YtpbipngnoklmcaaGreatDoor
open Go.RowKit
set_option maxRecDepth 100000
attribute [local go_sem] str_size str_toList str_get

def NewPost (os : List O3) (fs : List F2) (w : World) (e : Ending) (w' : World) : Prop :=
  Below w.heap.size w w' ∧ match newP os fs with
  | (none, c) => e = .returned (.tuple #[.pointer none, .int .i64 c])
  | (some S, c) => ∃ p b n val vf vt D, e = .returned (.tuple #[.pointer (some ⟨p, 0, none⟩), .int .i64 c]) ∧ n ≤ os.length ∧ WAt w' p b n S val vf vt D ∧ ∀ q ∈ wF p b vt, w.heap.size ≤ q
theorem NewPost.bad {os : List O3} {fs : List F2} {w w' : World} (hb : Below w.heap.size w w') (h : (os.all fun o => goodA o.2.2) = false) : NewPost os fs w (.returned (.tuple #[.pointer none, .int .i64 1])) w' := by
  refine ⟨hb, ?_⟩
  unfold newP
  rw [if_pos h]
theorem NewPost.twice {os : List O3} {fs : List F2} {w w' : World} (hb : Below w.heap.size w w') (h : (os.all fun o => goodA o.2.2) = true) (hl : loadP os [] = none) : NewPost os fs w (.returned (.tuple #[.pointer none, .int .i64 2])) w' := by
  refine ⟨hb, ?_⟩
  unfold newP
  rw [if_neg (by simp [h]), hl]
theorem NewPost.good {os : List O3} {fs : List F2} {w w' : World} {l : List O3} {p b n : Nat} {val : S8 → S8 → Value} {vf vt : Value} {D : DataW Value} (hb : Below w.heap.size w w') (h : (os.all fun o => goodA o.2.2) = true) (hl : loadP os [] = some l)
    (hn : n ≤ os.length) (hW : WAt w' p b n ⟨l, fs, []⟩ val vf vt D) (hF : ∀ q ∈ wF p b vt, w.heap.size ≤ q) : NewPost os fs w (.returned (.tuple #[.pointer (some ⟨p, 0, none⟩), .int .i64 0])) w' := by
  refine ⟨hb, ?_⟩
  unfold newP
  rw [if_neg (by simp [h]), hl]
  exact ⟨p, b, n, val, vf, vt, D, rfl, hn, hW, hF⟩

theorem row_zero {w : World} {base e size n : Nat} {v : Value} {xs : List Value} (h : w.ownsRow base e size v n xs) : w.ownsRow 0 e size v n xs := by
  refine ⟨h.1, ?_⟩
  rcases h.2 with h2 | ⟨g, cap, cur, h1, hg, r⟩
  · exact .inl h2
  · exact .inr ⟨g, cap, cur, h1, Nat.zero_le _, r⟩
theorem row_ge {w : World} {base e size n : Nat} {v : Value} {xs : List Value} (h : w.ownsRow base e size v n xs) {q : Nat} (hq : v.ownBlock = some q) : base ≤ q := by
  rcases h.2 with ⟨rfl, _⟩ | ⟨g, cap, cur, rfl, hg, _⟩
  · cases hq
  · cases hq
    exact hg
/-- A new world, empty yet. -/
theorem WAt.made {w1 : World} {B0 base : Nat} {fs : List F2} {vf : Value} (val : S8 → S8 → Value) (hown : w1.ownsRow base 52 2 vf fs.length (failCells fs)) (hm : w1.ownsMap Tryz.prog 78 heldR B0 0 (.map [])) :
    WAt (w1.alloc (.cells #[.map (some B0), vf, .slice none 0 0] 74)) w1.heap.size B0 0 ⟨[], fs, []⟩ val vf (.slice none 0 0) (.map []) := by
  have hb := (Below.refl w1.heap.size w1).alloc (Nat.le_refl _) (.cells #[.map (some B0), vf, .slice none 0 0] 74)
  refine ⟨heap_alloc_new _ _, map_keep hm (hb.block _ hm.lt), MapRel.nil val, List.Pairwise.nil, (fun o ho => by cases ho), (fun o ho => by cases ho), row_zero (row_keep hown fun q hq => ?_), World.ownsRow_nil _ _ _ _⟩
  obtain ⟨_, hh⟩ := row_block hown hq
  exact hb.block _ (heap_lt hh)

set_option maxHeartbeats 8000000 in
theorem new_w (os : List O3) (fs : List F2) (v vf : Value) (w : World) (h : ObjsAt w v os) (hf : CellsAt w vf fs.length (failCells fs)) (hl : os.length ≤ 100000) (hfl : fs.length ≤ 1000000) (_hE : ErrW w) (_hT : TabW w) :
    Calls Tryz.prog 7 #[v, vf] w (NewPost os fs w) := by
  have mixed : Tryz.prog.follows .mixedOrders = true := by kernel_rfl
  have H := Lib.hid h
  obtain ⟨ao, cap, rfl, hm, _⟩ := h
  have HF := Lib.hid hf
  obtain ⟨aof, capf, rfl, _⟩ := hf
  obtain ⟨w0, hw0⟩ : ∃ w0, w0 = w.alloc (.map #[] 0) := ⟨_, rfl⟩
  have hb0 : Below w.heap.size w w0 := by rw [hw0]; exact (Below.refl _ w).alloc (Nat.le_refl _) _
  have CF := clone_fails _ fs.length (failCells fs) w0 (HF.out.mono hb0) (fail_len fs) (fail_one fs) hfl
  have CB := fun W (hW : Below w.heap.size w W) => contains_objs os _ W (H.out.mono hW)
  have mk := run_makeMap (P := Tryz.prog) 71 w
  rw [← hw0] at mk
  have hmap0 : w0.ownsMap Tryz.prog 78 heldR w.heap.size 0 (.map []) := by rw [hw0]; exact World.ownsMap_made w _ _ _
  have hB0 : w.heap.size ≤ w.heap.size := Nat.le_refl _
  obtain ⟨B0, hB0e⟩ : ∃ B0, w.heap.size = B0 := ⟨_, rfl⟩
  rw [hB0e] at mk hmap0
  rename_i hx1 hx2
  clear hx1 hx2 hw0
  go_enter Tryz.func7, Tryz.ntmps7
  go_wp2_with fail
  refine CF.mono ?_
  rintro e w1 ⟨v1, rfl, hown, hb1⟩
  obtain ⟨a1, c1, rfl⟩ := slice_form hown
  have hmap1 := map_keep hmap0 (hb1.block _ hmap0.lt)
  have hW2 := WAt.made (fun _ _ => undef) hown hmap1
  have hb2 := (hb0.trans (hb1.mono hb0.size)).trans (((Below.refl w1.heap.size w1).alloc (Nat.le_refl _) (.cells #[.map (some B0), .slice a1 fs.length c1, .slice none 0 0] 74)).mono (Nat.le_trans hb0.size hb1.size))
  have hfr : ∀ q ∈ wF w1.heap.size B0 (.slice none 0 0), w.heap.size ≤ q := by
    intro q hq
    simp [wF, Value.ownBlock] at hq
    have := hb0.size
    have := hb1.size
    rcases hq with rfl | rfl <;> omega
  obtain ⟨w2, hw2⟩ : ∃ w2, w2 = w1.alloc (.cells #[.map (some B0), .slice a1 fs.length c1, .slice none 0 0] 74) := ⟨_, rfl⟩
  obtain ⟨p, hp⟩ : ∃ p, w1.heap.size = p := ⟨_, rfl⟩
  rw [hp] at hW2 hfr
  rw [← hw2] at hW2 hb2
  have HW2 := Lib.hid hW2
  have HFR := Lib.hid hfr
  have CB2 := CB w2 hb2
  obtain ⟨g, hg⟩ : ∃ g, (os.all fun o => goodA o.2.2) = g := ⟨_, rfl⟩
  rw [hg] at CB2
  have HG := Lib.hid hg
  clear hW2 hfr hmap1 hmap0 hown hb1 CF CB mk hg hB0
  go_wp2_with fail
  rw [← hw2]
  clear hw2 hp
  refine CB2.mono ?_
  rintro e w3 ⟨rfl, hb3⟩
  have hb3w := hb2.trans (hb3.mono hb2.size)
  have HW3 := Lib.hid (HW2.out.below hb3)
  clear CB2 hb3 hb2 HW2
  cases g with
  | false =>
    go_wp2
    go_ret2
    exact NewPost.bad hb3w HG.out
  | true =>
    go_wp2
    go_loopg [21] os.length (fun gg v21 wr => ∃ (i : Nat) (l : List O3) (val : S8 → S8 → Value) (D : DataW Value), v21 = .int .i64 i ∧ i + gg = os.length ∧ Hid (loadP (os.drop i) l = loadP os []) ∧ Hid (WAt wr p B0 i ⟨l, fs, []⟩ val (.slice a1 fs.length c1) (.slice none 0 0) D) ∧ Below w.heap.size w wr)
    case atStart => exact ⟨0, [], _, _, rfl, by omega, rfl, HW3, hb3w⟩
    case round =>
      obtain ⟨i, l, val, D, rfl, hig, HL, HW, hbr⟩ := hrel
      cases gk with
      | zero =>
        obtain rfl : i = os.length := by omega
        have hlo := HL.out
        rw [List.drop_length] at hlo
        have HLO := Lib.hid hlo
        clear hlo
        go_wp2
        go_ret2
        exact NewPost.good hbr HG.out HLO.out.symm (Nat.le_refl _) HW.out HFR.out
      | succ gg =>
        have hin : i < os.length := by omega
        have hie : (i : Int) < (os.length : Int) := by omega
        obtain ⟨_, _, hv0, _, hfit, hk⟩ := H.out
        cases hv0
        obtain ⟨b, off, rfl, hlt, hk⟩ := hk (by rintro rfl; simp at hin)
        obtain ⟨t, j, x, hox⟩ : ∃ t j x, os[i] = (t, j, x) := ⟨_, _, _, rfl⟩
        have hmem : (t, j, x) ∈ os := by rw [← hox]; exact List.getElem_mem hin
        obtain ⟨ft, fj⟩ := hfit _ hmem
        have hgx : goodA x = true := List.all_eq_true.1 HG.out _ hmem
        obtain ⟨ai, ci, ak, ck, hx, k0, k1, k2, k3, k4, k5, k6⟩ := hk i t j x (by rw [List.getElem?_eq_getElem hin, hox])
        have q : ∀ {o : Nat} {u : Value}, w.cell? ⟨b, o, none⟩ = some u → wr.cell? ⟨b, o, none⟩ = some u := fun {o u} hu => (hbr.cell (p := ⟨b, o, none⟩) hlt).trans hu
        have k0 := q k0
        have k1 := q k1
        have k2 := q k2
        have k3 := q k3
        have k4 := q k4
        have k5 := q k5
        have k6 := q k6
        have hld : loadP (os.drop i) l = if hasO l t j = true then none else loadP (os.drop (i + 1)) (withO l (t, j, x)) := by
          rw [List.drop_eq_getElem_cons hin, hox]
          rfl
        rw [HL.out] at hld
        obtain ⟨V, hlk, _, _, vk0, vf0, vt0, va0, vn0, vc0, va1, vn1, vc1, rfl⟩ := HW.out.look ft fj
        simp only [show nameV t j = .agg #[str t, str j] from rfl] at hlk
        have HLK := Lib.hid hlk
        have HLD := Lib.hid hld
        have HX := Lib.hid hx
        obtain ⟨w5, hw5⟩ : ∃ w5, w5 = wr.alloc (.cells #[.string ⟨t.toArray⟩, .string ⟨j.toArray⟩, .int .i64 x.kind, .bool x.flag, .string ⟨x.text.toArray⟩, .slice ai x.items.length ci, .slice ak x.keys.length ck] 47) := ⟨_, rfl⟩
        obtain ⟨w6, hw6⟩ : ∃ w6, w6 = w5.alloc (.cells #[.string ⟨t.toArray⟩, .string ⟨j.toArray⟩] 78) := ⟨_, rfl⟩
        have n5 : w5.heap[wr.heap.size]? = some (.cells #[str t, str j, .int .i64 x.kind, .bool x.flag, str x.text, .slice ai x.items.length ci, .slice ak x.keys.length ck] 47 (0, 0)) := by rw [hw5]; exact heap_alloc_new _ _
        have s5 : w5.heap.size = wr.heap.size + 1 := by rw [hw5]; simp only [World.alloc, Array.size_push]
        have n6 : w6.heap[w5.heap.size]? = some (.cells #[str t, str j] 78 (0, 0)) := by rw [hw6]; exact heap_alloc_new _ _
        have b5 : Below wr.heap.size wr w5 := by rw [hw5]; exact (Below.refl _ wr).alloc (Nat.le_refl _) _
        have b6 : Below w5.heap.size w5 w6 := by rw [hw6]; exact (Below.refl _ w5).alloc (Nat.le_refl _) _
        have o6 := (b6.block _ (heap_lt n5)).trans n5
        have br6 := b5.trans (b6.mono b5.size)
        have bw6 := hbr.trans (br6.mono hbr.size)
        obtain ⟨O, hO⟩ : ∃ O, wr.heap.size = O := ⟨_, rfl⟩
        rw [s5] at n6
        have hOw : w.heap.size ≤ O := by rw [← hO]; exact hbr.size
        have hOl : O + 1 < w6.heap.size := by rw [← hO]; exact heap_lt n6
        rw [hO] at n6 o6
        have H6 := Lib.hid (HW.out.below br6)
        have HN6 := Lib.hid n6
        have HO6 := Lib.hid o6
        have HB6 := Lib.hid bw6
        clear q hk hox hx hfit hmem HL hlk hld n5 s5 b5 b6 br6 bw6 HW
        go_upto_region 8 with fail
        rw [← hw5]
        try rw [← hw6]
        try rw [hO]
        have g0 : w6.cell? ⟨O + 1, 0, none⟩ = some (str t) := by rw [Lib.cell_of_heap n6]; rfl
        have g1 : w6.cell? ⟨O + 1, 1, none⟩ = some (str j) := by rw [Lib.cell_of_heap n6]; rfl
        have c6 : w6.cell? ⟨p, 0, none⟩ = some (.map (some B0)) := by rw [Lib.cell_of_heap H6.out.box]; rfl
        have hp6 := heap_lt H6.out.box
        have hp6n : ¬ w6.heap.size = p := by omega
        have hp6m : ¬ p = w6.heap.size := by omega
        have hN6n : ¬ w6.heap.size = O + 1 := by omega
        have hN6m : ¬ O + 1 = w6.heap.size := by omega
        obtain ⟨B, hB⟩ : ∃ B, hasO l t j = B := ⟨_, rfl⟩
        rw [hB] at HLK HLD
        have HMO := Lib.hid (fun W (hW : Below w6.heap.size w6 W) => (H6.out.below hW).map)
        clear hw5 hw6 hO n6 o6 k0 k1 k2 k3 k4 k5 k6 hB
        go_cut [10, 11] from 30 to 39 (fun s10 s11 wx => s11 = .bool B ∧ Hid (Below w6.heap.size w6 wx))
        case first =>
          have T1 := HLK.out _ (HMO.out _ ((Below.refl _ w6).drew))
          have T2 := fun o => HLK.out _ (HMO.out _ (((Below.refl _ w6).alloc (Nat.le_refl _) o).drew))
          obtain ⟨z0, z1, z2, z3, z4, y0, y1, y2, y3, y4⟩ := free5 (heap_alloc_new w6 (.cells #[.int .i64 0, .bool false, .string ⟨#[]⟩, .slice none 0 0, .slice none 0 0] 41))
          go_region_law_o fail
          all_goals (try go_wp2)
          all_goals go_meet
          all_goals exact ⟨rfl, ((Below.refl _ w6).alloc (Nat.le_refl _) _).drew⟩
        case rest =>
          obtain ⟨rfl, HW⟩ := hcut
          clear g0 g1 c6 HMO hp6 hp6n hp6m hN6n hN6m HLK
          have hbc := HB6.out.trans (HW.out.mono HB6.out.size)
          cases B with
          | true =>
            have hlo := HLD.out
            rw [if_pos rfl] at hlo
            have HLO := Lib.hid hlo
            clear hlo HLD
            go_wp2
            go_ret2
            exact NewPost.twice hbc HG.out HLO.out
          | false =>
            have hlo := HLD.out
            rw [if_neg (by simp)] at hlo
            have HLO := Lib.hid hlo.symm
            clear hlo HLD
            obtain ⟨hfv, hsz⟩ := goodA_facts hgx
            have h6c := HW.out
            have qn : ∀ {q o : Nat} {u : Value}, q < w6.heap.size → w6.cell? ⟨q, o, none⟩ = some u → wc.cell? ⟨q, o, none⟩ = some u := fun {q o u} hq hu => (h6c.cell (p := ⟨q, o, none⟩) hq).trans hu
            have g0 : wc.cell? ⟨O + 1, 0, none⟩ = some (str t) := qn (heap_lt HN6.out) (by rw [Lib.cell_of_heap HN6.out]; rfl)
            have g1 : wc.cell? ⟨O + 1, 1, none⟩ = some (str j) := qn (heap_lt HN6.out) (by rw [Lib.cell_of_heap HN6.out]; rfl)
            have o2 : wc.cell? ⟨O, 2, none⟩ = some (.int .i64 x.kind) := qn (heap_lt HO6.out) (by rw [Lib.cell_of_heap HO6.out]; rfl)
            have o3 : wc.cell? ⟨O, 3, none⟩ = some (.bool x.flag) := qn (heap_lt HO6.out) (by rw [Lib.cell_of_heap HO6.out]; rfl)
            have o4 : wc.cell? ⟨O, 4, none⟩ = some (str x.text) := qn (heap_lt HO6.out) (by rw [Lib.cell_of_heap HO6.out]; rfl)
            have o5 : wc.cell? ⟨O, 5, none⟩ = some (.slice ai x.items.length ci) := qn (heap_lt HO6.out) (by rw [Lib.cell_of_heap HO6.out]; rfl)
            have o6 : wc.cell? ⟨O, 6, none⟩ = some (.slice ak x.keys.length ck) := qn (heap_lt HO6.out) (by rw [Lib.cell_of_heap HO6.out]; rfl)
            have hWc := H6.out.below h6c
            have c6 : wc.cell? ⟨p, 0, none⟩ = some (.map (some B0)) := by rw [Lib.cell_of_heap hWc.box]; rfl
            have HWC := Lib.hid hWc
            have HBC := Lib.hid hbc
            have hnc : wc.heap[O + 1]? = some (.cells #[str t, str j] 78 (0, 0)) := (h6c.block _ (heap_lt HN6.out)).trans HN6.out
            have HCL := Lib.hid (fun W (hW : Below wc.heap.size wc W) => clone_val x _ W (HX.out.mono (hbc.trans (hW.mono hbc.size))) hfv (by omega : sizeV x ≤ 1000000))
            have HAF := Lib.hid (fun W (hW : Below wc.heap.size wc W) => (⟨hWc.below hW, hbc.trans (hW.mono hbc.size), (hW.block _ (heap_lt hnc)).trans hnc⟩ : WAt W p B0 i ⟨l, fs, []⟩ val (.slice a1 fs.length c1) (.slice none 0 0) D ∧ Below w.heap.size w W ∧ W.heap[O + 1]? = some (.cells #[str t, str j] 78 (0, 0))))
            have hst : ∀ W v F, WAt W p B0 i ⟨l, fs, []⟩ val (.slice a1 fs.length c1) (.slice none 0 0) D → OwnVal W x v F → ∃ w', (Instr.mapUpdate 71 (.map (some B0)) (.agg #[str t, str j]) v).run Tryz.prog W = .ok () w' ∧ (WAt w' p B0 (i + 1) ⟨withO l (t, j, x), fs, []⟩ (putVal val t j v) (.slice a1 fs.length c1) (.slice none 0 0) (D.put (klW t j) (.held v)) ∧ Spares [B0] W w') := fun W v F h1 h2 => h1.store (by unfold maxLen; omega) ft fj hgx h2
            have HST := Lib.hid hst
            have hB0w : w.heap.size ≤ B0 := HFR.out B0 (by simp [wF])
            clear hst qn h6c hWc hbc hnc HX H6 HB6 HN6 HO6 HW hfv hsz
            go_upto_region 11 with fail
            go_region_law_o (go_simp; go_at_call 30; refine (HCL.out _ (Below.refl _ wc).drew).mono ?_; rintro e w1 ⟨v1, F1, rfl, hov, hnd, hge, hb1⟩; obtain ⟨si, sc, sk, sd, rfl⟩ := hov.at.form; have hb2 : Below wc.heap.size wc w1 := (Below.refl _ wc).drew.trans (hb1.mono (Nat.le_refl _)); obtain ⟨a1, a2, a3⟩ := HAF.out _ hb2; have d0 : w1.cell? ⟨O + 1, 0, none⟩ = some (str t) := (by rw [Lib.cell_of_heap a3]; rfl); have d1 : w1.cell? ⟨O + 1, 1, none⟩ = some (str j) := (by rw [Lib.cell_of_heap a3]; rfl); have d6 : w1.cell? ⟨p, 0, none⟩ = some (.map (some B0)) := (by rw [Lib.cell_of_heap a1.box]; rfl); obtain ⟨w5, hr5, hW5', hs5'⟩ := HST.out _ _ _ a1 hov; have hW5 := Lib.hid hW5'; have hs5 := Lib.hid hs5'; have HA1 := Lib.hid a2; clear hov hnd hge hb1 hb2 a1 a2 a3 hW5' hs5')
            all_goals
              have HY := Lib.hid (⟨hW5.out, Below.spared HA1.out hs5.out HA1.out.size (fun k hk => by simp at hk; omega)⟩ : WAt w5 p B0 (i + 1) ⟨withO l (t, j, x), fs, []⟩ _ (.slice a1 fs.length c1) (.slice none 0 0) _ ∧ Below w.heap.size w w5)
              clear hW5 hs5 hr5 HA1 HST HAF HCL d0 d1 d6 g0 g1 c6 o2 o3 o4 o5 o6
              go_wp2
              go_roundg gg
              case measure => omega
              case rel => exact ⟨i + 1, withO l (t, j, x), _, _, by go_num, by omega, HLO, Lib.hid HY.out.1, HY.out.2⟩

end Go.Proofs.YtpbipngnoklmcaaGreatDoor
namespace Go.Proofs.YtpbipngnoklmcaaGreatDoor
open Go.RowKit
set_option maxRecDepth 100000

/-- An object with the addresses and capacities of its items and its keys. -/
abbrev R3 := O3 × (Option Addr × Nat × Option Addr × Nat)
def rV (r : R3) : Value := .agg #[.int .i64 r.1.2.2.kind, .bool r.1.2.2.flag, str r.1.2.2.text, .slice r.2.1 r.1.2.2.items.length r.2.2.1, .slice r.2.2.2.1 r.1.2.2.keys.length r.2.2.2.2]
def rcells (r : R3) : List Value := [str r.1.1, str r.1.2.1, .int .i64 r.1.2.2.kind, .bool r.1.2.2.flag, str r.1.2.2.text, .slice r.2.1 r.1.2.2.items.length r.2.2.1, .slice r.2.2.2.1 r.1.2.2.keys.length r.2.2.2.2]
def rowC (rs : List R3) : List Value := rs.flatMap rcells
def outR (rs : List R3) (t i : S8) : List R3 := rs.filter fun r => !isO t i r.1
def insR (r : R3) : List R3 → List R3
  | [] => [r]
  | x :: l => if ltO r.1 x.1 = true then r :: x :: l else x :: insR r l
def withR (rs : List R3) (r : R3) : List R3 := insR r (outR rs r.1.1 r.1.2.1)
def osR (rs : List R3) : List O3 := rs.map fun r => r.1

theorem outR_os (rs : List R3) (t i : S8) : osR (outR rs t i) = outO (osR rs) t i := by
  unfold osR outR outO
  rw [List.filter_map]
  rfl
theorem insR_os (r : R3) : ∀ (l : List R3), osR (insR r l) = insO r.1 (osR l)
  | [] => rfl
  | x :: l => by
    show osR (if ltO r.1 x.1 = true then r :: x :: l else x :: insR r l) = if ltO r.1 x.1 = true then r.1 :: x.1 :: osR l else x.1 :: insO r.1 (osR l)
    split
    · rfl
    · rw [← insR_os r l]
      rfl
theorem withR_os (rs : List R3) (r : R3) : osR (withR rs r) = withO (osR rs) r.1 := by
  unfold withR withO
  rw [insR_os, outR_os]
theorem mem_insR {r x : R3} : ∀ {l : List R3}, x ∈ insR r l ↔ x = r ∨ x ∈ l
  | [] => by simp [insR]
  | y :: l => by
    rw [insR]
    split
    · simp
    · rw [List.mem_cons, mem_insR (l := l), List.mem_cons]
      constructor
      · rintro (h | h | h)
        · exact .inr (.inl h)
        · exact .inl h
        · exact .inr (.inr h)
      · rintro (h | h | h)
        · exact .inr (.inl h)
        · exact .inl h
        · exact .inr (.inr h)
theorem mem_outR {rs : List R3} {t i : S8} {x : R3} (h : x ∈ outR rs t i) : x ∈ rs := (List.mem_filter.1 h).1
theorem mem_withR {rs : List R3} {r x : R3} (h : x ∈ withR rs r) : x = r ∨ x ∈ rs := (mem_insR.1 h).imp id mem_outR
theorem len_outR (rs : List R3) (t i : S8) : (outR rs t i).length ≤ rs.length := List.length_filter_le _ _
theorem len_insR (r : R3) : ∀ (l : List R3), (insR r l).length = l.length + 1
  | [] => rfl
  | x :: l => by
    rw [insR]
    split
    · rfl
    · rw [List.length_cons, len_insR r l, List.length_cons]
theorem len_withR (rs : List R3) (r : R3) : (withR rs r).length ≤ rs.length + 1 := by
  unfold withR
  rw [len_insR]
  have := len_outR rs r.1.1 r.1.2.1
  omega
theorem osR_len (rs : List R3) : (osR rs).length = rs.length := by unfold osR; rw [List.length_map]
theorem osR_get (rs : List R3) (i : Nat) : (osR rs)[i]? = rs[i]?.map fun r => r.1 := by unfold osR; rw [List.getElem?_map]
theorem rowC_len (rs : List R3) : (rowC rs).length = rs.length * 7 := by
  unfold rowC
  induction rs with
  | nil => rfl
  | cons r l ih => rw [List.flatMap_cons, List.length_append, ih, List.length_cons]; simp only [rcells, List.length_cons, List.length_nil]; omega
theorem rowC_one (rs : List R3) : ∀ u ∈ rowC rs, u.oneCell' = true := by
  intro u hu
  unfold rowC at hu
  obtain ⟨r, _, hu⟩ := List.mem_flatMap.1 hu
  simp only [rcells, List.mem_cons, List.not_mem_nil, or_false] at hu
  rcases hu with rfl | rfl | rfl | rfl | rfl | rfl | rfl <;> rfl
theorem rowC_append (a b : List R3) : rowC (a ++ b) = rowC a ++ rowC b := by simp [rowC]
theorem rowC_snoc (a : List R3) (r : R3) : rowC (a ++ [r]) = rowC a ++ rcells r := by simp [rowC]
theorem rowC_get : ∀ (rs : List R3) (i : Nat) (r : R3) (j : Nat), rs[i]? = some r → j < 7 → (rowC rs)[i * 7 + j]? = (rcells r)[j]?
  | [], _, _, _, h, _ => by cases h
  | x :: rs, 0, r, j, h, hj => by
    cases h
    show (rcells x ++ rowC rs)[0 * 7 + j]? = _
    rw [Nat.zero_mul, Nat.zero_add, List.getElem?_append_left (by simp only [rcells, List.length_cons, List.length_nil]; omega)]
  | x :: rs, i + 1, r, j, h, hj => by
    have ih := rowC_get rs i r j h hj
    show (rcells x ++ rowC rs)[(i + 1) * 7 + j]? = _
    rw [List.getElem?_append_right (by simp only [rcells, List.length_cons, List.length_nil]; omega), ← ih]
    congr 1
    simp only [rcells, List.length_cons, List.length_nil]
    omega
/-- What a cell of a row of objects holds. -/
theorem CellsAt.obj {w : World} {ao : Option Addr} {m cap : Nat} {rs : List R3} (h : CellsAt w (.slice ao m cap) rs.length (rowC rs)) {i : Nat} {r : R3} (hi : rs[i]? = some r) :
    ∃ b off, ao = some ⟨b, off, none⟩ ∧ b < w.heap.size ∧ w.cell? ⟨b, off + i * 7, none⟩ = some (str r.1.1) ∧ w.cell? ⟨b, off + i * 7 + 1, none⟩ = some (str r.1.2.1) ∧ w.cell? ⟨b, off + i * 7 + 2, none⟩ = some (.int .i64 r.1.2.2.kind) ∧ w.cell? ⟨b, off + i * 7 + 3, none⟩ = some (.bool r.1.2.2.flag) ∧
      w.cell? ⟨b, off + i * 7 + 4, none⟩ = some (str r.1.2.2.text) ∧ w.cell? ⟨b, off + i * 7 + 5, none⟩ = some (.slice r.2.1 r.1.2.2.items.length r.2.2.1) ∧ w.cell? ⟨b, off + i * 7 + 6, none⟩ = some (.slice r.2.2.2.1 r.1.2.2.keys.length r.2.2.2.2) := by
  obtain ⟨_, _, hv, _, hk⟩ := h
  cases hv
  have hil : i < rs.length := (List.getElem?_eq_some_iff.1 hi).1
  obtain ⟨b, off, rfl, hl, hk⟩ := hk (by omega)
  have q : ∀ j u, j < 7 → (rcells r)[j]? = some u → w.cell? ⟨b, off + i * 7 + j, none⟩ = some u := fun j u hj hu => by
    have := hk (i * 7 + j) u (by rw [rowC_get rs i r j hi hj]; exact hu)
    rw [Addr.add_lit] at this
    rw [Nat.add_assoc]
    exact this
  exact ⟨b, off, rfl, hl, q 0 _ (by omega) rfl, q 1 _ (by omega) rfl, q 2 _ (by omega) rfl, q 3 _ (by omega) rfl, q 4 _ (by omega) rfl, q 5 _ (by omega) rfl, q 6 _ (by omega) rfl⟩

/-- A row of objects that reads as these: each with its addresses. -/
theorem ObjsAt.rows {w : World} {v : Value} {os : List O3} (h : ObjsAt w v os) : ∃ rs, osR rs = os ∧ CellsAt w v rs.length (rowC rs) ∧ ∀ r ∈ rs, ValAt w r.1.2.2 (rV r) := by
  obtain ⟨ao, cap, rfl, hm, _, hk⟩ := h
  by_cases hne : os = []
  · subst hne
    refine ⟨[], rfl, ⟨ao, cap, rfl, hm, fun h => absurd rfl h⟩, fun r hr => by cases hr⟩
  · obtain ⟨b, off, rfl, hl, hk⟩ := hk hne
    have each : ∀ i, i < os.length → ∃ r : R3, os[i]? = some r.1 ∧ ValAt w r.1.2.2 (rV r) ∧ ∀ j u, (rcells r)[j]? = some u → w.cell? ⟨b, off + i * 7 + j, none⟩ = some u := fun i hi => by
      obtain ⟨t, j, x, hx⟩ : ∃ t j x, os[i] = (t, j, x) := ⟨_, _, _, rfl⟩
      have hg : os[i]? = some (t, j, x) := by rw [List.getElem?_eq_getElem hi, hx]
      obtain ⟨ai, ci, ak, ck, h0, h1, h2, h3, h4, h5, h6, h7⟩ := hk i t j x hg
      refine ⟨((t, j, x), (ai, ci, ak, ck)), hg, h0, fun q u hu => ?_⟩
      match q, hu with
      | 0, hu => cases hu; exact h1
      | 1, hu => cases hu; exact h2
      | 2, hu => cases hu; exact h3
      | 3, hu => cases hu; exact h4
      | 4, hu => cases hu; exact h5
      | 5, hu => cases hu; exact h6
      | 6, hu => cases hu; exact h7
      | q + 7, hu => simp [rcells] at hu
    obtain ⟨f, hf⟩ := Deep.choose_lt each
    have hos : osR ((List.range os.length).map f) = os := by
      refine List.ext_getElem? fun i => ?_
      rw [osR_get]
      by_cases hi : i < os.length
      · rw [(hf i hi).1]
        simp [hi]
      · simp [Nat.le_of_not_lt hi]
    have hlen : ((List.range os.length).map f).length = os.length := by simp
    refine ⟨(List.range os.length).map f, hos, ⟨_, cap, by rw [hlen], by rw [hlen]; exact hm, fun _ => ⟨b, off, rfl, hl, fun j u hu => ?_⟩⟩, fun r hr => ?_⟩
    · have hj : j < os.length * 7 := by
        have := (List.getElem?_eq_some_iff.1 hu).1
        rw [rowC_len, hlen] at this
        exact this
      have hi : j / 7 < os.length := by omega
      have hjj : j = j / 7 * 7 + j % 7 := by omega
      have hgi : ((List.range os.length).map f)[j / 7]? = some (f (j / 7)) := by simp [hi]
      rw [hjj, rowC_get _ (j / 7) _ (j % 7) hgi (by omega)] at hu
      have := (hf (j / 7) hi).2.2 (j % 7) u hu
      rw [Addr.add_lit]
      rw [show off + j = off + j / 7 * 7 + j % 7 by omega]
      exact this
    · obtain ⟨i, hi, rfl⟩ := List.mem_map.1 hr
      exact (hf i (by simpa using hi)).2.1
theorem objs_of_rows {w : World} {v : Value} {rs : List R3} (h : CellsAt w v rs.length (rowC rs)) (hv : ∀ r ∈ rs, ValAt w r.1.2.2 (rV r)) (hf : fitO (osR rs)) : ObjsAt w v (osR rs) := by
  have h0 := h
  obtain ⟨ao, cap, rfl, hm, hk⟩ := h
  refine ⟨ao, cap, by rw [osR_len], by rw [osR_len]; exact hm, hf, fun hne => ?_⟩
  have hl : rs.length ≠ 0 := fun e => hne (by rw [List.eq_nil_of_length_eq_zero e]; rfl)
  obtain ⟨b, off, rfl, hlt, _⟩ := hk hl
  refine ⟨b, off, rfl, hlt, fun i t j x hi => ?_⟩
  rw [osR_get] at hi
  obtain ⟨r, hr, he⟩ := Option.map_eq_some_iff.1 hi
  obtain ⟨b', off', hb, _, g⟩ := h0.obj hr
  cases hb
  obtain ⟨⟨t', j', x'⟩, ai, ci, ak, ck⟩ := r
  cases he
  exact ⟨ai, ci, ak, ck, hv _ (List.mem_of_getElem? hr), g⟩

end Go.Proofs.YtpbipngnoklmcaaGreatDoor
