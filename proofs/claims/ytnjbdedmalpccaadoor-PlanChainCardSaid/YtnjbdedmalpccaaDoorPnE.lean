/- The walk of plan's read. -/
import Derived.Test.YtnjbdedmalpccaaDoorPnD
namespace Go.Proofs.YtnjbdedmalpccaaDoor
open Go.RowKit
set_option maxRecDepth 100000
attribute [local go_sem] str_size str_toList str_get

theorem MapF.new {w : World} {b : Nat} (h : w.heap[b]? = some (.map #[] 0)) : MapF w b 0 (fun _ => none) := by
  have h0 : (w.alloc (.map #[] 0)).heap[w.heap.size]? = some (.map #[] 0) := heap_alloc_new _ _
  obtain ⟨D, ⟨es, clock, hb, r⟩, hf⟩ := MapF.made w
  rw [h0] at hb
  injection hb with hb
  injection hb with e1 e2
  subst e1 e2
  exact ⟨D, ⟨_, _, h, r⟩, hf⟩
def PS0 : PS := ⟨fun _ => none, fun _ => none, [], fun _ => none, fun _ => none, []⟩
theorem made7 (w : World) (c0 c1 : Array Value) (T0 T1 : TypeId) {W : World} (hW : W = ((((((w.alloc (.cells c0 T0)).alloc (.cells c1 T1)).alloc (.map #[] 0)).alloc (.map #[] 0)).alloc (.map #[] 0)).alloc (.map #[] 0)).alloc (.cells #[.map (some (w.heap.size + 1 + 1)), .map (some (w.heap.size + 1 + 1 + 1)), .slice none 0 0, .map (some (w.heap.size + 1 + 1 + 1 + 1)), .map (some (w.heap.size + 1 + 1 + 1 + 1 + 1)), .slice none 0 0] 63)) :
    W.heap[w.heap.size]? = some (.cells c0 T0 (0, 0)) ∧ W.heap[w.heap.size + 1]? = some (.cells c1 T1 (0, 0)) ∧ Below w.heap.size w W ∧
    PnIn w.heap.size 0 W (w.heap.size + 1 + 1 + 1 + 1 + 1 + 1) PS0 (w.heap.size + 1 + 1) (w.heap.size + 1 + 1 + 1) (w.heap.size + 1 + 1 + 1 + 1) (w.heap.size + 1 + 1 + 1 + 1 + 1) (.slice none 0 0) (.slice none 0 0) := by
  obtain ⟨n, hn⟩ : ∃ n, w.heap.size = n := ⟨_, rfl⟩
  have sz : ∀ (u : World) (o : Obj), (u.alloc o).heap.size = u.heap.size + 1 := fun u o => by simp only [World.alloc, Array.size_push]
  have old : ∀ (u : World) (o : Obj) (k : Nat), k < u.heap.size → (u.alloc o).heap[k]? = u.heap[k]? := fun u o k h => Below.heap_alloc u o k h
  have new : ∀ (u : World) (o : Obj) (k : Nat), u.heap.size = k → (u.alloc o).heap[k]? = some o := fun u o k h => by rw [← h]; exact heap_alloc_new _ _
  rw [hn] at hW ⊢
  have hb : Below n w W := by
    rw [hW]
    have b0 := Below.refl n w
    refine ((((((b0.alloc (by omega) _).alloc ?_ _).alloc ?_ _).alloc ?_ _).alloc ?_ _).alloc ?_ _).alloc ?_ _ <;> simp only [sz] <;> omega
  refine ⟨?_, ?_, hb, ?_, ⟨by omega, by omega, by omega, by omega, by omega⟩, ⟨by omega, by omega, by omega, by omega, by omega, by omega⟩, ?_, ?_, ?_, ?_, World.ownsRow_nil _ _ _ _, World.ownsRow_nil _ _ _ _⟩
  · rw [hW]
    repeat rw [old _ _ _ (by simp only [sz]; omega)]
    exact new _ _ _ hn
  · rw [hW]
    repeat rw [old _ _ _ (by simp only [sz]; omega)]
    exact new _ _ _ (by simp only [sz]; omega)
  · rw [hW]
    exact new _ _ _ (by simp only [sz]; omega)
  · refine MapF.new ?_
    rw [hW]
    repeat rw [old _ _ _ (by simp only [sz]; omega)]
    exact new _ _ _ (by simp only [sz]; omega)
  · refine MapF.new ?_
    rw [hW]
    repeat rw [old _ _ _ (by simp only [sz]; omega)]
    exact new _ _ _ (by simp only [sz]; omega)
  · refine MapF.new ?_
    rw [hW]
    repeat rw [old _ _ _ (by simp only [sz]; omega)]
    exact new _ _ _ (by simp only [sz]; omega)
  · refine MapF.new ?_
    rw [hW]
    repeat rw [old _ _ _ (by simp only [sz]; omega)]
    exact new _ _ _ (by simp only [sz]; omega)

set_option maxHeartbeats 8000000 in
theorem read_any (xs : List IX) (rs : List RX) (vi vr : Value) (w : World) (hx : InstsAt w vi xs) (hr : RecsAt w vr rs) (hl : xs.length ≤ 40) (hrl : rs.length ≤ 60) :
    Calls Tryd.prog 8 #[solV vi, stV vr] w fun e w' => ∃ p N, e = .returned (.pointer (some ⟨p, 0, none⟩)) ∧ N ≤ 5000 ∧ PnAt w.heap.size N w' p (readS xs rs) ∧ Below w.heap.size w w' := by
  have mixed : Tryd.prog.follows .mixedOrders = true := by kernel_rfl
  have HX := Lib.hid hx
  have HR := Lib.hid hr
  obtain ⟨ao, co, rfl, hm0, _⟩ := hx.cells
  obtain ⟨ar, cr, rfl, hm1, _⟩ := hr.cells
  unfold solV stV
  have mk := fun (T : TypeId) (W : World) => run_makeMap (P := Tryd.prog) T W
  clear hx hr
  go_enter Tryd.func8, Tryd.ntmps8
  obtain ⟨wA, hwA⟩ : ∃ wA, wA = ((((((w.alloc (.cells #[.slice ao xs.length co, .int .i64 0, .bool false, .string ⟨#[]⟩, .slice none 0 0, .slice none 0 0] 31)).alloc (.cells #[.int .i64 0, .slice ar rs.length cr] 34)).alloc (.map #[] 0)).alloc (.map #[] 0)).alloc (.map #[] 0)).alloc (.map #[] 0)).alloc (.cells #[.map (some (w.heap.size + 1 + 1)), .map (some (w.heap.size + 1 + 1 + 1)), .slice none 0 0, .map (some (w.heap.size + 1 + 1 + 1 + 1)), .map (some (w.heap.size + 1 + 1 + 1 + 1 + 1)), .slice none 0 0] 63) := ⟨_, rfl⟩
  obtain ⟨nG, nH, hbA, hI⟩ := made7 w _ _ _ _ hwA
  go_upto_region 2 with fail
  rw [← hwA]
  clear hwA mk
  obtain ⟨G, hG⟩ : ∃ G, w.heap.size = G := ⟨_, rfl⟩
  obtain ⟨a, ha⟩ : ∃ a, G + 1 + 1 = a := ⟨_, rfl⟩
  obtain ⟨r, hr⟩ : ∃ r, a + 1 = r := ⟨_, rfl⟩
  obtain ⟨m, hm⟩ : ∃ m, r + 1 = m := ⟨_, rfl⟩
  obtain ⟨v, hv⟩ : ∃ v, m + 1 = v := ⟨_, rfl⟩
  obtain ⟨p, hp⟩ : ∃ p, v + 1 = p := ⟨_, rfl⟩
  obtain ⟨H, hH⟩ : ∃ H, G + 1 = H := ⟨_, rfl⟩
  rw [hG] at nG nH hbA hI ⊢
  rw [ha, hr, hm, hv, hp] at hI ⊢
  rw [hH] at nH ⊢
  have hGw : G ≤ w.heap.size := by omega
  have HGE := Lib.hid hG
  clear hG ha hr hm hv hp hH
  obtain ⟨z0, z1⟩ := cells2 nH
  have HG := Lib.hid nG
  have HH := Lib.hid nH
  have HI := Lib.hid hI
  have HB := Lib.hid hbA
  have l1 : rs.length ≤ 9223372036854775807 := by omega
  have l2 : xs.length ≤ 9223372036854775807 := by omega
  clear nG nH hI hbA
  go_wp2
  go_loopg [23] rs.length (fun gg v23 wr => ∃ (i : Nat), v23 = .int .i64 i ∧ i + gg = rs.length ∧ Hid (PnIn G i wr p { PS0 with rcd := rcdOf (rs.take i) } a r m v (.slice none 0 0) (.slice none 0 0) ∧ Below G w wr ∧ wr.heap[G]? = some (.cells #[.slice ao xs.length co, .int .i64 0, .bool false, .string ⟨#[]⟩, .slice none 0 0, .slice none 0 0] 31 (0, 0))))
  case atStart => exact ⟨0, rfl, by omega, Lib.hid ⟨HI.out, HB.out, HG.out⟩⟩
  case round =>
    obtain ⟨i, rfl, hig, HL⟩ := hrel
    cases gk with
    | succ gg =>
      have hil : i < rs.length := by omega
      have hie : (i : Int) < (rs.length : Int) := by omega
      obtain ⟨r', hr'⟩ : ∃ x, rs[i]? = some x := ⟨_, List.getElem?_eq_getElem hil⟩
      obtain ⟨b, off, rfl, hlt, c0, c1, c2, c3, c4, c5, c6, c7, c8⟩ := (HR.out.mono (by rw [HGE.out]; exact HL.out.2.1)).row hr'
      obtain ⟨wO, hwO⟩ : ∃ wO, wO = wr.alloc (.cells #[str r'.1.addr, str r'.1.typ, str r'.1.id, .int .i64 r'.1.k, .bool r'.1.f, str r'.1.tx, .slice r'.1.ai r'.1.ni r'.1.ci, .slice r'.1.ak r'.1.nk r'.1.ck, .slice r'.1.ad r'.1.nd r'.1.cd] 37) := ⟨_, rfl⟩
      have bO : Below wr.heap.size wr wO := by rw [hwO]; exact (Below.refl _ wr).alloc (Nat.le_refl _) _
      have nO : wO.heap[wr.heap.size]? = some (.cells #[str r'.1.addr, str r'.1.typ, str r'.1.id, .int .i64 r'.1.k, .bool r'.1.f, str r'.1.tx, .slice r'.1.ai r'.1.ni r'.1.ci, .slice r'.1.ak r'.1.nk r'.1.ck, .slice r'.1.ad r'.1.nd r'.1.cd] 37 (0, 0)) := by rw [hwO]; exact heap_alloc_new _ _
      have hIO := HL.out.1.below bO
      have hff := HR.out.fit _ (List.mem_of_getElem? hr')
      obtain ⟨wN, hrun, hIN, ho⟩ := (hIO.below (Below.refl _ wO).drew).rcd_store (by unfold maxLen; omega) (t := r'.1.addr) (Nat.le_trans hff.1 (by decide)) r'.1
      obtain ⟨x0, x1, x2, x3, x4, x5⟩ := cells6 hIO.1
      obtain ⟨t0, t1, t2, t3, t4, t5, t6, t7, t8⟩ := cells9 nO
      have hm1 : ∃ es clock, wO.heap[r]? = some (.map es clock) := hIO.2.2.2.2.1.block
      have hGO : wO.heap[G]? = some (.cells #[.slice ao xs.length co, .int .i64 0, .bool false, .string ⟨#[]⟩, .slice none 0 0, .slice none 0 0] 31 (0, 0)) := (bO.block _ (heap_lt HL.out.2.2)).trans HL.out.2.2
      have HNX := Lib.hid (⟨by rw [show rcdOf (rs.take (i + 1)) = upd (rcdOf (rs.take i)) r'.1.addr r'.1 from fold_next _ _ rs hr']; exact hIN, (HL.out.2.1.trans (bO.mono (Nat.le_trans HL.out.2.1.size (Nat.le_of_eq rfl) |> fun h => Nat.le_trans hGw h))).trans ((⟨ho.os, ho.tape, ho.output, ho.size, ho.block⟩ : OnlyM r wO wN).below hIO.2.1.2.2.1 (Nat.le_trans (Nat.le_trans hGw HL.out.2.1.size) bO.size)), (⟨ho.os, ho.tape, ho.output, ho.size, ho.block⟩ : OnlyM r wO wN).keepC hm1 hGO⟩ : PnIn G (i + 1) wN p { PS0 with rcd := rcdOf (rs.take (i + 1)) } a r m v (.slice none 0 0) (.slice none 0 0) ∧ Below G w wN ∧ wN.heap[G]? = some (.cells #[.slice ao xs.length co, .int .i64 0, .bool false, .string ⟨#[]⟩, .slice none 0 0, .slice none 0 0] 31 (0, 0)))
      unfold recV at hrun
      clear hr' bO nO hIO hff hIN ho hm1 hGO HL
      go_upto_region 5 with fail
      rw [← hwO]
      clear hwO c0 c1 c2 c3 c4 c5 c6 c7 c8
      go_region_law_o fail
      all_goals
        clear hrun x0 x1 x2 x3 x4 x5 t0 t1 t2 t3 t4 t5 t6 t7 t8
        go_wp2
        go_roundg gg
        case measure => omega
        case rel => exact ⟨i + 1, by go_num, by omega, HNX⟩
    | zero =>
      obtain rfl : i = rs.length := by omega
      have h0 := HL.out
      rw [List.take_length] at h0
      have HL2 := Lib.hid h0
      obtain ⟨s0, _⟩ := cells6 h0.2.2
      clear h0 HL z0 z1
      go_wp2
      go_loopg [38] xs.length (fun gg v38 wr => ∃ (i : Nat), v38 = .int .i64 i ∧ i + gg = xs.length ∧ Hid (PnIn G (rs.length + i) wr p { PS0 with rcd := rcdOf rs, act := actOf (xs.take i) } a r m v (.slice none 0 0) (.slice none 0 0) ∧ Below G w wr ∧ wr.heap[G]? = some (.cells #[.slice ao xs.length co, .int .i64 0, .bool false, .string ⟨#[]⟩, .slice none 0 0, .slice none 0 0] 31 (0, 0))))
      case atStart => exact ⟨0, rfl, by omega, HL2⟩
      case round =>
        clear HL2 s0
        obtain ⟨i, rfl, hig, HL⟩ := hrel
        cases gk with
        | succ gg =>
          have hil : i < xs.length := by omega
          have hie : (i : Int) < (xs.length : Int) := by omega
          obtain ⟨x, hx⟩ : ∃ x, xs[i]? = some x := ⟨_, List.getElem?_eq_getElem hil⟩
          obtain ⟨b, off, rfl, hlt, c0, c1, c2, c3, c4, c5, c6, c7, c8, c9⟩ := (HX.out.mono (by rw [HGE.out]; exact HL.out.2.1)).row hx
          obtain ⟨wO, hwO⟩ : ∃ wO, wO = wr.alloc (.cells #[str x.1.addr, str x.1.typ, .int .i64 x.1.k, .bool x.1.f, str x.1.tx, .slice x.1.ai x.1.ni x.1.ci, .slice x.1.ak x.1.nk x.1.ck, .int .i64 x.1.action, .bool x.1.prevent, .slice x.1.ad x.1.nd x.1.cd] 41) := ⟨_, rfl⟩
          have bO : Below wr.heap.size wr wO := by rw [hwO]; exact (Below.refl _ wr).alloc (Nat.le_refl _) _
          have nO : wO.heap[wr.heap.size]? = some (.cells #[str x.1.addr, str x.1.typ, .int .i64 x.1.k, .bool x.1.f, str x.1.tx, .slice x.1.ai x.1.ni x.1.ci, .slice x.1.ak x.1.nk x.1.ck, .int .i64 x.1.action, .bool x.1.prevent, .slice x.1.ad x.1.nd x.1.cd] 41 (0, 0)) := by rw [hwO]; exact heap_alloc_new _ _
          have hIO := HL.out.1.below bO
          have hff := HX.out.fit _ (List.mem_of_getElem? hx)
          obtain ⟨wN, hrun, hIN, ho⟩ := (hIO.below (Below.refl _ wO).drew).act_store (by unfold maxLen; omega) (t := x.1.addr) (Nat.le_trans hff.1 (by decide)) x.1.action
          obtain ⟨x0, x1, x2, x3, x4, x5⟩ := cells6 hIO.1
          obtain ⟨t0, t1, t2, t3, t4, t5, t6, t7, t8, t9⟩ := cells10 nO
          have hm1 : ∃ es clock, wO.heap[a]? = some (.map es clock) := hIO.2.2.2.1.block
          have hGO : wO.heap[G]? = some (.cells #[.slice (some ⟨b, off, none⟩) xs.length co, .int .i64 0, .bool false, .string ⟨#[]⟩, .slice none 0 0, .slice none 0 0] 31 (0, 0)) := (bO.block _ (heap_lt HL.out.2.2)).trans HL.out.2.2
          have HNX := Lib.hid (⟨by rw [show actOf (xs.take (i + 1)) = upd (actOf (xs.take i)) x.1.addr x.1.action from fold_next _ _ xs hx]; exact hIN, (HL.out.2.1.trans (bO.mono (Nat.le_trans hGw HL.out.2.1.size))).trans ((⟨ho.os, ho.tape, ho.output, ho.size, ho.block⟩ : OnlyM a wO wN).below hIO.2.1.2.1 (Nat.le_trans (Nat.le_trans hGw HL.out.2.1.size) bO.size)), (⟨ho.os, ho.tape, ho.output, ho.size, ho.block⟩ : OnlyM a wO wN).keepC hm1 hGO⟩ : PnIn G (rs.length + (i + 1)) wN p { PS0 with rcd := rcdOf rs, act := actOf (xs.take (i + 1)) } a r m v (.slice none 0 0) (.slice none 0 0) ∧ Below G w wN ∧ wN.heap[G]? = some (.cells #[.slice (some ⟨b, off, none⟩) xs.length co, .int .i64 0, .bool false, .string ⟨#[]⟩, .slice none 0 0, .slice none 0 0] 31 (0, 0)))
          clear hx bO nO hIO hff hIN ho hm1 hGO HL
          go_upto_region 10 with fail
          rw [← hwO]
          clear hwO c0 c1 c2 c3 c4 c5 c6 c7 c8 c9
          go_region_law_o fail
          all_goals
            clear hrun x0 x1 x2 x3 x4 x5 t0 t1 t2 t3 t4 t5 t6 t7 t8 t9
            go_wp2
            go_roundg gg
            case measure => omega
            case rel => exact ⟨i + 1, by go_num, by omega, HNX⟩
        | zero =>
          obtain rfl : i = xs.length := by omega
          have h0 := HL.out
          rw [List.take_length] at h0
          have HL2 := Lib.hid h0
          obtain ⟨s0, _⟩ := cells6 h0.2.2
          clear h0 HL
          go_wp2
          go_loopg [54] xs.length (fun gg v54 wr => ∃ (i N : Nat), v54 = .int .i64 i ∧ i + gg = xs.length ∧ N ≤ 100 + 60 * i ∧ Hid (PnIn G N wr p { PS0 with rcd := rcdOf rs, act := swapX (actOf xs) (xs.take i) } a r m v (.slice none 0 0) (.slice none 0 0) ∧ Below G w wr ∧ wr.heap[G]? = some (.cells #[.slice ao xs.length co, .int .i64 0, .bool false, .string ⟨#[]⟩, .slice none 0 0, .slice none 0 0] 31 (0, 0))))
          case atStart => exact ⟨0, rs.length + xs.length, rfl, by omega, by omega, HL2⟩
          case round =>
            clear HL2 s0
            obtain ⟨i, N, rfl, hig, hNN, HL⟩ := hrel
            cases gk with
            | zero =>
              obtain rfl : i = xs.length := by omega
              have h0 := HL.out
              rw [List.take_length] at h0
              have HF := Lib.hid (⟨⟨⟨a, r, m, v, _, _, h0.1⟩⟩, h0.2.1⟩ : PnAt G N wr p (readS xs rs) ∧ Below G w wr)
              clear h0 HL
              go_wp2
              go_ret
              exact ⟨p, N, rfl, by omega, by rw [HGE.out]; exact HF.out.1, by rw [HGE.out]; exact HF.out.2⟩
            | succ gg =>
              have hil : i < xs.length := by omega
              have hie : (i : Int) < (xs.length : Int) := by omega
              obtain ⟨x, hx⟩ : ∃ x, xs[i]? = some x := ⟨_, List.getElem?_eq_getElem hil⟩
              obtain ⟨b, off, rfl, hlt, c0, c1, c2, c3, c4, c5, c6, c7, c8, c9⟩ := (HX.out.mono (by rw [HGE.out]; exact HL.out.2.1)).row hx
              obtain ⟨wO, hwO⟩ : ∃ wO, wO = wr.alloc (.cells #[str x.1.addr, str x.1.typ, .int .i64 x.1.k, .bool x.1.f, str x.1.tx, .slice x.1.ai x.1.ni x.1.ci, .slice x.1.ak x.1.nk x.1.ck, .int .i64 x.1.action, .bool x.1.prevent, .slice x.1.ad x.1.nd x.1.cd] 41) := ⟨_, rfl⟩
              have bO : Below wr.heap.size wr wO := by rw [hwO]; exact (Below.refl _ wr).alloc (Nat.le_refl _) _
              have nO : wO.heap[wr.heap.size]? = some (.cells #[str x.1.addr, str x.1.typ, .int .i64 x.1.k, .bool x.1.f, str x.1.tx, .slice x.1.ai x.1.ni x.1.ci, .slice x.1.ak x.1.nk x.1.ck, .int .i64 x.1.action, .bool x.1.prevent, .slice x.1.ad x.1.nd x.1.cd] 41 (0, 0)) := by rw [hwO]; exact heap_alloc_new _ _
              have hIO := HL.out.1.below bO
              have hff := HX.out.fit _ (List.mem_of_getElem? hx)
              obtain ⟨t0, t1, t2, t3, t4, t5, t6, t7, t8, t9⟩ := cells10 nO
              have hGO : wO.heap[G]? = some (.cells #[.slice (some ⟨b, off, none⟩) xs.length co, .int .i64 0, .bool false, .string ⟨#[]⟩, .slice none 0 0, .slice none 0 0] 31 (0, 0)) := (bO.block _ (heap_lt HL.out.2.2)).trans HL.out.2.2
              have hBO := HL.out.2.1.trans (bO.mono (Nat.le_trans hGw HL.out.2.1.size))
              have HO := Lib.hid (⟨hIO, hBO, hGO⟩ : _ ∧ _ ∧ _)
              have HNO := Lib.hid nO
              have HFF := Lib.hid hff
              have HXI := Lib.hid hx
              have HDD := Lib.hid (HX.out.deps _ (List.mem_of_getElem? hx))
              have hsw : swapX (actOf xs) (xs.take (i + 1)) = if x.1.action = 4 then swapD (swapX (actOf xs) (xs.take i)) x.2 else swapX (actOf xs) (xs.take i) := fold_next _ _ xs hx
              have HSW := Lib.hid hsw
              clear hx bO nO hIO hff hGO hBO HL hsw
              go_upto_region 15 with fail
              rw [← hwO]
              clear hwO c0 c1 c2 c3 c4 c5 c6 c7 c8 c9
              by_cases h4 : x.1.action = 4
              · have h4b : (x.1.action != 4) = false := by simp [h4]
                have hsn := HSW.out
                rw [if_pos h4] at hsn
                have HSN := Lib.hid hsn
                obtain ⟨_, _, hsv, hsm, _⟩ := HDD.out
                injection hsv with _ hsv2 _
                have hdl : x.1.nd = x.2.length := hsv2
                rw [hdl] at t9
                have HDD2 : Hid (StrsAt w (.slice x.1.ad x.2.length x.1.cd) x.2) := Lib.hid (by have := HDD.out; rw [hdl] at this; exact this)
                obtain ⟨AD, hAD⟩ : ∃ AD, x.1.ad = AD := ⟨_, rfl⟩
                rw [hAD] at t9 HDD2
                have HAD := Lib.hid hAD
                clear hAD
                have hd60 : x.2.length ≤ 60 := HFF.out.2.2
                have h00 := HO.out
                have HLI := Lib.hid (⟨h00.1, h00.2.1, h00.2.2⟩ : _ ∧ _ ∧ _)
                have HDL := Lib.hid hdl
                clear h00 hsn hsv2 hsm hdl h4 HO HSW HDD HNO
                obtain ⟨gO, rfl⟩ : ∃ gO, gO = gg := ⟨_, rfl⟩
                go_wp2
                go_loopg [64] x.2.length (fun gg v64 wr => ∃ (j M : Nat), v64 = .int .i64 j ∧ j + gg = x.2.length ∧ M ≤ N + j ∧ Hid (PnIn G M wr p { PS0 with rcd := rcdOf rs, act := swapD (swapX (actOf xs) (xs.take i)) (x.2.take j) } a r m v (.slice none 0 0) (.slice none 0 0) ∧ Below G w wr ∧ wr.heap[G]? = some (.cells #[.slice (some ⟨b, off, none⟩) xs.length co, .int .i64 0, .bool false, .string ⟨#[]⟩, .slice none 0 0, .slice none 0 0] 31 (0, 0))))
                case atStart => exact ⟨0, N, rfl, by omega, by omega, HLI⟩
                case round =>
                  clear HLI t0 t1 t2 t3 t4 t5 t6 t7 t8 t9
                  obtain ⟨j, M, rfl, hjg, hMM, HJ⟩ := hrel
                  cases gk with
                  | zero =>
                    obtain rfl : j = x.2.length := by omega
                    have h0 := HJ.out
                    rw [List.take_length, ← HSN.out] at h0
                    have HNX := Lib.hid h0
                    clear h0 HJ
                    go_wp2
                    go_roundg gO
                    case measure => omega
                    case rel => exact ⟨i + 1, M, by go_num, by omega, by omega, HNX⟩
                  | succ gg =>
                    have hjl : j < x.2.length := by omega
                    have hje : (j : Int) < (x.2.length : Int) := by omega
                    obtain ⟨bd, od, hae, hld, d0⟩ := (HDD2.out.mono (by rw [HGE.out]; exact HJ.out.2.1)).get hjl
                    rw [getD_at x.2 [] hjl] at d0
                    obtain ⟨d, hd⟩ : ∃ d, x.2[j]? = some d := ⟨_, List.getElem?_eq_getElem hjl⟩
                    have hdj : x.2[j] = d := (List.getElem?_eq_some_iff.1 hd).2
                    rw [hdj] at d0
                    have hfd : fitS d := Nat.le_trans (HFF.out.2.1 d (List.mem_of_getElem? hd)) (by decide)
                    have hsd : swapD (swapX (actOf xs) (xs.take i)) (x.2.take (j + 1)) = if ((swapD (swapX (actOf xs) (xs.take i)) (x.2.take j)) d).getD 0 = 3 then upd (swapD (swapX (actOf xs) (xs.take i)) (x.2.take j)) d 4 else swapD (swapX (actOf xs) (xs.take i)) (x.2.take j) := fold_next _ _ x.2 hd
                    have hI := HJ.out.1
                    obtain ⟨x0, x1, x2, x3, x4, x5⟩ := cells6 hI.1
                    have T3' := (hI.2.2.2.1.look mapA zeroA hfd).1
                    rw [getD_map _ (fun i => Value.int .i64 i) 0] at T3'
                    obtain ⟨A, hA⟩ : ∃ A, ((swapD (swapX (actOf xs) (xs.take i)) (x.2.take j)) d).getD 0 = A := ⟨_, rfl⟩
                    rw [hA] at hsd
                    have T3 : (Instr.lookup 59 (.map (some a)) (str d) false).run Tryd.prog wr = .ok (.int .i64 A) wr := by rw [← hA]; exact T3'
                    clear T3'
                    by_cases h3 : A = 3
                    · rw [if_pos h3] at hsd
                      have h3b : (A == 3) = true := by simp [h3]
                      obtain ⟨wN, hrun, hIN, ho⟩ := hI.act_store (by unfold maxLen; omega) (t := d) hfd 4
                      have hm1 : ∃ es clock, wr.heap[a]? = some (.map es clock) := hI.2.2.2.1.block
                      have HNX := Lib.hid (⟨by rw [hsd]; exact hIN, HJ.out.2.1.trans (ho.below hI.2.1.2.1 (Nat.le_trans hGw HJ.out.2.1.size)), ho.keepC hm1 HJ.out.2.2⟩ : PnIn G (M + 1) wN p { PS0 with rcd := rcdOf rs, act := swapD (swapX (actOf xs) (xs.take i)) (x.2.take (j + 1)) } a r m v (.slice none 0 0) (.slice none 0 0) ∧ Below G w wN ∧ wN.heap[G]? = some (.cells #[.slice (some ⟨b, off, none⟩) xs.length co, .int .i64 0, .bool false, .string ⟨#[]⟩, .slice none 0 0, .slice none 0 0] 31 (0, 0)))
                      subst h3
                      cases hae
                      clear hI hIN ho hm1 HJ hsd hA hd hdj hfd h3b
                      go_wp2_with (at_mapUpdate; refine wpList_mapUpdate_eq _ rfl (.tmp 78) (.tmp 79) (.const (.int .i64 4)) 59 rfl _ _ _ rfl rfl rfl hrun ?_)
                      go_wp2
                      go_roundg gg
                      case measure => omega
                      case rel => exact ⟨j + 1, M + 1, by go_num, by omega, by omega, HNX⟩
                    · rw [if_neg h3] at hsd
                      have h3b : (A == 3) = false := by simpa using h3
                      have h0 := HJ.out
                      rw [← hsd] at h0
                      have HNX := Lib.hid h0
                      cases hae
                      clear hI h0 HJ hsd hA hd hdj hfd h3
                      go_wp2
                      go_roundg gg
                      case measure => omega
                      case rel => exact ⟨j + 1, M, by go_num, by omega, by omega, HNX⟩
              · have h0 := HO.out
                have h4b : (x.1.action != 4) = true := by simpa using h4
                rw [← show swapX (actOf xs) (xs.take (i + 1)) = swapX (actOf xs) (xs.take i) by rw [HSW.out, if_neg h4]] at h0
                have HNX := Lib.hid h0
                clear h0
                go_wp2
                go_roundg gg
                case measure => omega
                case rel => exact ⟨i + 1, N, by go_num, by omega, by omega, HNX⟩

end Go.Proofs.YtnjbdedmalpccaaDoor
