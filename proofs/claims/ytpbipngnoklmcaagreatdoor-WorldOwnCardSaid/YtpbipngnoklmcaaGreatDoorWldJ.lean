/- The document's world: with, fails, noted. -/
import Derived.Test.YtpbipngnoklmcaaGreatDoorMWldHs
namespace Go.Proofs.YtpbipngnoklmcaaGreatDoor
open Go.RowKit
set_option maxRecDepth 100000
attribute [local go_sem] str_size str_toList str_get

theorem row_base {w : World} {base base' e size n : Nat} {v : Value} {xs : List Value} (h : w.ownsRow base e size v n xs) (hle : base' ≤ base) : w.ownsRow base' e size v n xs := by
  refine ⟨h.1, ?_⟩
  rcases h.2 with h2 | ⟨g, cap, cur, h1, hg, r⟩
  · exact .inl h2
  · exact .inr ⟨g, cap, cur, h1, Nat.le_trans hle hg, r⟩
theorem NewR.weaken {w w1 w2 : World} {rs : List R3} {v : Value} (hb : Below w.heap.size w w1) (h : NewR w1 rs v w2) : NewR w rs v w2 := ⟨row_base h.1 hb.size, hb.trans (h.2.mono hb.size)⟩
theorem NewR.drawn {w wr : World} {rs : List R3} {v : Value} (h : NewR w rs v wr) (k : Nat) : NewR w rs v (wr.drewN k) := ⟨row_keep h.1 fun _ _ => rfl, below_drawn h.2 k⟩
/-- Where an object is put in. -/
def insP (r : R3) (ls : List R3) (d : Bool) (k : Nat) (acc : List R3) : Prop := if d = true then acc ++ ls.drop k = insR r ls else acc ++ insR r (ls.drop k) = insR r ls
theorem insP.start (r : R3) (ls : List R3) : insP r ls false 0 [] := by unfold insP; simp
theorem insP.done {r : R3} {ls : List R3} {acc : List R3} (h : insP r ls true ls.length acc) : acc = insR r ls := by
  unfold insP at h
  rw [if_pos rfl, List.drop_length, List.append_nil] at h
  exact h
theorem insP.last {r : R3} {ls : List R3} {acc : List R3} (h : insP r ls false ls.length acc) : acc ++ [r] = insR r ls := by
  unfold insP at h
  rw [if_neg (by simp), List.drop_length] at h
  exact h
theorem insP.skip {r x : R3} {ls : List R3} {d : Bool} {k : Nat} {acc : List R3} (h : insP r ls d k acc) (hx : ls[k]? = some x) (hc : (!d && ltO r.1 x.1) = false) : insP r ls d (k + 1) (acc ++ [x]) := by
  obtain ⟨hk, rfl⟩ := List.getElem?_eq_some_iff.1 hx
  unfold insP at h ⊢
  rw [List.drop_eq_getElem_cons hk] at h
  cases d with
  | true =>
    rw [if_pos rfl] at h ⊢
    rw [← h, List.append_assoc]
    rfl
  | false =>
    rw [if_neg (by simp)] at h ⊢
    have hc : ltO r.1 ls[k].1 = false := by simpa using hc
    rw [insR, if_neg (by rw [hc]; simp)] at h
    rw [← h, List.append_assoc]
    rfl
theorem insP.put {r x : R3} {ls : List R3} {d : Bool} {k : Nat} {acc : List R3} (h : insP r ls d k acc) (hx : ls[k]? = some x) (hc : (!d && ltO r.1 x.1) = true) : insP r ls true (k + 1) (acc ++ [r] ++ [x]) := by
  obtain ⟨hk, rfl⟩ := List.getElem?_eq_some_iff.1 hx
  obtain ⟨h1, h2⟩ := (Bool.and_eq_true _ _).mp hc
  obtain rfl : d = false := by simpa using h1
  unfold insP at h ⊢
  rw [List.drop_eq_getElem_cons hk] at h
  rw [if_neg (by simp), insR, if_pos h2] at h
  rw [if_pos rfl, ← h]
  simp

theorem obj_box {w : World} {g : Nat} {c0 c1 c2 c3 c4 c5 c6 : Value} {T : TypeId} (h : w.heap[g]? = some (.cells #[c0, c1, c2, c3, c4, c5, c6] T (0, 0))) : w.cell? ⟨g, 0, none⟩ = some c0 ∧ w.cell? ⟨g, 1, none⟩ = some c1 ∧ w.cell? ⟨g, 2, none⟩ = some c2 ∧ w.cell? ⟨g, 3, none⟩ = some c3 ∧ w.cell? ⟨g, 4, none⟩ = some c4 ∧ w.cell? ⟨g, 5, none⟩ = some c5 ∧ w.cell? ⟨g, 6, none⟩ = some c6 := by
  refine ⟨?_, ?_, ?_, ?_, ?_, ?_, ?_⟩ <;> (rw [Lib.cell_of_heap h]; rfl)

set_option maxHeartbeats 4000000 in
theorem with_r (rs : List R3) (r : R3) (ao : Option Addr) (co : Nat) (w : World) (h : CellsAt w (.slice ao rs.length co) rs.length (rowC rs)) (hl : rs.length ≤ 100000) :
    Calls Tryz.prog 32 #[.slice ao rs.length co, .agg #[str r.1.1, str r.1.2.1, .int .i64 r.1.2.2.kind, .bool r.1.2.2.flag, str r.1.2.2.text, .slice r.2.1 r.1.2.2.items.length r.2.2.1, .slice r.2.2.2.1 r.1.2.2.keys.length r.2.2.2.2]] w fun e w' => ∃ v', e = .returned v' ∧ NewR w (withR rs r) v' w' := by
  have mixed : Tryz.prog.follows .mixedOrders = true := by kernel_rfl
  obtain ⟨i1, hi1, hz1, hzs1, hzb1⟩ := info_parts (P := Tryz.prog) (e := 47) (z := .agg #[.string ⟨#[]⟩, .string ⟨#[]⟩, .int .i64 0, .bool false, .string ⟨#[]⟩, .slice none 0 0, .slice none 0 0]) (size := 7) (bytes := 112) (by kernel_rfl)
  obtain ⟨wB, hwB⟩ : ∃ wB, wB = w.alloc (.cells #[str r.1.1, str r.1.2.1, .int .i64 r.1.2.2.kind, .bool r.1.2.2.flag, str r.1.2.2.text, .slice r.2.1 r.1.2.2.items.length r.2.2.1, .slice r.2.2.2.1 r.1.2.2.keys.length r.2.2.2.2] 47) := ⟨_, rfl⟩
  have hnB : wB.heap[w.heap.size]? = some (.cells #[str r.1.1, str r.1.2.1, .int .i64 r.1.2.2.kind, .bool r.1.2.2.flag, str r.1.2.2.text, .slice r.2.1 r.1.2.2.items.length r.2.2.1, .slice r.2.2.2.1 r.1.2.2.keys.length r.2.2.2.2] 47 (0, 0)) := by rw [hwB]; exact heap_alloc_new _ _
  have hbB : Below w.heap.size w wB := by rw [hwB]; exact (Below.refl _ w).alloc (Nat.le_refl _) _
  have hlB := heap_lt hnB
  have WO := without_r rs ao co r.1.1 r.1.2.1 wB (h.mono hbB) (by omega)
  have HBX : Hid (∀ W, Below wB.heap.size wB W → W.heap[w.heap.size]? = some (.cells #[str r.1.1, str r.1.2.1, .int .i64 r.1.2.2.kind, .bool r.1.2.2.flag, str r.1.2.2.text, .slice r.2.1 r.1.2.2.items.length r.2.2.1, .slice r.2.2.2.1 r.1.2.2.keys.length r.2.2.2.2] 47 (0, 0))) := fun W hW => (hW.block _ hlB).trans hnB
  obtain ⟨b0, b1, _⟩ := obj_box hnB
  have hlen := len_outR rs r.1.1 r.1.2.1
  have hwd : withR rs r = insR r (outR rs r.1.1 r.1.2.1) := rfl
  rw [hwd]
  clear hwd h
  generalize outR rs r.1.1 r.1.2.1 = ls at WO hlen ⊢
  have hll : ls.length ≤ 100000 := by omega
  clear hnB hlen
  go_enter Tryz.func32, Tryz.ntmps32
  go_upto_region 1 with fail
  rw [← hwB]
  clear hwB
  go_wp2_with fail
  refine WO.mono ?_
  rintro e w1 ⟨v1, rfl, hN1⟩
  obtain ⟨a1, c1, rfl⟩ := slice_form hN1.1
  have hb1 := hN1.2
  have hbw1 := hbB.trans (hb1.mono hbB.size)
  have HL := Lib.hid (CellsAt.row hN1.1)
  have hwB1 := hb1.size
  clear WO b0 b1 hN1
  go_wp2
  go_loopg [5, 6, 16] ls.length (fun gg v5 v6 v16 wr => ∃ (k : Nat) (d : Bool) (acc : List R3), v16 = .int .i64 k ∧ k + gg = ls.length ∧ v6 = .bool d ∧ acc.length ≤ k + d.toNat ∧ Hid (NewR w1 acc v5 wr) ∧ Hid (insP r ls d k acc))
  case atStart => exact ⟨0, false, [], rfl, by omega, rfl, by simp, NewR.nil w1, insP.start r ls⟩
  case round =>
    obtain ⟨k, d, acc, rfl, hk, rfl, hal0, HN, HP⟩ := hrel
    have hal : acc.length ≤ k + 1 := Nat.le_trans hal0 (by cases d <;> simp)
    have HAL := Lib.hid hal0
    clear hal0
    obtain ⟨a5, c5, rfl⟩ := slice_form HN.out.1
    have hBr := HN.out.2
    have hBrB := hb1.trans (hBr.mono hb1.size)
    obtain ⟨b0, b1, b2, b3, b4, b5, b6⟩ := obj_box (HBX.out wr hBrB)
    cases gk with
    | zero =>
      obtain rfl : k = ls.length := by omega
      cases d with
      | true =>
        have HF := Lib.hid (show NewR w (insR r ls) (.slice a5 acc.length c5) wr by
          have := HP.out.done
          rw [← this]
          exact NewR.weaken hbw1 HN.out)
        clear HP HN b0 b1 b2 b3 b4 b5 b6
        go_wp2
        go_ret
        exact ⟨_, rfl, HF.out⟩
      | false =>
        have HE := Lib.hid (fun w3 v' h1 h2 => NewR.weaken hbw1 (NewR.push (w3 := w3) (v' := v') (r := r) (o := .cells #[str r.1.1, str r.1.2.1, .int .i64 r.1.2.2.kind, .bool r.1.2.2.flag, str r.1.2.2.text, .slice r.2.1 r.1.2.2.items.length r.2.2.1, .slice r.2.2.2.1 r.1.2.2.keys.length r.2.2.2.2] 47) HN.out h1 h2))
        have HLA := HP.out.last
        rw [HLA] at HE
        have HOC := Lib.hid (NewR.alloc HN.out (.cells #[str r.1.1, str r.1.2.1, .int .i64 r.1.2.2.kind, .bool r.1.2.2.flag, str r.1.2.2.text, .slice r.2.1 r.1.2.2.items.length r.2.2.1, .slice r.2.2.2.1 r.1.2.2.keys.length r.2.2.2.2] 47))
        have HCN := Lib.hid (cells_new wr [str r.1.1, str r.1.2.1, .int .i64 r.1.2.2.kind, .bool r.1.2.2.flag, str r.1.2.2.text, .slice r.2.1 r.1.2.2.items.length r.2.2.1, .slice r.2.2.2.1 r.1.2.2.keys.length r.2.2.2.2] 47)
        have hwr := hBr.size
        clear HP HN HLA
        go_wp2_with (at_builtin; refine wpList_append_fresh _ rfl (.tmp 65) (.tmp 67) 22 rfl w1.heap.size 47 i1 _ 7 112 Tryz.underlying22 hi1 hz1 hzs1 hzb1 rfl (by decide) _ acc.length (rowC acc) rfl HOC.out ⟨wr.heap.size, 0, none⟩ 1 1 [str r.1.1, str r.1.2.1, .int .i64 r.1.2.2.kind, .bool r.1.2.2.flag, str r.1.2.2.text, .slice r.2.1 r.1.2.2.items.length r.2.2.1, .slice r.2.2.2.1 r.1.2.2.keys.length r.2.2.2.2] rfl rfl HCN.out (by intro y hy; simp at hy; rcases hy with rfl | rfl | rfl | rfl | rfl | rfl | rfl <;> rfl) (by unfold maxLen; omega) (by omega) (by simp; omega) ?_; intro v' w3 hown hgrow hv')
        have HF := Lib.hid (HE.out w3 v' hown hgrow)
        clear hown hgrow hv' b0 b1 b2 b3 b4 b5 b6
        go_wp2
        go_ret
        exact ⟨_, rfl, HF.out⟩
    | succ gg =>
      have hkl : k < ls.length := by omega
      have hki : (k : Int) < (ls.length : Int) := by omega
      obtain ⟨x, hx⟩ : ∃ x, ls[k]? = some x := ⟨_, List.getElem?_eq_getElem hkl⟩
      obtain ⟨bb, off, rfl, hlt, k0, k1, k2, k3, k4, k5, k6⟩ := (HL.out.mono hBr).obj hx
      obtain ⟨C, hC⟩ : ∃ C, (!d && ltO r.1 x.1) = C := ⟨_, rfl⟩
      have hlt0 : ltO r.1 x.1 = (ltS r.1.1 x.1.1 || (r.1.1 == x.1.1 && ltS r.1.2.1 x.1.2.1)) := rfl
      have l1 := bytesLess_eq r.1.1 x.1.1
      have l2 := bytesLess_eq r.1.2.1 x.1.2.1
      have HSK := Lib.hid (fun hc => HP.out.skip (x := x) hx hc)
      have HPT := Lib.hid (fun hc => HP.out.put (x := x) hx hc)
      rw [hC] at HSK HPT
      have HX := Lib.hid hx
      have HDF : Hid (C = true → d = false) := fun h => by
        rw [h] at hC
        simpa using ((Bool.and_eq_true _ _).mp hC).1
      rw [hlt0] at hC
      have hwr := hBr.size
      clear hx hlt0 HP
      go_upto_region 7 with fail
      go_cut [50] from 19 to 49 (fun s50 wx => s50 = .bool C ∧ Hid (Below wr.heap.size wr wx))
      case first =>
        clear b2 b3 b4 b5 b6 k2 k3 k4 k5 k6 HSK HPT
        cases d with
        | true =>
          obtain rfl : false = C := by simpa using hC
          clear hC l1 l2
          go_quiet (fail)
          try go_wp2
          go_meet
          exact ⟨rfl, below_drawn (Below.refl _ _) _⟩
        | false =>
          cases h1 : ltS r.1.1 x.1.1 with
          | true =>
            rw [h1] at hC l1
            obtain rfl : true = C := by simpa using hC
            clear hC l2 h1
            go_quiet (fail)
            try go_wp2
            go_meet
            exact ⟨rfl, below_drawn (Below.refl _ _) _⟩
          | false =>
            rw [h1] at hC l1
            cases he : (r.1.1 == x.1.1) with
            | false =>
              rw [he] at hC
              obtain rfl : false = C := by simpa using hC
              clear hC l2 h1
              go_quiet (fail)
              try go_wp2
              go_meet
              exact ⟨rfl, below_drawn (Below.refl _ _) _⟩
            | true =>
              rw [he] at hC
              obtain ⟨q2, hq2⟩ : ∃ q2, ltS r.1.2.1 x.1.2.1 = q2 := ⟨_, rfl⟩
              rw [hq2] at hC l2
              obtain rfl : q2 = C := by simpa using hC
              clear hC h1 hq2
              go_quiet (fail)
              try go_wp2
              go_meet
              exact ⟨rfl, below_drawn (Below.refl _ _) _⟩
      case rest =>
        obtain ⟨rfl, HW⟩ := hcut
        clear b0 b1 b2 b3 b4 b5 b6 k0 k1 k2 k3 k4 k5 k6 l1 l2 hC
        have HNc := Lib.hid (show NewR w1 acc (.slice a5 acc.length c5) wc from ⟨row_keep HN.out.1 fun q hq => by
          obtain ⟨_, hh⟩ := row_block HN.out.1 hq
          exact HW.out.block q (heap_lt hh), hBr.trans (HW.out.mono hwr)⟩)
        have hwc := HNc.out.2.size
        cases C with
        | true =>
          obtain ⟨b0, b1, b2, b3, b4, b5, b6⟩ := obj_box (HBX.out wc (hb1.trans (HNc.out.2.mono hb1.size)))
          have HE := Lib.hid (fun w3 v' h1 h2 => NewR.push (w3 := w3) (v' := v') (r := r) (o := .cells #[str r.1.1, str r.1.2.1, .int .i64 r.1.2.2.kind, .bool r.1.2.2.flag, str r.1.2.2.text, .slice r.2.1 r.1.2.2.items.length r.2.2.1, .slice r.2.2.2.1 r.1.2.2.keys.length r.2.2.2.2] 47) HNc.out h1 h2)
          have HOC := Lib.hid (NewR.alloc HNc.out (.cells #[str r.1.1, str r.1.2.1, .int .i64 r.1.2.2.kind, .bool r.1.2.2.flag, str r.1.2.2.text, .slice r.2.1 r.1.2.2.items.length r.2.2.1, .slice r.2.2.2.1 r.1.2.2.keys.length r.2.2.2.2] 47))
          have HCN := Lib.hid (cells_new wc [str r.1.1, str r.1.2.1, .int .i64 r.1.2.2.kind, .bool r.1.2.2.flag, str r.1.2.2.text, .slice r.2.1 r.1.2.2.items.length r.2.2.1, .slice r.2.2.2.1 r.1.2.2.keys.length r.2.2.2.2] 47)
          go_upto_region 10 with (at_builtin; refine wpList_append_fresh _ rfl (.tmp 51) (.tmp 53) 22 rfl w1.heap.size 47 i1 _ 7 112 Tryz.underlying22 hi1 hz1 hzs1 hzb1 rfl (by decide) _ acc.length (rowC acc) rfl HOC.out ⟨wc.heap.size, 0, none⟩ 1 1 [str r.1.1, str r.1.2.1, .int .i64 r.1.2.2.kind, .bool r.1.2.2.flag, str r.1.2.2.text, .slice r.2.1 r.1.2.2.items.length r.2.2.1, .slice r.2.2.2.1 r.1.2.2.keys.length r.2.2.2.2] rfl rfl HCN.out (by intro y hy; simp at hy; rcases hy with rfl | rfl | rfl | rfl | rfl | rfl | rfl <;> rfl) (by unfold maxLen; omega) (by omega) (by simp; omega) ?_; intro v' w3 hown hgrow hv')
          have HF := Lib.hid (HE.out w3 v' hown hgrow)
          obtain ⟨a3, c3, rfl⟩ := slice_form hown
          obtain ⟨_, _, e0, _, k0, k1, k2, k3, k4, k5, k6⟩ := (HL.out.mono HF.out.2).obj HX.out
          cases e0
          have hl2 : (acc ++ [r]).length = acc.length + 1 := by rw [List.length_append]; rfl
          have hr2 : rowC (acc ++ [r]) = rowC acc ++ [str r.1.1, str r.1.2.1, .int .i64 r.1.2.2.kind, .bool r.1.2.2.flag, str r.1.2.2.text, .slice r.2.1 r.1.2.2.items.length r.2.2.1, .slice r.2.2.2.1 r.1.2.2.keys.length r.2.2.2.2] := rowC_snoc acc r
          have HE2 := Lib.hid (fun w4 v' h1 h2 => NewR.push (w3 := w4) (v' := v') (r := x) (o := .cells #[str x.1.1, str x.1.2.1, .int .i64 x.1.2.2.kind, .bool x.1.2.2.flag, str x.1.2.2.text, .slice x.2.1 x.1.2.2.items.length x.2.2.1, .slice x.2.2.2.1 x.1.2.2.keys.length x.2.2.2.2] 47) HF.out h1 h2)
          have HOC2 := Lib.hid (NewR.alloc HF.out (.cells #[str x.1.1, str x.1.2.1, .int .i64 x.1.2.2.kind, .bool x.1.2.2.flag, str x.1.2.2.text, .slice x.2.1 x.1.2.2.items.length x.2.2.1, .slice x.2.2.2.1 x.1.2.2.keys.length x.2.2.2.2] 47))
          have HCN2 := Lib.hid (cells_new w3 [str x.1.1, str x.1.2.1, .int .i64 x.1.2.2.kind, .bool x.1.2.2.flag, str x.1.2.2.text, .slice x.2.1 x.1.2.2.items.length x.2.2.1, .slice x.2.2.2.1 x.1.2.2.keys.length x.2.2.2.2] 47)
          have hw3 := HF.out.2.size
          rw [hl2, hr2] at HE2 HOC2
          clear hown hgrow hv' b0 b1 b2 b3 b4 b5 b6 HE HOC HCN
          go_wp2_with (at_builtin; refine wpList_append_fresh _ rfl (.tmp 55) (.tmp 60) 22 rfl w1.heap.size 47 i1 _ 7 112 Tryz.underlying22 hi1 hz1 hzs1 hzb1 rfl (by decide) _ (acc.length + 1) (rowC acc ++ [str r.1.1, str r.1.2.1, .int .i64 r.1.2.2.kind, .bool r.1.2.2.flag, str r.1.2.2.text, .slice r.2.1 r.1.2.2.items.length r.2.2.1, .slice r.2.2.2.1 r.1.2.2.keys.length r.2.2.2.2]) rfl HOC2.out ⟨w3.heap.size, 0, none⟩ 1 1 [str x.1.1, str x.1.2.1, .int .i64 x.1.2.2.kind, .bool x.1.2.2.flag, str x.1.2.2.text, .slice x.2.1 x.1.2.2.items.length x.2.2.1, .slice x.2.2.2.1 x.1.2.2.keys.length x.2.2.2.2] rfl rfl HCN2.out (by intro y hy; simp at hy; rcases hy with rfl | rfl | rfl | rfl | rfl | rfl | rfl <;> rfl) (by unfold maxLen; omega) (by omega) (by simp; omega) ?_; intro v4 w4 hown hgrow hv')
          have HF2 := Lib.hid (HE2.out w4 v4 hown hgrow)
          have HP2 := Lib.hid (HPT.out (by first | rfl | trivial))
          have hdf : d = false := HDF.out (by first | rfl | trivial)
          have hak : acc.length ≤ k := by
            have := HAL.out
            rw [hdf] at this
            simpa using this
          clear hdf
          clear hown hgrow hv' k0 k1 k2 k3 k4 k5 k6 HE2 HOC2 HCN2 hl2 hr2
          go_wp2
          go_roundg gg
          case measure => omega
          case rel => exact ⟨k + 1, true, acc ++ [r] ++ [x], by go_num, by omega, rfl, by rw [List.length_append, List.length_append]; simp only [List.length_cons, List.length_nil, Bool.toNat_true]; omega, HF2, HP2⟩
        | false =>
          obtain ⟨_, _, e0, _, k0, k1, k2, k3, k4, k5, k6⟩ := (HL.out.mono HNc.out.2).obj HX.out
          cases e0
          have HE := Lib.hid (fun w3 v' h1 h2 => NewR.push (w3 := w3) (v' := v') (r := x) (o := .cells #[str x.1.1, str x.1.2.1, .int .i64 x.1.2.2.kind, .bool x.1.2.2.flag, str x.1.2.2.text, .slice x.2.1 x.1.2.2.items.length x.2.2.1, .slice x.2.2.2.1 x.1.2.2.keys.length x.2.2.2.2] 47) HNc.out h1 h2)
          have HOC := Lib.hid (NewR.alloc HNc.out (.cells #[str x.1.1, str x.1.2.1, .int .i64 x.1.2.2.kind, .bool x.1.2.2.flag, str x.1.2.2.text, .slice x.2.1 x.1.2.2.items.length x.2.2.1, .slice x.2.2.2.1 x.1.2.2.keys.length x.2.2.2.2] 47))
          have HCN := Lib.hid (cells_new wc [str x.1.1, str x.1.2.1, .int .i64 x.1.2.2.kind, .bool x.1.2.2.flag, str x.1.2.2.text, .slice x.2.1 x.1.2.2.items.length x.2.2.1, .slice x.2.2.2.1 x.1.2.2.keys.length x.2.2.2.2] 47)
          have HP2 := Lib.hid (HSK.out (by first | rfl | trivial))
          go_wp2_with (at_builtin; refine wpList_append_fresh _ rfl (.tmp 55) (.tmp 60) 22 rfl w1.heap.size 47 i1 _ 7 112 Tryz.underlying22 hi1 hz1 hzs1 hzb1 rfl (by decide) _ acc.length (rowC acc) rfl HOC.out ⟨wc.heap.size, 0, none⟩ 1 1 [str x.1.1, str x.1.2.1, .int .i64 x.1.2.2.kind, .bool x.1.2.2.flag, str x.1.2.2.text, .slice x.2.1 x.1.2.2.items.length x.2.2.1, .slice x.2.2.2.1 x.1.2.2.keys.length x.2.2.2.2] rfl rfl HCN.out (by intro y hy; simp at hy; rcases hy with rfl | rfl | rfl | rfl | rfl | rfl | rfl <;> rfl) (by unfold maxLen; omega) (by omega) (by simp; omega) ?_; intro v' w3 hown hgrow hv')
          have HF := Lib.hid (HE.out w3 v' hown hgrow)
          clear hown hgrow hv' k0 k1 k2 k3 k4 k5 k6 HE HOC HCN HSK HPT
          go_wp2
          go_roundg gg
          case measure => omega
          case rel => exact ⟨k + 1, d, acc ++ [x], by go_num, by omega, rfl, by have := HAL.out; rw [List.length_append]; simp only [List.length_cons, List.length_nil]; omega, HF, HP2⟩

end Go.Proofs.YtpbipngnoklmcaaGreatDoor
