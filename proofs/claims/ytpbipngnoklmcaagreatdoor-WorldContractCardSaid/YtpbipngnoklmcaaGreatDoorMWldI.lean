/- The document's world: At, without, with. The document's world: with, fails, noted. -/
import Derived.Test.YtpbipngnoklmcaaGreatDoorMWldHs
namespace Go.Proofs.YtpbipngnoklmcaaGreatDoor
open Go.RowKit
set_option maxRecDepth 100000
attribute [local go_sem] str_size str_toList str_get

/-- The place of an object; below 0: there is none. -/
def AtP (rs : List R3) (t i : S8) (z : Int) : Prop := (z = -1 ∧ hasO (osR rs) t i = false) ∨ ∃ (k : Nat) (r : R3), z = k ∧ rs[k]? = some r ∧ r.1.1 = t ∧ r.1.2.1 = i
theorem AtP.has {rs : List R3} {t i : S8} {z : Int} (h : AtP rs t i z) : decide (0 ≤ z) = hasO (osR rs) t i := by
  rcases h with ⟨rfl, h⟩ | ⟨k, r, rfl, hr, h1, h2⟩
  · rw [h]
    rfl
  · have : hasO (osR rs) t i = true := by
      unfold hasO
      rw [List.any_eq_true]
      exact ⟨r.1, List.mem_map.2 ⟨r, List.mem_of_getElem? hr, rfl⟩, isO_iff.2 ⟨h1, h2⟩⟩
    rw [this]
    simp
theorem AtP.none_of {rs : List R3} {t i : S8} (h : ∀ j r, j < rs.length → rs[j]? = some r → isO t i r.1 = false) : AtP rs t i (-1) := by
  refine .inl ⟨rfl, ?_⟩
  unfold hasO
  rw [List.any_eq_false]
  intro o ho
  obtain ⟨r, hr, rfl⟩ := List.mem_map.1 ho
  obtain ⟨j, hj⟩ := List.getElem?_of_mem hr
  rw [h j r (List.getElem?_eq_some_iff.1 hj).1 hj]
  simp

set_option maxHeartbeats 2000000 in
theorem at_r (rs : List R3) (ao : Option Addr) (co : Nat) (vx vy : Value) (t i : S8) (w : World) (h : CellsAt w (.slice ao rs.length co) rs.length (rowC rs)) :
    Calls Tryz.prog 31 #[.agg #[.slice ao rs.length co, vx, vy], str t, str i] w fun e w' => ∃ z : Int, e = .returned (.int .i64 z) ∧ AtP rs t i z ∧ Below w.heap.size w w' := by
  have H := Lib.hid h
  obtain ⟨_, _, hv, hm, _⟩ := h
  cases hv
  obtain ⟨w0, hw0⟩ : ∃ w0, w0 = w.alloc (.cells #[.slice ao rs.length co, vx, vy] 32) := ⟨_, rfl⟩
  have hn0 : w0.heap[w.heap.size]? = some (.cells #[.slice ao rs.length co, vx, vy] 32 (0, 0)) := by rw [hw0]; exact heap_alloc_new _ _
  have hb0 : Below w.heap.size w w0 := by rw [hw0]; exact (Below.refl _ w).alloc (Nat.le_refl _) _
  have e0 : w0.cell? ⟨w.heap.size, 0, none⟩ = some (.slice ao rs.length co) := by rw [Lib.cell_of_heap hn0]; rfl
  have hnm : rs.length ≤ 9223372036854775807 := by omega
  clear hn0
  go_enter Tryz.func31, Tryz.ntmps31
  go_upto_region 1 with fail
  rw [← hw0]
  clear hw0
  go_wp2
  go_loopg [11] rs.length (fun gg v11 wr => ∃ k : Nat, v11 = .int .i64 k ∧ k + gg = rs.length ∧ Hid (∀ j r, j < k → rs[j]? = some r → isO t i r.1 = false) ∧ Below w0.heap.size w0 wr)
  case atStart => exact ⟨0, rfl, by omega, (fun j r hj => by omega), Below.refl _ _⟩
  case round =>
    obtain ⟨k, rfl, hk, HN, hbr⟩ := hrel
    have hB := hb0.trans (hbr.mono hb0.size)
    have hlw : w.heap.size < w0.heap.size := by
      have := World.block_lt_of_cell? w0 _ e0
      exact this
    have d0 := (hbr.cell (p := ⟨w.heap.size, 0, none⟩) hlw).trans e0
    cases gk with
    | zero =>
      obtain rfl : k = rs.length := by omega
      go_wp2
      go_ret
      exact ⟨-1, rfl, AtP.none_of HN.out, hB⟩
    | succ gg =>
      have hkl : k < rs.length := by omega
      have hki : (k : Int) < (rs.length : Int) := by omega
      obtain ⟨r, hr⟩ : ∃ r, rs[k]? = some r := ⟨_, List.getElem?_eq_getElem hkl⟩
      obtain ⟨b, off, rfl, hlt, k0, k1, _⟩ := (H.out.mono hB).obj hr
      have HK := Lib.hid hr
      clear hr
      by_cases h1 : r.1.1 = t
      · by_cases h2 : r.1.2.1 = i
        · have HR := Lib.hid (.inr ⟨k, r, rfl, HK.out, h1, h2⟩ : AtP rs t i k)
          rw [h1] at k0
          rw [h2] at k1
          clear h1 h2
          go_wp2
          go_ret
          exact ⟨_, rfl, HR.out, hB⟩
        · have q2 : (r.1.2.1 == i) = false := by simpa using h2
          have HS := Lib.hid (show ∀ j r', j < k + 1 → rs[j]? = some r' → isO t i r'.1 = false from fun j r' hj hr' => by
            by_cases hjk : j = k
            · subst hjk
              rw [HK.out] at hr'
              cases hr'
              exact isO_of_ne fun e => h2 e.2
            · exact HN.out j r' (by omega) hr')
          rw [h1] at k0
          clear h1 h2
          go_wp2
          go_roundg gg
          case measure => omega
          case rel => exact ⟨k + 1, by go_num, by omega, HS, hbr⟩
      · have q1 : (r.1.1 == t) = false := by simpa using h1
        have HS := Lib.hid (show ∀ j r', j < k + 1 → rs[j]? = some r' → isO t i r'.1 = false from fun j r' hj hr' => by
          by_cases hjk : j = k
          · subst hjk
            rw [HK.out] at hr'
            cases hr'
            exact isO_of_ne fun e => h1 e.1
          · exact HN.out j r' (by omega) hr')
        clear h1
        go_wp2
        go_roundg gg
        case measure => omega
        case rel => exact ⟨k + 1, by go_num, by omega, HS, hbr⟩

/-- A new row of objects. -/
def NewR (w : World) (rs : List R3) (v' : Value) (w' : World) : Prop := w'.ownsRow w.heap.size 47 7 v' rs.length (rowC rs) ∧ Below w.heap.size w w'
theorem NewR.nil (w : World) : NewR w [] (.slice none 0 0) w := ⟨World.ownsRow_nil _ _ _ _, Below.refl _ _⟩
theorem NewR.push {w wr w3 : World} {rs : List R3} {r : R3} {vo v' : Value} {o : Obj} (h : NewR w rs vo wr) (hown : w3.ownsRow w.heap.size 47 7 v' (rs.length + 1) (rowC rs ++ rcells r)) (hg : (wr.alloc o).grownBy w3 vo.ownBlock) : NewR w (rs ++ [r]) v' w3 := by
  refine ⟨?_, ?_⟩
  · rw [List.length_append, rowC_snoc]
    exact hown
  · have hb1 : Below w.heap.size w (wr.alloc o) := h.2.alloc h.2.size _
    exact hb1.grown hg hb1.size fun k e => (h.1.lt k e).1
theorem NewR.alloc {w wr : World} {rs : List R3} {vo : Value} (h : NewR w rs vo wr) (o : Obj) : (wr.alloc o).ownsRow w.heap.size 47 7 vo rs.length (rowC rs) := row_keep h.1 fun q hq => by
  obtain ⟨_, hh⟩ := row_block h.1 hq
  exact Below.heap_alloc _ _ q (heap_lt hh)

theorem outR_take (rs : List R3) (t i : S8) {k : Nat} {r : R3} (hr : rs[k]? = some r) : outR (rs.take (k + 1)) t i = if isO t i r.1 = true then outR (rs.take k) t i else outR (rs.take k) t i ++ [r] := by
  unfold outR
  rw [List.take_add_one, hr, List.filter_append]
  cases h : isO t i r.1 <;> simp [h]

set_option maxHeartbeats 2000000 in
theorem without_r (rs : List R3) (ao : Option Addr) (co : Nat) (t i : S8) (w : World) (h : CellsAt w (.slice ao rs.length co) rs.length (rowC rs)) (hl : rs.length ≤ 1000000) :
    Calls Tryz.prog 63 #[.slice ao rs.length co, str t, str i] w fun e w' => ∃ v', e = .returned v' ∧ NewR w (outR rs t i) v' w' := by
  obtain ⟨i1, hi1, hz1, hzs1, hzb1⟩ := info_parts (P := Tryz.prog) (e := 47) (z := .agg #[.string ⟨#[]⟩, .string ⟨#[]⟩, .int .i64 0, .bool false, .string ⟨#[]⟩, .slice none 0 0, .slice none 0 0]) (size := 7) (bytes := 112) (by kernel_rfl)
  have H := Lib.hid h
  obtain ⟨_, _, hv, hm, _⟩ := h
  cases hv
  have hnm : rs.length ≤ 9223372036854775807 := by omega
  go_enter Tryz.func63, Tryz.ntmps63
  go_wp2
  go_loopg [7, 11] rs.length (fun gg v7 v11 wr => ∃ k : Nat, v11 = .int .i64 k ∧ k + gg = rs.length ∧ Hid (NewR w (outR (rs.take k) t i) v7 wr))
  case atStart => exact ⟨0, rfl, by omega, NewR.nil w⟩
  case round =>
    obtain ⟨k, rfl, hk, HN⟩ := hrel
    have hB := HN.out.2
    cases gk with
    | zero =>
      obtain rfl : k = rs.length := by omega
      have := HN.out
      rw [List.take_length] at this
      have HF := Lib.hid this
      clear this
      go_wp2
      go_ret
      exact ⟨_, rfl, HF.out⟩
    | succ gg =>
      have hkl : k < rs.length := by omega
      have hki : (k : Int) < (rs.length : Int) := by omega
      obtain ⟨r, hr⟩ : ∃ r, rs[k]? = some r := ⟨_, List.getElem?_eq_getElem hkl⟩
      obtain ⟨b, off, rfl, hlt, k0, k1, k2, k3, k4, k5, k6⟩ := (H.out.mono hB).obj hr
      have hs := outR_take rs t i hr
      have hol : (outR (rs.take k) t i).length ≤ k := Nat.le_trans (len_outR _ _ _) (by rw [List.length_take]; omega)
      have hwr := hB.size
      obtain ⟨ai1, ci1, rfl⟩ := slice_form HN.out.1
      have HP := fun w3 v' o => NewR.push (w3 := w3) (v' := v') (r := r) (o := o) HN.out
      have HO := fun o => NewR.alloc HN.out o
      generalize outR (rs.take k) t i = acc at HN hs hol HP HO
      have HS := Lib.hid hs
      have HPH := Lib.hid HP
      have HOH := Lib.hid HO
      clear hr hs HP HO
      by_cases hc : r.1.1 = t ∧ r.1.2.1 = i
      · obtain ⟨h1, h2⟩ := hc
        have hs := HS.out
        rw [if_pos (isO_iff.2 ⟨h1, h2⟩)] at hs
        have HS2 := Lib.hid hs
        clear hs
        rw [h1] at k0
        rw [h2] at k1
        have n1 : (t != t) = false := by simp
        have n2 : (i != i) = false := by simp
        clear HS HPH HOH h1 h2
        go_wp2
        go_roundg gg
        case measure => omega
        case rel => exact ⟨k + 1, by go_num, by omega, Lib.hid (by rw [HS2.out]; exact HN.out)⟩
      · have hs := HS.out
        rw [if_neg (by rw [isO_iff]; exact hc)] at hs
        have HS2 := Lib.hid hs
        clear HS hs
        have hqq : (r.1.1 != t) = true ∨ (r.1.1 = t ∧ (r.1.2.1 != i) = true) := by
          by_cases e1 : r.1.1 = t
          · exact .inr ⟨e1, by simpa [bne] using fun e => hc ⟨e1, e⟩⟩
          · exact .inl (by simpa [bne] using e1)
        clear hc
        have hend : ∀ w3 v', w3.ownsRow w.heap.size 47 7 v' (acc.length + 1) (rowC acc ++ [str r.1.1, str r.1.2.1, .int .i64 r.1.2.2.kind, .bool r.1.2.2.flag, str r.1.2.2.text, .slice r.2.1 r.1.2.2.items.length r.2.2.1, .slice r.2.2.2.1 r.1.2.2.keys.length r.2.2.2.2]) → (wr.alloc (.cells #[str r.1.1, str r.1.2.1, .int .i64 r.1.2.2.kind, .bool r.1.2.2.flag, str r.1.2.2.text, .slice r.2.1 r.1.2.2.items.length r.2.2.1, .slice r.2.2.2.1 r.1.2.2.keys.length r.2.2.2.2] 47)).grownBy w3 (Value.slice ai1 acc.length ci1).ownBlock → NewR w (outR (rs.take (k + 1)) t i) v' w3 := fun w3 v' h1 h2 => by
          rw [HS2.out]
          exact HPH.out w3 v' _ h1 h2
        have HE := Lib.hid hend
        have HOC := Lib.hid (HOH.out (.cells #[str r.1.1, str r.1.2.1, .int .i64 r.1.2.2.kind, .bool r.1.2.2.flag, str r.1.2.2.text, .slice r.2.1 r.1.2.2.items.length r.2.2.1, .slice r.2.2.2.1 r.1.2.2.keys.length r.2.2.2.2] 47))
        have HCN := Lib.hid (cells_new wr [str r.1.1, str r.1.2.1, .int .i64 r.1.2.2.kind, .bool r.1.2.2.flag, str r.1.2.2.text, .slice r.2.1 r.1.2.2.items.length r.2.2.1, .slice r.2.2.2.1 r.1.2.2.keys.length r.2.2.2.2] 47)
        clear hend HPH HOH HS2
        rcases hqq with hq1 | ⟨rfl, hq2⟩
        · have hq3 : (r.1.1 == t) = false := by simpa [bne] using hq1
          go_wp2_with (at_builtin; refine wpList_append_fresh _ rfl (.tmp 30) (.tmp 35) 22 rfl w.heap.size 47 i1 _ 7 112 Tryz.underlying22 hi1 hz1 hzs1 hzb1 rfl (by decide) _ acc.length (rowC acc) rfl HOC.out ⟨wr.heap.size, 0, none⟩ 1 1 [str r.1.1, str r.1.2.1, .int .i64 r.1.2.2.kind, .bool r.1.2.2.flag, str r.1.2.2.text, .slice r.2.1 r.1.2.2.items.length r.2.2.1, .slice r.2.2.2.1 r.1.2.2.keys.length r.2.2.2.2] rfl rfl HCN.out (by intro y hy; simp at hy; rcases hy with rfl | rfl | rfl | rfl | rfl | rfl | rfl <;> rfl) (by unfold maxLen; omega) (by omega) (by simp; omega) ?_; intro v' w3 hown hgrow hv')
          have HF := Lib.hid (HE.out w3 v' hown hgrow)
          clear hown hgrow hv'
          go_wp2
          go_roundg gg
          case measure => omega
          case rel => exact ⟨k + 1, by go_num, by omega, HF⟩
        · have hq1 : (r.1.1 != r.1.1) = false := by simp
          have hq4 : (r.1.2.1 == i) = false := by simpa [bne] using hq2
          go_wp2_with (at_builtin; refine wpList_append_fresh _ rfl (.tmp 30) (.tmp 35) 22 rfl w.heap.size 47 i1 _ 7 112 Tryz.underlying22 hi1 hz1 hzs1 hzb1 rfl (by decide) _ acc.length (rowC acc) rfl HOC.out ⟨wr.heap.size, 0, none⟩ 1 1 [str r.1.1, str r.1.2.1, .int .i64 r.1.2.2.kind, .bool r.1.2.2.flag, str r.1.2.2.text, .slice r.2.1 r.1.2.2.items.length r.2.2.1, .slice r.2.2.2.1 r.1.2.2.keys.length r.2.2.2.2] rfl rfl HCN.out (by intro y hy; simp at hy; rcases hy with rfl | rfl | rfl | rfl | rfl | rfl | rfl <;> rfl) (by unfold maxLen; omega) (by omega) (by simp; omega) ?_; intro v' w3 hown hgrow hv')
          have HF := Lib.hid (HE.out w3 v' hown hgrow)
          clear hown hgrow hv'
          go_wp2
          go_roundg gg
          case measure => omega
          case rel => exact ⟨k + 1, by go_num, by omega, HF⟩

end Go.Proofs.YtpbipngnoklmcaaGreatDoor
namespace Go.Proofs.YtpbipngnoklmcaaGreatDoor
open Go.RowKit
set_option maxRecDepth 100000
attribute [local go_sem] str_size str_toList str_get

theorem row_base {w : World} {base base' e size n : Nat} {v : Value} {xs : List Value} (h : w.ownsRow base e size v n xs) (hle : base' ≤ base) : w.ownsRow base' e size v n xs := by
  refine ⟨h.1, ?_⟩
  rcases h.2 with h2 | ⟨g, cap, cur, h1, hg, r⟩
  · exact .inl h2
  · exact .inr ⟨g, cap, cur, h1, Nat.le_trans hle hg, r⟩
theorem NewR.weaken {w w1 w2 : World} {rs : List R3} {v : Value} (hb : Below w.heap.size w w1) (h : NewR w1 rs v w2) : NewR w rs v w2 := ⟨row_base h.1 hb.size, hb.trans (h.2.mono hb.size)⟩
theorem NewR.drawn {w wr : World} {rs : List R3} {v : Value} (h : NewR w rs v wr) (k : Nat) : NewR w rs v (wr.drewN k) := ⟨row_keep h.1 fun _ _ => rfl, below_drawn h.2 k⟩
/-- Where an object is put in. -/
def insP (r : R3) (ls : List R3) (d : Bool) (k : Nat) (acc : List R3) : Prop := if d = true then acc ++ ls.drop k = insR r ls else acc ++ insR r (ls.drop k) = insR r ls
theorem insP.start (r : R3) (ls : List R3) : insP r ls false 0 [] := by unfold insP; simp
theorem insP.done {r : R3} {ls : List R3} {acc : List R3} (h : insP r ls true ls.length acc) : acc = insR r ls := by
  unfold insP at h
  rw [if_pos rfl, List.drop_length, List.append_nil] at h
  exact h
theorem insP.last {r : R3} {ls : List R3} {acc : List R3} (h : insP r ls false ls.length acc) : acc ++ [r] = insR r ls := by
  unfold insP at h
  rw [if_neg (by simp), List.drop_length] at h
  exact h
theorem insP.skip {r x : R3} {ls : List R3} {d : Bool} {k : Nat} {acc : List R3} (h : insP r ls d k acc) (hx : ls[k]? = some x) (hc : (!d && ltO r.1 x.1) = false) : insP r ls d (k + 1) (acc ++ [x]) := by
  obtain ⟨hk, rfl⟩ := List.getElem?_eq_some_iff.1 hx
  unfold insP at h ⊢
  rw [List.drop_eq_getElem_cons hk] at h
  cases d with
  | true =>
    rw [if_pos rfl] at h ⊢
    rw [← h, List.append_assoc]
    rfl
  | false =>
    rw [if_neg (by simp)] at h ⊢
    have hc : ltO r.1 ls[k].1 = false := by simpa using hc
    rw [insR, if_neg (by rw [hc]; simp)] at h
    rw [← h, List.append_assoc]
    rfl
theorem insP.put {r x : R3} {ls : List R3} {d : Bool} {k : Nat} {acc : List R3} (h : insP r ls d k acc) (hx : ls[k]? = some x) (hc : (!d && ltO r.1 x.1) = true) : insP r ls true (k + 1) (acc ++ [r] ++ [x]) := by
  obtain ⟨hk, rfl⟩ := List.getElem?_eq_some_iff.1 hx
  obtain ⟨h1, h2⟩ := (Bool.and_eq_true _ _).mp hc
  obtain rfl : d = false := by simpa using h1
  unfold insP at h ⊢
  rw [List.drop_eq_getElem_cons hk] at h
  rw [if_neg (by simp), insR, if_pos h2] at h
  rw [if_pos rfl, ← h]
  simp

theorem obj_box {w : World} {g : Nat} {c0 c1 c2 c3 c4 c5 c6 : Value} {T : TypeId} (h : w.heap[g]? = some (.cells #[c0, c1, c2, c3, c4, c5, c6] T (0, 0))) : w.cell? ⟨g, 0, none⟩ = some c0 ∧ w.cell? ⟨g, 1, none⟩ = some c1 ∧ w.cell? ⟨g, 2, none⟩ = some c2 ∧ w.cell? ⟨g, 3, none⟩ = some c3 ∧ w.cell? ⟨g, 4, none⟩ = some c4 ∧ w.cell? ⟨g, 5, none⟩ = some c5 ∧ w.cell? ⟨g, 6, none⟩ = some c6 := by
  refine ⟨?_, ?_, ?_, ?_, ?_, ?_, ?_⟩ <;> (rw [Lib.cell_of_heap h]; rfl)

set_option maxHeartbeats 4000000 in
theorem with_r (rs : List R3) (r : R3) (ao : Option Addr) (co : Nat) (w : World) (h : CellsAt w (.slice ao rs.length co) rs.length (rowC rs)) (hl : rs.length ≤ 100000) :
    Calls Tryz.prog 32 #[.slice ao rs.length co, .agg #[str r.1.1, str r.1.2.1, .int .i64 r.1.2.2.kind, .bool r.1.2.2.flag, str r.1.2.2.text, .slice r.2.1 r.1.2.2.items.length r.2.2.1, .slice r.2.2.2.1 r.1.2.2.keys.length r.2.2.2.2]] w fun e w' => ∃ v', e = .returned v' ∧ NewR w (withR rs r) v' w' := by
  have mixed : Tryz.prog.follows .mixedOrders = true := by kernel_rfl
  obtain ⟨i1, hi1, hz1, hzs1, hzb1⟩ := info_parts (P := Tryz.prog) (e := 47) (z := .agg #[.string ⟨#[]⟩, .string ⟨#[]⟩, .int .i64 0, .bool false, .string ⟨#[]⟩, .slice none 0 0, .slice none 0 0]) (size := 7) (bytes := 112) (by kernel_rfl)
  obtain ⟨wB, hwB⟩ : ∃ wB, wB = w.alloc (.cells #[str r.1.1, str r.1.2.1, .int .i64 r.1.2.2.kind, .bool r.1.2.2.flag, str r.1.2.2.text, .slice r.2.1 r.1.2.2.items.length r.2.2.1, .slice r.2.2.2.1 r.1.2.2.keys.length r.2.2.2.2] 47) := ⟨_, rfl⟩
  have hnB : wB.heap[w.heap.size]? = some (.cells #[str r.1.1, str r.1.2.1, .int .i64 r.1.2.2.kind, .bool r.1.2.2.flag, str r.1.2.2.text, .slice r.2.1 r.1.2.2.items.length r.2.2.1, .slice r.2.2.2.1 r.1.2.2.keys.length r.2.2.2.2] 47 (0, 0)) := by rw [hwB]; exact heap_alloc_new _ _
  have hbB : Below w.heap.size w wB := by rw [hwB]; exact (Below.refl _ w).alloc (Nat.le_refl _) _
  have hlB := heap_lt hnB
  have WO := without_r rs ao co r.1.1 r.1.2.1 wB (h.mono hbB) (by omega)
  have HBX : Hid (∀ W, Below wB.heap.size wB W → W.heap[w.heap.size]? = some (.cells #[str r.1.1, str r.1.2.1, .int .i64 r.1.2.2.kind, .bool r.1.2.2.flag, str r.1.2.2.text, .slice r.2.1 r.1.2.2.items.length r.2.2.1, .slice r.2.2.2.1 r.1.2.2.keys.length r.2.2.2.2] 47 (0, 0))) := fun W hW => (hW.block _ hlB).trans hnB
  obtain ⟨b0, b1, _⟩ := obj_box hnB
  have hlen := len_outR rs r.1.1 r.1.2.1
  have hwd : withR rs r = insR r (outR rs r.1.1 r.1.2.1) := rfl
  rw [hwd]
  clear hwd h
  generalize outR rs r.1.1 r.1.2.1 = ls at WO hlen ⊢
  have hll : ls.length ≤ 100000 := by omega
  clear hnB hlen
  go_enter Tryz.func32, Tryz.ntmps32
  go_upto_region 1 with fail
  rw [← hwB]
  clear hwB
  go_wp2_with fail
  refine WO.mono ?_
  rintro e w1 ⟨v1, rfl, hN1⟩
  obtain ⟨a1, c1, rfl⟩ := slice_form hN1.1
  have hb1 := hN1.2
  have hbw1 := hbB.trans (hb1.mono hbB.size)
  have HL := Lib.hid (CellsAt.row hN1.1)
  have hwB1 := hb1.size
  clear WO b0 b1 hN1
  go_wp2
  go_loopg [5, 6, 16] ls.length (fun gg v5 v6 v16 wr => ∃ (k : Nat) (d : Bool) (acc : List R3), v16 = .int .i64 k ∧ k + gg = ls.length ∧ v6 = .bool d ∧ acc.length ≤ k + d.toNat ∧ Hid (NewR w1 acc v5 wr) ∧ Hid (insP r ls d k acc))
  case atStart => exact ⟨0, false, [], rfl, by omega, rfl, by simp, NewR.nil w1, insP.start r ls⟩
  case round =>
    obtain ⟨k, d, acc, rfl, hk, rfl, hal0, HN, HP⟩ := hrel
    have hal : acc.length ≤ k + 1 := Nat.le_trans hal0 (by cases d <;> simp)
    have HAL := Lib.hid hal0
    clear hal0
    obtain ⟨a5, c5, rfl⟩ := slice_form HN.out.1
    have hBr := HN.out.2
    have hBrB := hb1.trans (hBr.mono hb1.size)
    obtain ⟨b0, b1, b2, b3, b4, b5, b6⟩ := obj_box (HBX.out wr hBrB)
    cases gk with
    | zero =>
      obtain rfl : k = ls.length := by omega
      cases d with
      | true =>
        have HF := Lib.hid (show NewR w (insR r ls) (.slice a5 acc.length c5) wr by
          have := HP.out.done
          rw [← this]
          exact NewR.weaken hbw1 HN.out)
        clear HP HN b0 b1 b2 b3 b4 b5 b6
        go_wp2
        go_ret
        exact ⟨_, rfl, HF.out⟩
      | false =>
        have HE := Lib.hid (fun w3 v' h1 h2 => NewR.weaken hbw1 (NewR.push (w3 := w3) (v' := v') (r := r) (o := .cells #[str r.1.1, str r.1.2.1, .int .i64 r.1.2.2.kind, .bool r.1.2.2.flag, str r.1.2.2.text, .slice r.2.1 r.1.2.2.items.length r.2.2.1, .slice r.2.2.2.1 r.1.2.2.keys.length r.2.2.2.2] 47) HN.out h1 h2))
        have HLA := HP.out.last
        rw [HLA] at HE
        have HOC := Lib.hid (NewR.alloc HN.out (.cells #[str r.1.1, str r.1.2.1, .int .i64 r.1.2.2.kind, .bool r.1.2.2.flag, str r.1.2.2.text, .slice r.2.1 r.1.2.2.items.length r.2.2.1, .slice r.2.2.2.1 r.1.2.2.keys.length r.2.2.2.2] 47))
        have HCN := Lib.hid (cells_new wr [str r.1.1, str r.1.2.1, .int .i64 r.1.2.2.kind, .bool r.1.2.2.flag, str r.1.2.2.text, .slice r.2.1 r.1.2.2.items.length r.2.2.1, .slice r.2.2.2.1 r.1.2.2.keys.length r.2.2.2.2] 47)
        have hwr := hBr.size
        clear HP HN HLA
        go_wp2_with (at_builtin; refine wpList_append_fresh _ rfl (.tmp 65) (.tmp 67) 22 rfl w1.heap.size 47 i1 _ 7 112 Tryz.underlying22 hi1 hz1 hzs1 hzb1 rfl (by decide) _ acc.length (rowC acc) rfl HOC.out ⟨wr.heap.size, 0, none⟩ 1 1 [str r.1.1, str r.1.2.1, .int .i64 r.1.2.2.kind, .bool r.1.2.2.flag, str r.1.2.2.text, .slice r.2.1 r.1.2.2.items.length r.2.2.1, .slice r.2.2.2.1 r.1.2.2.keys.length r.2.2.2.2] rfl rfl HCN.out (by intro y hy; simp at hy; rcases hy with rfl | rfl | rfl | rfl | rfl | rfl | rfl <;> rfl) (by unfold maxLen; omega) (by omega) (by simp; omega) ?_; intro v' w3 hown hgrow hv')
        have HF := Lib.hid (HE.out w3 v' hown hgrow)
        clear hown hgrow hv' b0 b1 b2 b3 b4 b5 b6
        go_wp2
        go_ret
        exact ⟨_, rfl, HF.out⟩
    | succ gg =>
      have hkl : k < ls.length := by omega
      have hki : (k : Int) < (ls.length : Int) := by omega
      obtain ⟨x, hx⟩ : ∃ x, ls[k]? = some x := ⟨_, List.getElem?_eq_getElem hkl⟩
      obtain ⟨bb, off, rfl, hlt, k0, k1, k2, k3, k4, k5, k6⟩ := (HL.out.mono hBr).obj hx
      obtain ⟨C, hC⟩ : ∃ C, (!d && ltO r.1 x.1) = C := ⟨_, rfl⟩
      have hlt0 : ltO r.1 x.1 = (ltS r.1.1 x.1.1 || (r.1.1 == x.1.1 && ltS r.1.2.1 x.1.2.1)) := rfl
      have l1 := bytesLess_eq r.1.1 x.1.1
      have l2 := bytesLess_eq r.1.2.1 x.1.2.1
      have HSK := Lib.hid (fun hc => HP.out.skip (x := x) hx hc)
      have HPT := Lib.hid (fun hc => HP.out.put (x := x) hx hc)
      rw [hC] at HSK HPT
      have HX := Lib.hid hx
      have HDF : Hid (C = true → d = false) := fun h => by
        rw [h] at hC
        simpa using ((Bool.and_eq_true _ _).mp hC).1
      rw [hlt0] at hC
      have hwr := hBr.size
      clear hx hlt0 HP
      go_upto_region 7 with fail
      go_cut [50] from 19 to 49 (fun s50 wx => s50 = .bool C ∧ Hid (Below wr.heap.size wr wx))
      case first =>
        clear b2 b3 b4 b5 b6 k2 k3 k4 k5 k6 HSK HPT
        cases d with
        | true =>
          obtain rfl : false = C := by simpa using hC
          clear hC l1 l2
          go_quiet (fail)
          try go_wp2
          go_meet
          exact ⟨rfl, below_drawn (Below.refl _ _) _⟩
        | false =>
          cases h1 : ltS r.1.1 x.1.1 with
          | true =>
            rw [h1] at hC l1
            obtain rfl : true = C := by simpa using hC
            clear hC l2 h1
            go_quiet (fail)
            try go_wp2
            go_meet
            exact ⟨rfl, below_drawn (Below.refl _ _) _⟩
          | false =>
            rw [h1] at hC l1
            cases he : (r.1.1 == x.1.1) with
            | false =>
              rw [he] at hC
              obtain rfl : false = C := by simpa using hC
              clear hC l2 h1
              go_quiet (fail)
              try go_wp2
              go_meet
              exact ⟨rfl, below_drawn (Below.refl _ _) _⟩
            | true =>
              rw [he] at hC
              obtain ⟨q2, hq2⟩ : ∃ q2, ltS r.1.2.1 x.1.2.1 = q2 := ⟨_, rfl⟩
              rw [hq2] at hC l2
              obtain rfl : q2 = C := by simpa using hC
              clear hC h1 hq2
              go_quiet (fail)
              try go_wp2
              go_meet
              exact ⟨rfl, below_drawn (Below.refl _ _) _⟩
      case rest =>
        obtain ⟨rfl, HW⟩ := hcut
        clear b0 b1 b2 b3 b4 b5 b6 k0 k1 k2 k3 k4 k5 k6 l1 l2 hC
        have HNc := Lib.hid (show NewR w1 acc (.slice a5 acc.length c5) wc from ⟨row_keep HN.out.1 fun q hq => by
          obtain ⟨_, hh⟩ := row_block HN.out.1 hq
          exact HW.out.block q (heap_lt hh), hBr.trans (HW.out.mono hwr)⟩)
        have hwc := HNc.out.2.size
        cases C with
        | true =>
          obtain ⟨b0, b1, b2, b3, b4, b5, b6⟩ := obj_box (HBX.out wc (hb1.trans (HNc.out.2.mono hb1.size)))
          have HE := Lib.hid (fun w3 v' h1 h2 => NewR.push (w3 := w3) (v' := v') (r := r) (o := .cells #[str r.1.1, str r.1.2.1, .int .i64 r.1.2.2.kind, .bool r.1.2.2.flag, str r.1.2.2.text, .slice r.2.1 r.1.2.2.items.length r.2.2.1, .slice r.2.2.2.1 r.1.2.2.keys.length r.2.2.2.2] 47) HNc.out h1 h2)
          have HOC := Lib.hid (NewR.alloc HNc.out (.cells #[str r.1.1, str r.1.2.1, .int .i64 r.1.2.2.kind, .bool r.1.2.2.flag, str r.1.2.2.text, .slice r.2.1 r.1.2.2.items.length r.2.2.1, .slice r.2.2.2.1 r.1.2.2.keys.length r.2.2.2.2] 47))
          have HCN := Lib.hid (cells_new wc [str r.1.1, str r.1.2.1, .int .i64 r.1.2.2.kind, .bool r.1.2.2.flag, str r.1.2.2.text, .slice r.2.1 r.1.2.2.items.length r.2.2.1, .slice r.2.2.2.1 r.1.2.2.keys.length r.2.2.2.2] 47)
          go_upto_region 10 with (at_builtin; refine wpList_append_fresh _ rfl (.tmp 51) (.tmp 53) 22 rfl w1.heap.size 47 i1 _ 7 112 Tryz.underlying22 hi1 hz1 hzs1 hzb1 rfl (by decide) _ acc.length (rowC acc) rfl HOC.out ⟨wc.heap.size, 0, none⟩ 1 1 [str r.1.1, str r.1.2.1, .int .i64 r.1.2.2.kind, .bool r.1.2.2.flag, str r.1.2.2.text, .slice r.2.1 r.1.2.2.items.length r.2.2.1, .slice r.2.2.2.1 r.1.2.2.keys.length r.2.2.2.2] rfl rfl HCN.out (by intro y hy; simp at hy; rcases hy with rfl | rfl | rfl | rfl | rfl | rfl | rfl <;> rfl) (by unfold maxLen; omega) (by omega) (by simp; omega) ?_; intro v' w3 hown hgrow hv')
          have HF := Lib.hid (HE.out w3 v' hown hgrow)
          obtain ⟨a3, c3, rfl⟩ := slice_form hown
          obtain ⟨_, _, e0, _, k0, k1, k2, k3, k4, k5, k6⟩ := (HL.out.mono HF.out.2).obj HX.out
          cases e0
          have hl2 : (acc ++ [r]).length = acc.length + 1 := by rw [List.length_append]; rfl
          have hr2 : rowC (acc ++ [r]) = rowC acc ++ [str r.1.1, str r.1.2.1, .int .i64 r.1.2.2.kind, .bool r.1.2.2.flag, str r.1.2.2.text, .slice r.2.1 r.1.2.2.items.length r.2.2.1, .slice r.2.2.2.1 r.1.2.2.keys.length r.2.2.2.2] := rowC_snoc acc r
          have HE2 := Lib.hid (fun w4 v' h1 h2 => NewR.push (w3 := w4) (v' := v') (r := x) (o := .cells #[str x.1.1, str x.1.2.1, .int .i64 x.1.2.2.kind, .bool x.1.2.2.flag, str x.1.2.2.text, .slice x.2.1 x.1.2.2.items.length x.2.2.1, .slice x.2.2.2.1 x.1.2.2.keys.length x.2.2.2.2] 47) HF.out h1 h2)
          have HOC2 := Lib.hid (NewR.alloc HF.out (.cells #[str x.1.1, str x.1.2.1, .int .i64 x.1.2.2.kind, .bool x.1.2.2.flag, str x.1.2.2.text, .slice x.2.1 x.1.2.2.items.length x.2.2.1, .slice x.2.2.2.1 x.1.2.2.keys.length x.2.2.2.2] 47))
          have HCN2 := Lib.hid (cells_new w3 [str x.1.1, str x.1.2.1, .int .i64 x.1.2.2.kind, .bool x.1.2.2.flag, str x.1.2.2.text, .slice x.2.1 x.1.2.2.items.length x.2.2.1, .slice x.2.2.2.1 x.1.2.2.keys.length x.2.2.2.2] 47)
          have hw3 := HF.out.2.size
          rw [hl2, hr2] at HE2 HOC2
          clear hown hgrow hv' b0 b1 b2 b3 b4 b5 b6 HE HOC HCN
          go_wp2_with (at_builtin; refine wpList_append_fresh _ rfl (.tmp 55) (.tmp 60) 22 rfl w1.heap.size 47 i1 _ 7 112 Tryz.underlying22 hi1 hz1 hzs1 hzb1 rfl (by decide) _ (acc.length + 1) (rowC acc ++ [str r.1.1, str r.1.2.1, .int .i64 r.1.2.2.kind, .bool r.1.2.2.flag, str r.1.2.2.text, .slice r.2.1 r.1.2.2.items.length r.2.2.1, .slice r.2.2.2.1 r.1.2.2.keys.length r.2.2.2.2]) rfl HOC2.out ⟨w3.heap.size, 0, none⟩ 1 1 [str x.1.1, str x.1.2.1, .int .i64 x.1.2.2.kind, .bool x.1.2.2.flag, str x.1.2.2.text, .slice x.2.1 x.1.2.2.items.length x.2.2.1, .slice x.2.2.2.1 x.1.2.2.keys.length x.2.2.2.2] rfl rfl HCN2.out (by intro y hy; simp at hy; rcases hy with rfl | rfl | rfl | rfl | rfl | rfl | rfl <;> rfl) (by unfold maxLen; omega) (by omega) (by simp; omega) ?_; intro v4 w4 hown hgrow hv')
          have HF2 := Lib.hid (HE2.out w4 v4 hown hgrow)
          have HP2 := Lib.hid (HPT.out (by first | rfl | trivial))
          have hdf : d = false := HDF.out (by first | rfl | trivial)
          have hak : acc.length ≤ k := by
            have := HAL.out
            rw [hdf] at this
            simpa using this
          clear hdf
          clear hown hgrow hv' k0 k1 k2 k3 k4 k5 k6 HE2 HOC2 HCN2 hl2 hr2
          go_wp2
          go_roundg gg
          case measure => omega
          case rel => exact ⟨k + 1, true, acc ++ [r] ++ [x], by go_num, by omega, rfl, by rw [List.length_append, List.length_append]; simp only [List.length_cons, List.length_nil, Bool.toNat_true]; omega, HF2, HP2⟩
        | false =>
          obtain ⟨_, _, e0, _, k0, k1, k2, k3, k4, k5, k6⟩ := (HL.out.mono HNc.out.2).obj HX.out
          cases e0
          have HE := Lib.hid (fun w3 v' h1 h2 => NewR.push (w3 := w3) (v' := v') (r := x) (o := .cells #[str x.1.1, str x.1.2.1, .int .i64 x.1.2.2.kind, .bool x.1.2.2.flag, str x.1.2.2.text, .slice x.2.1 x.1.2.2.items.length x.2.2.1, .slice x.2.2.2.1 x.1.2.2.keys.length x.2.2.2.2] 47) HNc.out h1 h2)
          have HOC := Lib.hid (NewR.alloc HNc.out (.cells #[str x.1.1, str x.1.2.1, .int .i64 x.1.2.2.kind, .bool x.1.2.2.flag, str x.1.2.2.text, .slice x.2.1 x.1.2.2.items.length x.2.2.1, .slice x.2.2.2.1 x.1.2.2.keys.length x.2.2.2.2] 47))
          have HCN := Lib.hid (cells_new wc [str x.1.1, str x.1.2.1, .int .i64 x.1.2.2.kind, .bool x.1.2.2.flag, str x.1.2.2.text, .slice x.2.1 x.1.2.2.items.length x.2.2.1, .slice x.2.2.2.1 x.1.2.2.keys.length x.2.2.2.2] 47)
          have HP2 := Lib.hid (HSK.out (by first | rfl | trivial))
          go_wp2_with (at_builtin; refine wpList_append_fresh _ rfl (.tmp 55) (.tmp 60) 22 rfl w1.heap.size 47 i1 _ 7 112 Tryz.underlying22 hi1 hz1 hzs1 hzb1 rfl (by decide) _ acc.length (rowC acc) rfl HOC.out ⟨wc.heap.size, 0, none⟩ 1 1 [str x.1.1, str x.1.2.1, .int .i64 x.1.2.2.kind, .bool x.1.2.2.flag, str x.1.2.2.text, .slice x.2.1 x.1.2.2.items.length x.2.2.1, .slice x.2.2.2.1 x.1.2.2.keys.length x.2.2.2.2] rfl rfl HCN.out (by intro y hy; simp at hy; rcases hy with rfl | rfl | rfl | rfl | rfl | rfl | rfl <;> rfl) (by unfold maxLen; omega) (by omega) (by simp; omega) ?_; intro v' w3 hown hgrow hv')
          have HF := Lib.hid (HE.out w3 v' hown hgrow)
          clear hown hgrow hv' k0 k1 k2 k3 k4 k5 k6 HE HOC HCN HSK HPT
          go_wp2
          go_roundg gg
          case measure => omega
          case rel => exact ⟨k + 1, d, acc ++ [x], by go_num, by omega, rfl, by have := HAL.out; rw [List.length_append]; simp only [List.length_cons, List.length_nil]; omega, HF, HP2⟩

end Go.Proofs.YtpbipngnoklmcaaGreatDoor
