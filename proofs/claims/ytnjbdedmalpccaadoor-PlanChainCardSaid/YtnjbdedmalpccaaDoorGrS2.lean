/- Walk of a set's list: its nodes, rising. -/
import Derived.Test.YtnjbdedmalpccaaDoorGrS1
namespace Go.Proofs.YtnjbdedmalpccaaDoor
open Go.RowKit


/-- The walk's own numbers where a word loses its lowest bit. -/
theorem drop_low (x : Nat) (h0 : x ≠ 0) (hx : x < 2 ^ 64) : IntKind.u64.wrap ((x : Int) - 1) = ((x - 1 : Nat) : Int) ∧ bits .and .u64 (x : Int) ((x - 1 : Nat) : Int) = ((x &&& (x - 1) : Nat) : Int) := by
  refine ⟨by rw [IntKind.wrap_u64]; omega, bits_and_u64_nat _ _ (by omega) (by omega)⟩

set_option maxRecDepth 100000 in
set_option maxHeartbeats 800000 in
theorem list_any (b off S : Nat) (w : World) (hT : Tab w) (hbl : b < w.heap.size) (hc : ∀ j, j < 8 → w.cell? ⟨b, off + j, none⟩ = some (.int .u64 (wd S j))) :
    Calls Tryd.prog 28 #[.pointer (some ⟨b, off, none⟩)] w fun e w' => ∃ v', e = .returned v' ∧ IntsAt w' v' ((nodes S).map fun i : Nat => (i : Int)) ∧ Below w.heap.size w w' ∧ (∀ k, v'.ownBlock = some k → w.heap.size ≤ k) := by
  obtain ⟨i0, hi, hz0, hz1, hz2⟩ := info_parts Tryd.info3
  have HC := Lib.hid hc
  have HT := Lib.hid hT
  clear hc hT
  go_enter Tryd.func28, Tryd.ntmps28
  go_wp2
  go_loopw [3, 7] (fun v3 v7 wr => ∃ i : Nat, i ≤ 8 ∧ v7 = .int .i64 i ∧ wr.ownsRow w.heap.size 3 1 v3 (below S (64 * i)).length ((below S (64 * i)).map fun k : Nat => Value.int .i64 k) ∧ Below w.heap.size w wr) (fun _ v7 _ => 8 - (intOf v7).toNat)
  case atStart => exact ⟨0, by omega, rfl, World.ownsRow_nil _ _ _ _, Below.refl _ _⟩
  case round =>
    obtain ⟨i, hi8, rfl, hown, hb⟩ := hrel
    by_cases hlt : i < 8
    · have c1 := (hb.cell (p := ⟨b, off + i, none⟩) hbl).trans (HC.out i hlt)
      have hxl := wd_lt S i
      have HW := Lib.hid (below_word S i)
      obtain ⟨x, hx⟩ : ∃ x, x = wd S i := ⟨_, rfl⟩
      rw [← hx] at c1 HW hxl
      have HX := Lib.hid hxl
      clear hx hxl
      have hdi : decide ((i : Int) < 8) = true := by simp; omega
      go_wp2
      go_quiet (fail)
      obtain ⟨wo, rfl⟩ : ∃ wo : World, wo = wr := ⟨_, rfl⟩
      have HB : Hid (Below w.heap.size w (wo.drewN nq)) := below_drewN hb nq
      have hown' : (wo.drewN nq).ownsRow w.heap.size 3 1 u3 (below S (64 * i)).length ((below S (64 * i)).map fun k : Nat => Value.int .i64 k) := hown
      clear hb hown c1
      go_wp2
      go_loopw [3, 5] (fun v3 v5 wr => ∃ (y : Nat) (l : List Nat), y < 18446744073709551616 ∧ v5 = .int .u64 y ∧ Hid (l ++ (bitsOf y).map (64 * i + ·) = below S (64 * (i + 1))) ∧ wr.ownsRow w.heap.size 3 1 v3 l.length (l.map fun k : Nat => Value.int .i64 k) ∧ Below w.heap.size w wr) (fun _ v5 _ => (intOf v5).toNat)
      case atStart => exact ⟨x, _, HX.out, rfl, HW.out.symm, hown', HB.out⟩
      case round =>
        obtain ⟨y, l, hy, rfl, hl, hown2, hb2⟩ := hrel
        clear hown'
        by_cases h0 : y = 0
        · have hne : ((y : Int) != 0) = false := by simp [h0]
          have hl2 : l = below S (64 * (i + 1)) := by
            have := hl.out
            rw [h0, bitsOf_zero, List.map_nil, List.append_nil] at this
            exact this
          rw [hl2] at hown2
          clear hl h0 hl2 hy
          go_wp2
          go_roundw
          case rel => exact ⟨i + 1, by omega, by go_num, hown2, hb2⟩
          case measure => simp [intOf]; omega
        · have hne : ((y : Int) != 0) = true := by simp; exact h0
          obtain ⟨e1, e2⟩ := drop_low y h0 hy
          have hlow := low_bit y h0 hy
          have ht := hlow.1
          have hlt2 := and_pred_lt y h0
          have hll : l.length ≤ 512 := by
            have := congrArg List.length hl.out
            have h3 := below_len S (64 * (i + 1))
            simp at this
            omega
          have HL : Hid ((l ++ [64 * i + Lib.ctz 64 y]) ++ (bitsOf (y &&& (y - 1))).map (64 * i + ·) = below S (64 * (i + 1))) := by
            rw [Hid, ← hl.out, bitsOf_step y h0 hy]; simp
          have W := tz_any y wr (HT.out.mono hb2) h0 hy
          have HM := Lib.hid hlt2
          generalize Lib.ctz 64 y = t at W HL ht
          generalize y &&& (y - 1) = y2 at HL e2 HM hlt2
          generalize y - 1 = y1 at e1 e2
          clear hlow hl h0
          go_wp2_with (first | (go_at_call 51; refine W.mono ?_; rintro e w' ⟨rfl, rfl⟩) | (at_builtin; refine wpList_append_own _ rfl (.tmp 19) (.tmp 25) 49 rfl w.heap.size 3 i0 (.int .i64 0) 1 8 Tryd.underlying49 hi hz0 hz1 hz2 rfl (by decide) _ _ _ rfl (hown2.alloc _) ⟨wr.heap.size, 0, none⟩ 1 1 [.int .i64 (64 * (i : Int) + (t : Int))] rfl rfl ?c1 ?c2 ?c3 ?c4 ?c5 ?_))
          case c1 => exact cell_one_new _ _ _
          case c2 => intro u hu; simp at hu; subst hu; rfl
          case c3 => unfold maxLen; omega
          case c4 => omega
          case c5 => have := hb2.size; simp; omega
          intro v' w1 hown3 hgrow _
          have hrow : ∀ k, u3.ownBlock = some k → w.heap.size ≤ k := fun k e => (hown2.lt _ e).1
          have hb3 : Below w.heap.size w w1 := (hb2.alloc hb2.size _).grown hgrow (by have := hb2.size; simp; omega) hrow
          have hown4 : w1.ownsRow w.heap.size 3 1 v' (l ++ [64 * i + t]).length ((l ++ [64 * i + t]).map fun k : Nat => Value.int .i64 k) := by
            simpa using hown3
          clear hown3 hgrow hrow hown2 hb2
          go_wp2
          go_roundw
          case rel => exact ⟨y2, _, by omega, rfl, HL, hown4, hb3⟩
          case measure => simp only [intOf]; have := HM.out; omega
    · have hi : i = 8 := by omega
      have hn : below S (64 * i) = nodes S := by rw [hi]; rfl
      rw [hn] at hown
      have HN := Lib.hid hn
      clear hn hi
      go_wp2
      rw [show (nodes S).length = ((nodes S).map fun i : Nat => (i : Int)).length by simp, show ((nodes S).map fun i : Nat => Value.int .i64 i) = ((nodes S).map fun i : Nat => (i : Int)).map (Value.int .i64) by simp] at hown
      have hlen := below_len S 512
      have HF := Lib.hid (fun (k : Nat) (e : u3.ownBlock = some k) => (hown.lt _ e).1)
      go_ret
      exact ⟨_, rfl, ints_of_own hown (by simp only [List.length_map]; exact Nat.le_trans hlen (by decide)), hb, HF.out⟩

end Go.Proofs.YtnjbdedmalpccaaDoor
