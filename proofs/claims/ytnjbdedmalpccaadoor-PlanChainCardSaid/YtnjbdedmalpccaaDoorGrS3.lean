/- Walk of nexts: for each node, the set of the nodes behind it. -/
import Derived.Test.YtnjbdedmalpccaaDoorGrS1
import Derived.Test.YtnjbdedmalpccaaDoorGrOrdP
namespace Go.Proofs.YtnjbdedmalpccaaDoor
open Go.RowKit

theorem Tryd.info88 : (Tryd.prog.info? 88).map (fun i => (i.zero, i.size, i.bytes)) = some (some (.agg #[.int .u64 0, .int .u64 0, .int .u64 0, .int .u64 0, .int .u64 0, .int .u64 0, .int .u64 0, .int .u64 0]), 8, 64) := by kernel_rfl

theorem made_sets (i m : Nat) (h : i < m) : (madeCells #[Value.int .u64 0, .int .u64 0, .int .u64 0, .int .u64 0, .int .u64 0, .int .u64 0, .int .u64 0, .int .u64 0] m)[i]? = some (.int .u64 0) := by
  have hr : i % 8 < 8 := Nat.mod_lt _ (by decide)
  simp only [madeCells, Array.getElem?_map, Array.getElem?_range, h, if_true, Option.map_some, List.size_toArray, List.length_cons, List.length_nil, Nat.reduceAdd]
  generalize i % 8 = r at hr
  have : r = 0 ∨ r = 1 ∨ r = 2 ∨ r = 3 ∨ r = 4 ∨ r = 5 ∨ r = 6 ∨ r = 7 := by omega
  rcases this with rfl | rfl | rfl | rfl | rfl | rfl | rfl | rfl <;> rfl

theorem WRow.alloc {w : World} {b T n : Nat} {g : Nat → Nat → Nat} (h : WRow w b T n g) (o : Obj) : WRow (w.alloc o) b T n g := h.kept (Below.heap_alloc _ _ _ h.lt)

set_option maxRecDepth 100000 in
set_option maxHeartbeats 800000 in
theorem nexts_any (v : Value) (es : List (Int × Int)) (n : Nat) (w : World) (h : PairsAt w v es) (hn : n ≤ 512) (hes : ∀ e ∈ es, 0 ≤ e.1 ∧ e.1 < n ∧ 0 ≤ e.2 ∧ e.2 < n) :
    Calls Tryd.prog 26 #[.int .i64 n, v] w fun e w' => e = .returned (.slice (some ⟨w.heap.size, 0, none⟩) n n) ∧ WRow w' w.heap.size 88 n (fun k j => wd (succS es k) j) ∧ Below w.heap.size w w' := by
  obtain ⟨i0, hi, hz0, hz1, hz2⟩ := info_parts Tryd.info88
  obtain ⟨ao, cap, rfl, hl, hm, hc⟩ := h
  have HC := Lib.hid hc
  have HES := Lib.hid hes
  clear hc hes
  go_enter Tryd.func26, Tryd.ntmps26
  go_wp2_with (first | (at_make; refine wpList_make_full _ rfl _ _ 83 rfl w.heap.size 88 i0 _ 8 Tryd.underlying83 hi hz0 hz1 _ _ _ _ n rfl rfl rfl rfl (by rw [hz2]; omega) (by unfold maxLen; omega) (Nat.le_refl _) ?_))
  intro w1 hown hgrow
  have hR : WRow w1 w.heap.size 88 n (fun k j => wd (succS [] k) j) := by
    have hb := ownsRow_block hown
    refine ⟨_, hb, ?_, ?_⟩
    · simp [size_madeCells]
    · intro k j hk hj
      have := made_sets (k * 8 + j) (n * 8) (by omega)
      simpa [succS, wd_zero] using this
  have hb1 : Below w.heap.size w w1 := (Below.refl _ _).grown hgrow (Nat.le_refl _) (fun k hk => by cases hk)
  clear hown hgrow
  go_wp2
  go_loopw [12] (fun v12 wr => ∃ i : Nat, i ≤ es.length ∧ v12 = .int .i64 i ∧ WRow wr w.heap.size 88 n (fun k j => wd (succS (es.take i) k) j) ∧ Below w.heap.size w wr) (fun v12 _ => es.length - (intOf v12).toNat)
  case atStart => exact ⟨0, by omega, rfl, hR, hb1⟩
  case round =>
    obtain ⟨i, hi', rfl, hr, hb⟩ := hrel
    clear hR hb1
    by_cases hlt : i < es.length
    · obtain ⟨bl, off, rfl, hbl, hcell⟩ := HC.out (by intro h; simp [h] at hlt)
      have c1 := (hb.cell (p := ⟨bl, off + i * 2, none⟩) hbl).trans (hcell i hlt).1
      have c2 := (hb.cell (p := ⟨bl, off + i * 2 + 1, none⟩) hbl).trans (hcell i hlt).2
      have hts := take_next es i (0, 0) hlt
      have hmem : es.getD i (0, 0) ∈ es := by simp [List.getD, hlt]
      obtain ⟨⟨x, y⟩, hx⟩ : ∃ p, p = es.getD i (0, 0) := ⟨_, rfl⟩
      rw [← hx] at c1 c2 hts hmem
      obtain ⟨hx0, hx1, hy0, hy1⟩ := HES.out _ hmem
      simp only at hx0 hx1 hy0 hy1
      obtain ⟨p, rfl⟩ := Int.eq_ofNat_of_zero_le hx0
      obtain ⟨q, rfl⟩ := Int.eq_ofNat_of_zero_le hy0
      have HS : Hid (∀ k, succS (es.take (i + 1)) k = if k = p then succS (es.take i) p ||| 2 ^ q else succS (es.take i) k) := fun k => by
        rw [hts, succS_snoc]
        by_cases e : k = p
        · subst e; simp
        · have : ¬ ((p : Int) = (k : Int)) := by omega
          simp [e, this]
      clear hx hts hmem hcell HC HES
      go_wp2
      refine still_drew 6 (by kernel_rfl) (by kernel_rfl) ?_
      simp only [List.take_succ_cons, List.take_zero, List.drop_succ_cons, List.drop_zero]
      repeat still_step
      refine wpStill_nil ?_
      have hr2 : WRow (wr.alloc (.cells #[.int .i64 (p : Int), .int .i64 (q : Int)] 56)).drew w.heap.size 88 n (fun k j => wd (succS (es.take i) k) j) := (hr.alloc _).kept rfl
      have hb2 : Below w.heap.size w (wr.alloc (.cells #[.int .i64 (p : Int), .int .i64 (q : Int)] 56)).drew := (hb.alloc hb.size _).drew
      have W := put_any w.heap.size 88 n p q (succS (es.take i)) _ hr2 (by omega) (by omega)
      clear hr hb hr2 c1 c2
      go_wp2_with (go_at_call 48; refine W.mono ?_; rintro e w' ⟨rfl, hr3, ho⟩)
      go_roundw
      case rel => exact ⟨i + 1, by omega, by go_num, hr3.congr (fun k j _ _ => by rw [HS.out k]), Below.only hb2 ho (Nat.le_refl _)⟩
      case measure => simp [intOf]; omega
    · have hi : i = es.length := by omega
      rw [hi, List.take_length] at hr
      clear hi
      go_wp2
      go_ret
      exact ⟨rfl, hr, hb⟩

end Go.Proofs.YtnjbdedmalpccaaDoor
