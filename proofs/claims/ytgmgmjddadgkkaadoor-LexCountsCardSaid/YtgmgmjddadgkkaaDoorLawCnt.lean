/- LexCounts: a text of n names, numbers and signs, in one of eight dresses, has just these tokens, at the bytes where they were put. -/
import Derived.Test.YtgmgmjddadgkkaaDoorLxU
import Derived.Test.YtgmgmjddadgkkaaDoorLxV
namespace Go.Proofs.YtgmgmjddadgkkaaDoor
open Go.RowKit
set_option maxRecDepth 100000
attribute [local go_sem] str_size str_toList str_get

theorem pick_100 (fr : Int) : ∃ f : Nat, f < 100 ∧ wrap64 ((IntKind.u64.wrap fr).tmod 100) = (f : Int) := by
  obtain ⟨x, hx⟩ := Int.eq_ofNat_of_zero_le (show 0 ≤ IntKind.u64.wrap fr by rw [IntKind.wrap_u64]; omega)
  refine ⟨x % 100, Nat.mod_lt _ (by decide), ?_⟩
  have e : ((x : Int)).tmod 100 = ((x % 100 : Nat) : Int) := by rw [Int.tmod_eq_emod_of_nonneg (by omega)]; simp
  have := Nat.mod_lt x (show 0 < 100 by decide)
  rw [hx, e]
  unfold wrap64
  omega
theorem pick_8 (fr : Int) : ∃ f : Nat, f < 8 ∧ wrap64 ((IntKind.u64.wrap fr).tmod 8) = (f : Int) := by
  obtain ⟨x, hx⟩ := Int.eq_ofNat_of_zero_le (show 0 ≤ IntKind.u64.wrap fr by rw [IntKind.wrap_u64]; omega)
  refine ⟨x % 8, Nat.mod_lt _ (by decide), ?_⟩
  have e : ((x : Int)).tmod 8 = ((x % 8 : Nat) : Int) := by rw [Int.tmod_eq_emod_of_nonneg (by omega)]; simp
  have := Nat.mod_lt x (show 0 < 8 by decide)
  rw [hx, e]
  unfold wrap64
  omega

theorem gap_ix : ∀ (d : Nat), d < 8 → ∀ W, (Instr.index 41 (.agg #[.string ⟨#[32]⟩, .string ⟨#[9]⟩, .string ⟨#[13, 32]⟩, .string ⟨#[47, 42, 42, 47]⟩, .string ⟨#[32, 47, 42, 32, 34, 32, 42, 47]⟩, .string ⟨#[47, 42, 10, 42, 47]⟩, .string ⟨#[32, 32]⟩, .string ⟨#[32, 47, 47, 120, 10]⟩]) (.int .i64 (d : Int))).run Tryd.prog W = .ok (str (gapT d)) W
  | 0, _, _ => by kernel_rfl
  | 1, _, _ => by kernel_rfl
  | 2, _, _ => by kernel_rfl
  | 3, _, _ => by kernel_rfl
  | 4, _, _ => by kernel_rfl
  | 5, _, _ => by kernel_rfl
  | 6, _, _ => by kernel_rfl
  | 7, _, _ => by kernel_rfl
  | _ + 8, h, _ => by omega
def sgT : Nat → Bs
  | 0 => [61, 61]
  | 1 => [61]
  | 2 => [60, 61]
  | 3 => [60]
  | _ => [33]
theorem sgT_eq (i : Nat) : pc3 i = sgT (i % 5) := by
  unfold pc3 sgT
  split <;> simp_all
theorem sign_ix : ∀ (j : Nat), j < 5 → ∀ W, (Instr.index 43 (.agg #[.string ⟨#[61, 61]⟩, .string ⟨#[61]⟩, .string ⟨#[60, 61]⟩, .string ⟨#[60]⟩, .string ⟨#[33]⟩]) (.int .i64 (j : Int))).run Tryd.prog W = .ok (str (sgT j)) W
  | 0, _, _ => by kernel_rfl
  | 1, _, _ => by kernel_rfl
  | 2, _, _ => by kernel_rfl
  | 3, _, _ => by kernel_rfl
  | 4, _, _ => by kernel_rfl
  | _ + 5, h, _ => by omega

theorem alloc_size (w : World) (o : Obj) : (w.alloc o).heap.size = w.heap.size + 1 := by show (w.heap.push o).size = _; simp
theorem old_at (w : World) (o : Obj) (k : Nat) (hk : k < w.heap.size) : (w.alloc o).heap[k]? = w.heap[k]? := ((Below.refl _ w).alloc (Nat.le_refl _) o).block k hk
theorem blk_new {W : World} {l : Bs} {vs : Array Value} (h : vs = (l.map fun c => Value.int .u8 (c.toNat : Int)).toArray) (n : Nat) (hn : l.length = n) :
    (convert 35 9 (.slice (some ⟨W.heap.size, 0, none⟩) n n)).run Tryd.prog (W.alloc (.cells vs 5)) = .ok (str l) (W.alloc (.cells vs 5)) := by
  have hB : BlkB (W.alloc (.cells vs 5)) W.heap.size l := by
    unfold BlkB
    rw [new_last, h]
  exact hB.text n n hn
theorem byte_nat (m : Nat) (h : m < 256) : ((UInt8.ofNat m).toNat : Int) = (m : Int) := by
  rw [UInt8.toNat_ofNat_of_lt' (by simpa using h)]

set_option maxHeartbeats 8000000 in
theorem cnt_true (fn fd : Int) (w : World) (hM : MaxW w) : Calls Tryd.prog 6 #[.int .i64 fn, .int .i64 fd] w fun e w' => e = .returned (.bool true) ∧ Below w.heap.size w w' := by
  have mixed : Tryd.prog.follows .mixedOrders = true := by kernel_rfl
  have HM := Lib.hid hM
  clear hM
  obtain ⟨n, hn, hnw⟩ := pick_100 fn
  obtain ⟨d, hd, hdw⟩ := pick_8 fd
  obtain ⟨w0, hw0⟩ : ∃ w0, w0 = w.alloc (.cells #[.int .i64 fd] 3) := ⟨_, rfl⟩
  have hC0 : w0.heap[w.heap.size]? = some (.cells #[.int .i64 fd] 3 (0, 0)) := by rw [hw0]; exact new_last _ _
  have hb0 : Below w.heap.size w w0 := by rw [hw0]; exact (Below.refl _ w).alloc (Nat.le_refl _) _
  go_enter Tryd.func6, Tryd.ntmps6
  go_upto_region 1 with fail
  rw [← hw0]
  clear hw0
  go_wp2_with fail
  refine (awake04 w0 (HM.out.mono hb0)).mono ?_
  rintro e w1 ⟨rfl, hb1⟩
  have hC1 := (hb1.block w.heap.size (Array.getElem?_eq_some_iff.1 hC0).1).trans hC0
  have hbw1 := hb0.trans (hb1.mono hb0.size)
  have x0 : w1.cell? ⟨w.heap.size, 0, none⟩ = some (.int .i64 fd) := by rw [Lib.cell_of_heap hC1]; rfl
  have f0 : w1.frozen? ⟨w.heap.size, 0, none⟩ = false := Lib.frozen_of_heap hC1 0
  clear hC0 hb0 hb1
  go_wp2
  go_region
  rw [hnw, hdw]
  obtain ⟨w2, hw2⟩ : ∃ w2, w2 = (w1.setCell ⟨w.heap.size, 0, none⟩ (.int .i64 (d : Int))).drew := ⟨_, rfl⟩
  have hC2 : w2.heap[w.heap.size]? = some (.cells #[.int .i64 (d : Int)] 3 (0, 0)) := by rw [hw2]; exact set_at hC1 0 _
  have hb2 : Below w.heap.size w w2 := by rw [hw2]; exact (hbw1.setCell (p := ⟨w.heap.size, 0, none⟩) (Nat.le_refl _) _).drew
  have y0 : w2.cell? ⟨w.heap.size, 0, none⟩ = some (.int .i64 (d : Int)) := by rw [Lib.cell_of_heap hC2]; rfl
  rw [← hw2]
  clear hw2 x0 f0 hC1 hbw1 hnw hdw
  have hdi : (d : Int) < 8 := by omega
  have hix := gap_ix d hd
  obtain ⟨Gp, hGp⟩ : ∃ G, gapT d = G := ⟨_, rfl⟩
  rw [hGp] at hix
  obtain ⟨B, hB⟩ : ∃ B, B = w2.heap.size := ⟨_, rfl⟩
  obtain ⟨w5, hw5⟩ : ∃ w5, w5 = ((w2.alloc (.cells #[str Gp] 9)).alloc (.cells #[.string ⟨#[]⟩] 9)).alloc (.cells #[.slice none 0 0] 23) := ⟨_, rfl⟩
  have hwB : w.heap.size < B := by rw [hB]; exact (Array.getElem?_eq_some_iff.1 hC2).1
  have hq5 : Below w2.heap.size w2 w5 := by
    rw [hw5]
    exact (((Below.refl _ w2).alloc (Nat.le_refl _) _).alloc (by simp) _).alloc (by simp; omega) _
  have hS5 : CntSt w.heap.size B d w5 ([], []) := by
    refine ⟨?_, ?_, ?_, .slice none 0 0, ?_, World.ownsRow_nil _ _ _ _⟩
    · exact (((hq5.block w.heap.size (by omega)).trans hC2))
    · rw [hw5, hGp, hB]
      rw [old_at _ _ _ (by simp only [alloc_size]; omega), old_at _ _ _ (by simp only [alloc_size]; omega)]
      exact new_last _ _
    · rw [hw5, hB]
      rw [old_at _ _ _ (by simp only [alloc_size]; omega)]
      have := new_last (w2.alloc (.cells #[str Gp] 9)) (.cells #[.string ⟨#[]⟩] 9)
      rw [alloc_size] at this
      exact this
    · rw [hw5, hB]
      have := new_last ((w2.alloc (.cells #[str Gp] 9)).alloc (.cells #[.string ⟨#[]⟩] 9)) (.cells #[.slice none 0 0] 23)
      rw [alloc_size, alloc_size] at this
      exact this
  have hb5 : Below w.heap.size w w5 := by
    rw [hw5]
    exact ((hb2.alloc hb2.size _).alloc (hb2.alloc hb2.size _).size _).alloc ((hb2.alloc hb2.size _).alloc (hb2.alloc hb2.size _).size _).size _
  have HS5 := Lib.hid hS5
  go_upto_region 8 with fail
  rw [← hw5, ← hB]
  clear hw5 hB y0 hC2 hb2 hix hS5 hGp
  go_wp2
  go_loopg [9] (n + 1) (fun gg v9 wr => ∃ i : Nat, v9 = .int .i64 i ∧ i ≤ n ∧ n - i < gg ∧ Hid (CntSt w.heap.size B d wr (stC d i)) ∧ Below w.heap.size w wr)
  case atStart => exact ⟨0, rfl, by omega, by omega, HS5.out, hb5⟩
  case round =>
    obtain ⟨i, rfl, hi, hgk, HS, hbr⟩ := hrel
    by_cases hin : i < n
    · have hini : (i : Int) < (n : Int) := by omega
      have hwi : IntKind.i64.wrap ((i : Int) + 1) = (i : Int) + 1 := by rw [IntKind.wrap_i64]; omega
      obtain ⟨hgood, h2, h1, _⟩ := stC_good d hd i (by omega)
      have hm26 : i % 26 < 26 := Nat.mod_lt _ (by decide)
      have hm9 : i % 9 < 9 := Nat.mod_lt _ (by decide)
      have hcv1 := fun W : World => blk_new (W := W) (l := [UInt8.ofNat (97 + i % 26)]) (vs := #[.int .u8 (97 + (i : Int) % 26)]) (by
        simp only [List.map_cons, List.map_nil, byte_nat (97 + i % 26) (by omega)]
        congr 3) 1 rfl
      have hcv2 := fun W : World => blk_new (W := W) (l := pc2 i) (vs := #[.int .u8 (49 + (i : Int) % 9), .int .u8 (48 + (i : Int) / 10)]) (by
        unfold pc2
        simp only [List.map_cons, List.map_nil, byte_nat (49 + i % 9) (by omega), byte_nat (48 + i / 10) (by omega)]
        congr 3) 2 rfl
      have hix : ∀ W, (Instr.index 43 (.agg #[.string ⟨#[61, 61]⟩, .string ⟨#[61]⟩, .string ⟨#[60, 61]⟩, .string ⟨#[60]⟩, .string ⟨#[33]⟩]) (.int .i64 ((i : Int) % 5))).run Tryd.prog W = .ok (str (pc3 i)) W := fun W => by
        rw [sgT_eq]
        exact sign_ix (i % 5) (Nat.mod_lt _ (by decide)) W
      have a1 : ∀ W, (Op.stringOp .add (ByteArray.mk ([110, 45] : Bs).toArray) (ByteArray.mk ([UInt8.ofNat (97 + i % 26)] : Bs).toArray)).run Tryd.prog W = .ok (str (pc1 i)) W := fun W => str_add _ _ (by simp only [List.length_cons, List.length_nil]; omega)
      have l1 : (pc1 i).length = 3 := rfl
      have l2 : (pc2 i).length = 2 := rfl
      have l3 := pc3_len i
      obtain ⟨p2, p1⟩ := put_len d hd (stC d i) 1 (pc1 i)
      obtain ⟨q2, q1⟩ := put_len d hd (putT d (stC d i) 1 (pc1 i)) 2 (pc2 i)
      obtain ⟨u, hu⟩ : ∃ u, UInt8.ofNat (97 + i % 26) = u := ⟨_, rfl⟩
      obtain ⟨s1, hs1⟩ : ∃ s, pc1 i = s := ⟨_, rfl⟩
      obtain ⟨s2, hs2⟩ : ∃ s, pc2 i = s := ⟨_, rfl⟩
      obtain ⟨s3, hs3⟩ : ∃ s, pc3 i = s := ⟨_, rfl⟩
      have hst : stC d (i + 1) = putT d (putT d (putT d (stC d i) 1 s1) 2 s2) 4 s3 := by rw [← hs1, ← hs2, ← hs3]; rfl
      rw [hs1] at l1 p2 p1 q2 q1 a1
      rw [hs2] at l2 q2 q1 hcv2
      rw [hs3] at l3 hix
      rw [hu] at hcv1 a1
      have HST := Lib.hid hst
      have hSB := Lib.hid hwB
      clear hu hs1 hs2 hs3 hgood hst
      have hsA := hbr.size
      go_wp2_with fail
      refine (put_any w.heap.size B d (stC d i) 1 s1 _ (HS.out.mono ((Below.refl _ wr).alloc (Nat.le_refl _) _)) hwB hd (by omega) (by omega)).mono ?_
      rintro e w6 ⟨rfl, hS6, hb6⟩
      have hb6w : Below w.heap.size w w6 := (hbr.alloc hbr.size _).trans (hb6.mono (by omega))
      have HS6 := Lib.hid hS6
      clear hS6 hb6 HS hbr
      go_wp2_with fail
      refine (put_any w.heap.size B d _ 2 s2 _ (HS6.out.mono ((Below.refl _ w6).alloc (Nat.le_refl _) _)) hwB hd (by omega) (by omega)).mono ?_
      rintro e w7 ⟨rfl, hS7, hb7⟩
      have hb7w : Below w.heap.size w w7 := (hb6w.alloc hb6w.size _).trans (hb7.mono (by omega))
      have HS7 := Lib.hid hS7
      clear hS7 hb7 HS6 hb6w
      go_wp2_with fail
      refine (put_any w.heap.size B d _ 4 s3 _ HS7.out hwB hd (by omega) (by omega)).mono ?_
      rintro e w8 ⟨rfl, hS8, hb8⟩
      have hb8w : Below w.heap.size w w8 := hb7w.trans (hb8.mono (by omega))
      have HS8 := Lib.hid hS8
      clear hS8 hb8 HS7 hb7w
      go_wp2
      go_roundg (gk - 1)
      case rel =>
        refine ⟨i + 1, by simp, by omega, by omega, ?_, hb8w⟩
        rw [HST.out]
        exact HS8.out
      case measure => omega
    · have hie : i = n := by omega
      subst hie
      obtain ⟨_, h2, h1, _⟩ := stC_good d hd i (by omega)
      have hsc := counts d i hd (by omega)
      obtain ⟨st, hst⟩ : ∃ st, stC d i = st := ⟨_, rfl⟩
      rw [hst] at h1 h2 hsc HS
      obtain ⟨tx, ts⟩ := st
      simp only at h1 h2 hsc
      obtain ⟨_, _, hT, v, hV, hown⟩ := HS.out
      simp only at hT hown
      obtain ⟨P, cap, rfl⟩ := own_form hown
      obtain ⟨x2, _⟩ := one_cell hT
      obtain ⟨x3, _⟩ := one_cell hV
      have hsz : B + 3 ≤ wr.heap.size := by
        have := (Array.getElem?_eq_some_iff.1 hV).1
        omega
      obtain ⟨i0, hi0, hz0, hz1, hz2⟩ := info_parts (P := Tryd.prog) (e := 32) (z := .agg #[.int .i64 0, .string ⟨#[]⟩, .int .i64 0]) (size := 3) (bytes := 32) (by kernel_rfl)
      have hown1 := fun o => own_below hown ((Below.refl wr.heap.size wr).alloc (Nat.le_refl _) o)
      have hownlt := hown.lt
      have hbA := fun o => (Below.refl (B + 3) wr).alloc hsz o
      have HT := Lib.hid hT
      have HV := Lib.hid hV
      have HSC := Lib.hid hsc
      clear hT hV hown hst hsc HS hi hgk
      go_wp2_with (at_builtin; refine wpList_append_own _ rfl _ _ 23 rfl (B + 3) 32 i0 (.agg #[.int .i64 0, .string ⟨#[]⟩, .int .i64 0]) 3 32 Tryd.underlying23 hi0 hz0 hz1 hz2 rfl (by decide) _ _ _ rfl (hown1 _) ⟨wr.heap.size, 0, none⟩ 1 1 [.int .i64 0, .string ⟨#[]⟩, .int .i64 tx.length] rfl rfl ?c1 ?c2 ?c3 ?c4 ?c5 ?_)
      case c1 =>
        intro j u hj
        match j, hj with
        | 0, hj => simp at hj; subst hj; simp [Addr.add]
        | 1, hj => simp at hj; subst hj; simp [Addr.add]
        | 2, hj => simp at hj; subst hj; simp [Addr.add]
        | (j + 3), hj => simp at hj
      case c2 => intro u hu; simp at hu; rcases hu with rfl | rfl | rfl <;> rfl
      case c3 => unfold maxLen; omega
      case c4 => omega
      case c5 => simp; omega
      intro v' w7 hown' hgrow _
      obtain ⟨P', cap', rfl⟩ := own_form hown'
      have hb7 : Below (B + 3) wr w7 := (hbA _).grown hgrow (by simp; omega) (fun k hk => (hownlt k hk).1)
      have q3 := (hb7.block (B + 1 + 1) (by omega)).trans HV.out
      obtain ⟨x3, f3⟩ := one_cell q3
      obtain ⟨w8, hw8⟩ : ∃ w8, w8 = w7.setCell ⟨B + 1 + 1, 0, none⟩ (.slice P' (ts.length + 1) cap') := ⟨_, rfl⟩
      have q2 : w8.heap[B + 1]? = some (.cells #[str tx] 9 (0, 0)) := by
        rw [hw8, Below.heap_setCell _ _ _ _ (by show B + 1 ≠ B + 1 + 1; omega)]
        exact (hb7.block (B + 1) (by omega)).trans HT.out
      have q4 : w8.heap[B + 1 + 1]? = some (.cells #[.slice P' (ts.length + 1) cap'] 23 (0, 0)) := by rw [hw8]; exact set_at q3 0 _
      have ho8 : w8.ownsRow (B + 3) 32 3 (.slice P' (ts.length + 1) cap') (ts ++ [(0, [], tx.length)]).length (tokCells (ts ++ [(0, [], tx.length)])) := by
        rw [hw8, tok_snoc, List.length_append]
        exact ownsRow_setCell_below hown' (by show B + 1 + 1 < B + 3; omega) _
      have hb8 : Below w.heap.size w w8 := by
        rw [hw8]
        exact (hbr.trans (hb7.mono (by omega))).setCell (p := ⟨B + 1 + 1, 0, none⟩) (by show w.heap.size ≤ B + 1 + 1; omega) _
      have hta := toks_of_own ho8 (by simp)
      obtain ⟨y2, _⟩ := one_cell q2
      have HTA := Lib.hid hta
      have hlt4 := (Array.getElem?_eq_some_iff.1 q4).1
      have Q4 := Lib.hid q4
      clear q2 q3 q4 ho8 hta hown' hgrow hown1 hownlt hbA hb7 x2
      go_upto_region 15 with fail
      rw [← hw8]
      clear hw8 x3 f3
      go_wp2_with fail
      refine (scan_ok HSC.out w8 (HM.out.mono hb8)).mono ?_
      rintro e w9 ⟨v9, rfl, ht9, hb9⟩
      have hbw9 := hb8.trans (hb9.mono hb8.size)
      have q9 := (hb9.block (B + 1 + 1) hlt4).trans Q4.out
      obtain ⟨z3, _⟩ := one_cell q9
      have SM := same_true _ _ _ w9 ht9 (HTA.out.mono hb9)
      clear q9 hb9
      go_wp2_with fail
      refine SM.mono ?_
      rintro e w10 ⟨rfl, hb10⟩
      have hbw10 := hbw9.trans (hb10.mono hbw9.size)
      go_wp2
      go_ret
      exact ⟨rfl, hbw10⟩

end Go.Proofs.YtgmgmjddadgkkaaDoor
