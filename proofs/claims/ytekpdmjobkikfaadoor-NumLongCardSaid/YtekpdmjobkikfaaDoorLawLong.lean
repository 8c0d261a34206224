/- The walk of the law on numbers of a hundred digits: it answers true of any byte and any int. -/
import Derived.Test.YtekpdmjobkikfaaDoorAwake
import Derived.Test.YtekpdmjobkikfaaDoorLongP
import Derived.Test.YtekpdmjobkikfaaDoorRefA
import Derived.Deep.RegionHeld3
namespace Go.Proofs.YtekpdmjobkikfaaDoor
open Go.RowKit
set_option maxRecDepth 100000
attribute [local go_sem] str_size str_toList str_get

set_option maxHeartbeats 8000000 in
theorem long_true (d : Int) (n : Int) (bd : 0 ≤ d ∧ d ≤ 255) (_bn : -9223372036854775808 ≤ n ∧ n ≤ 9223372036854775807) (w : World) (hT : TabW w) : Calls Tryd.prog 5 #[.int .u8 d, .int .i64 n] w fun e w' => e = .returned (.bool true) ∧ Below w.heap.size w w' := by
  have AW := awake_any w hT
  have HT := Lib.hid hT
  clear hT
  obtain ⟨r9, hr9⟩ : ∃ r : Nat, d.tmod 9 = (r : Int) := ⟨(d % 9).toNat, by rw [Int.tmod_eq_emod_of_nonneg bd.1]; omega⟩
  have hr9b : r9 < 9 := by rw [Int.tmod_eq_emod_of_nonneg bd.1] at hr9; omega
  obtain ⟨U, hU⟩ : ∃ U : Nat, IntKind.u64.wrap n = (U : Int) := ⟨(n % 18446744073709551616).toNat, by rw [IntKind.wrap_u64]; omega⟩
  have hUb : U < 18446744073709551616 := by rw [IntKind.wrap_u64] at hU; omega
  obtain ⟨R, hR⟩ : ∃ R : Nat, U % 50 = R := ⟨_, rfl⟩
  have hRl : R < 50 := by rw [← hR]; exact Nat.mod_lt _ (by decide)
  have hrem : (U : Int).tmod 50 = (R : Int) := by rw [← hR, Int.tmod_eq_emod_of_nonneg (by omega)]; rfl
  obtain ⟨p1, p2, p3, ⟨t, p4, hlt⟩, p5, p6, p7⟩ := long_plain r9 R hr9b hRl
  have A1 := fun W (h : TabW W) => add_any (nines 100) [UInt8.ofNat (49 + r9)] W h
  have B1 := fun W (h : TabW W) => sub_any (45 :: nines 100) [UInt8.ofNat (49 + r9)] W h
  have M1 := fun W (h : TabW W) => mul_any (nines 100) [49, 48] W h
  have M2 := fun W (h : TabW W) => mul_any (nines (50 + R)) (nines (50 - R)) W h
  have M3 := fun W (h : TabW W) => mul_any (nines 50) (nines 51) W h
  have G1 := fun W => good_any (nines 100) W
  have G2 := fun W => good_any (nines 100 ++ [57]) W
  rw [p1] at A1
  rw [p2] at B1
  rw [p3] at M1
  rw [p4] at M2
  rw [p5] at M3
  rw [p6] at G1
  rw [p7] at G2
  have hcv : ∀ W : World, (convert 37 9 (.slice (some ⟨W.heap.size, 0, none⟩) 1 1)).run Tryd.prog (W.alloc (.cells #[.int .u8 (49 + (r9 : Int))] 5)) = .ok (.string ⟨[UInt8.ofNat (48 + (r9 + 1))].toArray⟩) (W.alloc (.cells #[.int .u8 (49 + (r9 : Int))] 5)) := fun W => str_dig (w := W) (r9 + 1) (by omega) (49 + (r9 : Int)) (by omega)
  rw [show 48 + (r9 + 1) = 49 + r9 by omega] at hcv
  obtain ⟨ch, hch⟩ : ∃ ch, UInt8.ofNat (49 + r9) = ch := ⟨_, rfl⟩
  rw [hch] at A1 B1 hcv
  have hcv' : ∀ W : World, (convert 37 9 (.slice (some ⟨W.heap.size, 0, none⟩) 1 1)).run Tryd.prog (W.alloc (.cells #[.int .u8 (49 + (r9 : Int))] 5)) = .ok (.string ⟨#[ch]⟩) (W.alloc (.cells #[.int .u8 (49 + (r9 : Int))] 5)) := hcv
  have hcut : ∀ j, j ≤ 100 → (ByteArray.mk (nines 100).toArray).extract 0 j = ⟨(nines j).toArray⟩ := fun j hj => by
    rw [ByteArray.extract_mk, List.drop_zero, Nat.sub_zero]
    unfold nines
    rw [List.take_replicate, Nat.min_eq_left hj]
  have hcutA := hcut (50 + R) (by omega)
  have hcutB := hcut (50 - R) (by omega)
  have hcutC := hcut 50 (by omega)
  have hcutD := hcut 51 (by omega)
  obtain ⟨n1, hn1⟩ : ∃ x, nines 100 = x := ⟨_, rfl⟩
  obtain ⟨n2, hn2⟩ : ∃ x, nines (50 + R) = x := ⟨_, rfl⟩
  obtain ⟨n3, hn3⟩ : ∃ x, nines (50 - R) = x := ⟨_, rfl⟩
  obtain ⟨n4, hn4⟩ : ∃ x, nines 50 = x := ⟨_, rfl⟩
  obtain ⟨n5, hn5⟩ : ∃ x, nines 51 = x := ⟨_, rfl⟩
  have hnl : n1.length = 100 := by rw [← hn1]; simp [nines]
  rw [hn1] at A1 B1 M1 G1 G2 hcutA hcutB hcutC hcutD
  rw [hn2] at M2 hcutA
  rw [hn3] at M2 hcutB
  rw [hn4] at M3 hcutC
  rw [hn5] at M3 hcutD
  have hadd1 : ∀ W : World, (Op.stringOp .add (ByteArray.mk #[45]) (ByteArray.mk n1.toArray)).run Tryd.prog W = .ok (.string ⟨(45 :: n1).toArray⟩) W := fun W => str_add [45] n1 (by simp; omega)
  have hadd2 : ∀ W : World, (Op.stringOp .add (ByteArray.mk n1.toArray) (ByteArray.mk #[57])).run Tryd.prog W = .ok (.string ⟨(n1 ++ [57]).toArray⟩) W := fun W => str_add n1 [57] (by simp; omega)
  have HN1 := Lib.hid hn1
  obtain ⟨KA, hKA⟩ : ∃ K : Nat, 50 + R = K := ⟨_, rfl⟩
  obtain ⟨KB, hKB⟩ : ∃ K : Nat, 50 - R = K := ⟨_, rfl⟩
  rw [hKA] at hcutA
  rw [hKB] at hcutB
  have hsl1 : IntKind.i64.wrap ((50 : Int) + (R : Int)) = (KA : Int) := by rw [IntKind.wrap_i64]; omega
  have hsl2 : IntKind.i64.wrap ((50 : Int) - (R : Int)) = (KB : Int) := by rw [IntKind.wrap_i64]; omega
  have hKA0 : (0 : Int) ≤ (KA : Int) := by omega
  have hKB0 : (0 : Int) ≤ (KB : Int) := by omega
  have hKA1 : (KA : Int) ≤ 100 := by omega
  have hKB1 : (KB : Int) ≤ 100 := by omega
  have hKA2 : KA ≤ 100 := by omega
  have hKB2 : KB ≤ 100 := by omega
  have hd9 : d % 9 = (r9 : Int) := by rw [← hr9, Int.tmod_eq_emod_of_nonneg bd.1]
  clear p1 p2 p3 p4 p5 p6 p7 hn1 hn2 hn3 hn4 hn5 hcut hch hcv hR hKA hKB
  go_enter Tryd.func5, Tryd.ntmps5
  go_wp2_with fail
  refine AW.mono ?_
  rintro e w1 ⟨rfl, hb1⟩
  go_wp2
  go_loopg [5, 6] 100 (fun g v5 v6 wr => ∃ i : Nat, i + g = 100 ∧ v6 = .int .i64 i ∧ v5 = str (nines i) ∧ wr = w1)
  case atStart => exact ⟨0, by omega, rfl, rfl, rfl⟩
  case round =>
    obtain ⟨i, hig, rfl, rfl, rfl⟩ := hrel
    cases gk with
    | succ g =>
      have hie : (i : Int) < 100 := by omega
      obtain ⟨x, hx⟩ : ∃ x, nines i = x := ⟨_, rfl⟩
      have hadd : ∀ W : World, (Op.stringOp .add (ByteArray.mk x.toArray) (ByteArray.mk #[57])).run Tryd.prog W = .ok (.string ⟨(x ++ [57]).toArray⟩) W := fun W => str_add x [57] (by rw [← hx]; simp [nines]; omega)
      have hnx : x ++ [57] = nines (i + 1) := by
        rw [← hx]
        unfold nines
        rw [List.replicate_succ']
      have HNX := Lib.hid hnx
      rw [hx]
      clear hx hnx
      go_wp2
      go_roundg g
      case measure => omega
      case rel => exact ⟨i + 1, by omega, by go_num, by rw [HNX.out], rfl⟩
    | zero =>
      obtain rfl : i = 100 := by omega
      rw [HN1.out]
      have HZ := Lib.hid (hb1.alloc hb1.size (.cells #[.int .u8 (49 + (r9 : Int))] 5))
      go_upto_region 9 with fail
      obtain ⟨w2, hw2⟩ : ∃ x, x = wr.alloc (.cells #[.int .u8 (49 + (r9 : Int))] 5) := ⟨_, rfl⟩
      rw [← hw2]
      have hb2 : Below w.heap.size w w2 := by rw [hw2]; exact HZ.out
      clear hw2 HZ hb1
      go_wp2_with fail
      refine (A1 _ (HT.out.mono hb2)).mono ?_
      rintro e w3 ⟨rfl, hq⟩
      have hb3 := hb2.trans (hq.mono hb2.size)
      clear hq hb2
      go_wp2_with fail
      refine (B1 _ (HT.out.mono hb3)).mono ?_
      rintro e w4 ⟨rfl, hq⟩
      have hb4 := hb3.trans (hq.mono hb3.size)
      clear hq hb3
      go_wp2_with fail
      refine (M1 _ (HT.out.mono hb4)).mono ?_
      rintro e w5 ⟨rfl, hq⟩
      have hb5 := hb4.trans (hq.mono hb4.size)
      clear hq hb4
      go_upto_region 13 with fail
      go_region_held3 (fun _ => True) (first | exact trivial)
        (first | (go_at_call 12; refine (M2 _ (HT.out.mono (hb5.drew))).mono ?_; rintro e w6 ⟨rfl, hq6⟩; have hb6 := hb5.drew.trans (hq6.mono hb5.drew.size)))
      clear hq6 hb5
      go_upto_region 14 with fail
      go_region_held3 (fun _ => True) (first | exact trivial)
        (first | (go_at_call 12; refine (M3 _ (HT.out.mono (hb6.drew))).mono ?_; rintro e w7 ⟨rfl, hq7⟩; have hb7 := hb6.drew.trans (hq7.mono hb6.drew.size)))
      clear hq7 hb6
      go_wp2_with fail
      refine (G1 _).mono ?_
      rintro e w8 ⟨rfl, hq⟩
      have hb8 := hb7.trans (hq.mono hb7.size)
      clear hq hb7
      go_wp2_with fail
      refine (G2 _).mono ?_
      rintro e w9 ⟨rfl, hq⟩
      have hb9 := hb8.trans (hq.mono hb8.size)
      clear hq hb8
      go_wp2
      refine bodyPost_ret (v := .bool true) (by simp [results, go_sem]) rfl ⟨rfl, hb9⟩

end Go.Proofs.YtekpdmjobkikfaaDoor
