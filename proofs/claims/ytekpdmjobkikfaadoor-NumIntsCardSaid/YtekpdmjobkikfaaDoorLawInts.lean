/- The walk of the law on ints: it answers true of any int and any text. -/
import Derived.Test.YtekpdmjobkikfaaDoorIntN
import Derived.Test.YtekpdmjobkikfaaDoorAwake
namespace Go.Proofs.YtekpdmjobkikfaaDoor
open Go.RowKit
set_option maxRecDepth 100000
attribute [local go_sem] str_size str_toList str_get

theorem intR_itoa {n : Int} (h0 : -9223372036854775808 ≤ n) (h1 : n ≤ 9223372036854775807) : intR (Lib.itoa n) = (n, true) := by
  have hb : n.natAbs < 10 ^ 100 := Nat.lt_of_le_of_lt (show n.natAbs ≤ 9223372036854775808 by omega) (by decide)
  unfold intR
  rw [if_pos ⟨good_itoa hb, by rw [valS_itoa]; omega, by rw [valS_itoa]; omega⟩, valS_itoa]
theorem itoa_len {n : Int} (h0 : -9223372036854775808 ≤ n) (h1 : n ≤ 9223372036854775807) : (Lib.itoa n).length ≤ 21 := by
  have hd : ∀ u : Nat, u ≤ 9223372036854775808 → (Lib.decDigits u).length ≤ 20 := fun u hu => (dec_len_iff (by decide)).2 (Nat.lt_of_le_of_lt hu (by decide))
  by_cases h : n < 0
  · rw [itoa_neg h, List.length_cons]
    have := hd n.natAbs (by omega)
    omega
  · rw [itoa_pos h]
    have := hd n.toNat (by omega)
    omega

set_option maxHeartbeats 4000000 in
theorem ints_true (n : Int) (a : List UInt8) (bn : -9223372036854775808 ≤ n ∧ n ≤ 9223372036854775807) (hl : a.length ≤ 140737488351232) (w : World) (hT : TabW w) (hE : ErrW w) :
    Calls Tryd.prog 9 #[.int .i64 n, str a] w fun e w' => e = .returned (.bool true) ∧ Below w.heap.size w w' := by
  have AW := awake_any w hT
  have OF := fun W (h : TabW W) => of_any n bn.1 bn.2 W h
  have IN := fun W (h : ErrW W) => int_any (Lib.itoa n) (by have := itoa_len bn.1 bn.2; omega) W h
  rw [intR_itoa bn.1 bn.2] at IN
  have IA := fun W (h : ErrW W) => int_any a (by omega) W h
  have RA := fun W => int_ref a (by omega) W
  have DG := fun W => digits_ref n bn.1 bn.2 W
  obtain ⟨t, ht⟩ : ∃ t, Lib.itoa n = t := ⟨_, rfl⟩
  rw [ht] at OF IN DG
  obtain ⟨x, ok, hx⟩ : ∃ x ok, intR a = (x, ok) := ⟨_, _, rfl⟩
  rw [hx] at IA RA
  have HT := Lib.hid hT
  have HE := Lib.hid hE
  clear hT hE hx ht
  go_enter Tryd.func9, Tryd.ntmps9
  go_wp2_with fail
  refine AW.mono ?_
  rintro e w1 ⟨rfl, hb1⟩
  go_wp2_with fail
  refine (OF _ (HT.out.mono hb1)).mono ?_
  rintro e w2 ⟨rfl, hq⟩
  have hb2 := hb1.trans (hq.mono hb1.size)
  clear hq hb1
  go_wp2_with fail
  refine (IN _ (HE.out.mono hb2)).mono ?_
  rintro e w3 ⟨rfl, hq⟩
  have hb3 := hb2.trans (hq.mono hb2.size)
  clear hq hb2
  go_wp2_with fail
  refine (IA _ (HE.out.mono hb3)).mono ?_
  rintro e w4 ⟨rfl, hq⟩
  have hb4 := hb3.trans (hq.mono hb3.size)
  clear hq hb3
  go_wp2_with fail
  refine (RA _).mono ?_
  rintro e w5 ⟨rfl, hq⟩
  have hb5 := hb4.trans (hq.mono hb4.size)
  clear hq hb4
  go_wp2_with fail
  refine (OF _ (HT.out.mono hb5)).mono ?_
  rintro e w6 ⟨rfl, hq⟩
  have hb6 := hb5.trans (hq.mono hb5.size)
  clear hq hb5
  go_wp2_with fail
  refine (DG _).mono ?_
  rintro e w7 ⟨rfl, hq⟩
  have hb7 := hb6.trans (hq.mono hb6.size)
  clear hq hb6
  go_wp2
  go_ret
  exact ⟨rfl, hb7⟩

end Go.Proofs.YtekpdmjobkikfaaDoor
