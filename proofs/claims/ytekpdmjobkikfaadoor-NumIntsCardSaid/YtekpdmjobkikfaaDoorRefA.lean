/- The walks of the document's sum and difference of two sizes. -/
import Derived.Test.YtekpdmjobkikfaaDoorRefS
namespace Go.Proofs.YtekpdmjobkikfaaDoor
open Go.RowKit
set_option maxRecDepth 100000
attribute [local go_sem] str_size str_toList str_get

/-- A digit's byte as a text. -/
theorem str_dig {w : World} (d : Nat) (h : d < 10) (x : Int) (hx : x = 48 + (d : Int)) :
    (convert 37 9 (.slice (some ⟨w.heap.size, 0, none⟩) 1 1)).run Tryd.prog (w.alloc (.cells #[.int .u8 x] 5)) = .ok (.string ⟨[UInt8.ofNat (48 + d)].toArray⟩) (w.alloc (.cells #[.int .u8 x] 5)) := by
  have hc := run_convert_bytes_back (P := Tryd.prog) (w.alloc (.cells #[.int .u8 x] 5)) 37 9 5 ⟨w.heap.size, 0, none⟩ 1 [UInt8.ofNat (48 + d)] Tryd.underlying37 Tryd.underlying5 Tryd.underlying9 (fun j hj => by
    have hj0 : j = 0 := by simpa using hj
    subst hj0
    rw [Lib.add_plain]
    have : (UInt8.ofNat (48 + d)).toNat = 48 + d := by rw [UInt8.toNat_ofNat']; omega
    have h0 := cell_one_new w (Value.int .u8 x) 5 0 (.int .u8 x) rfl
    rw [Lib.add_plain] at h0
    rw [h0, hx]
    show some (Value.int .u8 (48 + (d : Int))) = some (Value.int .u8 ((UInt8.ofNat (48 + d)).toNat : Int))
    rw [this]
    rfl)
  simpa using hc

set_option maxHeartbeats 1600000 in
theorem plus_ref (a b : List UInt8) (ha : allD a = true) (hb : allD b = true) (hn : a ≠ []) (la : a.length ≤ 5000) (lb : b.length ≤ 5000) (w : World) :
    Calls Tryd.prog 41 #[str a, str b] w fun e w' => e = .returned (str (Lib.decDigits (valD a + valD b))) ∧ Below w.heap.size w w' := by
  obtain ⟨M, hM⟩ : ∃ M, M = max a.length b.length := ⟨_, rfl⟩
  have hMa : a.length ≤ M := by omega
  have hMb : b.length ≤ M := by omega
  have hM5 : M ≤ 5000 := by omega
  have ha1 : 0 < a.length := List.length_pos_iff.2 hn
  obtain ⟨R, hR⟩ : ∃ R, Lib.decDigits (valD a + valD b) = R := ⟨_, rfl⟩
  rw [hR]
  have HR := Lib.hid hR
  have HM := Lib.hid hM
  clear hR hM hn
  go_enter Tryd.func41, Tryd.ntmps41
  go_wp2
  go_loopg [5, 6, 7] (M + 1) (fun g v5 v6 v7 wr => ∃ (i c : Nat) (out : List UInt8), i + g = M + 1 ∧ v7 = .int .i64 i ∧ v6 = .int .i64 c ∧ v5 = str out ∧ c ≤ 1 ∧ out.length = i ∧ allD out = true ∧ valD out + 10 ^ i * c = lowR a i + lowR b i ∧ Below w.heap.size w wr)
  case atStart => exact ⟨0, 0, [], by omega, rfl, rfl, rfl, by omega, rfl, rfl, by rw [lowR_zero, lowR_zero]; rfl, Below.refl _ _⟩
  case round =>
    obtain ⟨i, c, out, hig, rfl, rfl, rfl, hc, hl, ho, hv, hbl⟩ := hrel
    by_cases hend : a.length ≤ i ∧ b.length ≤ i ∧ c = 0
    · obtain ⟨h1, h2, rfl⟩ := hend
      have h1' : ¬ (i : Int) < (a.length : Int) := by omega
      have h2' : ¬ (i : Int) < (b.length : Int) := by omega
      have BR := bare_ref out (by omega) wr
      have hend := rplus_end hl ho h1 h2 (by omega) hv
      rw [HR.out] at hend
      rw [hend] at BR
      clear hend hv ho
      go_wp2_with fail
      refine BR.mono ?_
      rintro e w' ⟨rfl, rfl⟩
      go_wp2
      go_ret
      exact ⟨rfl, hbl⟩
    · obtain ⟨g, rfl⟩ : ∃ g', gk = g' + 1 := by
        refine ⟨gk - 1, ?_⟩
        have : gk ≠ 0 := by
          rintro rfl
          apply hend
          refine ⟨by omega, by omega, ?_⟩
          rw [lowR_all (by omega), lowR_all (by omega), show i = M + 1 by omega] at hv
          have h1 := valD_lt ha
          have h2 := valD_lt hb
          have h3 : 10 ^ a.length ≤ 10 ^ M := Nat.pow_le_pow_right (by decide) hMa
          have h4 : 10 ^ b.length ≤ 10 ^ M := Nat.pow_le_pow_right (by decide) hMb
          apply Classical.byContradiction
          intro h0
          have h5 : 10 ^ (M + 1) * 1 ≤ 10 ^ (M + 1) * c := Nat.mul_le_mul_left _ (by omega)
          rw [Nat.pow_succ] at h5 hv
          omega
        omega
      have hst := rplus_step ha hb hl ho hc hv
      have DA := digit_ref a i ha (by omega) wr
      have DB := digit_ref b i hb (by omega) wr
      have hA := dgR_lt ha i
      have hB := dgR_lt hb i
      generalize dgR a i = A at DA hA hst
      generalize dgR b i = B at DB hB hst
      have hsb : A + B + c < 20 := by omega
      obtain ⟨s, hs⟩ : ∃ s, A + B + c = s := ⟨_, rfl⟩
      have hsum : (A : Int) + (B : Int) + (c : Int) = (s : Int) := by omega
      rw [hs] at hst
      have hsb : s < 20 := by omega
      obtain ⟨r, hr⟩ : ∃ r, s % 10 = r := ⟨_, rfl⟩
      obtain ⟨d, hd⟩ : ∃ d, s / 10 = d := ⟨_, rfl⟩
      have hmod : ((s : Nat) : Int).tmod 10 = (r : Int) := by rw [← hr, Int.tmod_eq_emod_of_nonneg (by omega)]; rfl
      have hquo : ((s : Nat) : Int).tdiv 10 = (d : Int) := by rw [← hd, Int.tdiv_eq_ediv_of_nonneg (by omega)]; rfl
      rw [hr, hd] at hst
      have hrb : r < 10 := by omega
      have hdb : d ≤ 1 := by omega
      obtain ⟨ch, hch⟩ : ∃ ch, UInt8.ofNat (48 + r) = ch := ⟨_, rfl⟩
      have hcv := fun (W : World) => str_dig (w := W) r hrb (48 + (r : Int)) rfl
      rw [hch] at hcv hst
      have hadd : ∀ W : World, (Op.stringOp .add (ByteArray.mk #[ch]) (ByteArray.mk out.toArray)).run Tryd.prog W = .ok (.string ⟨(ch :: out).toArray⟩) W := fun W => str_add [ch] out (by simp; omega)
      have HST := Lib.hid hst
      have HL := Lib.hid hl
      clear hst hv ho hr hd hs hl hch
      have fin : ∀ W : World, Below w.heap.size w W → ∃ (i' c' : Nat) (out' : List UInt8), i' + g = M + 1 ∧ Value.int .i64 ((i : Int) + 1) = .int .i64 i' ∧ Value.int .i64 (d : Int) = .int .i64 c' ∧ str (ch :: out) = str out' ∧ c' ≤ 1 ∧ out'.length = i' ∧ allD out' = true ∧ valD out' + 10 ^ i' * c' = lowR a i' + lowR b i' ∧ Below w.heap.size w W :=
        fun W hW => ⟨i + 1, d, _, by omega, by go_num, rfl, rfl, hdb, by rw [List.length_cons, HL.out], HST.out.1, HST.out.2.2, hW⟩
      have FIN := Lib.hid fin
      clear fin
      by_cases hia : (i : Int) < (a.length : Int)
      · go_wp2_with fail
        refine DA.mono ?_
        rintro e w' ⟨rfl, rfl⟩
        go_wp2_with fail
        refine DB.mono ?_
        rintro e w' ⟨rfl, rfl⟩
        go_wp2
        go_roundg g
        case measure => omega
        case rel => exact FIN.out _ (hbl.alloc hbl.size _)
      · by_cases hib : (i : Int) < (b.length : Int)
        · go_wp2_with fail
          refine DA.mono ?_
          rintro e w' ⟨rfl, rfl⟩
          go_wp2_with fail
          refine DB.mono ?_
          rintro e w' ⟨rfl, rfl⟩
          go_wp2
          go_roundg g
          case measure => omega
          case rel => exact FIN.out _ (hbl.alloc hbl.size _)
        · have hc0 : (0 : Int) < (c : Int) := by omega
          go_wp2_with fail
          refine DA.mono ?_
          rintro e w' ⟨rfl, rfl⟩
          go_wp2_with fail
          refine DB.mono ?_
          rintro e w' ⟨rfl, rfl⟩
          go_wp2
          go_roundg g
          case measure => omega
          case rel => exact FIN.out _ (hbl.alloc hbl.size _)

end Go.Proofs.YtekpdmjobkikfaaDoor
