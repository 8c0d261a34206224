/- The walk of the document's difference of two sizes. -/
import Derived.Test.YtekpdmjobkikfaaDoorRefA
namespace Go.Proofs.YtekpdmjobkikfaaDoor
open Go.RowKit
set_option maxRecDepth 100000
attribute [local go_sem] str_size str_toList str_get

set_option maxHeartbeats 1600000 in
theorem minus_ref (a b : List UInt8) (ha : allD a = true) (hb : allD b = true) (hn : a ≠ []) (la : a.length ≤ 5000) (lba : b.length ≤ a.length) (hle : valD b ≤ valD a) (w : World) :
    Calls Tryd.prog 43 #[str a, str b] w fun e w' => e = .returned (str (Lib.decDigits (valD a - valD b))) ∧ Below w.heap.size w w' := by
  obtain ⟨R, hR⟩ : ∃ R, Lib.decDigits (valD a - valD b) = R := ⟨_, rfl⟩
  rw [hR]
  have HR := Lib.hid hR
  have HN := Lib.hid hn
  have HLE := Lib.hid hle
  clear hR hn hle
  go_enter Tryd.func43, Tryd.ntmps43
  go_wp2
  go_loopg [5, 6, 7] a.length (fun g v5 v6 v7 wr => ∃ (i c : Nat) (out : List UInt8), i + g = a.length ∧ v7 = .int .i64 i ∧ v6 = .int .i64 c ∧ v5 = str out ∧ c ≤ 1 ∧ out.length = i ∧ allD out = true ∧ valD out + lowR b i = lowR a i + 10 ^ i * c ∧ Below w.heap.size w wr)
  case atStart => exact ⟨0, 0, [], by omega, rfl, rfl, rfl, by omega, rfl, rfl, by rw [lowR_zero, lowR_zero]; rfl, Below.refl _ _⟩
  case round =>
    obtain ⟨i, c, out, hig, rfl, rfl, rfl, hc, hl, ho, hv, hbl⟩ := hrel
    cases gk with
    | zero =>
      have hie : ¬ (i : Int) < (a.length : Int) := by omega
      obtain rfl : i = a.length := by omega
      have BR := bare_ref out (by omega) wr
      have hend := rminus_end hl ho lba HN.out HLE.out hv
      rw [HR.out] at hend
      rw [hend] at BR
      clear hend hv ho hl
      go_wp2_with fail
      refine BR.mono ?_
      rintro e w' ⟨rfl, rfl⟩
      go_wp2
      go_ret
      exact ⟨rfl, hbl⟩
    | succ g =>
      have hie : (i : Int) < (a.length : Int) := by omega
      have hst := rminus_step ha hb hl ho hc hv
      have DA := digit_ref a i ha (by omega) wr
      have DB := digit_ref b i hb (by omega) wr
      have hA := dgR_lt ha i
      have hB := dgR_lt hb i
      generalize dgR a i = A at DA hA hst
      generalize dgR b i = B at DB hB hst
      by_cases hlt : A < B + c
      · have hst := hst.1 hlt
        have hneg : (A : Int) - (B : Int) - (c : Int) < 0 := by omega
        obtain ⟨ch, hch⟩ : ∃ ch, UInt8.ofNat (48 + (A + 10 - (B + c))) = ch := ⟨_, rfl⟩
        obtain ⟨r, hr⟩ : ∃ r, r = A + 10 - (B + c) := ⟨_, rfl⟩
        have hrb : r < 10 := by omega
        rw [← hr] at hch
        have hcv := fun (W : World) => str_dig (w := W) r hrb (48 + (r : Int)) rfl
        rw [← hr, hch] at hst
        rw [hch] at hcv
        have hadd : ∀ W : World, (Op.stringOp .add (ByteArray.mk #[ch]) (ByteArray.mk out.toArray)).run Tryd.prog W = .ok (.string ⟨(ch :: out).toArray⟩) W := fun W => str_add [ch] out (by simp; omega)
        have HST := Lib.hid hst
        have HL := Lib.hid hl
        have hsum : 48 + ((A : Int) - (B : Int) - (c : Int) + 10) = 48 + (r : Int) := by omega
        have hsum' : (A : Int) - (B : Int) - (c : Int) + 10 = (r : Int) := by omega
        clear hr hlt
        clear hst hv ho hl hch
        have fin : ∀ W : World, Below w.heap.size w W → ∃ (i' c' : Nat) (out' : List UInt8), i' + g = a.length ∧ Value.int .i64 ((i : Int) + 1) = .int .i64 i' ∧ Value.int .i64 1 = .int .i64 c' ∧ str (ch :: out) = str out' ∧ c' ≤ 1 ∧ out'.length = i' ∧ allD out' = true ∧ valD out' + lowR b i' = lowR a i' + 10 ^ i' * c' ∧ Below w.heap.size w W :=
          fun W hW => ⟨i + 1, 1, _, by omega, by go_num, rfl, rfl, by omega, by rw [List.length_cons, HL.out], HST.out.1, HST.out.2, hW⟩
        have FIN := Lib.hid fin
        clear fin
        go_wp2_with fail
        refine DA.mono ?_
        rintro e w' ⟨rfl, rfl⟩
        go_wp2_with fail
        refine DB.mono ?_
        rintro e w' ⟨rfl, rfl⟩
        go_wp2
        go_roundg g
        case measure => omega
        case rel => exact FIN.out _ (hbl.alloc hbl.size _)
      · have hst := hst.2 hlt
        have hneg : ¬ (A : Int) - (B : Int) - (c : Int) < 0 := by omega
        obtain ⟨ch, hch⟩ : ∃ ch, UInt8.ofNat (48 + (A - (B + c))) = ch := ⟨_, rfl⟩
        obtain ⟨r, hr⟩ : ∃ r, r = A - (B + c) := ⟨_, rfl⟩
        have hrb : r < 10 := by omega
        rw [← hr] at hch
        have hcv := fun (W : World) => str_dig (w := W) r hrb (48 + (r : Int)) rfl
        rw [← hr, hch] at hst
        rw [hch] at hcv
        have hadd : ∀ W : World, (Op.stringOp .add (ByteArray.mk #[ch]) (ByteArray.mk out.toArray)).run Tryd.prog W = .ok (.string ⟨(ch :: out).toArray⟩) W := fun W => str_add [ch] out (by simp; omega)
        have HST := Lib.hid hst
        have HL := Lib.hid hl
        have hsum : (A : Int) - (B : Int) - (c : Int) = (r : Int) := by omega
        clear hr hlt
        clear hst hv ho hl hch
        have fin : ∀ W : World, Below w.heap.size w W → ∃ (i' c' : Nat) (out' : List UInt8), i' + g = a.length ∧ Value.int .i64 ((i : Int) + 1) = .int .i64 i' ∧ Value.int .i64 0 = .int .i64 c' ∧ str (ch :: out) = str out' ∧ c' ≤ 1 ∧ out'.length = i' ∧ allD out' = true ∧ valD out' + lowR b i' = lowR a i' + 10 ^ i' * c' ∧ Below w.heap.size w W :=
          fun W hW => ⟨i + 1, 0, _, by omega, by go_num, rfl, rfl, by omega, by rw [List.length_cons, HL.out], HST.out.1, HST.out.2, hW⟩
        have FIN := Lib.hid fin
        clear fin
        go_wp2_with fail
        refine DA.mono ?_
        rintro e w' ⟨rfl, rfl⟩
        go_wp2_with fail
        refine DB.mono ?_
        rintro e w' ⟨rfl, rfl⟩
        go_wp2
        go_roundg g
        case measure => omega
        case rel => exact FIN.out _ (hbl.alloc hbl.size _)

end Go.Proofs.YtekpdmjobkikfaaDoor
