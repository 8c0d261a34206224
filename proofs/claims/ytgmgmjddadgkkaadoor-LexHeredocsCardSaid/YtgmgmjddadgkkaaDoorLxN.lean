/- The walk of one: the token at the front (a line's end, a name, a text, a sign). -/
import Derived.Test.YtgmgmjddadgkkaaDoorLxM
import Derived.Test.YtgmgmjddadgkkaaDoorLxF
import Derived.Test.YtgmgmjddadgkkaaDoorLxG
namespace Go.Proofs.YtgmgmjddadgkkaaDoor
open Go.RowKit
set_option maxRecDepth 100000
attribute [local go_sem] str_size str_toList str_get

/-- What one answers. -/
def oneV (t : Tk) : Value := .tuple #[.agg #[.int .i64 t.kind, str t.text, .int .i64 0], .int .i64 t.size, .int .i64 t.err]
theorem two_new (w : World) (a b : Obj) : Below w.heap.size w ((w.alloc a).alloc b) := ((Below.refl _ w).alloc (Nat.le_refl _) _).alloc (by simp) _

set_option maxHeartbeats 4000000 in
theorem one_line (s : Bs) (c : UInt8) (r : Bs) (hs : s = c :: r) (hl : s.length ≤ 16384) (w : World) (hc : c = 10) :
    Calls Tryd.prog 15 #[str s] w fun e w' => e = .returned (oneV (oneN c r)) ∧ Below w.heap.size w w' := by
  have hv : oneV (oneN c r) = oneV ⟨5, [10], 1, 0⟩ := by unfold oneN; rw [if_pos hc]
  rw [hv]
  have hs0 : s[0]? = some c := by rw [hs]; rfl
  have hslt : 0 < s.length := by rw [hs]; simp
  have hsi : (0 : Int) < (s.length : Int) := by omega
  have hs0 : s[0] = c := by rw [List.getElem?_eq_getElem hslt] at hs0; exact Option.some.inj hs0
  have mixed : Tryd.prog.follows .mixedOrders = true := by kernel_rfl
  have hc10 : ((c.toNat : Int) == 10) = true := by rw [hc]; rfl
  clear hs hv hc
  go_enter Tryd.func15, Tryd.ntmps15
  go_wp2
  refine bodyPost_ret (v := oneV ⟨5, [10], 1, 0⟩) (by simp [results, go_sem, oneV]) rfl ⟨rfl, two_new w _ _⟩

set_option maxHeartbeats 4000000 in
theorem one_name (s : Bs) (c : UInt8) (r : Bs) (hs : s = c :: r) (hl : s.length ≤ 16384) (w : World) (hc : ¬ c = 10) (hL : letB c = true) :
    Calls Tryd.prog 15 #[str s] w fun e w' => e = .returned (oneV (oneN c r)) ∧ Below w.heap.size w w' := by
  obtain ⟨N, hN⟩ : ∃ N, runN namB s = N := ⟨_, rfl⟩
  obtain ⟨nm, hnm⟩ : ∃ nm, s.take N = nm := ⟨_, rfl⟩
  obtain ⟨E, hE⟩ : ∃ E, (if 32 < N then (3 : Int) else 0) = E := ⟨_, rfl⟩
  have hv : oneV (oneN c r) = oneV ⟨1, nm, N, E⟩ := by unfold oneN; rw [if_neg hc, if_pos hL, ← hs, hN, hnm, hE]
  rw [hv]
  have hNl : N ≤ s.length := by rw [← hN]; exact runN_le _ _
  have hNli : (N : Int) ≤ (s.length : Int) := by omega
  have RN := fun W => run_name s (by omega) W
  rw [hN] at RN
  have hcutn : (ByteArray.mk s.toArray).extract 0 N = ByteArray.mk nm.toArray := by rw [str_cut, ← hnm]; rfl
  have hs0 : s[0]? = some c := by rw [hs]; rfl
  have hslt : 0 < s.length := by rw [hs]; simp
  have hsi : (0 : Int) < (s.length : Int) := by omega
  have hs0 : s[0] = c := by rw [List.getElem?_eq_getElem hslt] at hs0; exact Option.some.inj hs0
  have mixed : Tryd.prog.follows .mixedOrders = true := by kernel_rfl
  have hc10 : ((c.toNat : Int) == 10) = false := (u8_eq c 10).trans (by simpa using hc)
  have L := fun W => letter_any c W
  rw [hL] at L
  clear hs hv hc hL hN hnm
  by_cases h32 : 32 < N
  · have h32i : (32 : Int) < (N : Int) := by omega
    rw [if_pos h32] at hE
    subst hE
    clear h32
    go_enter Tryd.func15, Tryd.ntmps15
    go_wp2_with fail
    refine (L _).mono ?_
    rintro e wA ⟨rfl, rfl⟩
    go_wp2_with fail
    refine (RN _).mono ?_
    rintro e wB ⟨rfl, hwB⟩
    rw [hwB]
    clear RN L hwB
    go_wp2
    refine bodyPost_ret (v := oneV ⟨1, nm, N, 3⟩) (by simp [results, go_sem, oneV]) rfl ⟨rfl, two_new w _ _⟩
  · have h32i : ¬ (32 : Int) < (N : Int) := by omega
    rw [if_neg h32] at hE
    subst hE
    clear h32
    go_enter Tryd.func15, Tryd.ntmps15
    go_wp2_with fail
    refine (L _).mono ?_
    rintro e wA ⟨rfl, rfl⟩
    go_wp2_with fail
    refine (RN _).mono ?_
    rintro e wB ⟨rfl, hwB⟩
    rw [hwB]
    clear RN L hwB
    go_wp2
    refine bodyPost_ret (v := oneV ⟨1, nm, N, 0⟩) (by simp [results, go_sem, oneV]) rfl ⟨rfl, two_new w _ _⟩

set_option maxHeartbeats 4000000 in
theorem one_text (s : Bs) (c : UInt8) (r : Bs) (hs : s = c :: r) (hl : s.length ≤ 16384) (w : World) (hc : c = 34) :
    Calls Tryd.prog 15 #[str s] w fun e w' => e = .returned (oneV (oneN c r)) ∧ Below w.heap.size w w' := by
  have hc1 : ¬ c = 10 := by rw [hc]; decide
  have hc2 : letB c = false := by rw [hc]; rfl
  have hc3 : digB c = false := by rw [hc]; rfl
  have TX := fun W => text_any s 0 W (by omega) (by rw [hs]; simp) (by decide)
  have hd1 : s.drop 1 = r := by rw [hs]; rfl
  rw [hd1] at TX
  have hbd := tx_bd r 0
  have hsl : s.length = r.length + 1 := by rw [hs]; rfl
  obtain ⟨X, hX⟩ : ∃ X, tx r 0 = X := ⟨_, rfl⟩
  have hX' : txF (2 * r.length + 1) r 0 = X := hX
  rw [hX] at TX hbd
  have hv : oneV (oneN c r) = oneV (if X.2 = 0 then ⟨3, r.take (X.1 - 1), X.1 + 1, 0⟩ else ⟨0, [], 0, X.2⟩) := by
    unfold oneN
    rw [if_neg hc1, if_neg (by rw [hc2]; decide), if_neg (by rw [hc3]; decide), if_pos hc, hX']
  rw [hv]
  have hs0 : s[0]? = some c := by rw [hs]; rfl
  have hslt : 0 < s.length := by rw [hs]; simp
  have hsi : (0 : Int) < (s.length : Int) := by omega
  have hs0 : s[0] = c := by rw [List.getElem?_eq_getElem hslt] at hs0; exact Option.some.inj hs0
  have mixed : Tryd.prog.follows .mixedOrders = true := by kernel_rfl
  have hc10 : ((c.toNat : Int) == 10) = false := by rw [hc]; rfl
  have hc34 : ((c.toNat : Int) == 34) = true := by rw [hc]; rfl
  have L := fun W => letter_any c W
  have D := fun W => digit_any c W
  rw [hc2] at L
  rw [hc3] at D
  obtain ⟨x, y⟩ := X
  simp only at hv hbd TX ⊢
  by_cases hy : y = 0
  · subst hy
    have hx1 := hbd.2 rfl
    have hx2 := hbd.1
    rw [addN_zero 1 rfl] at TX
    obtain ⟨tt, htt⟩ : ∃ tt, r.take (x - 1) = tt := ⟨_, rfl⟩
    rw [if_pos rfl, htt]
    have hcut : (ByteArray.mk s.toArray).extract 1 x = ByteArray.mk tt.toArray := by rw [str_cut, hd1, htt]
    have hxs : (x : Int) ≤ (s.length : Int) := by omega
    have hxi : (1 : Int) ≤ (x : Int) := by omega
    clear hv hbd hX hX' htt hs hc hc1 hc2 hc3 hd1 hsl
    go_enter Tryd.func15, Tryd.ntmps15
    go_wp2_with fail
    refine (L _).mono ?_
    rintro e wA ⟨rfl, rfl⟩
    go_wp2_with fail
    refine (D _).mono ?_
    rintro e wA ⟨rfl, rfl⟩
    go_wp2_with fail
    refine (TX _).mono ?_
    rintro e wB ⟨rfl, hwB⟩
    rw [hwB]
    clear TX L D hwB
    go_wp2
    refine bodyPost_ret (v := oneV ⟨3, tt, x + 1, 0⟩) (by simp [results, go_sem, oneV]) rfl ⟨rfl, two_new w _ _⟩
  · have hyi : (y == 0) = false := by simpa using hy
    have hyn : (y != 0) = true := by simpa using hy
    rw [addN_err 1 hy] at TX
    rw [if_neg hy]
    clear hv hbd hX hX' hs hc hc1 hc2 hc3 hd1 hsl
    go_enter Tryd.func15, Tryd.ntmps15
    go_wp2_with fail
    refine (L _).mono ?_
    rintro e wA ⟨rfl, rfl⟩
    go_wp2_with fail
    refine (D _).mono ?_
    rintro e wA ⟨rfl, rfl⟩
    go_wp2_with fail
    refine (TX _).mono ?_
    rintro e wB ⟨rfl, hwB⟩
    rw [hwB]
    clear TX L D hwB
    go_wp2
    refine bodyPost_ret (v := oneV ⟨0, [], 0, y⟩) (by simp [results, go_sem, oneV]) rfl ⟨rfl, two_new w _ _⟩

set_option maxHeartbeats 4000000 in
theorem one_sign (s : Bs) (c : UInt8) (r : Bs) (hs : s = c :: r) (hl : s.length ≤ 16384) (w : World) (hc1 : ¬ c = 10) (hc2 : letB c = false) (hc3 : digB c = false) (hc4 : ¬ c = 34) (hc5 : (c == 60 && r.head? == some 60) = false) :
    Calls Tryd.prog 15 #[str s] w fun e w' => e = .returned (oneV (oneN c r)) ∧ Below w.heap.size w w' := by
  obtain ⟨S, hS⟩ : ∃ S, signN c r = S := ⟨_, rfl⟩
  have hv : oneV (oneN c r) = oneV ⟨4, S, S.length, if S.length = 0 then 40 else 0⟩ := by
    unfold oneN
    rw [if_neg hc1, if_neg (by rw [hc2]; decide), if_neg (by rw [hc3]; decide), if_neg hc4, if_neg (by rw [hc5]; decide), hS]
  rw [hv]
  have SG := fun W => sign_any c r (by rw [hs] at hl; simp at hl; omega) W
  rw [hS, ← hs] at SG
  have HP := fun W => Tryd.strings_HasPrefix ⟨(c :: r).toArray⟩ ⟨#[60, 60]⟩ W
  simp only [pre2_eq, hc5] at HP
  rw [← hs] at HP
  have hs0 : s[0]? = some c := by rw [hs]; rfl
  have hslt : 0 < s.length := by rw [hs]; simp
  have hsi : (0 : Int) < (s.length : Int) := by omega
  have hs0 : s[0] = c := by rw [List.getElem?_eq_getElem hslt] at hs0; exact Option.some.inj hs0
  have mixed : Tryd.prog.follows .mixedOrders = true := by kernel_rfl
  have hc10 : ((c.toNat : Int) == 10) = false := (u8_eq c 10).trans (by simpa using hc1)
  have hc34 : ((c.toNat : Int) == 34) = false := (u8_eq c 34).trans (by simpa using hc4)
  have L := fun W => letter_any c W
  have D := fun W => digit_any c W
  rw [hc2] at L
  rw [hc3] at D
  clear hv hs hc1 hc2 hc3 hc4 hc5 hS
  cases S with
  | nil =>
    go_enter Tryd.func15, Tryd.ntmps15
    go_wp2_with fail
    refine (L _).mono ?_
    rintro e wA ⟨rfl, rfl⟩
    go_wp2_with fail
    refine (D _).mono ?_
    rintro e wA ⟨rfl, rfl⟩
    go_wp2_with fail
    refine (HP _).mono ?_
    rintro e wA ⟨rfl, rfl⟩
    go_wp2_with fail
    refine (SG _).mono ?_
    rintro e wB ⟨rfl, hwB⟩
    rw [hwB]
    clear SG L D HP hwB
    go_wp2
    refine bodyPost_ret (v := oneV ⟨4, [], 0, 40⟩) (by simp [results, go_sem, oneV]) rfl ⟨rfl, two_new w _ _⟩
  | cons s0 S =>
    have hSz : (((S.length : Int) + 1) == 0) = false := by simpa using (show ¬ (S.length : Int) + 1 = 0 by omega)
    go_enter Tryd.func15, Tryd.ntmps15
    go_wp2_with fail
    refine (L _).mono ?_
    rintro e wA ⟨rfl, rfl⟩
    go_wp2_with fail
    refine (D _).mono ?_
    rintro e wA ⟨rfl, rfl⟩
    go_wp2_with fail
    refine (HP _).mono ?_
    rintro e wA ⟨rfl, rfl⟩
    go_wp2_with fail
    refine (SG _).mono ?_
    rintro e wB ⟨rfl, hwB⟩
    rw [hwB]
    clear SG L D HP hwB
    go_wp2
    refine bodyPost_ret (v := oneV ⟨4, s0 :: S, (s0 :: S).length, 0⟩) (by simp [results, go_sem, oneV]) rfl ⟨rfl, two_new w _ _⟩

end Go.Proofs.YtgmgmjddadgkkaaDoor
