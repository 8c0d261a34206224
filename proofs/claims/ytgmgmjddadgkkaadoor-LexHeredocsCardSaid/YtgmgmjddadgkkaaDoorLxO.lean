/- The walk of one at a number. -/
import Derived.Test.YtgmgmjddadgkkaaDoorLxN
namespace Go.Proofs.YtgmgmjddadgkkaaDoor
open Go.RowKit
set_option maxRecDepth 100000

theorem isD_dig (c : UInt8) : isD c = digB c := by
  unfold isD digB
  rw [u8_le, u8_le]
  congr 1
  · rw [Bool.eq_iff_iff, decide_eq_true_eq, decide_eq_true_eq]
    show _ ↔ (48 : Int) ≤ _
    omega
  · rw [Bool.eq_iff_iff, decide_eq_true_eq, decide_eq_true_eq]
    show _ ↔ _ ≤ (57 : Int)
    omega
theorem run_all (p : UInt8 → Bool) : ∀ l : Bs, (l.take (runN p l)).all p = true
  | [] => rfl
  | c :: r => by
    rw [runN]
    by_cases h : p c = true
    · rw [if_pos h, List.take_succ_cons, List.all_cons, h, run_all p r]; rfl
    · rw [if_neg h]; rfl
theorem good_run (c : UInt8) (r : Bs) (hd : digB c = true) (h : ¬ (c = 48 ∧ 1 < runN digB (c :: r))) : goodS ((c :: r).take (runN digB (c :: r))) = decide (runN digB (c :: r) ≤ 100) := by
  have hall := run_all digB (c :: r)
  have hle := runN_le digB (c :: r)
  obtain ⟨N, hN⟩ : ∃ N, runN digB (c :: r) = N := ⟨_, rfl⟩
  have hN1 : 1 ≤ N := by rw [← hN]; exact runN_pos hd
  rw [hN] at h hall hle ⊢
  have hlen : ((c :: r).take N).length = N := by rw [List.length_take]; omega
  obtain ⟨n, rfl⟩ : ∃ n, N = n + 1 := ⟨N - 1, by omega⟩
  rw [List.take_succ_cons] at hall hlen ⊢
  have hc : ¬ c = 45 := by rintro rfl; revert hd; decide
  have hsz : sizeS (c :: r.take n) = c :: r.take n := by unfold sizeS; rw [if_neg (by simpa using hc)]
  have hA : allD (c :: r.take n) = true := by
    unfold allD
    rw [List.all_eq_true] at hall ⊢
    exact fun x hx => by rw [isD_dig]; exact hall x hx
  have hz : (!((c :: r.take n).head? == some 48) || (c :: r.take n) == [48]) = true := by
    by_cases h48 : c = 48
    · have hn0 : n = 0 := Classical.byContradiction fun e => h ⟨h48, by omega⟩
      subst hn0
      subst h48
      rfl
    · simp [h48]
  unfold goodS
  rw [hsz, hA, hlen, hz]
  simp

theorem two_at (w : World) (a b : Obj) : ((w.alloc a).alloc b).heap[w.heap.size]? = some a := by
  rw [Lib.alloc_old _ _ _ (by simp)]
  show (w.heap.push a)[w.heap.size]? = some a
  simp
def nextL : Bs → Bool
  | [] => false
  | e :: _ => letB e
theorem one_at_num (c : UInt8) (r : Bs) (hc : ¬ c = 10) (hL : letB c = false) (hD : digB c = true) : oneN c r = ⟨2, (c :: r).take (runN digB (c :: r)), runN digB (c :: r), if nextL ((c :: r).drop (runN digB (c :: r))) = true ∨ (c = 48 ∧ 1 < runN digB (c :: r)) then 40 else if 100 < runN digB (c :: r) then 3 else 0⟩ := by
  unfold oneN
  rw [if_neg hc, if_neg (by rw [hL]; decide), if_pos hD]
  rfl

attribute [local go_sem] str_size str_toList str_get
set_option maxHeartbeats 4000000 in
theorem one_num (s : Bs) (c : UInt8) (r : Bs) (hs : s = c :: r) (hl : s.length ≤ 16384) (w : World) (hc : ¬ c = 10) (hL : letB c = false) (hD : digB c = true) :
    Calls Tryd.prog 15 #[str s] w fun e w' => e = .returned (oneV (oneN c r)) ∧ Below w.heap.size w w' := by
  have hgood := good_run c r hD
  rw [← hs] at hgood
  obtain ⟨N, hN⟩ : ∃ N, runN digB s = N := ⟨_, rfl⟩
  obtain ⟨nm, hnm⟩ : ∃ nm, s.take N = nm := ⟨_, rfl⟩
  obtain ⟨bq, hbq⟩ : ∃ b, nextL (s.drop N) = b := ⟨_, rfl⟩
  have hv : oneV (oneN c r) = oneV ⟨2, nm, N, if bq = true ∨ (c = 48 ∧ 1 < N) then 40 else if 100 < N then 3 else 0⟩ := by
    rw [one_at_num c r hc hL hD, ← hs, hN, hnm, hbq]
  rw [hv]
  rw [hN, hnm] at hgood
  have hNl : N ≤ s.length := by rw [← hN]; exact runN_le _ _
  have hNli : (N : Int) ≤ (s.length : Int) := by omega
  have RN := fun W => run_digit s (by omega) W
  rw [hN] at RN
  have hcutn : (ByteArray.mk s.toArray).extract 0 N = ByteArray.mk nm.toArray := by rw [str_cut, ← hnm]; rfl
  have GD := fun W => good_any nm W
  have hs0 : s[0]? = some c := by rw [hs]; rfl
  have hslt : 0 < s.length := by rw [hs]; simp
  have hsi : (0 : Int) < (s.length : Int) := by omega
  have hs0 : s[0] = c := by rw [List.getElem?_eq_getElem hslt] at hs0; exact Option.some.inj hs0
  have mixed : Tryd.prog.follows .mixedOrders = true := by kernel_rfl
  have hc10 : ((c.toNat : Int) == 10) = false := (u8_eq c 10).trans (by simpa using hc)
  have L := fun W => letter_any c W
  have DG := fun W => digit_any c W
  rw [hL] at L
  rw [hD] at DG
  have hcz : ((c.toNat : Int) == 48) = (c == 48) := u8_eq c 48
  obtain ⟨cz, hczz⟩ : ∃ b, (c == 48) = b := ⟨_, rfl⟩
  have hcz48 : c = 48 ↔ cz = true := by rw [← hczz]; simp
  rw [hczz] at hcz
  simp only [hcz48] at hgood ⊢
  -- the byte behind the number
  by_cases hlt : N < s.length
  · have hlti : (N : Int) < (s.length : Int) := by omega
    obtain ⟨d, hd⟩ : ∃ d, s[N]?.getD 0 = d := ⟨_, rfl⟩
    have hdg := drop_get hlt
    rw [hd] at hdg
    have hsN : s[N] = d := by rw [← hd]; simp [hlt]
    rw [hdg] at hbq
    have hbq : letB d = bq := hbq
    have L2 := fun W => letter_any d W
    rw [hbq] at L2
    clear hs hv hc hL hD hN hnm hd hdg hbq hczz hcz48
    cases bq with
    | true =>
      rw [if_pos (.inl rfl)]
      clear hgood GD
      go_enter Tryd.func15, Tryd.ntmps15
      go_wp2_with fail
      refine (L _).mono ?_
      rintro e wA ⟨rfl, rfl⟩
      go_wp2_with fail
      refine (DG _).mono ?_
      rintro e wA ⟨rfl, rfl⟩
      go_wp2_with fail
      refine (RN _).mono ?_
      rintro e wB ⟨rfl, hwB⟩
      rw [hwB]
      go_wp2_with fail
      refine (L2 _).mono ?_
      rintro e wC ⟨rfl, hwC⟩
      rw [hwC]
      clear RN L DG L2 hwB hwC
      go_wp2
      refine bodyPost_ret (v := oneV ⟨2, nm, N, 40⟩) (by simp [results, go_sem, oneV]) rfl ⟨rfl, two_new w _ _⟩
    | false =>
      cases cz with
      | true =>
        by_cases h1 : 1 < N
        · have h1i : (1 : Int) < (N : Int) := by omega
          rw [if_pos (.inr ⟨rfl, h1⟩)]
          clear hgood GD h1
          go_enter Tryd.func15, Tryd.ntmps15
          go_wp2_with fail
          refine (L _).mono ?_
          rintro e wA ⟨rfl, rfl⟩
          go_wp2_with fail
          refine (DG _).mono ?_
          rintro e wA ⟨rfl, rfl⟩
          go_wp2_with fail
          refine (RN _).mono ?_
          rintro e wB ⟨rfl, hwB⟩
          rw [hwB]
          go_wp2_with fail
          refine (L2 _).mono ?_
          rintro e wC ⟨rfl, hwC⟩
          rw [hwC]
          clear RN L DG L2 hwB hwC
          go_wp2
          refine bodyPost_ret (v := oneV ⟨2, nm, N, 40⟩) (by simp [results, go_sem, oneV]) rfl ⟨rfl, two_new w _ _⟩
        · have h1i : ¬ (1 : Int) < (N : Int) := by omega
          have h1q := h1
          have hg := hgood (by simp [h1])
          obtain ⟨g, hgg⟩ : ∃ g, decide (N ≤ 100) = g := ⟨_, rfl⟩
          rw [hg, hgg] at GD
          have hE : (if (false = true ∨ true = true ∧ 1 < N) then (40 : Int) else if 100 < N then 3 else 0) = (if g = true then 0 else 3) := by
            rw [if_neg (by simp [h1]), ← hgg]
            by_cases h : N ≤ 100
            · rw [if_neg (by omega), if_pos (by simpa using h)]
            · rw [if_pos (by omega), if_neg (by simpa using h)]
          rw [hE]
          clear hE hgg hg hgood h1q
          go_enter Tryd.func15, Tryd.ntmps15
          go_wp2_with fail
          refine (L _).mono ?_
          rintro e wA ⟨rfl, rfl⟩
          go_wp2_with fail
          refine (DG _).mono ?_
          rintro e wA ⟨rfl, rfl⟩
          go_wp2_with fail
          refine (RN _).mono ?_
          rintro e wB ⟨rfl, hwB⟩
          rw [hwB]
          go_wp2_with fail
          refine (L2 _).mono ?_
          rintro e wC ⟨rfl, hwC⟩
          rw [hwC]
          clear RN L DG L2 hwB hwC
          go_wp2_with fail
          refine (GD _).mono ?_
          rintro e W ⟨rfl, hb⟩
          have q0 : W.cell? ⟨w.heap.size + 1, 0, none⟩ = some (.int .i64 2) := (hb.cell (p := ⟨w.heap.size + 1, 0, none⟩) (by simp)).trans (by simp [go_sem])
          have q1 : W.cell? ⟨w.heap.size + 1, 1, none⟩ = some (str nm) := (hb.cell (p := ⟨w.heap.size + 1, 1, none⟩) (by simp)).trans (by simp [go_sem])
          have q2 : W.cell? ⟨w.heap.size + 1, 2, none⟩ = some (.int .i64 0) := (hb.cell (p := ⟨w.heap.size + 1, 2, none⟩) (by simp)).trans (by simp [go_sem])
          have hA : W.heap[w.heap.size]? = some (.cells #[.int .i64 0, .string ⟨#[]⟩, .int .i64 0] 32 (0, 0)) := (hb.block w.heap.size (by simp; omega)).trans (two_at w _ _)
          have z0 : W.cell? ⟨w.heap.size, 0, none⟩ = some (.int .i64 0) := by rw [Lib.cell_of_heap hA]; rfl
          have z1 : W.cell? ⟨w.heap.size, 1, none⟩ = some (.string ⟨#[]⟩) := by rw [Lib.cell_of_heap hA]; rfl
          have z2 : W.cell? ⟨w.heap.size, 2, none⟩ = some (.int .i64 0) := by rw [Lib.cell_of_heap hA]; rfl
          have f0 : W.frozen? ⟨w.heap.size, 0, none⟩ = false := Lib.frozen_of_heap hA 0
          have f1 : W.frozen? ⟨w.heap.size, 1, none⟩ = false := Lib.frozen_of_heap hA 1
          have f2 : W.frozen? ⟨w.heap.size, 2, none⟩ = false := Lib.frozen_of_heap hA 2
          have hbw : Below w.heap.size w W := (two_new w _ _).trans (hb.mono (by simp; omega))
          clear hA hb
          cases g with
          | true =>
            go_wp2
            refine bodyPost_ret (v := oneV ⟨2, nm, N, 0⟩) (by simp [results, go_sem, oneV, z0, z1, z2]) rfl ⟨rfl, ?_⟩
            exact ((hbw.setCell (p := ⟨w.heap.size, 0, none⟩) (Nat.le_refl _) _).setCell (p := ⟨w.heap.size, 1, none⟩) (Nat.le_refl _) _).setCell (p := ⟨w.heap.size, 2, none⟩) (Nat.le_refl _) _
          | false =>
            go_wp2
            refine bodyPost_ret (v := oneV ⟨2, nm, N, 3⟩) (by simp [results, go_sem, oneV, z0, z1, z2]) rfl ⟨rfl, ?_⟩
            exact ((hbw.setCell (p := ⟨w.heap.size, 0, none⟩) (Nat.le_refl _) _).setCell (p := ⟨w.heap.size, 1, none⟩) (Nat.le_refl _) _).setCell (p := ⟨w.heap.size, 2, none⟩) (Nat.le_refl _) _
      | false =>
        have h1 : ¬ false = true := by decide
        have h1q := h1
        have hg := hgood (by simp)
        obtain ⟨g, hgg⟩ : ∃ g, decide (N ≤ 100) = g := ⟨_, rfl⟩
        rw [hg, hgg] at GD
        have hE : (if (false = true ∨ false = true ∧ 1 < N) then (40 : Int) else if 100 < N then 3 else 0) = (if g = true then 0 else 3) := by
          rw [if_neg (by simp), ← hgg]
          by_cases h : N ≤ 100
          · rw [if_neg (by omega), if_pos (by simpa using h)]
          · rw [if_pos (by omega), if_neg (by simpa using h)]
        rw [hE]
        clear hE hgg hg hgood h1q
        go_enter Tryd.func15, Tryd.ntmps15
        go_wp2_with fail
        refine (L _).mono ?_
        rintro e wA ⟨rfl, rfl⟩
        go_wp2_with fail
        refine (DG _).mono ?_
        rintro e wA ⟨rfl, rfl⟩
        go_wp2_with fail
        refine (RN _).mono ?_
        rintro e wB ⟨rfl, hwB⟩
        rw [hwB]
        go_wp2_with fail
        refine (L2 _).mono ?_
        rintro e wC ⟨rfl, hwC⟩
        rw [hwC]
        clear RN L DG L2 hwB hwC
        go_wp2_with fail
        refine (GD _).mono ?_
        rintro e W ⟨rfl, hb⟩
        have q0 : W.cell? ⟨w.heap.size + 1, 0, none⟩ = some (.int .i64 2) := (hb.cell (p := ⟨w.heap.size + 1, 0, none⟩) (by simp)).trans (by simp [go_sem])
        have q1 : W.cell? ⟨w.heap.size + 1, 1, none⟩ = some (str nm) := (hb.cell (p := ⟨w.heap.size + 1, 1, none⟩) (by simp)).trans (by simp [go_sem])
        have q2 : W.cell? ⟨w.heap.size + 1, 2, none⟩ = some (.int .i64 0) := (hb.cell (p := ⟨w.heap.size + 1, 2, none⟩) (by simp)).trans (by simp [go_sem])
        have hA : W.heap[w.heap.size]? = some (.cells #[.int .i64 0, .string ⟨#[]⟩, .int .i64 0] 32 (0, 0)) := (hb.block w.heap.size (by simp; omega)).trans (two_at w _ _)
        have z0 : W.cell? ⟨w.heap.size, 0, none⟩ = some (.int .i64 0) := by rw [Lib.cell_of_heap hA]; rfl
        have z1 : W.cell? ⟨w.heap.size, 1, none⟩ = some (.string ⟨#[]⟩) := by rw [Lib.cell_of_heap hA]; rfl
        have z2 : W.cell? ⟨w.heap.size, 2, none⟩ = some (.int .i64 0) := by rw [Lib.cell_of_heap hA]; rfl
        have f0 : W.frozen? ⟨w.heap.size, 0, none⟩ = false := Lib.frozen_of_heap hA 0
        have f1 : W.frozen? ⟨w.heap.size, 1, none⟩ = false := Lib.frozen_of_heap hA 1
        have f2 : W.frozen? ⟨w.heap.size, 2, none⟩ = false := Lib.frozen_of_heap hA 2
        have hbw : Below w.heap.size w W := (two_new w _ _).trans (hb.mono (by simp; omega))
        clear hA hb
        cases g with
        | true =>
          go_wp2
          refine bodyPost_ret (v := oneV ⟨2, nm, N, 0⟩) (by simp [results, go_sem, oneV, z0, z1, z2]) rfl ⟨rfl, ?_⟩
          exact ((hbw.setCell (p := ⟨w.heap.size, 0, none⟩) (Nat.le_refl _) _).setCell (p := ⟨w.heap.size, 1, none⟩) (Nat.le_refl _) _).setCell (p := ⟨w.heap.size, 2, none⟩) (Nat.le_refl _) _
        | false =>
          go_wp2
          refine bodyPost_ret (v := oneV ⟨2, nm, N, 3⟩) (by simp [results, go_sem, oneV, z0, z1, z2]) rfl ⟨rfl, ?_⟩
          exact ((hbw.setCell (p := ⟨w.heap.size, 0, none⟩) (Nat.le_refl _) _).setCell (p := ⟨w.heap.size, 1, none⟩) (Nat.le_refl _) _).setCell (p := ⟨w.heap.size, 2, none⟩) (Nat.le_refl _) _
  · have hlti : ¬ (N : Int) < (s.length : Int) := by omega
    have hd0 : s.drop N = [] := List.drop_eq_nil_of_le (by omega)
    rw [hd0] at hbq
    have hbq : false = bq := hbq
    subst hbq
    clear hs hv hc hL hD hN hnm hd0 hczz hcz48
    cases cz with
    | true =>
      by_cases h1 : 1 < N
      · have h1i : (1 : Int) < (N : Int) := by omega
        rw [if_pos (.inr ⟨rfl, h1⟩)]
        clear hgood GD h1
        go_enter Tryd.func15, Tryd.ntmps15
        go_wp2_with fail
        refine (L _).mono ?_
        rintro e wA ⟨rfl, rfl⟩
        go_wp2_with fail
        refine (DG _).mono ?_
        rintro e wA ⟨rfl, rfl⟩
        go_wp2_with fail
        refine (RN _).mono ?_
        rintro e wB ⟨rfl, hwB⟩
        rw [hwB]
        clear RN L DG hwB
        go_wp2
        refine bodyPost_ret (v := oneV ⟨2, nm, N, 40⟩) (by simp [results, go_sem, oneV]) rfl ⟨rfl, two_new w _ _⟩
      · have h1i : ¬ (1 : Int) < (N : Int) := by omega
        have h1q := h1
        have hg := hgood (by simp [h1])
        obtain ⟨g, hgg⟩ : ∃ g, decide (N ≤ 100) = g := ⟨_, rfl⟩
        rw [hg, hgg] at GD
        have hE : (if (false = true ∨ true = true ∧ 1 < N) then (40 : Int) else if 100 < N then 3 else 0) = (if g = true then 0 else 3) := by
          rw [if_neg (by simp [h1]), ← hgg]
          by_cases h : N ≤ 100
          · rw [if_neg (by omega), if_pos (by simpa using h)]
          · rw [if_pos (by omega), if_neg (by simpa using h)]
        rw [hE]
        clear hE hgg hg hgood h1q
        go_enter Tryd.func15, Tryd.ntmps15
        go_wp2_with fail
        refine (L _).mono ?_
        rintro e wA ⟨rfl, rfl⟩
        go_wp2_with fail
        refine (DG _).mono ?_
        rintro e wA ⟨rfl, rfl⟩
        go_wp2_with fail
        refine (RN _).mono ?_
        rintro e wB ⟨rfl, hwB⟩
        rw [hwB]
        clear RN L DG hwB
        go_wp2_with fail
        refine (GD _).mono ?_
        rintro e W ⟨rfl, hb⟩
        have q0 : W.cell? ⟨w.heap.size + 1, 0, none⟩ = some (.int .i64 2) := (hb.cell (p := ⟨w.heap.size + 1, 0, none⟩) (by simp)).trans (by simp [go_sem])
        have q1 : W.cell? ⟨w.heap.size + 1, 1, none⟩ = some (str nm) := (hb.cell (p := ⟨w.heap.size + 1, 1, none⟩) (by simp)).trans (by simp [go_sem])
        have q2 : W.cell? ⟨w.heap.size + 1, 2, none⟩ = some (.int .i64 0) := (hb.cell (p := ⟨w.heap.size + 1, 2, none⟩) (by simp)).trans (by simp [go_sem])
        have hA : W.heap[w.heap.size]? = some (.cells #[.int .i64 0, .string ⟨#[]⟩, .int .i64 0] 32 (0, 0)) := (hb.block w.heap.size (by simp; omega)).trans (two_at w _ _)
        have z0 : W.cell? ⟨w.heap.size, 0, none⟩ = some (.int .i64 0) := by rw [Lib.cell_of_heap hA]; rfl
        have z1 : W.cell? ⟨w.heap.size, 1, none⟩ = some (.string ⟨#[]⟩) := by rw [Lib.cell_of_heap hA]; rfl
        have z2 : W.cell? ⟨w.heap.size, 2, none⟩ = some (.int .i64 0) := by rw [Lib.cell_of_heap hA]; rfl
        have f0 : W.frozen? ⟨w.heap.size, 0, none⟩ = false := Lib.frozen_of_heap hA 0
        have f1 : W.frozen? ⟨w.heap.size, 1, none⟩ = false := Lib.frozen_of_heap hA 1
        have f2 : W.frozen? ⟨w.heap.size, 2, none⟩ = false := Lib.frozen_of_heap hA 2
        have hbw : Below w.heap.size w W := (two_new w _ _).trans (hb.mono (by simp; omega))
        clear hA hb
        cases g with
        | true =>
          go_wp2
          refine bodyPost_ret (v := oneV ⟨2, nm, N, 0⟩) (by simp [results, go_sem, oneV, z0, z1, z2]) rfl ⟨rfl, ?_⟩
          exact ((hbw.setCell (p := ⟨w.heap.size, 0, none⟩) (Nat.le_refl _) _).setCell (p := ⟨w.heap.size, 1, none⟩) (Nat.le_refl _) _).setCell (p := ⟨w.heap.size, 2, none⟩) (Nat.le_refl _) _
        | false =>
          go_wp2
          refine bodyPost_ret (v := oneV ⟨2, nm, N, 3⟩) (by simp [results, go_sem, oneV, z0, z1, z2]) rfl ⟨rfl, ?_⟩
          exact ((hbw.setCell (p := ⟨w.heap.size, 0, none⟩) (Nat.le_refl _) _).setCell (p := ⟨w.heap.size, 1, none⟩) (Nat.le_refl _) _).setCell (p := ⟨w.heap.size, 2, none⟩) (Nat.le_refl _) _
    | false =>
      have h1 : ¬ false = true := by decide
      have h1q := h1
      have hg := hgood (by simp)
      obtain ⟨g, hgg⟩ : ∃ g, decide (N ≤ 100) = g := ⟨_, rfl⟩
      rw [hg, hgg] at GD
      have hE : (if (false = true ∨ false = true ∧ 1 < N) then (40 : Int) else if 100 < N then 3 else 0) = (if g = true then 0 else 3) := by
        rw [if_neg (by simp), ← hgg]
        by_cases h : N ≤ 100
        · rw [if_neg (by omega), if_pos (by simpa using h)]
        · rw [if_pos (by omega), if_neg (by simpa using h)]
      rw [hE]
      clear hE hgg hg hgood h1q
      go_enter Tryd.func15, Tryd.ntmps15
      go_wp2_with fail
      refine (L _).mono ?_
      rintro e wA ⟨rfl, rfl⟩
      go_wp2_with fail
      refine (DG _).mono ?_
      rintro e wA ⟨rfl, rfl⟩
      go_wp2_with fail
      refine (RN _).mono ?_
      rintro e wB ⟨rfl, hwB⟩
      rw [hwB]
      clear RN L DG hwB
      go_wp2_with fail
      refine (GD _).mono ?_
      rintro e W ⟨rfl, hb⟩
      have q0 : W.cell? ⟨w.heap.size + 1, 0, none⟩ = some (.int .i64 2) := (hb.cell (p := ⟨w.heap.size + 1, 0, none⟩) (by simp)).trans (by simp [go_sem])
      have q1 : W.cell? ⟨w.heap.size + 1, 1, none⟩ = some (str nm) := (hb.cell (p := ⟨w.heap.size + 1, 1, none⟩) (by simp)).trans (by simp [go_sem])
      have q2 : W.cell? ⟨w.heap.size + 1, 2, none⟩ = some (.int .i64 0) := (hb.cell (p := ⟨w.heap.size + 1, 2, none⟩) (by simp)).trans (by simp [go_sem])
      have hA : W.heap[w.heap.size]? = some (.cells #[.int .i64 0, .string ⟨#[]⟩, .int .i64 0] 32 (0, 0)) := (hb.block w.heap.size (by simp; omega)).trans (two_at w _ _)
      have z0 : W.cell? ⟨w.heap.size, 0, none⟩ = some (.int .i64 0) := by rw [Lib.cell_of_heap hA]; rfl
      have z1 : W.cell? ⟨w.heap.size, 1, none⟩ = some (.string ⟨#[]⟩) := by rw [Lib.cell_of_heap hA]; rfl
      have z2 : W.cell? ⟨w.heap.size, 2, none⟩ = some (.int .i64 0) := by rw [Lib.cell_of_heap hA]; rfl
      have f0 : W.frozen? ⟨w.heap.size, 0, none⟩ = false := Lib.frozen_of_heap hA 0
      have f1 : W.frozen? ⟨w.heap.size, 1, none⟩ = false := Lib.frozen_of_heap hA 1
      have f2 : W.frozen? ⟨w.heap.size, 2, none⟩ = false := Lib.frozen_of_heap hA 2
      have hbw : Below w.heap.size w W := (two_new w _ _).trans (hb.mono (by simp; omega))
      clear hA hb
      cases g with
      | true =>
        go_wp2
        refine bodyPost_ret (v := oneV ⟨2, nm, N, 0⟩) (by simp [results, go_sem, oneV, z0, z1, z2]) rfl ⟨rfl, ?_⟩
        exact ((hbw.setCell (p := ⟨w.heap.size, 0, none⟩) (Nat.le_refl _) _).setCell (p := ⟨w.heap.size, 1, none⟩) (Nat.le_refl _) _).setCell (p := ⟨w.heap.size, 2, none⟩) (Nat.le_refl _) _
      | false =>
        go_wp2
        refine bodyPost_ret (v := oneV ⟨2, nm, N, 3⟩) (by simp [results, go_sem, oneV, z0, z1, z2]) rfl ⟨rfl, ?_⟩
        exact ((hbw.setCell (p := ⟨w.heap.size, 0, none⟩) (Nat.le_refl _) _).setCell (p := ⟨w.heap.size, 1, none⟩) (Nat.le_refl _) _).setCell (p := ⟨w.heap.size, 2, none⟩) (Nat.le_refl _) _
end Go.Proofs.YtgmgmjddadgkkaaDoor
