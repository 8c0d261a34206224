/- The walk of value.good and value.Good: is a value a good one, with so much depth and so many values left? -/
import Derived.Test.YtpbipngnoklmcaaGreatDoorMValR
import Derived.Test.YtpbipngnoklmcaaGreatDoorValO
import Derived.Test.YtpbipngnoklmcaaGreatDoorValN
import Derived.Test.YtpbipngnoklmcaaGreatDoorMGood
namespace Go.Proofs.YtpbipngnoklmcaaGreatDoor
open Go.RowKit
set_option maxRecDepth 100000
attribute [local go_sem] str_size str_toList str_get

def goodF (d : Nat) (t : VT) (L : Int) : Bool := deepV d t && plainV t && decide ((sizeV t : Int) ≤ L)
theorem goodF_goodV (t : VT) : goodF 24 t 2000 = goodV t := by
  unfold goodF goodV
  rw [show decide ((sizeV t : Int) ≤ 2000) = decide (sizeV t ≤ 2000) by congr 1; apply propext; omega]
  cases deepV 24 t <;> cases plainV t <;> cases decide (sizeV t ≤ 2000) <;> rfl
theorem goodF_zero (t : VT) (L : Int) : goodF 0 t L = false := by cases t; rfl
theorem goodF_split {d : Nat} {k : Int} {b : Bool} {tx : List UInt8} {its : List VT} {ks : List (List UInt8)} {L : Int} {R : Bool} (h : goodF (d + 1) (.mk k b tx its ks) L = R) :
    (L < 1 → R = false) ∧ (nodeOk k b tx its.length ks = false → R = false) ∧ (∀ i (hi : i < its.length), goodF d its[i] (L - 1 - sizeL (its.take i)) = false → R = false) ∧
    (nodeOk k b tx its.length ks = true → its.all (deepV d) = true → its.all plainV = true → 1 + (sizeL its : Int) ≤ L → R = true) := by
  have hx : ∀ x ∈ its, ∀ L : Int, goodF d x L = (deepV d x && plainV x && decide ((sizeV x : Int) ≤ L)) := fun _ _ _ => rfl
  subst h
  rw [goodF, deepV, plainV, plainL_all, sizeV]
  refine ⟨fun h => ?_, fun h => ?_, fun i hi h => ?_, fun h1 h2 h3 h4 => ?_⟩
  · rw [decide_eq_false (by omega), Bool.and_false]
  · rw [h]; simp
  · unfold goodF at h
    cases h1 : deepV d its[i] with
    | false => rw [all_false hi h1]; rfl
    | true =>
      cases h2 : plainV its[i] with
      | false => rw [all_false hi h2]; simp
      | true =>
        rw [h1, h2, Bool.true_and, Bool.true_and, decide_eq_false_iff_not] at h
        have e1 := sizeL_take_succ hi
        have e2 := sizeL_take_le its (i + 1)
        rw [decide_eq_false (by omega), Bool.and_false]
  · rw [h1, h2, h3, decide_eq_true (by omega)]; rfl

theorem nodeOk_iff {k : Int} {b : Bool} {t : List UInt8} {n : Nat} {ks : List (List UInt8)} : nodeOk k b t n ks = true ↔
    (0 ≤ k ∧ k ≤ 6) ∧ (b = true → k = 2) ∧ (t = [] ∨ k = 3 ∨ k = 4) ∧ (n = 0 ∨ 5 ≤ k) ∧ (k = 6 ∨ ks.length = 0) ∧ (k = 3 → goodS t = true) ∧ (k = 4 → t.length ≤ 16384) ∧ (k = 6 → ks.length = n) ∧ keysOk ks = true := by
  unfold nodeOk aOk bOk
  simp only [Bool.and_eq_true, Bool.or_eq_true, decide_eq_true_eq, beq_iff_eq, Bool.not_eq_true', beq_eq_false_iff_ne, List.isEmpty_iff, ne_eq]
  constructor
  · rintro ⟨⟨⟨⟨⟨⟨⟨h1, h2⟩, h3⟩, h4⟩, h5⟩, h6⟩, ⟨⟨h7, h8⟩, h9⟩⟩, h10⟩
    refine ⟨⟨h1, h2⟩, fun h => ?_, ?_, h5, h6, fun h => ?_, fun h => ?_, fun h => ?_, h10⟩
    · rcases h3 with h3 | h3
      · rw [h3] at h; cases h
      · exact h3
    · rcases h4 with (h4 | h4) | h4
      · exact .inl h4
      · exact .inr (.inl h4)
      · exact .inr (.inr h4)
    · exact h7.resolve_left (fun hh => hh h)
    · exact h8.resolve_left (fun hh => hh h)
    · exact h9.resolve_left (fun hh => hh h)
  · rintro ⟨⟨h1, h2⟩, h3, h4, h5, h6, h7, h8, h9, h10⟩
    refine ⟨⟨⟨⟨⟨⟨⟨h1, h2⟩, ?_⟩, ?_⟩, h5⟩, h6⟩, ⟨⟨?_, ?_⟩, ?_⟩⟩, h10⟩
    · cases b with
      | false => exact .inl rfl
      | true => exact .inr (h3 rfl)
    · rcases h4 with h4 | h4 | h4
      · exact .inl (.inl h4)
      · exact .inl (.inr h4)
      · exact .inr h4
    · by_cases h : k = 3
      · exact .inr (h7 h)
      · exact .inl h
    · by_cases h : k = 4
      · exact .inr (h8 h)
      · exact .inl h
    · by_cases h : k = 6
      · exact .inr (h9 h)
      · exact .inl h
theorem nodeOk_no {k : Int} {b : Bool} {t : List UInt8} {n : Nat} {ks : List (List UInt8)} (h : ¬ ((0 ≤ k ∧ k ≤ 6) ∧ (b = true → k = 2) ∧ (t = [] ∨ k = 3 ∨ k = 4) ∧ (n = 0 ∨ 5 ≤ k) ∧ (k = 6 ∨ ks.length = 0) ∧ (k = 3 → goodS t = true) ∧ (k = 4 → t.length ≤ 16384) ∧ (k = 6 → ks.length = n) ∧ keysOk ks = true)) : nodeOk k b t n ks = false := by
  rw [← nodeOk_iff, Bool.not_eq_true] at h
  exact h

/-- The counter. -/
def Ctr (w : World) (p : Nat) (L : Int) : Prop := w.heap[p]? = some (.cells #[.int .i64 L] 3 (0, 0))
theorem Ctr.lt {w : World} {p : Nat} {L : Int} (h : Ctr w p L) : p < w.heap.size := (Array.getElem?_eq_some_iff.1 h).1
theorem Ctr.cell {w : World} {p : Nat} {L : Int} (h : Ctr w p L) : w.cell? ⟨p, 0, none⟩ = some (.int .i64 L) ∧ w.frozen? ⟨p, 0, none⟩ = false := by
  unfold Ctr at h
  simp [World.cell?, World.frozen?, h]
theorem Ctr.keep {w w' : World} {p : Nat} {L : Int} (h : Ctr w p L) (hk : w'.heap[p]? = w.heap[p]?) : Ctr w' p L := hk.trans h
theorem Ctr.below {w w' : World} {p : Nat} {L : Int} (h : Ctr w p L) (hb : Below w.heap.size w w') : Ctr w' p L := h.keep (hb.block p h.lt)
theorem Ctr.set {w : World} {p : Nat} {L : Int} (h : Ctr w p L) (M : Int) : Ctr (w.setCell ⟨p, 0, none⟩ (.int .i64 M)) p M ∧ Spares [p] w (w.setCell ⟨p, 0, none⟩ (.int .i64 M)) := by
  unfold Ctr at h ⊢
  refine ⟨?_, ⟨rfl, rfl, rfl, ?_, fun k hk hn => ?_⟩⟩
  · simp [World.setCell, Array.getElem?_modify, h]
  · simp [World.setCell]
  · simp only [List.mem_singleton] at hn
    simp [World.setCell, Array.getElem?_modify, Ne.symm hn]

def GoodPost (R : Bool) (S : Int) (p : Nat) (w : World) (e : Ending) (w' : World) : Prop :=
  e = .returned (.bool R) ∧ ∃ L', Ctr w' p L' ∧ Spares [p] w w' ∧ (R = true → L' = S)
theorem GoodPost.of {R : Bool} {S : Int} {p : Nat} {w w' : World} {L' : Int} (hc : Ctr w' p L') (hs : Spares [p] w w') (h : R = true → L' = S) : GoodPost R S p w (.returned (.bool R)) w' := ⟨rfl, L', hc, hs, h⟩
theorem GoodPost.no {S : Int} {p : Nat} {w w' : World} {L' : Int} (hc : Ctr w' p L') (hs : Spares [p] w w') : GoodPost false S p w (.returned (.bool false)) w' := ⟨rfl, L', hc, hs, fun h => by cases h⟩

theorem box1 {w : World} {c : Value} {T : TypeId} : (w.alloc (.cells #[c] T)).cell? ⟨w.heap.size, 0, none⟩ = some c := by
  have hn : (w.alloc (.cells #[c] T)).heap[w.heap.size]? = some (.cells #[c] T (0, 0)) := heap_alloc_new _ _
  simp only [World.cell?, hn]
  rfl

/-- So far all are good. -/
def GoodR (its : List VT) (d : Nat) (L : Int) (p : Nat) (wE : World) (i : Nat) (W : World) : Prop :=
  Spares [p] wE W ∧ Ctr W p (L - 1 - sizeL (its.take i)) ∧ (sizeL (its.take i) : Int) ≤ L - 1 ∧ (its.take i).all (deepV d) = true ∧ (its.take i).all plainV = true
/-- One is not. -/
def GoodQ (R : Bool) (p : Nat) (wE : World) (W : World) : Prop := Spares [p] wE W ∧ (∃ L', Ctr W p L') ∧ R = false

/-- A sum of two lengths: is it nothing? -/
theorem sum_none {n m : Nat} (hn : n ≤ 9223372036854775807) (hm : m ≤ 9223372036854775807) : (IntKind.i64.wrap ((n : Int) + (m : Int)) == 0) = decide (n = 0 ∧ m = 0) := by
  rw [IntKind.wrap_i64, Bool.eq_iff_iff, beq_iff_eq, decide_eq_true_iff]
  omega

theorem RowAt.elem {w w' : World} {ao : Option Addr} {cap : Nat} {vs : Nat → Value} {l : List VT} (_h : RowAt w (.slice ao l.length cap) l.length vs) (hv : ValsAt w l vs) (hb : Below w.heap.size w w') {i : Nat} (hi : i < l.length) :
    ∃ ai ci ak ck, vs i = .agg #[.int .i64 l[i].kind, .bool l[i].flag, str l[i].text, .slice ai l[i].items.length ci, .slice ak l[i].keys.length ck] ∧ ValAt w' l[i] (vs i) ∧ ValAt w l[i] (vs i) := by
  have hx := (ValsAt_iff w l vs).1 hv i hi
  obtain ⟨ai, ci, ak, ck, hf⟩ := hx.form
  exact ⟨ai, ci, ak, ck, hf, hx.mono hb, hx⟩

set_option maxHeartbeats 4000000 in
theorem good_val (t : VT) : ∀ (w0 w : World) (v : Value) (d : Nat) (p : Nat) (L : Int), ValAt w0 t v → Below w0.heap.size w0 w → w0.heap.size ≤ p → Ctr w p L → 0 ≤ L → L ≤ 2000 → d ≤ 24 →
    Calls Tryz.prog 77 #[v, .int .i64 (d : Int), .pointer (some ⟨p, 0, none⟩)] w (GoodPost (goodF d t L) (L - sizeV t) p w) := by
  induction t using VT.ind with
  | h k b tx its ks ih =>
    intro w0 w v d p L h hbw hp hctr hL0 hL1 hd
    obtain ⟨S, hS⟩ : ∃ S : Int, L - sizeV (.mk k b tx its ks) = S := ⟨_, rfl⟩
    have HS : Hid (L - 1 - sizeL its = S) := by rw [Hid, ← hS, sizeV]; omega
    rw [hS]
    clear hS
    obtain ⟨N, hN⟩ : ∃ N : Int, (d : Int) = N := ⟨_, rfl⟩
    rw [hN]
    rw [ValAt] at h
    obtain ⟨vi, vk, rfl, ⟨hk0, hk1, hkt⟩, hks, vs, hr, hv⟩ := h
    have hs0 := hks
    obtain ⟨ak, ck, rfl, hmk, _⟩ := hks
    have hr0 := hr
    obtain ⟨ao, cap, rfl, hm, _⟩ := hr
    have hplt := hctr.lt
    -- the boxes
    obtain ⟨wB, hwB⟩ : ∃ wB, wB = w.alloc (.cells #[.int .i64 k, .bool b, str tx, .slice ao its.length cap, .slice ak ks.length ck] 41) := ⟨_, rfl⟩
    obtain ⟨b0, b1, b2, b3, b4, hsB, hbB⟩ := box5 hwB
    obtain ⟨wC, hwC⟩ : ∃ wC, wC = wB.alloc (.cells #[.int .i64 N] 3) := ⟨_, rfl⟩
    obtain ⟨wD, hwD⟩ : ∃ wD, wD = wC.alloc (.cells #[.pointer (some ⟨p, 0, none⟩)] 125) := ⟨_, rfl⟩
    have hsC : wC.heap.size = w.heap.size + 2 := by rw [hwC]; simp only [World.alloc, Array.size_push]; omega
    have hsD : wD.heap.size = w.heap.size + 3 := by rw [hwD]; simp only [World.alloc, Array.size_push]; omega
    have hbC : Below wB.heap.size wB wC := by rw [hwC]; exact (Below.refl _ _).alloc (Nat.le_refl _) _
    have hbD : Below wC.heap.size wC wD := by rw [hwD]; exact (Below.refl _ _).alloc (Nat.le_refl _) _
    have hbBD : Below wB.heap.size wB wD := hbC.trans (hbD.mono (by omega))
    have cC : wC.cell? ⟨w.heap.size + 1, 0, none⟩ = some (.int .i64 N) := by rw [hwC, ← hsB]; exact box1
    have dD : wD.cell? ⟨w.heap.size + 1 + 1, 0, none⟩ = some (.pointer (some ⟨p, 0, none⟩)) := by rw [hwD, show w.heap.size + 1 + 1 = wC.heap.size by omega]; exact box1
    have cD := (hbD.cell (p := ⟨w.heap.size + 1, 0, none⟩) (by show w.heap.size + 1 < wC.heap.size; omega)).trans cC
    have e0 := (hbBD.cell (p := ⟨w.heap.size, 0, none⟩) (by show w.heap.size < wB.heap.size; omega)).trans b0
    have e1 := (hbBD.cell (p := ⟨w.heap.size, 1, none⟩) (by show w.heap.size < wB.heap.size; omega)).trans b1
    have e2 := (hbBD.cell (p := ⟨w.heap.size, 2, none⟩) (by show w.heap.size < wB.heap.size; omega)).trans b2
    have e3 := (hbBD.cell (p := ⟨w.heap.size, 3, none⟩) (by show w.heap.size < wB.heap.size; omega)).trans b3
    have e4 := (hbBD.cell (p := ⟨w.heap.size, 4, none⟩) (by show w.heap.size < wB.heap.size; omega)).trans b4
    have hbwD : Below w.heap.size w wD := hbB.trans (hbBD.mono (by omega))
    have hcD := hctr.below hbwD
    obtain ⟨f0, f1⟩ := hcD.cell
    obtain ⟨hcE, hsE⟩ := hcD.set (L - 1)
    obtain ⟨wE, hwE⟩ : ∃ wE, wE = wD.setCell ⟨p, 0, none⟩ (.int .i64 (L - 1)) := ⟨_, rfl⟩
    rw [← hwE] at hcE hsE
    have hxE : ∀ q j, w.heap.size ≤ q → q < w.heap.size + 3 → wE.cell? ⟨q, j, none⟩ = wD.cell? ⟨q, j, none⟩ := fun q j h1 h2 => by
      have := hsE.block q (by omega) (by simp; omega)
      simp only [World.cell?, this]
    have g0 := (hxE w.heap.size 0 (by omega) (by omega)).trans e0
    have g1 := (hxE w.heap.size 1 (by omega) (by omega)).trans e1
    have g2 := (hxE w.heap.size 2 (by omega) (by omega)).trans e2
    have g3 := (hxE w.heap.size 3 (by omega) (by omega)).trans e3
    have g4 := (hxE w.heap.size 4 (by omega) (by omega)).trans e4
    have gd := (hxE (w.heap.size + 1) 0 (by omega) (by omega)).trans cD
    have gl := (hxE (w.heap.size + 1 + 1) 0 (by omega) (by omega)).trans dD
    have gc := hcE.cell.1
    have hsz := hsE.size
    have hspE : Spares [p] w wE := (Spares.of_below hbwD).trans hsE
    have hb0E : Below w0.heap.size w0 wE := Below.spared hbw hspE hbw.size (by simpa using hp)
    have hsum := sum_none (n := its.length) (m := ks.length) (by omega) (by omega)
    obtain ⟨sm, hsm⟩ : ∃ sm : Int, IntKind.i64.wrap ((its.length : Int) + (ks.length : Int)) = sm := ⟨_, rfl⟩
    rw [hsm] at hsum
    have HC := Lib.hid hcE
    have HP := Lib.hid hspE
    have HB0 := Lib.hid hb0E
    clear hsE hxE hspE hb0E hcE hbw hctr hcD b0 b1 b2 b3 b4 cC hbB hbC hbD hbBD hbwD
    have hLs : L - 1 ≤ 1999 := by omega
    have hLm : -1 ≤ L - 1 := by omega
    have GR := good_any tx
    cases d with
    | zero =>
      rw [goodF_zero]
      obtain rfl : N = 0 := by omega
      clear hN ih hs0 hr0 hv GR HS
      go_enter Tryz.func77, Tryz.ntmps77
      go_upto_region 1 with fail
      rw [← hwB, ← hwC, ← hwD]
      clear hwB hwC hwD
      go_upto_region 2 with fail
      rw [← hwE]
      clear hwE
      go_wp2
      go_ret
      exact GoodPost.no HC.out HP.out
    | succ d =>
      have hN0 : (N == 0) = false := by rw [beq_eq_false_iff_ne]; omega
      obtain ⟨R, hR⟩ : ∃ R, goodF (d + 1) (.mk k b tx its ks) L = R := ⟨_, rfl⟩
      rw [hR]
      obtain ⟨fl, fn, fx, fe⟩ := goodF_split hR
      have FN := Lib.hid fn
      have FX := Lib.hid fx
      have FE := Lib.hid fe
      clear hR fn fx fe
      by_cases hL2 : L < 1
      · obtain rfl : R = false := fl hL2
        have hL3 : L - 1 < 0 := by omega
        clear hN ih hs0 hr0 hv GR HS FN FX FE fl hL2
        go_enter Tryz.func77, Tryz.ntmps77
        go_upto_region 1 with fail
        rw [← hwB, ← hwC, ← hwD]
        clear hwB hwC hwD
        go_upto_region 2 with fail
        rw [← hwE]
        clear hwE
        go_wp2
        go_ret
        exact GoodPost.no HC.out HP.out
      · have hL3 : ¬ L - 1 < 0 := by omega
        have hNd : N - 1 = (d : Int) := by omega
        have CT : Calls Tryz.prog 78 #[.slice ao its.length cap, .func (.func 97) #[] #[.pointer (some ⟨w.heap.size + 1, 0, none⟩), .pointer (some ⟨w.heap.size + 1 + 1, 0, none⟩)]] wE (HasPost its.length (GoodR its d L p wE) (GoodQ R p wE)) := by
          refine contains_of its.length ao cap vs 97 _ (enters_of Tryz.func97 (by kernel_rfl) rfl) wE _ _ ?_ ?_ ?_
          · intro i W hR
            exact hr0.mono (Below.spared HB0.out hR.1 HB0.out.size (by simpa using hp))
          · intro i W hi hR
            obtain ⟨hR1, hR2, hR3, hR4, hR5⟩ := hR
            have hbW : Below w0.heap.size w0 W := Below.spared HB0.out hR1 HB0.out.size (by simpa using hp)
            obtain ⟨ai, ci, ak', ck', hvi, hx1, hx⟩ := RowAt.elem hr0 hv hbW hi
            have hsW := hR1.size
            have m1 : W.cell? ⟨w.heap.size + 1, 0, none⟩ = some (.int .i64 N) := by
              have := hR1.block (w.heap.size + 1) (by omega) (by simp; omega)
              rw [← gd]
              simp only [World.cell?, this]
            have m2 : W.cell? ⟨w.heap.size + 1 + 1, 0, none⟩ = some (.pointer (some ⟨p, 0, none⟩)) := by
              have := hR1.block (w.heap.size + 1 + 1) (by omega) (by simp; omega)
              rw [← gl]
              simp only [World.cell?, this]
            have C1 := fun W' (hb' : Below W.heap.size W W') => ih its[i] (List.getElem_mem hi) w0 W' (vs i) d p (L - 1 - sizeL (its.take i)) hx (hbW.trans (hb'.mono hbW.size)) hp (hR2.below hb') (by omega) (by omega) (by omega)
            have HX : goodF d its[i] (L - 1 - sizeL (its.take i)) = false → R = false := fun h => FX.out i hi h
            have HT : ∀ W', goodF d its[i] (L - 1 - sizeL (its.take i)) = true → Spares [p] W W' → Ctr W' p (L - 1 - sizeL (its.take i) - sizeV its[i]) → GoodR its d L p wE (i + 1) W' := fun W' h hs hc => by
              unfold goodF at h
              rw [Bool.and_eq_true, Bool.and_eq_true, decide_eq_true_eq] at h
              have e1 := sizeL_take_succ hi
              refine ⟨hR1.trans hs, ?_, by omega, all_take_succ hi hR4 h.1.1, all_take_succ hi hR5 h.1.2⟩
              rw [show L - 1 - sizeL (its.take (i + 1)) = L - 1 - sizeL (its.take i) - sizeV its[i] by omega]
              exact hc
            obtain ⟨Li, hLi⟩ : ∃ Li : Int, L - 1 - sizeL (its.take i) = Li := ⟨_, rfl⟩
            rw [hLi] at C1 HX HT
            rw [hvi] at C1 ⊢
            obtain ⟨x, hxe⟩ : ∃ x, its[i] = x := ⟨_, rfl⟩
            rw [hxe] at C1 HX HT ⊢
            obtain ⟨r, hr⟩ : ∃ r, goodF d x Li = r := ⟨_, rfl⟩
            rw [hr] at C1 HX HT
            have HX := Lib.hid HX
            have HT := Lib.hid HT
            have HR1 := Lib.hid hR1
            clear hr hxe hLi hvi hx hx1 hR1 hR2 hR3 hR4 hR5 hbW ih hr0 hv hs0 FN FX FE GR HS hwB hwC hwD hwE g0 g1 g2 g3 g4 gc gl gd e0 e1 e2 e3 e4 dD cD f0 f1 HB0 HC HP hsum hsm
            show Calls _ _ #[_, _, _] _ _
            obtain ⟨W2, hW2⟩ : ∃ W2, W2 = W.alloc (.cells #[.int .i64 x.kind, .bool x.flag, str x.text, .slice ai x.items.length ci, .slice ak' x.keys.length ck'] 41) := ⟨_, rfl⟩
            obtain ⟨n0, n1, n2, n3, n4, hsW2, hbW2⟩ := box5 hW2
            have m1 := (hbW2.cell (p := ⟨w.heap.size + 1, 0, none⟩) (by show w.heap.size + 1 < W.heap.size; omega)).trans m1
            have m2 := (hbW2.cell (p := ⟨w.heap.size + 1 + 1, 0, none⟩) (by show w.heap.size + 1 + 1 < W.heap.size; omega)).trans m2
            go_enter Tryz.func97, Tryz.ntmps97
            go_upto_region 1 with fail
            rw [← hW2]
            clear hW2
            go_wp2_with fail
            refine (C1 W2 hbW2).mono ?_
            rintro e w' ⟨rfl, L', hc, hs, hl⟩
            have hs2 := (Spares.of_below (F := [p]) hbW2).trans hs
            cases r with
            | false =>
              have HX' := Lib.hid (HX.out rfl)
              have HCC := Lib.hid hc
              clear HX HT hc hl
              go_wp2
              go_ret
              exact .inl ⟨rfl, HR1.out.trans hs2, ⟨_, HCC.out⟩, HX'.out⟩
            | true =>
              obtain rfl := hl rfl
              have HT' := Lib.hid (HT.out w' rfl hs2 hc)
              clear HX HT hc hl
              go_wp2
              go_ret
              exact .inr ⟨rfl, HT'.out⟩
          · exact ⟨Spares.refl _ _, by rw [List.take_zero, sizeL]; simpa using HC.out, by rw [List.take_zero, sizeL]; simp; omega, rfl, rfl⟩
        clear ih
        go_enter Tryz.func77, Tryz.ntmps77
        go_upto_region 1 with fail
        rw [← hwB, ← hwC, ← hwD]
        clear hwB hwC hwD e0 e1 e2 e3 e4 cD
        go_upto_region 2 with fail
        rw [← hwE]
        clear hwE f0 f1 dD
        cases b with
        | true =>
          by_cases hk2 : k = 2
          · subst hk2
            clear CT
            cases tx with
            | cons c l =>
              obtain rfl : R = false := FN.out (nodeOk_no (by simp))
              clear FN FX FE HS
              go_wp2
              go_ret
              exact GoodPost.no HC.out HP.out
            | nil =>
              by_cases hz : its.length = 0 ∧ ks.length = 0
              · obtain ⟨hz1, hz2⟩ := id hz
                obtain rfl := List.eq_nil_of_length_eq_zero hz1
                obtain rfl := List.eq_nil_of_length_eq_zero hz2
                obtain rfl : R = true := FE.out (by rfl) (by rfl) (by rfl) (by rw [sizeL]; omega)
                have HE : Hid (L - 1 = S) := by have := HS.out; rw [sizeL] at this; rw [Hid]; omega
                rw [decide_eq_true hz] at hsum
                clear FN FX FE HS hz hz1 hz2
                go_wp2
                go_ret
                exact GoodPost.of HC.out HP.out (fun _ => HE.out)
              · obtain rfl : R = false := FN.out (nodeOk_no (fun h => hz ⟨by omega, by omega⟩))
                rw [decide_eq_false hz] at hsum
                clear FN FX FE HS hz
                go_wp2
                go_ret
                exact GoodPost.no HC.out HP.out
          · obtain rfl : R = false := FN.out (nodeOk_no (fun h => hk2 (h.2.1 rfl)))
            have hk2' : (k == 2) = false := by simpa using hk2
            have hk2'' : (k != 2) = true := by simpa using hk2
            clear FN FX FE HS hk2 CT
            go_wp2
            go_ret
            exact GoodPost.no HC.out HP.out
        | false =>
          by_cases hk : 0 ≤ k ∧ k ≤ 6
          · have hkk : k = 0 ∨ k = 1 ∨ k = 2 ∨ k = 3 ∨ k = 4 ∨ k = 5 ∨ k = 6 := by omega
            clear hk hk0 hk1
            rcases hkk with rfl | rfl | rfl | rfl | rfl | rfl | rfl
            · clear CT
              cases tx with
              | cons c l =>
                obtain rfl : R = false := FN.out (nodeOk_no (by simp))
                clear FN FX FE HS
                go_wp2
                go_ret
                exact GoodPost.no HC.out HP.out
              | nil =>
                by_cases hz : its.length = 0 ∧ ks.length = 0
                · obtain ⟨hz1, hz2⟩ := id hz
                  obtain rfl := List.eq_nil_of_length_eq_zero hz1
                  obtain rfl := List.eq_nil_of_length_eq_zero hz2
                  obtain rfl : R = true := FE.out (by rfl) (by rfl) (by rfl) (by rw [sizeL]; omega)
                  have HE : Hid (L - 1 = S) := by have := HS.out; rw [sizeL] at this; rw [Hid]; omega
                  rw [decide_eq_true hz] at hsum
                  clear FN FX FE HS hz hz1 hz2
                  go_wp2
                  go_ret
                  exact GoodPost.of HC.out HP.out (fun _ => HE.out)
                · obtain rfl : R = false := FN.out (nodeOk_no (fun h => hz ⟨by omega, by omega⟩))
                  rw [decide_eq_false hz] at hsum
                  clear FN FX FE HS hz
                  go_wp2
                  go_ret
                  exact GoodPost.no HC.out HP.out
            · clear CT
              cases tx with
              | cons c l =>
                obtain rfl : R = false := FN.out (nodeOk_no (by simp))
                clear FN FX FE HS
                go_wp2
                go_ret
                exact GoodPost.no HC.out HP.out
              | nil =>
                by_cases hz : its.length = 0 ∧ ks.length = 0
                · obtain ⟨hz1, hz2⟩ := id hz
                  obtain rfl := List.eq_nil_of_length_eq_zero hz1
                  obtain rfl := List.eq_nil_of_length_eq_zero hz2
                  obtain rfl : R = true := FE.out (by rfl) (by rfl) (by rfl) (by rw [sizeL]; omega)
                  have HE : Hid (L - 1 = S) := by have := HS.out; rw [sizeL] at this; rw [Hid]; omega
                  rw [decide_eq_true hz] at hsum
                  clear FN FX FE HS hz hz1 hz2
                  go_wp2
                  go_ret
                  exact GoodPost.of HC.out HP.out (fun _ => HE.out)
                · obtain rfl : R = false := FN.out (nodeOk_no (fun h => hz ⟨by omega, by omega⟩))
                  rw [decide_eq_false hz] at hsum
                  clear FN FX FE HS hz
                  go_wp2
                  go_ret
                  exact GoodPost.no HC.out HP.out
            · clear CT
              cases tx with
              | cons c l =>
                obtain rfl : R = false := FN.out (nodeOk_no (by simp))
                clear FN FX FE HS
                go_wp2
                go_ret
                exact GoodPost.no HC.out HP.out
              | nil =>
                by_cases hz : its.length = 0 ∧ ks.length = 0
                · obtain ⟨hz1, hz2⟩ := id hz
                  obtain rfl := List.eq_nil_of_length_eq_zero hz1
                  obtain rfl := List.eq_nil_of_length_eq_zero hz2
                  obtain rfl : R = true := FE.out (by rfl) (by rfl) (by rfl) (by rw [sizeL]; omega)
                  have HE : Hid (L - 1 = S) := by have := HS.out; rw [sizeL] at this; rw [Hid]; omega
                  rw [decide_eq_true hz] at hsum
                  clear FN FX FE HS hz hz1 hz2
                  go_wp2
                  go_ret
                  exact GoodPost.of HC.out HP.out (fun _ => HE.out)
                · obtain rfl : R = false := FN.out (nodeOk_no (fun h => hz ⟨by omega, by omega⟩))
                  rw [decide_eq_false hz] at hsum
                  clear FN FX FE HS hz
                  go_wp2
                  go_ret
                  exact GoodPost.no HC.out HP.out
            · clear CT
              cases hg : goodS tx with
              | false =>
                obtain rfl : R = false := FN.out (nodeOk_no (fun h => by have := h.2.2.2.2.2.1 rfl; rw [hg] at this; cases this))
                have C := fun W => good_is hg W
                clear FN FX FE HS hg
                go_wp2_with fail
                refine (C _).mono ?_
                rintro e w' ⟨rfl, hq⟩
                go_wp2
                go_ret
                exact GoodPost.no (HC.out.below hq) (HP.out.trans (Spares.of_below hq))
              | true =>
                have C := fun W => good_is hg W
                by_cases hz : its.length = 0 ∧ ks.length = 0
                · obtain ⟨hz1, hz2⟩ := id hz
                  obtain rfl := List.eq_nil_of_length_eq_zero hz1
                  obtain rfl := List.eq_nil_of_length_eq_zero hz2
                  obtain rfl : R = true := FE.out (by rw [nodeOk_iff]; simp [hg]; rfl) (by rfl) (by rfl) (by rw [sizeL]; omega)
                  have HE : Hid (L - 1 = S) := by have := HS.out; rw [sizeL] at this; rw [Hid]; omega
                  rw [decide_eq_true hz] at hsum
                  clear FN FX FE HS hz hz1 hz2 hg
                  go_wp2_with fail
                  refine (C _).mono ?_
                  rintro e w' ⟨rfl, hq⟩
                  have k3 := (hq.cell (p := ⟨w.heap.size, 3, none⟩) (by show w.heap.size < wE.heap.size; omega)).trans g3
                  have k4 := (hq.cell (p := ⟨w.heap.size, 4, none⟩) (by show w.heap.size < wE.heap.size; omega)).trans g4
                  go_wp2
                  go_ret
                  exact GoodPost.of (HC.out.below hq) (HP.out.trans (Spares.of_below hq)) (fun _ => HE.out)
                · obtain rfl : R = false := FN.out (nodeOk_no (fun h => hz ⟨by omega, by omega⟩))
                  rw [decide_eq_false hz] at hsum
                  clear FN FX FE HS hz hg
                  go_wp2_with fail
                  refine (C _).mono ?_
                  rintro e w' ⟨rfl, hq⟩
                  have k3 := (hq.cell (p := ⟨w.heap.size, 3, none⟩) (by show w.heap.size < wE.heap.size; omega)).trans g3
                  have k4 := (hq.cell (p := ⟨w.heap.size, 4, none⟩) (by show w.heap.size < wE.heap.size; omega)).trans g4
                  go_wp2
                  go_ret
                  exact GoodPost.no (HC.out.below hq) (HP.out.trans (Spares.of_below hq))
            · clear CT
              by_cases htl : tx.length ≤ 16384
              · have htl' : (tx.length : Int) ≤ 16384 := by omega
                by_cases hz : its.length = 0 ∧ ks.length = 0
                · obtain ⟨hz1, hz2⟩ := id hz
                  obtain rfl := List.eq_nil_of_length_eq_zero hz1
                  obtain rfl := List.eq_nil_of_length_eq_zero hz2
                  obtain rfl : R = true := FE.out (by rw [nodeOk_iff]; simp [htl]; rfl) (by rfl) (by rfl) (by rw [sizeL]; omega)
                  have HE : Hid (L - 1 = S) := by have := HS.out; rw [sizeL] at this; rw [Hid]; omega
                  rw [decide_eq_true hz] at hsum
                  clear FN FX FE HS hz hz1 hz2
                  go_wp2
                  go_ret
                  exact GoodPost.of HC.out HP.out (fun _ => HE.out)
                · obtain rfl : R = false := FN.out (nodeOk_no (fun h => hz ⟨by omega, by omega⟩))
                  rw [decide_eq_false hz] at hsum
                  clear FN FX FE HS hz
                  go_wp2
                  go_ret
                  exact GoodPost.no HC.out HP.out
              · obtain rfl : R = false := FN.out (nodeOk_no (fun h => htl (h.2.2.2.2.2.2.1 rfl)))
                have htl' : ¬ (tx.length : Int) ≤ 16384 := by omega
                clear FN FX FE HS htl
                go_wp2
                go_ret
                exact GoodPost.no HC.out HP.out
            · skip
              by_cases hk0 : 0 < ks.length
              · obtain rfl : R = false := FN.out (nodeOk_no (fun h => by omega))
                have hk0' : (0 : Int) < (ks.length : Int) := by omega
                clear FN FX FE HS hk0 CT
                go_wp2
                go_ret
                exact GoodPost.no HC.out HP.out
              · have hk0' : ¬ (0 : Int) < (ks.length : Int) := by omega
                obtain rfl := List.eq_nil_of_length_eq_zero (show ks.length = 0 by omega)
                cases tx with
                | cons c l =>
                  obtain rfl : R = false := FN.out (nodeOk_no (by simp))
                  clear FN FX FE HS CT
                  go_wp2
                  go_ret
                  exact GoodPost.no HC.out HP.out
                | nil =>
                  clear FN FX
                  go_wp2_with fail
                  refine CT.mono ?_
                  rintro e w' (⟨rfl, hq⟩ | ⟨rfl, hq⟩)
                  · obtain ⟨hq1, ⟨L', hq2⟩, rfl⟩ := hq
                    clear FE HS
                    go_wp2
                    go_ret
                    exact GoodPost.no hq2 (HP.out.trans hq1)
                  · obtain ⟨hq1, hq2, hq3, hq4, hq5⟩ := hq
                    rw [List.take_length] at hq2 hq3 hq4 hq5
                    obtain rfl : R = true := FE.out (by rw [nodeOk_iff]; simp; rfl) hq4 hq5 (by omega)
                    have HQ := Lib.hid hq2
                    clear FE hq2 hq4 hq5
                    go_wp2
                    go_ret
                    exact GoodPost.of HQ.out (HP.out.trans hq1) (fun _ => HS.out)
            · skip
              by_cases hkn : ks.length = its.length
              · have hkn' : ((ks.length : Int) != (its.length : Int)) = false := by simp; omega
                have hkn'' : ((ks.length : Int) == (its.length : Int)) = true := by simp; omega
                go_upto_region 20 with fail
                go_wp2
                go_loopg [99] ks.length (fun g v99 wr => ∃ i : Nat, i + g = ks.length ∧ v99 = .int .i64 i ∧ keysOk (ks.take i) = true ∧ wr = wE)
                case atStart => exact ⟨0, by omega, rfl, rfl, rfl⟩
                case round =>
                  obtain ⟨i, hig, rfl, hall, hwr⟩ := hrel
                  subst hwr
                  cases gk with
                  | zero =>
                    obtain rfl : i = ks.length := by omega
                    rw [List.take_length] at hall
                    have HALL := Lib.hid hall
                    clear hall
                    cases tx with
                    | cons c l =>
                      obtain rfl : R = false := FN.out (nodeOk_no (by simp))
                      clear FN FX FE HS CT
                      go_wp2
                      go_ret
                      exact GoodPost.no HC.out HP.out
                    | nil =>
                      clear FN FX
                      go_wp2_with fail
                      refine CT.mono ?_
                      rintro e w' (⟨rfl, hq⟩ | ⟨rfl, hq⟩)
                      · obtain ⟨hq1, ⟨L', hq2⟩, rfl⟩ := hq
                        clear FE HS
                        go_wp2
                        go_ret
                        exact GoodPost.no hq2 (HP.out.trans hq1)
                      · obtain ⟨hq1, hq2, hq3, hq4, hq5⟩ := hq
                        rw [List.take_length] at hq2 hq3 hq4 hq5
                        obtain rfl : R = true := FE.out (by rw [nodeOk_iff]; simp [HALL.out]; omega) hq4 hq5 (by omega)
                        have HQ := Lib.hid hq2
                        clear FE hq2 hq4 hq5
                        go_wp2
                        go_ret
                        exact GoodPost.of HQ.out (HP.out.trans hq1) (fun _ => HS.out)
                  | succ g =>
                    have hil : i < ks.length := by omega
                    have hie : (i : Int) < (ks.length : Int) := by omega
                    obtain ⟨b1, o1, rfl, l1, h1⟩ := StrsAt.get hs0 hil
                    have h1 := (HB0.out.cell (p := ⟨b1, o1 + i, none⟩) l1).trans h1
                    rw [getD_at ks [] hil] at h1
                    by_cases hlx : ks[i].length ≤ 16384
                    · cases i with
                      | zero =>
                        have HN : Hid (keysOk (ks.take 1) = true) := by rw [Hid, keysOk_one hil]; exact decide_eq_true hlx
                        obtain ⟨x, hxe⟩ : ∃ x, ks[0] = x := ⟨_, rfl⟩
                        rw [hxe] at h1 hlx
                        have hlx' : ¬ (16384 : Int) < (x.length : Int) := by omega
                        rw [Nat.add_zero] at h1
                        clear hxe hlx hall hs0
                        go_wp2
                        go_roundg g
                        case measure => omega
                        case rel => exact ⟨1, by omega, by go_num, HN.out, rfl⟩
                      | succ j =>
                        obtain ⟨b2, o2, hae, l2, h2⟩ := StrsAt.get (ss := ks) hs0 (show j < ks.length by omega)
                        injection hae with hae
                        injection hae with hae1 hae2
                        subst hae1 hae2
                        have h2 := (HB0.out.cell (p := ⟨b1, o1 + j, none⟩) l1).trans h2
                        rw [getD_at ks [] (by omega)] at h2
                        have hks := keysOk_succ hil
                        rw [hall, Bool.true_and, decide_eq_true hlx, Bool.true_and] at hks
                        have HT : Hid (keysOk (ks.take (j + 2)) = false → keysOk ks = false) := by
                          intro h
                          cases hk : keysOk ks with
                          | false => rfl
                          | true =>
                            have := keysOk_take (i := j + 2) (j := ks.length) (ks := ks) (by omega) (by rw [List.take_length]; exact hk)
                            rw [this] at h
                            cases h
                        obtain ⟨x, hxe⟩ : ∃ x, ks[j + 1] = x := ⟨_, rfl⟩
                        obtain ⟨y, hpe⟩ : ∃ y, ks[j]'(by omega) = y := ⟨_, rfl⟩
                        rw [hxe] at h1 hlx hks
                        rw [hpe] at h2 hks
                        have hlx' : ¬ (16384 : Int) < (x.length : Int) := by omega
                        have hblt := bytesLess_eq y x
                        obtain ⟨r, hr⟩ : ∃ r, ltS y x = r := ⟨_, rfl⟩
                        rw [hr] at hks hblt
                        have HKS := Lib.hid hks
                        have hpos : (0 : Int) < ((j + 1 : Nat) : Int) := by omega
                        have hpred : ((j + 1 : Nat) : Int) - 1 = (j : Int) := by omega
                        clear hxe hpe hlx hall hs0 hr hks
                        cases r with
                        | false =>
                          obtain rfl : R = false := FN.out (nodeOk_no (fun h => by have := h.2.2.2.2.2.2.2.2; rw [HT.out HKS.out] at this; cases this))
                          clear FN FX FE HT HKS CT HS
                          go_wp2
                          go_ret
                          exact GoodPost.no HC.out HP.out
                        | true =>
                          clear HT
                          go_wp2
                          go_roundg g
                          case measure => omega
                          case rel => exact ⟨j + 2, by omega, by go_num, HKS.out, rfl⟩
                    · have hkf : keysOk ks = false := by
                        unfold keysOk
                        rw [all_false hil (by simp; omega)]
                        rfl
                      obtain rfl : R = false := FN.out (nodeOk_no (fun h => by have := h.2.2.2.2.2.2.2.2; rw [hkf] at this; cases this))
                      obtain ⟨x, hxe⟩ : ∃ x, ks[i] = x := ⟨_, rfl⟩
                      rw [hxe] at h1 hlx
                      have hlx' : (16384 : Int) < (x.length : Int) := by omega
                      clear hxe hlx hall hs0 hkf FN FX FE CT HS
                      go_wp2
                      go_ret
                      exact GoodPost.no HC.out HP.out
              · obtain rfl : R = false := FN.out (nodeOk_no (fun h => hkn (h.2.2.2.2.2.2.2.1 rfl)))
                have hkn' : ((ks.length : Int) != (its.length : Int)) = true := by simp; omega
                have hkn'' : ((ks.length : Int) == (its.length : Int)) = false := by simp; omega
                clear FN FX FE HS hkn CT
                go_wp2
                go_ret
                exact GoodPost.no HC.out HP.out
          · obtain rfl : R = false := FN.out (nodeOk_no (fun h => hk h.1))
            have z0 : (k == 0) = false := by simp; omega
            have z1 : (k == 1) = false := by simp; omega
            have z2 : (k == 2) = false := by simp; omega
            have z3 : (k == 3) = false := by simp; omega
            have z4 : (k == 4) = false := by simp; omega
            have z5 : (k == 5) = false := by simp; omega
            have z6 : (k == 6) = false := by simp; omega
            clear FN FX FE HS hk CT hk0 hk1
            go_wp2
            go_ret
            exact GoodPost.no HC.out HP.out

end Go.Proofs.YtpbipngnoklmcaaGreatDoor
