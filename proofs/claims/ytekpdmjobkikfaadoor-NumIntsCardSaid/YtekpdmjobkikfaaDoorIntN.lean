/- The walks of ints in decimal: num.Int, and the document's Digits and Int. -/
import Derived.Test.YtekpdmjobkikfaaDoorIntP
import Derived.Test.YtekpdmjobkikfaaDoorRefC
import Derived.Test.YtekpdmjobkikfaaDoorRefF
import Derived.Test.YtekpdmjobkikfaaDoorNum
import Derived.Test.YtekpdmjobkikfaaDoorShelf
import Derived.Lib.SmallJoins
namespace Go.Proofs.YtekpdmjobkikfaaDoor
open Go.RowKit
set_option maxRecDepth 100000
attribute [local go_sem] str_size str_toList str_get

theorem var_mono {w w' : World} {n : String} {cs : Array Value} (h : w.var? Tryd.prog n = some cs) (hb : Below w.heap.size w w') : w'.var? Tryd.prog n = some cs := by
  unfold World.var? at h ⊢
  cases hg : Tryd.prog.globalNamed n with
  | none => simp [hg] at h
  | some g =>
    simp only [hg, Option.bind_some] at h ⊢
    have hlt : g < w.heap.size := by
      rcases Nat.lt_or_ge g w.heap.size with h' | h'
      · exact h'
      · simp [Array.getElem?_eq_none h'] at h
    rw [hb.block g hlt]
    exact h
/-- The two errors of strconv, whatever they are. -/
def ErrW (w : World) : Prop := (∃ tp p, w.var? Tryd.prog "strconv.ErrSyntax" = some #[.iface tp p]) ∧ (∃ tp p, w.var? Tryd.prog "strconv.ErrRange" = some #[.iface tp p])
theorem ErrW.mono {w w' : World} (h : ErrW w) (hb : Below w.heap.size w w') : ErrW w' := by
  obtain ⟨⟨t1, p1, h1⟩, t2, p2, h2⟩ := h
  exact ⟨⟨t1, p1, var_mono h1 hb⟩, t2, p2, var_mono h2 hb⟩

/-- What Atoi answers: a number and no error, or some number and an error. -/
def AtoiPost (a : List UInt8) (w : World) (e : Ending) (w' : World) : Prop := Below w.heap.size w w' ∧
  ((∃ v, Lib.atoiAll a = .ok v ∧ e = .returned (.tuple #[.int .i64 v, .nilIface])) ∨
   ((∀ v, Lib.atoiAll a ≠ .ok v) ∧ ∃ v tp p, e = .returned (.tuple #[.int .i64 v, .iface tp (.pointer p)])))
theorem atoi_any (a : List UInt8) (hl : a.length ≤ 281474976710656) (w : World) (hE : ErrW w) : Calls Tryd.prog 45 #[str a] w (AtoiPost a w) := by
  obtain ⟨⟨t1, p1, h1⟩, t2, p2, h2⟩ := hE
  cases h : Lib.atoiAll a with
  | ok v =>
    refine (Tryd.strconv_Atoi_ok ⟨a.toArray⟩ (by rw [str_size]; omega) v h w).mono ?_
    rintro e w' ⟨rfl, hw⟩
    refine ⟨?_, Or.inl ⟨v, h, rfl⟩⟩
    rcases hw with rfl | ⟨t, rfl⟩
    · exact Below.refl _ _
    · exact Lib.bytesWorld_below _ _ _
  | range =>
    refine (Tryd.strconv_Atoi_range_var ⟨a.toArray⟩ (by rw [str_size]; omega) h t2 p2 w h2).mono ?_
    rintro e w' ⟨N, rfl, _, _, hb⟩
    exact ⟨hb, Or.inr ⟨fun v => by rw [h]; simp, _, _, _, rfl⟩⟩
  | _ =>
    refine (Tryd.strconv_Atoi_syntax_var ⟨a.toArray⟩ (by rw [str_size]; omega) h t1 p1 w h1).mono ?_
    rintro e w' ⟨N, rfl, _, _, hb⟩
    exact ⟨hb, Or.inr ⟨fun v => by rw [h]; simp, _, _, _, rfl⟩⟩

set_option maxHeartbeats 1600000 in
theorem int_any (a : List UInt8) (hl : a.length ≤ 281474976710656) (w : World) (hE : ErrW w) : Calls Tryd.prog 25 #[str a] w fun e w' => e = .returned (.tuple #[.int .i64 (intR a).1, .bool (intR a).2]) ∧ Below w.heap.size w w' := by
  have AT := atoi_any a hl w hE
  have GA := fun W => good_any a W
  obtain ⟨R, hR⟩ : ∃ R, intR a = R := ⟨_, rfl⟩
  have HRV : ∀ v, Lib.atoiAll a = .ok v → goodS a = true → R = (v, true) := by
    intro v hv hg
    rw [atoi_good hg] at hv
    rw [← hR]
    unfold intR
    by_cases hc : -9223372036854775808 ≤ valS a ∧ valS a ≤ 9223372036854775807
    · rw [if_pos hc] at hv
      rw [if_pos ⟨hg, hc⟩]
      injection hv with hv
      rw [hv]
    · rw [if_neg hc] at hv
      cases hv
  have HRN : goodS a = false → R = (0, false) := by
    intro hg
    rw [← hR]
    unfold intR
    rw [if_neg (by rw [hg]; simp)]
  have HRE : (∀ v, Lib.atoiAll a ≠ .ok v) → R = (0, false) := by
    intro he
    rw [← hR]
    unfold intR
    rw [if_neg]
    rintro ⟨hg, hc⟩
    apply he (valS a)
    rw [atoi_good hg, if_pos hc]
  rw [hR]
  have K1 := Lib.hid HRV
  have K2 := Lib.hid HRN
  have K3 := Lib.hid HRE
  clear HRV HRN HRE hR hE hl
  obtain ⟨g, hg⟩ : ∃ g, goodS a = g := ⟨_, rfl⟩
  rw [hg] at GA
  have HG := Lib.hid hg
  clear hg
  go_enter Tryd.func25, Tryd.ntmps25
  go_wp2_with fail
  refine AT.mono ?_
  rintro e w1 ⟨hb1, hc⟩
  rcases hc with ⟨v, hv, rfl⟩ | ⟨hv, v, tp, p, rfl⟩
  · have HV := Lib.hid hv
    clear hv
    go_wp2_with fail
    refine (GA _).mono ?_
    rintro e w2 ⟨rfl, hq⟩
    have hb2 := hb1.trans (hq.mono hb1.size)
    clear hq hb1
    cases g with
    | true =>
      go_wp2
      go_ret2
      refine ⟨?_, hb2⟩
      rw [K1.out v HV.out HG.out]
      rfl
    | false =>
      go_wp2
      go_ret2
      refine ⟨?_, hb2⟩
      rw [K2.out HG.out]
      rfl
  · have HV := Lib.hid hv
    clear hv
    go_wp2
    go_ret2
    refine ⟨?_, hb1⟩
    rw [K3.out HV.out]
    rfl

set_option maxHeartbeats 1600000 in
theorem digits_ref (n : Int) (h0 : -9223372036854775808 ≤ n) (h1 : n ≤ 9223372036854775807) (w : World) : Calls Tryd.prog 28 #[.int .i64 n] w fun e w' => e = .returned (str (Lib.itoa n)) ∧ Below w.heap.size w w' := by
  by_cases hn : n = 0
  · subst hn
    have hz : str (Lib.itoa 0) = .string ⟨#[48]⟩ := by rw [itoa_zero]
    rw [hz]
    clear hz
    go_enter Tryd.func28, Tryd.ntmps28
    go_wp2
    go_ret
    exact ⟨rfl, Below.refl _ _⟩
  · have hlen : (Lib.decDigits n.natAbs).length ≤ 20 := (dec_len_iff (by decide)).2 (by
      have : n.natAbs ≤ 9223372036854775808 := by omega
      exact Nat.lt_of_le_of_lt this (by decide))
    have SG := fun W => signed_num (decide (n < 0)) n.natAbs n (by by_cases h : n < 0 <;> simp [h] <;> omega) (by omega) W
    obtain ⟨R, hR⟩ : ∃ R, Lib.itoa n = R := ⟨_, rfl⟩
    obtain ⟨D, hD⟩ : ∃ D, Lib.decDigits n.natAbs = D := ⟨_, rfl⟩
    rw [hR, hD] at SG
    rw [hR]
    have HD := Lib.hid hD
    have hDl : D.length ≤ 20 := by rw [← hD]; exact hlen
    clear hR hD hlen
    have hn0 : (n == 0) = false := by simpa using hn
    go_enter Tryd.func28, Tryd.ntmps28
    go_wp2
    go_loopg [3, 4] n.natAbs (fun g v3 v4 wr => ∃ (k : Int) (s : List UInt8), v4 = .int .i64 k ∧ v3 = str s ∧ k.natAbs ≤ g ∧ k.natAbs ≤ n.natAbs ∧ joinD k.natAbs s = D ∧ Below w.heap.size w wr)
    case atStart => exact ⟨n, [], rfl, rfl, Nat.le_refl _, Nat.le_refl _, by unfold joinD; rw [if_neg (by omega), HD.out, List.append_nil], Below.refl _ _⟩
    case round =>
      obtain ⟨k, s, rfl, rfl, hkg, hkn, hj, hbl⟩ := hrel
      by_cases hk : k = 0
      · subst hk
        obtain rfl : s = D := hj
        clear hkg hkn HD
        go_wp2_with fail
        refine (SG _).mono ?_
        rintro e w' ⟨rfl, hw'⟩
        rw [hw']
        clear hw' w'
        go_wp2
        go_ret
        exact ⟨rfl, hbl⟩
      · have hk0 : (k == 0) = false := by simpa using hk
        obtain ⟨g, rfl⟩ : ∃ g', gk = g' + 1 := ⟨gk - 1, by omega⟩
        obtain ⟨u, hu⟩ : ∃ u, k.natAbs = u := ⟨_, rfl⟩
        rw [hu] at hj hkg hkn
        have hst := joinD_step (u := u) (by omega) s
        rw [hj] at hst
        have hsl : s.length ≤ D.length := by rw [← hj]; exact joinD_len u s
        obtain ⟨r, hr⟩ : ∃ r, u % 10 = r := ⟨_, rfl⟩
        obtain ⟨q, hq⟩ : ∃ q : Int, k.tdiv 10 = q := ⟨_, rfl⟩
        obtain ⟨m, hm⟩ : ∃ m : Int, k.tmod 10 = m := ⟨_, rfl⟩
        have hrb : r < 10 := by omega
        have hqu : q.natAbs = u / 10 := by rw [← hq, Int.natAbs_tdiv, hu]; rfl
        have hqm : q * 10 + m = k := by rw [← hq, ← hm]; exact tdiv_mul k 10
        have hmb : m.natAbs = r := by rw [← hm, Int.natAbs_tmod, hu, ← hr]; rfl
        rw [hr, ← hqu] at hst
        have HST := Lib.hid hst
        have hqg : q.natAbs ≤ g := by omega
        have hqn : q.natAbs ≤ n.natAbs := by omega
        have hmlo : -10 < m := by omega
        have hmhi : m < 10 := by omega
        have hklo : -9223372036854775808 ≤ k := by omega
        have hkhi : k ≤ 9223372036854775808 := by omega
        obtain ⟨ch, hch⟩ : ∃ ch, UInt8.ofNat (48 + r) = ch := ⟨_, rfl⟩
        have hcv := fun (W : World) => str_dig (w := W) r hrb (48 + (r : Int)) rfl
        rw [hch] at hcv HST
        have hqlo : -9223372036854775808 ≤ q := by omega
        have hqhi : q ≤ 922337203685477580 := by omega
        have hadd : ∀ W : World, (Op.stringOp .add (ByteArray.mk #[ch]) (ByteArray.mk s.toArray)).run Tryd.prog W = .ok (.string ⟨(ch :: s).toArray⟩) W := fun W => str_add [ch] s (by simp; omega)
        by_cases hm0 : m < 0
        · have hneg : -m = (r : Int) := by omega
          clear hst hj hr hch hmb hqm hqu hu hsl
          go_wp2
          go_roundg g
          case measure => omega
          case rel => exact ⟨q, ch :: s, by go_num, rfl, hqg, hqn, HST.out, hbl.alloc hbl.size _⟩
        · obtain rfl : m = (r : Int) := by omega
          clear hst hj hr hch hmb hqm hqu hu hsl
          go_wp2
          go_roundg g
          case measure => omega
          case rel => exact ⟨q, ch :: s, by go_num, rfl, hqg, hqn, HST.out, hbl.alloc hbl.size _⟩

set_option maxHeartbeats 1600000 in
theorem int_ref (a : List UInt8) (hl : a.length ≤ 9223372036854775807) (w : World) : Calls Tryd.prog 27 #[str a] w fun e w' => e = .returned (.tuple #[.int .i64 (intR a).1, .bool (intR a).2]) ∧ Below w.heap.size w w' := by
  obtain ⟨R, hR⟩ : ∃ R, intR a = R := ⟨_, rfl⟩
  have HR := Lib.hid hR
  rw [hR]
  clear hR
  have GA := fun W => good_ref a hl W
  by_cases hg : goodS a = true
  · rw [hg] at GA
    have ea : a = Lib.itoa (valS a) := (good_text hg).symm
    have hab := good_abs hg
    have hdl : dl (valS a) ≤ 1000 := by
      have : dl (valS a) ≤ 100 := (dec_len_iff (by decide)).2 hab
      omega
    have e1 : ([57, 50, 50, 51, 51, 55, 50, 48, 51, 54, 56, 53, 52, 55, 55, 53, 56, 48, 55] : List UInt8) = Lib.itoa 9223372036854775807 := by
      rw [← good_text (a := [57, 50, 50, 51, 51, 55, 50, 48, 51, 54, 56, 53, 52, 55, 55, 53, 56, 48, 55]) (by decide)]
      rfl
    have e2 : ([45, 57, 50, 50, 51, 51, 55, 50, 48, 51, 54, 56, 53, 52, 55, 55, 53, 56, 48, 56] : List UInt8) = Lib.itoa (-9223372036854775808) := by
      rw [← good_text (a := [45, 57, 50, 50, 51, 51, 55, 50, 48, 51, 54, 56, 53, 52, 55, 55, 53, 56, 48, 56]) (by decide)]
      rfl
    have hl1 : dl 9223372036854775807 ≤ 100 := (dec_len_iff (by decide)).2 (by decide)
    have hl2 : dl (-9223372036854775808) ≤ 100 := (dec_len_iff (by decide)).2 (by decide)
    have C1 := fun W => cmp_num (valS a) 9223372036854775807 hdl (by omega) W
    have C2 := fun W => cmp_num (valS a) (-9223372036854775808) hdl (by omega) W
    rw [← ea, ← e1] at C1
    rw [← ea, ← e2] at C2
    have hBL : ∀ W, Calls Tryd.prog 39 #[str a] W fun e w' => e = .returned (.bool (belowS a)) ∧ w' = W := by
      cases a with
      | nil => cases hg
      | cons c l => exact fun W => below_ref c l W
    clear ea hab hdl e1 e2 hl1 hl2
    have hgo := hg
    by_cases hz1 : 9223372036854775807 < valS a
    · have hs1 : sgn (valS a - 9223372036854775807) = 1 := by
        unfold sgn
        rw [if_neg (by omega), if_neg (by omega)]
      rw [hs1] at C1
      have hRe : R = (0, false) := by
        rw [← HR.out]
        unfold intR
        rw [if_neg (by omega)]
      subst hRe
      clear HR hg hgo hs1
      go_enter Tryd.func27, Tryd.ntmps27
      go_wp2_with fail
      refine (GA _).mono ?_
      rintro e w' ⟨rfl, hw'⟩
      rw [hw']
      clear hw' w'
      go_wp2_with fail
      refine (C1 _).mono ?_
      rintro e w1 ⟨rfl, hb1⟩
      go_wp2
      go_ret2
      exact ⟨rfl, hb1⟩
    · have hs1 : ∃ s1, sgn (valS a - 9223372036854775807) = s1 ∧ ¬ 0 < s1 := ⟨_, rfl, by unfold sgn; split <;> (try split) <;> omega⟩
      obtain ⟨s1, hs1, hs1n⟩ := hs1
      rw [hs1] at C1
      by_cases hz2 : valS a < -9223372036854775808
      · have hs2 : sgn (valS a - -9223372036854775808) = -1 := by
          unfold sgn
          rw [if_pos (by omega)]
        rw [hs2] at C2
        have hRe : R = (0, false) := by
          rw [← HR.out]
          unfold intR
          rw [if_neg (by omega)]
        subst hRe
        clear HR hg hgo hs1 hs2
        go_enter Tryd.func27, Tryd.ntmps27
        go_wp2_with fail
        refine (GA _).mono ?_
        rintro e w' ⟨rfl, hw'⟩
        rw [hw']
        clear hw' w'
        go_wp2_with fail
        refine (C1 _).mono ?_
        rintro e w1 ⟨rfl, hb1⟩
        go_wp2_with fail
        refine (C2 _).mono ?_
        rintro e w2 ⟨rfl, hq⟩
        have hb2 := hb1.trans (hq.mono hb1.size)
        go_wp2
        go_ret2
        exact ⟨rfl, hb2⟩
      · have hs2 : ∃ s2, sgn (valS a - -9223372036854775808) = s2 ∧ ¬ s2 < 0 := ⟨_, rfl, by unfold sgn; split <;> (try split) <;> omega⟩
        obtain ⟨s2, hs2, hs2n⟩ := hs2
        rw [hs2] at C2
        have hRe : R = (valS a, true) := by
          rw [← HR.out]
          unfold intR
          rw [if_pos ⟨hg, by omega, by omega⟩]
        subst hRe
        have hvx := valX_good hg
        have hgr := fun l m => valX_grows (belowS a) l m
        have hsg := fun l => valX_sign (belowS a) l
        obtain ⟨b, hb⟩ : ∃ b, belowS a = b := ⟨_, rfl⟩
        rw [hb] at hBL hvx hgr hsg
        obtain ⟨z, hz⟩ : ∃ z, valS a = z := ⟨_, rfl⟩
        rw [hz] at hvx hz1 hz2 ⊢
        have hall : ∀ c ∈ a, c = 45 ∨ isD c = true := by
          have h' := hg
          unfold goodS at h'
          simp only [Bool.and_eq_true] at h'
          have hd := h'.2
          intro c hc
          by_cases h45 : a.head? = some 45
          · obtain ⟨r, rfl⟩ : ∃ r, a = 45 :: r := by
              cases a with
              | nil => simp at h45
              | cons c r => exact ⟨r, by simp at h45; rw [h45]⟩
            rcases List.mem_cons.1 hc with h | h
            · exact Or.inl h
            · exact Or.inr (List.all_eq_true.1 hd c h)
          · have hs : sizeS a = a := by unfold sizeS; rw [if_neg h45]
            rw [hs] at hd
            exact Or.inr (List.all_eq_true.1 hd c hc)
        have hal : a.length ≤ 101 := by
          have h' := hg
          unfold goodS at h'
          simp only [Bool.and_eq_true, decide_eq_true_eq] at h'
          have h2 := h'.1.1.2
          unfold sizeS at h2
          split at h2
          · rw [List.length_tail] at h2; omega
          · omega
        clear HR hg hgo hs1 hs2 hb hz
        go_enter Tryd.func27, Tryd.ntmps27
        go_wp2_with fail
        refine (GA _).mono ?_
        rintro e w' ⟨rfl, hw'⟩
        rw [hw']
        clear hw' w'
        go_wp2_with fail
        refine (C1 _).mono ?_
        rintro e w1 ⟨rfl, hb1⟩
        go_wp2_with fail
        refine (C2 _).mono ?_
        rintro e w2 ⟨rfl, hq⟩
        have hb2 := hb1.trans (hq.mono hb1.size)
        clear hq hb1 C1 C2 GA
        go_wp2
        go_loopg [4, 5] a.length (fun g v4 v5 wr => ∃ i : Nat, i + g = a.length ∧ v5 = .int .i64 i ∧ v4 = .int .i64 (valX b (a.take i)) ∧ wr = w2)
        case atStart => exact ⟨0, by omega, rfl, rfl, rfl⟩
        case round =>
          obtain ⟨i, hig, rfl, rfl, rfl⟩ := hrel
          cases gk with
          | zero =>
            obtain rfl : i = a.length := by omega
            rw [List.take_length, hvx]
            go_wp2
            go_ret2
            exact ⟨rfl, hb2⟩
          | succ g =>
            have hil : i < a.length := by omega
            have hie : (i : Int) < (a.length : Int) := by omega
            have hcm : a[i] = 45 ∨ isD a[i] = true := hall _ (List.getElem_mem hil)
            have hnx := valX_snoc b (a.take i) a[i]
            rw [← List.take_succ_eq_append_getElem hil] at hnx
            have hsplit : a.take (i + 1) ++ a.drop (i + 1) = a := List.take_append_drop _ _
            have hg1 := hgr (a.take (i + 1)) (a.drop (i + 1)) (fun c hc => hall c (List.mem_of_mem_drop hc))
            rw [hsplit, hvx] at hg1
            have hg2 := hsg (a.take (i + 1))
            have hg3 := hsg (a.take i)
            obtain ⟨c, hc⟩ : ∃ c, a[i] = c := ⟨_, rfl⟩
            have hgc : a[i]?.getD 0 = c := by rw [List.getElem?_eq_getElem hil, hc]; rfl
            rw [hc] at hcm hnx
            obtain ⟨X, hX⟩ : ∃ X, valX b (a.take i) = X := ⟨_, rfl⟩
            obtain ⟨Y, hY⟩ : ∃ Y, valX b (a.take (i + 1)) = Y := ⟨_, rfl⟩
            rw [hX] at hnx hg3 ⊢
            rw [hY] at hnx hg1 hg2
            have HY := Lib.hid hY
            have HVX := Lib.hid hvx
            have HGR := Lib.hid hgr
            have HSG := Lib.hid hsg
            have HALL := Lib.hid hall
            clear hY hX hsplit hvx hgr hsg hall
            by_cases h45 : c = 45
            · have hcn : ((c.toNat : Int) == 45) = true := by rw [h45]; rfl
              rw [if_pos h45] at hnx
              subst hnx
              clear h45 hcm hg1 hg2 hg3
              go_wp2
              go_roundg g
              case measure => omega
              case rel => exact ⟨i + 1, by omega, by go_num, by rw [HY.out], rfl⟩
            · have hcd : isD c = true := by
                rcases hcm with h | h
                · exact absurd h h45
                · exact h
              have hcn : ((c.toNat : Int) == 45) = false := by
                have := u8_eq c 45
                rw [show ((45 : UInt8).toNat : Int) = 45 from rfl] at this
                rw [this]
                simpa using h45
              rw [if_neg h45] at hnx
              have hc1 := (isD_iff.1 hcd).1
              have hc2 := (isD_iff.1 hcd).2
              obtain ⟨k, hk⟩ : ∃ k, dv c = k := ⟨_, rfl⟩
              rw [hk] at hnx
              have hk9 : k < 10 := by rw [← hk]; exact dv_lt hcd
              have hck : (c.toNat : Int) - 48 = (k : Int) := by unfold dv at hk; omega
              cases b with
              | true =>
                have h1 := hg1.1 rfl
                have h2 := hg2.1 rfl
                have h3 := hg3.1 rfl
                rw [if_pos rfl] at hnx
                have hYl : -9223372036854775808 ≤ 10 * X + -(k : Int) := by omega
                have hYh : 10 * X + -(k : Int) ≤ 9223372036854775807 := by omega
                have hXl : -922337203685477580 ≤ X := by omega
                have hXh : X ≤ 922337203685477580 := by omega
                have HNX := Lib.hid hnx
                clear h45 hcm hg1 hg2 hg3 hnx h1 h2 h3 hk hcd
                go_wp2_with fail
                refine (hBL _).mono ?_
                rintro e w' ⟨rfl, hw'⟩
                rw [hw']
                clear hw' w'
                go_wp2
                go_roundg g
                case measure => omega
                case rel => exact ⟨i + 1, by omega, by go_num, by rw [HY.out, HNX.out], rfl⟩
              | false =>
                have h1 := hg1.2 rfl
                have h2 := hg2.2 rfl
                have h3 := hg3.2 rfl
                rw [if_neg (by decide)] at hnx
                have hYl : -9223372036854775808 ≤ 10 * X + (k : Int) := by omega
                have hYh : 10 * X + (k : Int) ≤ 9223372036854775807 := by omega
                have hXl : -922337203685477580 ≤ X := by omega
                have hXh : X ≤ 922337203685477580 := by omega
                have HNX := Lib.hid hnx
                clear h45 hcm hg1 hg2 hg3 hnx h1 h2 h3 hk hcd
                go_wp2_with fail
                refine (hBL _).mono ?_
                rintro e w' ⟨rfl, hw'⟩
                rw [hw']
                clear hw' w'
                go_wp2
                go_roundg g
                case measure => omega
                case rel => exact ⟨i + 1, by omega, by go_num, by rw [HY.out, HNX.out], rfl⟩
  · have hgf : goodS a = false := by simpa using hg
    rw [hgf] at GA
    have hRe : R = (0, false) := by
      rw [← HR.out]
      unfold intR
      rw [if_neg (by rw [hgf]; simp)]
    subst hRe
    clear HR hg hgf
    go_enter Tryd.func27, Tryd.ntmps27
    go_wp2_with fail
    refine (GA _).mono ?_
    rintro e w' ⟨rfl, hw'⟩
    rw [hw']
    clear hw' w'
    go_wp2
    go_ret2
    exact ⟨rfl, Below.refl _ _⟩

end Go.Proofs.YtekpdmjobkikfaaDoor
