/- The walk of Div: quotient and rest, digit by digit. -/
import Derived.Test.YtekpdmjobkikfaaDoorCmp
import Derived.Test.YtekpdmjobkikfaaDoorRefP
namespace Go.Proofs.YtekpdmjobkikfaaDoor
open Go.RowKit
set_option maxRecDepth 100000
attribute [local go_sem] str_size str_toList str_get

theorem of_any (n : Int) (h0 : -9223372036854775808 ≤ n) (h1 : n ≤ 9223372036854775807) (w : World) (hT : TabW w) : Calls Tryd.prog 26 #[.int .i64 n] w fun e w' => e = .returned (str (Lib.itoa n)) ∧ Below w.heap.size w w' := by
  have IT := Tryd.strconv_Itoa n h0 h1 w hT
  go_enter Tryd.func26, Tryd.ntmps26
  go_wp2_with fail
  refine IT.mono ?_
  rintro e w' ⟨rfl, k, os, rfl⟩
  go_wp2
  go_ret
  exact ⟨rfl, by have := below_drewN (below_grow (w.drewN k) os) 0; exact ⟨this.os, this.tape, this.output, this.size, this.block⟩⟩

theorem trim_len {zs : List Nat} (ht : isTrim zs) {k : Nat} (h : valL zs < 10 ^ k) : zs.length ≤ k + 1 := by
  by_cases hn : zs = []
  · subst hn; simp
  · have h1 := top_le ht hn
    apply Classical.byContradiction
    intro hh
    have h2 : 10 ^ k ≤ 10 ^ (zs.length - 1) := Nat.pow_le_pow_right (by decide) (by omega)
    have h3 : 10 ^ (zs.length - 1) ≤ BB ^ (zs.length - 1) := Nat.pow_le_pow_left (by decide) _
    omega

theorem valD_take_succ' {y : List UInt8} {i : Nat} (h : i < y.length) : valD (y.take (i + 1)) = 10 * valD (y.take i) + dv (y[i]?.getD 0) := by
  rw [List.take_succ_eq_append_getElem h, valD_snoc]
  simp [h]
theorem allD_at' {y : List UInt8} (h : allD y = true) {i : Nat} (hi : i < y.length) : isD (y[i]?.getD 0) = true := by
  simp only [List.getElem?_eq_getElem hi, Option.getD_some]
  exact List.all_eq_true.1 h _ (List.getElem_mem hi)
theorem ok_ten : bigOk false [10] := by
  refine ⟨fun x hx => ?_, by simp [isTrim], fun h => by cases h⟩
  have : x = 10 := by simpa using hx
  subst this
  decide
theorem ok_one {D : Nat} (h : D < BB) : bigOk false (trimL [D]) := by
  refine ⟨okL_trim fun x hx => ?_, trim_is _, fun e => by cases e⟩
  have : x = D := by simpa using hx
  subst this
  exact h
theorem size_allD {l : List UInt8} (h : allD l = true) : sizeS l = l ∧ valS l = (valD l : Int) := by
  have hh : ¬ l.head? = some 45 := by
    cases l with
    | nil => simp
    | cons c l =>
      simp only [allD, List.all_cons, Bool.and_eq_true] at h
      simp only [List.head?_cons, Option.some.injEq]
      exact isD_ne h.1
  have h1 : sizeS l = l := by unfold sizeS; rw [if_neg hh]
  refine ⟨h1, ?_⟩
  unfold valS belowS
  rw [if_neg (by simpa using hh), h1]
theorem alloc4 {w w5 : World} {o0 o1 o2 o3 : Obj} (h : w5 = (((w.alloc o0).alloc o1).alloc o2).alloc o3) : w5.heap.size = w.heap.size + 4 ∧ Below w.heap.size w w5 ∧ w5.heap[w.heap.size]? = some o0 ∧ w5.heap[w.heap.size + 1]? = some o1 ∧ w5.heap[w.heap.size + 1 + 1]? = some o2 ∧ w5.heap[w.heap.size + 1 + 1 + 1]? = some o3 := by
  subst h
  refine ⟨by simp only [World.alloc, Array.size_push], ⟨rfl, rfl, rfl, by simp only [World.alloc, Array.size_push]; omega, fun k hk => ?_⟩, ?_, ?_, ?_, ?_⟩
  · show ((((w.heap.push o0).push o1).push o2).push o3)[k]? = _
    rw [Array.getElem?_push, if_neg (by simp only [Array.size_push]; omega), Array.getElem?_push, if_neg (by simp only [Array.size_push]; omega), Array.getElem?_push, if_neg (by simp only [Array.size_push]; omega), Array.getElem?_push, if_neg (by omega)]
  · show ((((w.heap.push o0).push o1).push o2).push o3)[_]? = _
    rw [Array.getElem?_push, if_neg (by simp only [Array.size_push]; omega), Array.getElem?_push, if_neg (by simp only [Array.size_push]; omega), Array.getElem?_push, if_neg (by simp only [Array.size_push]; omega), Array.getElem?_push, if_pos rfl]
  · show ((((w.heap.push o0).push o1).push o2).push o3)[_]? = _
    rw [Array.getElem?_push, if_neg (by simp only [Array.size_push]; omega), Array.getElem?_push, if_neg (by simp only [Array.size_push]; omega), Array.getElem?_push, if_pos (by simp only [Array.size_push])]
  · show ((((w.heap.push o0).push o1).push o2).push o3)[_]? = _
    rw [Array.getElem?_push, if_neg (by simp only [Array.size_push]; omega), Array.getElem?_push, if_pos (by simp only [Array.size_push])]
  · show ((((w.heap.push o0).push o1).push o2).push o3)[_]? = _
    rw [Array.getElem?_push, if_pos (by simp only [Array.size_push])]
theorem num_sign {b : Bool} {zs : List Nat} (ok : bigOk b zs) : b = decide (numV b zs < 0) ∧ valL zs = (numV b zs).natAbs := by
  have hp : zs ≠ [] → 0 < valL zs := fun h => Nat.pos_of_ne_zero fun e => h ((trim_nil ok.2.1).2 e)
  cases b with
  | true =>
    have := hp (ok.2.2 rfl)
    unfold numV
    simp
    omega
  | false => unfold numV; simp
theorem num_nat {b : Bool} {zs : List Nat} {n : Nat} (ok : bigOk b zs) (h : numV b zs = (n : Int)) : b = false ∧ valL zs = n := by
  obtain ⟨h1, h2⟩ := num_sign ok
  rw [h] at h1 h2
  exact ⟨by rw [h1]; simp, by omega⟩

set_option maxHeartbeats 8000000 in
theorem div_good (a b : List UInt8) (w : World) (hT : TabW w) (hga : goodS a = true) (hgb : goodS b = true) (hb0 : b ≠ [48]) : Calls Tryd.prog 14 #[str a, str b] w fun e w' => e = .returned (.tuple #[str (Lib.itoa ((valS a).tdiv (valS b))), str (Lib.itoa ((valS a).tmod (valS b))), .int .i64 0]) ∧ Below w.heap.size w w' := by
  have GA := good_is hga w
  have GB := fun W => good_is hgb W
  have RA := fun W => read_good hga W
  have RB := fun W => read_good hgb W
  have hzb : valS b ≠ 0 := fun h => hb0 ((good_zero_iff hgb).2 h)
  have hba : (b == [48]) = false := by simpa using hb0
  obtain ⟨hda, hla, _⟩ := good_parts hga
  have hva : (valS a).natAbs = valD (sizeS a) := by unfold valS; split <;> omega
  have hbb := good_abs hgb
  have TP := fun W => Tryd.strings_TrimPrefix ⟨a.toArray⟩ ⟨#[45]⟩ W
  simp only [trim_size] at TP
  generalize valS a = za at RA hva ⊢
  generalize valS b = zb at RB hzb hbb ⊢
  have hdn : 0 < (sizeS a).length := by
    unfold goodS at hga
    simp only [Bool.and_eq_true, Bool.not_eq_true', List.isEmpty_eq_false_iff] at hga
    exact List.length_pos_iff.2 hga.1.1.1
  generalize sizeS a = d at hda hla hva TP hdn
  have HT := Lib.hid hT
  have HDA := Lib.hid hda
  have HVA := Lib.hid hva
  clear hga hgb hT hb0 hda hva
  go_enter Tryd.func14, Tryd.ntmps14
  go_wp2_with fail
  refine GA.mono ?_
  rintro e w1 ⟨rfl, hb1⟩
  go_wp2_with fail
  refine (GB _).mono ?_
  rintro e w2 ⟨rfl, hb2⟩
  go_wp2_with fail
  refine (RA _).mono ?_
  rintro e w3 ⟨_, ba, xs, rfl, ⟨u3, rfl, hx3⟩, okx, hvx, hlx, hb3⟩
  go_wp2_with fail
  refine (RB _).mono ?_
  rintro e w4 ⟨_, bb, ys, rfl, ⟨u4, rfl, hy4⟩, oky, hvy, hly, hb4⟩
  have hx4 := hx3.mono hb4
  have hB4 : Below w.heap.size w w4 := ((hb1.trans (hb2.mono hb1.size)).trans (hb3.mono (by have := hb1.size; have := hb2.size; omega))).trans (hb4.mono (by have := hb1.size; have := hb2.size; have := hb3.size; omega))
  obtain ⟨ax, cx, rfl, _, _, _⟩ := hx4.val
  obtain ⟨ay, cy, rfl, _, _, _⟩ := hy4.val
  clear GA GB RA RB hb1 hb2 hb3 hb4 hx3 hba
  have hsa := num_sign okx
  have hsb := num_sign oky
  rw [hvx] at hsa
  rw [hvy] at hsb
  have hYp : 0 < valL ys := by rw [hsb.2]; omega
  have hYb : valL ys < 10 ^ 100 := by rw [hsb.2]; exact hbb
  have HSA := Lib.hid hsa
  have HSB := Lib.hid hsb
  obtain ⟨Y, hY⟩ : ∃ Y, valL ys = Y := ⟨_, rfl⟩
  rw [hY] at hYp hYb
  have HY := Lib.hid hY
  have HYB := Lib.hid hYb
  have HOY := Lib.hid oky
  have HY4 := Lib.hid hy4
  clear okx hvx hlx hvy hbb hzb hsa hsb hY hYb oky hy4 hx4
  go_upto_region 8 with fail
  obtain ⟨w5, hw5⟩ : ∃ w5, w5 = (((w4.alloc (.cells #[.bool ba, .slice ax xs.length cx] 49)).alloc (.cells #[.bool bb, .slice ay ys.length cy] 49)).alloc (.cells #[.bool false, .slice ay ys.length cy] 49)).alloc (.cells #[.bool false, .slice none 0 0] 49) := ⟨_, rfl⟩
  obtain ⟨hs5, hb5, k0, k1, k2, k3⟩ := alloc4 hw5
  rw [← hw5]
  obtain ⟨H, hH⟩ : ∃ H, w4.heap.size = H := ⟨_, rfl⟩
  rw [hH] at hs5 hb5 k0 k1 k2 k3 ⊢
  have HH := Lib.hid hH
  have hb45 := hb5
  have hB5 : Hid (Below w.heap.size w w5) := hB4.trans ((show Below w4.heap.size w4 w5 by rw [hH]; exact hb5).mono hB4.size)
  have hwH : w.heap.size ≤ H := by rw [← hH]; exact hB4.size
  clear hw5 hH hB4 hb5
  have hcv := Lib.run_convert_string_bytes (P := Tryd.prog) w5 9 37 5 ⟨d.toArray⟩ Tryd.underlying9 Tryd.underlying37 Tryd.underlying5
  rw [str_size] at hcv
  have hb6 := bytes_below w5 5 ⟨d.toArray⟩
  have hs6 := Lib.bytesWorld_size w5 5 ⟨d.toArray⟩
  have hcell : ∀ i, i < d.length → (Lib.bytesWorld w5 5 ⟨d.toArray⟩).cell? ⟨w5.heap.size, i, none⟩ = some (.int .u8 ((d[i]?.getD 0).toNat : Int)) := fun i hi => by
    have := Lib.bytesWorld_cell w5 5 ⟨d.toArray⟩ i (by rw [str_size]; exact hi)
    simpa [List.getD] using this
  generalize grownCap w5 d.length 0 5 = cap at hcv
  obtain ⟨w6, hw6⟩ : ∃ w6, w6 = Lib.bytesWorld w5 5 ⟨d.toArray⟩ := ⟨_, rfl⟩
  rw [← hw6] at hcv hb6 hs6 hcell
  have K0 := Lib.hid ((hb6.block H (by omega)).trans k0)
  have K1 := Lib.hid ((hb6.block (H + 1) (by omega)).trans k1)
  have K2 := Lib.hid ((hb6.block (H + 1 + 1) (by omega)).trans k2)
  have K3 := Lib.hid ((hb6.block (H + 1 + 1 + 1) (by omega)).trans k3)
  have HYW : Hid (∀ W, Below (H + 1 + 1 + 1) w6 W → LimbsAt W (.slice ay ys.length cy) ys) := fun W hW => HY4.out.mono (by rw [HH.out]; exact (hb45.trans (hb6.mono (by omega))).trans (hW.mono (by omega)))
  have HB6 : Hid (Below w.heap.size w w6) := hB5.out.trans (hb6.mono (by omega))
  rw [hs5] at hcell hcv hs6
  have HC := Lib.hid hcell
  have hs6' : w6.heap.size = H + 5 := by omega
  have hlt4 : w6.heap[H + 4]? ≠ none := by
    intro e
    rw [Array.getElem?_eq_none_iff] at e
    omega
  have HL4 := Lib.hid hlt4
  have TP5 := TP w5
  clear TP k0 k1 k2 k3 hb6 hs6 hcell hw6 hb45 HY4 hB5 hlt4
  go_upto_region 9 with fail
  go_wp2_with fail
  refine TP5.mono ?_
  rintro e w7 ⟨rfl, hw7⟩
  rw [hw7]
  clear hw7 TP5
  go_wp2
  obtain ⟨i10, hi10, hz10, hs10, hy10⟩ := info_parts infoB
  go_loopg [11, 41] d.length (fun g v11 v41 wr => ∃ (i : Nat) (qs : List UInt8) (rs : List Nat) (ur : Value), i + g = d.length ∧ v41 = .int .i64 i ∧ wr.ownsRow w6.heap.size 5 1 v11 i (Lib.byteCells qs) ∧ qs.length = i ∧ allD qs = true ∧ valD qs = valD (d.take i) / Y ∧
    wr.heap[H + 1 + 1 + 1]? = some (.cells #[.bool false, ur] 49 (0, 0)) ∧ LimbsAt wr ur rs ∧ bigOk false rs ∧ valL rs = valD (d.take i) % Y ∧ Below (H + 1 + 1 + 1) w6 wr ∧ wr.heap[H + 4]? = w6.heap[H + 4]? ∧ w6.heap.size ≤ wr.heap.size)
  case atStart => exact ⟨0, [], [], .slice none 0 0, by omega, rfl, World.ownsRow_nil _ _ _ _, rfl, rfl, by rw [List.take_zero, valD_nil, Nat.zero_div], K3.out, LimbsAt.nil _, ⟨okL_nil, by simp [isTrim], fun h => by cases h⟩, by rw [List.take_zero, valD_nil, Nat.zero_mod]; rfl, Below.refl _ _, rfl, Nat.le_refl _⟩
  case round =>
    obtain ⟨i, qs, rs, ur, hig, rfl, hown, hql, hqa, hqv, hk3, hrs, hro, hrv, hbl, hk4, hsz⟩ := hrel
    cases gk with
    | zero =>
      have hie : ¬ (i : Int) < (d.length : Int) := by omega
      obtain rfl : i = d.length := by omega
      rw [List.take_length] at hqv hrv
      obtain ⟨n', hn'⟩ : ∃ n', d.length = n' + 1 := ⟨d.length - 1, by omega⟩
      obtain ⟨gq, cq0, rfl⟩ : ∃ g cap, u11 = .slice (some ⟨g, 0, none⟩) d.length cap := by
        rw [hn'] at hown ⊢
        exact own_succ hown
      have hcv2 : (convert 37 9 (.slice (some ⟨gq, 0, none⟩) d.length cq0)).run Tryd.prog wr = .ok (.string ⟨qs.toArray⟩) wr := by
        have h := run_convert_bytes_back (P := Tryd.prog) wr 37 9 5 ⟨gq, 0, none⟩ cq0 qs Tryd.underlying37 Tryd.underlying5 Tryd.underlying9 (fun j hj => by
          refine hown.cells (g := gq) rfl j _ ?_
          simp [Lib.byteCells, hj])
        rw [hql] at h
        exact h
      have hszq := size_allD hqa
      have RD := read_any qs (by rw [hszq.1]; exact hqa) (by omega) wr
      rw [hszq.1, hszq.2] at RD
      have HQV := Lib.hid hqv
      have HRV := Lib.hid hrv
      have HK3 := Lib.hid hk3
      have HRS := Lib.hid hrs
      have HRO := Lib.hid hro
      have hql2 : qs.length ≤ 100 := by omega
      obtain ⟨ar, cr, rfl, _, _, _⟩ := hrs.val
      clear hown hqa hqv hrv hszq hn' hk3 hrs hro hk4 hql
      go_wp2_with fail
      refine RD.mono ?_
      rintro e wQ ⟨_, bq, zq, rfl, ⟨uq, rfl, hzQ⟩, okq, hvq, hlq, hbQ⟩
      obtain ⟨rfl, hvq'⟩ := num_nat (n := valD d / Y) okq (by rw [hvq, HQV.out])
      obtain ⟨aq, cq, rfl, _, _, _⟩ := hzQ.val
      have hzl := hbl.size
      have hbwQ : Below (H + 1 + 1 + 1) w6 wQ := hbl.trans (hbQ.mono (by omega))
      have hsQ := hbQ.size
      obtain ⟨Q, hQ⟩ : ∃ Q, wQ.heap.size = Q := ⟨_, rfl⟩
      obtain ⟨wR, hwR⟩ : ∃ wR, wR = wQ.alloc (.cells #[.bool false, .slice aq zq.length cq] 49) := ⟨_, rfl⟩
      have hRQ : wR.heap[Q]? = some (.cells #[.bool false, .slice aq zq.length cq] 49 (0, 0)) := by rw [hwR, ← hQ]; exact heap_alloc_new _ _
      have hbR : Below wQ.heap.size wQ wR := by rw [hwR]; exact (Below.refl _ _).alloc (Nat.le_refl _) _
      have hsR := hbR.size
      have hR0 := (hbR.block H (by omega)).trans ((hbwQ.block H (by omega)).trans K0.out)
      have hR1 := (hbR.block (H + 1) (by omega)).trans ((hbwQ.block (H + 1) (by omega)).trans K1.out)
      have hR3 := (hbR.block (H + 1 + 1 + 1) (by omega)).trans ((hbQ.block (H + 1 + 1 + 1) (by omega)).trans HK3.out)
      obtain ⟨wS, hwS, hSQ, hzS, hkS, hBS⟩ := set_box2' hRQ (.bool (!(ba == bb)))
      have hS0 := (hkS H (by omega)).trans hR0
      have hS3 := (hkS (H + 1 + 1 + 1) (by omega)).trans hR3
      obtain ⟨wU, hwU, hUQ3, hzU, hkU, hBU⟩ := set_box2' hS3 (.bool ba)
      have hUQ := (hkU Q (by omega)).trans hSQ
      have hzU2 : LimbsAt wU (.slice aq zq.length cq) zq := ((hzQ.mono hbR).box hRQ (by omega) hkS).box hS3 (by omega) hkU
      have hrU2 : LimbsAt wU (.slice ar rs.length cr) rs := (((HRS.out.mono hbQ).mono hbR).box hRQ (by omega) hkS).box hS3 (by omega) hkU
      have hbU := hBU (H + 1 + 1 + 1) w6 (Nat.le_refl _) (hBS (H + 1 + 1 + 1) w6 (by omega) (hbwQ.trans (hbR.mono (by omega))))
      obtain ⟨ra0, ra1, _, _⟩ := cell_box2 hR0
      obtain ⟨rb0, rb1, _, _⟩ := cell_box2 hR1
      obtain ⟨rq0, rq1, rq2, rq3⟩ := cell_box2 hRQ
      obtain ⟨sa0, sa1, _, _⟩ := cell_box2 hS0
      obtain ⟨s30, s31, s32, s33⟩ := cell_box2 hS3
      obtain ⟨uq0, uq1, _, _⟩ := cell_box2 hUQ
      have TQ := trim_any (!(ba == bb)) aq cq zq wU hzU2
      have HWR := Lib.hid hwR
      have HWS := Lib.hid hwS
      have HWU := Lib.hid hwU
      have HU3 := Lib.hid hUQ3
      have HRU := Lib.hid hrU2
      have HOKQ := Lib.hid okq
      have HVQ := Lib.hid hvq'
      have HBU := Lib.hid (HB6.out.trans (hbU.mono (by omega)))
      have HQQ := Lib.hid hQ
      have hzU' := hzU
      have hsU : H + 1 + 1 + 1 < wU.heap.size := by omega
      clear RD hzQ okq hvq hvq' hbwQ hRQ hbR hR0 hR1 hR3 hSQ hkS hBS hS0 hS3 hUQ3 hkU hBU hUQ hzU2 hrU2 hbU hwR hwS hwU hbQ hbl hcv2
      go_upto_region 20 with fail
      rw [← HWR.out]
      clear hQ
      go_upto_region 21 with fail
      rw [← HWS.out]
      clear ra0 ra1 rb0 rb1 rq0 rq1 rq2 rq3
      go_upto_region 22 with fail
      rw [← HWU.out]
      clear sa0 sa1 s30 s31 s32 s33
      go_wp2_with fail
      refine TQ.mono ?_
      rintro e wV ⟨_, rfl, ⟨uV, rfl, hzV⟩, hbV⟩
      obtain ⟨aV, cV, rfl, _, _, _⟩ := hzV.val
      have hlV := trimL_len zq
      have hTV : TabW wV := HT.out.mono (HBU.out.trans (hbV.mono HBU.out.size))
      have XQ := text_any (!(ba == bb) && !(trimL zq).isEmpty) _ (trimL zq) wV hzV (big_trim _ HOKQ.out.1) (by omega) hTV
      clear TQ uq0 uq1
      go_wp2_with fail
      refine XQ.mono ?_
      rintro e wX ⟨rfl, hbX⟩
      have hbUX : Below wU.heap.size wU wX := hbV.trans (hbX.mono hbV.size)
      have h3X := (hbUX.block (H + 1 + 1 + 1) hsU).trans HU3.out
      obtain ⟨x30, x31, _, _⟩ := cell_box2 h3X
      have TS := trim_any ba ar cr rs wX (HRU.out.mono hbUX)
      have H3X := Lib.hid h3X
      have HUX := Lib.hid hbUX
      have hwU' : w.heap.size ≤ wU.heap.size := HBU.out.size
      clear XQ hbV hbX hbUX h3X hzV hTV
      go_wp2_with fail
      refine TS.mono ?_
      rintro e wY ⟨_, rfl, ⟨uY, rfl, hzY⟩, hbY⟩
      obtain ⟨aY, cY, rfl, _, _, _⟩ := hzY.val
      have hlY := trimL_len rs
      have hbUY : Below wU.heap.size wU wY := HUX.out.trans (hbY.mono HUX.out.size)
      have hrl9 : rs.length ≤ 101 := trim_len HRO.out.2.1 (by rw [HRV.out]; exact Nat.lt_trans (Nat.mod_lt _ hYp) HYB.out)
      have XS := text_any (ba && !(trimL rs).isEmpty) _ (trimL rs) wY hzY (big_trim _ HRO.out.1) (by omega) (HT.out.mono (HBU.out.trans (hbUY.mono hwU')))
      have HBY := Lib.hid (HBU.out.trans (hbUY.mono hwU'))
      have hfin : capR (numV (!(ba == bb) && !(trimL zq).isEmpty) (trimL zq)) = (Lib.itoa (za.tdiv zb), 0) ∧ capR (numV (ba && !(trimL rs).isEmpty) (trimL rs)) = (Lib.itoa (za.tmod zb), 0) := by
        have hza : za.natAbs < 10 ^ 100 := by
          rw [HVA.out]
          exact Nat.lt_of_lt_of_le (valD_lt HDA.out) (Nat.pow_le_pow_right (by decide) hla)
        have e1 : numV (!(ba == bb)) zq = za.tdiv zb := by
          rw [tdiv_signs, ← HSA.out.1, ← HSB.out.1]
          unfold numV
          rw [HVQ.out, HVA.out, ← HSB.out.2, HY.out]
        have e2 : numV ba rs = za.tmod zb := by
          rw [tmod_signs, ← HSA.out.1]
          unfold numV
          rw [HRV.out, HVA.out, ← HSB.out.2, HY.out]
        rw [num_trim, num_trim, e1, e2]
        exact ⟨capR_ok (Nat.lt_of_le_of_lt (tdiv_abs _ _) hza), capR_ok (Nat.lt_of_le_of_lt (tmod_abs _ _) hza)⟩
      rw [hfin.2] at XS
      have HF := Lib.hid hfin
      clear TS x30 x31 hbY hbUY hzY hfin
      go_wp2_with fail
      refine XS.mono ?_
      rintro e wZ ⟨rfl, hbZ⟩
      go_wp2
      go_ret3
      exact ⟨by rw [HF.out.1]; rfl, HBY.out.trans (hbZ.mono HBY.out.size)⟩
    | succ g =>
      have hie : (i : Int) < (d.length : Int) := by omega
      have hnx := valD_take_succ' (y := d) (i := i) (by omega)
      have hdg := allD_at' HDA.out (i := i) (by omega)
      have hce := (World.cell?_of_block (w := w6) (w' := wr) (a := ⟨H + 4, i, none⟩) hk4).trans (HC.out i (by omega))
      obtain ⟨C, hC⟩ : ∃ C, d[i]?.getD 0 = C := ⟨_, rfl⟩
      obtain ⟨D, hD⟩ : ∃ D, dv C = D := ⟨_, rfl⟩
      rw [hC] at hdg hce
      rw [hC, hD] at hnx
      have hD9 : D ≤ 9 := by have := dv_lt hdg; omega
      rw [isD_iff] at hdg
      have hc1 := hdg.1
      have hc2 := hdg.2
      have hCD : (C.toNat : Int) - 48 = (D : Int) := by rw [← hD]; unfold dv; omega
      obtain ⟨P, hPp⟩ : ∃ P, valD (d.take i) = P := ⟨_, rfl⟩
      rw [hPp] at hnx hqv hrv
      have hpn := part_next (X := P) (d := D) hYp
      have hps := part_step (X := P) (Y := Y) (r := P % Y) (d := D) hYp rfl
      have hrY : P % Y < Y := Nat.mod_lt _ hYp
      generalize P % Y = r at hpn hps hrv hrY
      obtain ⟨T, hT⟩ : ∃ T, 10 * r + D = T := ⟨_, rfl⟩
      rw [hT] at hpn hps
      obtain ⟨K, hK⟩ : ∃ K, T / Y = K := ⟨_, rfl⟩
      rw [hK] at hpn hps
      have hK9 : K ≤ 9 := by rcases hps with h | h <;> omega
      have hrl : rs.length ≤ 101 := trim_len hro.2.1 (by rw [hrv]; exact Nat.lt_trans hrY HYB.out)
      have HNX : Hid (valD (d.take (i + 1)) / Y = 10 * valD qs + K ∧ valD (d.take (i + 1)) % Y = T % Y) := by rw [Hid, hnx, hqv]; exact hpn
      have HQL := Lib.hid hql
      have HQA := Lib.hid hqa
      have HOWN := Lib.hid hown
      have HK4 := Lib.hid hk4
      have HRV := Lib.hid hrv
      have HTT := Lib.hid hT
      have HKK := Lib.hid hK
      have HRS := Lib.hid hrs
      have HRO := Lib.hid hro
      have HRY := Lib.hid hrY
      obtain ⟨y0, y1, _, _⟩ := cell_box2 hk3
      obtain ⟨ar, cr, rfl, _, _, _⟩ := hrs.val
      have HK3 := Lib.hid hk3
      clear hnx hpn hps hrv hqv hqa hql hown hk4 hT hK hPp hC hD hdg hrs hro hk3 hrY
      have hgo : decide ((i : Int) < (d.length : Int)) = true := decide_eq_true hie
      go_upto_region 12 with fail
      have hrl2 : rs.length ≤ 1000 := by omega
      have TM := times_any false false (.slice ar rs.length cr) (.slice (some ⟨wr.heap.size, 0, none⟩) 1 1) rs [10] (wr.alloc (.cells #[.int .u64 ((10 : Nat) : Int)] 53)) (HRS.out.mono ((Below.refl _ wr).alloc (Nat.le_refl _) _)) (limbs_one wr 10) HRO.out ok_ten hrl2 (by decide)
      go_wp2_with fail
      refine TM.mono ?_
      rintro e wA ⟨_, b1, z1, rfl, ⟨u1, rfl, hz1⟩, ok1, hv1, hl1, hbA⟩
      obtain ⟨rfl, hv1'⟩ := num_nat (n := 10 * r) ok1 (by rw [hv1]; unfold numV; rw [HRV.out]; simp [valL]; omega)
      have hbA' : Below wr.heap.size wr wA := ((Below.refl _ wr).alloc (Nat.le_refl _) _).trans (hbA.mono (by simp))
      obtain ⟨a1, c1, rfl, _, _, _⟩ := hz1.val
      have TR : Calls Tryd.prog 34 #[.agg #[.bool false, .slice (some ⟨wA.heap.size, 0, none⟩) 1 1]] (wA.alloc (.cells #[.int .u64 (D : Int)] 53)) (BigPost false (trimL [D]) (wA.alloc (.cells #[.int .u64 (D : Int)] 53))) := trim_any false (some ⟨wA.heap.size, 0, none⟩) 1 [D] _ (limbs_one wA D)
      have hz1A := hz1.mono ((Below.refl _ wA).alloc (Nat.le_refl _) (.cells #[.int .u64 (D : Int)] 53))
      have HOK1 := Lib.hid ok1
      have HV1 := Lib.hid hv1'
      clear TM hv1 hv1' hbA ok1 hz1
      go_wp2_with fail
      refine TR.mono ?_
      rintro e wB ⟨_, rfl, ⟨uB, rfl, hzB⟩, hbB⟩
      have hbB' : Below wr.heap.size wr wB := (hbA'.trans (((Below.refl _ wA).alloc (Nat.le_refl _) _).mono hbA'.size)).trans (hbB.mono (by have := hbA'.size; simp; omega))
      obtain ⟨aB, cB, rfl, _, _, _⟩ := hzB.val
      have hlB := trimL_len [D]
      have SU := sum_any false false (.slice a1 z1.length c1) (.slice aB (trimL [D]).length cB) z1 (trimL [D]) wB (hz1A.mono hbB) hzB HOK1.out (ok_one (show D < 1000000000 by omega)) (by simp at hl1 ⊢; omega) (by simp at hlB ⊢; omega)
      clear TR hbA' hbB hz1A hzB
      go_wp2_with fail
      refine SU.mono ?_
      rintro e wC ⟨_, b2, rs2, rfl, ⟨u2, rfl, hz2⟩, ok2, hv2, hl2, hbC⟩
      obtain ⟨rfl, hv2'⟩ := num_nat (n := T) ok2 (by rw [hv2]; unfold numV; rw [HV1.out, valL_trim, ← HTT.out]; simp [valL])
      have hbC' : Below wr.heap.size wr wC := hbB'.trans (hbC.mono hbB'.size)
      obtain ⟨a2, c2, rfl, _, _, _⟩ := hz2.val
      have hzC := hbC'.size
      have hzl := hbl.size
      have hk3C := (hbC'.block (H + 1 + 1 + 1) (by omega)).trans HK3.out
      obtain ⟨wD, hwD, hrD, hzD, hkD, hBD⟩ := set_box2' hk3C (.bool false)
      obtain ⟨wE, hwE, hrE, hzE, hkE, hBE⟩ := set_box2 hrD (.slice a2 rs2.length c2)
      have hbE := hBE (H + 1 + 1 + 1) w6 (Nat.le_refl _) (hBD (H + 1 + 1 + 1) w6 (Nat.le_refl _) (hbl.trans (hbC'.mono (by omega))))
      have hzE2 : LimbsAt wE (.slice a2 rs2.length c2) rs2 := hz2.box hk3C (by omega) (fun k hk => (hkE k hk).trans (hkD k hk))
      have hownE := own_keep (own_below HOWN.out hbC') (w' := wE) (fun q hq _ => (hkE q (by omega)).trans (hkD q (by omega)))
      have hk4E : wE.heap[H + 4]? = w6.heap[H + 4]? := ((hkE _ (by omega)).trans (hkD _ (by omega))).trans ((hbC'.block _ (by omega)).trans HK4.out)
      obtain ⟨f0, f1, f2, f3⟩ := cell_box2 hk3C
      have HWD := Lib.hid hwD
      have HWE := Lib.hid hwE
      have HRE := Lib.hid hrE
      have HZE := Lib.hid hzE2
      have HOE := Lib.hid hownE
      have HK4E := Lib.hid hk4E
      have HOK2 := Lib.hid ok2
      have HV2 := Lib.hid hv2'
      have hszE : w6.heap.size ≤ wE.heap.size := by omega
      have HBE := Lib.hid hbE
      clear SU hbB' hbC hbC' hz2 ok2 hv2 hv2' hk3C hrD hkD hBD hwD hwE hrE hkE hBE hbE hzE2 hownE hk4E hlB
      go_upto_region 13 with fail
      rw [← HWD.out, ← HWE.out]
      clear f0 f1 f2 f3 y0 y1
      go_wp2
      go_loopg [14] K (fun gq v14 wq => ∃ (k : Nat) (rs' : List Nat) (ur' : Value), k + gq = K ∧ v14 = .int .u8 (48 + (k : Int)) ∧ wq.heap[H + 1 + 1 + 1]? = some (.cells #[.bool false, ur'] 49 (0, 0)) ∧ LimbsAt wq ur' rs' ∧ bigOk false rs' ∧ valL rs' = T - k * Y ∧ wq.ownsRow w6.heap.size 5 1 u11 i (Lib.byteCells qs) ∧ Below (H + 1 + 1 + 1) w6 wq ∧ wq.heap[H + 4]? = w6.heap[H + 4]? ∧ w6.heap.size ≤ wq.heap.size)
      case atStart => exact ⟨0, rs2, _, by omega, rfl, HRE.out, HZE.out, HOK2.out, by rw [HV2.out]; simp, HOE.out, HBE.out, HK4E.out, hszE⟩
      case round =>
        obtain ⟨k, rs', ur', hkK, rfl, hq3, hqr, hqo, hqv, hqw, hqb, hq4, hqs⟩ := hrel
        have hyq := HYW.out _ hqb
        have hz2q := (hqb.block (H + 1 + 1) (by omega)).trans K2.out
        obtain ⟨y0, y1, _, _⟩ := cell_box2 hq3
        obtain ⟨p0, p1, _, _⟩ := cell_box2 hz2q
        obtain ⟨ar', cr', rfl, _, _, _⟩ := hqr.val
        have SZ := size_any false false (.slice ar' rs'.length cr') (.slice ay ys.length cy) rs' ys wr hqr hyq hqo.1 HOY.out.1 hqo.2.1 HOY.out.2.1
        rw [hqv, HY.out] at SZ
        cases gk with
        | zero =>
          obtain rfl : k = K := by omega
          have hTm : T - k * Y = T % Y := by rw [← HKK.out]; have := Nat.div_add_mod T Y; rw [Nat.mul_comm] at this; omega
          rw [hTm] at SZ hqv
          rw [cmp_lt (Nat.mod_lt T hYp)] at SZ
          have HQ3 := Lib.hid hq3
          have HQR := Lib.hid hqr
          have HQO := Lib.hid hqo
          have HQV := Lib.hid hqv
          have HQW := Lib.hid hqw
          have HQ4 := Lib.hid hq4
          clear hTm hq3 hqr hqo hqv hqw hq4 hyq hz2q
          go_wp2_with fail
          refine SZ.mono ?_
          rintro e wF ⟨rfl, hbF⟩
          have hownF := own_below HQW.out hbF
          have hqs' := hbF.size
          clear SZ
          obtain ⟨ch, hch⟩ : ∃ ch, UInt8.ofNat (48 + k) = ch := ⟨_, rfl⟩
          have hchn : (ch.toNat : Int) = 48 + (k : Int) := by rw [← hch, UInt8.toNat_ofNat']; omega
          have hch2 : isD ch = true ∧ dv ch = k := by rw [← hch]; exact ⟨isD_ofNat (by omega), dv_ofNat (by omega)⟩
          have HCH := Lib.hid hchn
          have HCH2 := Lib.hid hch2
          have hil : i ≤ 100 := by omega
          clear hch hchn hch2 y0 y1 p0 p1 hgo
          go_wp2_with (at_builtin; refine wpList_append_fresh _ rfl (.tmp 67) (.tmp 69) 37 rfl w6.heap.size 5 i10 _ 1 1 Tryd.underlying37 hi10 hz10 hs10 hy10 rfl (by decide) _ _ _ rfl (hownF.alloc _) ⟨wF.heap.size, 0, none⟩ 1 1 [.int .u8 (48 + (k : Int))] rfl rfl (cell_one_new _ _ _) ?b2 ?b3 ?b4 ?b5 ?_)
          case b2 => first | rfl | (intro u hu; simp at hu; subst hu; rfl)
          case b3 => unfold maxLen; omega
          case b4 => omega
          case b5 => simp; omega
          intro v' wG hownG hgrowG _
          have hbG : Below w6.heap.size wF wG := ((Below.refl _ wF).alloc (by omega) _).grown hgrowG (by simp; omega) (fun k e => (hownF.lt _ e).1)
          have hLF := (HQR.out.mono hbF).mono ((Below.refl _ wF).alloc (Nat.le_refl _) (.cells #[.int .u8 (48 + (k : Int))] 5))
          have hLG := hLF.grown hgrowG (Lib.ownsRow_kind (hownF.alloc _))
          have h3G := (hbG.block (H + 1 + 1 + 1) (by omega)).trans ((hbF.block (H + 1 + 1 + 1) (by omega)).trans HQ3.out)
          have h4G := (hbG.block (H + 4) (by omega)).trans ((hbF.block (H + 4) (by omega)).trans HQ4.out)
          have hownG' : wG.ownsRow w6.heap.size 5 1 v' (i + 1) (Lib.byteCells (qs ++ [ch])) := by
            rw [Lib.byteCells_append]
            have e : Lib.byteCells [ch] = [.int .u8 (48 + (k : Int))] := by rw [← HCH.out]; rfl
            rw [e, hs6']
            exact hownG
          have hbN := hqb.trans ((hbF.mono (by omega)).trans (hbG.mono (by omega)))
          have hszN : w6.heap.size ≤ wG.heap.size := by have := hbG.size; omega
          have HLG := Lib.hid hLG
          have H3G := Lib.hid h3G
          have H4G := Lib.hid h4G
          have HOG := Lib.hid hownG'
          have HBN := Lib.hid hbN
          clear hownG hgrowG hownF hbF hbG hLF hLG h3G h4G hownG' hbN hqb
          go_wp2
          go_roundg g
          case measure => omega
          case rel =>
            refine ⟨i + 1, qs ++ [ch], rs', _, by omega, by go_num, HOG.out, by rw [List.length_append, HQL.out]; rfl, ?_, ?_, H3G.out, HLG.out, HQO.out, by rw [HQV.out, HNX.out.2], HBN.out, H4G.out, hszN⟩
            · rw [allD_append]
              refine ⟨HQA.out, ?_⟩
              unfold allD
              rw [List.all_cons, HCH2.out.1]
              rfl
            · rw [valD_snoc, HCH2.out.2, HNX.out.1]
        | succ gq =>
          have hkY : (k + 1) * Y ≤ T := by
            have h1 : (k + 1) * Y ≤ K * Y := Nat.mul_le_mul_right _ (by omega)
            have h2 : K * Y ≤ T := by rw [← HKK.out]; exact Nat.div_mul_le_self _ _
            omega
          rw [Nat.add_mul, Nat.one_mul] at hkY
          obtain ⟨z, hz, hz0⟩ : ∃ z : Int, cmpN (T - k * Y) Y = z ∧ 0 ≤ z := by
            refine ⟨_, rfl, ?_⟩
            unfold cmpN
            rw [if_neg (by omega)]
            split <;> decide
          rw [hz] at SZ
          have hlyx : ys.length ≤ rs'.length := by
            apply Classical.byContradiction
            intro hn
            have := len_lt hqo.1 HOY.out.2.1 (show rs'.length < ys.length by omega)
            rw [hqv, HY.out] at this
            omega
          have hlrs : rs'.length ≤ 2000 := by
            have := trim_len hqo.2.1 (k := 102) (by
              rw [hqv]
              have h2 : T < 10 ^ 102 := by
                have h1 := HYB.out
                have h5 := HRY.out
                have h3 : (10 : Nat) ^ 102 = 10 ^ 100 * 100 := by rw [show (102 : Nat) = 100 + 2 from rfl, Nat.pow_add]
                rw [← HTT.out, h3]
                omega
              omega)
            omega
          clear hz
          have HQ3 := Lib.hid hq3
          have HQR := Lib.hid hqr
          have HQO := Lib.hid hqo
          have HQV := Lib.hid hqv
          have HQW := Lib.hid hqw
          have HQ4 := Lib.hid hq4
          have HYQ := Lib.hid hyq
          have HZ2 := Lib.hid hz2q
          clear hq3 hqr hqo hqv hqw hq4 hyq hz2q
          go_wp2_with fail
          refine SZ.mono ?_
          rintro e wF ⟨rfl, hbF⟩
          have MN := minus_any false false (.slice ar' rs'.length cr') (.slice ay ys.length cy) rs' ys wF (HQR.out.mono hbF) (HYQ.out.mono hbF) HQO.out.1 HOY.out.1 hlrs hlyx (by rw [HQV.out, HY.out]; omega)
          rw [HQV.out, HY.out] at MN
          have hsF := hbF.size
          have hsl := hqb.size
          have h3F := (hbF.block (H + 1 + 1 + 1) (by omega)).trans HQ3.out
          obtain ⟨y0', y1', _, _⟩ := cell_box2 h3F
          obtain ⟨p0', p1', _, _⟩ := cell_box2 ((hbF.block (H + 1 + 1) (by omega)).trans HZ2.out)
          have H3F := Lib.hid h3F
          clear SZ y0 y1 p0 p1 h3F
          go_wp2_with fail
          refine MN.mono ?_
          rintro e wG ⟨uG, zG, rfl, hzG, okG, hvG, hlG, hbG⟩
          obtain ⟨aG, cG, rfl, _, _, _⟩ := hzG.val
          have TG : Calls Tryd.prog 34 #[.agg #[.bool false, .slice aG zG.length cG]] wG (BigPost false (trimL zG) wG) := trim_any false aG cG zG wG hzG
          clear MN hzG
          go_wp2_with fail
          refine TG.mono ?_
          rintro e wI ⟨_, rfl, ⟨uI, rfl, hzI⟩, hbI⟩
          obtain ⟨aI, cI, rfl, _, _, _⟩ := hzI.val
          have hbFI : Below wr.heap.size wr wI := hbF.trans ((hbG.mono hsF).trans (hbI.mono (by have := hbG.size; omega)))
          have hsI := hbFI.size
          have hk3I := (hbFI.block (H + 1 + 1 + 1) (by omega)).trans HQ3.out
          obtain ⟨wJ, hwJ, hrJ, hzJ, hkJ, hBJ⟩ := set_box2' hk3I (.bool false)
          obtain ⟨wL, hwL, hrL, hzL, hkL, hBL⟩ := set_box2 hrJ (.slice aI (trimL zG).length cI)
          have hbL := hBL (H + 1 + 1 + 1) w6 (Nat.le_refl _) (hBJ (H + 1 + 1 + 1) w6 (Nat.le_refl _) (hqb.trans (hbFI.mono (by omega))))
          have hzL2 : LimbsAt wL (.slice aI (trimL zG).length cI) (trimL zG) := hzI.box hk3I (by omega) (fun k hk => (hkL k hk).trans (hkJ k hk))
          have hownL := own_keep (own_below HQW.out hbFI) (w' := wL) (fun q hq _ => (hkL q (by omega)).trans (hkJ q (by omega)))
          have hk4L : wL.heap[H + 4]? = w6.heap[H + 4]? := ((hkL _ (by omega)).trans (hkJ _ (by omega))).trans ((hbFI.block _ (by omega)).trans HQ4.out)
          obtain ⟨f0, f1, f2, f3⟩ := cell_box2 hk3I
          have hfin : bigOk false (trimL zG) ∧ valL (trimL zG) = T - (k + 1) * Y := ⟨⟨okL_trim okG, trim_is _, fun e => by cases e⟩, by rw [valL_trim, hvG, Nat.add_mul, Nat.one_mul]; omega⟩
          have HFIN := Lib.hid hfin
          have HWJ := Lib.hid hwJ
          have HWL := Lib.hid hwL
          have HRL := Lib.hid hrL
          have HZL := Lib.hid hzL2
          have HOL := Lib.hid hownL
          have HK4L := Lib.hid hk4L
          have HBL := Lib.hid hbL
          have hszL : w6.heap.size ≤ wL.heap.size := by omega
          clear TG hbF hbG hbI hbFI hzI hk3I hrJ hkJ hBJ hwJ hwL hrL hkL hBL hbL hzL2 hownL hk4L hfin okG hvG hlG y0' y1' p0' p1' hqb
          go_wp2
          rw [← HWJ.out, ← HWL.out]
          go_roundg gq
          case measure => omega
          case rel => exact ⟨k + 1, trimL zG, _, by omega, by go_num, HRL.out, HZL.out, HFIN.out.1, HFIN.out.2, HOL.out, HBL.out, HK4L.out, hszL⟩

end Go.Proofs.YtekpdmjobkikfaaDoor
