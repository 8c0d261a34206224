/- Walks of starts, Choices, Over, Choose, Start. -/
import Derived.Test.YtelioljmhlabjaaDoorWk1
import Derived.Deep.Cut
import Derived.Deep.RegionWith
namespace Go.Proofs.YtelioljmhlabjaaDoor
open Go.RowKit
set_option maxRecDepth 100000

set_option maxHeartbeats 1600000 in
theorem starts_any (b S A N n : Nat) (ev : Value) (rows : List Value) (es : List (Int × Int)) (lim : Int) (st : List Int) (w : World) (h : WkM w b S A N n ev rows es lim st (cnts n (aheadN es st))) :
    Calls Tryd.prog 59 #[.pointer (some ⟨b, 0, none⟩)] w (IntsPost (startsL n es lim st) w) := by
  have hd : WkM w.drew b S A N n ev rows es lim st (cnts n (aheadN es st)) := h.below ((Below.refl _ w).drew)
  have RU := running_any b S A N n ev rows es lim st w.drew hd
  have RE := fun w' hb => ready_any b S A N n ev rows es lim st w' (hd.below hb)
  have c4 := hd.c4
  have hlen := withL_len n es st 1
  have hHd := Lib.hid hd
  by_cases hl : lim ≤ (withL n es st 1).length
  · have hs : startsL n es lim st = [] := by unfold startsL; rw [if_pos hl]
    rw [hs]
    clear h hd hs RE
    generalize (withL n es st 1) = l at RU hl hlen
    go_enter Tryd.func59, Tryd.ntmps59
    go_upto_region 1 with fail
    go_cut [10] from 3 (fun s10 wx => s10 = .bool true ∧ Below w.heap.size w wx)
    case first =>
      go_region_with (go_at_call 58; refine RU.mono ?_; rintro e w1 ⟨v, rfl, hv, hb⟩; obtain ⟨ao, cap, hv1, hv2, hv3⟩ := hv.val; rw [ints_len] at hv1 hv2 hv3; subst hv1; have c4' := (hHd.out.below hb).c4)
      all_goals (try go_wp2_with fail)
      all_goals go_meet
      all_goals exact ⟨rfl, ((Below.refl _ w).drew).trans hb⟩
    case rest =>
      obtain ⟨rfl, hb⟩ := hcut
      go_wp2
      go_ret
      exact ⟨_, rfl, IntsAt.nil _, hb⟩
  · have hs : startsL n es lim st = withL n es st 0 := by unfold startsL; rw [if_neg hl]
    rw [hs]
    have hdr : ∀ wc, Below w.heap.size w wc → Below w.drew.heap.size w.drew wc := fun wc hb => ⟨hb.os, hb.tape, hb.output, hb.size, hb.block⟩
    clear h hd hs
    generalize (withL n es st 1) = l at RU hl hlen
    go_enter Tryd.func59, Tryd.ntmps59
    go_upto_region 1 with fail
    go_cut [10] from 3 (fun s10 wx => s10 = .bool false ∧ Below w.heap.size w wx)
    case first =>
      go_region_with (go_at_call 58; refine RU.mono ?_; rintro e w1 ⟨v, rfl, hv, hb⟩; obtain ⟨ao, cap, hv1, hv2, hv3⟩ := hv.val; rw [ints_len] at hv1 hv2 hv3; subst hv1; have c4' := (hHd.out.below hb).c4)
      all_goals (try go_wp2_with fail)
      all_goals go_meet
      all_goals exact ⟨by rw [decide_eq_false (by omega)], ((Below.refl _ w).drew).trans hb⟩
    case rest =>
      obtain ⟨rfl, hb⟩ := hcut
      have RE1 := RE wc (hdr wc hb)
      clear RE RU c4
      go_wp2_with fail
      refine RE1.mono ?_
      rintro e w1 ⟨v, rfl, hv, hb1⟩
      go_wp2_with fail
      go_ret
      exact ⟨_, rfl, hv, hb.trans (hb1.mono hb.size)⟩

theorem choices_any (b S A N n : Nat) (ev : Value) (rows : List Value) (es : List (Int × Int)) (lim : Int) (st : List Int) (w : World) (h : WkM w b S A N n ev rows es lim st (cnts n (aheadN es st))) :
    Calls Tryd.prog 33 #[.pointer (some ⟨b, 0, none⟩)] w fun e w' => e = .returned (.int .i64 (choicesL n es lim st).length) ∧ Below w.heap.size w w' := by
  have SA := starts_any b S A N n ev rows es lim st w h
  have RU := fun w' hb => running_any b S A N n ev rows es lim st w' (h.below hb)
  have l1 := startsL_len n es lim st
  have l2 := withL_len n es st 1
  have hn := h.hn
  have hc : Hid ((choicesL n es lim st).length = (startsL n es lim st).length + (withL n es st 1).length) := by
    unfold choicesL
    rw [Hid, List.length_append]
  clear h
  generalize (choicesL n es lim st).length = c at hc
  generalize startsL n es lim st = xs at SA l1 hc
  generalize withL n es st 1 = ys at RU l2 hc
  go_enter Tryd.func33, Tryd.ntmps33
  go_wp2_with fail
  refine SA.mono ?_
  rintro e w1 ⟨v1, rfl, hv1, hb1⟩
  obtain ⟨ao1, cap1, he1, _, _⟩ := hv1.val
  rw [ints_len] at he1
  subst he1
  have RU1 := RU w1 hb1
  clear SA RU hv1
  go_wp2_with fail
  refine RU1.mono ?_
  rintro e w2 ⟨v2, rfl, hv2, hb2⟩
  obtain ⟨ao2, cap2, he2, _, _⟩ := hv2.val
  rw [ints_len] at he2
  subst he2
  have hB := hb1.trans (hb2.mono hb1.size)
  clear RU1 hv2 hb1 hb2
  go_wp2_with fail
  go_ret
  exact ⟨by rw [hc.out]; simp, hB⟩

theorem over_any (b S A N n : Nat) (ev : Value) (rows : List Value) (es : List (Int × Int)) (lim : Int) (st : List Int) (w : World) (h : WkM w b S A N n ev rows es lim st (cnts n (aheadN es st))) :
    Calls Tryd.prog 56 #[.pointer (some ⟨b, 0, none⟩)] w fun e w' => e = .returned (.bool ((withL n es st 0).length + (withL n es st 1).length == 0)) ∧ Below w.heap.size w w' := by
  have SA := ready_any b S A N n ev rows es lim st w h
  have RU := fun w' hb => running_any b S A N n ev rows es lim st w' (h.below hb)
  have l1 := withL_len n es st 0
  have l2 := withL_len n es st 1
  have hn := h.hn
  clear h
  generalize withL n es st 0 = xs at SA l1
  generalize withL n es st 1 = ys at RU l2
  go_enter Tryd.func56, Tryd.ntmps56
  go_wp2_with fail
  refine SA.mono ?_
  rintro e w1 ⟨v1, rfl, hv1, hb1⟩
  obtain ⟨ao1, cap1, he1, _, _⟩ := hv1.val
  rw [ints_len] at he1
  subst he1
  have RU1 := RU w1 hb1
  clear SA RU hv1
  go_wp2_with fail
  refine RU1.mono ?_
  rintro e w2 ⟨v2, rfl, hv2, hb2⟩
  obtain ⟨ao2, cap2, he2, _, _⟩ := hv2.val
  rw [ints_len] at he2
  subst he2
  have hB := hb1.trans (hb2.mono hb1.size)
  clear RU1 hv2 hb1 hb2
  go_wp2_with fail
  go_ret
  exact ⟨ret_bool (by rw [Bool.eq_iff_iff, beq_iff_eq, beq_iff_eq]; omega), hB⟩

/-- The index that is picked. -/
theorem pick_idx (p len : Nat) (h : 0 < len) (hl : len ≤ 4096) : wrap64 ((p : Int).tmod (len : Int)) = ((p % len : Nat) : Int) := by
  have e : ((p : Int)).tmod (len : Int) = ((p % len : Nat) : Int) := by rw [Int.tmod_eq_emod_of_nonneg (by omega)]; simp
  have := Nat.mod_lt p h
  rw [e]
  unfold wrap64
  omega

set_option maxHeartbeats 1600000 in
theorem choose_any (b S A N n : Nat) (ev : Value) (rows : List Value) (es : List (Int × Int)) (lim : Int) (st : List Int) (pick : Int) (p : Nat) (w : World) (h : WkM w b S A N n ev rows es lim st (cnts n (aheadN es st))) (hp : IntKind.u64.wrap pick = (p : Int)) :
    Calls Tryd.prog 39 #[.pointer (some ⟨b, 0, none⟩), .int .i64 pick] w fun e w' => e = .returned (.tuple #[.int .i64 (chooseR n es lim st p).1, .bool (chooseR n es lim st p).2]) ∧ Below w.heap.size w w' := by
  have CH := choices_any b S A N n ev rows es lim st w h
  have SA := fun w' hb => starts_any b S A N n ev rows es lim st w' (h.below hb)
  have RU := fun w' hb => running_any b S A N n ev rows es lim st w' (h.below hb)
  have l1 := startsL_len n es lim st
  have l2 := withL_len n es st 1
  have hn := h.hn
  have hcl : (choicesL n es lim st).length = (startsL n es lim st).length + (withL n es st 1).length := by
    unfold choicesL
    rw [List.length_append]
  by_cases h0 : (choicesL n es lim st).length = 0
  · have hr : chooseR n es lim st p = (-1, false) := by unfold chooseR; rw [if_pos h0]
    rw [hr]
    rw [h0] at CH
    clear h hr h0 hcl hp SA RU
    go_enter Tryd.func39, Tryd.ntmps39
    go_wp2_with fail
    refine CH.mono ?_
    rintro e w1 ⟨rfl, hb1⟩
    go_wp2_with fail
    go_ret2
    exact ⟨rfl, hb1⟩
  · have hr : Hid (chooseR n es lim st p = ((((choicesL n es lim st).getD (p % (choicesL n es lim st).length) 0 : Nat) : Int), decide (p % (choicesL n es lim st).length < (startsL n es lim st).length))) := by
      unfold chooseR
      rw [Hid, if_neg h0]
    have hpi := pick_idx p (choicesL n es lim st).length (by omega) (by omega)
    have hlt := Nat.mod_lt p (show 0 < (choicesL n es lim st).length by omega)
    have hget : Hid ((choicesL n es lim st).getD (p % (choicesL n es lim st).length) 0 = if p % (choicesL n es lim st).length < (startsL n es lim st).length then (startsL n es lim st).getD (p % (choicesL n es lim st).length) 0 else (withL n es st 1).getD (p % (choicesL n es lim st).length - (startsL n es lim st).length) 0) := by
      unfold choicesL
      simp only [List.getD, List.getElem?_append]
      rw [Hid]
      split <;> rfl
    generalize p % (choicesL n es lim st).length = k at hr hpi hlt hget
    generalize (choicesL n es lim st).getD k 0 = y at hr hget
    generalize (choicesL n es lim st).length = c at CH hcl h0 hpi hlt
    generalize startsL n es lim st = xs at SA l1 hcl hr hget
    generalize withL n es st 1 = ys at RU l2 hcl hget
    generalize chooseR n es lim st p = r at hr ⊢
    clear h
    have HP := Lib.hid hp
    have HPI := Lib.hid hpi
    have HCL := Lib.hid hcl
    have hc4 : c ≤ 1024 := by omega
    clear hp hpi hcl
    have hc0 : ((c : Int) == 0) = false := by simp; exact h0
    have hcn : ¬ (c : Int) = 0 := by omega
    go_enter Tryd.func39, Tryd.ntmps39
    go_wp2_with fail
    refine CH.mono ?_
    rintro e w1 ⟨rfl, hb1⟩
    have SA1 := SA w1 hb1
    clear CH SA
    go_wp2_with fail
    rw [HP.out, HPI.out]
    refine SA1.mono ?_
    rintro e w2 ⟨v2, rfl, hv2, hb2⟩
    obtain ⟨ao2, cap2, he2, _, _⟩ := hv2.val
    rw [ints_len] at he2
    subst he2
    have hB := hb1.trans (hb2.mono hb1.size)
    have RU2 := RU w2 hB
    clear SA1 RU hb1 hb2
    by_cases hk : k < xs.length
    · have hg := hget.out
      rw [if_pos hk] at hg
      obtain ⟨b2, off2, rfl, hb2l, hc2⟩ := hv2.get (i := k) (by rw [ints_len]; exact hk)
      rw [ints_take, ← hg] at hc2
      have hr2 : Hid (r = ((y : Int), true)) := by rw [Hid, hr.out, decide_eq_true hk]
      have hki : (k : Int) < (xs.length : Int) := by omega
      clear hv2 hg hget hr hk RU2
      go_wp2_with fail
      go_ret2
      exact ⟨by rw [hr2.out]; rfl, hB⟩
    · have hg := hget.out
      rw [if_neg hk] at hg
      have hr2 : Hid (r = ((y : Int), false)) := by rw [Hid, hr.out, decide_eq_false hk]
      have hki : ¬ (k : Int) < (xs.length : Int) := by omega
      have hke : ∃ q, k = xs.length + q ∧ q < ys.length := ⟨k - xs.length, by omega, by have := HCL.out; omega⟩
      obtain ⟨q, hkq, hq⟩ := hke
      have hsub : (k : Int) - (xs.length : Int) = (q : Int) := by omega
      have hqq : k - xs.length = q := by omega
      rw [hqq] at hg
      have HG := Lib.hid hg
      clear hv2 hg hget hr hk hqq
      go_wp2_with fail
      refine RU2.mono ?_
      rintro e w3 ⟨v3, rfl, hv3, hb3⟩
      obtain ⟨ao3, cap3, he3, _, _⟩ := hv3.val
      rw [ints_len] at he3
      subst he3
      obtain ⟨b3, off3, rfl, hb3l, hc3⟩ := hv3.get (i := q) (by rw [ints_len]; exact hq)
      rw [ints_take, ← HG.out] at hc3
      have hB3 := hB.trans (hb3.mono hB.size)
      clear hv3 hb3 hB RU2 HG
      go_wp2_with fail
      go_ret2
      exact ⟨by rw [hr2.out]; rfl, hB3⟩

end Go.Proofs.YtelioljmhlabjaaDoor
