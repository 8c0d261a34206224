/- Walks of Start and Finish. -/
import Derived.Test.YtelioljmhlabjaaDoorWk2
namespace Go.Proofs.YtelioljmhlabjaaDoor
open Go.RowKit
set_option maxRecDepth 100000

theorem ahead_same {es : List (Int × Int)} {st : List Int} {i : Nat} {x : Int} (hi : i < st.length) (h : st.getD i 0 ≠ 2) (hx : x ≠ 2) (k : Nat) : aheadN es (st.set i x) k = aheadN es st k := by
  unfold aheadN
  congr 1
  apply List.filter_congr
  intro e _
  congr 2
  rw [getD_set hi]
  by_cases he : e.1.toNat = i
  · rw [if_pos he, he, Bool.eq_iff_iff, beq_iff_eq, beq_iff_eq]
    exact ⟨fun e => absurd e hx, fun e => absurd e h⟩
  · rw [if_neg he]

/-- All but the statuses and the counts is as it was. -/
structure ChSA (S A : Nat) (w w' : World) : Prop where
  os : w'.os = w.os
  tape : w'.tape = w.tape
  output : w'.output = w.output
  size : w.heap.size ≤ w'.heap.size
  block : ∀ k, k < w.heap.size → k ≠ S → k ≠ A → w'.heap[k]? = w.heap[k]?
theorem ChSA.refl (S A : Nat) (w : World) : ChSA S A w w := ⟨rfl, rfl, rfl, Nat.le_refl _, fun _ _ _ _ => rfl⟩
theorem ChSA.below {S A : Nat} {w w1 w2 : World} (h : ChSA S A w w1) (k : Below w1.heap.size w1 w2) : ChSA S A w w2 :=
  ⟨k.os.trans h.os, k.tape.trans h.tape, k.output.trans h.output, Nat.le_trans h.size k.size, fun i hi h1 h2 => (k.block i (Nat.lt_of_lt_of_le hi h.size)).trans (h.block i hi h1 h2)⟩
theorem ChSA.trans {S A : Nat} {w w1 w2 : World} (h : ChSA S A w w1) (k : ChSA S A w1 w2) : ChSA S A w w2 :=
  ⟨k.os.trans h.os, k.tape.trans h.tape, k.output.trans h.output, Nat.le_trans h.size k.size, fun i hi h1 h2 => (k.block i (Nat.lt_of_lt_of_le hi h.size) h1 h2).trans (h.block i hi h1 h2)⟩
theorem ChSA.setS {S A : Nat} {w w1 : World} (h : ChSA S A w w1) (i : Nat) (x : Value) : ChSA S A w (w1.setCell ⟨S, i, none⟩ x) :=
  ⟨h.os, h.tape, h.output, by simpa [World.setCell] using h.size, fun k hk h1 h2 => (Below.heap_setCell _ _ _ _ h1).trans (h.block k hk h1 h2)⟩
theorem ChSA.setA {S A : Nat} {w w1 : World} (h : ChSA S A w w1) (i : Nat) (x : Value) : ChSA S A w (w1.setCell ⟨A, i, none⟩ x) :=
  ⟨h.os, h.tape, h.output, by simpa [World.setCell] using h.size, fun k hk h1 h2 => (Below.heap_setCell _ _ _ _ h2).trans (h.block k hk h1 h2)⟩
theorem below_ch {B S A : Nat} {w0 w w' : World} (h : Below B w0 w) (k : ChSA S A w w') (hs : B ≤ w.heap.size) (h1 : B ≤ S) (h2 : B ≤ A) : Below B w0 w' :=
  h.trans ⟨k.os, k.tape, k.output, k.size, fun i hi => k.block i (by omega) (by omega) (by omega)⟩

theorem tab_ch {S A : Nat} {w w' : World} (h : Tab w) (k : ChSA S A w w') (h1 : 0 < S) (h2 : 0 < A) : Tab w' :=
  ⟨Nat.lt_of_lt_of_le h.1 k.size, fun j hj => (World.cell?_of_block (w := w) (a := ⟨0, j, none⟩) (k.block 0 h.1 (by omega) (by omega))).trans (h.2 j hj)⟩

/-- What a call leaves of a walk. -/
def WkPost (b S A N n : Nat) (ev : Value) (rows : List Value) (es : List (Int × Int)) (lim : Int) (r : List Int × Int) (w : World) (e : Ending) (w' : World) : Prop :=
  e = .returned (.int .i64 r.2) ∧ WkM w' b S A N n ev rows es lim r.1 (cnts n (aheadN es r.1)) ∧ ChSA S A w w'

set_option maxHeartbeats 1600000 in
theorem start_any (b S A N n : Nat) (ev : Value) (rows : List Value) (es : List (Int × Int)) (lim : Int) (st : List Int) (i : Int) (w : World) (h : WkM w b S A N n ev rows es lim st (cnts n (aheadN es st))) :
    Calls Tryd.prog 32 #[.pointer (some ⟨b, 0, none⟩), .int .i64 i] w (WkPost b S A N n ev rows es lim (startR n es lim st i) w) := by
  have ST := status_any b S A N n ev rows es lim st _ i w h
  by_cases h0 : statusR n st i = 0
  · obtain ⟨k, rfl, hk, hs⟩ := statusR_in h0 (by decide)
    rw [h0] at ST
    have c1 := h.c1
    have ca := h.sah.cell (i := k) (by rw [cnts_len]; exact hk)
    rw [cnts_get n _ k hk] at ca
    have hkn : (k : Int) < (n : Int) := by omega
    by_cases ha : aheadN es st k = 0
    · have ta : decide ((0 : Int) < (aheadN es st k : Int)) = false := by simp [ha]
      by_cases hl : lim ≤ (withL n es st 1).length
      · have hr : startR n es lim st k = (st, 3) := by unfold startR; rw [if_neg (by rw [h0, Int.toNat_natCast, ha]; simp), if_pos hl]
        rw [hr]
        have hd : WkM w.drew b S A N n ev rows es lim st (cnts n (aheadN es st)) := h.below ((Below.refl _ w).drew)
        have HM := Lib.hid h
        have HMd := Lib.hid hd
        have RU := running_any b S A N n ev rows es lim st w.drew hd
        have hlen := withL_len n es st 1
        have hn := h.hn
        have c4 := hd.c4
        have hend : ∀ w', Below w.heap.size w w' → WkPost b S A N n ev rows es lim (st, 3) w (.returned (.int .i64 3)) w' := fun w' hb => ⟨rfl, HM.out.below hb, (ChSA.refl S A w).below hb⟩
        have HE := Lib.hid hend
        clear hend
        generalize (withL n es st 1) = l at RU hl hlen
        generalize aheadN es st k = a at ca ta
        have ha0 : ¬ (0 : Int) < (a : Int) := by simpa using ta
        clear h ha hr h0 hs hd
        go_enter Tryd.func32, Tryd.ntmps32
        go_wp2_with fail
        refine ST.mono ?_
        rintro e w' ⟨rfl, rfl⟩
        clear ST
        go_upto_region 3 with fail
        go_cut [26] from 17 (fun s26 wx => s26 = .bool true ∧ Below w.heap.size w wx)
        case first =>
          go_region_with (go_at_call 58; refine RU.mono ?_; rintro e w1 ⟨v, rfl, hv, hb⟩; obtain ⟨ao, cap, hv1, hv2, hv3⟩ := hv.val; rw [ints_len] at hv1 hv2 hv3; subst hv1; have c4' := (HMd.out.below hb).c4)
          all_goals (try go_wp2_with fail)
          all_goals go_meet
          all_goals refine ⟨?_, ((Below.refl _ w).drew).trans hb⟩
          all_goals (first | rfl | (go_simp; done) | (go_simp; rw [decide_eq_true (by omega)]))
        case rest =>
          obtain ⟨rfl, hb⟩ := hcut
          go_wp2
          go_ret
          exact HE.out _ hb
      · have hr : startR n es lim st k = (st.set k 1, 0) := by unfold startR; rw [if_neg (by rw [h0, Int.toNat_natCast, ha]; simp), if_neg hl, Int.toNat_natCast]
        rw [hr]
        have hd : WkM w.drew b S A N n ev rows es lim st (cnts n (aheadN es st)) := h.below ((Below.refl _ w).drew)
        have HMd := Lib.hid hd
        have RU := running_any b S A N n ev rows es lim st w.drew hd
        have hlen := withL_len n es st 1
        have hn := h.hn
        have c4 := hd.c4
        have hcx : ∀ w', Below w.heap.size w w' → WkM w' b S A N n ev rows es lim st (cnts n (aheadN es st)) := fun w' hb => h.below hb
        have HX := Lib.hid hcx
        have hca : cnts n (aheadN es st) = cnts n (aheadN es (st.set k 1)) := cnts_congr n _ _ fun j _ => (ahead_same (by rw [h.lst]; exact hk) (by rw [hs]; decide) (by decide) j).symm
        have hend : ∀ w', Below w.heap.size w w' → WkPost b S A N n ev rows es lim (st.set k 1, 0) w (.returned (.int .i64 0)) (w'.setCell ⟨S, k, none⟩ (.int .i64 1)) := fun w' hb => ⟨rfl, ((HX.out w' hb).setS k 1).congrA hca, ((ChSA.refl S A w).below hb).setS k _⟩
        have HE := Lib.hid hend
        have HCS : Hid (∀ w', Below w.heap.size w w' → w'.cell? ⟨b, 0, none⟩ = some (.slice (some ⟨S, 0, none⟩) n n) ∧ w'.cell? ⟨S, k, none⟩ = some (.int .i64 (st.getD k 0)) ∧ w'.frozen? ⟨S, k, none⟩ = false) := fun w' hb => ⟨(HX.out w' hb).c0, (HX.out w' hb).sst.cell (by rw [(HX.out w' hb).lst]; exact hk), (HX.out w' hb).sst.free k⟩
        clear hend hcx hca
        generalize (withL n es st 1) = l at RU hl hlen
        generalize aheadN es st k = a at ca ta
        have ha0 : ¬ (0 : Int) < (a : Int) := by simpa using ta
        clear h ha hr h0 hs hd
        go_enter Tryd.func32, Tryd.ntmps32
        go_wp2_with fail
        refine ST.mono ?_
        rintro e w' ⟨rfl, rfl⟩
        clear ST
        go_upto_region 3 with fail
        go_cut [26] from 17 (fun s26 wx => s26 = .bool false ∧ Below w.heap.size w wx)
        case first =>
          go_region_with (go_at_call 58; refine RU.mono ?_; rintro e w1 ⟨v, rfl, hv, hb⟩; obtain ⟨ao, cap, hv1, hv2, hv3⟩ := hv.val; rw [ints_len] at hv1 hv2 hv3; subst hv1; have c4' := (HMd.out.below hb).c4)
          all_goals (try go_wp2_with fail)
          all_goals go_meet
          all_goals refine ⟨?_, ((Below.refl _ w).drew).trans hb⟩
          all_goals (first | rfl | (go_simp; done) | (go_simp; rw [decide_eq_false (by omega)]))
        case rest =>
          obtain ⟨rfl, hb⟩ := hcut
          obtain ⟨d0, d1, d2⟩ := HCS.out wc hb
          have HF := Lib.hid (HE.out wc hb)
          clear HE HCS HX hb c1 ca c4
          go_wp2
          go_ret
          exact HF.out
    · have hr : startR n es lim st k = (st, 4) := by unfold startR; rw [if_pos (Or.inr (by rw [Int.toNat_natCast]; omega))]
      rw [hr]
      have HM := Lib.hid h
      generalize aheadN es st k = a at ca ha
      have ha0 : (0 : Int) < (a : Int) := by omega
      clear h hr h0 hs ha
      go_enter Tryd.func32, Tryd.ntmps32
      go_wp2_with fail
      refine ST.mono ?_
      rintro e w' ⟨rfl, rfl⟩
      clear ST
      go_wp2_with fail
      go_ret
      exact ⟨rfl, HM.out, ChSA.refl _ _ _⟩
  · have hr : startR n es lim st i = (st, 4) := by unfold startR; rw [if_pos (Or.inl h0)]
    rw [hr]
    have HM := Lib.hid h
    have hne : (statusR n st i != 0) = true := by simpa using h0
    generalize statusR n st i = x at ST hne
    clear h hr h0
    go_enter Tryd.func32, Tryd.ntmps32
    go_wp2_with fail
    refine ST.mono ?_
    rintro e w' ⟨rfl, rfl⟩
    clear ST
    go_wp2_with fail
    go_ret
    exact ⟨rfl, HM.out, ChSA.refl _ _ _⟩

end Go.Proofs.YtelioljmhlabjaaDoor
