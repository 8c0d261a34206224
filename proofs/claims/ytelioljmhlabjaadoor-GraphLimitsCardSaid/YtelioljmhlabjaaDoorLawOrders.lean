/- Walk of the law GraphOrders: it answers true, whatever the graph. -/
import Derived.Test.YtelioljmhlabjaaDoorAwake
import Derived.Test.YtelioljmhlabjaaDoorG2
import Derived.Test.YtelioljmhlabjaaDoorG3
namespace Go.Proofs.YtelioljmhlabjaaDoor
open Go.RowKit
set_option maxRecDepth 100000

/-- What a law leaves: true; all memory stays. -/
def LawPost (w : World) (e : Ending) (w' : World) : Prop := e = .returned (.bool true) ∧ Below w.heap.size w w'

set_option maxHeartbeats 1600000 in
theorem graphOrders_any (v : Value) (es : List (Int × Int)) (n : Int) (w : World) (hT : Tab w) (h : PairsAt w v es) :
    Calls Tryd.prog 3 #[.int .i64 n, v] w (LawPost w) := by
  have hend : ∀ w', Below w.heap.size w w' → LawPost w (.returned (.bool true)) w' := fun _ h => ⟨rfl, h⟩
  have HE := Lib.hid hend
  clear hend
  by_cases hs : (decide (n ≤ 60) && decide (es.length ≤ 120)) = true
  · have hs2 := hs
    simp only [Bool.and_eq_true, decide_eq_true_eq] at hs2
    obtain ⟨hn60, hl120⟩ := hs2
    go_enter Tryd.func3, Tryd.ntmps3
    go_wp2_with fail
    refine (awake_any w hT).mono ?_
    rintro e w1 ⟨rfl, hb1⟩
    have hT1 := hT.mono hb1
    have h1 := h.mono hb1
    clear hT h
    go_wp2_with fail
    refine (small_any n v es w1 h1).mono ?_
    rintro e w2 ⟨rfl, rfl⟩
    rw [hs]
    go_wp2_with fail
    refine (own_any v es w1 h1 (by omega)).mono ?_
    rintro e w2 ⟨iv, rfl, hown, hb2⟩
    have hb12 : Below w.heap.size w w2 := hb1.trans (hb2.mono hb1.size)
    have hin : PairsAt w2 iv es := pairs_of_own hown (by omega)
    have hT2 := hT1.mono hb2
    have h2 := h1.mono hb2
    clear hb1 hb2 hT1 h1 hown
    go_wp2_with fail
    refine (Order_any iv es n w2 hT2 hin).mono ?_
    rintro e w3 ⟨lv, rfl, hli, hb3⟩
    have hb13 : Below w.heap.size w w3 := hb12.trans (hb3.mono hb12.size)
    have h3 := h2.mono hb3
    have hin3 := hin.mono hb3
    clear hb12 hb3 hT2 h2 hin
    have LK := rlook_any v (.slice none 0 0) es [] n w3 h3 (IntsAt.nil _)
    have SM := same_any iv v es es w3 hin3 h3
    rw [beq_self_eq_true] at SM
    by_cases h0 : lookE n es [] = 0
    · obtain ⟨hn0, hn1, _, hes, _⟩ := lookE_zero h0
      obtain ⟨m, rfl⟩ := Int.eq_ofNat_of_zero_le hn0
      have HR : Hid (orderR (m : Int) es = if ((kahn m es).length : Int) < (m : Int) then ([], 130) else ((kahn m es).map (fun i : Nat => (i : Int)), 0)) := by
        unfold orderR; rw [Hid, if_pos h0, Int.toNat_natCast]
      rw [h0] at LK
      have HES := Lib.hid hes
      have hkl := (kahn_ok m es).len
      clear h0 hes hin3 hs
      by_cases hlt : (kahn m es).length < m
      · have HO : orderR (m : Int) es = ([], 130) := by rw [HR.out, if_pos (by omega)]
        rw [HO] at hli ⊢
        obtain ⟨ao, cap, hv, _, _⟩ := hli.val
        simp only [List.length_nil] at hv
        subst hv
        clear HR HO hli
        go_wp2_with fail
        refine LK.mono ?_
        rintro e w4 ⟨rfl, rfl⟩
        go_wp2_with fail
        refine SM.mono ?_
        rintro e w4 ⟨rfl, hb4⟩
        have RO := rorder_any v es m w4 (h3.mono hb4) (by omega) HES.out
        have hb14 : Below w.heap.size w w4 := hb13.trans (hb4.mono hb13.size)
        clear LK SM hb13 hb4 h3
        go_wp2_with fail
        refine RO.mono ?_
        rintro e w5 ⟨v', rfl, hli5, hb5⟩
        have hb15 : Below w.heap.size w w5 := hb14.trans (hb5.mono hb14.size)
        obtain ⟨ao5, cap5, hv, _, _⟩ := hli5.val
        rw [List.length_map] at hv
        subst hv
        generalize (kahn m es).length = c at hlt hkl
        have HF := Lib.hid (HE.out _ hb15)
        clear hli5 hb14 hb5 hb15
        go_wp2_with fail
        go_ret
        exact HF.out
      · have HO : orderR (m : Int) es = ((kahn m es).map (fun i : Nat => (i : Int)), 0) := by rw [HR.out, if_neg (by omega)]
        rw [HO] at hli ⊢
        clear HR HO
        obtain ⟨ao, cap, hv, _, _⟩ := hli.val
        rw [List.length_map] at hv
        subst hv
        go_wp2_with fail
        refine LK.mono ?_
        rintro e w4 ⟨rfl, rfl⟩
        go_wp2_with fail
        refine SM.mono ?_
        rintro e w4 ⟨rfl, hb4⟩
        have RO := rorder_any v es m w4 (h3.mono hb4) (by omega) HES.out
        have hb14 : Below w.heap.size w w4 := hb13.trans (hb4.mono hb13.size)
        have hli4 := hli.mono hb4
        clear LK SM hb13 hb4 h3 hli
        go_wp2_with fail
        refine RO.mono ?_
        rintro e w5 ⟨v', rfl, hli5, hb5⟩
        have hb15 : Below w.heap.size w w5 := hb14.trans (hb5.mono hb14.size)
        have IN := ints_any _ _ _ _ w5 (hli4.mono hb5) hli5
        rw [beq_self_eq_true] at IN
        obtain ⟨ao5, cap5, hv, _, _⟩ := hli5.val
        rw [List.length_map] at hv
        subst hv
        generalize (kahn m es).length = c at hlt hkl IN
        clear hli5 hb14 hb5 hli4
        go_wp2_with fail
        refine IN.mono ?_
        rintro e w6 ⟨rfl, hb6⟩
        have HF := Lib.hid (HE.out _ (hb15.trans (hb6.mono hb15.size)))
        clear hb15 hb6
        go_wp2_with fail
        go_ret
        exact HF.out
    · have HO : orderR n es = ([], lookE n es []) := by unfold orderR; rw [if_neg h0]
      rw [HO] at hli ⊢
      obtain ⟨ao, cap, hv, _, _⟩ := hli.val
      simp only [List.length_nil] at hv
      subst hv
      have hne : (lookE n es [] != 0) = true := by simpa using h0
      have HF := Lib.hid (HE.out _ hb13)
      clear HO hli h3 hin3 h0 SM hb13
      generalize lookE n es [] = c at LK hne
      go_wp2_with fail
      refine LK.mono ?_
      rintro e w4 ⟨rfl, rfl⟩
      go_wp2_with fail
      go_ret
      exact HF.out
  · have hs2 : (decide (n ≤ 60) && decide (es.length ≤ 120)) = false := by simpa using hs
    go_enter Tryd.func3, Tryd.ntmps3
    go_wp2_with fail
    refine (awake_any w hT).mono ?_
    rintro e w1 ⟨rfl, hb1⟩
    have hT1 := hT.mono hb1
    have h1 := h.mono hb1
    clear hT h hs
    go_wp2_with fail
    refine (small_any n v es w1 h1).mono ?_
    rintro e w2 ⟨rfl, rfl⟩
    rw [hs2]
    go_wp2_with fail
    refine (awake_any w1 hT1).mono ?_
    rintro e w2 ⟨rfl, hb2⟩
    have HF := Lib.hid (HE.out _ (hb1.trans (hb2.mono hb1.size)))
    clear hb1 hb2 hT1 h1
    go_wp2_with fail
    go_ret
    exact HF.out

end Go.Proofs.YtelioljmhlabjaaDoor
