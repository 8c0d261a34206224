/- Walk of the program's Order, of own, and the two examples: awake. -/
import Derived.Test.YtelioljmhlabjaaDoorOrd
import Derived.Test.YtelioljmhlabjaaDoorG1
import Derived.Test.YtelioljmhlabjaaDoorG4
namespace Go.Proofs.YtelioljmhlabjaaDoor
open Go.RowKit

def OrderPost (n : Int) (es : List (Int × Int)) (w : World) (e : Ending) (w' : World) : Prop :=
  ∃ v', e = .returned (.tuple #[v', .int .i64 (orderR n es).2]) ∧ IntsAt w' v' (orderR n es).1 ∧ Below w.heap.size w w'

set_option maxRecDepth 100000 in
set_option maxHeartbeats 800000 in
theorem Order_any (v : Value) (es : List (Int × Int)) (n : Int) (w : World) (hT : Tab w) (h : PairsAt w v es) :
    Calls Tryd.prog 18 #[.int .i64 n, v] w (OrderPost n es w) := by
  have LK := look_any v (.slice none 0 0) es [] n w h (IntsAt.nil w)
  by_cases h0 : lookE n es [] = 0
  · obtain ⟨hn0, hn1, _, hes, _⟩ := lookE_zero h0
    obtain ⟨m, rfl⟩ := Int.eq_ofNat_of_zero_le hn0
    rw [h0] at LK
    have HR : Hid (orderR (m : Int) es = if ((kahn m es).length : Int) < (m : Int) then ([], 130) else ((kahn m es).map (fun i : Nat => (i : Int)), 0)) := by
      unfold orderR; rw [Hid, if_pos h0, Int.toNat_natCast]
    clear h0
    have HES := Lib.hid hes
    clear hes
    go_enter Tryd.func18, Tryd.ntmps18
    go_wp2_with fail
    refine LK.mono ?_
    rintro e w1 ⟨rfl, hb1⟩
    have OR := order_any v es m w1 (hT.mono hb1) (h.mono hb1) (by omega) HES.out
    clear LK hT h
    go_wp2_with fail
    refine OR.mono ?_
    rintro e w2 ⟨lv, rfl, hli, hb2, _⟩
    have hb3 : Below w.heap.size w w2 := hb1.trans (hb2.mono hb1.size)
    have hkl := (kahn_ok m es).len
    obtain ⟨ao, cap, hv, _, _⟩ := hli.val
    rw [List.length_map] at hv
    subst hv
    clear hb1 hb2 OR
    by_cases hlt : (kahn m es).length < m
    · have HE : Hid (orderR (m : Int) es = ([], 130)) := by rw [Hid, HR.out, if_pos (by omega)]
      generalize (kahn m es).length = c at hlt hkl
      clear HR hli
      go_wp2
      go_ret2
      exact ⟨_, by rw [HE.out]; rfl, by rw [HE.out]; exact IntsAt.nil _, hb3⟩
    · have HE : Hid (orderR (m : Int) es = ((kahn m es).map (fun i : Nat => (i : Int)), 0)) := by rw [Hid, HR.out, if_neg (by omega)]
      have HLI := Lib.hid hli
      generalize (kahn m es).length = c at hlt hkl HLI
      clear HR hli
      go_wp2
      go_ret2
      exact ⟨_, by rw [HE.out]; rfl, by rw [HE.out]; exact HLI.out, hb3⟩
  · have HE : Hid (orderR n es = ([], lookE n es [])) := by unfold orderR; rw [Hid, if_neg h0]
    have hne : (lookE n es [] != 0) = true := by simpa using h0
    generalize lookE n es [] = c at LK HE hne
    clear h0 hT h
    go_enter Tryd.func18, Tryd.ntmps18
    go_wp2_with fail
    refine LK.mono ?_
    rintro e w1 ⟨rfl, hb1⟩
    go_wp2_with fail
    go_ret2
    exact ⟨_, by rw [HE.out]; rfl, by rw [HE.out]; exact IntsAt.nil _, hb1⟩

end Go.Proofs.YtelioljmhlabjaaDoor
