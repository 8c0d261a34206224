/- The walks of Div at any texts, and of the laws' own awake. -/
import Derived.Test.YtekpdmjobkikfaaDoorDiv
namespace Go.Proofs.YtekpdmjobkikfaaDoor
open Go.RowKit
set_option maxRecDepth 100000
attribute [local go_sem] str_size str_toList str_get

theorem capR_text {l : List UInt8} {z : Int} (h : goodS l = true) (hz : valS l = z) : capR z = (l, 0) := by
  rw [← hz, capR_ok (good_abs h), good_text h]

theorem div_any (a b : List UInt8) (w : World) (hT : TabW w) : Calls Tryd.prog 14 #[str a, str b] w fun e w' => e = .returned (.tuple #[str (divR a b).1, str (divR a b).2.1, .int .i64 (divR a b).2.2]) ∧ Below w.heap.size w w' := by
  by_cases hga : goodS a = true
  · by_cases hgb : goodS b = true
    · by_cases hb0 : b = [48]
      · have GA := good_is hga w
        have GB := fun W => good_is hgb W
        have HR : Hid (divR a b = ([], [], 10)) := by rw [Hid]; unfold divR; rw [if_pos ⟨hga, hgb⟩, if_pos hb0]
        have hbb : (b == [48]) = true := by simpa using hb0
        clear hga hgb hb0 hT
        go_enter Tryd.func14, Tryd.ntmps14
        go_wp2_with fail
        refine GA.mono ?_
        rintro e w1 ⟨rfl, hb1⟩
        go_wp2_with fail
        refine (GB _).mono ?_
        rintro e w2 ⟨rfl, hb2⟩
        go_wp2
        go_ret3
        exact ⟨by rw [HR.out]; rfl, hb1.trans (hb2.mono hb1.size)⟩
      · have hr : divR a b = (Lib.itoa ((valS a).tdiv (valS b)), Lib.itoa ((valS a).tmod (valS b)), 0) := by unfold divR; rw [if_pos ⟨hga, hgb⟩, if_neg hb0]
        rw [hr]
        exact div_good a b w hT hga hgb hb0
    · have hgb' : goodS b = false := by simpa using hgb
      have GA := good_is hga w
      have GB := fun W => good_is hgb' W
      have HR : Hid (divR a b = ([], [], 6)) := by rw [Hid]; unfold divR; rw [if_neg (fun h => hgb h.2)]
      clear hga hgb hgb' hT
      go_enter Tryd.func14, Tryd.ntmps14
      go_wp2_with fail
      refine GA.mono ?_
      rintro e w1 ⟨rfl, hb1⟩
      go_wp2_with fail
      refine (GB _).mono ?_
      rintro e w2 ⟨rfl, hb2⟩
      go_wp2
      go_ret3
      exact ⟨by rw [HR.out]; rfl, hb1.trans (hb2.mono hb1.size)⟩
  · have hga' : goodS a = false := by simpa using hga
    have GA := good_is hga' w
    have HR : Hid (divR a b = ([], [], 6)) := by rw [Hid]; unfold divR; rw [if_neg (fun h => hga h.1)]
    clear hga hga' hT
    go_enter Tryd.func14, Tryd.ntmps14
    go_wp2_with fail
    refine GA.mono ?_
    rintro e w1 ⟨rfl, hb1⟩
    go_wp2
    go_ret3
    exact ⟨by rw [HR.out]; rfl, hb1⟩

theorem awake_any (w : World) (hT : TabW w) : Calls Tryd.prog 10 #[] w fun e w' => e = .returned (.bool true) ∧ Below w.heap.size w w' := by
  have h1 : addR [57, 57] [49] = ([49, 48, 48], 0) := by
    unfold addR
    rw [if_pos (by decide)]
    exact capR_text (by decide) (by decide)
  have h2 : divR [45, 55] [50] = ([45, 51], [45, 49], 0) := by
    unfold divR
    rw [if_pos (by decide), if_neg (by decide), show (valS [45, 55]).tdiv (valS [50]) = valS [45, 51] by decide, show (valS [45, 55]).tmod (valS [50]) = valS [45, 49] by decide, good_text (by decide), good_text (by decide)]
  have h3 : addR [48, 49] [49] = ([], 6) := by
    unfold addR
    rw [if_neg (by decide)]
  have h4 : Lib.itoa (-5) = [45, 53] := by
    have := good_text (a := [45, 53]) (by decide)
    rw [← this]
    rfl
  have A1 := add_any [57, 57] [49] w hT
  rw [h1] at A1
  have D1 := fun W (h : TabW W) => div_any [45, 55] [50] W h
  rw [h2] at D1
  have A2 := fun W (h : TabW W) => add_any [48, 49] [49] W h
  rw [h3] at A2
  have O1 := fun W (h : TabW W) => of_any (-5) (by decide) (by decide) W h
  rw [h4] at O1
  have HT := Lib.hid hT
  clear h1 h2 h3 h4 hT
  go_enter Tryd.func10, Tryd.ntmps10
  go_wp2_with fail
  refine A1.mono ?_
  rintro e w1 ⟨rfl, hb1⟩
  go_wp2_with fail
  refine (D1 _ (HT.out.mono hb1)).mono ?_
  rintro e w2 ⟨rfl, hb2⟩
  have hb2' := hb1.trans (hb2.mono hb1.size)
  go_wp2_with fail
  refine (A2 _ (HT.out.mono hb2')).mono ?_
  rintro e w3 ⟨rfl, hb3⟩
  have hb3' := hb2'.trans (hb3.mono hb2'.size)
  go_wp2_with fail
  refine (O1 _ (HT.out.mono hb3')).mono ?_
  rintro e w4 ⟨rfl, hb4⟩
  go_wp2
  go_ret
  exact ⟨rfl, hb3'.trans (hb4.mono hb3'.size)⟩

end Go.Proofs.YtekpdmjobkikfaaDoor
