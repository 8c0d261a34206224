/- The regions of tells that draw their order: what is told of a walk is held against what the reference tells. Printed by rg41.py. -/
import Derived.Test.YtelioljmhlabjaaDoorFree2
import Derived.Test.YtelioljmhlabjaaDoorWk2
import Derived.Test.YtelioljmhlabjaaDoorRw3
import Derived.Test.YtelioljmhlabjaaDoorG1
namespace Go.Proofs.YtelioljmhlabjaaDoor
open Go.RowKit
set_option maxRecDepth 100000

noncomputable def ops41x4 : List Oper := opsOf Tryd.f41 4
def dst41x4 : List Nat := [15, 16, 17, 18, 19, 20, 21]
set_option maxHeartbeats 4000000 in
theorem region41x4 (a : Act) (w : World) (Q : Exit → Act → World → Prop) (b S A N n : Nat) (ev : Value) (rows : List Value) (es : List (Int × Int)) (lim : Int) (st : List Int) (q : Nat) (ae : Option Addr) (ce : Nat) (sa : Option Addr) (cs : Nat) (i : Int)
    (e0 : a.eval (.tmp 0) = .pointer (some ⟨b, 0, none⟩)) (e3 : a.eval (.tmp 3) = .pointer (some ⟨q, 0, none⟩)) (e5 : a.eval (.tmp 5) = .int .i64 i) (hsz : a.tmps.size = 59)
    (c0 : w.drew.cell? ⟨q, 0, none⟩ = some (.slice ae es.length ce)) (c1 : w.drew.cell? ⟨q, 1, none⟩ = some (.int .i64 lim)) (c2 : w.drew.cell? ⟨q, 2, none⟩ = some (.slice sa n cs))
    (hW : WkM w.drew b S A N n ev rows es lim st (cnts n (aheadN es st))) (hR : RwM w.drew (.agg #[.slice ae es.length ce, .int .i64 lim, .slice sa n cs]) n es lim st) (hn : n ≤ 512)
    (hQ : ∀ (w' : World), Below w.drew.heap.size w.drew w' → Q .normal (((((((a.put (some 15) (.pointer (some ⟨b, 0, none⟩))).put (some 16) (.int .i64 i)).put (some 17) (.int .i64 (statusR n st i))).put (some 18) (.agg #[.slice ae es.length ce, .int .i64 lim, .slice sa n cs])).put (some 19) (.int .i64 i)).put (some 20) (.int .i64 (statusR n st i))).put (some 21) (.bool false)) w') :
    (Code.region 4 ops41x4.toArray true).wp Tryd.prog Q a w := by
  have lq : q < w.drew.heap.size := World.block_lt_of_cell? _ _ c0
  refine wp_region_told_s dst41x4 (toldD [.inl (.pointer (some ⟨b, 0, none⟩)), .inl (.int .i64 i), .inl (.int .i64 (statusR n st i)), .inl (.agg #[.slice ae es.length ce, .int .i64 lim, .slice sa n cs]), .inl (.int .i64 i), .inl (.int .i64 (statusR n st i)), .inl (.bool false)]) [] (by kernel_rfl) (by kernel_rfl) (by kernel_rfl) (by kernel_rfl) ?_ (by decide) (fun d hd => ?_) (toldD_mono _) ?_ ?_
  · intro p hp; cases hp
  · rw [hsz]
    have : ∀ d ∈ dst41x4, d < 59 := by decide
    exact this d hd
  · intro w1 hb i o ho a' he hdep K hK
    have hi : i < 7 := (List.getElem?_eq_some_iff.1 ho).1
    have d0 := (hb.cell (p := ⟨q, 0, none⟩) lq).trans c0
    have d1 := (hb.cell (p := ⟨q, 1, none⟩) lq).trans c1
    have d2 := (hb.cell (p := ⟨q, 2, none⟩) lq).trans c2
    clear c0 c1 c2 hQ
    rcases (show i = 0 ∨ i = 1 ∨ i = 2 ∨ i = 3 ∨ i = 4 ∨ i = 5 ∨ i = 6 by omega) with rfl | rfl | rfl | rfl | rfl | rfl | rfl
    · change some _ = some o at ho
      obtain rfl := Option.some.inj ho
      have x0 : a'.eval (.tmp 0) = _ := (he 0 (by decide)).trans e0
      unfold Oper.wp execOp
      simp only [x0]
      go_simp
      exact hK _ _ (Below.refl _ _) rfl
    · change some _ = some o at ho
      obtain rfl := Option.some.inj ho
      have x5 : a'.eval (.tmp 5) = _ := (he 5 (by decide)).trans e5
      unfold Oper.wp execOp
      simp only [x5]
      go_simp
      exact hK _ _ (Below.refl _ _) rfl
    · change some _ = some o at ho
      obtain rfl := Option.some.inj ho
      have x15 : a'.eval (.tmp 15) = .pointer (some ⟨b, 0, none⟩) := hdep 0 (by decide)
      have x16 : a'.eval (.tmp 16) = .int .i64 i := hdep 1 (by decide)
      unfold Oper.wp execOp
      simp only [resolve, List.map_toArray, List.map_cons, List.map_nil, x15, x16]
      go_simp
      refine (status_any b S A N n ev rows es lim st _ i w1 (hW.below hb)).mono ?_
      rintro e w2 ⟨rfl, rfl⟩
      exact hK _ _ (Below.refl _ _) rfl
    · change some _ = some o at ho
      obtain rfl := Option.some.inj ho
      have x3 : a'.eval (.tmp 3) = _ := (he 3 (by decide)).trans e3
      unfold Oper.wp execOp
      simp only [x3]
      go_simp
      exact hK _ _ (Below.refl _ _) rfl
    · change some _ = some o at ho
      obtain rfl := Option.some.inj ho
      have x5 : a'.eval (.tmp 5) = _ := (he 5 (by decide)).trans e5
      unfold Oper.wp execOp
      simp only [x5]
      go_simp
      exact hK _ _ (Below.refl _ _) rfl
    · change some _ = some o at ho
      obtain rfl := Option.some.inj ho
      have x18 : a'.eval (.tmp 18) = .agg #[.slice ae es.length ce, .int .i64 lim, .slice sa n cs] := hdep 3 (by decide)
      have x19 : a'.eval (.tmp 19) = .int .i64 i := hdep 4 (by decide)
      unfold Oper.wp execOp
      simp only [resolve, List.map_toArray, List.map_cons, List.map_nil, x18, x19]
      go_simp
      refine (rstatus_any _ n es lim st i w1 (hR.mono hb) hn).mono ?_
      rintro e w2 ⟨rfl, hb2⟩
      exact hK _ _ hb2 rfl
    · change some _ = some o at ho
      obtain rfl := Option.some.inj ho
      have x17 : a'.eval (.tmp 17) = .int .i64 (statusR n st i) := hdep 2 (by decide)
      have x20 : a'.eval (.tmp 20) = .int .i64 (statusR n st i) := hdep 5 (by decide)
      unfold Oper.wp execOp
      simp only [x17, x20]
      go_simp
      exact hK _ _ (Below.refl _ _) rfl
  · intro s w' hb hall
    have e : putAll dst41x4 (fun _ => true) s dst41x4.length a = (((((((a.put (some 15) (.pointer (some ⟨b, 0, none⟩))).put (some 16) (.int .i64 i)).put (some 17) (.int .i64 (statusR n st i))).put (some 18) (.agg #[.slice ae es.length ce, .int .i64 lim, .slice sa n cs])).put (some 19) (.int .i64 i)).put (some 20) (.int .i64 (statusR n st i))).put (some 21) (.bool false)) := by
      show putAll dst41x4 (fun _ => true) s 7 a = _
      simp only [putAll, if_true, show s 0 = .pointer (some ⟨b, 0, none⟩) from hall 0 (by decide), show s 1 = .int .i64 i from hall 1 (by decide), show s 2 = .int .i64 (statusR n st i) from hall 2 (by decide), show s 3 = .agg #[.slice ae es.length ce, .int .i64 lim, .slice sa n cs] from hall 3 (by decide), show s 4 = .int .i64 i from hall 4 (by decide), show s 5 = .int .i64 (statusR n st i) from hall 5 (by decide), show s 6 = .bool false from hall 6 (by decide)]
      rfl
    rw [e]
    exact hQ w' hb

noncomputable def ops41x7 : List Oper := opsOf Tryd.f41 7
def dst41x7 : List Nat := [27, 28, 29, 30, 31, 32, 33, 34, 35, 36, 37, 38, 39, 40, 41, 42, 43, 44, 45, 46, 47, 48, 49, 50, 51, 52, 53, 54, 55, 56, 57, 58, 4]
set_option maxHeartbeats 4000000 in
theorem region41x7 (a : Act) (w : World) (Q : Exit → Act → World → Prop) (b S A N n : Nat) (ev : Value) (rows : List Value) (es : List (Int × Int)) (lim : Int) (st : List Int) (q : Nat) (ae : Option Addr) (ce : Nat) (sa : Option Addr) (cs : Nat) (al : Option Addr) (cl : Nat)
    (e0 : a.eval (.tmp 0) = .pointer (some ⟨b, 0, none⟩)) (e3 : a.eval (.tmp 3) = .pointer (some ⟨q, 0, none⟩)) (e6 : a.eval (.tmp 6) = .slice al (choicesL n es lim st).length cl) (hes : ∀ e ∈ es, 0 ≤ e.1 ∧ e.1 < n ∧ 0 ≤ e.2 ∧ e.2 < n) (hsz : a.tmps.size = 59)
    (c0 : w.drew.cell? ⟨q, 0, none⟩ = some (.slice ae es.length ce)) (c1 : w.drew.cell? ⟨q, 1, none⟩ = some (.int .i64 lim)) (c2 : w.drew.cell? ⟨q, 2, none⟩ = some (.slice sa n cs))
    (hW : WkM w.drew b S A N n ev rows es lim st (cnts n (aheadN es st))) (hR : RwM w.drew (.agg #[.slice ae es.length ce, .int .i64 lim, .slice sa n cs]) n es lim st) (hn : n ≤ 512)
    (hQ : ∀ (a' : Act) (w' : World), Below w.drew.heap.size w.drew w' → a'.tmps.size = a.tmps.size → a'.defers = a.defers → (∀ t, t ∉ dst41x7 → a'.eval (.tmp t) = a.eval (.tmp t)) → a'.eval (.tmp 4) = .bool true → Q .normal a' w') :
    (Code.region 7 ops41x7.toArray true).wp Tryd.prog Q a w := by
  have lq : q < w.drew.heap.size := World.block_lt_of_cell? _ _ c0
  refine wp_region_told dst41x7 (toldD [.inl (.pointer (some ⟨b, 0, none⟩)), .inr (ints (withL n es st 0)), .inl (.agg #[.slice ae es.length ce, .int .i64 lim, .slice sa n cs]), .inr (ints (withL n es st 0)), .inl (.bool true), .inl (.bool true), .inl (.pointer (some ⟨b, 0, none⟩)), .inr (ints (withL n es st 1)), .inl (.agg #[.slice ae es.length ce, .int .i64 lim, .slice sa n cs]), .inr (ints (withL n es st 1)), .inl (.bool true), .inl (.bool true), .inl (.bool true), .inl (.pointer (some ⟨b, 0, none⟩)), .inl (.int .i64 (choicesL n es lim st).length), .inl (.slice al (choicesL n es lim st).length cl), .inl (.int .i64 (choicesL n es lim st).length), .inl (.bool true), .inl (.bool true), .inl (.bool true), .inl (.pointer (some ⟨b, 0, none⟩)), .inl (.bool ((withL n es st 0).length + (withL n es st 1).length == 0)), .inl (.agg #[.slice ae es.length ce, .int .i64 lim, .slice sa n cs]), .inr (ints (withL n es st 0)), .inl (.int .i64 (withL n es st 0).length), .inl (.agg #[.slice ae es.length ce, .int .i64 lim, .slice sa n cs]), .inr (ints (withL n es st 1)), .inl (.int .i64 (withL n es st 1).length), .inl (.int .i64 (((withL n es st 0).length : Int) + (withL n es st 1).length)), .inl (.bool ((withL n es st 0).length + (withL n es st 1).length == 0)), .inl (.bool true), .inl (.bool true), .inl (.bool true)]) [(5, true), (12, true), (19, true)] (by kernel_rfl) (by kernel_rfl) (by kernel_rfl) (by kernel_rfl) ?_ (by decide) (fun d hd => ?_) (toldD_mono _) ?_ ?_
  · intro p hp; simp only [List.mem_cons, List.not_mem_nil, or_false] at hp; rcases hp with rfl | rfl | rfl <;> (intro v w h; exact h)
  · rw [hsz]
    have : ∀ d ∈ dst41x7, d < 59 := by decide
    exact this d hd
  · intro w1 hb i o ho a' he hdep K hK
    have hi : i < 33 := (List.getElem?_eq_some_iff.1 ho).1
    have d0 := (hb.cell (p := ⟨q, 0, none⟩) lq).trans c0
    have d1 := (hb.cell (p := ⟨q, 1, none⟩) lq).trans c1
    have d2 := (hb.cell (p := ⟨q, 2, none⟩) lq).trans c2
    clear c0 c1 c2 hQ
    rcases (show i = 0 ∨ i = 1 ∨ i = 2 ∨ i = 3 ∨ i = 4 ∨ i = 5 ∨ i = 6 ∨ i = 7 ∨ i = 8 ∨ i = 9 ∨ i = 10 ∨ i = 11 ∨ i = 12 ∨ i = 13 ∨ i = 14 ∨ i = 15 ∨ i = 16 ∨ i = 17 ∨ i = 18 ∨ i = 19 ∨ i = 20 ∨ i = 21 ∨ i = 22 ∨ i = 23 ∨ i = 24 ∨ i = 25 ∨ i = 26 ∨ i = 27 ∨ i = 28 ∨ i = 29 ∨ i = 30 ∨ i = 31 ∨ i = 32 by omega) with rfl | rfl | rfl | rfl | rfl | rfl | rfl | rfl | rfl | rfl | rfl | rfl | rfl | rfl | rfl | rfl | rfl | rfl | rfl | rfl | rfl | rfl | rfl | rfl | rfl | rfl | rfl | rfl | rfl | rfl | rfl | rfl | rfl
    · change some _ = some o at ho
      obtain rfl := Option.some.inj ho
      have x0 : a'.eval (.tmp 0) = _ := (he 0 (by decide)).trans e0
      unfold Oper.wp execOp
      simp only [x0]
      go_simp
      exact hK _ _ (Below.refl _ _) rfl
    · change some _ = some o at ho
      obtain rfl := Option.some.inj ho
      have x27 : a'.eval (.tmp 27) = .pointer (some ⟨b, 0, none⟩) := hdep 0 (by decide)
      unfold Oper.wp execOp
      simp only [resolve, List.map_toArray, List.map_cons, List.map_nil, x27]
      go_simp
      refine (ready_any b S A N n ev rows es lim st w1 (hW.below hb)).mono ?_
      rintro e w2 ⟨v2, rfl, hv2, hb2⟩
      exact hK _ _ hb2 hv2
    · change some _ = some o at ho
      obtain rfl := Option.some.inj ho
      have x3 : a'.eval (.tmp 3) = _ := (he 3 (by decide)).trans e3
      unfold Oper.wp execOp
      simp only [x3]
      go_simp
      exact hK _ _ (Below.refl _ _) rfl
    · change some _ = some o at ho
      obtain rfl := Option.some.inj ho
      have x29 : a'.eval (.tmp 29) = .agg #[.slice ae es.length ce, .int .i64 lim, .slice sa n cs] := hdep 2 (by decide)
      unfold Oper.wp execOp
      simp only [resolve, List.map_toArray, List.map_cons, List.map_nil, x29]
      go_simp
      refine (rReady_any _ n es lim st w1 (hR.mono hb) hn hes).mono ?_
      rintro e w2 ⟨v2, rfl, hv2, hb2⟩
      exact hK _ _ hb2 hv2
    · change some _ = some o at ho
      obtain rfl := Option.some.inj ho
      have y28 : IntsAt w1 (a'.eval (.tmp 28)) (ints (withL n es st 0)) := hdep 1 (by decide)
      obtain ⟨v28, x28⟩ : ∃ v, a'.eval (.tmp 28) = v := ⟨_, rfl⟩
      rw [x28] at y28
      have y30 : IntsAt w1 (a'.eval (.tmp 30)) (ints (withL n es st 0)) := hdep 3 (by decide)
      obtain ⟨v30, x30⟩ : ∃ v, a'.eval (.tmp 30) = v := ⟨_, rfl⟩
      rw [x30] at y30
      unfold Oper.wp execOp
      simp only [resolve, List.map_toArray, List.map_cons, List.map_nil, x28, x30]
      go_simp
      refine (ints_any _ _ _ _ w1 y28 y30).mono ?_
      rintro e w2 ⟨rfl, hb2⟩
      refine hK _ _ hb2 ?_
      show _ = _
      rw [beq_self_eq_true]
    · change some _ = some o at ho
      obtain rfl := Option.some.inj ho
      have x31 : a'.eval (.tmp 31) = .bool true := hdep 4 (by decide)
      unfold Oper.wp execOp
      simp only [x31]
      go_simp
      exact hK _ _ (Below.refl _ _) rfl
    · change some _ = some o at ho
      obtain rfl := Option.some.inj ho
      have x0 : a'.eval (.tmp 0) = _ := (he 0 (by decide)).trans e0
      unfold Oper.wp execOp
      simp only [x0]
      go_simp
      exact hK _ _ (Below.refl _ _) rfl
    · change some _ = some o at ho
      obtain rfl := Option.some.inj ho
      have x33 : a'.eval (.tmp 33) = .pointer (some ⟨b, 0, none⟩) := hdep 6 (by decide)
      unfold Oper.wp execOp
      simp only [resolve, List.map_toArray, List.map_cons, List.map_nil, x33]
      go_simp
      refine (running_any b S A N n ev rows es lim st w1 (hW.below hb)).mono ?_
      rintro e w2 ⟨v2, rfl, hv2, hb2⟩
      exact hK _ _ hb2 hv2
    · change some _ = some o at ho
      obtain rfl := Option.some.inj ho
      have x3 : a'.eval (.tmp 3) = _ := (he 3 (by decide)).trans e3
      unfold Oper.wp execOp
      simp only [x3]
      go_simp
      exact hK _ _ (Below.refl _ _) rfl
    · change some _ = some o at ho
      obtain rfl := Option.some.inj ho
      have x35 : a'.eval (.tmp 35) = .agg #[.slice ae es.length ce, .int .i64 lim, .slice sa n cs] := hdep 8 (by decide)
      unfold Oper.wp execOp
      simp only [resolve, List.map_toArray, List.map_cons, List.map_nil, x35]
      go_simp
      refine (rrunning_any _ n es lim st w1 (hR.mono hb) hn).mono ?_
      rintro e w2 ⟨v2, rfl, hv2, hb2⟩
      exact hK _ _ hb2 hv2
    · change some _ = some o at ho
      obtain rfl := Option.some.inj ho
      have y34 : IntsAt w1 (a'.eval (.tmp 34)) (ints (withL n es st 1)) := hdep 7 (by decide)
      obtain ⟨v34, x34⟩ : ∃ v, a'.eval (.tmp 34) = v := ⟨_, rfl⟩
      rw [x34] at y34
      have y36 : IntsAt w1 (a'.eval (.tmp 36)) (ints (withL n es st 1)) := hdep 9 (by decide)
      obtain ⟨v36, x36⟩ : ∃ v, a'.eval (.tmp 36) = v := ⟨_, rfl⟩
      rw [x36] at y36
      unfold Oper.wp execOp
      simp only [resolve, List.map_toArray, List.map_cons, List.map_nil, x34, x36]
      go_simp
      refine (ints_any _ _ _ _ w1 y34 y36).mono ?_
      rintro e w2 ⟨rfl, hb2⟩
      refine hK _ _ hb2 ?_
      show _ = _
      rw [beq_self_eq_true]
    · change some _ = some o at ho
      obtain rfl := Option.some.inj ho
      have x32 : a'.eval (.tmp 32) = .bool true := hdep 5 (by decide)
      have x37 : a'.eval (.tmp 37) = .bool true := hdep 10 (by decide)
      unfold Oper.wp execOp
      simp only [x32, x37]
      go_simp
      exact hK _ _ (Below.refl _ _) rfl
    · change some _ = some o at ho
      obtain rfl := Option.some.inj ho
      have x38 : a'.eval (.tmp 38) = .bool true := hdep 11 (by decide)
      unfold Oper.wp execOp
      simp only [x38]
      go_simp
      exact hK _ _ (Below.refl _ _) rfl
    · change some _ = some o at ho
      obtain rfl := Option.some.inj ho
      have x0 : a'.eval (.tmp 0) = _ := (he 0 (by decide)).trans e0
      unfold Oper.wp execOp
      simp only [x0]
      go_simp
      exact hK _ _ (Below.refl _ _) rfl
    · change some _ = some o at ho
      obtain rfl := Option.some.inj ho
      have x40 : a'.eval (.tmp 40) = .pointer (some ⟨b, 0, none⟩) := hdep 13 (by decide)
      unfold Oper.wp execOp
      simp only [resolve, List.map_toArray, List.map_cons, List.map_nil, x40]
      go_simp
      refine (choices_any b S A N n ev rows es lim st w1 (hW.below hb)).mono ?_
      rintro e w2 ⟨rfl, hb2⟩
      exact hK _ _ hb2 rfl
    · change some _ = some o at ho
      obtain rfl := Option.some.inj ho
      have x6 : a'.eval (.tmp 6) = _ := (he 6 (by decide)).trans e6
      unfold Oper.wp execOp
      simp only [x6]
      go_simp
      exact hK _ _ (Below.refl _ _) rfl
    · change some _ = some o at ho
      obtain rfl := Option.some.inj ho
      have x42 : a'.eval (.tmp 42) = .slice al (choicesL n es lim st).length cl := hdep 15 (by decide)
      unfold Oper.wp execOp
      simp only [resolve, List.map_toArray, List.map_cons, List.map_nil, x42]
      go_simp
      refine hK _ _ (Below.refl _ _) ?_
      show _ = _
      rfl
    · change some _ = some o at ho
      obtain rfl := Option.some.inj ho
      have x41 : a'.eval (.tmp 41) = .int .i64 (choicesL n es lim st).length := hdep 14 (by decide)
      have x43 : a'.eval (.tmp 43) = .int .i64 (choicesL n es lim st).length := hdep 16 (by decide)
      unfold Oper.wp execOp
      simp only [x41, x43]
      go_simp
      exact hK _ _ (Below.refl _ _) rfl
    · change some _ = some o at ho
      obtain rfl := Option.some.inj ho
      have x39 : a'.eval (.tmp 39) = .bool true := hdep 12 (by decide)
      have x44 : a'.eval (.tmp 44) = .bool true := hdep 17 (by decide)
      unfold Oper.wp execOp
      simp only [x39, x44]
      go_simp
      exact hK _ _ (Below.refl _ _) rfl
    · change some _ = some o at ho
      obtain rfl := Option.some.inj ho
      have x45 : a'.eval (.tmp 45) = .bool true := hdep 18 (by decide)
      unfold Oper.wp execOp
      simp only [x45]
      go_simp
      exact hK _ _ (Below.refl _ _) rfl
    · change some _ = some o at ho
      obtain rfl := Option.some.inj ho
      have x0 : a'.eval (.tmp 0) = _ := (he 0 (by decide)).trans e0
      unfold Oper.wp execOp
      simp only [x0]
      go_simp
      exact hK _ _ (Below.refl _ _) rfl
    · change some _ = some o at ho
      obtain rfl := Option.some.inj ho
      have x47 : a'.eval (.tmp 47) = .pointer (some ⟨b, 0, none⟩) := hdep 20 (by decide)
      unfold Oper.wp execOp
      simp only [resolve, List.map_toArray, List.map_cons, List.map_nil, x47]
      go_simp
      refine (over_any b S A N n ev rows es lim st w1 (hW.below hb)).mono ?_
      rintro e w2 ⟨rfl, hb2⟩
      exact hK _ _ hb2 rfl
    · change some _ = some o at ho
      obtain rfl := Option.some.inj ho
      have x3 : a'.eval (.tmp 3) = _ := (he 3 (by decide)).trans e3
      unfold Oper.wp execOp
      simp only [x3]
      go_simp
      exact hK _ _ (Below.refl _ _) rfl
    · change some _ = some o at ho
      obtain rfl := Option.some.inj ho
      have x49 : a'.eval (.tmp 49) = .agg #[.slice ae es.length ce, .int .i64 lim, .slice sa n cs] := hdep 22 (by decide)
      unfold Oper.wp execOp
      simp only [resolve, List.map_toArray, List.map_cons, List.map_nil, x49]
      go_simp
      refine (rReady_any _ n es lim st w1 (hR.mono hb) hn hes).mono ?_
      rintro e w2 ⟨v2, rfl, hv2, hb2⟩
      exact hK _ _ hb2 hv2
    · change some _ = some o at ho
      obtain rfl := Option.some.inj ho
      have y50 : IntsAt w1 (a'.eval (.tmp 50)) (ints (withL n es st 0)) := hdep 23 (by decide)
      obtain ⟨v50, x50⟩ : ∃ v, a'.eval (.tmp 50) = v := ⟨_, rfl⟩
      rw [x50] at y50
      obtain ⟨ao, cap, he2, _, _⟩ := y50.val
      subst he2
      unfold Oper.wp execOp
      simp only [resolve, List.map_toArray, List.map_cons, List.map_nil, x50]
      go_simp
      refine hK _ _ (Below.refl _ _) ?_
      show _ = _
      simp [ints_len]
    · change some _ = some o at ho
      obtain rfl := Option.some.inj ho
      have x3 : a'.eval (.tmp 3) = _ := (he 3 (by decide)).trans e3
      unfold Oper.wp execOp
      simp only [x3]
      go_simp
      exact hK _ _ (Below.refl _ _) rfl
    · change some _ = some o at ho
      obtain rfl := Option.some.inj ho
      have x52 : a'.eval (.tmp 52) = .agg #[.slice ae es.length ce, .int .i64 lim, .slice sa n cs] := hdep 25 (by decide)
      unfold Oper.wp execOp
      simp only [resolve, List.map_toArray, List.map_cons, List.map_nil, x52]
      go_simp
      refine (rrunning_any _ n es lim st w1 (hR.mono hb) hn).mono ?_
      rintro e w2 ⟨v2, rfl, hv2, hb2⟩
      exact hK _ _ hb2 hv2
    · change some _ = some o at ho
      obtain rfl := Option.some.inj ho
      have y53 : IntsAt w1 (a'.eval (.tmp 53)) (ints (withL n es st 1)) := hdep 26 (by decide)
      obtain ⟨v53, x53⟩ : ∃ v, a'.eval (.tmp 53) = v := ⟨_, rfl⟩
      rw [x53] at y53
      obtain ⟨ao, cap, he2, _, _⟩ := y53.val
      subst he2
      unfold Oper.wp execOp
      simp only [resolve, List.map_toArray, List.map_cons, List.map_nil, x53]
      go_simp
      refine hK _ _ (Below.refl _ _) ?_
      show _ = _
      simp [ints_len]
    · change some _ = some o at ho
      obtain rfl := Option.some.inj ho
      have x51 : a'.eval (.tmp 51) = .int .i64 (withL n es st 0).length := hdep 24 (by decide)
      have x54 : a'.eval (.tmp 54) = .int .i64 (withL n es st 1).length := hdep 27 (by decide)
      unfold Oper.wp execOp
      simp only [x51, x54]
      go_simp
      refine hK _ _ (Below.refl _ _) ?_
      have l1 := withL_len n es st 0
      have l2 := withL_len n es st 1
      show _ = Value.int _ _
      congr 1
      rw [IntKind.wrap_i64]
      omega
    · change some _ = some o at ho
      obtain rfl := Option.some.inj ho
      have x55 : a'.eval (.tmp 55) = .int .i64 (((withL n es st 0).length : Int) + (withL n es st 1).length) := hdep 28 (by decide)
      unfold Oper.wp execOp
      simp only [x55]
      go_simp
      refine hK _ _ (Below.refl _ _) ?_
      show _ = Value.bool _
      congr 1
      rw [Bool.eq_iff_iff, beq_iff_eq, beq_iff_eq]
      omega
    · change some _ = some o at ho
      obtain rfl := Option.some.inj ho
      have x48 : a'.eval (.tmp 48) = .bool ((withL n es st 0).length + (withL n es st 1).length == 0) := hdep 21 (by decide)
      have x56 : a'.eval (.tmp 56) = .bool ((withL n es st 0).length + (withL n es st 1).length == 0) := hdep 29 (by decide)
      unfold Oper.wp execOp
      simp only [x48, x56]
      go_simp
      exact hK _ _ (Below.refl _ _) rfl
    · change some _ = some o at ho
      obtain rfl := Option.some.inj ho
      have x46 : a'.eval (.tmp 46) = .bool true := hdep 19 (by decide)
      have x57 : a'.eval (.tmp 57) = .bool true := hdep 30 (by decide)
      unfold Oper.wp execOp
      simp only [x46, x57]
      go_simp
      exact hK _ _ (Below.refl _ _) rfl
    · change some _ = some o at ho
      obtain rfl := Option.some.inj ho
      have x58 : a'.eval (.tmp 58) = .bool true := hdep 31 (by decide)
      unfold Oper.wp execOp
      simp only [x58]
      go_simp
      exact hK _ _ (Below.refl _ _) rfl
  · intro a' w' hb hsz' hdf he hall
    exact hQ a' w' hb hsz' hdf he (hall 32 (by decide))

end Go.Proofs.YtelioljmhlabjaaDoor
