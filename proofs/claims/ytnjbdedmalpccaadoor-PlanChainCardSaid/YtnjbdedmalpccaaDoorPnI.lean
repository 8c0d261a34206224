/- The walk of the planner's instance. -/
import Derived.Test.YtnjbdedmalpccaaDoorPnR
namespace Go.Proofs.YtnjbdedmalpccaaDoor
open Go.RowKit
set_option maxRecDepth 100000
attribute [local go_sem] str_size str_toList str_get

structure InstT where
  addr : S8
  typ : S8
  k : Int
  f : Bool
  tx : S8
  ai : Option Addr
  ni : Nat
  ci : Nat
  ak : Option Addr
  nk : Nat
  ck : Nat
  action : Int
  prevent : Bool
  ad : Option Addr
  nd : Nat
  cd : Nat
def instC (x : InstT) : List Value := [str x.addr, str x.typ, .int .i64 x.k, .bool x.f, str x.tx, .slice x.ai x.ni x.ci, .slice x.ak x.nk x.ck, .int .i64 x.action, .bool x.prevent, .slice x.ad x.nd x.cd]
def instV (x : InstT) : Value := .agg #[str x.addr, str x.typ, .int .i64 x.k, .bool x.f, str x.tx, .slice x.ai x.ni x.ci, .slice x.ak x.nk x.ck, .int .i64 x.action, .bool x.prevent, .slice x.ad x.nd x.cd]
def PS.inst (S : PS) (x : InstT) : PS :=
  if (S.act x.addr).getD 0 = 1 then S.make ⟨1, x.addr, x.typ, [], false⟩
  else if (S.act x.addr).getD 0 = 2 then S.make ⟨2, x.addr, ((S.rcd x.addr).getD rec0).typ, ((S.rcd x.addr).getD rec0).id, false⟩
  else if (S.act x.addr).getD 0 = 3 then
    ((S.remove ((S.rcd x.addr).getD rec0) ⟨0, x.addr, [], [], false⟩).make ⟨1, x.addr, x.typ, [], false⟩).ahead
      (((S.remove ((S.rcd x.addr).getD rec0) ⟨0, x.addr, [], [], false⟩).make ⟨1, x.addr, x.typ, [], false⟩).gone x.addr) (((S.remove ((S.rcd x.addr).getD rec0) ⟨0, x.addr, [], [], false⟩).make ⟨1, x.addr, x.typ, [], false⟩).made x.addr)
  else if (S.act x.addr).getD 0 = 4 then
    ((S.make ⟨1, x.addr, x.typ, [], true⟩).remove ((S.rcd x.addr).getD rec0) ⟨0, x.addr ++ [126], [], [], true⟩).ahead
      (((S.make ⟨1, x.addr, x.typ, [], true⟩).remove ((S.rcd x.addr).getD rec0) ⟨0, x.addr ++ [126], [], [], true⟩).made x.addr) (((S.make ⟨1, x.addr, x.typ, [], true⟩).remove ((S.rcd x.addr).getD rec0) ⟨0, x.addr ++ [126], [], [], true⟩).gone x.addr)
  else S

theorem cells10 {w : World} {g : Nat} {c0 c1 c2 c3 c4 c5 c6 c7 c8 c9 : Value} {T : TypeId} (h : w.heap[g]? = some (.cells #[c0, c1, c2, c3, c4, c5, c6, c7, c8, c9] T (0, 0))) : w.cell? ⟨g, 0, none⟩ = some c0 ∧ w.cell? ⟨g, 1, none⟩ = some c1 ∧ w.cell? ⟨g, 2, none⟩ = some c2 ∧ w.cell? ⟨g, 3, none⟩ = some c3 ∧ w.cell? ⟨g, 4, none⟩ = some c4 ∧ w.cell? ⟨g, 5, none⟩ = some c5 ∧ w.cell? ⟨g, 6, none⟩ = some c6 ∧ w.cell? ⟨g, 7, none⟩ = some c7 ∧ w.cell? ⟨g, 8, none⟩ = some c8 ∧ w.cell? ⟨g, 9, none⟩ = some c9 := by
  refine ⟨?_, ?_, ?_, ?_, ?_, ?_, ?_, ?_, ?_, ?_⟩ <;> (rw [Lib.cell_of_heap h]; rfl)

/-- The planner's fields, and what look-ups answer, in whatever world behind. -/
structure PnLook (w : World) (p : Nat) (S : PS) (a r m v : Nat) (vs ve : Value) : Prop where
  cells : ∀ W, Below w.heap.size w W → W.cell? ⟨p, 0, none⟩ = some (.map (some a)) ∧ W.cell? ⟨p, 1, none⟩ = some (.map (some r)) ∧ W.cell? ⟨p, 2, none⟩ = some vs ∧ W.cell? ⟨p, 3, none⟩ = some (.map (some m)) ∧ W.cell? ⟨p, 4, none⟩ = some (.map (some v)) ∧ W.cell? ⟨p, 5, none⟩ = some ve
  act : ∀ W t, Below w.heap.size w W → fitS t → (Instr.lookup 59 (.map (some a)) (str t) false).run Tryd.prog W = .ok (.int .i64 ((S.act t).getD 0)) W
  actB : ∀ W t, Below w.heap.size w W → fitS t → (Instr.lookup 59 (.map (some a)) (str t) true).run Tryd.prog W = .ok (.tuple #[.int .i64 ((S.act t).getD 0), .bool (S.act t).isSome]) W
  rcd : ∀ W t, Below w.heap.size w W → fitS t → (Instr.lookup 60 (.map (some r)) (str t) false).run Tryd.prog W = .ok (recV ((S.rcd t).getD rec0)) W
  mak : ∀ W t, Below w.heap.size w W → fitS t → (Instr.lookup 61 (.map (some m)) (str t) false).run Tryd.prog W = .ok (.int .i64 (S.made t : Nat)) W
  rem : ∀ W t, Below w.heap.size w W → fitS t → (Instr.lookup 61 (.map (some v)) (str t) false).run Tryd.prog W = .ok (.int .i64 (S.gone t : Nat)) W
theorem getD_map {α β : Type} (o : Option α) (g : α → β) (d : α) : (o.map g).getD (g d) = g (o.getD d) := by cases o <;> rfl
theorem PnAt.looks {B N : Nat} {w : World} {p : Nat} {S : PS} (h : PnAt B N w p S) : ∃ a r m v vs ve, PnIn B N w p S a r m v vs ve ∧ PnLook w p S a r m v vs ve := by
  obtain ⟨a, r, m, v, vs, ve, hI⟩ := h.at'
  refine ⟨a, r, m, v, vs, ve, hI, fun W hW => cells6 (hI.below hW).1, fun W t hW ft => ?_, fun W t hW ft => ?_, fun W t hW ft => ?_, fun W t hW ft => ?_, fun W t hW ft => ?_⟩
  · have := ((hI.below hW).2.2.2.1.look mapA zeroA ft).1
    rw [getD_map (S.act t) (fun i => Value.int .i64 i) 0] at this
    exact this
  · have := ((hI.below hW).2.2.2.1.look mapA zeroA ft).2
    rw [getD_map (S.act t) (fun i => Value.int .i64 i) 0, Option.isSome_map] at this
    exact this
  · have := ((hI.below hW).2.2.2.2.1.look mapR zeroR ft).1
    rw [getD_map (S.rcd t) recV rec0] at this
    exact this
  · have := ((hI.below hW).2.2.2.2.2.1.look mapI zeroI ft).1
    have e : ((S.mak t).map fun i : Nat => Value.int .i64 (i : Int)).getD (.int .i64 0) = .int .i64 (S.made t : Nat) := getD_map (S.mak t) (fun i : Nat => Value.int .i64 (i : Int)) 0
    rw [e] at this
    exact this
  · have := ((hI.below hW).2.2.2.2.2.2.1.look mapI zeroI ft).1
    have e : ((S.rem t).map fun i : Nat => Value.int .i64 (i : Int)).getD (.int .i64 0) = .int .i64 (S.gone t : Nat) := getD_map (S.rem t) (fun i : Nat => Value.int .i64 (i : Int)) 0
    rw [e] at this
    exact this

/-- The places that the maps tell are places of steps. -/
def PS.Ok (S : PS) : Prop := ∀ t, S.made t ≤ S.steps.length ∧ S.gone t ≤ S.steps.length
theorem PS.Ok.make {S : PS} (h : S.Ok) (s : StepT) : (S.make s).Ok := fun t => by
  have := h t
  unfold PS.make PS.made PS.gone upd at *
  simp only [List.length_append, List.length_cons, List.length_nil]
  refine ⟨?_, by omega⟩
  split
  · simp
  · omega
theorem PS.Ok.remove {S : PS} (h : S.Ok) (r : RecT) (s : StepT) : (S.remove r s).Ok := fun t => by
  have := h t
  unfold PS.remove PS.made PS.gone upd at *
  simp only [List.length_append, List.length_cons, List.length_nil]
  refine ⟨by omega, ?_⟩
  split
  · simp
  · omega
theorem PS.Ok.ahead {S : PS} (h : S.Ok) (a b : Nat) : (S.ahead a b).Ok := fun t => by
  have := h t
  unfold PS.ahead
  split
  · exact this
  · exact this
theorem steps_make (S : PS) (s : StepT) : (S.make s).steps.length = S.steps.length + 1 := by simp [PS.make]
theorem steps_remove (S : PS) (r : RecT) (s : StepT) : (S.remove r s).steps.length = S.steps.length + 1 := by simp [PS.remove]

set_option maxHeartbeats 8000000 in
theorem instance_any {B N : Nat} {w : World} {p : Nat} {S : PS} (h : PnAt B N w p S) (hok : S.Ok) (x : InstT) (fa : x.addr.length ≤ 100000) (fr : fitS ((S.rcd x.addr).getD rec0).addr) (hl : S.steps.length ≤ 1000) (hN : N ≤ 50000) (hel : S.edges.length ≤ 1000) :
    Calls Tryd.prog 9 #[.pointer (some ⟨p, 0, none⟩), instV x] w fun e w' => e = .returned (.tuple #[]) ∧ PnAt B (N + 2) w' p (S.inst x) ∧ Below B w w' ∧ Aside2 w w' := by
  have mixed : Tryd.prog.follows .mixedOrders = true := by kernel_rfl
  have hft : fitS x.addr := Nat.le_trans fa (by decide)
  unfold instV
  obtain ⟨wA, hwA⟩ : ∃ wA, wA = w.alloc (.cells #[str x.addr, str x.typ, .int .i64 x.k, .bool x.f, str x.tx, .slice x.ai x.ni x.ci, .slice x.ak x.nk x.ck, .int .i64 x.action, .bool x.prevent, .slice x.ad x.nd x.cd] 41) := ⟨_, rfl⟩
  have nA : wA.heap[w.heap.size]? = some (.cells #[str x.addr, str x.typ, .int .i64 x.k, .bool x.f, str x.tx, .slice x.ai x.ni x.ci, .slice x.ak x.nk x.ck, .int .i64 x.action, .bool x.prevent, .slice x.ad x.nd x.cd] 41 (0, 0)) := by rw [hwA]; exact heap_alloc_new _ _
  have bA : Below w.heap.size w wA := by rw [hwA]; exact (Below.refl _ w).alloc (Nat.le_refl _) _
  have hB := h.lt
  obtain ⟨a, r, m, v, vs, ve, hI, hL⟩ := (h.below bA).looks
  obtain ⟨G, hG⟩ : ∃ G, w.heap.size = G := ⟨_, rfl⟩
  rw [hG] at nA hB
  obtain ⟨y0, y1, _⟩ := cells10 nA
  obtain ⟨x0, x1, x2, x3, x4, x5⟩ := cells6 hI.1
  have HL := Lib.hid hL
  have HA := Lib.hid nA
  have HP := Lib.hid (h.below bA)
  have HBA := Lib.hid (⟨bA.mono h.lt, Aside2.of_below bA⟩ : _ ∧ _)
  have hgl := heap_lt nA
  have hpl := heap_lt hI.1
  have q1 : ¬ wA.heap.size = p := by omega
  have q2 : ¬ p = wA.heap.size := by omega
  have q3 : ¬ wA.heap.size = G := by omega
  have q4 : ¬ G = wA.heap.size := by omega
  have T1 := hL.rcd _ x.addr (Below.refl _ wA).drew hft
  have T2 := fun o => hL.rcd _ x.addr ((Below.refl _ wA).alloc (Nat.le_refl _) o).drew hft
  obtain ⟨R, hR⟩ : ∃ R, (S.rcd x.addr).getD rec0 = R := ⟨_, rfl⟩
  rw [hR] at T1 T2 fr
  have HR := Lib.hid hR
  unfold recV at T1 T2
  clear h hI hL nA bA hR
  go_enter Tryd.func9, Tryd.ntmps9
  go_upto_region 1 with fail
  rw [← hwA]
  try rw [hG]
  clear hwA hG
  go_cut [4] from 5 to 11 (fun s4 wx => ∃ q : Nat, s4 = .pointer (some ⟨q, 0, none⟩) ∧ Hid (wx.heap[q]? = some (.cells #[str R.addr, str R.typ, str R.id, .int .i64 R.k, .bool R.f, str R.tx, .slice R.ai R.ni R.ci, .slice R.ak R.nk R.ck, .slice R.ad R.nd R.cd] 37 (0, 0)) ∧ Below wA.heap.size wA wx))
  case first =>
    go_region_law_o fail
    all_goals (try go_wp2)
    all_goals go_meet
    all_goals exact ⟨_, rfl, Lib.hid ⟨heap_alloc_new wA _, (((Below.refl _ wA).alloc (Nat.le_refl _) _).drew)⟩⟩
  case rest =>
    obtain ⟨q, rfl, HQ⟩ := hcut
    obtain ⟨nq, bq⟩ := HQ.out
    clear T1 T2 x0 x1 x2 x3 x4 x5 y0 y1
    have HPC := Lib.hid (HP.out.below bq)
    have HBC := Lib.hid (⟨HBA.out.1.trans (bq.mono HP.out.lt), HBA.out.2.trans (Aside2.of_below bq)⟩ : _ ∧ _)
    have HAC := Lib.hid ((bq.block _ (heap_lt HA.out)).trans HA.out)
    have HQC := Lib.hid nq
    obtain ⟨a, r, m, v, vs, ve, hI, hL⟩ := HPC.out.looks
    obtain ⟨x0, x1, x2, x3, x4, x5⟩ := cells6 hI.1
    obtain ⟨y0, y1, _⟩ := cells10 HAC.out
    obtain ⟨t0, t1, t2, t3, t4, t5, t6, t7, t8⟩ := cells9 nq
    have T3 := hL.act _ x.addr (Below.refl _ wc).drew hft
    obtain ⟨A, hA⟩ : ∃ A, (S.act x.addr).getD 0 = A := ⟨_, rfl⟩
    rw [hA] at T3
    have HAA := Lib.hid hA
    clear hI hL hA nq bq HP HBA HA HQ HL q1 q2 q3 q4 hgl hpl
    go_upto_region 2 with fail
    go_region_law_o fail
    all_goals
      clear T3 x0 x1 x2 x3 x4 x5
      have HD := Lib.hid (HPC.out.below (Below.refl _ wc).drew)
      have HCC := Lib.hid (fun W => str_add (P := Tryd.prog) (w := W) x.addr [126] (by simp; omega))
      by_cases a1 : A = 1
      · subst a1
        have hS : S.inst x = S.make ⟨1, x.addr, x.typ, [], false⟩ := by
          have := HAA.out
          unfold PS.inst
          rw [if_pos this]
        have MK := make_any HD.out ⟨1, x.addr, x.typ, [], false⟩ hft (by omega) (by omega)
        unfold stepV at MK
        have HS := Lib.hid hS
        clear hS
        go_wp2_with fail
        refine MK.mono ?_
        rintro e w1 ⟨rfl, p1, b1, s1⟩
        have HF := Lib.hid (⟨p1.more (Nat.le_succ _), HBC.out.1.drew.trans b1, (HBC.out.2.trans (Aside2.of_below (Below.refl _ wc).drew)).trans s1⟩ : _ ∧ _ ∧ _)
        clear MK p1 b1 s1 y0 y1 t0 t1 t2 t3 t4 t5 t6 t7 t8
        go_wp2
        first | refine bodyPost_end (results_none rfl _ _ _) rfl ?_ | refine bodyPost_ret (results_none rfl _ _ _) rfl ?_
        exact ⟨rfl, by rw [HS.out]; exact HF.out.1, HF.out.2.1, HF.out.2.2⟩
      by_cases a2 : A = 2
      · subst a2
        have hS : S.inst x = S.make ⟨2, x.addr, R.typ, R.id, false⟩ := by
          have := HAA.out
          unfold PS.inst
          rw [if_neg (by rw [this]; decide), if_pos this, HR.out]
        have MK := make_any HD.out ⟨2, x.addr, R.typ, R.id, false⟩ hft (by omega) (by omega)
        unfold stepV at MK
        have HS := Lib.hid hS
        clear hS
        go_wp2_with fail
        refine MK.mono ?_
        rintro e w1 ⟨rfl, p1, b1, s1⟩
        have HF := Lib.hid (⟨p1.more (Nat.le_succ _), HBC.out.1.drew.trans b1, (HBC.out.2.trans (Aside2.of_below (Below.refl _ wc).drew)).trans s1⟩ : _ ∧ _ ∧ _)
        clear MK p1 b1 s1 y0 y1 t0 t1 t2 t3 t4 t5 t6 t7 t8
        go_wp2
        first | refine bodyPost_end (results_none rfl _ _ _) rfl ?_ | refine bodyPost_ret (results_none rfl _ _ _) rfl ?_
        exact ⟨rfl, by rw [HS.out]; exact HF.out.1, HF.out.2.1, HF.out.2.2⟩
      by_cases a3 : A = 3
      · subst a3
        have hS : S.inst x = ((S.remove R ⟨0, x.addr, [], [], false⟩).make ⟨1, x.addr, x.typ, [], false⟩).ahead (((S.remove R ⟨0, x.addr, [], [], false⟩).make ⟨1, x.addr, x.typ, [], false⟩).gone x.addr) (((S.remove R ⟨0, x.addr, [], [], false⟩).make ⟨1, x.addr, x.typ, [], false⟩).made x.addr) := by
          have := HAA.out
          unfold PS.inst
          rw [if_neg (by rw [this]; decide), if_neg (by rw [this]; decide), if_pos this, HR.out]
        have HS := Lib.hid hS
        clear hS
        have C1 := remove_any HD.out R ⟨0, x.addr, [], [], false⟩ fr (by omega) (by omega)
        unfold stepV recV at C1
        go_wp2_with fail
        refine C1.mono ?_
        rintro e w1 ⟨rfl, p1, b1, s1⟩
        have HG1 := Lib.hid ((s1 G _ _ _ HAC.out (by decide) (by decide) (by decide)).trans HAC.out)
        have HQ1 := Lib.hid ((s1 q _ _ _ HQC.out (by decide) (by decide) (by decide)).trans HQC.out)
        have C2 := make_any p1 ⟨1, x.addr, x.typ, [], false⟩ hft (by rw [steps_remove]; omega) (by omega)
        unfold stepV at C2
        have HF1 := Lib.hid (⟨HBC.out.1.drew.trans b1, (HBC.out.2.trans (Aside2.of_below (Below.refl _ wc).drew)).trans s1⟩ : _ ∧ _)
        clear C1 p1 b1 s1 y0 y1 t0 t1 t2 t3 t4 t5 t6 t7 t8
        obtain ⟨y0, y1, _⟩ := cells10 HG1.out
        obtain ⟨t0, t1, t2, t3, t4, t5, t6, t7, t8⟩ := cells9 HQ1.out
        have hcc := HCC.out
        go_wp2_with fail
        refine C2.mono ?_
        rintro e w2 ⟨rfl, p2, b2, s2⟩
        have HG2 := Lib.hid ((s2 G _ _ _ HG1.out (by decide) (by decide) (by decide)).trans HG1.out)
        have HF2 := Lib.hid (⟨HF1.out.1.trans b2, HF1.out.2.trans s2⟩ : _ ∧ _)
        clear C2 b2 s2 y0 y1 t0 t1 t2 t3 t4 t5 t6 t7 t8 hcc
        obtain ⟨y0, y1, _⟩ := cells10 HG2.out
        have hok2 := (hok.remove R ⟨0, x.addr, [], [], false⟩).make ⟨1, x.addr, x.typ, [], false⟩
        have hln : ((S.remove R ⟨0, x.addr, [], [], false⟩).make ⟨1, x.addr, x.typ, [], false⟩).steps.length = S.steps.length + 2 := by rw [steps_make, steps_remove]
        have hE : ((S.remove R ⟨0, x.addr, [], [], false⟩).make ⟨1, x.addr, x.typ, [], false⟩).edges = S.edges := rfl
        obtain ⟨S2, hS2⟩ : ∃ S2, ((S.remove R ⟨0, x.addr, [], [], false⟩).make ⟨1, x.addr, x.typ, [], false⟩) = S2 := ⟨_, rfl⟩
        rw [hS2] at HS p2 hok2 hln hE
        obtain ⟨k1, k2⟩ := hok2 x.addr
        obtain ⟨a', r', m', v', vs', ve', hI, hL⟩ := p2.looks
        obtain ⟨x0, x1, x2, x3, x4, x5⟩ := cells6 hI.1
        have T4 := hL.mak _ x.addr (Below.refl _ w2).drew hft
        have T5 := hL.rem _ x.addr (Below.refl _ w2).drew hft
        have AH := ahead_any (p2.below (Below.refl _ w2).drew) (S2.gone x.addr) (S2.made x.addr) (by omega) (by omega) (by rw [hE]; omega)
        obtain ⟨K1, hK1⟩ : ∃ K1, S2.made x.addr = K1 := ⟨_, rfl⟩
        obtain ⟨K2, hK2⟩ : ∃ K2, S2.gone x.addr = K2 := ⟨_, rfl⟩
        rw [hK1] at T4 AH HS
        rw [hK2] at T5 AH HS
        clear hI hL hS2 hln hE k1 k2 hok2 p2 hK1 hK2
        go_upto_region 10 with fail
        refine still_drew 15 (by kernel_rfl) (by kernel_rfl) ?_
        simp only [List.take_succ_cons, List.take_zero, List.drop_succ_cons, List.drop_zero]
        repeat still_step
        refine wpStill_nil ?_
        go_wp2_with fail
        refine AH.mono ?_
        rintro e w3 ⟨rfl, p3, b3, s3⟩
        have HF3 := Lib.hid (⟨p3, HF2.out.1.drew.trans b3, (HF2.out.2.trans (Aside2.of_below (Below.refl _ w2).drew)).trans s3⟩ : _ ∧ _ ∧ _)
        clear p3 b3 s3
        all_goals clear AH T4 T5 x0 x1 x2 x3 x4 x5 y0 y1
        all_goals go_wp2
        all_goals first | refine bodyPost_end (results_none rfl _ _ _) rfl ?_ | refine bodyPost_ret (results_none rfl _ _ _) rfl ?_
        all_goals exact ⟨rfl, by rw [HS.out]; exact HF3.out.1, HF3.out.2.1, HF3.out.2.2⟩
      by_cases a4 : A = 4
      · subst a4
        have hS : S.inst x = ((S.make ⟨1, x.addr, x.typ, [], true⟩).remove R ⟨0, x.addr ++ [126], [], [], true⟩).ahead (((S.make ⟨1, x.addr, x.typ, [], true⟩).remove R ⟨0, x.addr ++ [126], [], [], true⟩).made x.addr) (((S.make ⟨1, x.addr, x.typ, [], true⟩).remove R ⟨0, x.addr ++ [126], [], [], true⟩).gone x.addr) := by
          have := HAA.out
          unfold PS.inst
          rw [if_neg (by rw [this]; decide), if_neg (by rw [this]; decide), if_neg (by rw [this]; decide), if_pos this, HR.out]
        have HS := Lib.hid hS
        clear hS
        have C1 := make_any HD.out ⟨1, x.addr, x.typ, [], true⟩ hft (by omega) (by omega)
        unfold stepV at C1
        go_wp2_with fail
        refine C1.mono ?_
        rintro e w1 ⟨rfl, p1, b1, s1⟩
        have HG1 := Lib.hid ((s1 G _ _ _ HAC.out (by decide) (by decide) (by decide)).trans HAC.out)
        have HQ1 := Lib.hid ((s1 q _ _ _ HQC.out (by decide) (by decide) (by decide)).trans HQC.out)
        have C2 := remove_any p1 R ⟨0, x.addr ++ [126], [], [], true⟩ fr (by rw [steps_make]; omega) (by omega)
        unfold stepV recV at C2
        have HF1 := Lib.hid (⟨HBC.out.1.drew.trans b1, (HBC.out.2.trans (Aside2.of_below (Below.refl _ wc).drew)).trans s1⟩ : _ ∧ _)
        clear C1 p1 b1 s1 y0 y1 t0 t1 t2 t3 t4 t5 t6 t7 t8
        obtain ⟨y0, y1, _⟩ := cells10 HG1.out
        obtain ⟨t0, t1, t2, t3, t4, t5, t6, t7, t8⟩ := cells9 HQ1.out
        have hcc := HCC.out
        go_wp2_with fail
        refine C2.mono ?_
        rintro e w2 ⟨rfl, p2, b2, s2⟩
        have HG2 := Lib.hid ((s2 G _ _ _ HG1.out (by decide) (by decide) (by decide)).trans HG1.out)
        have HF2 := Lib.hid (⟨HF1.out.1.trans b2, HF1.out.2.trans s2⟩ : _ ∧ _)
        clear C2 b2 s2 y0 y1 t0 t1 t2 t3 t4 t5 t6 t7 t8 hcc
        obtain ⟨y0, y1, _⟩ := cells10 HG2.out
        have hok2 := (hok.make ⟨1, x.addr, x.typ, [], true⟩).remove R ⟨0, x.addr ++ [126], [], [], true⟩
        have hln : ((S.make ⟨1, x.addr, x.typ, [], true⟩).remove R ⟨0, x.addr ++ [126], [], [], true⟩).steps.length = S.steps.length + 2 := by rw [steps_remove, steps_make]
        have hE : ((S.make ⟨1, x.addr, x.typ, [], true⟩).remove R ⟨0, x.addr ++ [126], [], [], true⟩).edges = S.edges := rfl
        obtain ⟨S2, hS2⟩ : ∃ S2, ((S.make ⟨1, x.addr, x.typ, [], true⟩).remove R ⟨0, x.addr ++ [126], [], [], true⟩) = S2 := ⟨_, rfl⟩
        rw [hS2] at HS p2 hok2 hln hE
        obtain ⟨k1, k2⟩ := hok2 x.addr
        obtain ⟨a', r', m', v', vs', ve', hI, hL⟩ := p2.looks
        obtain ⟨x0, x1, x2, x3, x4, x5⟩ := cells6 hI.1
        have T4 := hL.mak _ x.addr (Below.refl _ w2).drew hft
        have T5 := hL.rem _ x.addr (Below.refl _ w2).drew hft
        have AH := ahead_any (p2.below (Below.refl _ w2).drew) (S2.made x.addr) (S2.gone x.addr) (by omega) (by omega) (by rw [hE]; omega)
        obtain ⟨K1, hK1⟩ : ∃ K1, S2.made x.addr = K1 := ⟨_, rfl⟩
        obtain ⟨K2, hK2⟩ : ∃ K2, S2.gone x.addr = K2 := ⟨_, rfl⟩
        rw [hK1] at T4 AH HS
        rw [hK2] at T5 AH HS
        clear hI hL hS2 hln hE k1 k2 hok2 p2 hK1 hK2
        go_upto_region 14 with fail
        refine still_drew 15 (by kernel_rfl) (by kernel_rfl) ?_
        simp only [List.take_succ_cons, List.take_zero, List.drop_succ_cons, List.drop_zero]
        repeat still_step
        refine wpStill_nil ?_
        go_wp2_with fail
        refine AH.mono ?_
        rintro e w3 ⟨rfl, p3, b3, s3⟩
        have HF3 := Lib.hid (⟨p3, HF2.out.1.drew.trans b3, (HF2.out.2.trans (Aside2.of_below (Below.refl _ w2).drew)).trans s3⟩ : _ ∧ _ ∧ _)
        clear p3 b3 s3
        all_goals clear AH T4 T5 x0 x1 x2 x3 x4 x5 y0 y1
        all_goals go_wp2
        all_goals first | refine bodyPost_end (results_none rfl _ _ _) rfl ?_ | refine bodyPost_ret (results_none rfl _ _ _) rfl ?_
        all_goals exact ⟨rfl, by rw [HS.out]; exact HF3.out.1, HF3.out.2.1, HF3.out.2.2⟩
      have hS : S.inst x = S := by
        have := HAA.out
        unfold PS.inst
        rw [if_neg (by rw [this]; exact a1), if_neg (by rw [this]; exact a2), if_neg (by rw [this]; exact a3), if_neg (by rw [this]; exact a4)]
      have HS := Lib.hid hS
      have b1 : (A == 1) = false := by simpa using a1
      have b2 : (A == 2) = false := by simpa using a2
      have b3 : (A == 3) = false := by simpa using a3
      have b4 : (A == 4) = false := by simpa using a4
      clear hS y0 y1 t0 t1 t2 t3 t4 t5 t6 t7 t8
      go_wp2
      first | refine bodyPost_end (results_none rfl _ _ _) rfl ?_ | refine bodyPost_ret (results_none rfl _ _ _) rfl ?_
      exact ⟨rfl, by rw [HS.out]; exact HD.out.more (by omega), HBC.out.1.drew, HBC.out.2.trans (Aside2.of_below (Below.refl _ wc).drew)⟩

end Go.Proofs.YtnjbdedmalpccaaDoor
