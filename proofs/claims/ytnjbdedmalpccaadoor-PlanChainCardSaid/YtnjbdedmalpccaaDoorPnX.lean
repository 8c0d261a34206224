/- The walk of plan.Make, where all is well. Printed by genpnx.py. -/
import Derived.Test.YtnjbdedmalpccaaDoorPnV
namespace Go.Proofs.YtnjbdedmalpccaaDoor
open Go.RowKit
set_option maxRecDepth 100000
attribute [local go_sem] str_size str_toList str_get

def leS (a b : S8) : Bool := Op.bytesLess a b || a == b
def PS.dropR (S : PS) (r : RecT) : PS := if (S.act r.addr).isSome = true then S else S.remove r ⟨0, r.addr, [], [], false⟩
variable {w0 w wr w' : World} {p N G H n E : Nat} {cg ch : Array Value} {S : PS}
theorem LkI.turn {N2 n2 E2 : Nat} {S2 : PS} (h : LkI w0 w wr p N G H cg ch S n E) (p5 : PnAt w0.heap.size N2 w' p S2) (ok2 : S2.Ok) (hn : S2.steps.length = n2) (hE : S2.edges.length ≤ E2) (b5 : Below w0.heap.size wr w') (a5 : Aside2 wr w') : LkI w0 w w' p N2 G H cg ch S2 n2 E2 :=
  ⟨p5, ok2, hn, hE, h.bel.trans b5, (a5 _ _ _ _ h.sol (by decide) (by decide) (by decide)).trans h.sol, (a5 _ _ _ _ h.st (by decide) (by decide) (by decide)).trans h.st, h.asd.trans a5⟩
def mergeS : List IX → List RX → PS → PS
  | [], [], S => S
  | x :: xs, [], S => mergeS xs [] (S.inst x.1)
  | [], r :: rs, S => mergeS [] rs (S.dropR r.1)
  | x :: xs, r :: rs, S => if leS x.1.addr r.1.addr = true then mergeS xs (r :: rs) (S.inst x.1) else mergeS (x :: xs) rs (S.dropR r.1)
termination_by xs rs => xs.length + rs.length
def makeS (xs : List IX) (rs : List RX) : PS := (mergeS xs rs (readS xs rs)).link xs rs
theorem merge_nil (S : PS) : mergeS [] [] S = S := by rw [mergeS]
theorem merge_inst (x : IX) (xs : List IX) (rs : List RX) (S : PS) (h : ∀ r rs', rs = r :: rs' → leS x.1.addr r.1.addr = true) : mergeS (x :: xs) rs S = mergeS xs rs (S.inst x.1) := by
  cases rs with
  | nil => rw [mergeS]
  | cons r rs => rw [mergeS, if_pos (h r rs rfl)]
theorem merge_drop (r : RX) (xs : List IX) (rs : List RX) (S : PS) (h : ∀ x xs', xs = x :: xs' → leS x.1.addr r.1.addr = false) : mergeS xs (r :: rs) S = mergeS xs rs (S.dropR r.1) := by
  cases xs with
  | nil => rw [mergeS]
  | cons x xs => rw [mergeS, if_neg (by rw [h x xs rfl]; simp)]
theorem inst_same (S : PS) (x : InstT) : (S.inst x).act = S.act ∧ (S.inst x).rcd = S.rcd ∧ (S.inst x).steps.length ≤ S.steps.length + 2 ∧ (S.inst x).edges.length ≤ S.edges.length + 1 := by
  have ha : ∀ (S : PS) (a b : Nat), (S.ahead a b).rcd = S.rcd := fun S a b => by unfold PS.ahead; split <;> rfl
  unfold PS.inst
  split
  · exact ⟨rfl, rfl, by rw [steps_make]; omega, Nat.le_succ _⟩
  · split
    · exact ⟨rfl, rfl, by rw [steps_make]; omega, Nat.le_succ _⟩
    · split
      · refine ⟨(ahead_same _ _ _).1, ha _ _ _, ?_, ahead_len _ _ _⟩
        rw [(ahead_same _ _ _).2, steps_make, steps_remove]
        omega
      · split
        · refine ⟨(ahead_same _ _ _).1, ha _ _ _, ?_, ahead_len _ _ _⟩
          rw [(ahead_same _ _ _).2, steps_remove, steps_make]
          omega
        · exact ⟨rfl, rfl, by omega, by omega⟩
theorem PS.Ok.inst {S : PS} (h : S.Ok) (x : InstT) : (S.inst x).Ok := by
  unfold PS.inst
  split
  · exact h.make _
  · split
    · exact h.make _
    · split
      · exact ((h.remove _ _).make _).ahead _ _
      · split
        · exact ((h.make _).remove _ _).ahead _ _
        · exact h
theorem rcdOf_mem (rs : List RX) (t : S8) (R : RecT) (h : rcdOf rs t = some R) : ∃ r ∈ rs, r.1 = R := by
  unfold rcdOf at h
  suffices hh : ∀ (l : List RX) (f : S8 → Option RecT), l.foldl (fun f r => upd f r.1.addr r.1) f t = some R → (∃ r ∈ l, r.1 = R) ∨ f t = some R by
    rcases hh rs _ h with h | h
    · exact h
    · cases h
  intro l
  induction l with
  | nil => intro f h; exact .inr h
  | cons r l ih =>
    intro f h
    rw [List.foldl_cons] at h
    rcases ih _ h with ⟨r', hr, e⟩ | h
    · exact .inl ⟨r', List.mem_cons_of_mem _ hr, e⟩
    · unfold upd at h
      split at h
      · exact .inl ⟨r, by simp, Option.some.inj h⟩
      · exact .inr h
theorem rcdOf_fit {w : World} {v : Value} {rs : List RX} (h : RecsAt w v rs) (t : S8) : fitS ((rcdOf rs t).getD rec0).addr := by
  cases hh : rcdOf rs t with
  | none => exact Nat.zero_le _
  | some R =>
    obtain ⟨r, hr, rfl⟩ := rcdOf_mem rs t R hh
    exact Nat.le_trans (h.fit r hr).1 (by decide)

theorem steps_head (ss : List StepT) (h : ss.length ≠ 0) : ∃ k, (stepsC ss)[0]? = some (.int .i64 k) := by
  cases ss with
  | nil => exact absurd rfl h
  | cons s r => exact ⟨s.op, rfl⟩
theorem CellsAt.away {w w' : World} {v : Value} {n : Nat} {cs : List Value} {G : Nat} {c0 c1 : Option Addr} {n0 k0 n1 k1 : Nat} {T : TypeId} (h : CellsAt w v n cs) (hf : n ≠ 0 → ∃ k, cs[0]? = some (.int .i64 k)) (hG : w.heap[G]? = some (.cells #[.slice c0 n0 k0, .slice c1 n1 k1] T (0, 0))) (hs : w.heap.size ≤ w'.heap.size) (hk : ∀ q, q ≠ G → w'.heap[q]? = w.heap[q]?) : CellsAt w' v n cs := by
  obtain ⟨ao, cap, hv, hm, hc⟩ := h
  refine ⟨ao, cap, hv, hm, fun hne => ?_⟩
  obtain ⟨b, off, ha, hlt, hcell⟩ := hc hne
  obtain ⟨k, hk0⟩ := hf hne
  have hb : b ≠ G := fun e => by
    subst e
    have h0 := hcell 0 _ hk0
    rw [Addr.add_lit, Nat.add_zero, Lib.cell_of_heap hG] at h0
    match off, h0 with
    | 0, h0 => cases h0
    | 1, h0 => cases h0
    | k + 2, h0 => simp at h0
  refine ⟨b, off, ha, Nat.lt_of_lt_of_le hlt hs, fun j u hj => ?_⟩
  have e : w'.cell? ⟨b, off + j, none⟩ = w.cell? ⟨b, off + j, none⟩ := World.cell?_of_block (w := w) (hk b hb)
  have h1 := hcell j u hj
  rw [Addr.add_lit] at h1 ⊢
  rw [e]
  exact h1

set_option maxHeartbeats 16000000 in
theorem Make_any (xs : List IX) (rs : List RX) (vi vr : Value) (w : World) (L : List (Int × Int)) (hx : InstsAt w vi xs) (hr : RecsAt w vr rs) (hl : xs.length ≤ 40) (hrl : rs.length ≤ 60) (hpv : ∀ x ∈ xs, x.1.prevent = false) (hT : Tab w)
    (hs : (makeS xs rs).steps.length ≤ 512) (he : (makeS xs rs).edges.length ≤ 4096) (hn : (makeS xs rs).edges.Nodup) (hrd : ∀ ts : List (Int × Int), ts.Perm (makeS xs rs).edges → reduceR (makeS xs rs).steps.length ts = (L, 0)) :
    Calls Tryd.prog 5 #[solV vi, stV vr] w fun e w' => ∃ vs vL, e = .returned (.tuple #[.agg #[vs, vL], .string ⟨#[]⟩, .int .i64 0]) ∧ CellsAt w' vs (makeS xs rs).steps.length (stepsC (makeS xs rs).steps) ∧ PairsAt w' vL L ∧ Below w.heap.size w w' := by
  have mixed : Tryd.prog.follows .mixedOrders = true := by kernel_rfl
  obtain ⟨ao, co, rfl, hm0, _⟩ := hx.cells
  obtain ⟨ar, cr, rfl, hm1, _⟩ := hr.cells
  unfold solV stV
  obtain ⟨wA, hwA⟩ : ∃ wA, wA = ((w.alloc (.cells #[.slice ao xs.length co, .int .i64 0, .bool false, .string ⟨#[]⟩, .slice none 0 0, .slice none 0 0] 31)).alloc (.cells #[.int .i64 0, .slice ar rs.length cr] 34)).alloc (.cells #[.slice none 0 0, .slice none 0 0] 45) := ⟨_, rfl⟩
  have s1 : ∀ (u : World) (o : Obj), (u.alloc o).heap.size = u.heap.size + 1 := fun u o => by simp only [World.alloc, Array.size_push]
  have nQ : wA.heap[w.heap.size + 1 + 1]? = some (.cells #[.slice none 0 0, .slice none 0 0] 45 (0, 0)) := by rw [hwA, ← s1, ← s1]; exact heap_alloc_new _ _
  have nH : wA.heap[w.heap.size + 1]? = some (.cells #[.int .i64 0, .slice ar rs.length cr] 34 (0, 0)) := by rw [hwA, Below.heap_alloc _ _ _ (by rw [s1, s1]; omega), ← s1]; exact heap_alloc_new _ _
  have nG : wA.heap[w.heap.size]? = some (.cells #[.slice ao xs.length co, .int .i64 0, .bool false, .string ⟨#[]⟩, .slice none 0 0, .slice none 0 0] 31 (0, 0)) := by rw [hwA, Below.heap_alloc _ _ _ (by rw [s1, s1]; omega), Below.heap_alloc _ _ _ (by rw [s1]; omega)]; exact heap_alloc_new _ _
  have bA : Below w.heap.size w wA := by rw [hwA]; exact (((Below.refl _ w).alloc (Nat.le_refl _) _).alloc (by rw [s1]; omega) _).alloc (by rw [s1, s1]; omega) _
  have HX := Lib.hid (hx.mono bA)
  have HR := Lib.hid (hr.mono bA)
  have HT := Lib.hid (hT.mono bA)
  obtain ⟨G, hG⟩ : ∃ G, w.heap.size = G := ⟨_, rfl⟩
  obtain ⟨H, hH⟩ : ∃ H, G + 1 = H := ⟨_, rfl⟩
  obtain ⟨Q, hQ⟩ : ∃ Q, H + 1 = Q := ⟨_, rfl⟩
  rw [hG] at nG nH nQ
  rw [hH] at nH nQ
  rw [hQ] at nQ
  have HBA := Lib.hid bA
  have HGQ := Lib.hid (show w.heap.size ≤ Q by omega)
  have RA := read_any xs rs _ _ wA HX.out HR.out hl hrl
  unfold solV stV at RA
  have NG := Lib.hid nG
  have NH := Lib.hid nH
  have NQ := Lib.hid nQ
  obtain ⟨g0, g1, g2, g3, g4, g5⟩ := cells6 nG
  obtain ⟨h0, h1⟩ := cells2 nH
  have HS := Lib.hid (⟨hs, he, hn, hrd⟩ : _ ∧ _ ∧ _ ∧ _)
  have HPV := Lib.hid hpv
  have l1 : rs.length ≤ 9223372036854775807 := by omega
  have l2 : xs.length ≤ 9223372036854775807 := by omega
  clear hs he hn hrd hpv nG nH nQ s1 bA hx hr hT
  go_enter Tryd.func5, Tryd.ntmps5
  go_upto_region 1 with fail
  rw [← hwA]
  try rw [hG]
  try rw [hH]
  try rw [hQ]
  clear hwA hG hH hQ
  go_wp2_with fail
  refine RA.mono ?_
  rintro e w1 ⟨p, N, rfl, hN, hp, hb1⟩
  have HL0 : Hid (LkI wA wA w1 p N G H #[.slice ao xs.length co, .int .i64 0, .bool false, .string ⟨#[]⟩, .slice none 0 0, .slice none 0 0] #[.int .i64 0, .slice ar rs.length cr] (readS xs rs) 0 0) := ⟨hp, fun t => ⟨Nat.le_refl _, Nat.le_refl _⟩, rfl, Nat.le_refl _, hb1, (hb1.block _ (heap_lt NG.out)).trans NG.out, (hb1.block _ (heap_lt NH.out)).trans NH.out, Aside2.of_below hb1⟩
  clear RA hp hb1 g0 g1 g2 g3 g4 g5 h0 h1
  obtain ⟨g0, _⟩ := cells6 HL0.out.sol
  go_wp2
  go_loopg [22] xs.length (fun gg v22 wr => ∃ i : Nat, v22 = .int .i64 i ∧ i + gg = xs.length ∧ Hid (LkI wA wA wr p N G H #[.slice ao xs.length co, .int .i64 0, .bool false, .string ⟨#[]⟩, .slice none 0 0, .slice none 0 0] #[.int .i64 0, .slice ar rs.length cr] (readS xs rs) 0 0))
  case atStart => exact ⟨0, rfl, by omega, HL0⟩
  case round =>
    clear HL0 g0
    obtain ⟨i, rfl, hig, HL⟩ := hrel
    cases gk with
    | succ gg =>
      have hil : i < xs.length := by omega
      have hie : (i : Int) < (xs.length : Int) := by omega
      obtain ⟨x, hx⟩ : ∃ x, xs[i]? = some x := ⟨_, List.getElem?_eq_getElem hil⟩
      have hmem := List.mem_of_getElem? hx
      obtain ⟨b, off, rfl, hlt, c0, c1, c2, c3, c4, c5, c6, c7, c8, c9⟩ := (HX.out.mono HL.out.bel).row hx
      have hfx : fitS x.1.addr := Nat.le_trans (HX.out.fit _ hmem).1 (by decide)
      rw [HPV.out _ hmem] at c8
      obtain ⟨wO, hwO⟩ : ∃ wO, wO = wr.alloc (.cells #[str x.1.addr, str x.1.typ, .int .i64 x.1.k, .bool x.1.f, str x.1.tx, .slice x.1.ai x.1.ni x.1.ci, .slice x.1.ak x.1.nk x.1.ck, .int .i64 x.1.action, .bool false, .slice x.1.ad x.1.nd x.1.cd] 41) := ⟨_, rfl⟩
      have bO : Below wr.heap.size wr wO := by rw [hwO]; exact (Below.refl _ wr).alloc (Nat.le_refl _) _
      have nO : wO.heap[wr.heap.size]? = some (.cells #[str x.1.addr, str x.1.typ, .int .i64 x.1.k, .bool x.1.f, str x.1.tx, .slice x.1.ai x.1.ni x.1.ci, .slice x.1.ak x.1.nk x.1.ck, .int .i64 x.1.action, .bool false, .slice x.1.ad x.1.nd x.1.cd] 41 (0, 0)) := by rw [hwO]; exact heap_alloc_new _ _
      have HLO := Lib.hid (HL.out.below bO)
      obtain ⟨a', r', m', v', vs', ve', hI, hLk⟩ := HLO.out.at_.looks
      obtain ⟨x0, x1, x2, x3, x4, x5⟩ := cells6 hI.1
      obtain ⟨t0, t1, t2, t3, t4, t5, t6, t7, t8, t9⟩ := cells10 nO
      have T3 := hLk.act _ x.1.addr (Below.refl _ wO).drew hfx
      obtain ⟨AA, hAA⟩ : ∃ AA, ((readS xs rs).act x.1.addr).getD 0 = AA := ⟨_, rfl⟩
      rw [hAA] at T3
      have HD := Lib.hid (HLO.out.below (Below.refl _ wO).drew)
      clear hx hmem hfx bO nO HL hI hLk hAA HLO
      go_upto_region 5 with fail
      rw [← hwO]
      clear hwO c0 c1 c2 c3 c4 c5 c6 c7 c8 c9
      go_region_law_o fail
      all_goals
        clear T3 x0 x1 x2 x3 x4 x5
        go_wp2
        go_roundg gg
        case measure => omega
        case rel => exact ⟨i + 1, by go_num, by omega, HD⟩
    | zero =>
      obtain rfl : i = xs.length := by omega
      clear hig
      have HM0 : Hid (LkI wA wA wr p N G H #[.slice ao xs.length co, .int .i64 0, .bool false, .string ⟨#[]⟩, .slice none 0 0, .slice none 0 0] #[.int .i64 0, .slice ar rs.length cr] (readS xs rs) 0 0 ∧ mergeS (xs.drop 0) (rs.drop 0) (readS xs rs) = mergeS xs rs (readS xs rs) ∧ (readS xs rs).rcd = rcdOf rs) := Lib.hid ⟨HL.out, rfl, rfl⟩
      clear HL
      go_wp2
      go_loopg [11, 12] (xs.length + rs.length) (fun gg v11 v12 wr => ∃ (i k : Nat) (S1 : PS) (N1 n1 E1 : Nat), v11 = .int .i64 i ∧ v12 = .int .i64 k ∧ i ≤ xs.length ∧ k ≤ rs.length ∧ (xs.length - i) + (rs.length - k) = gg ∧ N1 ≤ 5000 + 2 * (i + k) ∧ n1 ≤ 2 * (i + k) ∧ E1 ≤ i + k ∧ Hid (LkI wA wA wr p N1 G H #[.slice ao xs.length co, .int .i64 0, .bool false, .string ⟨#[]⟩, .slice none 0 0, .slice none 0 0] #[.int .i64 0, .slice ar rs.length cr] S1 n1 E1 ∧ mergeS (xs.drop i) (rs.drop k) S1 = mergeS xs rs (readS xs rs) ∧ S1.rcd = rcdOf rs))
      case atStart => exact ⟨0, 0, _, N, 0, 0, rfl, rfl, by omega, by omega, by omega, by omega, by omega, by omega, HM0⟩
      case round =>
        clear HM0
        obtain ⟨i, k, S1, N1, n1, E1, rfl, rfl, hi, hk, hgg, hN1, hn1, hE1, HL⟩ := hrel
        obtain ⟨g0, g1, g2, g3, g4, g5⟩ := cells6 HL.out.1.sol
        obtain ⟨h0, h1⟩ := cells2 HL.out.1.st
        by_cases hkl : k < rs.length
        · have hki : (k : Int) < (rs.length : Int) := by omega
          have hkb : ((k : Int) == (rs.length : Int)) = false := by simp; omega
          obtain ⟨y, hy⟩ : ∃ y, rs[k]? = some y := ⟨_, List.getElem?_eq_getElem hkl⟩
          have hdr : rs.drop k = y :: rs.drop (k + 1) := by
            obtain ⟨e1, e2⟩ := List.getElem?_eq_some_iff.1 hy
            rw [List.drop_eq_getElem_cons e1, e2]
          by_cases hil : i < xs.length
          · have hie : (i : Int) < (xs.length : Int) := by omega
            obtain ⟨x, hx⟩ : ∃ x, xs[i]? = some x := ⟨_, List.getElem?_eq_getElem hil⟩
            have hdx : xs.drop i = x :: xs.drop (i + 1) := by
              obtain ⟨e1, e2⟩ := List.getElem?_eq_some_iff.1 hx
              rw [List.drop_eq_getElem_cons e1, e2]
            obtain ⟨b, off, rfl, hlt, r0, r1, r2, r3, r4, r5, r6, r7, r8⟩ := (HR.out.mono HL.out.1.bel).row hy
            obtain ⟨b2, off2, rfl, hlt2, c0, c1, c2, c3, c4, c5, c6, c7, c8, c9⟩ := (HX.out.mono HL.out.1.bel).row hx
            have HXI := Lib.hid hx
            have HY := Lib.hid hy
            have hq : (Op.bytesLess x.1.addr y.1.addr = true) ∨ (Op.bytesLess x.1.addr y.1.addr = false ∧ (x.1.addr == y.1.addr) = true) ∨ (Op.bytesLess x.1.addr y.1.addr = false ∧ (x.1.addr == y.1.addr) = false) := by
              cases Op.bytesLess x.1.addr y.1.addr <;> cases (x.1.addr == y.1.addr) <;> simp
            rcases hq with hq | ⟨hq, hv⟩ | ⟨hq, hv⟩
            · have hmg : mergeS (xs.drop i) (rs.drop k) S1 = mergeS (xs.drop (i + 1)) (rs.drop k) (S1.inst x.1) := by
                rw [hdx, hdr]
                exact merge_inst x _ _ S1 (fun r rs' e => by injection e with e _; rw [← e]; unfold leS; rw [hq]; rfl)
              have HMG := Lib.hid hmg
              clear hmg hdr hdx hx hy
              go_upto_region 11 with fail
              go_quiet (fail)
              obtain ⟨wq, hwq⟩ : ∃ wq, wq = wr.drewN nq := ⟨_, rfl⟩
              have hbq : Below wr.heap.size wr wq := by rw [hwq]; exact below_drawn (Below.refl _ wr) nq
              rw [← hwq]
              have HLQ := Lib.hid (⟨HL.out.1.below hbq, HL.out.2⟩ : _ ∧ _)
              clear hwq hbq HL g0 g1 g2 g3 g4 g5 h0 h1
              obtain ⟨g0, g1, g2, g3, g4, g5⟩ := cells6 HLQ.out.1.sol
              obtain ⟨h0, h1⟩ := cells2 HLQ.out.1.st
              clear r0 r1 r2 r3 r4 r5 r6 r7 r8 c0 c1 c2 c3 c4 c5 c6 c7 c8 c9 hq
              obtain ⟨bi, offi, haei, hlti, c0, c1, c2, c3, c4, c5, c6, c7, c8, c9⟩ := (HX.out.mono HLQ.out.1.bel).row HXI.out
              cases haei
              have hxa := (HX.out.fit _ (List.mem_of_getElem? HXI.out)).1
              have hn5 : S1.steps.length ≤ 2 * (i + k) := by rw [HLQ.out.1.len]; exact hn1
              have hE5 := HLQ.out.1.edg
              have IC := instance_any HLQ.out.1.at_ HLQ.out.1.ok x.1 (by omega) (by rw [HLQ.out.2.2]; exact rcdOf_fit HR.out _) (by omega) (by omega) (by omega)
              unfold instV at IC
              have HM2 := Lib.hid (HMG.out.symm.trans HLQ.out.2.1)
              have hsm := inst_same S1 x.1
              have HRC := Lib.hid (hsm.2.1.trans HLQ.out.2.2)
              have hsm1 := hsm.2.2.1
              have hsm2 := hsm.2.2.2
              clear hsm
              go_wp2_with fail
              refine IC.mono ?_
              rintro e w5 ⟨rfl, p5, b5, a5⟩
              have HF := Lib.hid (⟨HLQ.out.1.turn p5 (HLQ.out.1.ok.inst _) rfl (show (S1.inst x.1).edges.length ≤ E1 + 1 by omega) b5 a5, HM2.out, HRC.out⟩ : _ ∧ _ ∧ _)
              clear IC p5 b5 a5 c0 c1 c2 c3 c4 c5 c6 c7 c8 c9 g0 g1 g2 g3 g4 g5 h0 h1 HLQ
              go_wp2
              go_roundg ((xs.length - (i + 1)) + (rs.length - k))
              case measure => omega
              case rel => exact ⟨i + 1, k, _, N1 + 2, _, E1 + 1, by go_num, rfl, by omega, by omega, by omega, by omega, by omega, by omega, HF⟩
            · have hmg : mergeS (xs.drop i) (rs.drop k) S1 = mergeS (xs.drop (i + 1)) (rs.drop k) (S1.inst x.1) := by
                rw [hdx, hdr]
                exact merge_inst x _ _ S1 (fun r rs' e => by injection e with e _; rw [← e]; unfold leS; rw [hq, hv]; rfl)
              have HMG := Lib.hid hmg
              clear hmg hdr hdx hx hy
              go_upto_region 11 with fail
              go_quiet (fail)
              obtain ⟨wq, hwq⟩ : ∃ wq, wq = wr.drewN nq := ⟨_, rfl⟩
              have hbq : Below wr.heap.size wr wq := by rw [hwq]; exact below_drawn (Below.refl _ wr) nq
              rw [← hwq]
              have HLQ := Lib.hid (⟨HL.out.1.below hbq, HL.out.2⟩ : _ ∧ _)
              clear hwq hbq HL g0 g1 g2 g3 g4 g5 h0 h1
              obtain ⟨g0, g1, g2, g3, g4, g5⟩ := cells6 HLQ.out.1.sol
              obtain ⟨h0, h1⟩ := cells2 HLQ.out.1.st
              clear r0 r1 r2 r3 r4 r5 r6 r7 r8 c0 c1 c2 c3 c4 c5 c6 c7 c8 c9 hq hv
              obtain ⟨bi, offi, haei, hlti, c0, c1, c2, c3, c4, c5, c6, c7, c8, c9⟩ := (HX.out.mono HLQ.out.1.bel).row HXI.out
              cases haei
              have hxa := (HX.out.fit _ (List.mem_of_getElem? HXI.out)).1
              have hn5 : S1.steps.length ≤ 2 * (i + k) := by rw [HLQ.out.1.len]; exact hn1
              have hE5 := HLQ.out.1.edg
              have IC := instance_any HLQ.out.1.at_ HLQ.out.1.ok x.1 (by omega) (by rw [HLQ.out.2.2]; exact rcdOf_fit HR.out _) (by omega) (by omega) (by omega)
              unfold instV at IC
              have HM2 := Lib.hid (HMG.out.symm.trans HLQ.out.2.1)
              have hsm := inst_same S1 x.1
              have HRC := Lib.hid (hsm.2.1.trans HLQ.out.2.2)
              have hsm1 := hsm.2.2.1
              have hsm2 := hsm.2.2.2
              clear hsm
              go_wp2_with fail
              refine IC.mono ?_
              rintro e w5 ⟨rfl, p5, b5, a5⟩
              have HF := Lib.hid (⟨HLQ.out.1.turn p5 (HLQ.out.1.ok.inst _) rfl (show (S1.inst x.1).edges.length ≤ E1 + 1 by omega) b5 a5, HM2.out, HRC.out⟩ : _ ∧ _ ∧ _)
              clear IC p5 b5 a5 c0 c1 c2 c3 c4 c5 c6 c7 c8 c9 g0 g1 g2 g3 g4 g5 h0 h1 HLQ
              go_wp2
              go_roundg ((xs.length - (i + 1)) + (rs.length - k))
              case measure => omega
              case rel => exact ⟨i + 1, k, _, N1 + 2, _, E1 + 1, by go_num, rfl, by omega, by omega, by omega, by omega, by omega, by omega, HF⟩
            · have hmg : mergeS (xs.drop i) (rs.drop k) S1 = mergeS (xs.drop i) (rs.drop (k + 1)) (S1.dropR y.1) := by
                rw [hdx, hdr]
                exact merge_drop y _ _ S1 (fun x' xs' e => by injection e with e _; rw [← e]; unfold leS; rw [hq, hv]; rfl)
              have HMG := Lib.hid hmg
              clear hmg hdr hdx hx hy
              go_upto_region 11 with fail
              go_quiet (fail)
              obtain ⟨wq, hwq⟩ : ∃ wq, wq = wr.drewN nq := ⟨_, rfl⟩
              have hbq : Below wr.heap.size wr wq := by rw [hwq]; exact below_drawn (Below.refl _ wr) nq
              rw [← hwq]
              have HLQ := Lib.hid (⟨HL.out.1.below hbq, HL.out.2⟩ : _ ∧ _)
              clear hwq hbq HL g0 g1 g2 g3 g4 g5 h0 h1
              obtain ⟨g0, g1, g2, g3, g4, g5⟩ := cells6 HLQ.out.1.sol
              obtain ⟨h0, h1⟩ := cells2 HLQ.out.1.st
              clear r0 r1 r2 r3 r4 r5 r6 r7 r8 c0 c1 c2 c3 c4 c5 c6 c7 c8 c9 hq hv
              obtain ⟨br, offr, haer, hltr, r0, r1, r2, r3, r4, r5, r6, r7, r8⟩ := (HR.out.mono HLQ.out.1.bel).row HY.out
              cases haer
              have hfy : fitS y.1.addr := Nat.le_trans (HR.out.fit _ (List.mem_of_getElem? HY.out)).1 (by decide)
              obtain ⟨wO, hwO⟩ : ∃ wO, wO = wq.alloc (.cells #[str y.1.addr, str y.1.typ, str y.1.id, .int .i64 y.1.k, .bool y.1.f, str y.1.tx, .slice y.1.ai y.1.ni y.1.ci, .slice y.1.ak y.1.nk y.1.ck, .slice y.1.ad y.1.nd y.1.cd] 37) := ⟨_, rfl⟩
              have bO : Below wq.heap.size wq wO := by rw [hwO]; exact (Below.refl _ wq).alloc (Nat.le_refl _) _
              have nO : wO.heap[wq.heap.size]? = some (.cells #[str y.1.addr, str y.1.typ, str y.1.id, .int .i64 y.1.k, .bool y.1.f, str y.1.tx, .slice y.1.ai y.1.ni y.1.ci, .slice y.1.ak y.1.nk y.1.ck, .slice y.1.ad y.1.nd y.1.cd] 37 (0, 0)) := by rw [hwO]; exact heap_alloc_new _ _
              have HLO := Lib.hid (HLQ.out.1.below bO)
              obtain ⟨a', r', m', v', vs', ve', hI, hLk⟩ := HLO.out.at_.looks
              obtain ⟨x0, x1, x2, x3, x4, x5⟩ := cells6 hI.1
              obtain ⟨t0, t1, t2, t3, t4, t5, t6, t7, t8⟩ := cells9 nO
              have T3 := hLk.actB _ y.1.addr (Below.refl _ wO).drew hfy
              obtain ⟨AA, hAA⟩ : ∃ AA, (S1.act y.1.addr).getD 0 = AA := ⟨_, rfl⟩
              obtain ⟨BB, hBB⟩ : ∃ BB, (S1.act y.1.addr).isSome = BB := ⟨_, rfl⟩
              rw [hAA, hBB] at T3
              have HBB := Lib.hid hBB
              have HD := Lib.hid (HLO.out.below (Below.refl _ wO).drew)
              have HNO := Lib.hid nO
              have HM2 := Lib.hid (HMG.out.symm.trans HLQ.out.2.1)
              have HRC := Lib.hid HLQ.out.2.2
              have hn5 : S1.steps.length ≤ 2 * (i + k) := by rw [HLQ.out.1.len]; exact hn1
              have hE5 := HLQ.out.1.edg
              clear bO nO hI hLk hAA hBB HLO HMG HLQ
              go_upto_region 15 with fail
              rw [← hwO]
              clear hwO r0 r1 r2 r3 r4 r5 r6 r7 r8 g0 g1 g2 g3 g4 g5 h0 h1
              go_region_law_o fail
              all_goals
                clear T3 x0 x1 x2 x3 x4 x5
                cases BB with
                | true =>
                  have hdr : S1.dropR y.1 = S1 := by unfold PS.dropR; rw [if_pos HBB.out]
                  have hm3 := HM2.out
                  rw [hdr] at hm3
                  have HM3 := Lib.hid (⟨HD.out, hm3, HRC.out⟩ : _ ∧ _ ∧ _)
                  clear hdr hm3 t0 t1 t2 t3 t4 t5 t6 t7 t8
                  go_wp2
                  go_roundg ((xs.length - i) + (rs.length - (k + 1)))
                  case measure => omega
                  case rel => exact ⟨i, k + 1, S1, N1, n1, E1, rfl, by go_num, by omega, by omega, by omega, by omega, by omega, by omega, HM3⟩
                | false =>
                  have hdr : S1.dropR y.1 = S1.remove y.1 ⟨0, y.1.addr, [], [], false⟩ := by unfold PS.dropR; rw [if_neg (by rw [HBB.out]; decide)]
                  have hm3 := HM2.out
                  rw [hdr] at hm3
                  have HM3 := Lib.hid hm3
                  have RM := remove_any HD.out.at_ y.1 ⟨0, y.1.addr, [], [], false⟩ hfy (by omega) (by omega)
                  unfold stepV recV at RM
                  clear hdr hm3
                  go_wp2_with fail
                  refine RM.mono ?_
                  rintro e w5 ⟨rfl, p5, b5, a5⟩
                  have HF := Lib.hid (⟨HD.out.turn p5 (HD.out.ok.remove _ _) rfl (Nat.le_trans hE5 (Nat.le_succ E1)) b5 a5, HM3.out, HRC.out⟩ : _ ∧ _ ∧ _)
                  clear RM p5 b5 a5 t0 t1 t2 t3 t4 t5 t6 t7 t8
                  go_wp2
                  go_roundg ((xs.length - i) + (rs.length - (k + 1)))
                  case measure => omega
                  case rel => exact ⟨i, k + 1, _, N1 + 1, _, E1 + 1, rfl, by go_num, by omega, by omega, by omega, by omega, by rw [steps_remove]; omega, by omega, HF⟩
          · obtain rfl : i = xs.length := by omega
            have hie : ¬ (xs.length : Int) < (xs.length : Int) := by omega
            obtain ⟨b, off, rfl, hlt, r0, r1, r2, r3, r4, r5, r6, r7, r8⟩ := (HR.out.mono HL.out.1.bel).row hy
            have hmg : mergeS (xs.drop xs.length) (rs.drop k) S1 = mergeS (xs.drop xs.length) (rs.drop (k + 1)) (S1.dropR y.1) := by
              rw [hdr]
              exact merge_drop y _ _ S1 (fun x xs' e => by rw [List.drop_length] at e; cases e)
            have HMG := Lib.hid hmg
            have HY := Lib.hid hy
            clear hmg hdr hy
            go_upto_region 11 with fail
            go_quiet (fail)
            obtain ⟨wq, hwq⟩ : ∃ wq, wq = wr.drewN nq := ⟨_, rfl⟩
            have hbq : Below wr.heap.size wr wq := by rw [hwq]; exact below_drawn (Below.refl _ wr) nq
            rw [← hwq]
            have HLQ := Lib.hid (⟨HL.out.1.below hbq, HL.out.2⟩ : _ ∧ _)
            clear hwq hbq HL g0 g1 g2 g3 g4 g5 h0 h1
            obtain ⟨g0, g1, g2, g3, g4, g5⟩ := cells6 HLQ.out.1.sol
            obtain ⟨h0, h1⟩ := cells2 HLQ.out.1.st
            clear r0 r1 r2 r3 r4 r5 r6 r7 r8
            obtain ⟨br, offr, haer, hltr, r0, r1, r2, r3, r4, r5, r6, r7, r8⟩ := (HR.out.mono HLQ.out.1.bel).row HY.out
            cases haer
            have hfy : fitS y.1.addr := Nat.le_trans (HR.out.fit _ (List.mem_of_getElem? HY.out)).1 (by decide)
            obtain ⟨wO, hwO⟩ : ∃ wO, wO = wq.alloc (.cells #[str y.1.addr, str y.1.typ, str y.1.id, .int .i64 y.1.k, .bool y.1.f, str y.1.tx, .slice y.1.ai y.1.ni y.1.ci, .slice y.1.ak y.1.nk y.1.ck, .slice y.1.ad y.1.nd y.1.cd] 37) := ⟨_, rfl⟩
            have bO : Below wq.heap.size wq wO := by rw [hwO]; exact (Below.refl _ wq).alloc (Nat.le_refl _) _
            have nO : wO.heap[wq.heap.size]? = some (.cells #[str y.1.addr, str y.1.typ, str y.1.id, .int .i64 y.1.k, .bool y.1.f, str y.1.tx, .slice y.1.ai y.1.ni y.1.ci, .slice y.1.ak y.1.nk y.1.ck, .slice y.1.ad y.1.nd y.1.cd] 37 (0, 0)) := by rw [hwO]; exact heap_alloc_new _ _
            have HLO := Lib.hid (HLQ.out.1.below bO)
            obtain ⟨a', r', m', v', vs', ve', hI, hLk⟩ := HLO.out.at_.looks
            obtain ⟨x0, x1, x2, x3, x4, x5⟩ := cells6 hI.1
            obtain ⟨t0, t1, t2, t3, t4, t5, t6, t7, t8⟩ := cells9 nO
            have T3 := hLk.actB _ y.1.addr (Below.refl _ wO).drew hfy
            obtain ⟨AA, hAA⟩ : ∃ AA, (S1.act y.1.addr).getD 0 = AA := ⟨_, rfl⟩
            obtain ⟨BB, hBB⟩ : ∃ BB, (S1.act y.1.addr).isSome = BB := ⟨_, rfl⟩
            rw [hAA, hBB] at T3
            have HBB := Lib.hid hBB
            have HD := Lib.hid (HLO.out.below (Below.refl _ wO).drew)
            have HNO := Lib.hid nO
            have HM2 := Lib.hid (HMG.out.symm.trans HLQ.out.2.1)
            have HRC := Lib.hid HLQ.out.2.2
            have hn5 : S1.steps.length ≤ 2 * (xs.length + k) := by rw [HLQ.out.1.len]; exact hn1
            have hE5 := HLQ.out.1.edg
            clear bO nO hI hLk hAA hBB HLO HMG HLQ
            go_upto_region 15 with fail
            rw [← hwO]
            clear hwO r0 r1 r2 r3 r4 r5 r6 r7 r8 g0 g1 g2 g3 g4 g5 h0 h1
            go_region_law_o fail
            all_goals
              clear T3 x0 x1 x2 x3 x4 x5
              cases BB with
              | true =>
                have hdr : S1.dropR y.1 = S1 := by unfold PS.dropR; rw [if_pos HBB.out]
                have hm3 := HM2.out
                rw [hdr] at hm3
                have HM3 := Lib.hid (⟨HD.out, hm3, HRC.out⟩ : _ ∧ _ ∧ _)
                clear hdr hm3 t0 t1 t2 t3 t4 t5 t6 t7 t8
                go_wp2
                go_roundg ((xs.length - xs.length) + (rs.length - (k + 1)))
                case measure => omega
                case rel => exact ⟨xs.length, k + 1, S1, N1, n1, E1, rfl, by go_num, by omega, by omega, by omega, by omega, by omega, by omega, HM3⟩
              | false =>
                have hdr : S1.dropR y.1 = S1.remove y.1 ⟨0, y.1.addr, [], [], false⟩ := by unfold PS.dropR; rw [if_neg (by rw [HBB.out]; decide)]
                have hm3 := HM2.out
                rw [hdr] at hm3
                have HM3 := Lib.hid hm3
                have RM := remove_any HD.out.at_ y.1 ⟨0, y.1.addr, [], [], false⟩ hfy (by omega) (by omega)
                unfold stepV recV at RM
                clear hdr hm3
                go_wp2_with fail
                refine RM.mono ?_
                rintro e w5 ⟨rfl, p5, b5, a5⟩
                have HF := Lib.hid (⟨HD.out.turn p5 (HD.out.ok.remove _ _) rfl (Nat.le_trans hE5 (Nat.le_succ E1)) b5 a5, HM3.out, HRC.out⟩ : _ ∧ _ ∧ _)
                clear RM p5 b5 a5 t0 t1 t2 t3 t4 t5 t6 t7 t8
                go_wp2
                go_roundg ((xs.length - xs.length) + (rs.length - (k + 1)))
                case measure => omega
                case rel => exact ⟨xs.length, k + 1, _, N1 + 1, _, E1 + 1, rfl, by go_num, by omega, by omega, by omega, by omega, by rw [steps_remove]; omega, by omega, HF⟩
        · obtain rfl : k = rs.length := by omega
          have hki : ¬ (rs.length : Int) < (rs.length : Int) := by omega
          by_cases hil : i < xs.length
          · have hie : (i : Int) < (xs.length : Int) := by omega
            obtain ⟨x, hx⟩ : ∃ x, xs[i]? = some x := ⟨_, List.getElem?_eq_getElem hil⟩
            have hmg : mergeS (xs.drop i) (rs.drop rs.length) S1 = mergeS (xs.drop (i + 1)) (rs.drop rs.length) (S1.inst x.1) := by
              obtain ⟨e1, e2⟩ := List.getElem?_eq_some_iff.1 hx
              rw [List.drop_eq_getElem_cons e1, e2]
              exact merge_inst x _ _ S1 (fun r rs' e => by rw [List.drop_length] at e; cases e)
            have HMG := Lib.hid hmg
            have HXI := Lib.hid hx
            clear hmg hx
            go_upto_region 11 with fail
            go_quiet (fail)
            obtain ⟨wq, hwq⟩ : ∃ wq, wq = wr.drewN nq := ⟨_, rfl⟩
            have hbq : Below wr.heap.size wr wq := by rw [hwq]; exact below_drawn (Below.refl _ wr) nq
            rw [← hwq]
            have HLQ := Lib.hid (⟨HL.out.1.below hbq, HL.out.2⟩ : _ ∧ _)
            clear hwq hbq HL g0 g1 g2 g3 g4 g5 h0 h1
            obtain ⟨g0, g1, g2, g3, g4, g5⟩ := cells6 HLQ.out.1.sol
            obtain ⟨h0, h1⟩ := cells2 HLQ.out.1.st
            obtain ⟨bi, offi, haei, hlti, c0, c1, c2, c3, c4, c5, c6, c7, c8, c9⟩ := (HX.out.mono HLQ.out.1.bel).row HXI.out
            cases haei
            have hxa := (HX.out.fit _ (List.mem_of_getElem? HXI.out)).1
            have hn5 : S1.steps.length ≤ 2 * (i + rs.length) := by rw [HLQ.out.1.len]; exact hn1
            have hE5 := HLQ.out.1.edg
            have IC := instance_any HLQ.out.1.at_ HLQ.out.1.ok x.1 (by omega) (by rw [HLQ.out.2.2]; exact rcdOf_fit HR.out _) (by omega) (by omega) (by omega)
            unfold instV at IC
            have HM2 := Lib.hid (HMG.out.symm.trans HLQ.out.2.1)
            have hsm := inst_same S1 x.1
            have HRC := Lib.hid (hsm.2.1.trans HLQ.out.2.2)
            have hsm1 := hsm.2.2.1
            have hsm2 := hsm.2.2.2
            clear hsm
            go_wp2_with fail
            refine IC.mono ?_
            rintro e w5 ⟨rfl, p5, b5, a5⟩
            have HF := Lib.hid (⟨HLQ.out.1.turn p5 (HLQ.out.1.ok.inst _) rfl (show (S1.inst x.1).edges.length ≤ E1 + 1 by omega) b5 a5, HM2.out, HRC.out⟩ : _ ∧ _ ∧ _)
            clear IC p5 b5 a5 c0 c1 c2 c3 c4 c5 c6 c7 c8 c9 g0 g1 g2 g3 g4 g5 h0 h1 HLQ
            go_wp2
            go_roundg ((xs.length - (i + 1)) + (rs.length - rs.length))
            case measure => omega
            case rel => exact ⟨i + 1, rs.length, _, N1 + 2, _, E1 + 1, by go_num, rfl, by omega, by omega, by omega, by omega, by omega, by omega, HF⟩
          · obtain rfl : i = xs.length := by omega
            have hie : ¬ (xs.length : Int) < (xs.length : Int) := by omega
            have hfin : S1.link xs rs = makeS xs rs := by
              have := HL.out.2.1
              rw [List.drop_length, List.drop_length, merge_nil] at this
              unfold makeS
              rw [this]
            have LK := link_any xs rs _ _ wA wr p N1 n1 E1 S1 HX.out HR.out hl hrl HL.out.1.at_ HL.out.1.ok HL.out.1.len HL.out.1.edg HL.out.1.bel (by omega) (by omega)
            rw [hfin] at LK
            unfold solV stV at LK
            obtain ⟨hs, he, hn, hrd⟩ := HS.out
            have HSN := Lib.hid hn
            have HSR := Lib.hid hrd
            clear hfin hn hrd HL
            go_wp2_with fail
            refine LK.mono ?_
            rintro e w2 ⟨rfl, p2, b2, _, _, _, _⟩
            have PL := plan_any L p2 HT.out b2 hs he HSN.out HSR.out
            obtain ⟨F, hF⟩ : ∃ F, makeS xs rs = F := ⟨_, rfl⟩
            rw [hF] at PL
            have HFE := Lib.hid hF
            clear hF
            clear LK p2 b2 g0 g1 g2 g3 g4 g5 h0 h1 hs he HSN HSR HS
            go_wp2_with fail
            refine PL.mono ?_
            rintro e w3 ⟨vs, vL, rfl, hc, hp3, b3⟩
            have HC3 := Lib.hid hc
            have HP3 := Lib.hid hp3
            have hQ3 := (b3.block Q (heap_lt NQ.out)).trans NQ.out
            obtain ⟨aS, cS, rfl, _⟩ := hc
            obtain ⟨aL, cL, rfl, _⟩ := hp3
            obtain ⟨y0, y1⟩ := cells2 hQ3
            have z0 := Lib.frozen_of_heap hQ3 0
            have z1 := Lib.frozen_of_heap hQ3 1
            obtain ⟨wR, hwR⟩ : ∃ wR, wR = (w3.setCell ⟨Q, 0, none⟩ (.slice aS F.steps.length cS)).setCell ⟨Q, 1, none⟩ (.slice aL L.length cL) := ⟨_, rfl⟩
            have hxR : wR.heap[Q]? = some (.cells #[.slice aS F.steps.length cS, .slice aL L.length cL] 45 (0, 0)) := by rw [hwR]; exact setC (setC hQ3 0 _) 1 _
            have hkR : ∀ q, q ≠ Q → wR.heap[q]? = w3.heap[q]? := fun q hq => by rw [hwR, Below.heap_setCell _ _ _ _ hq, Below.heap_setCell _ _ _ _ hq]
            have hsR : wR.heap.size = w3.heap.size := by rw [hwR, setC_size, setC_size]
            have hbR : Below w.heap.size w wR := by
              rw [hwR]
              exact (((HBA.out.trans (b3.mono HBA.out.size)).setCell (p := ⟨Q, 0, none⟩) HGQ.out _).setCell (p := ⟨Q, 1, none⟩) HGQ.out _)
            have HF := Lib.hid (⟨HC3.out.away (steps_head F.steps) hQ3 (by rw [hsR]; exact Nat.le_refl _) hkR, HP3.out.away hQ3 (by rw [hsR]; exact Nat.le_refl _) hkR, hbR⟩ : CellsAt wR (.slice aS F.steps.length cS) F.steps.length (stepsC F.steps) ∧ PairsAt wR (.slice aL L.length cL) L ∧ Below w.heap.size w wR)
            have HXR := Lib.hid hxR
            clear PL b3 hQ3 hxR hkR hsR hbR HC3 HP3
            go_wp2
            rw [← hwR]
            (try simp only [Exit.inBlock, Exit.then])
            refine bodyPost_ret (results_ctt rfl _ _ Q _ _ _ _ rfl HXR.out Tryd.underlying45 rfl (by kernel_rfl)) rfl ?_
            exact ⟨_, _, rfl, by rw [HFE.out]; exact HF.out⟩

end Go.Proofs.YtnjbdedmalpccaaDoor
