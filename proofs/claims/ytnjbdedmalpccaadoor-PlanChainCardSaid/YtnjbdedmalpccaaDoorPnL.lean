/- The walk of the planner's link. Printed by genpnl.py. -/
import Derived.Test.YtnjbdedmalpccaaDoorPnE
namespace Go.Proofs.YtnjbdedmalpccaaDoor
open Go.RowKit
set_option maxRecDepth 100000
attribute [local go_sem] str_size str_toList str_get

def PS.linkX (S : PS) (x : IX) : PS := (x.2.foldl (fun S d => S.ahead (S.made d) (S.made x.1.addr)) S).ahead ((x.2.foldl (fun S d => S.ahead (S.made d) (S.made x.1.addr)) S).gone (x.1.addr ++ [126])) ((x.2.foldl (fun S d => S.ahead (S.made d) (S.made x.1.addr)) S).made x.1.addr)
def PS.linkD (r : RX) (S : PS) (d : S8) : PS :=
  if S.gone d = 0 then S
  else if (S.act d).isSome = false ∨ (S.act d).getD 0 = 4 then (S.ahead (S.gone r.1.addr) (S.gone d)).ahead ((S.ahead (S.gone r.1.addr) (S.gone d)).made r.1.addr) ((S.ahead (S.gone r.1.addr) (S.gone d)).gone d)
  else S.ahead (S.gone r.1.addr) (S.gone d)
theorem linkD_eq (r : RX) (S : PS) (d : S8) : PS.linkD r S d = if S.gone d = 0 then S
  else if (S.act d).isSome = false ∨ (S.act d).getD 0 = 4 then (S.ahead (S.gone r.1.addr) (S.gone d)).ahead ((S.ahead (S.gone r.1.addr) (S.gone d)).made r.1.addr) ((S.ahead (S.gone r.1.addr) (S.gone d)).gone d)
  else S.ahead (S.gone r.1.addr) (S.gone d) := rfl
def PS.linkR (S : PS) (r : RX) : PS := r.2.foldl (PS.linkD r) S
def PS.link (S : PS) (xs : List IX) (rs : List RX) : PS := rs.foldl PS.linkR (xs.foldl PS.linkX S)
theorem ahead_same (S : PS) (a b : Nat) : (S.ahead a b).act = S.act ∧ (S.ahead a b).steps = S.steps := by unfold PS.ahead; split <;> exact ⟨rfl, rfl⟩
theorem ahead_len (S : PS) (a b : Nat) : (S.ahead a b).edges.length ≤ S.edges.length + 1 := by unfold PS.ahead; split <;> simp

/-- What link's loops hold. -/
structure LkI (w0 w wr : World) (p N G H : Nat) (cg ch : Array Value) (S : PS) (n E : Nat) : Prop where
  at_ : PnAt w0.heap.size N wr p S
  ok : S.Ok
  len : S.steps.length = n
  edg : S.edges.length ≤ E
  bel : Below w0.heap.size w0 wr
  sol : wr.heap[G]? = some (.cells cg 31 (0, 0))
  st : wr.heap[H]? = some (.cells ch 34 (0, 0))
  asd : Aside2 w wr
variable {w0 w wr w' : World} {p N G H n E : Nat} {cg ch : Array Value} {S : PS}
theorem LkI.below (h : LkI w0 w wr p N G H cg ch S n E) (hb : Below wr.heap.size wr w') : LkI w0 w w' p N G H cg ch S n E :=
  ⟨h.at_.below hb, h.ok, h.len, h.edg, h.bel.trans (hb.mono h.bel.size), (hb.block _ (heap_lt h.sol)).trans h.sol, (hb.block _ (heap_lt h.st)).trans h.st, h.asd.trans (Aside2.of_below hb)⟩
theorem LkI.more {E' : Nat} (h : LkI w0 w wr p N G H cg ch S n E) (hE : E ≤ E') : LkI w0 w wr p N G H cg ch S n E' := ⟨h.at_, h.ok, h.len, Nat.le_trans h.edg hE, h.bel, h.sol, h.st, h.asd⟩
theorem LkI.ahead_c (h : LkI w0 w wr p N G H cg ch S n E) (x y : Nat) (hx : x ≤ n) (hy : y ≤ n) (hE : E ≤ 90000) (hn : n ≤ 90000) :
    Calls Tryd.prog 15 #[.pointer (some ⟨p, 0, none⟩), .int .i64 x, .int .i64 y] wr fun e w' => e = .returned (.tuple #[]) ∧ LkI w0 w w' p N G H cg ch (S.ahead x y) n (E + 1) ∧ Aside2 wr w' := by
  refine (ahead_any h.at_ x y (by omega) (by omega) (by have := h.edg; omega)).mono ?_
  rintro e w' ⟨rfl, h1, h2, h3⟩
  refine ⟨rfl, ⟨h1, h.ok.ahead x y, by rw [(ahead_same S x y).2]; exact h.len, Nat.le_trans (ahead_len S x y) (Nat.succ_le_succ h.edg), h.bel.trans h2, (h3 _ _ _ _ h.sol (by decide) (by decide) (by decide)).trans h.sol, (h3 _ _ _ _ h.st (by decide) (by decide) (by decide)).trans h.st, h.asd.trans h3⟩, h3⟩
theorem LkI.made_le (h : LkI w0 w wr p N G H cg ch S n E) (t : S8) : S.made t ≤ n ∧ S.gone t ≤ n := by
  have := h.ok t
  rw [h.len] at this
  exact this

set_option maxHeartbeats 16000000 in
theorem link_any (xs : List IX) (rs : List RX) (vi vr : Value) (w0 w : World) (p N n E : Nat) (S : PS) (hx : InstsAt w0 vi xs) (hr : RecsAt w0 vr rs) (hl : xs.length ≤ 40) (hrl : rs.length ≤ 60) (h : PnAt w0.heap.size N w p S) (hok : S.Ok) (hn : S.steps.length = n) (hE : S.edges.length ≤ E) (hb : Below w0.heap.size w0 w) (hn9 : n ≤ 1000) (hE9 : E ≤ 1000) :
    Calls Tryd.prog 11 #[.pointer (some ⟨p, 0, none⟩), solV vi, stV vr] w fun e w' => e = .returned (.tuple #[]) ∧ PnAt w0.heap.size N w' p (S.link xs rs) ∧ Below w0.heap.size w0 w' ∧ Aside2 w w' ∧ (S.link xs rs).edges.length ≤ E + 61 * 40 + 120 * 60 ∧ (S.link xs rs).steps.length = n ∧ (S.link xs rs).Ok := by
  have mixed : Tryd.prog.follows .mixedOrders = true := by kernel_rfl
  have HX := Lib.hid hx
  have HR := Lib.hid hr
  obtain ⟨ao, co, rfl, hm0, _⟩ := hx.cells
  obtain ⟨ar, cr, rfl, hm1, _⟩ := hr.cells
  unfold solV stV
  obtain ⟨wA, hwA⟩ : ∃ wA, wA = (w.alloc (.cells #[.slice ao xs.length co, .int .i64 0, .bool false, .string ⟨#[]⟩, .slice none 0 0, .slice none 0 0] 31)).alloc (.cells #[.int .i64 0, .slice ar rs.length cr] 34) := ⟨_, rfl⟩
  have sz : (w.alloc (.cells #[.slice ao xs.length co, .int .i64 0, .bool false, .string ⟨#[]⟩, .slice none 0 0, .slice none 0 0] 31)).heap.size = w.heap.size + 1 := by simp only [World.alloc, Array.size_push]
  have nH : wA.heap[w.heap.size + 1]? = some (.cells #[.int .i64 0, .slice ar rs.length cr] 34 (0, 0)) := by rw [hwA, ← sz]; exact heap_alloc_new _ _
  have nG : wA.heap[w.heap.size]? = some (.cells #[.slice ao xs.length co, .int .i64 0, .bool false, .string ⟨#[]⟩, .slice none 0 0, .slice none 0 0] 31 (0, 0)) := by rw [hwA, Below.heap_alloc _ _ _ (by rw [sz]; omega)]; exact heap_alloc_new _ _
  have bA : Below w.heap.size w wA := by rw [hwA]; exact ((Below.refl _ w).alloc (Nat.le_refl _) _).alloc (by rw [sz]; omega) _
  obtain ⟨G, hG⟩ : ∃ G, w.heap.size = G := ⟨_, rfl⟩
  obtain ⟨H, hH⟩ : ∃ H, G + 1 = H := ⟨_, rfl⟩
  rw [hG] at nG nH
  rw [hH] at nH
  have HL0 : Hid (LkI w0 w wA p N G H #[.slice ao xs.length co, .int .i64 0, .bool false, .string ⟨#[]⟩, .slice none 0 0, .slice none 0 0] #[.int .i64 0, .slice ar rs.length cr] S n E) := ⟨h.below bA, hok, hn, hE, hb.trans (bA.mono hb.size), nG, nH, Aside2.of_below bA⟩
  obtain ⟨s0, _⟩ := cells6 nG
  have l1 : rs.length ≤ 9223372036854775807 := by omega
  have l2 : xs.length ≤ 9223372036854775807 := by omega
  clear sz nH nG bA h hok hn hE hb hx hr
  go_enter Tryd.func11, Tryd.ntmps11
  go_upto_region 1 with fail
  rw [← hwA]
  try rw [hG]
  try rw [hH]
  clear hwA hG hH
  go_wp2
  go_loopg [19] xs.length (fun gg v19 wr => ∃ (i : Nat), v19 = .int .i64 i ∧ i + gg = xs.length ∧ Hid (LkI w0 w wr p N G H #[.slice ao xs.length co, .int .i64 0, .bool false, .string ⟨#[]⟩, .slice none 0 0, .slice none 0 0] #[.int .i64 0, .slice ar rs.length cr] ((xs.take i).foldl PS.linkX S) n (E + 61 * i)))
  case atStart => exact ⟨0, rfl, by omega, HL0⟩
  case round =>
    clear HL0 s0
    obtain ⟨i, rfl, hig, HL⟩ := hrel
    cases gk with
    | zero =>
      obtain rfl : i = xs.length := by omega
      have h0 := HL.out
      rw [List.take_length] at h0
      obtain ⟨S1, hS1⟩ : ∃ S1, xs.foldl PS.linkX S = S1 := ⟨_, rfl⟩
      rw [hS1] at h0
      have HS1 := Lib.hid hS1
      obtain ⟨E1, hE1⟩ : ∃ E1, E + 61 * xs.length = E1 := ⟨_, rfl⟩
      rw [hE1] at h0
      have hE2 : E1 ≤ E + 61 * 40 := by omega
      have HL1 := Lib.hid h0
      obtain ⟨q0, q1⟩ := cells2 h0.st
      clear h0 hS1 hE1 HL
      go_wp2
      go_loopg [67] rs.length (fun gg v67 wr => ∃ (i : Nat), v67 = .int .i64 i ∧ i + gg = rs.length ∧ Hid (LkI w0 w wr p N G H #[.slice ao xs.length co, .int .i64 0, .bool false, .string ⟨#[]⟩, .slice none 0 0, .slice none 0 0] #[.int .i64 0, .slice ar rs.length cr] ((rs.take i).foldl PS.linkR S1) n (E1 + 120 * i)))
      case atStart => exact ⟨0, rfl, by omega, HL1⟩
      case round =>
        clear HL1 q0 q1
        obtain ⟨i, rfl, hig, HL⟩ := hrel
        cases gk with
        | zero =>
          obtain rfl : i = rs.length := by omega
          have h0 := HL.out
          rw [List.take_length, ← HS1.out] at h0
          have HF := Lib.hid (⟨h0.at_, h0.bel, h0.asd, Nat.le_trans h0.edg (by omega), h0.len, h0.ok⟩ : PnAt w0.heap.size N wr p (S.link xs rs) ∧ Below w0.heap.size w0 wr ∧ Aside2 w wr ∧ (S.link xs rs).edges.length ≤ E + 61 * 40 + 120 * 60 ∧ (S.link xs rs).steps.length = n ∧ (S.link xs rs).Ok)
          clear h0 HL
          go_wp2
          first | refine bodyPost_end (results_none rfl _ _ _) rfl ?_ | refine bodyPost_ret (results_none rfl _ _ _) rfl ?_
          exact ⟨rfl, HF.out⟩
        | succ gg =>
          have hil : i < rs.length := by omega
          have hie : (i : Int) < (rs.length : Int) := by omega
          obtain ⟨x, hx⟩ : ∃ x, rs[i]? = some x := ⟨_, List.getElem?_eq_getElem hil⟩
          have hdl : x.1.nd = x.2.length := by
            obtain ⟨_, _, hsv, _⟩ := HR.out.deps _ (List.mem_of_getElem? hx)
            injection hsv
          obtain ⟨AD, hAD⟩ : ∃ AD, x.1.ad = AD := ⟨_, rfl⟩
          have hdd := HR.out.deps _ (List.mem_of_getElem? hx)
          have hrow := (HR.out.mono HL.out.bel).row hx
          rw [hdl, hAD] at hdd hrow
          obtain ⟨b, off, rfl, hlt, c0, c1, c2, c3, c4, c5, c6, c7, c8⟩ := hrow
          have HDD := Lib.hid hdd
          have HFF := Lib.hid (HR.out.fit _ (List.mem_of_getElem? hx))
          have hd60 : x.2.length ≤ 60 := HFF.out.2.2
          have hfx : fitS x.1.addr := Nat.le_trans HFF.out.1 (by decide)
          have HFT := Lib.hid hfx
          have HNX := Lib.hid (fold_next PS.linkR S1 rs hx)
          obtain ⟨S2, hS2⟩ : ∃ S2, (rs.take i).foldl PS.linkR S1 = S2 := ⟨_, rfl⟩
          rw [hS2] at HL HNX
          obtain ⟨wO, hwO⟩ : ∃ wO, wO = wr.alloc (.cells #[str x.1.addr, str x.1.typ, str x.1.id, .int .i64 x.1.k, .bool x.1.f, str x.1.tx, .slice x.1.ai x.1.ni x.1.ci, .slice x.1.ak x.1.nk x.1.ck, .slice AD x.2.length x.1.cd] 37) := ⟨_, rfl⟩
          have bO : Below wr.heap.size wr wO := by rw [hwO]; exact (Below.refl _ wr).alloc (Nat.le_refl _) _
          have nO : wO.heap[wr.heap.size]? = some (.cells #[str x.1.addr, str x.1.typ, str x.1.id, .int .i64 x.1.k, .bool x.1.f, str x.1.tx, .slice x.1.ai x.1.ni x.1.ci, .slice x.1.ak x.1.nk x.1.ck, .slice AD x.2.length x.1.cd] 37 (0, 0)) := by rw [hwO]; exact heap_alloc_new _ _
          have HLO := Lib.hid (HL.out.below bO)
          obtain ⟨O, hO⟩ : ∃ O, wr.heap.size = O := ⟨_, rfl⟩
          rw [hO] at nO
          obtain ⟨t0, t1, t2, t3, t4, t5, t6, t7, t8⟩ := cells9 nO
          have HNO := Lib.hid nO
          clear hx hdl hAD hdd hfx hS2 bO nO HL
          obtain ⟨gO, rfl⟩ : ∃ gO, gO = gg := ⟨_, rfl⟩
          go_upto_region 14 with fail
          rw [← hwO]
          try rw [hO]
          clear hwO hO c0 c1 c2 c3 c4 c5 c6 c7 c8
          go_wp2
          go_loopg [74] x.2.length (fun gg v74 wr => ∃ (j : Nat), v74 = .int .i64 j ∧ j + gg = x.2.length ∧ Hid (LkI w0 w wr p N G H #[.slice ao xs.length co, .int .i64 0, .bool false, .string ⟨#[]⟩, .slice none 0 0, .slice none 0 0] #[.int .i64 0, .slice (some ⟨b, off, none⟩) rs.length cr] ((x.2.take j).foldl (PS.linkD x) S2) n (E1 + 120 * i + 2 * j) ∧ wr.heap[O]? = some (.cells #[str x.1.addr, str x.1.typ, str x.1.id, .int .i64 x.1.k, .bool x.1.f, str x.1.tx, .slice x.1.ai x.1.ni x.1.ci, .slice x.1.ak x.1.nk x.1.ck, .slice AD x.2.length x.1.cd] 37 (0, 0))))
          case atStart => exact ⟨0, rfl, by omega, Lib.hid ⟨HLO.out, HNO.out⟩⟩
          case round =>
            clear HLO HNO t0 t1 t2 t3 t4 t5 t6 t7 t8
            obtain ⟨j, rfl, hjg, HJ⟩ := hrel
            cases gk with
            | zero =>
              obtain rfl : j = x.2.length := by omega
              have h0 := HJ.out.1
              rw [List.take_length] at h0
              have hnx := HNX.out
              have h1 : Hid (LkI w0 w wr p N G H #[.slice ao xs.length co, .int .i64 0, .bool false, .string ⟨#[]⟩, .slice none 0 0, .slice none 0 0] #[.int .i64 0, .slice (some ⟨b, off, none⟩) rs.length cr] ((rs.take (i + 1)).foldl PS.linkR S1) n (E1 + 120 * i + 2 * x.2.length)) := Lib.hid (by rw [hnx]; exact h0)
              clear h0 hnx HJ HNX
              go_wp2
              go_roundg gO
              case measure => omega
              case rel => exact ⟨i + 1, by go_num, by omega, Lib.hid (h1.out.more (by omega))⟩
            | succ gg =>
              have hjl : j < x.2.length := by omega
              have hje : (j : Int) < (x.2.length : Int) := by omega
              obtain ⟨bd, od, hae, hld, d0⟩ := (HDD.out.mono HJ.out.1.bel).get hjl
              cases hae
              rw [getD_at x.2 [] hjl] at d0
              obtain ⟨d, hd⟩ : ∃ d, x.2[j]? = some d := ⟨_, List.getElem?_eq_getElem hjl⟩
              have hdj : x.2[j] = d := (List.getElem?_eq_some_iff.1 hd).2
              rw [hdj] at d0
              have hfd : fitS d := Nat.le_trans (HFF.out.2.1 d (List.mem_of_getElem? hd)) (by decide)
              have HFD := Lib.hid hfd
              have hfn := fold_next (PS.linkD x) S2 x.2 hd
              have h0 := HJ.out
              obtain ⟨S4, hS4⟩ : ∃ S4, (x.2.take j).foldl (PS.linkD x) S2 = S4 := ⟨_, rfl⟩
              rw [hS4] at h0 hfn
              rw [linkD_eq] at hfn
              obtain ⟨a', r', m', v', vs', ve', hI, hL⟩ := h0.1.at_.looks
              obtain ⟨x0, x1, x2, x3, x4, x5⟩ := cells6 hI.1
              have T3 := hL.rem _ d (Below.refl _ wr) hfd
              have T4 := hL.rem _ x.1.addr (Below.refl _ wr).drew HFT.out
              have T5 := hL.rem _ d (Below.refl _ wr).drew hfd
              have AH := (h0.1.below (Below.refl _ wr).drew).ahead_c (S4.gone x.1.addr) (S4.gone d) (h0.1.made_le _).2 (h0.1.made_le _).2 (by omega) (by omega)
              have HO2 := Lib.hid h0.2
              have HJ4 := Lib.hid h0.1
              obtain ⟨S3, hS3⟩ : ∃ S3, S4.ahead (S4.gone x.1.addr) (S4.gone d) = S3 := ⟨_, rfl⟩
              have hact : S3.act = S4.act := by rw [← hS3]; exact (ahead_same _ _ _).1
              rw [hS3] at AH hfn
              rw [← hact] at hfn
              obtain ⟨t0, t1, t2, t3, t4, t5, t6, t7, t8⟩ := cells9 h0.2
              obtain ⟨K1, hK1⟩ : ∃ K1, S4.gone x.1.addr = K1 := ⟨_, rfl⟩
              obtain ⟨K2, hK2⟩ : ∃ K2, S4.gone d = K2 := ⟨_, rfl⟩
              rw [hK1] at T4 AH
              rw [hK2] at T3 T5 AH hfn
              clear hI hL hS4 hS3 h0 hK1 hK2 HJ hd hdj hfd hact
              by_cases hk : K2 = 0
              · rw [if_pos hk] at hfn
                subst hk
                have HFN : Hid ((x.2.take (j + 1)).foldl (PS.linkD x) S2 = S4) := Lib.hid hfn
                clear hfn AH T4 T5
                go_wp2
                go_roundg gg
                case measure => omega
                case rel => exact ⟨j + 1, by go_num, by omega, Lib.hid ⟨by rw [HFN.out]; exact HJ4.out.more (by omega), HO2.out⟩⟩
              · rw [if_neg hk] at hfn
                have hkb : ((K2 : Int) == 0) = false := by simpa using hk
                have HFN := Lib.hid hfn
                clear hfn
                go_upto_region 18 with fail
                clear T3
                refine still_drew 14 (by kernel_rfl) (by kernel_rfl) ?_
                simp only [List.take_succ_cons, List.take_zero, List.drop_succ_cons, List.drop_zero]
                repeat still_step
                refine wpStill_nil ?_
                go_wp2_with fail
                refine AH.mono ?_
                rintro e w3 ⟨rfl, l3, s3⟩
                have HF3 := Lib.hid (⟨l3, (s3 _ _ _ _ HO2.out (by decide) (by decide) (by decide)).trans HO2.out⟩ : _ ∧ _)
                obtain ⟨a3, r3, m3, v3, vs3, ve3, hI3, hL3⟩ := l3.at_.looks
                obtain ⟨y0, y1, y2, y3, y4, y5⟩ := cells6 hI3.1
                have HL3 := Lib.hid hL3
                have T8 := hL3.actB _ d (Below.refl _ w3) HFD.out
                obtain ⟨BB, hBB⟩ : ∃ BB, (S3.act d).isSome = BB := ⟨_, rfl⟩
                obtain ⟨AA, hAA⟩ : ∃ AA, (S3.act d).getD 0 = AA := ⟨_, rfl⟩
                have hfn3 := HFN.out
                rw [hBB, hAA] at hfn3 T8
                clear AH l3 s3 T4 T5 x0 x1 x2 x3 x4 x5 t0 t1 t2 t3 t4 t5 t6 t7 t8 HO2 HJ4 hI3 hL3 hBB hAA HFN
                cases BB with
                | false =>
                  rw [if_pos (Or.inl rfl)] at hfn3
                  obtain ⟨t0, t1, t2, t3, t4, t5, t6, t7, t8⟩ := cells9 HF3.out.2
                  have T6 := HL3.out.mak _ x.1.addr (Below.refl _ w3).drew HFT.out
                  have T7 := HL3.out.rem _ d (Below.refl _ w3).drew HFD.out
                  have AH := (HF3.out.1.below (Below.refl _ w3).drew).ahead_c (S3.made x.1.addr) (S3.gone d) (HF3.out.1.made_le _).1 (HF3.out.1.made_le _).2 (by omega) (by omega)
                  have HFN3 := Lib.hid hfn3
                  obtain ⟨K5, hK5⟩ : ∃ K5, S3.made x.1.addr = K5 := ⟨_, rfl⟩
                  obtain ⟨K6, hK6⟩ : ∃ K6, S3.gone d = K6 := ⟨_, rfl⟩
                  rw [hK5] at T6 AH HFN3
                  rw [hK6] at T7 AH HFN3
                  clear hfn3 hK5 hK6 HL3
                  go_upto_region 21 with fail
                  refine still_drew 14 (by kernel_rfl) (by kernel_rfl) ?_
                  simp only [List.take_succ_cons, List.take_zero, List.drop_succ_cons, List.drop_zero]
                  repeat still_step
                  refine wpStill_nil ?_
                  go_wp2_with fail
                  refine AH.mono ?_
                  rintro e w5 ⟨rfl, l5, s5⟩
                  have HF := Lib.hid (⟨l5, (s5 _ _ _ _ HF3.out.2 (by decide) (by decide) (by decide)).trans HF3.out.2⟩ : _ ∧ _)
                  clear AH l5 s5 T6 T7 y0 y1 y2 y3 y4 y5 t0 t1 t2 t3 t4 t5 t6 t7 t8 d0 HF3
                  go_wp2
                  go_roundg gg
                  case measure => omega
                  case rel => exact ⟨j + 1, by go_num, by omega, Lib.hid ⟨by rw [HFN3.out]; exact HF.out.1.more (by omega), HF.out.2⟩⟩
                | true =>
                  by_cases h4 : AA = 4
                  · have h4b : (AA == 4) = true := by simp [h4]
                    rw [if_pos (Or.inr h4)] at hfn3
                    obtain ⟨t0, t1, t2, t3, t4, t5, t6, t7, t8⟩ := cells9 HF3.out.2
                    have T6 := HL3.out.mak _ x.1.addr (Below.refl _ w3).drew HFT.out
                    have T7 := HL3.out.rem _ d (Below.refl _ w3).drew HFD.out
                    have AH := (HF3.out.1.below (Below.refl _ w3).drew).ahead_c (S3.made x.1.addr) (S3.gone d) (HF3.out.1.made_le _).1 (HF3.out.1.made_le _).2 (by omega) (by omega)
                    have HFN3 := Lib.hid hfn3
                    obtain ⟨K5, hK5⟩ : ∃ K5, S3.made x.1.addr = K5 := ⟨_, rfl⟩
                    obtain ⟨K6, hK6⟩ : ∃ K6, S3.gone d = K6 := ⟨_, rfl⟩
                    rw [hK5] at T6 AH HFN3
                    rw [hK6] at T7 AH HFN3
                    subst h4
                    clear hfn3 hK5 hK6 HL3
                    go_upto_region 21 with fail
                    refine still_drew 14 (by kernel_rfl) (by kernel_rfl) ?_
                    simp only [List.take_succ_cons, List.take_zero, List.drop_succ_cons, List.drop_zero]
                    repeat still_step
                    refine wpStill_nil ?_
                    go_wp2_with fail
                    refine AH.mono ?_
                    rintro e w5 ⟨rfl, l5, s5⟩
                    have HF := Lib.hid (⟨l5, (s5 _ _ _ _ HF3.out.2 (by decide) (by decide) (by decide)).trans HF3.out.2⟩ : _ ∧ _)
                    clear AH l5 s5 T6 T7 y0 y1 y2 y3 y4 y5 t0 t1 t2 t3 t4 t5 t6 t7 t8 d0 HF3
                    go_wp2
                    go_roundg gg
                    case measure => omega
                    case rel => exact ⟨j + 1, by go_num, by omega, Lib.hid ⟨by rw [HFN3.out]; exact HF.out.1.more (by omega), HF.out.2⟩⟩
                  · have h4b : (AA == 4) = false := by simpa using h4
                    rw [if_neg (by rintro (h | h); cases h; exact h4 h)] at hfn3
                    have HFN3 := Lib.hid hfn3
                    clear hfn3 h4
                    go_wp2
                    go_roundg gg
                    case measure => omega
                    case rel => exact ⟨j + 1, by go_num, by omega, Lib.hid ⟨by rw [HFN3.out]; exact HF3.out.1.more (by omega), HF3.out.2⟩⟩
    | succ gg =>
      have hil : i < xs.length := by omega
      have hie : (i : Int) < (xs.length : Int) := by omega
      obtain ⟨x, hx⟩ : ∃ x, xs[i]? = some x := ⟨_, List.getElem?_eq_getElem hil⟩
      have hdl : x.1.nd = x.2.length := by
        obtain ⟨_, _, hsv, _⟩ := HX.out.deps _ (List.mem_of_getElem? hx)
        injection hsv
      obtain ⟨AD, hAD⟩ : ∃ AD, x.1.ad = AD := ⟨_, rfl⟩
      have hdd := HX.out.deps _ (List.mem_of_getElem? hx)
      have hrow := (HX.out.mono HL.out.bel).row hx
      rw [hdl, hAD] at hdd hrow
      obtain ⟨b, off, rfl, hlt, c0, c1, c2, c3, c4, c5, c6, c7, c8, c9⟩ := hrow
      have HDD := Lib.hid hdd
      have HFF := Lib.hid (HX.out.fit _ (List.mem_of_getElem? hx))
      have hd60 : x.2.length ≤ 60 := HFF.out.2.2
      have hfx : fitS x.1.addr := Nat.le_trans HFF.out.1 (by decide)
      have hfx2 : fitS (x.1.addr ++ [126]) := by
        have := HFF.out.1
        show (x.1.addr ++ [126]).length ≤ _
        simp
        omega
      have HFT := Lib.hid (⟨hfx, hfx2⟩ : _ ∧ _)
      have HNX := Lib.hid (fold_next PS.linkX S xs hx)
      obtain ⟨S1, hS1⟩ : ∃ S1, (xs.take i).foldl PS.linkX S = S1 := ⟨_, rfl⟩
      rw [hS1] at HL HNX
      obtain ⟨wO, hwO⟩ : ∃ wO, wO = wr.alloc (.cells #[str x.1.addr, str x.1.typ, .int .i64 x.1.k, .bool x.1.f, str x.1.tx, .slice x.1.ai x.1.ni x.1.ci, .slice x.1.ak x.1.nk x.1.ck, .int .i64 x.1.action, .bool x.1.prevent, .slice AD x.2.length x.1.cd] 41) := ⟨_, rfl⟩
      have bO : Below wr.heap.size wr wO := by rw [hwO]; exact (Below.refl _ wr).alloc (Nat.le_refl _) _
      have nO : wO.heap[wr.heap.size]? = some (.cells #[str x.1.addr, str x.1.typ, .int .i64 x.1.k, .bool x.1.f, str x.1.tx, .slice x.1.ai x.1.ni x.1.ci, .slice x.1.ak x.1.nk x.1.ck, .int .i64 x.1.action, .bool x.1.prevent, .slice AD x.2.length x.1.cd] 41 (0, 0)) := by rw [hwO]; exact heap_alloc_new _ _
      have HLO := Lib.hid (HL.out.below bO)
      obtain ⟨O, hO⟩ : ∃ O, wr.heap.size = O := ⟨_, rfl⟩
      rw [hO] at nO
      obtain ⟨t0, t1, t2, t3, t4, t5, t6, t7, t8, t9⟩ := cells10 nO
      have HNO := Lib.hid nO
      have HCC := Lib.hid (fun W => str_add (P := Tryd.prog) (w := W) x.1.addr [126] (by have := HFF.out.1; simp; omega))
      clear hx hdl hAD hdd hfx hfx2 hS1 bO nO HL
      obtain ⟨gO, rfl⟩ : ∃ gO, gO = gg := ⟨_, rfl⟩
      go_upto_region 4 with fail
      rw [← hwO]
      try rw [hO]
      clear hwO hO c0 c1 c2 c3 c4 c5 c6 c7 c8 c9
      go_wp2
      go_loopg [26] x.2.length (fun gg v26 wr => ∃ (j : Nat), v26 = .int .i64 j ∧ j + gg = x.2.length ∧ Hid (LkI w0 w wr p N G H #[.slice (some ⟨b, off, none⟩) xs.length co, .int .i64 0, .bool false, .string ⟨#[]⟩, .slice none 0 0, .slice none 0 0] #[.int .i64 0, .slice ar rs.length cr] ((x.2.take j).foldl (fun S d => S.ahead (S.made d) (S.made x.1.addr)) S1) n (E + 61 * i + j) ∧ wr.heap[O]? = some (.cells #[str x.1.addr, str x.1.typ, .int .i64 x.1.k, .bool x.1.f, str x.1.tx, .slice x.1.ai x.1.ni x.1.ci, .slice x.1.ak x.1.nk x.1.ck, .int .i64 x.1.action, .bool x.1.prevent, .slice AD x.2.length x.1.cd] 41 (0, 0))))
      case atStart => exact ⟨0, rfl, by omega, Lib.hid ⟨HLO.out, HNO.out⟩⟩
      case round =>
        clear HLO HNO t0 t1 t2 t3 t4 t5 t6 t7 t8 t9
        obtain ⟨j, rfl, hjg, HJ⟩ := hrel
        obtain ⟨t0, t1, t2, t3, t4, t5, t6, t7, t8, t9⟩ := cells10 HJ.out.2
        cases gk with
        | zero =>
          obtain rfl : j = x.2.length := by omega
          have h0 := HJ.out
          rw [List.take_length] at h0
          obtain ⟨S2, hS2⟩ : ∃ S2, x.2.foldl (fun S d => S.ahead (S.made d) (S.made x.1.addr)) S1 = S2 := ⟨_, rfl⟩
          have hnx := HNX.out
          unfold PS.linkX at hnx
          rw [hS2] at h0 hnx
          have HJ2 := Lib.hid h0
          have HNX2 : Hid ((xs.take (i + 1)).foldl PS.linkX S = S2.ahead (S2.gone (x.1.addr ++ [126])) (S2.made x.1.addr)) := Lib.hid hnx
          obtain ⟨a', r', m', v', vs', ve', hI, hL⟩ := h0.1.at_.looks
          obtain ⟨x0, x1, x2, x3, x4, x5⟩ := cells6 hI.1
          have T4 := hL.rem _ (x.1.addr ++ [126]) (Below.refl _ wr).drew HFT.out.2
          have T5 := hL.mak _ x.1.addr (Below.refl _ wr).drew HFT.out.1
          have AH := (h0.1.below (Below.refl _ wr).drew).ahead_c (S2.gone (x.1.addr ++ [126])) (S2.made x.1.addr) (h0.1.made_le _).2 (h0.1.made_le _).1 (by omega) (by omega)
          obtain ⟨K1, hK1⟩ : ∃ K1, S2.made x.1.addr = K1 := ⟨_, rfl⟩
          obtain ⟨K2, hK2⟩ : ∃ K2, S2.gone (x.1.addr ++ [126]) = K2 := ⟨_, rfl⟩
          rw [hK1] at T5 AH HNX2
          rw [hK2] at T4 AH HNX2
          have hcc := HCC.out
          clear hI hL hS2 hnx h0 hK1 hK2 HJ HNX
          go_upto_region 9 with fail
          refine still_drew 16 (by kernel_rfl) (by kernel_rfl) ?_
          simp only [List.take_succ_cons, List.take_zero, List.drop_succ_cons, List.drop_zero]
          repeat still_step
          refine wpStill_nil ?_
          go_wp2_with fail
          refine AH.mono ?_
          rintro e w3 ⟨rfl, l3, s3⟩
          have HF := Lib.hid l3
          clear AH l3 s3 T4 T5 x0 x1 x2 x3 x4 x5 t0 t1 t2 t3 t4 t5 t6 t7 t8 t9 hcc
          go_wp2
          go_roundg gO
          case measure => omega
          case rel => exact ⟨i + 1, by go_num, by omega, Lib.hid (by rw [HNX2.out]; exact HF.out.more (by omega))⟩
        | succ gg =>
          have hjl : j < x.2.length := by omega
          have hje : (j : Int) < (x.2.length : Int) := by omega
          obtain ⟨bd, od, hae, hld, d0⟩ := (HDD.out.mono HJ.out.1.bel).get hjl
          cases hae
          rw [getD_at x.2 [] hjl] at d0
          obtain ⟨d, hd⟩ : ∃ d, x.2[j]? = some d := ⟨_, List.getElem?_eq_getElem hjl⟩
          have hdj : x.2[j] = d := (List.getElem?_eq_some_iff.1 hd).2
          rw [hdj] at d0
          have hfd : fitS d := Nat.le_trans (HFF.out.2.1 d (List.mem_of_getElem? hd)) (by decide)
          have hfn := fold_next (fun (S : PS) d => S.ahead (S.made d) (S.made x.1.addr)) S1 x.2 hd
          have h0 := HJ.out
          obtain ⟨S2, hS2⟩ : ∃ S2, (x.2.take j).foldl (fun S d => S.ahead (S.made d) (S.made x.1.addr)) S1 = S2 := ⟨_, rfl⟩
          rw [hS2] at h0 hfn
          obtain ⟨a', r', m', v', vs', ve', hI, hL⟩ := h0.1.at_.looks
          obtain ⟨x0, x1, x2, x3, x4, x5⟩ := cells6 hI.1
          have T4 := hL.mak _ d (Below.refl _ wr).drew hfd
          have T5 := hL.mak _ x.1.addr (Below.refl _ wr).drew HFT.out.1
          have AH := (h0.1.below (Below.refl _ wr).drew).ahead_c (S2.made d) (S2.made x.1.addr) (h0.1.made_le _).1 (h0.1.made_le _).1 (by omega) (by omega)
          have HO2 := Lib.hid h0.2
          have HFN : Hid ((x.2.take (j + 1)).foldl (fun (S : PS) d => S.ahead (S.made d) (S.made x.1.addr)) S1 = S2.ahead (S2.made d) (S2.made x.1.addr)) := Lib.hid hfn
          obtain ⟨K1, hK1⟩ : ∃ K1, S2.made x.1.addr = K1 := ⟨_, rfl⟩
          obtain ⟨K2, hK2⟩ : ∃ K2, S2.made d = K2 := ⟨_, rfl⟩
          rw [hK1] at T5 AH HFN
          rw [hK2] at T4 AH HFN
          clear hI hL hS2 h0 hK1 hK2 HJ hd hdj hfd hfn
          go_upto_region 7 with fail
          refine still_drew 14 (by kernel_rfl) (by kernel_rfl) ?_
          simp only [List.take_succ_cons, List.take_zero, List.drop_succ_cons, List.drop_zero]
          repeat still_step
          refine wpStill_nil ?_
          go_wp2_with fail
          refine AH.mono ?_
          rintro e w3 ⟨rfl, l3, s3⟩
          have HF := Lib.hid (⟨l3, (s3 _ _ _ _ HO2.out (by decide) (by decide) (by decide)).trans HO2.out⟩ : _ ∧ _)
          clear AH l3 s3 T4 T5 x0 x1 x2 x3 x4 x5 t0 t1 t2 t3 t4 t5 t6 t7 t8 t9 d0 HO2
          go_wp2
          go_roundg gg
          case measure => omega
          case rel => exact ⟨j + 1, by go_num, by omega, Lib.hid ⟨by rw [HFN.out]; exact HF.out.1.more (by omega), HF.out.2⟩⟩

end Go.Proofs.YtnjbdedmalpccaaDoor
