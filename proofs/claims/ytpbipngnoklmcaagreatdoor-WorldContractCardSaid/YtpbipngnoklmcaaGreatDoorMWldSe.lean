/- The walk of Set. The walk of Kill. A value that came in reads as a tree. No condition. -/
import Derived.Test.YtpbipngnoklmcaaGreatDoorMWldHs
import Derived.Test.YtpbipngnoklmcaaGreatDoorMWldE
import Derived.Test.YtpbipngnoklmcaaGreatDoorRow
import Derived.Test.YtpbipngnoklmcaaGreatDoorMWldP
namespace Go.Proofs.YtpbipngnoklmcaaGreatDoor
open Go.RowKit
set_option maxRecDepth 100000
attribute [local go_sem] str_size str_toList str_get

variable {w : World} {p b n : Nat} {S : WS} {val : S8 → S8 → Value} {vf vt : Value} {D : DataW Value}
theorem box7 {w : World} {g : Nat} {c0 c1 c2 c3 c4 c5 c6 : Value} {T : TypeId} (h : w.heap[g]? = some (.cells #[c0, c1, c2, c3, c4, c5, c6] T (0, 0))) : w.cell? ⟨g, 0, none⟩ = some c0 ∧ w.cell? ⟨g, 1, none⟩ = some c1 ∧ w.cell? ⟨g, 2, none⟩ = some c2 ∧ w.cell? ⟨g, 3, none⟩ = some c3 ∧ w.cell? ⟨g, 4, none⟩ = some c4 ∧ w.cell? ⟨g, 5, none⟩ = some c5 ∧ w.cell? ⟨g, 6, none⟩ = some c6 := by
  refine ⟨?_, ?_, ?_, ?_, ?_, ?_, ?_⟩ <;> (rw [Lib.cell_of_heap h]; rfl)

set_option maxHeartbeats 8000000 in
theorem set_w (h : WAt w p b n S val vf vt D) (typ i : S8) (x : VT) (ai : Option Addr) (ci : Nat) (ak : Option Addr) (ck : Nat) (hv : ValAt w x (.agg #[.int .i64 x.kind, .bool x.flag, str x.text, .slice ai x.items.length ci, .slice ak x.keys.length ck])) (ft : fitS typ) (fi : fitS i) (hn : n ≤ 100000) :
    Calls Tryz.prog 36 #[.pointer (some ⟨p, 0, none⟩), .agg #[str typ, str i, .int .i64 x.kind, .bool x.flag, str x.text, .slice ai x.items.length ci, .slice ak x.keys.length ck]] w fun e w' =>
      e = .returned (.int .i64 (setP S typ i x).2) ∧ ∃ n', n' ≤ n + 1 ∧ WStep w p b n' (setP S typ i x).1 vf vt w' := by
  have mixed : Tryz.prog.follows .mixedOrders = true := by kernel_rfl
  have HV := Lib.hid hv
  obtain ⟨wB, hwB⟩ : ∃ wB, wB = w.alloc (.cells #[str typ, str i, .int .i64 x.kind, .bool x.flag, str x.text, .slice ai x.items.length ci, .slice ak x.keys.length ck] 47) := ⟨_, rfl⟩
  have nB : wB.heap[w.heap.size]? = some (.cells #[str typ, str i, .int .i64 x.kind, .bool x.flag, str x.text, .slice ai x.items.length ci, .slice ak x.keys.length ck] 47 (0, 0)) := by rw [hwB]; exact heap_alloc_new _ _
  have hbB : Below w.heap.size w wB := by rw [hwB]; exact (Below.refl _ w).alloc (Nat.le_refl _) _
  have GD := good_w x _ wB (hv.mono hbB)
  have H := Lib.hid h
  have hur : setP S typ i x = if goodA x = false then (S, 1) else (putP S (typ, i, x), 0) := rfl
  obtain ⟨R, hR⟩ : ∃ R, setP S typ i x = R := ⟨_, rfl⟩
  rw [hR] at hur ⊢
  obtain ⟨g, hg⟩ : ∃ g, goodA x = g := ⟨_, rfl⟩
  rw [hg] at hur GD
  have HG := Lib.hid hg
  have HUR := Lib.hid hur
  have HNB := Lib.hid nB
  have HBB := Lib.hid hbB
  obtain ⟨c0, c1, c2, c3, c4, c5, c6⟩ := box7 nB
  clear hR hur hg h hv nB hbB
  go_enter Tryz.func36, Tryz.ntmps36
  go_upto_region 1 with fail
  rw [← hwB]
  clear hwB
  go_wp2_with fail
  refine GD.mono ?_
  rintro e w2 ⟨rfl, hq2⟩
  have hb2 := HBB.out.trans (hq2.mono HBB.out.size)
  have n2 := (hq2.block _ (heap_lt HNB.out)).trans HNB.out
  have H2 := Lib.hid (⟨hb2, n2⟩ : _ ∧ _)
  clear GD hq2 hb2 n2 c0 c1 c2 c3 c4 c5 c6
  cases g with
  | false =>
    have hr := HUR.out
    rw [if_pos rfl] at hr
    have HR := Lib.hid hr
    clear hr HUR
    go_wp2
    go_ret
    refine ⟨by rw [HR.out]; rfl, n, by omega, ?_⟩
    rw [HR.out]
    exact ⟨val, vt, D, H.out.below H2.out.1, Spares.of_below H2.out.1, fun q hq => .inl hq⟩
  | true =>
    have hr := HUR.out
    rw [if_neg (by simp)] at hr
    have HR := Lib.hid hr
    obtain ⟨hfv, hsz⟩ := goodA_facts HG.out
    obtain ⟨c0, c1, c2, c3, c4, c5, c6⟩ := box7 H2.out.2
    have m0 : w2.cell? ⟨p, 0, none⟩ = some (.map (some b)) := by rw [Lib.cell_of_heap (H.out.below H2.out.1).box]; rfl
    have HCL := Lib.hid (fun W (hW : Below w2.heap.size w2 W) => clone_val x _ W (HV.out.mono (H2.out.1.trans (hW.mono H2.out.1.size))) hfv (Nat.le_trans hsz (by decide)))
    have HAF := Lib.hid (fun W (hW : Below w2.heap.size w2 W) => (⟨H.out.below (H2.out.1.trans (hW.mono H2.out.1.size)), H2.out.1.trans (hW.mono H2.out.1.size), (hW.block _ (heap_lt H2.out.2)).trans H2.out.2⟩ : WAt W p b n S val vf vt D ∧ Below w.heap.size w W ∧ W.heap[w.heap.size]? = _))
    have hst : ∀ W v F, WAt W p b n S val vf vt D → OwnVal W x v F → ∃ w', (Instr.mapUpdate 71 (.map (some b)) (.agg #[str typ, str i]) v).run Tryz.prog W = .ok () w' ∧ (WAt w' p b (n + 1) (putP S (typ, i, x)) (putVal val typ i v) vf vt (D.put (klW typ i) (.held v)) ∧ Spares [b] W w') := fun W v F h1 h2 => h1.store (by unfold maxLen; omega) ft fi HG.out h2
    have HST := Lib.hid hst
    clear hst hr HUR hfv hsz
    go_upto_region 3 with fail
    go_cut [] from 9 to 21 (fun wx => ∃ val' D', Hid (WAt wx p b (n + 1) (putP S (typ, i, x)) val' vf vt D' ∧ Spares (wF p b vt) w wx))
    case first =>
      go_region_law_o (first
        | (go_simp; go_at_call 30; refine (HCL.out _ (Below.refl _ w2).drew).mono ?_; rintro e w3 ⟨v1, F1, rfl, hov, hnd, hge, hb1⟩; obtain ⟨si, sc, sk, sd, rfl⟩ := hov.at.form; have hb3 : Below w2.heap.size w2 w3 := (Below.refl _ w2).drew.trans (hb1.mono (Nat.le_refl _)); obtain ⟨a1, a2, a3⟩ := HAF.out _ hb3; obtain ⟨e0, e1, _⟩ := box7 a3; have e6 : w3.cell? ⟨p, 0, none⟩ = some (.map (some b)) := (by rw [Lib.cell_of_heap a1.box]; rfl); obtain ⟨w5, hr5, hW5', hs5'⟩ := HST.out _ _ _ a1 hov; have hW5 := Lib.hid hW5'; have hs5 := Lib.hid hs5'; have HA1 := Lib.hid a2; clear hov hnd hge hb1 hb3 a1 a2 a3 hW5' hs5'))
      all_goals
        have hcut : ∃ val' D', Hid (WAt w5 p b (n + 1) (putP S (typ, i, x)) val' vf vt D' ∧ Spares (wF p b vt) w w5) := ⟨_, _, Lib.hid ⟨hW5.out, (Spares.of_below HA1.out).trans (hs5.out.sub fun k hk _ => by unfold wF; simp at hk; simp [hk])⟩⟩
        clear hW5 hs5 hr5 HA1 HST HAF HCL e0 e1 e6 c0 c1 c2 c3 c4 c5 c6 m0
        try go_wp2
        go_meet
        exact hcut
    case rest =>
      obtain ⟨val', D', HX⟩ := hcut
      clear c0 c1 c2 c3 c4 c5 c6 m0 HCL HAF HST
      go_wp2
      go_ret
      refine ⟨by rw [HR.out]; rfl, n + 1, Nat.le_refl _, ?_⟩
      rw [HR.out]
      exact ⟨val', vt, D', HX.out.1, HX.out.2, fun q hq => .inl hq⟩

end Go.Proofs.YtpbipngnoklmcaaGreatDoor
namespace Go.Proofs.YtpbipngnoklmcaaGreatDoor
open Go.RowKit
set_option maxRecDepth 100000
attribute [local go_sem] str_size str_toList str_get

variable {w : World} {p b n : Nat} {S : WS} {val : S8 → S8 → Value} {vf vt : Value} {D : DataW Value}

set_option maxHeartbeats 8000000 in
theorem kill_w (h : WAt w p b n S val vf vt D) (typ i : S8) (ft : fitS typ) (fi : fitS i) :
    Calls Tryz.prog 38 #[.pointer (some ⟨p, 0, none⟩), str typ, str i] w fun e w' =>
      e = .returned (.int .i64 (killP S typ i).2) ∧ WStep w p b n (killP S typ i).1 vf vt w' := by
  have mixed : Tryz.prog.follows .mixedOrders = true := by kernel_rfl
  obtain ⟨wN, hwN⟩ : ∃ wN, wN = w.alloc (.cells #[str typ, str i] 78) := ⟨_, rfl⟩
  have nN : wN.heap[w.heap.size]? = some (.cells #[str typ, str i] 78 (0, 0)) := by rw [hwN]; exact heap_alloc_new _ _
  have bN : Below w.heap.size w wN := by rw [hwN]; exact (Below.refl _ w).alloc (Nat.le_refl _) _
  have H := Lib.hid h
  have hur : killP S typ i = if hasO S.objs typ i = false then (S, 4) else (delP S typ i, 0) := rfl
  obtain ⟨R, hR⟩ : ∃ R, killP S typ i = R := ⟨_, rfl⟩
  rw [hR] at hur ⊢
  obtain ⟨V, hlk, _, _, vk0, vf0, vt0, va0, vn0, vc0, va1, vn1, vc1, rfl⟩ := h.look ft fi
  obtain ⟨B, hB⟩ : ∃ B, hasO S.objs typ i = B := ⟨_, rfl⟩
  rw [hB] at hlk hur
  simp only [show nameV typ i = .agg #[str typ, str i] from rfl] at hlk
  have HLK := Lib.hid hlk
  have HUR := Lib.hid hur
  have hN := h.below bN
  have HMO := Lib.hid (fun W (hW : Below wN.heap.size wN W) => (hN.below hW).map)
  have g0 : wN.cell? ⟨w.heap.size, 0, none⟩ = some (str typ) := by rw [Lib.cell_of_heap nN]; rfl
  have g1 : wN.cell? ⟨w.heap.size, 1, none⟩ = some (str i) := by rw [Lib.cell_of_heap nN]; rfl
  have c6 : wN.cell? ⟨p, 0, none⟩ = some (.map (some b)) := by rw [Lib.cell_of_heap hN.box]; rfl
  have hp6 := heap_lt hN.box
  have hN6 := heap_lt nN
  have hp6n : ¬ wN.heap.size = p := by omega
  have hp6m : ¬ p = wN.heap.size := by omega
  have hN6n : ¬ wN.heap.size = w.heap.size := by omega
  have hN6m : ¬ w.heap.size = wN.heap.size := by omega
  have HNN := Lib.hid nN
  have HBN := Lib.hid bN
  clear hR hur hlk hB h hN nN bN
  go_enter Tryz.func38, Tryz.ntmps38
  go_upto_region 2 with fail
  rw [← hwN]
  clear hwN
  go_cut [8, 9] from 13 to 21 (fun s8 s9 wx => s9 = .bool B ∧ Hid (Below wN.heap.size wN wx))
  case first =>
    have T1 := HLK.out _ (HMO.out _ ((Below.refl _ wN).drew))
    have T2 := fun o => HLK.out _ (HMO.out _ (((Below.refl _ wN).alloc (Nat.le_refl _) o).drew))
    obtain ⟨z0, z1, z2, z3, z4, y0, y1, y2, y3, y4⟩ := free5 (heap_alloc_new wN (.cells #[.int .i64 0, .bool false, .string ⟨#[]⟩, .slice none 0 0, .slice none 0 0] 41))
    go_region_law_o fail
    all_goals (try go_wp2)
    all_goals go_meet
    all_goals exact ⟨rfl, ((Below.refl _ wN).alloc (Nat.le_refl _) _).drew⟩
  case rest =>
    obtain ⟨rfl, HW⟩ := hcut
    clear g0 g1 c6 HLK HMO hp6 hp6n hp6m hN6n hN6m
    have hbc := HBN.out.trans (HW.out.mono HBN.out.size)
    have nC := (HW.out.block _ (heap_lt HNN.out)).trans HNN.out
    cases B with
    | false =>
      have hr := HUR.out
      rw [if_pos rfl] at hr
      have HR := Lib.hid hr
      have HC := Lib.hid hbc
      clear hr HUR hbc nC
      go_wp2
      go_ret
      refine ⟨by rw [HR.out]; rfl, ?_⟩
      rw [HR.out]
      exact ⟨val, vt, D, H.out.below HC.out, Spares.of_below HC.out, fun q hq => .inl hq⟩
    | true =>
      have hr := HUR.out
      rw [if_neg (by simp)] at hr
      have HR := Lib.hid hr
      have h1 := H.out.below hbc
      have c0 : wc.cell? ⟨p, 0, none⟩ = some (.map (some b)) := by rw [Lib.cell_of_heap h1.box]; rfl
      have e0 : wc.cell? ⟨w.heap.size, 0, none⟩ = some (str typ) := by rw [Lib.cell_of_heap nC]; rfl
      have e1 : wc.cell? ⟨w.heap.size, 1, none⟩ = some (str i) := by rw [Lib.cell_of_heap nC]; rfl
      have H1 := Lib.hid h1
      have HC := Lib.hid hbc
      have hmap := h1.map
      have hmap_drew : ∀ k, (wc.drewN k).ownsMap Tryz.prog 78 heldR b n D := fun k => map_keep hmap rfl
      clear h1 hr HUR hbc nC
      go_wp2
      refine still_drew 5 (by kernel_rfl) (by kernel_rfl) ?_
      simp only [List.take_succ_cons, List.take_zero, List.drop_succ_cons, List.drop_zero]
      repeat still_step
      refine wpStill_nil ?_
      go_wp2_with (at_delete; refine wpList_delete_own _ rfl _ _ 71 78 rfl 41 keyK Tryz.underlying71 heldR b n D rfl (hmap_drew _) (nameV typ i) (klW typ i) rfl (keyOf_name ft fi) ?_)
      intro w2 hm2 ht2
      have h2 := Lib.hid (WAt.dropped (H1.out.drewN _) ft fi ht2 hm2)
      have hsp2 : Spares (wF p b vt) w w2 := (((Spares.of_below HC.out).drewN _)).trans ((turned_spares ht2).sub fun k hk _ => by unfold wF; simp at hk; simp [hk])
      have HS := Lib.hid hsp2
      clear hm2 ht2 hmap hmap_drew hsp2 e0 e1 c0
      go_wp2
      go_ret
      refine ⟨by rw [HR.out]; rfl, ?_⟩
      rw [HR.out]
      exact ⟨val, vt, _, h2.out, HS.out, fun q hq => .inl hq⟩

end Go.Proofs.YtpbipngnoklmcaaGreatDoor
namespace Go.Proofs.YtpbipngnoklmcaaGreatDoor
open Go.ChangeShapes Go.WideShapes Go.ChangeAt Go.RowKit
set_option maxRecDepth 100000

theorem cellsVal : Tryz.prog.cellsOf 41 = 5 := by kernel_rfl
theorem cellsKind : Tryz.prog.cellsOf 37 = 1 := by kernel_rfl
theorem cellsBool : Tryz.prog.cellsOf 4 = 1 := by kernel_rfl
theorem cellsString : Tryz.prog.cellsOf 9 = 1 := by kernel_rfl
theorem cellsVals : Tryz.prog.cellsOf 38 = 1 := by kernel_rfl
theorem cellsStrs : Tryz.prog.cellsOf 39 = 1 := by kernel_rfl

section
variable {H : Type} {enc : TypeId × Value → H} {W : World}

theorem trod_struct5 {P : Program} {w : World} {base : Nat} {spare : Nat → Bool} {held : Bool} {t : TypeId} {f0 f1 f2 f3 f4 : Field} {fuel : Nat} {cs : List Value} {x : DataW H × List MemPlace} (ht : P.underlying t = some (.struct #[f0, f1, f2, f3, f4])) (h : DataW.trod enc P w base spare held fuel t cs = some x) :
    ∃ y0 y1 y2 y3 y4 n, fuel = n + 1 ∧ cs.length = P.cellsOf t ∧ DataW.trod enc P w base spare held n f0.type ((cs.drop f0.offset).take (P.cellsOf f0.type)) = some y0 ∧
      DataW.trod enc P w base spare held n f1.type ((cs.drop f1.offset).take (P.cellsOf f1.type)) = some y1 ∧ DataW.trod enc P w base spare held n f2.type ((cs.drop f2.offset).take (P.cellsOf f2.type)) = some y2 ∧
      DataW.trod enc P w base spare held n f3.type ((cs.drop f3.offset).take (P.cellsOf f3.type)) = some y3 ∧ DataW.trod enc P w base spare held n f4.type ((cs.drop f4.offset).take (P.cellsOf f4.type)) = some y4 := by
  obtain ⟨xs, n, hn, rfl, hl, hlen, hf⟩ := DataW.trod_struct ht h
  match xs, hlen with
  | [y0, y1, y2, y3, y4], _ => exact ⟨y0, y1, y2, y3, y4, n, hn, hl, by simpa using hf 0 f0 rfl, by simpa using hf 1 f1 rfl, by simpa using hf 2 f2 rfl, by simpa using hf 3 f3 rfl, by simpa using hf 4 f4 rfl⟩

theorem addr_plain {a : Addr} {v : Value} (h : W.cell? a = some v) : a = ⟨a.block, a.off, none⟩ := by
  cases a with
  | mk b o s =>
    cases s with
    | none => rfl
    | some s =>
      exfalso
      unfold World.cell? at h
      split at h <;> simp at h

/-- A slice of texts that came in. -/
theorem strs_of_trod {n : Nat} {c : Value} {x : DataW H × List MemPlace} (h : DataW.trod enc Tryz.prog W 0 (fun _ => true) true n 39 [c] = some x) : ∃ ks, StrsAt W c ks := by
  rcases Deep.open_slice1 Tryz.underlying39 cellsString h with ⟨hcs, _⟩ | ⟨a, len, cap, m, _, V, D, Pl, hcs, _, hl, hm, hmm, _, hel⟩
  · obtain rfl : c = .slice none 0 0 := by simpa using hcs
    exact ⟨[], StrsAt.nil W⟩
  · obtain rfl : c = .slice (some a) len cap := by simpa using hcs
    simp only [if_true] at hmm
    subst hmm
    have each : ∀ i, i < m → ∃ s : List UInt8, W.cell? (a.add i) = some (str s) := fun i hi => by
      obtain ⟨h1, h2⟩ := hel i hi
      obtain ⟨s, e, _, _⟩ := DataW.trod_string Tryz.underlying9 h2
      obtain ⟨⟨s⟩⟩ := s
      have e : V i = .string ⟨⟨s⟩⟩ := by simpa using e
      exact ⟨s, by rw [h1, e]⟩
    obtain ⟨f, hf⟩ := Deep.choose_lt each
    refine ⟨(List.range len).map f, some a, m, by simp, ⟨by simpa using hl, by unfold maxLen at hm; omega, fun e => by cases e⟩, fun hne => ?_⟩
    have hlen : 0 < len := by
      cases len with
      | zero => simp at hne
      | succ n => omega
    have ea := addr_plain (by simpa [Addr.add] using hf 0 (by omega) : W.cell? a = some _)
    refine ⟨a.block, a.off, by rw [ea], World.block_lt_of_cell? W a (by simpa [Addr.add] using hf 0 (by omega)), fun i hi => ?_⟩
    have hi' : i < len := by simpa using hi
    have e1 : ((List.range len).map f).getD i [] = f i := by simp [List.getD, hi']
    have h1 := hf i (by omega)
    rw [ea, Addr.add_lit] at h1
    rw [e1]
    exact h1

theorem val_of_trod (n : Nat) : ∀ (cs : List Value) (x : DataW H × List MemPlace), DataW.trod enc Tryz.prog W 0 (fun _ => true) true n 41 cs = some x → ∃ c0 c1 c2 c3 c4 t, cs = [c0, c1, c2, c3, c4] ∧ ValAt W t (.agg #[c0, c1, c2, c3, c4]) := by
  induction n using Nat.strongRecOn with
  | _ n ih =>
    intro cs x h
    obtain ⟨y0, y1, y2, y3, y4, m, rfl, hl, h0, h1, h2, h3, h4⟩ := trod_struct5 Tryz.underlying41 h
    rw [cellsVal] at hl
    match cs, hl with
    | [c0, c1, c2, c3, c4], _ =>
      simp only [cellsKind, cellsBool, cellsString, cellsVals, cellsStrs, List.drop_zero, List.drop_succ_cons, List.take_succ_cons, List.take_zero] at h0 h1 h2 h3 h4
      obtain ⟨k, e0, _, wf⟩ := DataW.trod_int Tryz.underlying37 h0
      obtain ⟨b, e1, _⟩ := DataW.trod_bool Tryz.underlying4 h1
      obtain ⟨s, e2, _, hs⟩ := DataW.trod_string Tryz.underlying9 h2
      obtain ⟨⟨s⟩⟩ := s
      obtain rfl : c0 = .int .i64 k := by simpa using e0
      obtain rfl : c1 = .bool b := by simpa using e1
      obtain rfl : c2 = .string ⟨⟨s⟩⟩ := by simpa using e2
      have bd := bounds_i64 wf
      have hsl : s.length ≤ 9223372036854775807 := by
        have : s.toArray.size ≤ maxLen := hs
        unfold maxLen at this
        simp at this
        omega
      obtain ⟨ks, hks⟩ := strs_of_trod h4
      rcases DataW.trod_slice Tryz.underlying38 h3 with ⟨hcs, _⟩ | ⟨a, len, cap, elems, rest, p, hp, hcs, _, _, hlc, hm, hel, hx, _⟩
      · obtain rfl : c3 = .slice none 0 0 := by simpa using hcs
        refine ⟨_, _, _, _, _, .mk k b s [] ks, rfl, ?_⟩
        rw [ValAt]
        exact ⟨_, _, rfl, ⟨bd.1, bd.2, hsl⟩, hks, fun _ => .bool false, RowAt.nil W _, by rw [ValsAt]; trivial⟩
      · obtain rfl : c3 = .slice (some a) len cap := by simpa using hcs
        have each : ∀ i, i < len → ∃ q : VT × Value, (∃ c0 c1 c2 c3 c4, q.2 = .agg #[c0, c1, c2, c3, c4] ∧ W.cell? (a.add (i * 5)) = some c0 ∧ W.cell? ((a.add (i * 5)).add 1) = some c1 ∧ W.cell? ((a.add (i * 5)).add 2) = some c2 ∧ W.cell? ((a.add (i * 5)).add 3) = some c3 ∧ W.cell? ((a.add (i * 5)).add 4) = some c4) ∧ ValAt W q.1 q.2 := fun i hi => by
          have hxi := hx i hi
          rw [List.getElem?_eq_getElem (by omega)] at hxi
          obtain ⟨cs', g1, g2⟩ := Option.bind_eq_some_iff.1 hxi
          obtain ⟨d0, d1, d2, d3, d4, t, rfl, ht⟩ := ih p (by omega) cs' _ g2
          rw [cellsVal] at g1
          obtain ⟨_, _, g3⟩ := World.cells?_some g1
          exact ⟨(t, .agg #[d0, d1, d2, d3, d4]), ⟨d0, d1, d2, d3, d4, rfl, by have := g3 0 (by decide); simpa [Addr.add] using this, by simpa using g3 1 (by decide), by simpa using g3 2 (by decide), by simpa using g3 3 (by decide), by simpa using g3 4 (by decide)⟩, ht⟩
        obtain ⟨f, hf2⟩ := Deep.choose_lt each
        refine ⟨_, _, _, _, _, .mk k b s ((List.range len).map fun i => (f i).1) ks, rfl, ?_⟩
        rw [ValAt]
        refine ⟨_, _, rfl, ⟨bd.1, bd.2, hsl⟩, hks, fun i => (f i).2, ?_, ?_⟩
        · rw [List.length_map, List.length_range]
          refine ⟨some a, cap, rfl, ⟨hlc, by unfold maxLen at hm; omega, fun e => by cases e⟩, fun hne => ?_⟩
          obtain ⟨⟨c0, _, _, _, _, _, g0, _⟩, _⟩ := hf2 0 (by omega)
          have ea := addr_plain (by simpa [Addr.add] using g0 : W.cell? a = some _)
          refine ⟨a.block, a.off, by rw [ea], World.block_lt_of_cell? W a (by simpa [Addr.add] using g0), fun i hi => ?_⟩
          obtain ⟨⟨d0, d1, d2, d3, d4, e, g0, g1, g2, g3, g4⟩, _⟩ := hf2 i hi
          rw [ea, Addr.add_lit] at g0 g1 g2 g3 g4
          rw [Addr.add_lit] at g1 g2 g3 g4
          exact ⟨d0, d1, d2, d3, d4, e, g0, g1, g2, g3, g4⟩
        · rw [ValsAt_iff]
          intro i hi
          have hi' : i < len := by simpa using hi
          simpa using (hf2 i hi').2

/-- A value that came in. -/
theorem open_val {b0 : Nat} {v : Value} {d : DataW H} {ps : List MemPlace} (hval : Value.okWide Tryz.prog W .any b0 41 v) (h : DataW.Trod enc Tryz.prog W 0 (fun _ => true) true 41 v d ps) : ∃ t, ValAt W t v := by
  obtain ⟨cs, rfl, hs⟩ := okWide_struct Tryz.underlying41 hval
  obtain ⟨fuel, hf⟩ := h
  obtain ⟨c0, c1, c2, c3, c4, t, e, ht⟩ := val_of_trod fuel _ _ hf
  obtain ⟨l⟩ := cs
  have e : l = [c0, c1, c2, c3, c4] := by simpa [Value.cells] using e
  subst e
  exact ⟨t, ht⟩
end

end Go.Proofs.YtpbipngnoklmcaaGreatDoor
