/- Update once more: it says, too, which blocks the values stay out of. Printed by genconk.py from the texts of note and Update. -/
import Derived.Test.YtpbipngnoklmcaaGreatDoorMWldHs
namespace Go.Proofs.YtpbipngnoklmcaaGreatDoor
open Go.RowKit
set_option maxRecDepth 100000
attribute [local go_sem] str_size str_toList str_get
variable {w : World} {p b n : Nat} {S : WS} {val : S8 → S8 → Value} {vf vt : Value} {D : DataW Value} {K : List Nat}

/-- No value stands in a block of K. -/
def ValsOff (K : List Nat) (w : World) (l : List O3) (val : S8 → S8 → Value) : Prop := ∀ o ∈ l, ∃ F, OwnVal w o.2.2 (val o.1 o.2.1) F ∧ ∀ q ∈ F, q ∉ K
theorem ValsOff.below {l : List O3} {w' : World} (h : ValsOff K w l val) (hb : Below w.heap.size w w') : ValsOff K w' l val := fun o ho => by
  obtain ⟨F, hF, hn⟩ := h o ho
  exact ⟨F, hF.keep fun q hq => hb.block q (hF.lt q hq), hn⟩
theorem ValsOff.stored {w' : World} {t i : S8} {x : VT} {v : Value} {F : List Nat} (hO : ValsOff K w S.objs val) (h : WAt w p b n S val vf vt D) (hF : OwnVal w x v F) (hs : Spares [b] w w') (hn : ∀ q ∈ F, q ∉ K) : ValsOff K w' (putP S (t, i, x)).objs (putVal val t i v) := fun o ho => by
  rcases mem_withO.1 ho with rfl | ⟨ho, hne⟩
  · refine ⟨F, ?_, hn⟩
    unfold putVal
    rw [if_pos ⟨rfl, rfl⟩]
    refine hF.keep fun q hq => hs.block q (hF.lt q hq) ?_
    obtain ⟨es, clock, hb⟩ := map_block h.map
    obtain ⟨cs, fz, hh⟩ := own_kinds hF q hq
    intro hm'
    obtain rfl : q = b := by simpa using hm'
    rcases hh with hh | hh <;> (rw [hb] at hh; cases hh)
  · obtain ⟨G, hG, hg⟩ := hO o ho
    refine ⟨G, ?_, hg⟩
    unfold putVal
    rw [if_neg]
    · refine hG.keep fun q hq => hs.block q (hG.lt q hq) fun hm' => h.vals_apart hG hq ?_
      have : q = b := by simpa using hm'
      rw [this]
      simp [wF]
    · rintro ⟨e1, e2⟩
      unfold isO at hne
      simp [e1, e2] at hne
/-- What a call leaves, and which blocks the values stay out of. -/
def WStepO (K : List Nat) (w : World) (p b n : Nat) (S : WS) (vf vt : Value) (w' : World) : Prop :=
  ∃ val' vt' D', WAt w' p b n S val' vf vt' D' ∧ Spares (wF p b vt) w w' ∧ (∀ q ∈ wF p b vt', q ∈ wF p b vt ∨ w.heap.size ≤ q) ∧ ValsOff K w' S.objs val'
theorem WStepO.after {w w1 w2 : World} {p b n : Nat} {S' : WS} {vf vt : Value} (hs : Spares (wF p b vt) w w1) (h : WStepO K w1 p b n S' vf vt w2) : WStepO K w p b n S' vf vt w2 := by
  obtain ⟨val', vt', D', hW, hsp, hF, hO⟩ := h
  exact ⟨val', vt', D', hW, hs.trans hsp, fun q hq => (hF q hq).imp id fun h => Nat.le_trans hs.size h, hO⟩
theorem WAt.notedO (h : WAt w p b n S val vf vt D) (hO : ValsOff K w S.objs val) {w3 : World} {v' : Value} (t : T5) (hs : Spares vt.ownBlock.toList w w3)
    (hown : w3.ownsRow 0 58 5 v' (S.trace.length + 1) (callCells S.trace ++ [.int .i64 t.1, str t.2.1, str t.2.2.1, str t.2.2.2.1, .int .i64 t.2.2.2.2]))
    (hv' : v'.ownBlock = vt.ownBlock ∨ ∃ g, v'.ownBlock = some g ∧ w.heap.size ≤ g) :
    WStepO K w p b n ⟨S.objs, S.fails, S.trace ++ [t]⟩ vf vt (w3.setCell ⟨p, 2, none⟩ v') := by
  have hp : p ∉ vt.ownBlock.toList := fun hm => by
    rw [Option.mem_toList] at hm
    exact (h.trace_apart hm).1 rfl
  have hsp : Spares (wF p b vt) w (w3.setCell ⟨p, 2, none⟩ v') :=
    (hs.sub fun k hk _ => by unfold wF; simp [hk]).trans ((setC_spares w3 p 2 v').sub fun k hk _ => by unfold wF; simp at hk; simp [hk])
  have hbox3 := (hs.block p (heap_lt h.box) hp).trans h.box
  have hkeep : ∀ {q : Nat} {o : Obj}, w.heap[q]? = some o → q ∉ wF p b vt → (w3.setCell ⟨p, 2, none⟩ v').heap[q]? = w.heap[q]? := fun hq hn => hsp.block _ (heap_lt hq) hn
  refine ⟨val, v', D, ⟨?_, ?_, h.rel, h.ris, h.fit, ?_, ?_, ?_⟩, hsp, ?_, fun o ho => ?_⟩
  · exact setC hbox3 2 v'
  · refine map_keep h.map ?_
    obtain ⟨es, clock, hb⟩ := map_block h.map
    have hb3 : b ∉ vt.ownBlock.toList := fun hm => by
      rw [Option.mem_toList] at hm
      exact (h.trace_apart hm).2 rfl
    rw [Below.heap_setCell _ _ _ _ (by exact fun e => h.p_ne_b e.symm)]
    exact hs.block b (heap_lt hb) hb3
  · exact h.vals.keep fun o ho F hF q hq => by
      exact hsp.block q (hF.lt q hq) (h.vals_apart hF hq)
  · refine row_keep h.fails fun q hq => ?_
    obtain ⟨_, hh⟩ := row_block h.fails hq
    exact hkeep hh (h.fails_apart hq)
  · show (w3.setCell ⟨p, 2, none⟩ v').ownsRow 0 _ 5 v' (S.trace ++ [t]).length (callCells (S.trace ++ [t]))
    rw [call_snoc, List.length_append]
    refine row_keep hown fun q hq => Below.heap_setCell _ _ _ _ ?_
    rintro rfl
    rcases hv' with e | ⟨g, e, hg⟩
    · rw [e] at hq
      exact (h.trace_apart hq).1 rfl
    · rw [e] at hq
      cases hq
      have := heap_lt h.box
      omega
  · intro q hq
    simp only [wF, List.mem_cons, Option.mem_toList] at hq ⊢
    rcases hq with rfl | rfl | hq
    · exact .inl (.inl rfl)
    · exact .inl (.inr (.inl rfl))
    · rcases hv' with e | ⟨g, e, hg⟩
      · rw [e] at hq
        exact .inl (.inr (.inr hq))
      · rw [e] at hq
        cases hq
        exact .inr hg
  · obtain ⟨F, hF, hn⟩ := hO o ho
    exact ⟨F, hF.keep fun q hq => hsp.block q (hF.lt q hq) (h.vals_apart hF hq), hn⟩
set_option maxHeartbeats 4000000 in
theorem note_o (h : WAt w p b n S val vf vt D) (hVO : ValsOff K w S.objs val) (op : Int) (addr typ i : S8) (er : Int) (hl : S.trace.length ≤ 100000) :
    Calls Tryz.prog 51 #[.pointer (some ⟨p, 0, none⟩), .int .i64 op, str addr, nameV typ i, .int .i64 er] w fun e w' => e = .returned (.int .i64 er) ∧ WStepO K w p b n (noteP S op addr typ i er) vf vt w' := by
  have mixed : Tryz.prog.follows .mixedOrders = true := by kernel_rfl
  obtain ⟨w0, hw0⟩ : ∃ w0, w0 = w.alloc (.cells #[str typ, str i] 78) := ⟨_, rfl⟩
  have hn0 : w0.heap[w.heap.size]? = some (.cells #[str typ, str i] 78 (0, 0)) := by rw [hw0]; exact heap_alloc_new _ _
  have hb0 : Below w.heap.size w w0 := by rw [hw0]; exact (Below.refl _ w).alloc (Nat.le_refl _) _
  have e0 : w0.cell? ⟨w.heap.size, 0, none⟩ = some (str typ) := by rw [Lib.cell_of_heap hn0]; rfl
  have e1 : w0.cell? ⟨w.heap.size, 1, none⟩ = some (str i) := by rw [Lib.cell_of_heap hn0]; rfl
  have h0 := h.below hb0
  have c2 : w0.cell? ⟨p, 2, none⟩ = some vt := by rw [Lib.cell_of_heap h0.box]; rfl
  have hpl : p < w0.heap.size := heap_lt h0.box
  have hpn : ¬ w0.heap.size = p := by omega
  have hpn2 : ¬ p = w0.heap.size := by omega
  have hwl : w.heap.size < w0.heap.size := heap_lt hn0
  have hwn : ¬ w0.heap.size = w.heap.size := by omega
  have hwn2 : ¬ w.heap.size = w0.heap.size := by omega
  obtain ⟨P, cap, hvt⟩ := slice_form h.trace
  subst hvt
  have H := Lib.hid h
  have H0 := Lib.hid h0
  obtain ⟨i1, hi1, hz1, hzs1, hzb1⟩ := info_parts (P := Tryz.prog) (e := 58) (z := .agg #[.int .i64 0, .string ⟨#[]⟩, .string ⟨#[]⟩, .string ⟨#[]⟩, .int .i64 0]) (size := 5) (bytes := 64) (by kernel_rfl)
  have hO : ∀ W, Below w0.heap.size w0 W → W.ownsRow 0 58 5 (.slice P S.trace.length cap) S.trace.length (callCells S.trace) := fun W hW => (h0.below hW).trace
  have HO := Lib.hid hO
  have hB : ∀ W W3, Below w0.heap.size w0 W → W.grownBy W3 (Value.slice P S.trace.length cap).ownBlock → W3.cell? ⟨p, 2, none⟩ = some (.slice P S.trace.length cap) ∧ W3.frozen? ⟨p, 2, none⟩ = false := fun W W3 hW hg => by
    have hw := h0.below hW
    have hp : some p ≠ (Value.slice P S.trace.length cap).ownBlock := fun e => (hw.trace_apart e.symm).1 rfl
    have hh := (hg.block p (heap_lt hw.box) hp).trans hw.box
    exact ⟨by rw [Lib.cell_of_heap hh]; rfl, Lib.frozen_of_heap hh 2⟩
  have HB := Lib.hid hB
  have hK : ∀ W W3 v', Below w0.heap.size w0 W → W.grownBy W3 (Value.slice P S.trace.length cap).ownBlock → W3.ownsRow 0 58 5 v' (S.trace.length + 1) (callCells S.trace ++ [.int .i64 op, str addr, str typ, str i, .int .i64 er]) →
      (v'.ownBlock = (Value.slice P S.trace.length cap).ownBlock ∨ v'.ownBlock = some W.heap.size) → WStepO K w p b n (noteP S op addr typ i er) vf (.slice P S.trace.length cap) (W3.setCell ⟨p, 2, none⟩ v') := fun W W3 v' hW hg ho hv => by
    refine h.notedO hVO (op, addr, typ, i, er) ?_ ho ?_
    · have s1 : Spares (Value.slice P S.trace.length cap).ownBlock.toList w W := Spares.of_below (hb0.trans (hW.mono hb0.size))
      exact s1.trans (Spares.grown hg fun k hk => by rw [hk]; simp)
    · rcases hv with e | e
      · exact .inl e
      · exact .inr ⟨_, e, Nat.le_trans hb0.size hW.size⟩
  have HKK := Lib.hid hK
  clear hn0 h h0 hO hB hK
  have hnv : nameV typ i = .agg #[str typ, str i] := rfl
  rw [hnv]
  clear hnv
  go_enter Tryz.func51, Tryz.ntmps51
  go_upto_region 1 with fail
  rw [← hw0]
  clear hw0
  go_region_law_o (refine step_append_fresh rfl (.tmp 15) (.tmp 24) 30 rfl 0 58 i1 _ 5 64 Tryz.underlying30 hi1 hz1 hzs1 hzb1 rfl (by decide) (.slice P S.trace.length cap) S.trace.length (callCells S.trace) (by simp [Act.eval]) (HO.out _ (((Below.refl _ w0).drew).alloc (Nat.le_refl _) _)) ⟨w0.heap.size, 0, none⟩ 1 1 [.int .i64 op, str addr, str typ, str i, .int .i64 er] (by simp [Act.eval]) rfl (cells_new _ _ _) (by intro u hu; simp at hu; rcases hu with rfl | rfl | rfl | rfl | rfl <;> rfl) (by unfold maxLen; omega) (by omega) (by simp) ?_; intro v' w3 hown hgrow hv'; obtain ⟨d2, f2⟩ := HB.out _ w3 (((Below.refl _ w0).drew).alloc (Nat.le_refl _) _) hgrow; obtain ⟨a', c', rfl⟩ := slice_form hown)
  all_goals have HR := Lib.hid (HKK.out _ w3 _ (((Below.refl _ w0).drew).alloc (Nat.le_refl _) _) hgrow hown hv')
  all_goals clear hown hgrow hv' HKK HB HO H H0 d2 f2 e0 e1 c2
  all_goals go_wp2
  all_goals go_ret
  all_goals exact ⟨rfl, HR.out⟩

set_option maxHeartbeats 8000000 in
theorem update_o (h : WAt w p b n S val vf vt D) (hO : ValsOff K w S.objs val) (hK : ∀ q ∈ K, q < w.heap.size) (addr typ i : S8) (x : VT) (v : Value) (hv : ValAt w x v) (ft : fitS typ) (fi : fitS i) (hl : S.trace.length ≤ 100000) (hn : n ≤ 100000) :
    Calls Tryz.prog 21 #[.pointer (some ⟨p, 0, none⟩), str addr, str typ, str i, v] w fun e w' =>
      e = .returned (.int .i64 (updateP S addr typ i x).2) ∧ ∃ n', n' ≤ n + 1 ∧ WStepO K w p b n' (updateP S addr typ i x).1 vf vt w' := by
  have mixed : Tryz.prog.follows .mixedOrders = true := by kernel_rfl
  have HV := Lib.hid hv
  obtain ⟨ai, ci, ak, ck, rfl⟩ := hv.form
  obtain ⟨wB, hwB⟩ : ∃ wB, wB = w.alloc (.cells #[.int .i64 x.kind, .bool x.flag, str x.text, .slice ai x.items.length ci, .slice ak x.keys.length ck] 41) := ⟨_, rfl⟩
  obtain ⟨b0, b1, b2, b3, b4, hsB, hbB⟩ := box5 hwB
  obtain ⟨wN, hwN⟩ : ∃ wN, wN = wB.alloc (.cells #[str typ, str i] 78) := ⟨_, rfl⟩
  have nN : wN.heap[wB.heap.size]? = some (.cells #[str typ, str i] 78 (0, 0)) := by rw [hwN]; exact heap_alloc_new _ _
  have sB : wB.heap.size = w.heap.size + 1 := by rw [hwB]; simp only [World.alloc, Array.size_push]
  rw [sB] at nN
  have bN : Below wB.heap.size wB wN := by rw [hwN]; exact (Below.refl _ wB).alloc (Nat.le_refl _) _
  have hbwN := hbB.trans (bN.mono hbB.size)
  have H := Lib.hid h
  have HO := Lib.hid (fun (W : World) (hW : Below w.heap.size w W) => hO.below hW)
  have HKK := Lib.hid hK
  have hur : updateP S addr typ i x = if goodA x = false then (S, 1) else if failsP S.fails 2 addr = true then (noteP S 2 addr typ i 160, 160)
    else if hasO S.objs typ i = false then (noteP S 2 addr typ i 4, 4) else (noteP (putP S (typ, i, x)) 2 addr typ i 0, 0) := rfl
  obtain ⟨R, hR⟩ : ∃ R, updateP S addr typ i x = R := ⟨_, rfl⟩
  rw [hR] at hur ⊢
  obtain ⟨V, hlk, _, _, vk0, vf0, vt0, va0, vn0, vc0, va1, vn1, vc1, rfl⟩ := h.look ft fi
  obtain ⟨B, hB⟩ : ∃ B, hasO S.objs typ i = B := ⟨_, rfl⟩
  rw [hB] at hlk hur
  simp only [show nameV typ i = .agg #[str typ, str i] from rfl] at hlk
  have HLK := Lib.hid hlk
  have HUR := Lib.hid hur
  have hN := h.below hbwN
  have HMO := Lib.hid (fun W (hW : Below wN.heap.size wN W) => (hN.below hW).map)
  have g0 : wN.cell? ⟨w.heap.size + 1, 0, none⟩ = some (str typ) := by rw [Lib.cell_of_heap nN]; rfl
  have g1 : wN.cell? ⟨w.heap.size + 1, 1, none⟩ = some (str i) := by rw [Lib.cell_of_heap nN]; rfl
  have c6 : wN.cell? ⟨p, 0, none⟩ = some (.map (some b)) := by rw [Lib.cell_of_heap hN.box]; rfl
  have hp6 := heap_lt hN.box
  have hN6 := heap_lt nN
  have hp6n : ¬ wN.heap.size = p := by omega
  have hp6m : ¬ p = wN.heap.size := by omega
  have hN6n : ¬ wN.heap.size = w.heap.size + 1 := by omega
  have hN6m : ¬ w.heap.size + 1 = wN.heap.size := by omega
  have HNN := Lib.hid nN
  have HBN := Lib.hid bN
  have HBW := Lib.hid hbwN
  clear hR hur hlk hB h hv hN nN bN hbwN sB
  go_enter Tryz.func21, Tryz.ntmps21
  go_upto_region 2 with fail
  rw [← hwB, ← hwN]
  clear hwB hwN
  go_cut [12, 13] from 17 to 25 (fun s12 s13 wx => s13 = .bool B ∧ Hid (Below wN.heap.size wN wx))
  case first =>
    have T1 := HLK.out _ (HMO.out _ ((Below.refl _ wN).drew))
    have T2 := fun o => HLK.out _ (HMO.out _ (((Below.refl _ wN).alloc (Nat.le_refl _) o).drew))
    obtain ⟨z0, z1, z2, z3, z4, y0, y1, y2, y3, y4⟩ := free5 (heap_alloc_new wN (.cells #[.int .i64 0, .bool false, .string ⟨#[]⟩, .slice none 0 0, .slice none 0 0] 41))
    go_region_law_o fail
    all_goals (try go_wp2)
    all_goals go_meet
    all_goals exact ⟨rfl, ((Below.refl _ wN).alloc (Nat.le_refl _) _).drew⟩
  case rest =>
    obtain ⟨rfl, HW⟩ := hcut
    clear g0 g1 c6 HLK HMO hp6 hp6n hp6m hN6n hN6m
    have hbc := HBW.out.trans (HW.out.mono HBW.out.size)
    have hBc := HBN.out.trans (HW.out.mono HBN.out.size)
    have c0 := box_at b0 hsB hBc
    have c1 := box_at b1 hsB hBc
    have c2 := box_at b2 hsB hBc
    have c3 := box_at b3 hsB hBc
    have c4 := box_at b4 hsB hBc
    have nC := (HW.out.block _ (heap_lt HNN.out)).trans HNN.out
    have GD := good_w x _ wc (HV.out.mono hbc)
    have HCC := Lib.hid (⟨hbc, hBc, nC⟩ : Below w.heap.size w wc ∧ Below wB.heap.size wB wc ∧ wc.heap[w.heap.size + 1]? = some (.cells #[str typ, str i] 78 (0, 0)))
    obtain ⟨g, hg⟩ : ∃ g, goodA x = g := ⟨_, rfl⟩
    rw [hg] at GD HUR
    have HG := Lib.hid hg
    clear hbc hBc nC HW HBN HNN hg
    go_wp2_with fail
    refine GD.mono ?_
    rintro e w1 ⟨rfl, hq1⟩
    have hb1 := HCC.out.1.trans (hq1.mono HCC.out.1.size)
    have hB1 := HCC.out.2.1.trans (hq1.mono HCC.out.2.1.size)
    have n1 := (hq1.block _ (heap_lt HCC.out.2.2)).trans HCC.out.2.2
    have H1 := Lib.hid (⟨hb1, hB1, n1⟩ : Below w.heap.size w w1 ∧ Below wB.heap.size wB w1 ∧ w1.heap[w.heap.size + 1]? = some (.cells #[str typ, str i] 78 (0, 0)))
    clear GD hq1 hb1 hB1 n1 c0 c1 c2 c3 c4 HCC
    cases g with
    | false =>
      have hr := HUR.out
      rw [if_pos rfl] at hr
      have HR := Lib.hid hr
      clear hr HUR
      go_wp2
      go_ret
      refine ⟨by rw [HR.out]; rfl, n, by omega, ?_⟩
      rw [HR.out]
      exact ⟨val, vt, D, H.out.below H1.out.1, Spares.of_below H1.out.1, fun q hq => .inl hq, HO.out _ H1.out.1⟩
    | true =>
      have hr := HUR.out
      rw [if_neg (by simp)] at hr
      have FL := fail_w (H.out.below H1.out.1) 2 addr
      generalize failsP S.fails 2 addr = C at FL hr
      have HC2 := Lib.hid hr
      clear hr HUR
      go_wp2_with fail
      refine FL.mono ?_
      rintro e w2 ⟨rfl, hq2⟩
      have hb2 := H1.out.1.trans (hq2.mono H1.out.1.size)
      have hB2 := H1.out.2.1.trans (hq2.mono H1.out.2.1.size)
      have n2 := (hq2.block _ (heap_lt H1.out.2.2)).trans H1.out.2.2
      have d0 : w2.cell? ⟨w.heap.size + 1, 0, none⟩ = some (str typ) := by rw [Lib.cell_of_heap n2]; rfl
      have d1 : w2.cell? ⟨w.heap.size + 1, 1, none⟩ = some (str i) := by rw [Lib.cell_of_heap n2]; rfl
      have H2 := Lib.hid (⟨hb2, hB2, n2⟩ : Below w.heap.size w w2 ∧ Below wB.heap.size wB w2 ∧ w2.heap[w.heap.size + 1]? = some (.cells #[str typ, str i] 78 (0, 0)))
      have hsp2 := Lib.hid (Spares.of_below (F := wF p b vt) hb2)
      clear FL hq2 hb2 hB2 n2 H1
      cases C with
      | true =>
        have hr := HC2.out
        rw [if_pos rfl] at hr
        have HR := Lib.hid hr
        have NT := note_o (H.out.below H2.out.1) (HO.out _ H2.out.1) 2 addr typ i 160 hl
        rw [show nameV typ i = .agg #[str typ, str i] from rfl] at NT
        clear hr HC2
        go_wp2_with fail
        refine NT.mono ?_
        rintro e w3 ⟨rfl, hs3⟩
        have HS := Lib.hid (WStepO.after hsp2.out hs3)
        clear hs3 NT d0 d1
        go_wp2
        go_ret
        refine ⟨by rw [HR.out]; rfl, n, by omega, ?_⟩
        rw [HR.out]
        exact HS.out
      | false =>
        have hr := HC2.out
        rw [if_neg (by simp)] at hr
        cases B with
        | false =>
          rw [if_pos rfl] at hr
          have HR := Lib.hid hr
          have NT := note_o (H.out.below H2.out.1) (HO.out _ H2.out.1) 2 addr typ i 4 hl
          rw [show nameV typ i = .agg #[str typ, str i] from rfl] at NT
          clear hr HC2
          go_wp2_with fail
          refine NT.mono ?_
          rintro e w3 ⟨rfl, hs3⟩
          have HS := Lib.hid (WStepO.after hsp2.out hs3)
          clear hs3 NT d0 d1
          go_wp2
          go_ret
          refine ⟨by rw [HR.out]; rfl, n, by omega, ?_⟩
          rw [HR.out]
          exact HS.out
        | true =>
          rw [if_neg (by simp)] at hr
          have HR := Lib.hid hr
          obtain ⟨hfv, hsz⟩ := goodA_facts HG.out
          have c0 := box_at b0 hsB H2.out.2.1
          have c1 := box_at b1 hsB H2.out.2.1
          have c2 := box_at b2 hsB H2.out.2.1
          have c3 := box_at b3 hsB H2.out.2.1
          have c4 := box_at b4 hsB H2.out.2.1
          have c6 : w2.cell? ⟨p, 0, none⟩ = some (.map (some b)) := by rw [Lib.cell_of_heap (H.out.below H2.out.1).box]; rfl
          have HCL := Lib.hid (fun W (hW : Below w2.heap.size w2 W) => clone_val x _ W (HV.out.mono (H2.out.1.trans (hW.mono H2.out.1.size))) hfv (Nat.le_trans hsz (by decide)))
          have HAF := Lib.hid (fun W (hW : Below w2.heap.size w2 W) => (⟨H.out.below (H2.out.1.trans (hW.mono H2.out.1.size)), H2.out.1.trans (hW.mono H2.out.1.size), (hW.block _ (heap_lt H2.out.2.2)).trans H2.out.2.2⟩ : WAt W p b n S val vf vt D ∧ Below w.heap.size w W ∧ W.heap[w.heap.size + 1]? = some (.cells #[str typ, str i] 78 (0, 0))))
          have hNb : w.heap.size + 1 ≠ b := by
            have := H.out.map.lt
            omega
          have hst : ∀ W v F, WAt W p b n S val vf vt D → Below w.heap.size w W → (∀ q ∈ F, w.heap.size ≤ q) → OwnVal W x v F → ∃ w', (Instr.mapUpdate 71 (.map (some b)) (.agg #[str typ, str i]) v).run Tryz.prog W = .ok () w' ∧ (WAt w' p b (n + 1) (putP S (typ, i, x)) (putVal val typ i v) vf vt (D.put (klW typ i) (.held v)) ∧ Spares [b] W w' ∧ ValsOff K w' (putP S (typ, i, x)).objs (putVal val typ i v)) := fun W v F h1 hb hq h2 => by
            obtain ⟨w', g1, g2, g3⟩ := h1.store (by unfold maxLen; omega) ft fi HG.out h2
            exact ⟨w', g1, g2, g3, (HO.out W hb).stored h1 h2 g3 fun q hm hk => Nat.lt_irrefl _ (Nat.lt_of_lt_of_le (HKK.out q hk) (hq q hm))⟩
          have HST := Lib.hid hst
          clear hst hr HC2 b0 b1 b2 b3 b4 hfv hsz
          go_upto_region 9 with fail
          go_cut [] from 45 to 52 (fun wx => ∃ val' D', Hid (WAt wx p b (n + 1) (putP S (typ, i, x)) val' vf vt D' ∧ Spares (wF p b vt) w wx ∧ wx.heap[w.heap.size + 1]? = some (.cells #[str typ, str i] 78 (0, 0)) ∧ ValsOff K wx (putP S (typ, i, x)).objs val'))
          case first =>
            go_region_law_o (first
              | (go_simp; go_at_call 30; refine (HCL.out _ (Below.refl _ w2).drew).mono ?_; rintro e w3 ⟨v1, F1, rfl, hov, hnd, hge, hb1⟩; obtain ⟨si, sc, sk, sd, rfl⟩ := hov.at.form; have hb3 : Below w2.heap.size w2 w3 := (Below.refl _ w2).drew.trans (hb1.mono (Nat.le_refl _)); obtain ⟨a1, a2, a3⟩ := HAF.out _ hb3; have e0 : w3.cell? ⟨w.heap.size + 1, 0, none⟩ = some (str typ) := (by rw [Lib.cell_of_heap a3]; rfl); have e1 : w3.cell? ⟨w.heap.size + 1, 1, none⟩ = some (str i) := (by rw [Lib.cell_of_heap a3]; rfl); have e6 : w3.cell? ⟨p, 0, none⟩ = some (.map (some b)) := (by rw [Lib.cell_of_heap a1.box]; rfl); obtain ⟨w5, hr5, hW5', hs5', ho5'⟩ := HST.out _ _ _ a1 a2 (fun q hq => Nat.le_trans H2.out.1.size (hge q hq)) hov; have ho5 := Lib.hid ho5'; have hW5 := Lib.hid hW5'; have hs5 := Lib.hid hs5'; have HA1 := Lib.hid a2; have HA3 := Lib.hid a3; clear hov hnd hge hb1 hb3 a1 a2 a3 hW5' hs5' ho5'))
            all_goals
              have hcut : ∃ val' D', Hid (WAt w5 p b (n + 1) (putP S (typ, i, x)) val' vf vt D' ∧ Spares (wF p b vt) w w5 ∧ w5.heap[w.heap.size + 1]? = some (.cells #[str typ, str i] 78 (0, 0)) ∧ ValsOff K w5 (putP S (typ, i, x)).objs val') := ⟨_, _, Lib.hid ⟨hW5.out, (Spares.of_below HA1.out).trans (hs5.out.sub fun k hk _ => by unfold wF; simp at hk; simp [hk]), (hs5.out.block _ (heap_lt HA3.out) (by simpa using hNb)).trans HA3.out, ho5.out⟩⟩
              clear hW5 hs5 hr5 HA1 HA3 HST HAF HCL e0 e1 e6 c0 c1 c2 c3 c4 d0 d1 c6
              try go_wp2
              go_meet
              exact hcut
          case rest =>
            obtain ⟨val', D', HX⟩ := hcut
            clear c0 c1 c2 c3 c4 d0 d1 c6 HCL HAF HST hNb
            have d0 : wc.cell? ⟨w.heap.size + 1, 0, none⟩ = some (str typ) := by rw [Lib.cell_of_heap HX.out.2.2.1]; rfl
            have d1 : wc.cell? ⟨w.heap.size + 1, 1, none⟩ = some (str i) := by rw [Lib.cell_of_heap HX.out.2.2.1]; rfl
            have NT := note_o HX.out.1 HX.out.2.2.2 2 addr typ i 0 hl
            rw [show nameV typ i = .agg #[str typ, str i] from rfl] at NT
            go_wp2_with fail
            refine NT.mono ?_
            rintro e w3 ⟨rfl, hs3⟩
            have HS := Lib.hid (WStepO.after HX.out.2.1 hs3)
            clear hs3 NT d0 d1
            go_wp2
            go_ret
            refine ⟨by rw [HR.out]; rfl, n + 1, Nat.le_refl _, ?_⟩
            rw [HR.out]
            exact HS.out

end Go.Proofs.YtpbipngnoklmcaaGreatDoor
