/- Walk of reached: for each node, all to which a way goes: a loop over slices.Backward. -/
import Derived.Test.YtnjbdedmalpccaaDoorGrRound
import Derived.Test.YtnjbdedmalpccaaDoorGrRedP
import Derived.Test.YtnjbdedmalpccaaDoorGrS2
import Derived.Test.YtnjbdedmalpccaaDoorGrS3
namespace Go.Proofs.YtnjbdedmalpccaaDoor
open Go.RowKit Go.Shelf
set_option maxRecDepth 100000

attribute [local go_sem] Oper.semAt_some

theorem keeps_below {W W' : World} (h : Below W.heap.size W W') : KeepsOthers W W' :=
  ⟨h.size, fun k _ hk _ => (h.block k (Array.getElem?_eq_some_iff.1 hk).1).trans hk⟩
theorem keeps_only {W W' : World} {b T n : Nat} {g : Nat → Nat → Nat} (h : OnlyB b W W') (hr : WRow W b T n g) : KeepsOthers W W' := by
  refine ⟨by rw [h.size]; exact Nat.le_refl _, fun k o hk ho => ?_⟩
  by_cases e : k = b
  · subst e
    obtain ⟨arr, hh, _⟩ := hr
    rw [hh] at hk
    cases hk
    cases ho
  · exact (h.block k e).trans hk
theorem KeepP.of_below {n₀ B : Nat} {W W' : World} (h : Below W.heap.size W W') (hn : n₀ ≤ W.heap.size) (hB : B < W.heap.size) : KeepP n₀ B W W' := fun k hk => h.block k (by omega)
theorem KeepP.of_only {n₀ B b : Nat} {W W' : World} (h : OnlyB b W W') (hn : n₀ ≤ b) (hB : B ≠ b) : KeepP n₀ B W W' := fun k hk => h.block k (by omega)

/-- The memory of reached between two rounds. -/
structure ReMem (w wr : World) (n N B : Nat) (f : Nat → Nat) : Prop where
  tab : Tab wr
  old : Below w.heap.size w wr
  bn : Boxed wr w.heap.size 83 (.slice (some ⟨N, 0, none⟩) n n)
  row : WRow wr (w.heap.size + 1) 88 n (fun k j => wd (f k) j)
  bo : Boxed wr B 83 (.slice (some ⟨w.heap.size + 1, 0, none⟩) n n)
  ge : w.heap.size + 2 ≤ B
  sz : B + 2 ≤ wr.heap.size

theorem ReMem.below {w wr w' : World} {n N B : Nat} {f : Nat → Nat} (h : ReMem w wr n N B f) (hb : Below wr.heap.size wr w') : ReMem w w' n N B f := by
  have hs := h.sz
  have hg := h.ge
  exact ⟨h.tab.mono hb, h.old.trans (hb.mono h.old.size), (hb.block _ (by omega)).trans h.bn, h.row.kept (hb.block _ (by omega)), (hb.block _ (by omega)).trans h.bo, hg, Nat.le_trans hs hb.size⟩
theorem ReMem.only {w wr w' : World} {n N B : Nat} {f f' : Nat → Nat} (h : ReMem w wr n N B f) (h0 : 0 < w.heap.size) (ho : OnlyB (w.heap.size + 1) wr w') (hr : WRow w' (w.heap.size + 1) 88 n (fun k j => wd (f' k) j)) : ReMem w w' n N B f' := by
  have hg := h.ge
  refine ⟨⟨by rw [ho.size]; exact h.tab.1, fun k hk => ?_⟩, Below.only h.old ho (by omega), (ho.block _ (by omega)).trans h.bn, hr, (ho.block _ (by omega)).trans h.bo, hg, by rw [ho.size]; exact h.sz⟩
  rw [World.cell?_of_block (w := wr) (a := ⟨0, k, none⟩) (ho.block 0 (by omega))]
  exact h.tab.2 k hk
theorem ReMem.congr {w wr : World} {n N B : Nat} {f f' : Nat → Nat} (h : ReMem w wr n N B f) (hf : ∀ k, f k = f' k) : ReMem w wr n N B f' := by
  have : f = f' := funext hf
  rw [← this]; exact h
/-- The turn of blocks that are no cells, and lie behind, leaves it. -/
theorem ReMem.own {β : Type} (w : World) (n N B S : Nat) (F : β → Nat → Nat) (hS : B + 2 ≤ S) : OwnFrom S (fun (s : β) W => ReMem w W n N B (F s)) := by
  intro s W W' row hs hg hr
  have hge := hs.ge
  have hk : ∀ k, k < B + 2 → W'.heap[k]? = W.heap[k]? := fun k hk => hg.block k (by have := hs.sz; omega) (fun e => by have := (hr k e.symm).1; omega)
  have ht : Tab W' := by
    refine ⟨Nat.lt_of_lt_of_le hs.tab.1 hg.size, fun k hk' => ?_⟩
    rw [World.cell?_of_block (w := W) (a := ⟨0, k, none⟩) (hk 0 (by omega))]
    exact hs.tab.2 k hk'
  exact ⟨ht, hs.old.grown hg hs.old.size (fun k e => by have := (hr k e).1; omega), (hk _ (by omega)).trans hs.bn, hs.row.kept (hk _ (by omega)), (hk _ (by omega)).trans hs.bo, hge, Nat.le_trans hs.sz hg.size⟩

/-- What a round is handed: an index, and a node. -/
abbrev Nd (n : Nat) : Type := { p : Nat × Nat // p.2 < n }
def ndEnc {n : Nat} (x : Nd n) : Array Value := #[.int .i64 (x.1.1 : Nat), .int .i64 (x.1.2 : Nat)]
theorem nd_list {n : Nat} {o : List Nat} (hlt : ∀ i ∈ o, i < n) : ∃ zs : List (Nd n), zs.length = o.length ∧ BackEnc ndEnc o zs ∧ zs.map (fun x => x.1.2) = o.reverse := by
  have hin : ∀ j : Fin o.length, o.getD (o.length - 1 - j.1) 0 < n := fun j => hlt _ (by
    have : o.length - 1 - j.1 < o.length := by have := j.2; omega
    simp [List.getD, this])
  refine ⟨List.ofFn fun j : Fin o.length => ⟨(o.length - 1 - j.1, o.getD (o.length - 1 - j.1) 0), hin j⟩, by simp, fun j x hx => ?_, ?_⟩
  · obtain ⟨hj, e⟩ := List.getElem?_eq_some_iff.1 hx
    rw [List.getElem_ofFn] at e
    subst e
    have hj' : j < o.length := by simpa using hj
    exact ⟨o.length - 1 - j, by omega, rfl⟩
  · apply List.ext_getElem
    · simp
    · intro i h1 h2
      have hi : i < o.length := by simpa using h2
      have : o.length - 1 - i < o.length := by omega
      simp [List.getD, this]

def ReachedPost (w : World) (n : Nat) (f : Nat → Nat) (e : Ending) (w' : World) : Prop :=
  ∃ b, e = .returned (.slice (some ⟨b, 0, none⟩) n n) ∧ WRow w' b 88 n (fun k j => wd (f k) j) ∧ Below w.heap.size w w' ∧ w.heap.size ≤ b

set_option maxHeartbeats 4000000 in
theorem reached_any (N n : Nat) (ov : Value) (es : List (Int × Int)) (o : List Nat) (w : World) (hT : Tab w) (hN : WRow w N 88 n (fun k j => wd (succS es k) j)) (ho : IntsAt w ov (o.map fun i : Nat => (i : Int)))
    (hn : n ≤ 512) (hes : ∀ e ∈ es, 0 ≤ e.1 ∧ e.1 < n ∧ 0 ≤ e.2 ∧ e.2 < n) (hlt : ∀ i ∈ o, i < n) (hself : ∀ i k, k ∈ nodes (succS es i) → k ≠ i) :
    Calls Tryd.prog 27 #[.slice (some ⟨N, 0, none⟩) n n, ov] w (ReachedPost w n (stF es o.reverse)) := by
  obtain ⟨i0, hi, hz0, hz1, hz2⟩ := info_parts Tryd.info88
  have hN0 := hN.lt
  have hT0 := hT.1
  obtain ⟨ao, cap, rfl, hol, hom, hoc⟩ := ho
  rw [List.length_map] at hol hom ⊢
  obtain ⟨zs, hz, henc, hmap⟩ := nd_list hlt
  refine (callsIn_wide (n := 3)).1 ?_
  refine callsIn_of_wp_marks Tryd.func27 rfl trivial ?_ rfl
  simp only [Tryd.ntmps27, List.size_toArray, List.length_cons, List.length_nil, Nat.reduceAdd, Nat.reduceSub, Array.replicate_succ, Array.replicate_zero, List.push_toArray, List.append_toArray, List.nil_append, List.cons_append]
  refine wpIn_wide.2 ?_
  go_wp2_with (first | (at_make; refine wpList_make_full _ rfl _ _ 83 rfl (w.heap.size + 1) 88 i0 _ 8 Tryd.underlying83 hi hz0 hz1 _ _ _ _ n rfl rfl rfl rfl (by rw [hz2]; omega) (by unfold maxLen; omega) (by simp) ?_))
  intro w1 hown hgrow
  have hB1 : Below (w.heap.size + 1) (w.alloc (.cells #[.slice (some ⟨N, 0, none⟩) n n] 83)) w1 := (Below.refl _ _).grown hgrow (by simp) (fun k hk => by cases hk)
  have hb1 := ownsRow_block hown
  have hge : w.heap.size + 2 ≤ w1.heap.size := (Array.getElem?_eq_some_iff.1 hb1).1
  have hB0 : Below w.heap.size w w1 := ((Below.refl w.heap.size w).alloc (Nat.le_refl _) _).trans (hB1.mono (Nat.le_succ _))
  have hrow1 : WRow w1 (w.heap.size + 1) 88 n (fun k j => wd (stF es [] k) j) := by
    refine ⟨_, hb1, by simp [size_madeCells], fun k j hk hj => ?_⟩
    have := made_sets (k * 8 + j) (n * 8) (by omega)
    simpa [stF_nil, wd_zero] using this
  have hbx1 : Boxed w1 w.heap.size 83 (.slice (some ⟨N, 0, none⟩) n n) := (hB1.block _ (Nat.lt_succ_self _)).trans (Boxed.new w 83 _)
  go_wp2_with (go_at_call 49; refine (backward_any ao o.length cap _).mono ?_; rintro e w' ⟨rfl, rfl⟩)
  have hW : ReMem w ((w1.alloc (.cells #[.slice (some ⟨w.heap.size + 1, 0, none⟩) n n] 83)).alloc (.cells #[.slice ao o.length cap] 49)) n N w1.heap.size (stF es []) := by
    refine ⟨?_, ?_, (hbx1.alloc _).alloc _, (hrow1.alloc _).alloc _, (Boxed.new w1 83 _).alloc _, hge, by simp⟩
    · exact hT.mono ((hB0.alloc hB0.size _).alloc (by have := hB0.size; simp; omega) _)
    · exact (hB0.alloc hB0.size _).alloc (by have := hB0.size; simp; omega) _
  have hbs : ((w1.alloc (.cells #[.slice (some ⟨w.heap.size + 1, 0, none⟩) n n] 83)).alloc (.cells #[.slice ao o.length cap] 49)).cell? ⟨w1.heap.size + 1, 0, none⟩ = some (.slice ao o.length cap) := by
    simp
  have hss : ((w1.alloc (.cells #[.slice (some ⟨w.heap.size + 1, 0, none⟩) n n] 83)).alloc (.cells #[.slice ao o.length cap] 49)).heap.size = w1.heap.size + 2 := by simp
  have hba : BackAt w.heap.size ((w1.alloc (.cells #[.slice (some ⟨w.heap.size + 1, 0, none⟩) n n] 83)).alloc (.cells #[.slice ao o.length cap] 49)) ao o := by
    intro hne
    obtain ⟨b, off, e, hbl, hc⟩ := hoc (by simpa using hne)
    refine ⟨b, off, e, hbl, fun i hi => ?_⟩
    rw [hW.old.cell (p := ⟨b, off + i, none⟩) hbl, hc i (by simpa using hi)]
    simp [List.getD, hi]
  obtain ⟨w2, hw2⟩ : ∃ w2, w2 = ((w1.alloc (.cells #[.slice (some ⟨w.heap.size + 1, 0, none⟩) n n] 83)).alloc (.cells #[.slice ao o.length cap] 49)) := ⟨_, rfl⟩
  rw [← hw2] at hW hbs hss hba ⊢
  obtain ⟨B, hBB⟩ : ∃ B, B = w1.heap.size := ⟨_, rfl⟩
  rw [← hBB] at hW hbs hss hge ⊢
  have HES := Lib.hid hes
  have HSF := Lib.hid hself
  have HM := Lib.hid hmap
  clear hw2 hBB hbx1 hrow1 hB0 hb1 hB1 hown hgrow hoc hes hself hmap
  refine (wpIn_wide (n := 3)).1 ?_
  refine wpIn_rangeFunc_ownF rfl (by omega) (gf := 61) (lb := #[.pointer (some ⟨B + 1, 0, none⟩)]) rfl trivial (enters_of Tryd.func61 (by kernel_rfl) rfl)
    (back_stops 2 (by omega) ndEnc (B + 1) w.heap.size ao cap o zs hz hol henc w2 hbs (by omega) (by omega) hba) (fun h k => h.trans k) (fun W l o o' hl _ _ _ k hk => World.putObj_heap_other (by omega)) (Below.refl _ _) (fun _ => rfl)
    (fun pre W => ReMem w W n N B (stF es (pre.map fun x => x.1.2)))
    (fun _ _ _ => False)
    (ReMem.own w n N B _ _ (by omega))
    (fun _ _ _ _ _ hs _ _ => hs)
    hW
    (fun x => { tmps := #[.slice (some ⟨N, 0, none⟩) n n, .slice ao o.length cap, .pointer (some ⟨w.heap.size, 0, none⟩), undef, .slice none 0 0, .pointer (some ⟨B, 0, none⟩), undef, .int .i64 (x.1.2 : Nat), undef, undef,
      .slice (some ⟨N, 0, none⟩) n n, .int .i64 n, .slice (some ⟨w.heap.size + 1, 0, none⟩) n n, .slice ao o.length cap, .func (.func 61) #[] #[.pointer (some ⟨B + 1, 0, none⟩)], .int .i64 (x.1.1 : Nat), .int .i64 (x.1.2 : Nat),
      undef, undef, undef, undef, undef, undef, undef, undef, undef, undef, undef, undef, undef, undef, undef, undef, undef, undef, undef, undef, undef, undef, undef], defers := [] }) ?assign ?body ?done ?stop
  case assign =>
    intro l x W K hK
    dsimp only [ndEnc]
    gi_wp2
    exact hK
  case body =>
    rintro l pre ⟨⟨p, i⟩, hi⟩ W hM _
    simp only at hi
    have hmx : Tryd.prog.follows .mixedOrders = true := by kernel_rfl
    have hNW : WRow W N 88 n (fun k j => wd (succS es k) j) := hN.kept (hM.old.block N hN0)
    have hNl := hNW.lt
    have LI := list_any N (i * 8) (succS es i) W hM.tab hNl (fun j hj => hNW.cell hi hj)
    have hbx := hM.bn.cell
    have HF := Lib.hid (stF_snoc es (pre.map fun x => x.1.2) i)
    clear hba hbs hW hss
    have hbd : ∀ k ∈ nodes (succS es i), k < n ∧ k ≠ i := fun k hk => ⟨by
      have hm := (succS_bit es i k (fun e he => (HES.out e he).2.2.1)).1 ((mem_nodes _ _).1 hk).2
      have := (HES.out _ hm).2.2.2
      simpa using this, HSF.out i k hk⟩
    have HBD := Lib.hid hbd
    clear hbd hNW
    generalize nodes (succS es i) = ks at LI HF HBD
    gi_wp2_with (refine ⟨trivial, ?_⟩; gi_at_call 28; refine (CallsIn.inRound l (callsIn_wide.2 LI)).mono ?_; rintro e W1 ⟨v1, rfl, hli, hb1, hfr⟩; obtain ⟨ao1, cap1, hv, hll, hlc⟩ := hli.val; rw [List.length_map] at hv hll hlc; subst hv)
    have hM1 := hM.below hb1
    have hk1 : KeepsOthers W W1 := keeps_below hb1
    have hp1 : KeepP w.heap.size (B + 1) W W1 := KeepP.of_below hb1 hM.old.size (by have := hM.sz; omega)
    have hfr1 : ∀ k, (Value.slice ao1 ks.length cap1).ownBlock = some k → k ≠ w.heap.size + 1 := fun k e => by have := hfr k e; have := hM.row.lt; omega
    obtain ⟨f, hf⟩ : ∃ f, f = stF es (pre.map fun x => x.1.2) := ⟨_, rfl⟩
    rw [← hf] at hM1 HF
    clear hf hM LI hb1 hfr hbx
    gi_loopw [22] (fun v22 wr => ∃ q : Nat, q ≤ ks.length ∧ v22 = .int .i64 q ∧ ReMem w wr n N B (gF f i (ks.take q)) ∧ OnlyB (w.heap.size + 1) W1 wr ∧ IntsAt wr (.slice ao1 ks.length cap1) (ks.map fun i : Nat => (i : Int))) (fun v22 _ => ks.length - (intOf v22).toNat)
    case atStart => exact ⟨0, by omega, rfl, hM1.congr (fun k => by rw [List.take_zero, gF_nil]), OnlyB.refl _ _, hli⟩
    case round =>
      obtain ⟨q, hq, rfl, hMr, hor, hlr⟩ := hrel
      by_cases hqk : q < ks.length
      · have hbo := hMr.bo.cell
        obtain ⟨b1, off1, rfl, hb1l, hc1⟩ := hlr.get (i := q) (by simpa using hqk)
        have hts := take_next ks q 0 hqk
        have hkb := HBD.out (ks.getD q 0) (by simp [List.getD, hqk])
        have hkd : (ks.map fun i : Nat => (i : Int)).getD q 0 = ((ks.getD q 0 : Nat) : Int) := by simp [List.getD, hqk]
        rw [hkd] at hc1
        obtain ⟨k, hk⟩ : ∃ k, k = ks.getD q 0 := ⟨_, rfl⟩
        rw [← hk] at hc1 hkb hts
        obtain ⟨hkn, hki⟩ := hkb
        have PU := put_any (w.heap.size + 1) 88 n i k (gF f i (ks.take q)) wr hMr.row hi (by omega)
        clear hkd hk
        gi_wp2_with (refine ⟨trivial, ?_⟩; gi_at_call 48; refine (CallsIn.inRound l (callsIn_wide.2 PU)).mono ?_; rintro e W2 ⟨rfl, hr2, ho2⟩)
        have hM2 := hMr.only hT0 ho2 hr2
        have hor2 := (hor.trans ho2).drew
        have hlo := ho2.drew
        have hM3 : ReMem w W2.drew n N B _ := ⟨hM2.tab, hM2.old.drew, hM2.bn, hM2.row, hM2.bo, hM2.ge, hM2.sz⟩
        have hbo3 := hM3.bo.cell
        have JN := join_any (w.heap.size + 1) 88 n i k _ W2.drew hM3.row hi hkn
        have HS := Lib.hid (gF_snoc f i (ks.take q) k)
        have HTS := Lib.hid hts
        clear hts hM2 hr2 ho2 PU hMr hor hbo hc1
        try clear hb1l
        refine still_round l _ 6 hmx (by kernel_rfl) (by kernel_rfl) ?_
        simp only [List.take_succ_cons, List.take_zero, List.drop_succ_cons, List.drop_zero]
        repeat still_step
        refine wpStill_nil ?_
        go_wp2_with (go_at_call 50; refine JN.mono ?_; rintro e W3 ⟨rfl, hr3, ho3⟩)
        refine ⟨by simp, ?_⟩
        have hM4 := hM3.only hT0 ho3 hr3
        have hor4 := hor2.trans ho3
        have hlr4 := hlr.keep (w' := W3) (by rw [ho3.size]; exact Nat.le_of_eq hlo.size.symm) (fun b hb _ => (ho3.block b (hfr1 b hb)).trans (hlo.block b (hfr1 b hb)))
        clear hlr hM3 hor2 hlo ho3 hr3 hbo3 JN
        gi_wp2
        go_roundw
        case rel =>
          refine ⟨q + 1, by omega, by go_num, hM4.congr (fun j => ?_), hor4, hlr4⟩
          rw [HTS.out, HS.out j hki]
          by_cases hj : j = i
          · subst hj
            simp [hki]
          · simp [hj]
        case measure => simp [intOf]; omega
      · have hqe : q = ks.length := by omega
        rw [hqe, List.take_length] at hMr
        clear hqe hq
        gi_wp2
        refine ⟨hk1.trans (keeps_only hor hM1.row), hp1.trans (KeepP.of_only hor (by omega) (by have := hMr.ge; omega)), ?_⟩
        refine hMr.congr fun k => ?_
        simp only [List.map_append, List.map_cons, List.map_nil]
        rw [HF.out]
  case done =>
    rintro D ys W hD rfl hM hK
    have hbo := hM.bo.cell
    clear HES HSF hba
    go_wp2
    refine ⟨by simp, .inl ⟨_, _, rfl, run_takeDeferred hK, ?_⟩⟩
    refine ⟨_, results_tmp rfl _ _ _, w.heap.size + 1, rfl, ?_, hM.old.trans (belowK_b (w := w2) (by omega) W D _ _ hD hK rfl rfl), Nat.le_succ _⟩
    have hr := hM.row
    rw [HM.out] at hr
    exact hr.kept (World.putObj_heap_other (by have := hM.sz; omega))
  case stop =>
    rintro D c pre W _ _ h _
    exact h.elim

end Go.Proofs.YtnjbdedmalpccaaDoor
