/- The walk of note. -/
import Derived.Test.YtpbipngnoklmcaaDoorWldA
import Derived.Test.YtpbipngnoklmcaaDoorStepA
namespace Go.Proofs.YtpbipngnoklmcaaDoor
open Go.RowKit
set_option maxRecDepth 100000
attribute [local go_sem] str_size str_toList str_get

theorem setC {w : World} {b : Nat} {cs : Array Value} {T : TypeId} {fz : Nat × Nat} (h : w.heap[b]? = some (.cells cs T fz)) (o : Nat) (u : Value) : (w.setCell ⟨b, o, none⟩ u).heap[b]? = some (.cells (cs.setIfInBounds o u) T fz) := by
  show (w.heap.modify b _)[b]? = _
  rw [Array.getElem?_modify, if_pos rfl, h]
  rfl
theorem setC_size (w : World) (a : Addr) (u : Value) : (w.setCell a u).heap.size = w.heap.size := by simp [World.setCell]
theorem setC_spares (w : World) (b o : Nat) (u : Value) : Spares [b] w (w.setCell ⟨b, o, none⟩ u) :=
  ⟨rfl, rfl, rfl, by rw [setC_size]; exact Nat.le_refl _, fun k _ hk => Below.heap_setCell _ _ _ _ (by simpa using hk)⟩
theorem call_snoc (ts : List T5) (t : T5) : callCells (ts ++ [t]) = callCells ts ++ [.int .i64 t.1, str t.2.1, str t.2.2.1, str t.2.2.2.1, .int .i64 t.2.2.2.2] := by
  unfold callCells
  rw [List.flatMap_append]
  rfl
theorem slice_form {w : World} {base e size n : Nat} {v : Value} {xs : List Value} (h : w.ownsRow base e size v n xs) : ∃ P cap, v = .slice P n cap := by
  rcases h.2 with ⟨h1, h2⟩ | ⟨g, cap, _, h1, _⟩
  · exact ⟨none, 0, by rw [h1, h2]⟩
  · exact ⟨_, _, h1⟩

/-- What a call leaves of the world: what it may write lies in the same blocks, or in new ones. -/
def WStep (w : World) (p b n : Nat) (S : WS) (vf vt : Value) (w' : World) : Prop :=
  ∃ val' vt' D', WAt w' p b n S val' vf vt' D' ∧ Spares (wF p b vt) w w' ∧ (∀ q ∈ wF p b vt', q ∈ wF p b vt ∨ w.heap.size ≤ q)
variable {w : World} {p b n : Nat} {S : WS} {val : S8 → S8 → Value} {vf vt : Value} {D : DataW Value}

theorem WStep.spares {w : World} {p b n : Nat} {S : WS} {vf vt : Value} {w' : World} (h : WStep w p b n S vf vt w') : Spares (wF p b vt) w w' := h.elim fun _ h => h.elim fun _ h => h.elim fun _ h => h.2.1
theorem WAt.noted (h : WAt w p b n S val vf vt D) {w3 : World} {v' : Value} (t : T5) (hs : Spares vt.ownBlock.toList w w3)
    (hown : w3.ownsRow 0 74 5 v' (S.trace.length + 1) (callCells S.trace ++ [.int .i64 t.1, str t.2.1, str t.2.2.1, str t.2.2.2.1, .int .i64 t.2.2.2.2]))
    (hv' : v'.ownBlock = vt.ownBlock ∨ ∃ g, v'.ownBlock = some g ∧ w.heap.size ≤ g) :
    WStep w p b n ⟨S.objs, S.fails, S.trace ++ [t]⟩ vf vt (w3.setCell ⟨p, 2, none⟩ v') := by
  have hp : p ∉ vt.ownBlock.toList := fun hm => by
    rw [Option.mem_toList] at hm
    exact (h.trace_apart hm).1 rfl
  have hsp : Spares (wF p b vt) w (w3.setCell ⟨p, 2, none⟩ v') :=
    (hs.sub fun k hk _ => by unfold wF; simp [hk]).trans ((setC_spares w3 p 2 v').sub fun k hk _ => by unfold wF; simp at hk; simp [hk])
  have hbox3 := (hs.block p (heap_lt h.box) hp).trans h.box
  have hkeep : ∀ {q : Nat} {o : Obj}, w.heap[q]? = some o → q ∉ wF p b vt → (w3.setCell ⟨p, 2, none⟩ v').heap[q]? = w.heap[q]? := fun hq hn => hsp.block _ (heap_lt hq) hn
  refine ⟨val, v', D, ⟨?_, ?_, h.rel, h.ris, h.fit, ?_, ?_, ?_⟩, hsp, ?_⟩
  · exact setC hbox3 2 v'
  · refine map_keep h.map ?_
    obtain ⟨es, clock, hb⟩ := map_block h.map
    have hb3 : b ∉ vt.ownBlock.toList := fun hm => by
      rw [Option.mem_toList] at hm
      exact (h.trace_apart hm).2 rfl
    rw [Below.heap_setCell _ _ _ _ (by exact fun e => h.p_ne_b e.symm)]
    exact hs.block b (heap_lt hb) hb3
  · exact h.vals.keep fun o ho F hF q hq => by
      exact hsp.block q (hF.lt q hq) (h.vals_apart hF hq)
  · refine row_keep h.fails fun q hq => ?_
    obtain ⟨_, hh⟩ := row_block h.fails hq
    exact hkeep hh (h.fails_apart hq)
  · show (w3.setCell ⟨p, 2, none⟩ v').ownsRow 0 _ 5 v' (S.trace ++ [t]).length (callCells (S.trace ++ [t]))
    rw [call_snoc, List.length_append]
    refine row_keep hown fun q hq => Below.heap_setCell _ _ _ _ ?_
    rintro rfl
    rcases hv' with e | ⟨g, e, hg⟩
    · rw [e] at hq
      exact (h.trace_apart hq).1 rfl
    · rw [e] at hq
      cases hq
      have := heap_lt h.box
      omega
  · intro q hq
    simp only [wF, List.mem_cons, Option.mem_toList] at hq ⊢
    rcases hq with rfl | rfl | hq
    · exact .inl (.inl rfl)
    · exact .inl (.inr (.inl rfl))
    · rcases hv' with e | ⟨g, e, hg⟩
      · rw [e] at hq
        exact .inl (.inr (.inr hq))
      · rw [e] at hq
        cases hq
        exact .inr hg

set_option maxHeartbeats 4000000 in
theorem note_w (h : WAt w p b n S val vf vt D) (op : Int) (addr typ i : S8) (er : Int) (hl : S.trace.length ≤ 100000) :
    Calls Tryd.prog 22 #[.pointer (some ⟨p, 0, none⟩), .int .i64 op, str addr, nameV typ i, .int .i64 er] w fun e w' => e = .returned (.int .i64 er) ∧ WStep w p b n (noteP S op addr typ i er) vf vt w' := by
  have mixed : Tryd.prog.follows .mixedOrders = true := by kernel_rfl
  obtain ⟨w0, hw0⟩ : ∃ w0, w0 = w.alloc (.cells #[str typ, str i] 60) := ⟨_, rfl⟩
  have hn0 : w0.heap[w.heap.size]? = some (.cells #[str typ, str i] 60 (0, 0)) := by rw [hw0]; exact heap_alloc_new _ _
  have hb0 : Below w.heap.size w w0 := by rw [hw0]; exact (Below.refl _ w).alloc (Nat.le_refl _) _
  have e0 : w0.cell? ⟨w.heap.size, 0, none⟩ = some (str typ) := by rw [Lib.cell_of_heap hn0]; rfl
  have e1 : w0.cell? ⟨w.heap.size, 1, none⟩ = some (str i) := by rw [Lib.cell_of_heap hn0]; rfl
  have h0 := h.below hb0
  have c2 : w0.cell? ⟨p, 2, none⟩ = some vt := by rw [Lib.cell_of_heap h0.box]; rfl
  have hpl : p < w0.heap.size := heap_lt h0.box
  have hpn : ¬ w0.heap.size = p := by omega
  have hpn2 : ¬ p = w0.heap.size := by omega
  have hwl : w.heap.size < w0.heap.size := heap_lt hn0
  have hwn : ¬ w0.heap.size = w.heap.size := by omega
  have hwn2 : ¬ w.heap.size = w0.heap.size := by omega
  obtain ⟨P, cap, hvt⟩ := slice_form h.trace
  subst hvt
  have H := Lib.hid h
  have H0 := Lib.hid h0
  obtain ⟨i1, hi1, hz1, hzs1, hzb1⟩ := info_parts (P := Tryd.prog) (e := 74) (z := .agg #[.int .i64 0, .string ⟨#[]⟩, .string ⟨#[]⟩, .string ⟨#[]⟩, .int .i64 0]) (size := 5) (bytes := 64) (by kernel_rfl)
  have hO : ∀ W, Below w0.heap.size w0 W → W.ownsRow 0 74 5 (.slice P S.trace.length cap) S.trace.length (callCells S.trace) := fun W hW => (h0.below hW).trace
  have HO := Lib.hid hO
  have hB : ∀ W W3, Below w0.heap.size w0 W → W.grownBy W3 (Value.slice P S.trace.length cap).ownBlock → W3.cell? ⟨p, 2, none⟩ = some (.slice P S.trace.length cap) ∧ W3.frozen? ⟨p, 2, none⟩ = false := fun W W3 hW hg => by
    have hw := h0.below hW
    have hp : some p ≠ (Value.slice P S.trace.length cap).ownBlock := fun e => (hw.trace_apart e.symm).1 rfl
    have hh := (hg.block p (heap_lt hw.box) hp).trans hw.box
    exact ⟨by rw [Lib.cell_of_heap hh]; rfl, Lib.frozen_of_heap hh 2⟩
  have HB := Lib.hid hB
  have hK : ∀ W W3 v', Below w0.heap.size w0 W → W.grownBy W3 (Value.slice P S.trace.length cap).ownBlock → W3.ownsRow 0 74 5 v' (S.trace.length + 1) (callCells S.trace ++ [.int .i64 op, str addr, str typ, str i, .int .i64 er]) →
      (v'.ownBlock = (Value.slice P S.trace.length cap).ownBlock ∨ v'.ownBlock = some W.heap.size) → WStep w p b n (noteP S op addr typ i er) vf (.slice P S.trace.length cap) (W3.setCell ⟨p, 2, none⟩ v') := fun W W3 v' hW hg ho hv => by
    refine h.noted (op, addr, typ, i, er) ?_ ho ?_
    · have s1 : Spares (Value.slice P S.trace.length cap).ownBlock.toList w W := Spares.of_below (hb0.trans (hW.mono hb0.size))
      exact s1.trans (Spares.grown hg fun k hk => by rw [hk]; simp)
    · rcases hv with e | e
      · exact .inl e
      · exact .inr ⟨_, e, Nat.le_trans hb0.size hW.size⟩
  have HKK := Lib.hid hK
  clear hn0 h h0 hO hB hK
  have hnv : nameV typ i = .agg #[str typ, str i] := rfl
  rw [hnv]
  clear hnv
  go_enter Tryd.func22, Tryd.ntmps22
  go_upto_region 1 with fail
  rw [← hw0]
  clear hw0
  go_region_law_o (refine step_append_fresh rfl (.tmp 15) (.tmp 24) 49 rfl 0 74 i1 _ 5 64 Tryd.underlying49 hi1 hz1 hzs1 hzb1 rfl (by decide) (.slice P S.trace.length cap) S.trace.length (callCells S.trace) (by simp [Act.eval]) (HO.out _ (((Below.refl _ w0).drew).alloc (Nat.le_refl _) _)) ⟨w0.heap.size, 0, none⟩ 1 1 [.int .i64 op, str addr, str typ, str i, .int .i64 er] (by simp [Act.eval]) rfl (cells_new _ _ _) (by intro u hu; simp at hu; rcases hu with rfl | rfl | rfl | rfl | rfl <;> rfl) (by unfold maxLen; omega) (by omega) (by simp) ?_; intro v' w3 hown hgrow hv'; obtain ⟨d2, f2⟩ := HB.out _ w3 (((Below.refl _ w0).drew).alloc (Nat.le_refl _) _) hgrow; obtain ⟨a', c', rfl⟩ := slice_form hown)
  all_goals have HR := Lib.hid (HKK.out _ w3 _ (((Below.refl _ w0).drew).alloc (Nat.le_refl _) _) hgrow hown hv')
  all_goals clear hown hgrow hv' HKK HB HO H H0 d2 f2 e0 e1 c2
  all_goals go_wp2
  all_goals go_ret
  all_goals exact ⟨rfl, HR.out⟩

end Go.Proofs.YtpbipngnoklmcaaDoor
