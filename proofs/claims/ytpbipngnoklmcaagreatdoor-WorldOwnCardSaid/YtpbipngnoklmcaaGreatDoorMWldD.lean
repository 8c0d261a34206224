/- The walk of Delete. A look-up in the world's map, and a store, as steps of a region that draws. -/
import Derived.Test.YtpbipngnoklmcaaGreatDoorMStepA
namespace Go.Proofs.YtpbipngnoklmcaaGreatDoor
open Go.RowKit
set_option maxRecDepth 100000
attribute [local go_sem] str_size str_toList str_get

variable {w : World} {p b n : Nat} {S : WS} {val : S8 → S8 → Value} {vf vt : Value} {D : DataW Value}

theorem turned_spares {w w' : World} {b : Nat} (h : w.mapTurned w' b) : Spares [b] w w' := Spares.grown h.grown fun k hk => by simp_all
theorem WAt.turned (h : WAt w p b n S val vf vt D) {w' : World} {n' : Nat} {D' : DataW Value} {l' : List O3} {val' : S8 → S8 → Value} (ht : w.mapTurned w' b)
    (hm : w'.ownsMap Tryz.prog 78 heldR b n' D') (hr : MapRel D' l' val') (hri : risO l') (hf : fitO l') (hv : ∀ o ∈ l', goodA o.2.2 = true ∧ ∃ F, OwnVal w' o.2.2 (val' o.1 o.2.1) F) :
    WAt w' p b n' ⟨l', S.fails, S.trace⟩ val' vf vt D' := by
  have hs := turned_spares ht
  have hk : ∀ {q : Nat} {o : Obj}, w.heap[q]? = some o → q ≠ b → w'.heap[q]? = w.heap[q]? := fun hq hn => hs.block _ (heap_lt hq) (by simpa using hn)
  refine ⟨(hk h.box h.p_ne_b).trans h.box, hm, hr, hri, hf, hv, row_keep h.fails fun q hq => ?_, row_keep h.trace fun q hq => ?_⟩
  · obtain ⟨_, hh⟩ := row_block h.fails hq
    exact hk hh fun e => h.fails_apart hq (by unfold wF; simp [e])
  · obtain ⟨_, hh⟩ := row_block h.trace hq
    exact hk hh (h.trace_apart hq).2
theorem WAt.own_turned (h : WAt w p b n S val vf vt D) {w' : World} (ht : w.mapTurned w' b) {o : O3} {F : List Nat} (hF : OwnVal w o.2.2 (val o.1 o.2.1) F) : OwnVal w' o.2.2 (val o.1 o.2.1) F :=
  hF.keep fun q hq => (turned_spares ht).block q (hF.lt q hq) (by
    have := h.vals_apart hF hq
    simp only [wF, List.mem_cons, not_or] at this
    simpa using this.2.1)
theorem WAt.dropped (h : WAt w p b n S val vf vt D) {w' : World} {typ i : S8} (ft : fitS typ) (fi : fitS i) (ht : w.mapTurned w' b)
    (hm : w'.ownsMap Tryz.prog 78 heldR b n (D.del (klW typ i))) : WAt w' p b n (delP S typ i) val vf vt (D.del (klW typ i)) :=
  h.turned ht hm (h.rel.del ft fi) (ris_out h.ris _ _) (fun o ho => h.fit o (mem_outO.1 ho).1) fun o ho => by
    obtain ⟨hg, F, hF⟩ := h.vals o (mem_outO.1 ho).1
    exact ⟨hg, F, h.own_turned ht hF⟩
theorem WStep.after {w w1 w2 : World} {p b n : Nat} {S' : WS} {vf vt : Value} (hs : Spares (wF p b vt) w w1) (h : WStep w1 p b n S' vf vt w2) : WStep w p b n S' vf vt w2 := by
  obtain ⟨val', vt', D', hW, hsp, hF⟩ := h
  exact ⟨val', vt', D', hW, hs.trans hsp, fun q hq => (hF q hq).imp id fun h => Nat.le_trans hs.size h⟩

theorem drewN_spares (F : List Nat) (w : World) (k : Nat) : Spares F w (w.drewN k) := ⟨rfl, rfl, rfl, Nat.le_refl _, fun _ _ _ => rfl⟩
theorem Spares.drewN {F : List Nat} {w w' : World} (h : Spares F w w') (k : Nat) : Spares F w (w'.drewN k) := h.trans (drewN_spares F w' k)
theorem WAt.drewN (h : WAt w p b n S val vf vt D) (k : Nat) : WAt (w.drewN k) p b n S val vf vt D := h.below ⟨rfl, rfl, rfl, Nat.le_refl _, fun _ _ => rfl⟩
set_option maxHeartbeats 4000000 in
theorem delete_w (h : WAt w p b n S val vf vt D) (addr typ i : S8) (ft : fitS typ) (fi : fitS i) (hl : S.trace.length ≤ 100000) :
    Calls Tryz.prog 22 #[.pointer (some ⟨p, 0, none⟩), str addr, str typ, str i] w fun e w' => e = .returned (.int .i64 (deleteP S addr typ i).2) ∧ WStep w p b n (deleteP S addr typ i).1 vf vt w' := by
  have mixed : Tryz.prog.follows .mixedOrders = true := by kernel_rfl
  obtain ⟨w0, hw0⟩ : ∃ w0, w0 = w.alloc (.cells #[str typ, str i] 78) := ⟨_, rfl⟩
  have hn0 : w0.heap[w.heap.size]? = some (.cells #[str typ, str i] 78 (0, 0)) := by rw [hw0]; exact heap_alloc_new _ _
  have hb0 : Below w.heap.size w w0 := by rw [hw0]; exact (Below.refl _ w).alloc (Nat.le_refl _) _
  have hl0 := heap_lt hn0
  have FL := fail_w (h.below hb0) 5 addr
  have H := Lib.hid h
  have hdl : deleteP S addr typ i = if failsP S.fails 5 addr = true then (noteP S 5 addr typ i 160, 160) else (noteP (delP S typ i) 5 addr typ i 0, 0) := rfl
  obtain ⟨R, hR⟩ : ∃ R, deleteP S addr typ i = R := ⟨_, rfl⟩
  rw [hR] at hdl ⊢
  generalize failsP S.fails 5 addr = B at FL hdl
  have HDL := Lib.hid hdl
  clear hdl hR h
  go_enter Tryz.func22, Tryz.ntmps22
  go_upto_region 2 with fail
  rw [← hw0]
  clear hw0
  go_wp2_with fail
  refine FL.mono ?_
  rintro e w1 ⟨rfl, hb1⟩
  have hbw := hb0.trans (hb1.mono hb0.size)
  have h1 := H.out.below hbw
  have hn1 := (hb1.block _ hl0).trans hn0
  have e0 : w1.cell? ⟨w.heap.size, 0, none⟩ = some (str typ) := by rw [Lib.cell_of_heap hn1]; rfl
  have e1 : w1.cell? ⟨w.heap.size, 1, none⟩ = some (str i) := by rw [Lib.cell_of_heap hn1]; rfl
  have hsp1 : Spares (wF p b vt) w w1 := Spares.of_below hbw
  have HN1 := Lib.hid hn1
  clear hn0 hn1 FL
  cases B with
  | true =>
    have NT := note_w h1 5 addr typ i 160 hl
    have hdl := HDL.out
    rw [if_pos rfl] at hdl
    have HR := Lib.hid hdl
    rw [show nameV typ i = .agg #[str typ, str i] from rfl] at NT
    clear h1 HDL hdl
    go_wp2_with fail
    refine NT.mono ?_
    rintro e w2 ⟨rfl, hs2⟩
    have HS := Lib.hid (WStep.after hsp1 hs2)
    clear hs2 NT
    go_wp2
    go_ret
    exact ⟨by rw [HR.out]; rfl, by rw [HR.out]; exact HS.out⟩
  | false =>
    have hdl := HDL.out
    rw [if_neg (by simp)] at hdl
    have HR := Lib.hid hdl
    have c0 : w1.cell? ⟨p, 0, none⟩ = some (.map (some b)) := by rw [Lib.cell_of_heap h1.box]; rfl
    have H1 := Lib.hid h1
    have hmap := h1.map
    have hmap_drew : ∀ k, (w1.drewN k).ownsMap Tryz.prog 78 heldR b n D := fun k => map_keep hmap rfl
    clear h1 HDL hdl
    go_wp2
    refine still_drew 5 (by kernel_rfl) (by kernel_rfl) ?_
    simp only [List.take_succ_cons, List.take_zero, List.drop_succ_cons, List.drop_zero]
    repeat still_step
    refine wpStill_nil ?_
    go_wp2_with (at_delete; refine wpList_delete_own _ rfl _ _ 71 78 rfl 41 keyK Tryz.underlying71 heldR b n D rfl (hmap_drew _) (nameV typ i) (klW typ i) rfl (keyOf_name ft fi) ?_)
    intro w2 hm2 ht2
    have h2 := WAt.dropped (H1.out.drewN _) ft fi ht2 hm2
    have hsp2 : Spares (wF p b vt) w w2 := (hsp1.drewN _).trans ((turned_spares ht2).sub fun k hk _ => by unfold wF; simp at hk; simp [hk])
    have hbk : ∀ q : Nat, w1.heap[q]? = some (.cells #[str typ, str i] 78 (0, 0)) → w2.heap[q]? = some (.cells #[str typ, str i] 78 (0, 0)) := fun q hq => by
      have hne : q ≠ b := by
        rintro rfl
        obtain ⟨es, clock, hb'⟩ := map_block hmap
        rw [hq] at hb'
        cases hb'
      exact ((turned_spares ht2).block q (heap_lt hq) (by simpa using hne)).trans hq
    have hn2 := hbk _ HN1.out
    have d0 : w2.cell? ⟨w.heap.size, 0, none⟩ = some (str typ) := by rw [Lib.cell_of_heap hn2]; rfl
    have d1 : w2.cell? ⟨w.heap.size, 1, none⟩ = some (str i) := by rw [Lib.cell_of_heap hn2]; rfl
    have NT := note_w h2 5 addr typ i 0 hl
    rw [show nameV typ i = .agg #[str typ, str i] from rfl] at NT
    clear h2 hm2 ht2 hmap hbk hn2 e0 e1 c0
    go_wp2_with fail
    refine NT.mono ?_
    rintro e w3 ⟨rfl, hs3⟩
    have HS := Lib.hid (WStep.after hsp2 hs3)
    clear hs3 NT
    go_wp2
    go_ret
    exact ⟨by rw [HR.out]; rfl, by rw [HR.out]; exact HS.out⟩

end Go.Proofs.YtpbipngnoklmcaaGreatDoor
namespace Go.Proofs.YtpbipngnoklmcaaGreatDoor
open Go.RowKit
set_option maxRecDepth 100000
attribute [local go_sem] str_size str_toList str_get

theorem step_lookup {P : Program} {ops : Array Oper} {o : Oper} {a : Act} {w : World} {K : Act → World → Prop} {Q : Exit → Act → World → Prop} {E : Prop}
    (hgd : o.guard = none) (m x : Operand) (t : TypeId) (ho : o.op = .lookup t m x true) (mv key u : Value) (hm : a.eval m = mv) (hx : a.eval x = key)
    (hr : (Instr.lookup t mv key true).run P w = .ok u w) (h : K (a.put o.dst u) w) :
    if Region.wanted o (yielded ops a.tmps) = true then Oper.wp P o a w K Q else E := by
  have hw : Region.wanted o (yielded ops a.tmps) = true := by simp [Region.wanted, hgd]
  rw [if_pos hw]
  unfold Oper.wp execOp
  simp only [ho, hm, hx, Sem.run_bind, Sem.run_pure, Result.andThen_ok, hr]
  exact h

def zeroVal : Value := .agg #[.int .i64 0, .bool false, .string ⟨#[]⟩, .slice none 0 0, .slice none 0 0]
theorem zeroE (w : World) : (zeroValue 41).run Tryz.prog w = .ok zeroVal w := by kernel_rfl
variable {w : World} {p b n : Nat} {S : WS} {val : S8 → S8 → Value} {vf vt : Value} {D : DataW Value}

/-- What a look-up answers, in whatever world the map is the same. -/
theorem WAt.look (h : WAt w p b n S val vf vt D) {t i : S8} (ft : fitS t) (fi : fitS i) :
    ∃ V, (∀ W, W.ownsMap Tryz.prog 78 heldR b n D → (Instr.lookup 71 (.map (some b)) (nameV t i) true).run Tryz.prog W = .ok (.tuple #[V, .bool (hasO S.objs t i)]) W) ∧
      (hasO S.objs t i = true → V = val t i) ∧ (hasO S.objs t i = false → V = zeroVal) ∧ ∃ (k : Int) (f : Bool) (tx : S8) (ai : Option Addr) (ni ci : Nat) (ak : Option Addr) (nk ck : Nat), V = .agg #[.int .i64 k, .bool f, str tx, .slice ai ni ci, .slice ak nk ck] := by
  obtain ⟨h1, h2⟩ := h.rel t i ft fi
  have run : ∀ W, W.ownsMap Tryz.prog 78 heldR b n D → ∃ V, D.atKey (klW t i) (.held zeroVal) = .held V ∧ (Instr.lookup 71 (.map (some b)) (nameV t i) true).run Tryz.prog W = .ok (.tuple #[V, .bool (hasO S.objs t i)]) W := by
    intro W hW
    obtain ⟨v, ps, hr, hv⟩ := hW.look_ok keyK Tryz.underlying71 (zeroE W) (zd := .held zeroVal) (zp := []) rfl (keyOf_name ft fi)
    unfold heldR at hv
    have hv : (DataW.held v, ([] : List MemPlace)) = (D.atKey (klW t i) (.held zeroVal), ps) := Option.some.inj hv
    exact ⟨v, (congrArg Prod.fst hv).symm, by rw [hr, h1]⟩
  obtain ⟨V, hV, _⟩ := run w h.map
  refine ⟨V, fun W hW => ?_, fun hh => ?_, fun hh => ?_, ?_⟩
  · obtain ⟨V', hV', hr⟩ := run W hW
    rw [hV] at hV'
    injection hV' with hV'
    rw [hr, hV']
  · have := h2 hh (.held zeroVal)
    rw [hV] at this
    injection this
  · have := Maps.atKey_of_not_has (h1.trans hh) (.held zeroVal)
    rw [hV] at this
    injection this
  · cases hh : hasO S.objs t i with
    | false =>
      have := Maps.atKey_of_not_has (h1.trans hh) (.held zeroVal)
      rw [hV] at this
      injection this with e
      rw [e]
      exact ⟨0, false, [], none, 0, 0, none, 0, 0, rfl⟩
    | true =>
      have := h2 hh (.held zeroVal)
      rw [hV] at this
      injection this with e
      rw [e]
      obtain ⟨x, hx⟩ := hasO_iff.1 hh
      obtain ⟨_, F, hF⟩ := h.vals _ hx
      obtain ⟨vi, vk, xs, Fk, Fi, Fs, hv, _, hk, hi, _⟩ := hF.form
      obtain ⟨a1, c1, rfl, _⟩ := hk.form
      obtain ⟨a2, c2, rfl, _⟩ := hi.form
      exact ⟨_, _, _, _, _, _, _, _, _, hv⟩
theorem step_store {P : Program} {ops : Array Oper} {o : Oper} {a : Act} {w : World} {K : Act → World → Prop} {Q : Exit → Act → World → Prop} {E : Prop}
    (hgd : o.guard = none) (m x v : Operand) (t : TypeId) (ho : o.op = .mapUpdate t m x v) (mv key u : Value) (hm : a.eval m = mv) (hx : a.eval x = key) (hv : a.eval v = u) (G : World → Prop)
    (hr : ∃ w', (Instr.mapUpdate t mv key u).run P w = .ok () w' ∧ G w') (h : ∀ w', G w' → K (a.put o.dst undef) w') :
    if Region.wanted o (yielded ops a.tmps) = true then Oper.wp P o a w K Q else E := by
  have hw : Region.wanted o (yielded ops a.tmps) = true := by simp [Region.wanted, hgd]
  rw [if_pos hw]
  obtain ⟨w', hrun, hG⟩ := hr
  unfold Oper.wp
  simp [execOp, ho, hm, hx, hv, hrun, Result.andThen]
  exact h w' hG

/-- A value in memory of its own stored under a name. -/
theorem WAt.stored (h : WAt w p b n S val vf vt D) {w' : World} {t i : S8} {x : VT} {v : Value} {F : List Nat} (ft : fitS t) (fi : fitS i) (hx : goodA x = true) (hF : OwnVal w x v F) (ht : w.mapTurned w' b)
    (hm : w'.ownsMap Tryz.prog 78 heldR b (n + 1) (D.put (klW t i) (.held v))) : WAt w' p b (n + 1) (putP S (t, i, x)) (putVal val t i v) vf vt (D.put (klW t i) (.held v)) := by
  refine h.turned ht hm (h.rel.put h.map.isMap ft fi x v) (ris_with h.ris _) (fun o ho => ?_) fun o ho => ?_
  · rcases mem_withO.1 ho with rfl | ⟨ho, _⟩
    · exact ⟨ft, fi⟩
    · exact h.fit o ho
  · rcases mem_withO.1 ho with rfl | ⟨ho, hne⟩
    · refine ⟨hx, F, ?_⟩
      unfold putVal
      rw [if_pos ⟨rfl, rfl⟩]
      refine hF.keep fun q hq => (turned_spares ht).block q (hF.lt q hq) ?_
      obtain ⟨es, clock, hb⟩ := map_block h.map
      obtain ⟨cs, fz, hh⟩ := own_kinds hF q hq
      intro hm'
      obtain rfl : q = b := by simpa using hm'
      rcases hh with hh | hh <;> (rw [hb] at hh; cases hh)
    · obtain ⟨hg, G, hG⟩ := h.vals o ho
      refine ⟨hg, G, ?_⟩
      unfold putVal
      rw [if_neg]
      · exact h.own_turned ht hG
      · rintro ⟨e1, e2⟩
        unfold isO at hne
        simp [e1, e2] at hne
theorem WAt.store (h : WAt w p b n S val vf vt D) (hn : n < maxLen) {t i : S8} {x : VT} {v : Value} {F : List Nat} (ft : fitS t) (fi : fitS i) (hx : goodA x = true) (hF : OwnVal w x v F) :
    ∃ w', (Instr.mapUpdate 71 (.map (some b)) (nameV t i) v).run Tryz.prog w = .ok () w' ∧ (WAt w' p b (n + 1) (putP S (t, i, x)) (putVal val t i v) vf vt (D.put (klW t i) (.held v)) ∧ Spares [b] w w') := by
  obtain ⟨w', hr, hm, ht⟩ := h.map.store keyK Tryz.underlying71 hn (keyOf_name ft fi) (d := .held v) (ps := []) rfl
  exact ⟨w', hr, h.stored ft fi hx hF ht hm, turned_spares ht⟩
theorem goodA_facts {x : VT} (h : goodA x = true) : fitV x = true ∧ sizeV x ≤ 2000 := by
  unfold goodA goodV at h
  simp only [Bool.and_eq_true, decide_eq_true_eq] at h
  exact ⟨plain_fit x h.2.1.2, h.2.1.1.1⟩
theorem next_is (l : List O3) (typ addr : S8) : ∀ (j f : Nat) (k : Int), (∀ m : Nat, m < j → hasO l typ (idN addr (k + m)) = true) → hasO l typ (idN addr (k + j)) = false → j < f → nextN l typ addr f k = k + j
  | _, 0, _, _, _, h => by omega
  | 0, f + 1, k, _, h, _ => by
    rw [nextN, if_neg]
    · simp
    · have e : k + ((0 : Nat) : Int) = k := by omega
      rw [e] at h
      rw [h]
      simp
  | j + 1, f + 1, k, hm, h, hf => by
    have h0 := hm 0 (by omega)
    have e : k + ((0 : Nat) : Int) = k := by omega
    rw [e] at h0
    have a1 : ∀ m : Nat, m < j → hasO l typ (idN addr (k + 1 + m)) = true := fun m hmj => by
      have := hm (m + 1) (by omega)
      rw [show k + 1 + (m : Int) = k + ((m + 1 : Nat) : Int) by omega]
      exact this
    have a2 : hasO l typ (idN addr (k + 1 + j)) = false := by
      rw [show k + 1 + (j : Int) = k + ((j + 1 : Nat) : Int) by omega]
      exact h
    rw [nextN, if_pos h0, next_is l typ addr j f (k + 1) a1 a2 (by omega)]
    omega

end Go.Proofs.YtpbipngnoklmcaaGreatDoor
