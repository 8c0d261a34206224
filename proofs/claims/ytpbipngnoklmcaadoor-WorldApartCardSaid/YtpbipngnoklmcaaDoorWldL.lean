/- A look-up in the world's map, and a store, as steps of a region that draws. -/
import Derived.Test.YtpbipngnoklmcaaDoorWldD
namespace Go.Proofs.YtpbipngnoklmcaaDoor
open Go.RowKit
set_option maxRecDepth 100000
attribute [local go_sem] str_size str_toList str_get

theorem step_lookup {P : Program} {ops : Array Oper} {o : Oper} {a : Act} {w : World} {K : Act → World → Prop} {Q : Exit → Act → World → Prop} {E : Prop}
    (hgd : o.guard = none) (m x : Operand) (t : TypeId) (ho : o.op = .lookup t m x true) (mv key u : Value) (hm : a.eval m = mv) (hx : a.eval x = key)
    (hr : (Instr.lookup t mv key true).run P w = .ok u w) (h : K (a.put o.dst u) w) :
    if Region.wanted o (yielded ops a.tmps) = true then Oper.wp P o a w K Q else E := by
  have hw : Region.wanted o (yielded ops a.tmps) = true := by simp [Region.wanted, hgd]
  rw [if_pos hw]
  unfold Oper.wp execOp
  simp only [ho, hm, hx, Sem.run_bind, Sem.run_pure, Result.andThen_ok, hr]
  exact h

def zeroVal : Value := .agg #[.int .i64 0, .bool false, .string ⟨#[]⟩, .slice none 0 0, .slice none 0 0]
theorem zeroE (w : World) : (zeroValue 27).run Tryd.prog w = .ok zeroVal w := by kernel_rfl
variable {w : World} {p b n : Nat} {S : WS} {val : S8 → S8 → Value} {vf vt : Value} {D : DataW Value}

/-- What a look-up answers, in whatever world the map is the same. -/
theorem WAt.look (h : WAt w p b n S val vf vt D) {t i : S8} (ft : fitS t) (fi : fitS i) :
    ∃ V, (∀ W, W.ownsMap Tryd.prog 60 heldR b n D → (Instr.lookup 51 (.map (some b)) (nameV t i) true).run Tryd.prog W = .ok (.tuple #[V, .bool (hasO S.objs t i)]) W) ∧
      (hasO S.objs t i = true → V = val t i) ∧ (hasO S.objs t i = false → V = zeroVal) ∧ ∃ (k : Int) (f : Bool) (tx : S8) (ai : Option Addr) (ni ci : Nat) (ak : Option Addr) (nk ck : Nat), V = .agg #[.int .i64 k, .bool f, str tx, .slice ai ni ci, .slice ak nk ck] := by
  obtain ⟨h1, h2⟩ := h.rel t i ft fi
  have run : ∀ W, W.ownsMap Tryd.prog 60 heldR b n D → ∃ V, D.atKey (klW t i) (.held zeroVal) = .held V ∧ (Instr.lookup 51 (.map (some b)) (nameV t i) true).run Tryd.prog W = .ok (.tuple #[V, .bool (hasO S.objs t i)]) W := by
    intro W hW
    obtain ⟨v, ps, hr, hv⟩ := hW.look_ok keyK Tryd.underlying51 (zeroE W) (zd := .held zeroVal) (zp := []) rfl (keyOf_name ft fi)
    unfold heldR at hv
    have hv : (DataW.held v, ([] : List MemPlace)) = (D.atKey (klW t i) (.held zeroVal), ps) := Option.some.inj hv
    exact ⟨v, (congrArg Prod.fst hv).symm, by rw [hr, h1]⟩
  obtain ⟨V, hV, _⟩ := run w h.map
  refine ⟨V, fun W hW => ?_, fun hh => ?_, fun hh => ?_, ?_⟩
  · obtain ⟨V', hV', hr⟩ := run W hW
    rw [hV] at hV'
    injection hV' with hV'
    rw [hr, hV']
  · have := h2 hh (.held zeroVal)
    rw [hV] at this
    injection this
  · have := Maps.atKey_of_not_has (h1.trans hh) (.held zeroVal)
    rw [hV] at this
    injection this
  · cases hh : hasO S.objs t i with
    | false =>
      have := Maps.atKey_of_not_has (h1.trans hh) (.held zeroVal)
      rw [hV] at this
      injection this with e
      rw [e]
      exact ⟨0, false, [], none, 0, 0, none, 0, 0, rfl⟩
    | true =>
      have := h2 hh (.held zeroVal)
      rw [hV] at this
      injection this with e
      rw [e]
      obtain ⟨x, hx⟩ := hasO_iff.1 hh
      obtain ⟨_, F, hF⟩ := h.vals _ hx
      obtain ⟨vi, vk, xs, Fk, Fi, Fs, hv, _, hk, hi, _⟩ := hF.form
      obtain ⟨a1, c1, rfl, _⟩ := hk.form
      obtain ⟨a2, c2, rfl, _⟩ := hi.form
      exact ⟨_, _, _, _, _, _, _, _, _, hv⟩
theorem step_store {P : Program} {ops : Array Oper} {o : Oper} {a : Act} {w : World} {K : Act → World → Prop} {Q : Exit → Act → World → Prop} {E : Prop}
    (hgd : o.guard = none) (m x v : Operand) (t : TypeId) (ho : o.op = .mapUpdate t m x v) (mv key u : Value) (hm : a.eval m = mv) (hx : a.eval x = key) (hv : a.eval v = u) (G : World → Prop)
    (hr : ∃ w', (Instr.mapUpdate t mv key u).run P w = .ok () w' ∧ G w') (h : ∀ w', G w' → K (a.put o.dst undef) w') :
    if Region.wanted o (yielded ops a.tmps) = true then Oper.wp P o a w K Q else E := by
  have hw : Region.wanted o (yielded ops a.tmps) = true := by simp [Region.wanted, hgd]
  rw [if_pos hw]
  obtain ⟨w', hrun, hG⟩ := hr
  unfold Oper.wp
  simp [execOp, ho, hm, hx, hv, hrun, Result.andThen]
  exact h w' hG

/-- A value in memory of its own stored under a name. -/
theorem WAt.stored (h : WAt w p b n S val vf vt D) {w' : World} {t i : S8} {x : VT} {v : Value} {F : List Nat} (ft : fitS t) (fi : fitS i) (hx : goodA x = true) (hF : OwnVal w x v F) (ht : w.mapTurned w' b)
    (hm : w'.ownsMap Tryd.prog 60 heldR b (n + 1) (D.put (klW t i) (.held v))) : WAt w' p b (n + 1) (putP S (t, i, x)) (putVal val t i v) vf vt (D.put (klW t i) (.held v)) := by
  refine h.turned ht hm (h.rel.put h.map.isMap ft fi x v) (ris_with h.ris _) (fun o ho => ?_) fun o ho => ?_
  · rcases mem_withO.1 ho with rfl | ⟨ho, _⟩
    · exact ⟨ft, fi⟩
    · exact h.fit o ho
  · rcases mem_withO.1 ho with rfl | ⟨ho, hne⟩
    · refine ⟨hx, F, ?_⟩
      unfold putVal
      rw [if_pos ⟨rfl, rfl⟩]
      refine hF.keep fun q hq => (turned_spares ht).block q (hF.lt q hq) ?_
      obtain ⟨es, clock, hb⟩ := map_block h.map
      obtain ⟨cs, fz, hh⟩ := own_kinds hF q hq
      intro hm'
      obtain rfl : q = b := by simpa using hm'
      rcases hh with hh | hh <;> (rw [hb] at hh; cases hh)
    · obtain ⟨hg, G, hG⟩ := h.vals o ho
      refine ⟨hg, G, ?_⟩
      unfold putVal
      rw [if_neg]
      · exact h.own_turned ht hG
      · rintro ⟨e1, e2⟩
        unfold isO at hne
        simp [e1, e2] at hne
theorem WAt.store (h : WAt w p b n S val vf vt D) (hn : n < maxLen) {t i : S8} {x : VT} {v : Value} {F : List Nat} (ft : fitS t) (fi : fitS i) (hx : goodA x = true) (hF : OwnVal w x v F) :
    ∃ w', (Instr.mapUpdate 51 (.map (some b)) (nameV t i) v).run Tryd.prog w = .ok () w' ∧ (WAt w' p b (n + 1) (putP S (t, i, x)) (putVal val t i v) vf vt (D.put (klW t i) (.held v)) ∧ Spares [b] w w') := by
  obtain ⟨w', hr, hm, ht⟩ := h.map.store keyK Tryd.underlying51 hn (keyOf_name ft fi) (d := .held v) (ps := []) rfl
  exact ⟨w', hr, h.stored ft fi hx hF ht hm, turned_spares ht⟩
theorem goodA_facts {x : VT} (h : goodA x = true) : fitV x = true ∧ sizeV x ≤ 2000 := by
  unfold goodA goodV at h
  simp only [Bool.and_eq_true, decide_eq_true_eq] at h
  exact ⟨plain_fit x h.2.1.2, h.2.1.1.1⟩
theorem next_is (l : List O3) (typ addr : S8) : ∀ (j f : Nat) (k : Int), (∀ m : Nat, m < j → hasO l typ (idN addr (k + m)) = true) → hasO l typ (idN addr (k + j)) = false → j < f → nextN l typ addr f k = k + j
  | _, 0, _, _, _, h => by omega
  | 0, f + 1, k, _, h, _ => by
    rw [nextN, if_neg]
    · simp
    · have e : k + ((0 : Nat) : Int) = k := by omega
      rw [e] at h
      rw [h]
      simp
  | j + 1, f + 1, k, hm, h, hf => by
    have h0 := hm 0 (by omega)
    have e : k + ((0 : Nat) : Int) = k := by omega
    rw [e] at h0
    have a1 : ∀ m : Nat, m < j → hasO l typ (idN addr (k + 1 + m)) = true := fun m hmj => by
      have := hm (m + 1) (by omega)
      rw [show k + 1 + (m : Int) = k + ((m + 1 : Nat) : Int) by omega]
      exact this
    have a2 : hasO l typ (idN addr (k + 1 + j)) = false := by
      rw [show k + 1 + (j : Int) = k + ((j + 1 : Nat) : Int) by omega]
      exact h
    rw [nextN, if_pos h0, next_is l typ addr j f (k + 1) a1 a2 (by omega)]
    omega

end Go.Proofs.YtpbipngnoklmcaaDoor
