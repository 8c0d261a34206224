/- A world that is held while a law writes a box of its own. -/
import Derived.Test.YtpbipngnoklmcaaGreatDoorConK
import Derived.Test.YtpbipngnoklmcaaGreatDoorMConH
namespace Go.Proofs.YtpbipngnoklmcaaGreatDoor
open Go.RowKit
set_option maxRecDepth 100000
variable {w w' : World} {p b n : Nat} {S : WS} {val : S8 → S8 → Value} {vf vt : Value} {D : DataW Value} {G : Nat} {L K : List Nat} {N : Nat}

theorem bvNeC : (41 : TypeId) ≠ 58 := by decide
theorem bvNeW : (41 : TypeId) ≠ 74 := by decide
theorem bvNeF : (41 : TypeId) ≠ 52 := by decide
theorem WAt.boxedV (h : WAt w p b n S val vf vt D) (hO : ValsOff K w S.objs val) (hs : Spares K w w') (hX : ∀ q ∈ K, ∃ cs fz, w.heap[q]? = some (.cells cs 41 fz)) : WAt w' p b n S val vf vt D := by
  have other : ∀ {q : Nat} {cs : Array Value} {T : TypeId} {fz : Nat × Nat}, w.heap[q]? = some (.cells cs T fz) → 41 ≠ T → w'.heap[q]? = w.heap[q]? := fun {q cs T fz} hq hT => hs.block q (heap_lt hq) fun hm => by
    obtain ⟨cs', fz', hh⟩ := hX q hm
    rw [hq] at hh
    injection hh with hh
    injection hh with _ e _
    exact hT e.symm
  refine ⟨(other h.box bvNeW).trans h.box, map_keep h.map ?_, h.rel, h.ris, h.fit, fun o ho => ?_, row_keep h.fails fun q hq => ?_, row_keep h.trace fun q hq => ?_⟩
  · obtain ⟨es, clock, hb⟩ := map_block h.map
    refine hs.block b (heap_lt hb) fun hm => ?_
    obtain ⟨cs', fz', hh⟩ := hX b hm
    rw [hb] at hh
    cases hh
  · obtain ⟨F, hF, hn⟩ := hO o ho
    exact ⟨(h.vals o ho).1, F, hF.keep fun q hq => hs.block q (hF.lt q hq) (hn q hq)⟩
  · obtain ⟨_, hh⟩ := row_block h.fails hq
    exact other hh bvNeF
  · obtain ⟨_, hh⟩ := row_block h.trace hq
    exact other hh bvNeC
/-- Has, and no value of it stands in a block of K. -/
def HasO (K : List Nat) (G : Nat) (L : List Nat) (p : Nat) (S : WS) (N : Nat) (w : World) : Prop := ∃ b n val vf vt D, n ≤ N ∧ WAt w p b n S val vf vt D ∧ (∀ q ∈ wF p b vt, G ≤ q ∧ q ∉ L) ∧ ValsOff K w S.objs val
theorem HasO.has (h : HasO K G L p S N w) : Has G L p S N w := by
  obtain ⟨b, n, val, vf, vt, D, hn, hW, hF, _⟩ := h
  exact ⟨b, n, val, vf, vt, D, hn, hW, hF⟩
theorem Has.offs (h : Has G L p S N w) (hK : ∀ q ∈ K, w.heap.size ≤ q) : HasO K G L p S N w := by
  obtain ⟨b, n, val, vf, vt, D, hn, hW, hF⟩ := h
  refine ⟨b, n, val, vf, vt, D, hn, hW, hF, fun o ho => ?_⟩
  obtain ⟨_, F, hv⟩ := hW.vals o ho
  exact ⟨F, hv, fun q hq hk => Nat.lt_irrefl _ (Nat.lt_of_lt_of_le (hv.lt q hq) (hK q hk))⟩
theorem HasO.below (h : HasO K G L p S N w) (hb : Below w.heap.size w w') : HasO K G L p S N w' := by
  obtain ⟨b, n, val, vf, vt, D, hn, hW, hF, hO⟩ := h
  exact ⟨b, n, val, vf, vt, D, hn, hW.below hb, hF, hO.below hb⟩
theorem HasO.guard (h : HasO K G L p S N w) {q : Nat} (hq : w.heap.size ≤ q) : HasO K G (q :: L) p S N w := by
  obtain ⟨b, n, val, vf, vt, D, hn, hW, hF, hO⟩ := h
  refine ⟨b, n, val, vf, vt, D, hn, hW, fun k hk => ⟨(hF k hk).1, ?_⟩, hO⟩
  have := hW.lt k hk
  rw [List.mem_cons, not_or]
  exact ⟨by omega, (hF k hk).2⟩
theorem HasO.guards (h : HasO K G L p S N w) {M : List Nat} (hM : ∀ q ∈ M, w.heap.size ≤ q) : HasO K G (M ++ L) p S N w := by
  obtain ⟨b, n, val, vf, vt, D, hn, hW, hF, hO⟩ := h
  refine ⟨b, n, val, vf, vt, D, hn, hW, fun k hk => ⟨(hF k hk).1, fun hm => ?_⟩, hO⟩
  rcases List.mem_append.1 hm with hm | hm
  · have := hM k hm
    have := hW.lt k hk
    omega
  · exact (hF k hk).2 hm
theorem HasO.boxed (h : HasO K G L p S N w) (hs : Spares K w w') (hX : ∀ q ∈ K, ∃ cs fz, w.heap[q]? = some (.cells cs 41 fz)) : Has G L p S N w' := by
  obtain ⟨b, n, val, vf, vt, D, hn, hW, hF, hO⟩ := h
  exact ⟨b, n, val, vf, vt, D, hn, hW.boxedV hO hs hX, hF⟩
theorem update_ho (h : HasO K G L p S N w) (hK : ∀ q ∈ K, q < w.heap.size) (hL : ∀ q ∈ L, q < w.heap.size) (addr typ i : S8) (x : VT) (v : Value) (hv : ValAt w x v) (ft : fitS typ) (fi : fitS i) (hl : S.trace.length ≤ 100000) (hN : N ≤ 100000) :
    Calls Tryz.prog 21 #[.pointer (some ⟨p, 0, none⟩), str addr, str typ, str i, v] w fun e w' => e = .returned (.int .i64 (updateP S addr typ i x).2) ∧ HasO K G L p (updateP S addr typ i x).1 (N + 1) w' ∧ Keeps G L w w' := by
  obtain ⟨b, n, val, vf, vt, D, hn, hW, hF, hO⟩ := h
  refine (update_o hW hO hK addr typ i x v hv ft fi hl (by omega)).mono ?_
  rintro e w' ⟨rfl, n', hn', val', vt', D', hW', hs, hF', hO'⟩
  have hk := (WStep.has (w := w) (p := p) (b := b) (vf := vf) (vt := vt) (n' := n') (N' := N + 1) hF (by omega) (heap_lt hW.box) ⟨val', vt', D', hW', hs, hF'⟩ hL).2
  refine ⟨rfl, ⟨b, n', val', vf, vt', D', by omega, hW', fun q hq => ?_, hO'⟩, hk⟩
  have hGp := (hF p (by simp [wF])).1
  have hpl := heap_lt hW.box
  rcases hF' q hq with h | h
  · exact hF q h
  · exact ⟨by omega, fun hq => by have := hL q hq; omega⟩

/-- Read: what it told lies in memory of its own. -/
theorem read_k (h : Has G L p S N w) (typ i : S8) (ft : fitS typ) (fi : fitS i) :
    Calls Tryz.prog 17 #[.pointer (some ⟨p, 0, none⟩), str typ, str i] w fun (e : Ending) (w' : World) => ∃ (v' : Value) (M : List Nat), e = .returned (.tuple #[v', .bool (hasO S.objs typ i)]) ∧ (∀ W : World, (∀ q ∈ M, W.heap[q]? = w'.heap[q]?) → ValAt W (readV S.objs typ i) v') ∧ (∀ q ∈ M, w.heap.size ≤ q ∧ q < w'.heap.size) ∧ Below w.heap.size w w' := by
  obtain ⟨b, n, val, vf, vt, D, hn, hW, hF⟩ := h
  refine (read_w hW typ i ft fi).mono ?_
  rintro e w' ⟨v', F, rfl, ho, _, hge, hb⟩
  exact ⟨v', F, rfl, fun W hW => (ho.keep hW).at, fun q hq => ⟨hge q hq, ho.lt q hq⟩, hb⟩
theorem put5_spares (w : World) (g : Nat) (c0 c1 c2 c3 c4 : Value) : Spares [g] w (((((w.setCell ⟨g, 0, none⟩ c0).setCell ⟨g, 1, none⟩ c1).setCell ⟨g, 2, none⟩ c2).setCell ⟨g, 3, none⟩ c3).setCell ⟨g, 4, none⟩ c4) :=
  ((((setC_spares w g 0 c0).trans (setC_spares _ g 1 c1)).trans (setC_spares _ g 2 c2)).trans (setC_spares _ g 3 c3)).trans (setC_spares _ g 4 c4)
/-- A value without items and keys reads alike anywhere. -/
theorem leaf_at {W : World} {k : Int} {b : Bool} {tx : List UInt8} {v : Value} (h : ValAt w (.mk k b tx [] []) v) : ValAt W (.mk k b tx [] []) v := by
  rw [ValAt] at h ⊢
  obtain ⟨vi, vk, rfl, hb, hs, xs, hr, hv⟩ := h
  refine ⟨vi, vk, rfl, hb, ?_, xs, ?_, by rw [ValsAt]; trivial⟩
  · obtain ⟨ao, cap, hv, hc, _⟩ := hs
    exact ⟨ao, cap, hv, hc, fun h => absurd rfl h⟩
  · obtain ⟨ao, cap, hv, hc, _⟩ := hr
    exact ⟨ao, cap, hv, hc, fun h => absurd rfl h⟩
/-- The document's Put into an object without keys: the new rows. -/
theorem put_more (x : VT) (hxi : x.items = [] ∧ x.keys = []) (vx : Value) (key : List UInt8) (w : World) (hx : ValAt w x vx) :
    Calls Tryz.prog 24 #[.agg #[.int .i64 6, .bool false, .string ⟨#[]⟩, .slice none 0 0, .slice none 0 0], str key, vx] w fun (e : Ending) (w' : World) => ∃ (v' : Value) (M : List Nat), e = .returned v' ∧ (∀ W : World, (∀ q ∈ M, W.heap[q]? = w'.heap[q]?) → ValAt W (putR noneV key x) v') ∧ (∀ q ∈ M, w.heap.size ≤ q ∧ q < w'.heap.size) ∧ Below w.heap.size w w' := by
  have hp := put_own noneV x _ vx key w w (ObjAt.of (none_at w)) hx rfl (by decide) (by decide)
  refine hp.mono ?_
  rintro e w' ⟨vk, vi, rfl, ⟨xs, h2, h3, hl, he⟩, hb⟩
  refine ⟨_, vk.ownBlock.toList ++ vi.ownBlock.toList, rfl, fun W hW => ?_, fun q hq => ?_, hb⟩
  · have hR : RowsOf W w (endA key (keptK key noneV.keys)) (endT key x (keptK key noneV.keys) (keptT key noneV.keys noneV.items)) vk vi W := ⟨xs, row_keep h2 fun q hq => hW q (List.mem_append.2 (.inl (by rw [hq]; simp))), row_keep h3 fun q hq => hW q (List.mem_append.2 (.inr (by rw [hq]; simp))), hl, fun j h h' => by
      have hj := he j h h'
      have hts : (endT key x (keptK key noneV.keys) (keptT key noneV.keys noneV.items))[j] = x := by
        have : j = 0 := by
          have h1 : j < 1 := h
          omega
        subst this
        rfl
      rw [hts] at hj ⊢
      obtain ⟨k, b, tx, its, ks⟩ := x
      obtain ⟨e1, e2⟩ := hxi
      change its = [] at e1
      change ks = [] at e2
      subst e1 e2
      exact leaf_at hj⟩
    exact hR.val (Below.refl _ W)
  · rcases List.mem_append.1 hq with hq | hq
    · exact h2.lt q (by simpa using hq)
    · exact h3.lt q (by simpa using hq)

end Go.Proofs.YtpbipngnoklmcaaGreatDoor
