/- Two worlds side by side: a call to one leaves the other. By the contracts alone. -/
import Derived.Test.YtpbipngnoklmcaaDoorWldHs
namespace Go.Proofs.YtpbipngnoklmcaaDoor
open Go.RowKit
set_option maxRecDepth 100000
variable {w w' : World} {p b n : Nat} {S : WS} {val : S8 → S8 → Value} {vf vt : Value} {D : DataW Value} {G : Nat} {L : List Nat} {N M : Nat} {q : Nat} {T : WS}

/-- A world whose own blocks stay, stays: its values' blocks and its rules' are none of another world's. -/
theorem WAt.other {p' b' n' : Nat} {S' : WS} {val' : S8 → S8 → Value} {vf' vt' : Value} {D' : DataW Value} (h : WAt w p b n S val vf vt D) (k : WAt w p' b' n' S' val' vf' vt' D') (hd : ∀ j ∈ wF p' b' vt', j ∉ wF p b vt) (hs : Spares (wF p b vt) w w') : WAt w' p' b' n' S' val' vf' vt' D' := by
  have kinds : ∀ {j : Nat} {cs : Array Value} {T : TypeId} {fz : Nat × Nat}, w.heap[j]? = some (.cells cs T fz) → T ≠ 54 → T ≠ 74 → j ∉ wF p b vt := by
    intro j cs T fz hj h1 h2 hm
    simp only [wF, List.mem_cons, Option.mem_toList] at hm
    rcases hm with rfl | rfl | hm
    · rw [h.box] at hj
      injection hj with hj
      injection hj with _ e _
      exact h1 e.symm
    · obtain ⟨es, clock, hb⟩ := map_block h.map
      rw [hb] at hj
      cases hj
    · obtain ⟨cs', hb⟩ := row_block h.trace hm
      rw [hb] at hj
      injection hj with hj
      injection hj with _ e _
      exact h2 e.symm
  refine ⟨(hs.block p' (heap_lt k.box) (hd p' (by simp [wF]))).trans k.box, map_keep k.map (hs.block b' k.map.lt (hd b' (by simp [wF]))), k.rel, k.ris, k.fit, k.vals.keep fun o _ F hF j hj => ?_, row_keep k.fails fun j hj => ?_, row_keep k.trace fun j hj => ?_⟩
  · obtain ⟨cs, fz, hh⟩ := own_kinds hF j hj
    refine hs.block j (hF.lt j hj) ?_
    rcases hh with hh | hh
    · exact kinds hh strNeW strNeWC
    · exact kinds hh valNeW valNeWC
  · obtain ⟨cs, hh⟩ := row_block k.fails hj
    exact hs.block j (heap_lt hh) (kinds hh failNeW failNeWC)
  · obtain ⟨cs, hh⟩ := row_block k.trace hj
    exact hs.block j (heap_lt hh) (hd j (by simp [wF, hj]))

/-- Two worlds, in blocks behind G, none of which is in L. -/
def Has2 (G : Nat) (L : List Nat) (p : Nat) (S : WS) (N : Nat) (q : Nat) (T : WS) (M : Nat) (w : World) : Prop :=
  ∃ b n val vf vt D b' n' val' vf' vt' D', n ≤ N ∧ n' ≤ M ∧ WAt w p b n S val vf vt D ∧ WAt w q b' n' T val' vf' vt' D' ∧ (∀ k ∈ wF p b vt, G ≤ k ∧ k ∉ L) ∧ (∀ k ∈ wF q b' vt', G ≤ k ∧ k ∉ L) ∧ ∀ k ∈ wF q b' vt', k ∉ wF p b vt
theorem Has2.swap (h : Has2 G L p S N q T M w) : Has2 G L q T M p S N w := by
  obtain ⟨b, n, val, vf, vt, D, b', n', val', vf', vt', D', h1, h2, h3, h4, h5, h6, h7⟩ := h
  exact ⟨b', n', val', vf', vt', D', b, n, val, vf, vt, D, h2, h1, h4, h3, h6, h5, fun k hk hm => h7 k hm hk⟩
theorem Has2.one (h : Has2 G L p S N q T M w) : Has G L p S N w := by
  obtain ⟨b, n, val, vf, vt, D, b', n', val', vf', vt', D', h1, h2, h3, h4, h5, h6, h7⟩ := h
  exact ⟨b, n, val, vf, vt, D, h1, h3, h5⟩
theorem Has2.two (h : Has2 G L p S N q T M w) : Has G L q T M w := h.swap.one
theorem Has2.below (h : Has2 G L p S N q T M w) (hb : Below w.heap.size w w') : Has2 G L p S N q T M w' := by
  obtain ⟨b, n, val, vf, vt, D, b', n', val', vf', vt', D', h1, h2, h3, h4, h5, h6, h7⟩ := h
  exact ⟨b, n, val, vf, vt, D, b', n', val', vf', vt', D', h1, h2, h3.below hb, h4.below hb, h5, h6, h7⟩
theorem Has2.guard (h : Has2 G L p S N q T M w) {j : Nat} (hj : w.heap.size ≤ j) : Has2 G (j :: L) p S N q T M w := by
  obtain ⟨b, n, val, vf, vt, D, b', n', val', vf', vt', D', h1, h2, h3, h4, h5, h6, h7⟩ := h
  refine ⟨b, n, val, vf, vt, D, b', n', val', vf', vt', D', h1, h2, h3, h4, fun k hk => ⟨(h5 k hk).1, ?_⟩, fun k hk => ⟨(h6 k hk).1, ?_⟩, h7⟩
  · have := h3.lt k hk
    rw [List.mem_cons, not_or]
    exact ⟨by omega, (h5 k hk).2⟩
  · have := h4.lt k hk
    rw [List.mem_cons, not_or]
    exact ⟨by omega, (h6 k hk).2⟩
/-- The second, made behind the first. -/
theorem Has2.make {w1 w2 : World} (h : Has G L p S N w1) (hb : Below w1.heap.size w1 w2) (k : Has w1.heap.size [] q T M w2) (hL : ∀ j ∈ L, j < w1.heap.size) : Has2 G L p S N q T M w2 := by
  have hG := h.base
  obtain ⟨b, n, val, vf, vt, D, h1, h3, h5⟩ := h
  obtain ⟨b', n', val', vf', vt', D', h2, h4, h6⟩ := k
  refine ⟨b, n, val, vf, vt, D, b', n', val', vf', vt', D', h1, h2, h3.below hb, h4, h5, fun k hk => ⟨?_, fun hm => ?_⟩, fun k hk hm => ?_⟩
  · have := (h6 k hk).1
    omega
  · have := (h6 k hk).1
    have := hL k hm
    omega
  · have := (h6 k hk).1
    have := h3.lt k hm
    omega
theorem WStep.has2 {S' : WS} {n' N' : Nat} {b2 n2 : Nat} {val2 : S8 → S8 → Value} {vf2 vt2 : Value} {D2 : DataW Value} (hx : WAt w p b n S val vf vt D) (hy : WAt w q b2 n2 T val2 vf2 vt2 D2) (h1 : ∀ k ∈ wF p b vt, G ≤ k ∧ k ∉ L) (h2 : ∀ k ∈ wF q b2 vt2, G ≤ k ∧ k ∉ L) (hd : ∀ k ∈ wF q b2 vt2, k ∉ wF p b vt) (hn : n' ≤ N') (hm : n2 ≤ M)
    (h : WStep w p b n' S' vf vt w') (hL : ∀ j ∈ L, j < w.heap.size) : Has2 G L p S' N' q T M w' ∧ Keeps G L w w' := by
  obtain ⟨val', vt', D', hW, hs, hF⟩ := h
  have hGp := (h1 p (by simp [wF])).1
  have hp := heap_lt hx.box
  refine ⟨⟨b, n', val', vf, vt', D', b2, n2, val2, vf2, vt2, D2, hn, hm, hW, hx.other hy hd hs, fun k hk => ?_, h2, fun k hk hm => ?_⟩, hs.below (by omega) (fun k hk => (h1 k hk).1), fun j hj hl => hs.block j hl fun hf => (h1 j hf).2 hj⟩
  · rcases hF k hk with h | h
    · exact h1 k h
    · exact ⟨by omega, fun hq => by have := hL k hq; omega⟩
  · rcases hF k hm with h | h
    · exact hd k hk h
    · have := hy.lt k hk
      omega
theorem create_h2 (h : Has2 G L p S N q T M w) (hL : ∀ j ∈ L, j < w.heap.size) (addr typ after : S8) (x : VT) (v : Value) (hv : ValAt w x v) (ha : addr.length ≤ 281474976710656) (haf : after.length ≤ 281474976710656) (ft : fitS typ)
    (hl : S.trace.length ≤ 100000) (hN : N ≤ 100000) (ho : S.objs.length ≤ 100000) (hE : ErrW w) (hT : TabW w) :
    Calls Tryd.prog 8 #[.pointer (some ⟨p, 0, none⟩), str addr, str typ, str after, v] w fun e w' =>
      e = .returned (.tuple #[str (createP S addr typ after x).2.1, .int .i64 (createP S addr typ after x).2.2]) ∧ Has2 G L p (createP S addr typ after x).1 (N + 1) q T M w' ∧ Keeps G L w w' := by
  obtain ⟨b, n, val, vf, vt, D, b', n', val', vf', vt', D', h1, h2, h3, h4, h5, h6, h7⟩ := h
  refine (create_w h3 addr typ after x v hv ha haf ft hl (by omega) ho hE hT).mono ?_
  rintro e w' ⟨rfl, n2, hn2, hs⟩
  exact ⟨rfl, WStep.has2 h3 h4 h5 h6 h7 (by omega) h2 hs hL⟩

end Go.Proofs.YtpbipngnoklmcaaDoor
