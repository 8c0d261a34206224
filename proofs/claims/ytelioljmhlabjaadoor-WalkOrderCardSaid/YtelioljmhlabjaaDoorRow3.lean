/- A slice of bools, and two slices of ints in an array, that come in: opened. -/
import Derived.Test.YtelioljmhlabjaaDoorRow2
import Derived.Test.YtelioljmhlabjaaDoorRun
namespace Go.Proofs.YtelioljmhlabjaaDoor
open Go.ChangeShapes Go.WideShapes Go.ChangeAt Go.RowKit
set_option maxRecDepth 100000

theorem cells26 : Tryd.prog.cellsOf 26 = 1 := by kernel_rfl
theorem cells4 : Tryd.prog.cellsOf 4 = 1 := by kernel_rfl
theorem bytes4 : Tryd.prog.bytesOf 4 = 1 := by kernel_rfl
theorem cells74 : Tryd.prog.cellsOf 74 = 2 := by kernel_rfl

section
variable {H : Type} {enc : TypeId × Value → H} {W : World}

/-- A slice of bools that came in. -/
theorem open_boolsAt {b0 : Nat} {v : Value} {d : DataW H} {ps : List MemPlace} {j : Nat} {ts : List TypeId} {ds : List (DataW H)} (hval : Value.okWide Tryd.prog W .any b0 42 v) (h : DataW.Trod enc Tryd.prog W 0 (fun _ => true) true 42 v d ps)
    (hsz : (DataW.weightsEach Tryd.prog ts ds).all (· ≤ reachBytes) = true) (hts : ts[j]? = some 42) (hds : ds[j]? = some d) : ∃ xs : List Bool, BoolsAt W v xs := by
  obtain ⟨a0, len0, cap0, rfl⟩ := okWide_slice Tryd.underlying42 hval
  obtain ⟨fuel, hf⟩ := h
  rcases Deep.open_slice1 Tryd.underlying42 cells4 hf with ⟨hcs, hx⟩ | ⟨a, len, cap, m, n, V, D, Pl, hcs, _, hl, hm, hmm, hx, hel⟩
  · simp [Value.cells] at hcs
    obtain ⟨rfl, rfl, rfl⟩ := hcs
    exact ⟨[], BoolsAt.nil W⟩
  · simp [Value.cells] at hcs
    obtain ⟨rfl, rfl, rfl⟩ := hcs
    simp only [if_true] at hmm
    subst hmm
    simp only [Prod.mk.injEq] at hx
    obtain ⟨rfl, _⟩ := hx
    have hr := sized_slice hsz hts hds Tryd.underlying42
    rw [bytes4] at hr
    simp only [List.length_map, List.length_range, reachBytes] at hr
    obtain ⟨f, hf2⟩ := Deep.choose_lt (α := Bool) (p := fun i x => W.cell? (a.add i) = some (.bool x)) (fun i hi => by
      obtain ⟨c0, t0⟩ := hel i hi
      obtain ⟨x, e0, _⟩ := DataW.trod_bool Tryd.underlying4 t0
      have e0 : V i = .bool x := by simpa using e0
      rw [e0] at c0
      exact ⟨x, c0⟩)
    refine ⟨(List.range len0).map f, some a, m, by simp, by simp; omega, ⟨by simpa using hl, by unfold maxLen at hm; omega, fun e => by cases e⟩, fun hne => ?_⟩
    have hlen : 0 < len0 := by
      cases len0 with
      | zero => simp at hne
      | succ n => omega
    have h0 := hf2 0 (by omega)
    have ea := addr_plain (by simpa [Addr.add] using h0 : W.cell? a = some _)
    refine ⟨a.block, a.off, by rw [ea], World.block_lt_of_cell? W a (by simpa [Addr.add] using h0), fun i hi => ?_⟩
    have hi' : i < len0 := by simpa using hi
    have h1 := hf2 i (by omega)
    have e1 : ((List.range len0).map f).getD i false = f i := by simp [List.getD, hi']
    rw [e1]
    rw [ea, Addr.add_lit] at h1
    exact h1

/-- A slice of ints, as an element. -/
theorem trod_intsAt {fuel : Nat} {c : Value} {y : DataW H × List MemPlace} (hf : DataW.trod enc Tryd.prog W 0 (fun _ => true) true fuel 26 [c] = some y) (hsz : ∀ n ∈ y.1.weights Tryd.prog 26, n ≤ reachBytes) : ∃ xs : List Int, IntsAt W c xs := by
  rcases Deep.open_slice1 Tryd.underlying26 cells3 hf with ⟨hcs, hx⟩ | ⟨a, len, cap, m, n, V, D, Pl, hcs, _, hl, hm, hmm, hx, hel⟩
  · obtain rfl : c = .slice none 0 0 := by simpa using hcs
    exact ⟨[], IntsAt.nil W⟩
  · obtain rfl : c = .slice (some a) len cap := by simpa using hcs
    simp only [if_true] at hmm
    subst hmm
    subst hx
    have hr := hsz ((len + (m - len)) * Tryd.prog.bytesOf 3) (by simp [DataW.weights, Tryd.underlying26])
    rw [bytes3] at hr
    simp only [reachBytes] at hr
    obtain ⟨f, hf2⟩ := Deep.choose_lt (α := Int) (p := fun i x => W.cell? (a.add i) = some (.int .i64 x)) (fun i hi => by
      obtain ⟨c0, t0⟩ := hel i hi
      obtain ⟨x, e0, _⟩ := DataW.trod_int Tryd.underlying3 t0
      have e0 : V i = .int .i64 x := by simpa using e0
      rw [e0] at c0
      exact ⟨x, c0⟩)
    refine ⟨(List.range len).map f, some a, m, by simp, by simp; omega, ⟨by simpa using hl, by unfold maxLen at hm; omega, fun e => by cases e⟩, fun hne => ?_⟩
    have hlen : 0 < len := by
      cases len with
      | zero => simp at hne
      | succ n => omega
    have h0 := hf2 0 (by omega)
    have ea := addr_plain (by simpa [Addr.add] using h0 : W.cell? a = some _)
    refine ⟨a.block, a.off, by rw [ea], World.block_lt_of_cell? W a (by simpa [Addr.add] using h0), fun i hi => ?_⟩
    have hi' : i < len := by simpa using hi
    have h1 := hf2 i (by omega)
    have e1 : ((List.range len).map f).getD i 0 = f i := by simp [List.getD, hi']
    rw [e1]
    rw [ea, Addr.add_lit] at h1
    exact h1

/-- Two slices of ints that came in. -/
theorem open_two {b0 : Nat} {v : Value} {d : DataW H} {ps : List MemPlace} {j : Nat} {ts : List TypeId} {ds : List (DataW H)} (hval : Value.okWide Tryd.prog W .any b0 74 v) (h : DataW.Trod enc Tryd.prog W 0 (fun _ => true) true 74 v d ps)
    (hsz : (DataW.weightsEach Tryd.prog ts ds).all (· ≤ reachBytes) = true) (hts : ts[j]? = some 74) (hds : ds[j]? = some d) : ∃ (pv qv : Value) (xs ys : List Int), v = .agg #[pv, qv] ∧ IntsAt W pv xs ∧ IntsAt W qv ys := by
  obtain ⟨cs, rfl, hs⟩ : ∃ cs, v = .agg cs ∧ cs.size = Tryd.prog.cellsOf 74 := by
    simp only [Value.okWide, Tryd.underlying74] at hval
    obtain ⟨cs, h1, h2, _⟩ := hval
    exact ⟨cs, h1, h2⟩
  obtain ⟨fuel, hf⟩ := h
  obtain ⟨xs, m, _, hx, _, hn, hel⟩ := DataW.trod_array Tryd.underlying74 hf
  rw [cells74] at hs
  obtain ⟨l, rfl⟩ : ∃ l : List Value, cs = l.toArray := ⟨cs.toList, rfl⟩
  match l, hs, xs, hn with
  | [c0, c1], _, [z0, z1], _ =>
    have h0 := hel 0 (by decide)
    have h1 := hel 1 (by decide)
    rw [cells26] at h0 h1
    simp only [Value.cells, Nat.zero_mul, Nat.one_mul, List.drop_zero, List.drop_succ_cons, List.take_succ_cons, List.take_zero] at h0 h1
    obtain ⟨hd, _⟩ := Prod.mk.inj hx
    subst hd
    have hw : ∀ n ∈ DataW.weightsAll Tryd.prog 26 [z0.1, z1.1], n ≤ reachBytes := fun n hn => by
      have := List.all_eq_true.1 hsz n (DataW.weights_mem_each hts hds n (by
        simp only [DataW.weights, Tryd.underlying74]
        exact hn))
      simpa using this
    obtain ⟨xs, hxs⟩ := trod_intsAt h0 (fun n hn => hw n (by simp only [DataW.weightsAll]; exact List.mem_append_left _ hn))
    obtain ⟨ys, hys⟩ := trod_intsAt h1 (fun n hn => hw n (by simp only [DataW.weightsAll]; exact List.mem_append_right _ (List.mem_append_left _ hn)))
    exact ⟨c0, c1, xs, ys, rfl, hxs, hys⟩
end

end Go.Proofs.YtelioljmhlabjaaDoor
