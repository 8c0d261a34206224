/- A graph that comes in as a struct, and a script of pairs of ints: opened. -/
import Derived.Test.YtelioljmhlabjaaDoorRow
import Derived.Deep.Strs
import Derived.Deep.SlicePairs
namespace Go.Proofs.YtelioljmhlabjaaDoor
open Go.ChangeShapes Go.WideShapes Go.ChangeAt Go.RowKit
set_option maxRecDepth 100000

theorem cells22 : Tryd.prog.cellsOf 22 = 1 := by kernel_rfl
theorem cells62 : Tryd.prog.cellsOf 62 = 2 := by kernel_rfl
theorem bytes62 : Tryd.prog.bytesOf 62 = 16 := by kernel_rfl
theorem cells54 : Tryd.prog.cellsOf 54 = 3 := by kernel_rfl

section
variable {H : Type} {enc : TypeId × Value → H} {W : World}

theorem pairs_each {a : Addr} {len m : Nat} (hl : len ≤ m) (hm : m ≤ maxLen) (hr : (len + (m - len)) * 16 ≤ reachBytes)
    (each : ∀ i, i < m → ∃ p : Int × Int, W.cell? (a.add (i * 2)) = some (.int .i64 p.1) ∧ W.cell? ((a.add (i * 2)).add 1) = some (.int .i64 p.2)) : ∃ es : List (Int × Int), es.length = len ∧ PairsAt W (.slice (some a) len m) es := by
  simp only [reachBytes] at hr
  obtain ⟨f, hf2⟩ := Deep.choose_lt each
  refine ⟨(List.range len).map f, by simp, some a, m, by simp, by simp; omega, ⟨by simpa using hl, by unfold maxLen at hm; omega, fun e => by cases e⟩, fun hne => ?_⟩
  have hlen : 0 < len := by
    cases len with
    | zero => simp at hne
    | succ n => omega
  have h0 := hf2 0 (by omega)
  have ea := addr_plain (by simpa [Addr.add] using h0.1 : W.cell? a = some _)
  refine ⟨a.block, a.off, by rw [ea], World.block_lt_of_cell? W a (by simpa [Addr.add] using h0.1), fun i hi => ?_⟩
  have hi' : i < len := by simpa using hi
  have h1 := hf2 i (by omega)
  have e1 : ((List.range len).map f).getD i (0, 0) = f i := by simp [List.getD, hi']
  rw [e1]
  rw [ea, Addr.add_lit, Addr.add_lit] at h1
  exact h1

/-- A slice of pairs, as a field. -/
theorem trod_pairs {fuel : Nat} {c : Value} {y : DataW H × List MemPlace} (hf : DataW.trod enc Tryd.prog W 0 (fun _ => true) true fuel 22 [c] = some y) (hsz : ∀ n ∈ y.1.weights Tryd.prog 22, n ≤ reachBytes) :
    ∃ ao cap es, c = .slice ao (es : List (Int × Int)).length cap ∧ PairsAt W (.slice ao es.length cap) es := by
  rcases Deep.open_slice Tryd.underlying22 hf with ⟨hcs, hx⟩ | ⟨a, len, cap, m, n, D, Pl, hcs, _, hl, hm, hmm, hx, hel⟩
  · obtain rfl : c = .slice none 0 0 := by simpa using hcs
    exact ⟨none, 0, [], rfl, PairsAt.nil W⟩
  · obtain rfl : c = .slice (some a) len cap := by simpa using hcs
    simp only [if_true] at hmm
    subst hmm
    subst hx
    have hr := hsz ((len + (m - len)) * Tryd.prog.bytesOf 34) (by simp [DataW.weights, Tryd.underlying22])
    rw [bytes34] at hr
    obtain ⟨es, hle, hp⟩ := pairs_each (W := W) (a := a) hl hm hr fun i hi => by
      obtain ⟨cs', h1, h2⟩ := hel i hi
      obtain ⟨x, y, rfl⟩ := pair_of_trod h2
      rw [cells34] at h1
      obtain ⟨_, _, h3⟩ := World.cells?_some h1
      exact ⟨(x, y), by have := h3 0 (by decide); simpa [Addr.add] using this, by simpa using h3 1 (by decide)⟩
    subst hle
    exact ⟨some a, m, es, rfl, hp⟩

/-- A graph that came in. -/
theorem open_graph {b0 : Nat} {v : Value} {d : DataW H} {ps : List MemPlace} {j : Nat} {ts : List TypeId} {ds : List (DataW H)} (hval : Value.okWide Tryd.prog W .any b0 54 v) (h : DataW.Trod enc Tryd.prog W 0 (fun _ => true) true 54 v d ps)
    (hsz : (DataW.weightsEach Tryd.prog ts ds).all (· ≤ reachBytes) = true) (hts : ts[j]? = some 54) (hds : ds[j]? = some d) :
    ∃ (n lim : Int) (ag : Option Addr) (cg : Nat) (es : List (Int × Int)), v = .agg #[.int .i64 n, .slice ag es.length cg, .int .i64 lim] ∧ PairsAt W (.slice ag es.length cg) es := by
  obtain ⟨cs, rfl, hs⟩ := okWide_struct Tryd.underlying54 hval
  obtain ⟨fuel, hf⟩ := h
  obtain ⟨y0, y1, y2, k, hx, hl, h0, h1, h2⟩ := Deep.trod_struct3 Tryd.underlying54 hf
  rw [cells54] at hs
  obtain ⟨l, rfl⟩ : ∃ l : List Value, cs = l.toArray := ⟨cs.toList, rfl⟩
  match l, hs with
  | [c0, c1, c2], _ =>
    simp only [Value.cells, cells3, cells22, List.drop_zero, List.drop_succ_cons, List.take_succ_cons, List.take_zero] at h0 h1 h2
    obtain ⟨n, e0, _⟩ := DataW.trod_int Tryd.underlying3 h0
    obtain ⟨lim, e2, _⟩ := DataW.trod_int Tryd.underlying3 h2
    obtain rfl : c0 = .int .i64 n := by simpa using e0
    obtain rfl : c2 = .int .i64 lim := by simpa using e2
    obtain ⟨hd, _⟩ := Prod.mk.inj hx
    subst hd
    obtain ⟨ag, cg, es, rfl, hp⟩ := trod_pairs h1 (fun m hm => by
      have := List.all_eq_true.1 hsz m (DataW.weights_mem_each hts hds m (by
        simp only [DataW.weights, Tryd.underlying54]
        exact DataW.weights_mem_each (j := 1) rfl rfl m hm))
      simpa using this)
    exact ⟨n, lim, ag, cg, es, rfl, hp⟩

/-- A script that came in: a slice of structs of two ints. -/
theorem open_ops {b0 : Nat} {v : Value} {d : DataW H} {ps : List MemPlace} {j : Nat} {ts : List TypeId} {ds : List (DataW H)} (hval : Value.okWide Tryd.prog W .any b0 55 v) (h : DataW.Trod enc Tryd.prog W 0 (fun _ => true) true 55 v d ps)
    (hsz : (DataW.weightsEach Tryd.prog ts ds).all (· ≤ reachBytes) = true) (hts : ts[j]? = some 55) (hds : ds[j]? = some d) : ∃ es : List (Int × Int), PairsAt W v es := by
  obtain ⟨a0, len0, cap0, rfl⟩ := okWide_slice Tryd.underlying55 hval
  obtain ⟨fuel, hf⟩ := h
  rcases Deep.open_slice_pairs Tryd.underlying55 Tryd.underlying62 cells62 rfl rfl cells3 cells3 hf with ⟨hcs, hx⟩ | ⟨a, len, cap, m, n, V0, V1, D0, D1, P0, P1, hcs, _, hl, hm, hmm, hx, hel⟩
  · simp [Value.cells] at hcs
    obtain ⟨rfl, rfl, rfl⟩ := hcs
    exact ⟨[], PairsAt.nil W⟩
  · simp [Value.cells] at hcs
    obtain ⟨rfl, rfl, rfl⟩ := hcs
    simp only [if_true] at hmm
    subst hmm
    simp only [Prod.mk.injEq] at hx
    obtain ⟨rfl, _⟩ := hx
    have hr := sized_slice hsz hts hds Tryd.underlying55
    rw [bytes62] at hr
    simp only [List.length_map, List.length_range] at hr
    obtain ⟨es, hle, hp⟩ := pairs_each (W := W) (a := a) hl hm hr fun i hi => by
      obtain ⟨c0, c1, t0, t1⟩ := hel i hi
      obtain ⟨x, e0, _⟩ := DataW.trod_int Tryd.underlying3 t0
      obtain ⟨y, e1, _⟩ := DataW.trod_int Tryd.underlying3 t1
      have e0 : V0 i = .int .i64 x := by simpa using e0
      have e1 : V1 i = .int .i64 y := by simpa using e1
      rw [e0] at c0
      rw [e1] at c1
      exact ⟨(x, y), c0, by rw [Deep.add_add]; exact c1⟩
    subst hle
    exact ⟨es, hp⟩
end

end Go.Proofs.YtelioljmhlabjaaDoor
