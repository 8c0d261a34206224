/- From a law's walk to its row: the arguments are opened, and read behind the call as they read before it. -/
import Derived.Test.YtelioljmhlabjaaDoorCards
import Derived.Test.YtelioljmhlabjaaDoorTie
import Derived.Test.YtelioljmhlabjaaDoorLawOrders
import Derived.ProofKit
import Derived.OpenShut
import Derived.Deep.DeepHandedRow
import Derived.Deep.Slices
import Derived.SizedLaws
import Derived.Lib.LaidTab
namespace Go.Proofs.YtelioljmhlabjaaDoor
open Go.ChangeShapes Go.WideShapes Go.ChangeAt Go.RowKit
set_option maxRecDepth 100000

theorem own : ownKnob Tryd.prog.godebug = none := by kernel_rfl
theorem gTab : Tryd.prog.globalNamed "math/bits.deBruijn64tab" = some 0 := by kernel_rfl
theorem gTabType : (Tryd.prog.globals[0]?).map (·.type) = some 122 := by kernel_rfl
theorem cells122 : Tryd.prog.cellsOf 122 = 64 := by kernel_rfl
theorem cells5 : Tryd.prog.cellsOf 5 = 1 := by kernel_rfl
theorem cells3 : Tryd.prog.cellsOf 3 = 1 := by kernel_rfl
theorem cells34 : Tryd.prog.cellsOf 34 = 2 := by kernel_rfl
theorem bytes34 : Tryd.prog.bytesOf 34 = 16 := by kernel_rfl
theorem bytes3 : Tryd.prog.bytesOf 3 = 8 := by kernel_rfl
theorem laidOut : laidOutB Tryd.prog = true := by kernel_rfl

/-- The list that every row of this seat has. -/
def theLaid : List (String × DataW Unit) := [("math/bits.deBruijn64tab", Rows.laid_math_bits_deBruijn64tab)]

theorem tab_of_laid {W : World} (h : laidMetH Tryd.prog theLaid W) : Tab W := by
  have ht : Lib.TabIs Tryd.prog W "math/bits.deBruijn64tab" .u8 (Lib.deBruijn64tab.map fun n : Nat => (n : Int)) :=
    Lib.tabIs_of_head (rest := []) gTab gTabType Tryd.underlying122 Tryd.underlying5 cells5 cells122 h
  have hc : ∀ k, k < 64 → W.cell? ⟨0, k, none⟩ = some (.int .u8 (Lib.deBruijn64tab.getD k 0 : Nat)) := fun k hk => by
    have := ht.cell gTab k (by simpa [Lib.deBruijn64tab] using hk)
    rw [this]
    have hl : k < Lib.deBruijn64tab.length := hk
    simp [List.getD, hl]
  exact ⟨World.block_lt_of_cell? W ⟨0, 0, none⟩ (hc 0 (by decide)), hc⟩

section
variable {H : Type} {enc : TypeId × Value → H} {W : World}

/-- A pair, read. -/
theorem pair_of_trod {base : Nat} {sp : Nat → Bool} {held : Bool} {fuel : Nat} {cs : List Value} {x : DataW H × List MemPlace} (h : DataW.trod enc Tryd.prog W base sp held fuel 34 cs = some x) : ∃ a b : Int, cs = [.int .i64 a, .int .i64 b] := by
  obtain ⟨xs, m, _, _, hl, hn, hx⟩ := DataW.trod_array Tryd.underlying34 h
  rw [cells34] at hl
  rw [cells3] at hx
  match cs, hl with
  | [c0, c1], _ =>
    have h0 := hx 0 (by decide)
    have h1 := hx 1 (by decide)
    have g0 : ∃ y, xs[0]? = some y := ⟨xs[0], List.getElem?_eq_getElem (by omega)⟩
    have g1 : ∃ y, xs[1]? = some y := ⟨xs[1], List.getElem?_eq_getElem (by omega)⟩
    obtain ⟨y0, g0⟩ := g0
    obtain ⟨y1, g1⟩ := g1
    rw [g0] at h0
    rw [g1] at h1
    obtain ⟨a, e0, _⟩ := DataW.trod_int Tryd.underlying3 h0
    obtain ⟨b, e1, _⟩ := DataW.trod_int Tryd.underlying3 h1
    simp at e0 e1
    exact ⟨a, b, by rw [e0, e1]⟩

theorem addr_plain {a : Addr} {v : Value} (h : W.cell? a = some v) : a = ⟨a.block, a.off, none⟩ := by
  cases a with
  | mk b o s =>
    cases s with
    | none => rfl
    | some s =>
      exfalso
      unfold World.cell? at h
      split at h <;> simp at h

/-- A slice of pairs that came in. -/
theorem open_pairs {b0 : Nat} {v : Value} {d : DataW H} {ps : List MemPlace} {j : Nat} {ts : List TypeId} {ds : List (DataW H)} (hval : Value.okWide Tryd.prog W .any b0 22 v) (h : DataW.Trod enc Tryd.prog W 0 (fun _ => true) true 22 v d ps)
    (hsz : (DataW.weightsEach Tryd.prog ts ds).all (· ≤ reachBytes) = true) (hts : ts[j]? = some 22) (hds : ds[j]? = some d) : ∃ es : List (Int × Int), PairsAt W v es := by
  obtain ⟨a0, len, cap, rfl⟩ := okWide_slice Tryd.underlying22 hval
  obtain ⟨fuel, hf⟩ := h
  rcases Deep.open_slice Tryd.underlying22 hf with ⟨hcs, hx⟩ | ⟨a, len', cap', m, n, D, Pl, hcs, _, hl, hm, hmm, hx, hel⟩
  · simp [Value.cells] at hcs
    obtain ⟨rfl, rfl, rfl⟩ := hcs
    exact ⟨[], PairsAt.nil W⟩
  · simp [Value.cells] at hcs
    obtain ⟨rfl, rfl, rfl⟩ := hcs
    simp only [if_true] at hmm
    subst hmm
    simp only [Prod.mk.injEq] at hx
    obtain ⟨rfl, _⟩ := hx
    have hr := sized_slice hsz hts hds Tryd.underlying22
    rw [bytes34] at hr
    simp only [List.length_map, List.length_range, reachBytes] at hr
    have each : ∀ i, i < m → ∃ p : Int × Int, W.cell? (a.add (i * 2)) = some (.int .i64 p.1) ∧ W.cell? ((a.add (i * 2)).add 1) = some (.int .i64 p.2) := by
      intro i hi
      obtain ⟨cs', h1, h2⟩ := hel i hi
      obtain ⟨x, y, rfl⟩ := pair_of_trod h2
      rw [cells34] at h1
      obtain ⟨_, _, h3⟩ := World.cells?_some h1
      exact ⟨(x, y), by have := h3 0 (by decide); simpa [Addr.add] using this, by simpa using h3 1 (by decide)⟩
    obtain ⟨f, hf2⟩ := Deep.choose_lt each
    refine ⟨(List.range len).map f, some a, m, by simp, by simp; omega, ⟨by simpa using hl, by unfold maxLen at hm; omega, fun e => by cases e⟩, fun hne => ?_⟩
    have hlen : 0 < len := by
      cases len with
      | zero => simp at hne
      | succ n => omega
    have h0 := hf2 0 (by omega)
    have ea := addr_plain (by simpa [Addr.add] using h0.1 : W.cell? a = some _)
    refine ⟨a.block, a.off, by rw [ea], World.block_lt_of_cell? W a (by simpa [Addr.add] using h0.1), fun i hi => ?_⟩
    have hi' : i < len := by simpa using hi
    have h1 := hf2 i (by omega)
    have e1 : ((List.range len).map f).getD i (0, 0) = f i := by simp [List.getD, hi']
    rw [e1]
    rw [ea, Addr.add_lit, Addr.add_lit] at h1
    exact h1

/-- A slice of ints that came in. -/
theorem open_intsAt {b0 : Nat} {v : Value} {d : DataW H} {ps : List MemPlace} {j : Nat} {ts : List TypeId} {ds : List (DataW H)} (hval : Value.okWide Tryd.prog W .any b0 26 v) (h : DataW.Trod enc Tryd.prog W 0 (fun _ => true) true 26 v d ps)
    (hsz : (DataW.weightsEach Tryd.prog ts ds).all (· ≤ reachBytes) = true) (hts : ts[j]? = some 26) (hds : ds[j]? = some d) : ∃ xs : List Int, IntsAt W v xs := by
  obtain ⟨a0, len, cap, rfl⟩ := okWide_slice Tryd.underlying26 hval
  obtain ⟨fuel, hf⟩ := h
  rcases open_ints Tryd.underlying26 Tryd.underlying3 cells3 hf with ⟨hcs, hx⟩ | ⟨a, len', cap', zs, hcs, _, hl, hm, hz, hx, hcell, _⟩
  · simp [Value.cells] at hcs
    obtain ⟨rfl, rfl, rfl⟩ := hcs
    exact ⟨[], IntsAt.nil W⟩
  · simp [Value.cells] at hcs
    obtain ⟨rfl, rfl, rfl⟩ := hcs
    simp only [if_true] at hz
    simp only [Prod.mk.injEq] at hx
    obtain ⟨rfl, _⟩ := hx
    have hr := sized_slice hsz hts hds Tryd.underlying26
    rw [bytes3] at hr
    simp only [lits, List.length_map, List.length_take, List.length_drop, reachBytes] at hr
    refine ⟨zs.take len, some a, cap, by simp [Nat.min_eq_left (show len ≤ zs.length by omega)], by simp; omega, ⟨by simp; omega, by unfold maxLen at hm; omega, fun e => by cases e⟩, fun hne => ?_⟩
    have hlen : 0 < len := by
      cases len with
      | zero => simp at hne
      | succ n => omega
    have h0 := hcell 0 (by omega)
    have ea := addr_plain (by simpa [Addr.add] using h0 : W.cell? a = some _)
    refine ⟨a.block, a.off, by rw [ea], World.block_lt_of_cell? W a (by simpa [Addr.add] using h0), fun i hi => ?_⟩
    have hi' : i < len := by simp at hi; omega
    have h1 := hcell i (by omega)
    have e1 : (zs.take len).getD i 0 = zs.getD i 0 := by simp [List.getD, hi']
    rw [e1]
    rw [ea, Addr.add_lit] at h1
    exact h1
end

/-- The arguments read behind the call as before it. -/
theorem trodAll_below {H : Type} {enc : TypeId × Value → H} {W W' : World} (hb : Below W.heap.size W W') : ∀ (ts : List TypeId) (vs : List Value) (ds : List (DataW H)) (ps : List MemPlace),
    (∀ t ∈ ts, Tryd.prog.readableRec t = true ∧ t < Tryd.prog.types.size) → DataW.TrodAll enc Tryd.prog W 0 (fun _ => true) true ts vs ds ps → (∀ x ∈ ps, x.block < W.heap.size) →
    DataW.TrodAll enc Tryd.prog W' 0 (fun b => decide (b < W.heap.size)) true ts vs ds ps
  | [], [], [], _, _, h, _ => h
  | t :: ts, v :: vs, d :: ds, ps, hr, h, hlt => by
    obtain ⟨p, q, h1, h2, rfl⟩ := h
    exact ⟨p, q, Below.trod laidOut (hr t (by simp)).1 (hr t (by simp)).2 h1 hb (fun x hx => hlt x (by simp [hx])), trodAll_below hb ts vs ds q (fun t ht => hr t (by simp [ht])) h2 (fun x hx => hlt x (by simp [hx])), rfl⟩
  | [], _ :: _, _, _, _, h, _ => h.elim
  | [], [], _ :: _, _, _, h, _ => h.elim
  | _ :: _, [], _, _, _, h, _ => h.elim
  | _ :: _, _ :: _, [], _, _, h, _ => h.elim

/-- What a law's row asks behind the call. -/
theorem law_post {H : Type} {enc : TypeId × Value → H} {f : Func} {s : ChangeSpec} {W W' : World} {args : Array Value} {ds gs : List (DataW H)} {before : List MemPlace}
    (hW : DataW.Whole enc Tryd.prog f.params.toList s.vars false W args.toList ds gs before) (hvars : s.vars = []) (hres : f.resultTypes = #[4])
    (hr : ∀ t ∈ f.params.toList, Tryd.prog.readableRec t = true ∧ t < Tryd.prog.types.size)
    (hs : (s.fn H (ds ++ [])).results = [.lit (.bool true)] ∧ (s.fn H (ds ++ [])).args = ds ∧ (s.fn H (ds ++ [])).vars = [])
    (hb : Below W.heap.size W W') : s.post enc Tryd.prog f false true false false W args (.bool true) W' := by
  have hW' := hW
  obtain ⟨p, q, hA, hV, rfl, hfz, hnd⟩ := hW
  rw [hvars] at hV
  obtain ⟨rfl, rfl⟩ := trodVars_none hV
  have hlt : ∀ x ∈ p, x.block < W.heap.size := fun x hx => by simpa using hW'.lt x (by simp [hx])
  refine ⟨ds, [], _, [], p, [], hW', ?_, ?_, ?_, hb.frame _, fun h => by cases h⟩
  · rw [hs.1, hres]
    exact trodAll_cons_mk (shut_bool Tryd.underlying4 true) trodAll_mk0
  · rw [hs.2.1]
    exact trodAll_below hb _ _ _ _ hr hA hlt
  · rw [hs.2.2, hvars]; exact rfl

/-- A world for the witness: the settled one, the table (block 0) holding what its initialiser lays. -/
noncomputable def laidWorld (os : Os) : World :=
  { World.holding Tryd.prog os ⟨#[], #[], []⟩ with heap := (World.holding Tryd.prog os ⟨#[], #[], []⟩).heap.modify 0 fun
      | .cells _ t frozen => .cells (Lib.deBruijn64tab.map fun n : Nat => Value.int .u8 (n : Int)).toArray t frozen
      | o => o }

end Go.Proofs.YtelioljmhlabjaaDoor
