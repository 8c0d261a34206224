/- The planner in memory: its four maps with keys that are texts, its steps and edges; what stays. No walk. -/
import Derived.Test.YtnjbdedmalpccaaDoorPnB
namespace Go.Proofs.YtnjbdedmalpccaaDoor
open Go.RowKit
open Go.Maps (Keyed)
set_option maxRecDepth 100000

theorem keyT : Keyed Tryd.prog 9 := Maps.string_keyed Tryd.underlying9
def klS (t : S8) : Lit := .string t
theorem fit_size {x : S8} (hx : fitS x) : (ByteArray.mk x.toArray).size ≤ maxLen := by
  show x.toArray.size ≤ maxLen
  unfold maxLen
  simpa using hx
theorem keyOf_str {t : S8} (h : fitS t) : keyOf Tryd.prog 9 (str t) = some (klS t) := by
  unfold keyOf
  rw [Tryd.underlying9]
  have := fit_size h
  simp [mapKey, Tryd.underlying9, klS, this]
theorem klS_inj {a b : S8} (h : klS a = klS b) : a = b := by
  unfold klS at h
  injection h
theorem isKeyS {t : S8} (h : fitS t) : WideAt.IsKeyLit (klS t) := keyT.key (keyOf_str h)

/-- Block b is a map whose elements, as they stand, f tells; of n entries at most. -/
def MapF (w : World) (b n : Nat) (f : S8 → Option Value) : Prop :=
  ∃ D, w.ownsMap Tryd.prog 9 heldR b n D ∧ ∀ t, fitS t → Maps.has D (klS t) = (f t).isSome ∧ ∀ v, f t = some v → ∀ z, D.atKey (klS t) z = .held v
def upd {α : Type} (f : S8 → Option α) (t : S8) (v : α) : S8 → Option α := fun x => if x = t then some v else f x
theorem MapF.made (w : World) : MapF (w.alloc (.map #[] 0)) w.heap.size 0 (fun _ => none) :=
  ⟨.map [], World.ownsMap_made w _ _ _, fun _ _ => ⟨rfl, fun v h => by cases h⟩⟩
theorem MapF.block {w : World} {b n : Nat} {f : S8 → Option Value} (h : MapF w b n f) : ∃ es clock, w.heap[b]? = some (.map es clock) := by
  obtain ⟨D, ⟨es, clock, hb, _⟩, _⟩ := h
  exact ⟨es, clock, hb⟩
theorem MapF.keep {w w' : World} {b n : Nat} {f : S8 → Option Value} (h : MapF w b n f) (hk : w'.heap[b]? = w.heap[b]?) : MapF w' b n f := by
  obtain ⟨D, ⟨es, clock, hb, r⟩, hf⟩ := h
  exact ⟨D, ⟨es, clock, hk.trans hb, r⟩, hf⟩
theorem MapF.look {w : World} {b n : Nat} {f : S8 → Option Value} (h : MapF w b n f) {M E : TypeId} (ht : Tryd.prog.underlying M = some (.map 9 E)) {z : Value} (hz : ∀ w, (zeroValue E).run Tryd.prog w = .ok z w) {t : S8} (ft : fitS t) :
    (Instr.lookup M (.map (some b)) (str t) false).run Tryd.prog w = .ok ((f t).getD z) w ∧ (Instr.lookup M (.map (some b)) (str t) true).run Tryd.prog w = .ok (.tuple #[(f t).getD z, .bool (f t).isSome]) w := by
  obtain ⟨D, hD, hf⟩ := h
  obtain ⟨f1, f2⟩ := hf t ft
  have key : ∀ v, D.atKey (klS t) (.held z) = .held v → v = (f t).getD z := fun v hv => by
    cases hft : f t with
    | some u =>
      rw [f2 u hft] at hv
      injection hv with hv
      exact hv.symm
    | none =>
      have : Maps.has D (klS t) = false := by rw [f1, hft]; rfl
      rw [Maps.atKey_of_not_has this] at hv
      injection hv with hv
      exact hv.symm
  constructor
  · obtain ⟨v, ps, hr, hv⟩ := hD.lookup keyT ht (hz w) (zd := .held z) (zp := []) rfl (keyOf_str ft)
    unfold heldR at hv
    have hv := congrArg Prod.fst (Option.some.inj hv)
    rw [hr, key v hv.symm]
  · obtain ⟨v, ps, hr, hv⟩ := hD.look_ok keyT ht (hz w) (zd := .held z) (zp := []) rfl (keyOf_str ft)
    unfold heldR at hv
    have hv := congrArg Prod.fst (Option.some.inj hv)
    rw [hr, key v hv.symm, f1]
/-- Only block b turns. -/
structure OnlyM (b : Nat) (w w' : World) : Prop where
  os : w'.os = w.os
  tape : w'.tape = w.tape
  output : w'.output = w.output
  size : w.heap.size ≤ w'.heap.size
  block : ∀ k, k < w.heap.size → k ≠ b → w'.heap[k]? = w.heap[k]?
theorem OnlyM.below {b B : Nat} {w w' : World} (h : OnlyM b w w') (hb : B ≤ b) (hB : B ≤ w.heap.size) : Below B w w' := ⟨h.os, h.tape, h.output, h.size, fun k hk => h.block k (by omega) (by omega)⟩
theorem MapF.store {w : World} {b n : Nat} {f : S8 → Option Value} (h : MapF w b n f) {M E : TypeId} (ht : Tryd.prog.underlying M = some (.map 9 E)) (hn : n < maxLen) {t : S8} (ft : fitS t) (v : Value) :
    ∃ w', (Instr.mapUpdate M (.map (some b)) (str t) v).run Tryd.prog w = .ok () w' ∧ MapF w' b (n + 1) (upd f t v) ∧ OnlyM b w w' := by
  obtain ⟨D, hD, hf⟩ := h
  obtain ⟨w', hr, hm, ht'⟩ := hD.store keyT ht hn (keyOf_str ft) (val := v) (d := .held v) (ps := []) rfl
  refine ⟨w', hr, ⟨_, hm, fun x fx => ?_⟩, ?_⟩
  · unfold upd
    by_cases e : x = t
    · subst e
      rw [if_pos rfl]
      refine ⟨by rw [Maps.has_put_same hD.isMap (isKeyS fx)]; rfl, fun u hu z => ?_⟩
      cases hu
      exact Maps.atKey_put_same hD.isMap (isKeyS fx) _ _
    · rw [if_neg e]
      have hne : klS x ≠ klS t := fun h => e (klS_inj h)
      refine ⟨by rw [Maps.has_put_other hne]; exact (hf x fx).1, fun u hu z => ?_⟩
      rw [Maps.atKey_put_other hne]
      exact (hf x fx).2 u hu z
  · have hg := ht'.grown
    exact ⟨hg.os, hg.tape, hg.output, hg.size, fun k hk hne => hg.block k hk (fun e => hne (Option.some.inj e))⟩

/-- A store into a map, by an equation on its run. -/
theorem wpList_mapUpdate_eq {P : Program} (w : World) {ops : Array Oper} {rest : List Oper} {o : Oper} {a : Act} {Q : Exit → Act → World → Prop}
    (hg : o.guard = none) (m x v : Operand) (t : TypeId) (hop : o.op = Op.mapUpdate t m x v) (mv key val : Value) (hm : a.eval m = mv) (hx : a.eval x = key) (hv : a.eval v = val) {w' : World}
    (hrun : (Instr.mapUpdate t mv key val).run P w = .ok () w') (hK : wpList P ops Q rest (a.put o.dst undef) w') : wpList P ops Q (o :: rest) a w := by
  refine wpList_plain hg fun K' hK' => ?_
  unfold Oper.wp
  simp [execOp, hop, hm, hx, hv, hrun, Result.andThen]
  exact hK' _ _ hK

/-- A step; a record as the planner's map holds it. -/
structure StepT where
  op : Int
  addr : S8
  typ : S8
  id : S8
  swap : Bool
deriving DecidableEq
def stepC (s : StepT) : List Value := [.int .i64 s.op, str s.addr, str s.typ, str s.id, .bool s.swap]
def stepV (s : StepT) : Value := .agg #[.int .i64 s.op, str s.addr, str s.typ, str s.id, .bool s.swap]
def stepsC (ss : List StepT) : List Value := ss.flatMap stepC
theorem stepsC_snoc (ss : List StepT) (s : StepT) : stepsC (ss ++ [s]) = stepsC ss ++ stepC s := by simp [stepsC]
structure RecT where
  addr : S8
  typ : S8
  id : S8
  k : Int
  f : Bool
  tx : S8
  ai : Option Addr
  ni : Nat
  ci : Nat
  ak : Option Addr
  nk : Nat
  ck : Nat
  ad : Option Addr
  nd : Nat
  cd : Nat
def recC (r : RecT) : List Value := [str r.addr, str r.typ, str r.id, .int .i64 r.k, .bool r.f, str r.tx, .slice r.ai r.ni r.ci, .slice r.ak r.nk r.ck, .slice r.ad r.nd r.cd]
def recV (r : RecT) : Value := .agg #[str r.addr, str r.typ, str r.id, .int .i64 r.k, .bool r.f, str r.tx, .slice r.ai r.ni r.ci, .slice r.ak r.nk r.ck, .slice r.ad r.nd r.cd]
def rec0 : RecT := ⟨[], [], [], 0, false, [], none, 0, 0, none, 0, 0, none, 0, 0⟩

/-- The planner, plainly. -/
structure PS where
  act : S8 → Option Int
  rcd : S8 → Option RecT
  steps : List StepT
  mak : S8 → Option Nat
  rem : S8 → Option Nat
  edges : List (Int × Int)
def PS.made (S : PS) (t : S8) : Nat := (S.mak t).getD 0
def PS.gone (S : PS) (t : S8) : Nat := (S.rem t).getD 0
def PS.make (S : PS) (s : StepT) : PS := { S with steps := S.steps ++ [s], mak := upd S.mak s.addr (S.steps.length + 1) }
def PS.remove (S : PS) (r : RecT) (s : StepT) : PS := { S with steps := S.steps ++ [{ s with op := 5, typ := r.typ, id := r.id }], rem := upd S.rem r.addr (S.steps.length + 1) }
def PS.ahead (S : PS) (a b : Nat) : PS := if 0 < a ∧ 0 < b then { S with edges := S.edges ++ [((a : Int) - 1, (b : Int) - 1)] } else S

/-- The planner that p points to: all its blocks lie from B on; its maps hold N entries at most. -/
def PnIn (B N : Nat) (w : World) (p : Nat) (S : PS) (a r m v : Nat) (vs ve : Value) : Prop :=
  w.heap[p]? = some (.cells #[.map (some a), .map (some r), vs, .map (some m), .map (some v), ve] 63 (0, 0)) ∧
    (B ≤ p ∧ B ≤ a ∧ B ≤ r ∧ B ≤ m ∧ B ≤ v) ∧ (a ≠ r ∧ a ≠ m ∧ a ≠ v ∧ r ≠ m ∧ r ≠ v ∧ m ≠ v) ∧
    MapF w a N (fun t => (S.act t).map fun i => .int .i64 i) ∧ MapF w r N (fun t => (S.rcd t).map recV) ∧ MapF w m N (fun t => (S.mak t).map fun i : Nat => .int .i64 (i : Int)) ∧ MapF w v N (fun t => (S.rem t).map fun i : Nat => .int .i64 (i : Int)) ∧
    w.ownsRow B 53 5 vs S.steps.length (stepsC S.steps) ∧ w.ownsRow B 56 2 ve S.edges.length (pairCells S.edges)
structure PnAt (B N : Nat) (w : World) (p : Nat) (S : PS) : Prop where
  at' : ∃ (a r m v : Nat) (vs ve : Value), PnIn B N w p S a r m v vs ve

theorem mapA : Tryd.prog.underlying 59 = some (.map 9 38) := Tryd.underlying59
theorem mapR : Tryd.prog.underlying 60 = some (.map 9 37) := Tryd.underlying60
theorem mapI : Tryd.prog.underlying 61 = some (.map 9 3) := Tryd.underlying61
theorem zeroA (w : World) : (zeroValue 38).run Tryd.prog w = .ok (.int .i64 0) w := by kernel_rfl
theorem zeroI (w : World) : (zeroValue 3).run Tryd.prog w = .ok (.int .i64 0) w := by kernel_rfl
theorem zeroR (w : World) : (zeroValue 37).run Tryd.prog w = .ok (recV rec0) w := by kernel_rfl

theorem MapF.more {w : World} {b n n' : Nat} {f : S8 → Option Value} (h : MapF w b n f) (hn : n ≤ n') : MapF w b n' f := by
  obtain ⟨D, hD, hf⟩ := h
  exact ⟨D, hD.mono hn, hf⟩
theorem PnAt.more {B N N' : Nat} {w : World} {p : Nat} {S : PS} (h : PnAt B N w p S) (hN : N ≤ N') : PnAt B N' w p S := by
  obtain ⟨a, r, m, v, vs, ve, h1, h2, h3, h4, h5, h6, h7, h8, h9⟩ := h.at'
  exact ⟨a, r, m, v, vs, ve, h1, h2, h3, h4.more hN, h5.more hN, h6.more hN, h7.more hN, h8, h9⟩
theorem PnIn.below {B N : Nat} {w w' : World} {p : Nat} {S : PS} {a r m v : Nat} {vs ve : Value} (h : PnIn B N w p S a r m v vs ve) (hb : Below w.heap.size w w') : PnIn B N w' p S a r m v vs ve := by
  obtain ⟨h1, h2, h3, h4, h5, h6, h7, h8, h9⟩ := h
  have k : ∀ {b n : Nat} {f : S8 → Option Value}, MapF w b n f → MapF w' b n f := fun h => by
    obtain ⟨es, clock, hh⟩ := h.block
    exact h.keep (hb.block _ (heap_lt hh))
  refine ⟨(hb.block _ (heap_lt h1)).trans h1, h2, h3, k h4, k h5, k h6, k h7, row_keep h8 fun q hq => ?_, row_keep h9 fun q hq => ?_⟩
  · obtain ⟨_, hh⟩ := row_block h8 hq
    exact hb.block q (heap_lt hh)
  · obtain ⟨_, hh⟩ := row_block h9 hq
    exact hb.block q (heap_lt hh)
theorem PnAt.below {B N : Nat} {w w' : World} {p : Nat} {S : PS} (h : PnAt B N w p S) (hb : Below w.heap.size w w') : PnAt B N w' p S := by
  obtain ⟨a, r, m, v, vs, ve, h⟩ := h.at'
  exact ⟨a, r, m, v, vs, ve, h.below hb⟩
theorem PnAt.lt {B N : Nat} {w : World} {p : Nat} {S : PS} (h : PnAt B N w p S) : B ≤ w.heap.size := by
  obtain ⟨a, r, m, v, vs, ve, h1, h2, _⟩ := h.at'
  have := heap_lt h1
  omega

/-- What is no part of a planner stays. -/
def Aside2 (w w' : World) : Prop := ∀ (k : Nat) (cs : Array Value) (T : TypeId) (fz : Nat × Nat), w.heap[k]? = some (.cells cs T fz) → T ≠ 63 → T ≠ 53 → T ≠ 56 → w'.heap[k]? = w.heap[k]?
theorem Aside2.refl (w : World) : Aside2 w w := fun _ _ _ _ _ _ _ _ => rfl
theorem Aside2.trans {a b c : World} (h : Aside2 a b) (k : Aside2 b c) : Aside2 a c := fun q cs T fz hq h1 h2 h3 => by
  have e := h q cs T fz hq h1 h2 h3
  exact (k q cs T fz (e.trans hq) h1 h2 h3).trans e
theorem Aside2.of_below {w w' : World} (h : Below w.heap.size w w') : Aside2 w w' := fun q _ _ _ hq _ _ _ => h.block q (heap_lt hq)
theorem OnlyM.aside2 {b : Nat} {w w' : World} (h : OnlyM b w w') (hm : ∃ es clock, w.heap[b]? = some (.map es clock)) : Aside2 w w' := fun q cs T fz hq _ _ _ => h.block q (heap_lt hq) fun e => by
  obtain ⟨es, clock, hb⟩ := hm
  rw [e, hb] at hq
  cases hq

end Go.Proofs.YtnjbdedmalpccaaDoor
