/- Plain: what WorldOwn's loops hold: values that are spoilt one by one, a clone beside the world. No walk. Keys and items appended by turns to an object of the call's own: one append as a step of a region that draws. -/
import Derived.Test.YtpbipngnoklmcaaGreatDoorNewO
import Derived.Test.YtpbipngnoklmcaaGreatDoorMWldPl
import Derived.Test.YtpbipngnoklmcaaGreatDoorMWldAw
import Derived.Test.YtpbipngnoklmcaaGreatDoorMWldQ
import Derived.Test.YtpbipngnoklmcaaGreatDoorMSpoilW
import Derived.Test.YtpbipngnoklmcaaGreatDoorValE
import Derived.Test.YtpbipngnoklmcaaGreatDoorMValK
import Derived.Test.YtpbipngnoklmcaaGreatDoorMStepA
import Derived.Deep.RegionLaw
import Derived.Shelf.RegionOpenPlain
namespace Go.Proofs.YtpbipngnoklmcaaGreatDoor
open Go.RowKit
set_option maxRecDepth 100000

/-- A world all of whose blocks are new stays while older ones are written. -/
theorem WAt.older {w w' : World} {p b n : Nat} {S : WS} {val : S8 → S8 → Value} {vf vt : Value} {D : DataW Value} {B : Nat} {X : List Nat} (h : WAt w p b n S val vf vt D) (hF : ∀ q ∈ wF p b vt, B ≤ q) (hV : ValsNew B w S.objs val) (hf : ∀ q, vf.ownBlock = some q → B ≤ q) (hs : Spares X w w') (hX : ∀ q ∈ X, q < B) :
    WAt w' p b n S val vf vt D := by
  have k : ∀ {q : Nat} {o : Obj}, w.heap[q]? = some o → B ≤ q → w'.heap[q]? = w.heap[q]? := fun {q o} hq hB => hs.block q (heap_lt hq) fun hm => by
    have := hX q hm
    omega
  refine ⟨(k h.box (hF p (by simp [wF]))).trans h.box, map_keep h.map ?_, h.rel, h.ris, h.fit, fun o ho => ?_, row_keep h.fails fun q hq => ?_, row_keep h.trace fun q hq => ?_⟩
  · obtain ⟨es, clock, hb⟩ := map_block h.map
    exact k hb (hF b (by simp [wF]))
  · obtain ⟨F, hO, hn⟩ := hV o ho
    exact ⟨(h.vals o ho).1, F, hO.keep fun q hq => hs.block q (hO.lt q hq) fun hm => by
      have := hX q hm
      have := hn q hq
      omega⟩
  · obtain ⟨_, hh⟩ := row_block h.fails hq
    exact k hh (hf q hq)
  · obtain ⟨_, hh⟩ := row_block h.trace hq
    exact k hh (hF q (by simp [wF, hq]))
theorem ValsNew.older {B : Nat} {w w' : World} {l : List O3} {val : S8 → S8 → Value} {X : List Nat} (h : ValsNew B w l val) (hs : Spares X w w') (hX : ∀ q ∈ X, q < B) : ValsNew B w' l val := fun o ho => by
  obtain ⟨F, hO, hn⟩ := h o ho
  exact ⟨F, hO.keep fun q hq => hs.block q (hO.lt q hq) fun hm => by
    have := hX q hm
    have := hn q hq
    omega, hn⟩

/-- A row of objects whose values are spoilt one by one: i are done. -/
structure SpR (w0 : World) (v : Value) (rs : List R3) (F : List Nat) (i : Nat) (wr : World) : Prop where
  sp : Spares F w0 wr
  row : wr.ownsRow 0 47 7 v rs.length (rowC rs)
  vals : ∃ H, OwnVals wr ((rs.map fun r => r.1.2.2).drop i) ((rs.map rV).drop i) H ∧ H.Nodup ∧ ∀ q ∈ H, q ∈ F
theorem ObjL.spoils {w0 w : World} {rs : List R3} {v : Value} {F : List Nat} (h : ObjL w0 rs v F w) : SpR w v rs F 0 w :=
  ⟨Spares.refl _ _, row_zero h.1, F, h.2.1, h.2.2.1, fun _ hq => hq⟩
theorem SpR.stays {w0 wr w' : World} {v : Value} {rs : List R3} {F : List Nat} {i : Nat} (h : SpR w0 v rs F i wr) (hb : Below wr.heap.size wr w') : SpR w0 v rs F i w' := by
  obtain ⟨H, h1, h2, h3⟩ := h.vals
  refine ⟨h.sp.trans (Spares.of_below hb), row_keep h.row fun q hq => ?_, H, h1.keep fun q hq => hb.block q (h1.lt q hq), h2, h3⟩
  obtain ⟨_, hh⟩ := row_block h.row hq
  exact hb.block q (heap_lt hh)
/-- The next value, in memory of its own; what its spoiling leaves. -/
theorem SpR.next {w0 wr : World} {v : Value} {rs : List R3} {F : List Nat} {i : Nat} {r : R3} (h : SpR w0 v rs F i wr) (hr : rs[i]? = some r) (_hF : ∀ q ∈ F, q < w0.heap.size) :
    ∃ G, OwnVal wr r.1.2.2 (rV r) G ∧ G.Nodup ∧ ∀ w', Spares G wr w' → SpR w0 v rs F (i + 1) w' := by
  obtain ⟨H, h1, h2, h3⟩ := h.vals
  obtain ⟨hi, he⟩ := List.getElem?_eq_some_iff.1 hr
  have hi1 : i < (rs.map fun r => r.1.2.2).length := by rw [List.length_map]; exact hi
  have hi2 : i < (rs.map rV).length := by rw [List.length_map]; exact hi
  rw [List.drop_eq_getElem_cons hi1, List.drop_eq_getElem_cons hi2] at h1
  obtain ⟨x, ys, Fx, Fr, e1, rfl, o1, o2⟩ := h1.head
  injection e1 with e1 e2
  rw [← e1, List.getElem_map, List.getElem_map, he] at o1
  rw [List.nodup_append] at h2
  obtain ⟨d1, d2, d3⟩ := h2
  refine ⟨Fx, o1, d1, fun w' hs => ⟨h.sp.trans (hs.sub fun q hq _ => h3 q (by simp [hq])), row_keep h.row fun q hq => ?_, Fr, ?_, d2, fun q hq => h3 q (by simp [hq])⟩⟩
  · obtain ⟨_, hh⟩ := row_block h.row hq
    refine hs.block q (heap_lt hh) fun hm => ?_
    obtain ⟨cs, fz, hk⟩ := own_kinds o1 q hm
    rcases hk with hk | hk <;> rw [hh] at hk <;> injection hk with hk <;> injection hk with _ e _
    · exact strNeO e.symm
    · exact valNeO e.symm
  · rw [e2]
    exact o2.keep fun q hq => hs.block q (o2.lt q hq) fun hm => d3 q hm q hq rfl

theorem failNeO : (52 : TypeId) ≠ 47 := by decide
theorem failNeS : (52 : TypeId) ≠ 9 := by decide
theorem failNeV : (52 : TypeId) ≠ 41 := by decide
/-- A row of rules may be written meanwhile. -/
theorem SpR.fail {w0 wr w' : World} {v : Value} {rs : List R3} {F : List Nat} {i q : Nat} {cs : Array Value} {fz : Nat × Nat} (h : SpR w0 v rs F i wr) (hb : wr.heap[q]? = some (.cells cs 52 fz)) (hs : Spares [q] wr w') : SpR w0 v rs (q :: F) i w' := by
  obtain ⟨H, h1, h2, h3⟩ := h.vals
  have ne : ∀ {k : Nat} {cs' : Array Value} {T : TypeId} {fz' : Nat × Nat}, wr.heap[k]? = some (.cells cs' T fz') → 52 ≠ T → w'.heap[k]? = wr.heap[k]? := fun {k cs' T fz'} hk hT => hs.block k (heap_lt hk) fun hm => by
    obtain rfl : k = q := by simpa using hm
    rw [hb] at hk
    injection hk with hk
    injection hk with _ e _
    exact hT e
  refine ⟨(h.sp.sub fun k hk _ => List.mem_cons_of_mem _ hk).trans (hs.sub fun k hk _ => by simp at hk; simp [hk]), row_keep h.row fun k hk => ?_, H, h1.keep fun k hk => ?_, h2, fun k hk => List.mem_cons_of_mem _ (h3 k hk)⟩
  · obtain ⟨_, hh⟩ := row_block h.row hk
    exact ne hh failNeO
  · obtain ⟨cs', fz', hh⟩ := owns_kinds h1 k hk
    rcases hh with hh | hh
    · exact ne hh failNeS
    · exact ne hh failNeV
/-- The trace's copy is written over. -/
def TrR (w : World) (P : Option Addr) (n : Nat) (wr : World) : Prop := Below w.heap.size w wr ∧ (n ≠ 0 → ∃ q cur, P = some ⟨q, 0, none⟩ ∧ w.heap.size ≤ q ∧ wr.heap[q]? = some (.cells cur 58 (0, 0)) ∧ n * 5 ≤ cur.size)
theorem TrR.start {w w' : World} {P : Option Addr} {n c : Nat} {cs : List Value} (h : w'.ownsRow w.heap.size 58 5 (.slice P n c) n cs) (hb : Below w.heap.size w w') : TrR w P n w' := by
  refine ⟨hb, fun hn => ?_⟩
  rcases h.2 with ⟨_, h0⟩ | ⟨g, c', cur, hv, hg, hh, g1, g2, g3, g4⟩
  · exact absurd h0 hn
  · injection hv with e1 e2 e3
    refine ⟨g, cur, e1, hg, hh, ?_⟩
    rw [g3]
    exact Nat.mul_le_mul_right 5 g1
theorem TrR.cell {w wr : World} {P : Option Addr} {n k : Nat} (h : TrR w P n wr) (hk : k < n) : ∃ q u, P = some ⟨q, 0, none⟩ ∧ w.heap.size ≤ q ∧ wr.cell? ⟨q, k * 5 + 1, none⟩ = some u ∧ wr.frozen? ⟨q, k * 5 + 1, none⟩ = false ∧ ∀ v, TrR w (some ⟨q, 0, none⟩) n (wr.setCell ⟨q, k * 5 + 1, none⟩ v) := by
  obtain ⟨hb, hc⟩ := h
  obtain ⟨q, cur, rfl, hq, hh, hs⟩ := hc (by omega)
  have hl : k * 5 + 1 < cur.size := by omega
  obtain ⟨r1, r2⟩ := row_cells hh hl
  refine ⟨q, _, rfl, hq, r1, r2, fun v => ⟨hb.setCell (p := ⟨q, k * 5 + 1, none⟩) hq v, fun _ => ⟨q, cur.setIfInBounds (k * 5 + 1) v, rfl, hq, setC hh _ _, by simpa using hs⟩⟩⟩

/-- What Read answered, in a box. -/
def RdZ (w : World) (x : VT) (q : Nat) (wc : World) : Prop := ∃ si sc sk sd F, wc.heap[q]? = some (.cells #[.int .i64 x.kind, .bool x.flag, str x.text, .slice si x.items.length sc, .slice sk x.keys.length sd] 41 (0, 0)) ∧ OwnVal wc x (.agg #[.int .i64 x.kind, .bool x.flag, str x.text, .slice si x.items.length sc, .slice sk x.keys.length sd]) F ∧ F.Nodup ∧ (∀ z ∈ F, w.heap.size ≤ z) ∧ Below w.heap.size w wc
theorem RdZ.put {w W : World} {x : VT} {q : Nat} {z0 z1 z2 z3 z4 : Value} {si sk : Option Addr} {sc sd : Nat} {F : List Nat} (hq : W.heap[q]? = some (.cells #[z0, z1, z2, z3, z4] 41 (0, 0))) (hO : OwnVal W x (.agg #[.int .i64 x.kind, .bool x.flag, str x.text, .slice si x.items.length sc, .slice sk x.keys.length sd]) F) (hn : F.Nodup) (hge : ∀ z ∈ F, w.heap.size ≤ z) (hF : q ∉ F) (hb : Below w.heap.size w W) (hwq : w.heap.size ≤ q) :
    RdZ w x q (((((W.setCell ⟨q, 0, none⟩ (.int .i64 x.kind)).setCell ⟨q, 1, none⟩ (.bool x.flag)).setCell ⟨q, 2, none⟩ (.string ⟨x.text.toArray⟩)).setCell ⟨q, 3, none⟩ (.slice si x.items.length sc)).setCell ⟨q, 4, none⟩ (.slice sk x.keys.length sd)) := by
  have hs : Spares [q] W (((((W.setCell ⟨q, 0, none⟩ (.int .i64 x.kind)).setCell ⟨q, 1, none⟩ (.bool x.flag)).setCell ⟨q, 2, none⟩ (.string ⟨x.text.toArray⟩)).setCell ⟨q, 3, none⟩ (.slice si x.items.length sc)).setCell ⟨q, 4, none⟩ (.slice sk x.keys.length sd)) :=
    ((((setC_spares W q 0 _).trans (setC_spares _ q 1 _)).trans (setC_spares _ q 2 _)).trans (setC_spares _ q 3 _)).trans (setC_spares _ q 4 _)
  refine ⟨si, sc, sk, sd, F, setC (setC (setC (setC (setC hq 0 _) 1 _) 2 _) 3 _) 4 _, hO.keep fun k hk => hs.block k (hO.lt k hk) fun hm => ?_, hn, hge, Below.spared hb hs hb.size fun k hk => ?_⟩
  · obtain rfl : k = q := by simpa using hm
    exact hF hk
  · obtain rfl : k = q := by simpa using hk
    exact hwq

theorem RdZ.made {w W : World} {x : VT} {si sk : Option Addr} {sc sd : Nat} {F : List Nat} (hO : OwnVal W x (.agg #[.int .i64 x.kind, .bool x.flag, str x.text, .slice si x.items.length sc, .slice sk x.keys.length sd]) F) (hn : F.Nodup) (hge : ∀ z ∈ F, w.heap.size ≤ z) (hb : Below w.heap.size w W) :
    RdZ w x W.heap.size (W.alloc (.cells #[.int .i64 x.kind, .bool x.flag, .string ⟨x.text.toArray⟩, .slice si x.items.length sc, .slice sk x.keys.length sd] 41)) :=
  ⟨si, sc, sk, sd, F, heap_alloc_new W _, hO.keep fun q hq => Below.heap_alloc _ _ q (hO.lt q hq), hn, hge, hb.alloc hb.size _⟩

/-- What WorldOwn's great loop holds: both worlds, the clone, and the document's world at the clone. -/
structure LpO (w wr : World) (p b g h i n : Nat) (S : WS) (val : S8 → S8 → Value) (vf vt : Value) (D : DataW Value) (m0 m1 m2 : Value) (ms : List R3) (p' b' n' : Nat) (S' : WS) (val' : S8 → S8 → Value) (vf' vt' : Value) (D' : DataW Value) (k0 k1 k2 : Value) (ks : List R3) : Prop where
  lp : LpI w wr p b g i n S val vf vt D m0 m1 m2 ms
  cl : WAt wr p' b' n' S' val' vf' vt' D'
  ref : RAt (wF p b vt ++ [g]) wr (.agg #[k0, k1, k2]) ks S'
  box : wr.heap[h]? = some (.cells #[k0, k1, k2] 32 (0, 0))
  hg : h ≠ g
  hF : h ∉ wF p b vt
  apart : ∀ q ∈ wF p' b' vt', q ∉ wF p b vt
  size : S'.objs.length ≤ 40 ∧ S'.trace = []
variable {w wr w' : World} {p b g h i n : Nat} {S : WS} {val : S8 → S8 → Value} {vf vt : Value} {D : DataW Value} {m0 m1 m2 : Value} {ms : List R3} {p' b' n' : Nat} {S' : WS} {val' : S8 → S8 → Value} {vf' vt' : Value} {D' : DataW Value} {k0 k1 k2 : Value} {ks : List R3}
theorem LpO.below (h0 : LpO w wr p b g h i n S val vf vt D m0 m1 m2 ms p' b' n' S' val' vf' vt' D' k0 k1 k2 ks) (hb : Below wr.heap.size wr w') : LpO w w' p b g h i n S val vf vt D m0 m1 m2 ms p' b' n' S' val' vf' vt' D' k0 k1 k2 ks :=
  ⟨h0.lp.below hb, h0.cl.below hb, h0.ref.below hb, (hb.block _ (heap_lt h0.box)).trans h0.box, h0.hg, h0.hF, h0.apart, h0.size⟩

theorem LpO.next {e : Ending} (h0 : LpO w wr p b g h i n S val vf vt D m0 m1 m2 ms p' b' n' S' val' vf' vt' D' k0 k1 k2 ks) (hp : Played [g] p b n S vf vt wr e w') :
    ∃ (ao : Option Addr) (co : Nat) (af : Option Addr) (cf : Nat) (at' : Option Addr) (ct : Nat) (ms1 : List R3) (S1 : WS) (n1 : Nat) (val1 : S8 → S8 → Value) (vt1 : Value) (D1 : DataW Value), e = .returned (.tuple #[.agg #[.slice ao ms1.length co, .slice af S1.fails.length cf, .slice at' S1.trace.length ct], .bool true]) ∧ w'.heap[g]? = some (.cells #[m0, m1, m2] 32 (0, 0)) ∧
      LpO w (((w'.setCell ⟨g, 0, none⟩ (.slice ao ms1.length co)).setCell ⟨g, 1, none⟩ (.slice af S1.fails.length cf)).setCell ⟨g, 2, none⟩ (.slice at' S1.trace.length ct)) p b g h (i + 1) n1 S1 val1 vf vt1 D1 (.slice ao ms1.length co) (.slice af S1.fails.length cf) (.slice at' S1.trace.length ct) ms1 p' b' n' S' val' vf' vt' D' k0 k1 k2 ks := by
  obtain ⟨m', ms1, S1, n1, val1, vt1, D1, rfl, hn, hg, hW, hR, hs, hF⟩ := hp
  obtain ⟨ao, co, af, cf, at', ct, rfl, _⟩ := hR.form
  have hbox : w'.heap[g]? = some (.cells #[m0, m1, m2] 32 (0, 0)) := (hs.block g (heap_lt h0.lp.box) h0.lp.out).trans h0.lp.box
  obtain ⟨wR, hwR, xR, _, _⟩ := put_box3 hbox (.slice ao ms1.length co) (.slice af S1.fails.length cf) (.slice at' S1.trace.length ct)
  have hsR := put3_spares w' g (.slice ao ms1.length co) (.slice af S1.fails.length cf) (.slice at' S1.trace.length ct)
  rw [← hwR] at hsR
  refine ⟨ao, co, af, cf, at', ct, ms1, S1, n1, val1, vt1, D1, rfl, hbox, ?_⟩
  rw [← hwR]
  have b1 := Below.spared h0.lp.bel hs h0.lp.bel.size h0.lp.new
  obtain ⟨t1, t2⟩ := hg
  have tl := h0.lp.tl
  have ol := h0.lp.ol
  have nl := h0.lp.nl
  have hlp : LpI w wR p b g (i + 1) n1 S1 val1 vf vt1 D1 (.slice ao ms1.length co) (.slice af S1.fails.length cf) (.slice at' S1.trace.length ct) ms1 := by
    refine ⟨hW.boxed hsR fun q hq => ?_, hR.step (hsR.sub fun q hq _ => List.mem_append.2 (.inr hq)) fun q hq => .inl hq, xR, Below.spared b1 hsR b1.size fun q hq => ?_, fun q hq => ?_, h0.lp.old, fun hq => ?_, by omega, by omega, by omega⟩
    · have : q = g := by simpa using hq
      rw [this]
      exact ⟨_, _, hbox⟩
    · have : q = g := by simpa using hq
      rw [this]
      exact h0.lp.old
    · rcases hF q hq with hq | hq
      · exact h0.lp.new q hq
      · exact Nat.le_trans h0.lp.bel.size hq
    · rcases hF g hq with hq | hq
      · exact h0.lp.out hq
      · exact Nat.lt_irrefl _ (Nat.lt_of_lt_of_le (heap_lt h0.lp.box) hq)
  have hsA : Spares (wF p b vt ++ [g]) wr wR := (hs.sub fun q hq _ => List.mem_append.2 (.inl hq)).trans (hsR.sub fun q hq _ => List.mem_append.2 (.inr hq))
  refine ⟨hlp, (h0.lp.wat.other h0.cl h0.apart hs).boxed hsR fun q hq => ?_, h0.ref.step hsA fun q hq => ?_, (hsA.block h (heap_lt h0.box) fun hm => ?_).trans h0.box, h0.hg, fun hq => ?_, fun q hq hm => ?_, h0.size⟩
  · have : q = g := by simpa using hq
    rw [this]
    exact ⟨_, _, hbox⟩
  · rcases List.mem_append.1 hq with hq | hq
    · exact (hF q hq).imp (fun h => List.mem_append.2 (.inl h)) id
    · exact .inl (List.mem_append.2 (.inr hq))
  · rcases List.mem_append.1 hm with hm | hm
    · exact h0.hF hm
    · exact h0.hg (by simpa using hm)
  · rcases hF h hq with hq | hq
    · exact h0.hF hq
    · exact Nat.lt_irrefl _ (Nat.lt_of_lt_of_le (heap_lt h0.box) hq)
  · rcases hF q hm with hm | hm
    · exact h0.apart q hq hm
    · exact Nat.lt_irrefl _ (Nat.lt_of_lt_of_le (h0.cl.lt q hq) hm)

end Go.Proofs.YtpbipngnoklmcaaGreatDoor
namespace Go.Proofs.YtpbipngnoklmcaaGreatDoor
open Go.RowKit
set_option maxRecDepth 100000


/-- An object of one's own (its cells at q): keys ks, items the values ts that were there in wv; its rows lie in memory newer than w0; of what was there in w0 its own cells alone have turned. -/
structure Acc (wv w0 : World) (q : Nat) (ks : List (List UInt8)) (ts : List VT) (vk vi : Value) (xs : List Value) (wr : World) : Prop where
  box : wr.heap[q]? = some (.cells #[.int .i64 6, .bool false, .string ⟨#[]⟩, vi, vk] 41 (0, 0))
  keys : wr.ownsRow w0.heap.size 9 1 vk ks.length (strV ks)
  items : wr.ownsRow w0.heap.size 41 5 vi ts.length (cellsV xs)
  len : xs.length = ts.length
  each : ∀ i (h : i < ts.length) (h' : i < xs.length), ValAt wv ts[i] xs[i]
  apart : ∀ a ∈ vk.ownBlock, ∀ b ∈ vi.ownBlock, a ≠ b
  keeps : Spares [q] w0 wr
  at_ : q < w0.heap.size

theorem Acc.size {wv w0 : World} {q : Nat} {ks : List (List UInt8)} {ts : List VT} {vk vi : Value} {xs : List Value} {wr : World} (h : Acc wv w0 q ks ts vk vi xs wr) : q < wr.heap.size := (Array.getElem?_eq_some_iff.1 h.box).1

/-- A value whose kind is 6 and that has these keys and items. -/
def objOf (ks : List (List UInt8)) (ts : List VT) : VT := .mk 6 false [] ts ks

theorem Acc.form {wv w0 : World} {q : Nat} {ks : List (List UInt8)} {ts : List VT} {vk vi : Value} {xs : List Value} {wr : World} (h : Acc wv w0 q ks ts vk vi xs wr) : ∃ ak ck ai ci, vk = .slice ak ks.length ck ∧ vi = .slice ai ts.length ci := by
  obtain ⟨ak, ck, e1, _⟩ := OwnS.form ⟨ownsRow_zero h.keys, rfl⟩
  obtain ⟨ai, ci, e2, _⟩ := OwnS.form ⟨ownsRow_zero h.items, rfl⟩
  exact ⟨ak, ck, ai, ci, e1, e2⟩
theorem ownsRow_keep {w w' : World} {base : Nat} {e : TypeId} {size : Nat} {v : Value} {n : Nat} {xs : List Value} (h : w.ownsRow base e size v n xs) (hk : ∀ b ∈ v.ownBlock, w'.heap[b]? = w.heap[b]?) : w'.ownsRow base e size v n xs := by
  refine ⟨h.1, ?_⟩
  rcases h.2 with h2 | ⟨g, cap, cur, rfl, hb, hg, r⟩
  · exact .inl h2
  · exact .inr ⟨g, cap, cur, rfl, hb, (hk g (by simp [Value.ownBlock])).trans hg, r⟩

theorem Acc.cell {wv w0 : World} {q : Nat} {ks : List (List UInt8)} {ts : List VT} {vk vi : Value} {xs : List Value} {wr : World} (h : Acc wv w0 q ks ts vk vi xs wr) {p : Addr} (hp : p.block < w0.heap.size) (hn : p.block ≠ q) : wr.cell? p = w0.cell? p := h.keeps.cell hp (by simp [hn])
theorem Acc.blk {wv w0 : World} {q : Nat} {ks : List (List UInt8)} {ts : List VT} {vk vi : Value} {xs : List Value} {wr : World} (h : Acc wv w0 q ks ts vk vi xs wr) {b : Nat} (hp : b < w0.heap.size) (hn : b ≠ q) : wr.heap[b]? = w0.heap[b]? := h.keeps.block b hp (by simp [hn])
theorem Acc.below {wv w0 : World} {q : Nat} {ks : List (List UInt8)} {ts : List VT} {vk vi : Value} {xs : List Value} {wr w : World} (h : Acc wv w0 q ks ts vk vi xs wr) (hb : Below w.heap.size w w0) (hq : w.heap.size ≤ q) : Below w.heap.size w wr :=
  Below.spared hb h.keeps hb.size (fun k hk => by simp at hk; omega)
theorem Spares.store {q o : Nat} {v : Value} {a b : World} (h : Spares [q] a b) : Spares [q] a (b.setCell ⟨q, o, none⟩ v) :=
  ⟨h.os, h.tape, h.output, by simpa [World.setCell] using h.size, fun k hk hn => by
    have hkq : k ≠ q := by simpa using hn
    have : (b.setCell ⟨q, o, none⟩ v).heap[k]? = b.heap[k]? := by simp [World.setCell, Array.getElem?_modify, Ne.symm hkq]
    exact this.trans (h.block k hk hn)⟩
/-- Behind an append to one row, and the store. -/
theorem acc_step {w0 wr wa w3 : World} {q : Nat} {v v' o : Value} (ha : Below wr.heap.size wr wa) (hg : wa.grownBy w3 v.ownBlock) (hv : v'.ownBlock = v.ownBlock ∨ v'.ownBlock = some wa.heap.size)
    (hvlt : ∀ b ∈ v.ownBlock, w0.heap.size ≤ b ∧ b < wr.heap.size) (holt : ∀ b ∈ o.ownBlock, w0.heap.size ≤ b ∧ b < wr.heap.size) (hap : ∀ a ∈ v.ownBlock, ∀ b ∈ o.ownBlock, a ≠ b) (hq : q < w0.heap.size) (hb : Spares [q] w0 wr) :
    w3.heap[q]? = wr.heap[q]? ∧ (∀ b ∈ o.ownBlock, w3.heap[b]? = wr.heap[b]?) ∧ (∀ a ∈ v'.ownBlock, ∀ b ∈ o.ownBlock, a ≠ b) ∧ Spares [q] w0 w3 := by
  have hs := ha.size
  have hs0 := hb.size
  have hk : ∀ b, b < wr.heap.size → b ∉ v.ownBlock → w3.heap[b]? = wr.heap[b]? := fun b hb1 hb2 => by
    rw [hg.block b (by omega) (fun e => hb2 (by rw [← e]; rfl))]
    exact ha.block b hb1
  refine ⟨hk q (by omega) fun hm => by have := (hvlt q hm).1; omega, fun b hb1 => hk b (holt b hb1).2 (fun hm => hap b hm b hb1 rfl), fun a ha' b hb' e => ?_, ?_⟩
  · rcases hv with hv | hv
    · rw [hv] at ha'; exact hap a ha' b hb' e
    · rw [hv] at ha'
      have : wa.heap.size = a := by simpa using ha'
      have := (holt b hb').2
      omega
  · have s1 : Spares (q :: v.ownBlock.toList) w0 wr := hb.sub fun k hk _ => by simp at hk; simp [hk]
    have s2 : Spares (q :: v.ownBlock.toList) wr wa := Spares.of_below ha
    have s3 : Spares (q :: v.ownBlock.toList) wa w3 := Spares.grown hg fun k e => by simp [e]
    refine ((s1.trans s2).trans s3).sub fun k hk hlt => ?_
    rcases List.mem_cons.1 hk with rfl | hk
    · simp
    · have := (hvlt k (by simpa using hk)).1
      omega

theorem Acc.key {wv w0 : World} {q : Nat} {ks : List (List UInt8)} {ts : List VT} {vk vi : Value} {xs : List Value} {wr : World} (h : Acc wv w0 q ks ts vk vi xs wr) {wa w3 : World} {v' : Value} {k : List UInt8} (ha : Below wr.heap.size wr wa)
    (hown : w3.ownsRow w0.heap.size 9 1 v' (ks.length + 1) (strV ks ++ [str k])) (hg : wa.grownBy w3 vk.ownBlock) (hv : v'.ownBlock = vk.ownBlock ∨ v'.ownBlock = some wa.heap.size) : Acc wv w0 q (ks ++ [k]) ts v' vi xs (w3.setCell ⟨q, 4, none⟩ v') := by
  obtain ⟨h1, h2, h3, h4⟩ := acc_step (w0 := w0) ha hg hv (fun b hb => h.keys.lt b hb) (fun b hb => h.items.lt b hb) h.apart h.at_ h.keeps
  have hkk : ∀ b, b ≠ q → (w3.setCell ⟨q, 4, none⟩ v').heap[b]? = w3.heap[b]? := fun b hb => by simp [World.setCell, Array.getElem?_modify, Ne.symm hb]
  refine ⟨?_, ?_, ?_, h.len, h.each, h3, h4.store, h.at_⟩
  · simp [World.setCell, Array.getElem?_modify, h1, h.box]
  · have : (strV (ks ++ [k])) = strV ks ++ [str k] := by simp [strV]
    rw [this, List.length_append]
    exact ownsRow_keep hown fun b hb => hkk b (by have := (hown.lt b hb).1; have := h.at_; omega)
  · exact ownsRow_keep h.items fun b hb => (hkk b (by have := (h.items.lt b hb).1; have := h.at_; omega)).trans (h2 b hb)

theorem Acc.item {wv w0 : World} {q : Nat} {ks : List (List UInt8)} {ts : List VT} {vk vi : Value} {xs : List Value} {wr : World} (h : Acc wv w0 q ks ts vk vi xs wr) {wa w3 : World} {v' x : Value} {t : VT} (ha : Below wr.heap.size wr wa) (hx : ValAt wv t x)
    (hown : w3.ownsRow w0.heap.size 41 5 v' (ts.length + 1) (cellsV xs ++ x.cells.toList)) (hg : wa.grownBy w3 vi.ownBlock) (hv : v'.ownBlock = vi.ownBlock ∨ v'.ownBlock = some wa.heap.size) : Acc wv w0 q ks (ts ++ [t]) vk v' (xs ++ [x]) (w3.setCell ⟨q, 3, none⟩ v') := by
  obtain ⟨h1, h2, h3, h4⟩ := acc_step (w0 := w0) ha hg hv (fun b hb => h.items.lt b hb) (fun b hb => h.keys.lt b hb) (fun a ha b hb e => h.apart b hb a ha e.symm) h.at_ h.keeps
  have hkk : ∀ b, b ≠ q → (w3.setCell ⟨q, 3, none⟩ v').heap[b]? = w3.heap[b]? := fun b hb => by simp [World.setCell, Array.getElem?_modify, Ne.symm hb]
  refine ⟨?_, ?_, ?_, by simp [h.len], fun i hi hi' => ?_, fun a ha b hb e => h3 b hb a ha e.symm, h4.store, h.at_⟩
  · simp [World.setCell, Array.getElem?_modify, h1, h.box]
  · exact ownsRow_keep h.keys fun b hb => (hkk b (by have := (h.keys.lt b hb).1; have := h.at_; omega)).trans (h2 b hb)
  · rw [cellsV_append, List.length_append]
    have : cellsV [x] = x.cells.toList := by simp [cellsV]
    rw [this]
    exact ownsRow_keep hown fun b hb => hkk b (by have := (hown.lt b hb).1; have := h.at_; omega)
  · have hl := h.len
    by_cases hlt : i < ts.length
    · rw [List.getElem_append_left hlt, List.getElem_append_left (by omega)]
      exact h.each i hlt (by omega)
    · have : i = ts.length := by simp at hi; omega
      subst this
      simpa [← hl] using hx

/-- The rows of an object of one's own: newer than w0; its items were there in wv. -/
def RowsOf (wv w0 : World) (ks : List (List UInt8)) (ts : List VT) (vk vi : Value) (w' : World) : Prop :=
  ∃ xs, w'.ownsRow w0.heap.size 9 1 vk ks.length (strV ks) ∧ w'.ownsRow w0.heap.size 41 5 vi ts.length (cellsV xs) ∧ xs.length = ts.length ∧ ∀ i (h : i < ts.length) (h' : i < xs.length), ValAt wv ts[i] xs[i]
theorem ownsRow_low {w : World} {base b' : Nat} {e : TypeId} {size : Nat} {v : Value} {n : Nat} {xs : List Value} (h : w.ownsRow base e size v n xs) (hb : b' ≤ base) : w.ownsRow b' e size v n xs := by
  refine ⟨h.1, ?_⟩
  rcases h.2 with h2 | ⟨g, cap, cur, hv, hg, r⟩
  · exact .inl h2
  · exact .inr ⟨g, cap, cur, hv, Nat.le_trans hb hg, r⟩
/-- In a world that has kept all from w0 on. -/
theorem Acc.rows {wv w0 wl : World} {q : Nat} {ks : List (List UInt8)} {ts : List VT} {vk vi : Value} {xs : List Value} {wr w' : World} (h : Acc wv w0 q ks ts vk vi xs wr) (hk : ∀ b, w0.heap.size ≤ b → w'.heap[b]? = wr.heap[b]?) (hl : wl.heap.size ≤ w0.heap.size) : RowsOf wv wl ks ts vk vi w' :=
  ⟨xs, ownsRow_low (ownsRow_keep (w' := w') h.keys fun b hb => hk b (h.keys.lt b hb).1) hl, ownsRow_low (ownsRow_keep (w' := w') h.items fun b hb => hk b (h.items.lt b hb).1) hl, h.len, h.each⟩
theorem RowsOf.val {wv w0 : World} {ks : List (List UInt8)} {ts : List VT} {vk vi : Value} {w' : World} (h : RowsOf wv w0 ks ts vk vi w') (hb : Below wv.heap.size wv w') : ValAt w' (objOf ks ts) (.agg #[.int .i64 6, .bool false, .string ⟨#[]⟩, vi, vk]) := by
  obtain ⟨xs, h2, h3, hl, he⟩ := h
  have h5 : ∀ x ∈ xs, ∃ c0 c1 c2 c3 c4, x = .agg #[c0, c1, c2, c3, c4] := fun x hx => by
    obtain ⟨i, hi, rfl⟩ := List.getElem_of_mem hx
    obtain ⟨a, b, c, d, e⟩ := (he i (by rw [← hl]; exact hi) hi).form
    exact ⟨_, _, _, _, _, e⟩
  unfold objOf
  rw [ValAt]
  refine ⟨vi, vk, rfl, by simp, (OwnS.strs ⟨ownsRow_zero h2, rfl⟩), _, OwnS.rows (xs := xs) ⟨ownsRow_zero h3, rfl⟩ hl h5, ?_⟩
  rw [ValsAt_iff]
  intro i hi
  have hx : i < xs.length := by rw [hl]; exact hi
  have := (he i hi hx).mono hb
  simpa [List.getD, hx] using this
theorem Acc.key_box {wv w0 : World} {q : Nat} {ks : List (List UInt8)} {ts : List VT} {vk vi : Value} {xs : List Value} {wr : World} (h : Acc wv w0 q ks ts vk vi xs wr) {wa w3 : World} {v' : Value} (ha : Below wr.heap.size wr wa)
    (hg : wa.grownBy w3 vk.ownBlock) (hv : v'.ownBlock = vk.ownBlock ∨ v'.ownBlock = some wa.heap.size) : w3.heap[q]? = some (.cells #[.int .i64 6, .bool false, .string ⟨#[]⟩, vi, vk] 41 (0, 0)) :=
  (acc_step (w0 := w0) ha hg hv (fun b hb => h.keys.lt b hb) (fun b hb => h.items.lt b hb) h.apart h.at_ h.keeps).1.trans h.box
theorem Acc.item_box {wv w0 : World} {q : Nat} {ks : List (List UInt8)} {ts : List VT} {vk vi : Value} {xs : List Value} {wr : World} (h : Acc wv w0 q ks ts vk vi xs wr) {wa w3 : World} {v' : Value} (ha : Below wr.heap.size wr wa)
    (hg : wa.grownBy w3 vi.ownBlock) (hv : v'.ownBlock = vi.ownBlock ∨ v'.ownBlock = some wa.heap.size) : w3.heap[q]? = some (.cells #[.int .i64 6, .bool false, .string ⟨#[]⟩, vi, vk] 41 (0, 0)) :=
  (acc_step (w0 := w0) ha hg hv (fun b hb => h.items.lt b hb) (fun b hb => h.keys.lt b hb) (fun a ha b hb e => h.apart b hb a ha e.symm) h.at_ h.keeps).1.trans h.box
theorem slice_of {w : World} {base : Nat} {e : TypeId} {size : Nat} {v : Value} {n : Nat} {xs : List Value} (h : w.ownsRow base e size v n xs) : ∃ a c, v = .slice a n c := by
  obtain ⟨a, c, e, _⟩ := OwnS.form ⟨ownsRow_zero h, rfl⟩
  exact ⟨a, c, e⟩

end Go.Proofs.YtpbipngnoklmcaaGreatDoor
