/- The document's world: fails, noted. The document's world: noted. -/
import Derived.Test.YtpbipngnoklmcaaGreatDoorWldJ
import Derived.Laws.AppendOwnNone
import Derived.Laws.ResultCell
import Derived.Laws.Rows
namespace Go.Proofs.YtpbipngnoklmcaaGreatDoor
open Go.RowKit
set_option maxRecDepth 100000
attribute [local go_sem] str_size str_toList str_get

theorem CellsAt.rule {w : World} {ao : Option Addr} {m cap : Nat} {fs : List F2} (h : CellsAt w (.slice ao m cap) fs.length (failCells fs)) {i : Nat} {o : Int} {a : S8} (hi : fs[i]? = some (o, a)) :
    ∃ b off, ao = some ⟨b, off, none⟩ ∧ b < w.heap.size ∧ w.cell? ⟨b, off + i * 2, none⟩ = some (.int .i64 o) ∧ w.cell? ⟨b, off + i * 2 + 1, none⟩ = some (str a) := by
  obtain ⟨_, _, hv, _, hk⟩ := h
  cases hv
  have hil : i < fs.length := (List.getElem?_eq_some_iff.1 hi).1
  obtain ⟨b, off, rfl, hl, hk⟩ := hk (by omega)
  obtain ⟨h0, h1⟩ := failCells_get fs i o a hi
  have k0 := hk _ _ h0
  have k1 := hk _ _ h1
  rw [Addr.add_lit] at k0 k1
  exact ⟨b, off, rfl, hl, k0, by rw [Nat.add_assoc]; exact k1⟩

set_option maxHeartbeats 2000000 in
theorem fails_r (fs : List F2) (af : Option Addr) (cf : Nat) (vo vt : Value) (op : Int) (a : S8) (w : World) (h : CellsAt w (.slice af fs.length cf) fs.length (failCells fs)) :
    Calls Tryz.prog 64 #[.agg #[vo, .slice af fs.length cf, vt], .int .i64 op, str a] w fun e w' => e = .returned (.bool (failsP fs op a)) ∧ Below w.heap.size w w' := by
  have H := Lib.hid h
  obtain ⟨_, _, hv, hm, _⟩ := h
  cases hv
  obtain ⟨w0, hw0⟩ : ∃ w0, w0 = w.alloc (.cells #[vo, .slice af fs.length cf, vt] 32) := ⟨_, rfl⟩
  have hn0 : w0.heap[w.heap.size]? = some (.cells #[vo, .slice af fs.length cf, vt] 32 (0, 0)) := by rw [hw0]; exact heap_alloc_new _ _
  have hb0 : Below w.heap.size w w0 := by rw [hw0]; exact (Below.refl _ w).alloc (Nat.le_refl _) _
  have e0 : w0.cell? ⟨w.heap.size, 1, none⟩ = some (.slice af fs.length cf) := by rw [Lib.cell_of_heap hn0]; rfl
  have hnm : fs.length ≤ 9223372036854775807 := by omega
  have hlw : w.heap.size < w0.heap.size := heap_lt hn0
  clear hn0
  obtain ⟨R, hR⟩ : ∃ R, failsP fs op a = R := ⟨_, rfl⟩
  rw [hR]
  have HR := Lib.hid hR
  clear hR
  go_enter Tryz.func64, Tryz.ntmps64
  go_upto_region 1 with fail
  rw [← hw0]
  clear hw0
  go_wp2
  go_loopg [11] fs.length (fun gg v11 wr => ∃ k : Nat, v11 = .int .i64 k ∧ k + gg = fs.length ∧ Hid (failsP (fs.take k) op a = false) ∧ Below w0.heap.size w0 wr)
  case atStart => exact ⟨0, rfl, by omega, rfl, Below.refl _ _⟩
  case round =>
    obtain ⟨k, rfl, hk, HN, hbr⟩ := hrel
    have hB := hb0.trans (hbr.mono hb0.size)
    have d0 := (hbr.cell (p := ⟨w.heap.size, 1, none⟩) hlw).trans e0
    cases gk with
    | zero =>
      obtain rfl : k = fs.length := by omega
      have := HN.out
      rw [List.take_length, HR.out] at this
      subst this
      clear HN
      go_wp2
      go_ret
      exact ⟨rfl, hB⟩
    | succ gg =>
      have hkl : k < fs.length := by omega
      have hki : (k : Int) < (fs.length : Int) := by omega
      obtain ⟨⟨o, x⟩, hx⟩ : ∃ y : F2, fs[k]? = some y := ⟨_, List.getElem?_eq_getElem hkl⟩
      obtain ⟨b, off, rfl, hlt, k0, k1⟩ := (H.out.mono hB).rule hx
      have htk : failsP (fs.take (k + 1)) op a = (failsP (fs.take k) op a || (o == op && x == a)) := by
        unfold failsP
        rw [List.take_add_one, hx, List.any_append]
        simp
      have hall : (o == op && x == a) = true → R = true := fun h => by
        rw [← HR.out]
        unfold failsP
        rw [List.any_eq_true]
        exact ⟨(o, x), List.mem_of_getElem? hx, h⟩
      have HT := Lib.hid htk
      have HA := Lib.hid hall
      clear htk hall hx
      by_cases h1 : o = op
      · by_cases h2 : x = a
        · subst h1 h2
          obtain rfl : R = true := HA.out (by simp)
          clear HA HT HN
          go_wp2
          go_ret
          exact ⟨rfl, hB⟩
        · have q1 : (o == op) = true := by simpa using h1
          have q2 : (x == a) = false := by simpa using h2
          have HN2 := Lib.hid (show failsP (fs.take (k + 1)) op a = false by rw [HT.out, HN.out, q2]; simp)
          subst h1
          clear h2 HA HT HN q1
          go_wp2
          go_roundg gg
          case measure => omega
          case rel => exact ⟨k + 1, by go_num, by omega, HN2, hbr⟩
      · have q1 : (o == op) = false := by simpa using h1
        have HN2 := Lib.hid (show failsP (fs.take (k + 1)) op a = false by rw [HT.out, HN.out, q1]; rfl)
        clear HA HT HN
        go_wp2
        go_roundg gg
        case measure => omega
        case rel => exact ⟨k + 1, by go_num, by omega, HN2, hbr⟩

/-- An append of what a slice (perhaps nil) reads as. -/
theorem wpList_append_at {P : Program} (w : World) {ops : Array Oper} {rest : List Oper} {o : Oper} {a : Act} {Q : Exit → Act → World → Prop} (hgd : o.guard = none) (s x : Operand) (t : TypeId)
    (ho : o.op = .call { callee := .builtin .append, args := #[s, x], argTypes := #[t, t] })
    (base : Nat) (e : TypeId) (i : TypeInfo) (z : Value) (size bytes : Nat) (ht : P.underlying t = some (.slice e)) (hi : P.info? e = some i) (hz : i.zero = some z)
    (hsize : i.size = size) (hby : i.bytes = bytes) (hzs : z.cells.size = size) (hsz : 0 < size)
    (v : Value) (n : Nat) (xs : List Value) (hs : a.eval s = v) (hown : w.ownsRow base e size v n xs)
    (ao : Option Addr) (m c : Nat) (news : List Value) (hx : a.eval x = .slice ao m c) (hC : CellsAt w (.slice ao m c) m news) (hl : news.length = m * size) (h1 : ∀ u ∈ news, u.oneCell' = true)
    (h63 : n + m ≤ maxLen) (hbytes : (n + m) * bytes ≤ 140737488355328) (hbase : base ≤ w.heap.size)
    (h : ∀ v' w', w'.ownsRow base e size v' (n + m) (xs ++ news) → w.grownBy w' v.ownBlock → (v'.ownBlock = v.ownBlock ∨ v'.ownBlock = some w.heap.size) → wpList P ops Q rest (a.put o.dst v') w') : wpList P ops Q (o :: rest) a w := by
  obtain ⟨_, _, hv, hm, hc⟩ := hC
  cases hv
  cases ao with
  | none =>
    obtain rfl := hm.2.2 rfl
    obtain rfl : m = 0 := by omega
    obtain rfl : news = [] := List.eq_nil_of_length_eq_zero (by omega)
    refine wpList_append_own_none hgd s x t ho base e i size ht hi v n xs hs hown hx (h v w ?_ ⟨rfl, rfl, rfl, Nat.le_refl _, fun _ _ _ => rfl⟩ (.inl rfl))
    simpa using hown
  | some ad =>
    by_cases hm0 : m = 0
    · subst hm0
      obtain rfl : news = [] := List.eq_nil_of_length_eq_zero (by omega)
      exact wpList_append_fresh w hgd s x t ho base e i z size bytes ht hi hz hsize hby hzs hsz v n xs hs hown ad 0 c [] hx hl (fun j u hu => by simp at hu) h1 h63 hbytes hbase h
    · obtain ⟨b, off, had, _, hk⟩ := hc hm0
      cases had
      exact wpList_append_fresh w hgd s x t ho base e i z size bytes ht hi hz hsize hby hzs hsz v n xs hs hown ⟨b, off, none⟩ m c news hx hl hk h1 h63 hbytes hbase h

end Go.Proofs.YtpbipngnoklmcaaGreatDoor
namespace Go.Proofs.YtpbipngnoklmcaaGreatDoor
open Go.RowKit
set_option maxRecDepth 100000
attribute [local go_sem] str_size str_toList str_get

theorem results_c3 {P : Program} {fn : Func} {p : Tmp} {ty : TypeId} (h : fn.results = #[.cell p ty]) (tmps : Array Value) (w : World) (g : Nat) (t : TypeId) (cs : Array Value) (fr : Nat × Nat) (d : TypeDesc)
    (hp : tmps.getD p undef = .pointer (some ⟨g, 0, none⟩)) (hg : w.heap[g]? = some (.cells cs t fr))
    (hu : P.underlying ty = some d) (hd : (match d with | .struct _ | .array _ _ => true | _ => false) = true) (hi : (P.info? ty).map (·.size) = some cs.size) :
    (results fn tmps).run P w = .ok (.agg cs) w := results_cell_row h tmps w g t cs fr d hp hg hu hd hi
theorem results_ct {P : Program} {fn : Func} {p u : Tmp} {ty : TypeId} (h : fn.results = #[.cell p ty, .tmp u]) (tmps : Array Value) (w : World) (g : Nat) (t : TypeId) (cs : Array Value) (fr : Nat × Nat) (d : TypeDesc)
    (hp : tmps.getD p undef = .pointer (some ⟨g, 0, none⟩)) (hg : w.heap[g]? = some (.cells cs t fr))
    (hu : P.underlying ty = some d) (hd : (match d with | .struct _ | .array _ _ => true | _ => false) = true) (hi : (P.info? ty).map (·.size) = some cs.size) :
    (results fn tmps).run P w = .ok (.tuple #[.agg cs, tmps.getD u undef]) w := by
  rw [results_cell_tmp h, hp]
  simp [asAddr, Result.andThen, run_loadVar_row w g t ty cs fr d hg hu hd hi]
theorem results_ctt {P : Program} {fn : Func} {p u v : Tmp} {ty : TypeId} (h : fn.results = #[.cell p ty, .tmp u, .tmp v]) (tmps : Array Value) (w : World) (g : Nat) (t : TypeId) (cs : Array Value) (fr : Nat × Nat) (d : TypeDesc)
    (hp : tmps.getD p undef = .pointer (some ⟨g, 0, none⟩)) (hg : w.heap[g]? = some (.cells cs t fr))
    (hu : P.underlying ty = some d) (hd : (match d with | .struct _ | .array _ _ => true | _ => false) = true) (hi : (P.info? ty).map (·.size) = some cs.size) :
    (results fn tmps).run P w = .ok (.tuple #[.agg cs, tmps.getD u undef, tmps.getD v undef]) w := by
  have hp' : tmps[p]?.getD undef = .pointer (some ⟨g, 0, none⟩) := by simpa using hp
  simp only [results, h]
  simp [Result.andThen, hp', asAddr, run_loadVar_row w g t ty cs fr d hg hu hd hi]
theorem box3 {w : World} {g : Nat} {c0 c1 c2 : Value} {T : TypeId} (h : w.heap[g]? = some (.cells #[c0, c1, c2] T (0, 0))) : w.cell? ⟨g, 0, none⟩ = some c0 ∧ w.cell? ⟨g, 1, none⟩ = some c1 ∧ w.cell? ⟨g, 2, none⟩ = some c2 := by
  refine ⟨?_, ?_, ?_⟩ <;> (rw [Lib.cell_of_heap h]; rfl)
theorem put_box3 {w : World} {q : Nat} {z0 z1 z2 : Value} {T : TypeId} (h : w.heap[q]? = some (.cells #[z0, z1, z2] T (0, 0))) (x0 x1 x2 : Value) : ∃ w', w' = ((w.setCell ⟨q, 0, none⟩ x0).setCell ⟨q, 1, none⟩ x1).setCell ⟨q, 2, none⟩ x2 ∧ w'.heap[q]? = some (.cells #[x0, x1, x2] T (0, 0)) ∧ (∀ k, k ≠ q → w'.heap[k]? = w.heap[k]?) ∧ w'.heap.size = w.heap.size := by
  refine ⟨_, rfl, setC (setC (setC h 0 x0) 1 x1) 2 x2, fun k hk => ?_, by simp [World.setCell]⟩
  rw [Below.heap_setCell _ _ _ _ hk, Below.heap_setCell _ _ _ _ hk, Below.heap_setCell _ _ _ _ hk]

set_option maxHeartbeats 4000000 in
theorem noted_r (ts : List T5) (ao : Option Addr) (no co : Nat) (af : Option Addr) (nf cf : Nat) (at' : Option Addr) (ct : Nat) (op : Int) (addr typ i : S8) (er : Int) (w : World) (h : CellsAt w (.slice at' ts.length ct) ts.length (callCells ts)) (hl : ts.length ≤ 100000) (_he : -9223372036854775808 ≤ er ∧ er ≤ 9223372036854775807) :
    Calls Tryz.prog 65 #[.agg #[.slice ao no co, .slice af nf cf, .slice at' ts.length ct], .int .i64 op, str addr, str typ, str i, .int .i64 er] w fun e w' =>
      ∃ a2 c2, e = .returned (.agg #[.slice ao no co, .slice af nf cf, .slice a2 (ts.length + 1) c2]) ∧ w'.ownsRow w.heap.size 58 5 (.slice a2 (ts.length + 1) c2) (ts ++ [(op, addr, typ, i, er)]).length (callCells (ts ++ [(op, addr, typ, i, er)])) ∧ Below w.heap.size w w' := by
  obtain ⟨i1, hi1, hz1, hzs1, hzb1⟩ := info_parts (P := Tryz.prog) (e := 58) (z := .agg #[.int .i64 0, .string ⟨#[]⟩, .string ⟨#[]⟩, .string ⟨#[]⟩, .int .i64 0]) (size := 5) (bytes := 64) (by kernel_rfl)
  obtain ⟨wA, hwA⟩ : ∃ wA, wA = w.alloc (.cells #[.slice ao no co, .slice af nf cf, .slice at' ts.length ct] 32) := ⟨_, rfl⟩
  obtain ⟨wE, hwE⟩ : ∃ wE, wE = wA.alloc (.cells #[.slice none 0 0, .slice none 0 0, .slice none 0 0] 32) := ⟨_, rfl⟩
  have nA := heap_alloc_new w (.cells #[.slice ao no co, .slice af nf cf, .slice at' ts.length ct] 32)
  have nE := heap_alloc_new wA (.cells #[.slice none 0 0, .slice none 0 0, .slice none 0 0] 32)
  rw [← hwA] at nA
  rw [← hwE] at nE
  have sA : wA.heap.size = w.heap.size + 1 := by rw [hwA]; simp only [World.alloc, Array.size_push]
  have bA : Below w.heap.size w wA := by rw [hwA]; exact (Below.refl _ w).alloc (Nat.le_refl _) _
  have bE : Below wA.heap.size wA wE := by rw [hwE]; exact (Below.refl _ wA).alloc (Nat.le_refl _) _
  have mA := (bE.block _ (heap_lt nA)).trans nA
  rw [sA] at nE
  have hbE := bA.trans (bE.mono bA.size)
  have hE1 : w.heap.size + 1 < wE.heap.size := heap_lt nE
  obtain ⟨wF, hwF⟩ : ∃ wF, wF = wE.alloc (.cells #[] 58) := ⟨_, rfl⟩
  have hm0 : wF.ownsRow wE.heap.size 58 5 (.slice (some ⟨wE.heap.size, 0, none⟩) 0 0) 0 [] := by rw [hwF]; exact World.ownsRow_made wE #[] 0 (Nat.le_refl _) (by unfold maxLen; omega) rfl
  have bF : Below wE.heap.size wE wF := by rw [hwF]; exact (Below.refl _ wE).alloc (Nat.le_refl _) _
  have kA : ∀ W, Below wE.heap.size wE W → W.heap[w.heap.size]? = some (.cells #[.slice ao no co, .slice af nf cf, .slice at' ts.length ct] 32 (0, 0)) := fun W hW => (hW.block _ (heap_lt mA)).trans mA
  have kE : ∀ W, Below wE.heap.size wE W → W.heap[w.heap.size + 1]? = some (.cells #[.slice none 0 0, .slice none 0 0, .slice none 0 0] 32 (0, 0)) := fun W hW => (hW.block _ (heap_lt nE)).trans nE
  have HKA := Lib.hid kA
  have HKE := Lib.hid kE
  have c2 : wF.cell? ⟨w.heap.size, 2, none⟩ = some (.slice at' ts.length ct) := by rw [Lib.cell_of_heap (kA wF bF)]; rfl
  rw [hwF] at c2
  have HC := Lib.hid (h.mono (hbE.trans (bF.mono hbE.size)))
  have HM := Lib.hid hm0
  have HBE := Lib.hid hbE
  have HBF := Lib.hid bF
  have hEF := bF.size
  clear nA nE sA bA bE mA hbE hm0 bF kA kE h
  go_enter Tryz.func65, Tryz.ntmps65
  go_upto_region 1 with fail
  rw [← hwA, ← hwE]
  clear hwA hwE
  go_upto_region 2 with (first
    | (at_builtin; refine wpList_append_at _ rfl (.tmp 13) (.tmp 15) 30 rfl wE.heap.size 58 i1 _ 5 64 Tryz.underlying30 hi1 hz1 hzs1 hzb1 rfl (by decide) (.slice (some ⟨wE.heap.size, 0, none⟩) 0 0) 0 [] rfl (by rw [← hwF]; exact HM.out) at' ts.length ct (callCells ts) rfl (by rw [← hwF]; exact HC.out) (call_len ts) (call_one ts) (by unfold maxLen; omega) (by omega) (by rw [← hwF]; exact hEF) ?_; intro v1 w1 hown1 hgrow1 hv1; rw [Nat.zero_add, List.nil_append] at hown1; rw [← hwF] at hgrow1; have hb1 := HBF.out.grown hgrow1 hEF (fun k e => by cases e; exact Nat.le_refl _); obtain ⟨a1, c1, rfl⟩ := slice_form hown1; have hs1 := hb1.size; have HO1 := Lib.hid (fun o => row_keep hown1 (fun q hq => Below.heap_alloc w1 o q (heap_lt (row_block hown1 hq).choose_spec))); have HB1 := Lib.hid hb1; have HN1 := Lib.hid (cells_new w1 [.int .i64 op, str addr, str typ, str i, .int .i64 er] 58); have HROW := Lib.hid (fun k (e : (Value.slice a1 ts.length c1).ownBlock = some k) => (hown1.lt k e).1); clear hown1 hgrow1 hv1 hb1)
    | (at_builtin; refine wpList_append_fresh _ rfl (.tmp 16) (.tmp 23) 30 rfl wE.heap.size 58 i1 _ 5 64 Tryz.underlying30 hi1 hz1 hzs1 hzb1 rfl (by decide) _ ts.length (callCells ts) rfl (HO1.out _) ⟨w1.heap.size, 0, none⟩ 1 1 [.int .i64 op, str addr, str typ, str i, .int .i64 er] rfl rfl HN1.out (by intro y hy; simp at hy; rcases hy with rfl | rfl | rfl | rfl | rfl <;> rfl) (by unfold maxLen; omega) (by omega) (by simp; omega) ?_; intro v2 w2 hown2 hgrow2 hv2; obtain ⟨a2, c2', rfl⟩ := slice_form hown2; have hb2 : Below wE.heap.size wE w2 := (HB1.out.alloc (o := .cells #[.int .i64 op, str addr, str typ, str i, .int .i64 er] 58) hs1).grown hgrow2 (by simp; omega) (fun k e => (HROW.out k e)); have x2 := HKA.out w2 hb2; have y2 := HKE.out w2 hb2; have f2 : w2.frozen? ⟨w.heap.size, 2, none⟩ = false := Lib.frozen_of_heap x2 2; have k2 : w2.cell? ⟨w.heap.size, 2, none⟩ = some (.slice at' ts.length ct) := (by rw [Lib.cell_of_heap x2]; rfl); have HX2 := Lib.hid x2; have HY2 := Lib.hid y2; have HB2 := Lib.hid hb2; have HO2 := Lib.hid hown2; clear x2 y2 hb2 hown2 hgrow2 hv2))
  obtain ⟨w3, hw3⟩ : ∃ w3, w3 = w2.setCell ⟨w.heap.size, 2, none⟩ (.slice a2 (ts.length + 1) c2') := ⟨_, rfl⟩
  have x3 := setC HX2.out 2 (.slice a2 (ts.length + 1) c2')
  rw [← hw3] at x3
  have y3 : w3.heap[w.heap.size + 1]? = some (.cells #[.slice none 0 0, .slice none 0 0, .slice none 0 0] 32 (0, 0)) := by
    rw [hw3, Below.heap_setCell _ _ _ _ (by show w.heap.size + 1 ≠ w.heap.size; omega)]
    exact HY2.out
  obtain ⟨w4, hw4, x4, k4, s4⟩ := put_box3 y3 (.slice ao no co) (.slice af nf cf) (.slice a2 (ts.length + 1) c2')
  obtain ⟨e0, e1, e2⟩ := box3 x3
  obtain ⟨g0, g1, g2⟩ := box3 x4
  obtain ⟨z0, z1, z2⟩ := box3 y3
  have fz := fun o => Lib.frozen_of_heap y3 o
  have fz0 := fz 0
  have fz1 := fz 1
  have fz2 := fz 2
  rw [hw4] at g0 g1 g2
  have hown4 : w4.ownsRow w.heap.size 58 5 (.slice a2 (ts.length + 1) c2') (ts ++ [(op, addr, typ, i, er)]).length (callCells (ts ++ [(op, addr, typ, i, er)])) := by
    rw [call_snoc, List.length_append]
    refine row_keep (row_base HO2.out HBE.out.size) fun q hq => ?_
    have hge := (HO2.out.lt q hq).1
    rw [k4 q (by omega), hw3, Below.heap_setCell _ _ _ _ (by show q ≠ w.heap.size; omega)]
  have hb4 : Below w.heap.size w w4 := by
    have hbw2 := HBE.out.trans (HB2.out.mono HBE.out.size)
    have hb3 : Below w.heap.size w w3 := by rw [hw3]; exact hbw2.setCell (p := ⟨w.heap.size, 2, none⟩) (Nat.le_refl _) _
    rw [hw4]
    exact ((hb3.setCell (p := ⟨w.heap.size + 1, 0, none⟩) (Nat.le_succ _) _).setCell (p := ⟨w.heap.size + 1, 1, none⟩) (Nat.le_succ _) _).setCell (p := ⟨w.heap.size + 1, 2, none⟩) (Nat.le_succ _) _
  have HF := Lib.hid (⟨hown4, hb4⟩ : _ ∧ _)
  rw [← hw3]
  have HX4 := Lib.hid x4
  clear hw3 hown4 hb4 k4 s4 x3 x4 y3 HX2 HY2 HB2 HO2 HB1 HO1 HN1 HROW HM HC HKA HKE HBE HBF fz f2 k2 c2
  go_wp2
  rw [← hw4]
  (try simp only [Exit.inBlock, Exit.then]); refine bodyPost_ret (results_c3 rfl _ _ (w.heap.size + 1) _ _ _ _ rfl HX4.out Tryz.underlying32 rfl (by kernel_rfl)) rfl ?_
  exact ⟨a2, c2', rfl, HF.out.1, HF.out.2⟩

end Go.Proofs.YtpbipngnoklmcaaGreatDoor
