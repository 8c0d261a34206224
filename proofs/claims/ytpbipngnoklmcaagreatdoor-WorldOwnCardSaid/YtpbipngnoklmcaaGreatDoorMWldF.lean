/- Copies of rows of structs: slices.Clone of rules and of the trace; Trace. Printed by genwldf.py. Rows of objects that come in; slices.ContainsFunc over them; what New asks of each. -/
import Derived.Test.YtpbipngnoklmcaaGreatDoorWldE
import Derived.Test.YtpbipngnoklmcaaGreatDoorMValR
namespace Go.Proofs.YtpbipngnoklmcaaGreatDoor
open Go.RowKit
set_option maxRecDepth 100000
attribute [local go_sem] str_size str_toList str_get

/-- v is a slice (perhaps nil) of n elements, whose cells are these. -/
def CellsAt (w : World) (v : Value) (n : Nat) (cs : List Value) : Prop :=
  ∃ (ao : Option Addr) (cap : Nat), v = .slice ao n cap ∧ (n ≤ cap ∧ cap ≤ 9223372036854775807 ∧ (ao = none → cap = 0)) ∧
    (n ≠ 0 → ∃ b off, ao = some ⟨b, off, none⟩ ∧ b < w.heap.size ∧ ∀ j u, cs[j]? = some u → w.cell? ((⟨b, off, none⟩ : Addr).add j) = some u)
theorem CellsAt.mono {w w' : World} {v : Value} {n : Nat} {cs : List Value} (h : CellsAt w v n cs) (hb : Below w.heap.size w w') : CellsAt w' v n cs := by
  obtain ⟨ao, cap, hv, hm, hc⟩ := h
  refine ⟨ao, cap, hv, hm, fun hne => ?_⟩
  obtain ⟨b, off, ha, hlt, hk⟩ := hc hne
  refine ⟨b, off, ha, Nat.lt_of_lt_of_le hlt hb.size, fun j u hj => ?_⟩
  have := hk j u hj
  rw [Addr.add_lit] at this ⊢
  exact (hb.cell (p := ⟨b, off + j, none⟩) hlt).trans this
theorem CellsAt.row {w : World} {base e size n : Nat} {v : Value} {cs : List Value} (h : w.ownsRow base e size v n cs) : CellsAt w v n cs := by
  have hc := fun (g : Nat) hg => h.cells (g := g) hg
  rcases h.2 with ⟨rfl, h2⟩ | ⟨g, c, cur, rfl, _, hh, h3, h4, _⟩
  · subst h2
    exact ⟨none, 0, rfl, by simp, fun h => absurd rfl h⟩
  · exact ⟨some ⟨g, 0, none⟩, c, rfl, ⟨h3, by unfold maxLen at h4; omega, fun e => by cases e⟩, fun _ => ⟨g, 0, rfl, heap_lt hh, fun j u hj => hc g rfl _ _ hj⟩⟩
theorem CellsAt.nil (w : World) : CellsAt w (.slice none 0 0) 0 [] := ⟨none, 0, rfl, by simp, fun h => absurd rfl h⟩
/-- What a copy of a row leaves: a new row of the same cells. -/
def ClC (e : TypeId) (size n : Nat) (cs : List Value) (w : World) (x : Ending) (w' : World) : Prop :=
  ∃ v', x = .returned v' ∧ w'.ownsRow w.heap.size e size v' n cs ∧ Below w.heap.size w w'

set_option maxHeartbeats 1600000 in
theorem clone_fails (v : Value) (n : Nat) (cs : List Value) (w : World) (h : CellsAt w v n cs) (hcs : cs.length = n * 2) (h1 : ∀ u ∈ cs, u.oneCell' = true) (hl : n ≤ 1000000) :
    Calls Tryz.prog 26 #[v] w (ClC 52 2 n cs w) := by
  obtain ⟨i0, hi, hz0, hz1, hz2⟩ := info_parts (P := Tryz.prog) (e := 52) (z := .agg #[.int .i64 0, .string ⟨#[]⟩]) (size := 2) (bytes := 24) (by kernel_rfl)
  obtain ⟨ao, cap, rfl, hm, hc⟩ := h
  have hend : ∀ w' v', w'.ownsRow w.heap.size 52 2 v' n cs → Below w.heap.size w w' → ClC 52 2 n cs w (.returned v') w' := fun w' v' h1 h2 => ⟨v', rfl, h1, h2⟩
  have HE := Lib.hid hend
  clear hend
  have hmade : (w.alloc (.cells #[] 52)).ownsRow w.heap.size 52 2 (.slice (some ⟨w.heap.size, 0, none⟩) 0 0) 0 [] := World.ownsRow_made w #[] 0 (Nat.le_refl _) (by unfold maxLen; omega) rfl
  have HM := Lib.hid hmade
  clear hmade
  have qT : ∀ (w : World) (a : Option Addr) (n c n' c' : Nat), (binOp .eql 23 (.slice a n c) (.slice none n' c')).run Tryz.prog w = .ok (.bool a.isNone) w := fun w a n c n' c' => Lib.run_eql_slice_nil w _ _ a n c n' c' Tryz.underlying23
  cases ao with
  | none =>
    obtain rfl := hm.2.2 rfl
    obtain rfl : n = 0 := by omega
    obtain rfl : cs = [] := List.eq_nil_of_length_eq_zero (by omega)
    clear hc
    go_enter Tryz.func26, Tryz.ntmps26
    go_wp2
    go_ret
    exact HE.out _ _ (World.ownsRow_nil _ _ _ _) (Below.refl _ _)
  | some ad =>
    by_cases he : n = 0
    · subst he
      obtain rfl : cs = [] := List.eq_nil_of_length_eq_zero (by omega)
      clear hc
      go_enter Tryz.func26, Tryz.ntmps26
      go_wp2_with (at_builtin; refine wpList_append_fresh _ rfl (.tmp 5) (.tmp 6) 23 rfl w.heap.size 52 i0 _ 2 24 Tryz.underlying23 hi hz0 hz1 hz2 rfl (by decide) _ 0 [] rfl HM.out ad 0 cap [] rfl rfl ?c1 ?c2 ?c3 ?c4 ?c5 ?_)
      case c1 => intro j u hu; simp at hu
      case c2 => intro u hu; cases hu
      case c3 => unfold maxLen; omega
      case c4 => omega
      case c5 => simp
      intro v' w1 hown hgrow _
      go_wp2
      go_ret
      exact HE.out _ _ hown (((Below.refl _ _).alloc (Nat.le_refl _) _).grown hgrow (by simp) (fun k e => by have := Option.some.inj e; simp at this; omega))
    · obtain ⟨b, off, had, hbl, hcell⟩ := hc he
      cases had
      have hcell' := fun o j u hu => (((Below.refl w.heap.size w).alloc (Nat.le_refl _) o).cell (p := (⟨b, off, none⟩ : Addr).add j) (by rw [Addr.add_lit]; exact hbl)).trans (hcell j u hu)
      have HC := Lib.hid hcell'
      clear hc hcell hcell'
      go_enter Tryz.func26, Tryz.ntmps26
      go_wp2_with (at_builtin; refine wpList_append_fresh _ rfl (.tmp 5) (.tmp 6) 23 rfl w.heap.size 52 i0 _ 2 24 Tryz.underlying23 hi hz0 hz1 hz2 rfl (by decide) _ 0 [] rfl HM.out ⟨b, off, none⟩ n cap cs rfl ?d1 (HC.out _) h1 ?d3 ?d4 ?d5 ?_)
      case d1 => exact hcs
      case d3 => unfold maxLen; omega
      case d4 => omega
      case d5 => simp
      intro v' w1 hown hgrow _
      go_wp2
      go_ret
      exact HE.out _ _ hown (((Below.refl _ _).alloc (Nat.le_refl _) _).grown hgrow (by simp) (fun k e => by have := Option.some.inj e; simp at this; omega))

set_option maxHeartbeats 1600000 in
theorem clone_calls (v : Value) (n : Nat) (cs : List Value) (w : World) (h : CellsAt w v n cs) (hcs : cs.length = n * 5) (h1 : ∀ u ∈ cs, u.oneCell' = true) (hl : n ≤ 1000000) :
    Calls Tryz.prog 45 #[v] w (ClC 58 5 n cs w) := by
  obtain ⟨i0, hi, hz0, hz1, hz2⟩ := info_parts (P := Tryz.prog) (e := 58) (z := .agg #[.int .i64 0, .string ⟨#[]⟩, .string ⟨#[]⟩, .string ⟨#[]⟩, .int .i64 0]) (size := 5) (bytes := 64) (by kernel_rfl)
  obtain ⟨ao, cap, rfl, hm, hc⟩ := h
  have hend : ∀ w' v', w'.ownsRow w.heap.size 58 5 v' n cs → Below w.heap.size w w' → ClC 58 5 n cs w (.returned v') w' := fun w' v' h1 h2 => ⟨v', rfl, h1, h2⟩
  have HE := Lib.hid hend
  clear hend
  have hmade : (w.alloc (.cells #[] 58)).ownsRow w.heap.size 58 5 (.slice (some ⟨w.heap.size, 0, none⟩) 0 0) 0 [] := World.ownsRow_made w #[] 0 (Nat.le_refl _) (by unfold maxLen; omega) rfl
  have HM := Lib.hid hmade
  clear hmade
  have qT : ∀ (w : World) (a : Option Addr) (n c n' c' : Nat), (binOp .eql 30 (.slice a n c) (.slice none n' c')).run Tryz.prog w = .ok (.bool a.isNone) w := fun w a n c n' c' => Lib.run_eql_slice_nil w _ _ a n c n' c' Tryz.underlying30
  cases ao with
  | none =>
    obtain rfl := hm.2.2 rfl
    obtain rfl : n = 0 := by omega
    obtain rfl : cs = [] := List.eq_nil_of_length_eq_zero (by omega)
    clear hc
    go_enter Tryz.func45, Tryz.ntmps45
    go_wp2
    go_ret
    exact HE.out _ _ (World.ownsRow_nil _ _ _ _) (Below.refl _ _)
  | some ad =>
    by_cases he : n = 0
    · subst he
      obtain rfl : cs = [] := List.eq_nil_of_length_eq_zero (by omega)
      clear hc
      go_enter Tryz.func45, Tryz.ntmps45
      go_wp2_with (at_builtin; refine wpList_append_fresh _ rfl (.tmp 5) (.tmp 6) 30 rfl w.heap.size 58 i0 _ 5 64 Tryz.underlying30 hi hz0 hz1 hz2 rfl (by decide) _ 0 [] rfl HM.out ad 0 cap [] rfl rfl ?c1 ?c2 ?c3 ?c4 ?c5 ?_)
      case c1 => intro j u hu; simp at hu
      case c2 => intro u hu; cases hu
      case c3 => unfold maxLen; omega
      case c4 => omega
      case c5 => simp
      intro v' w1 hown hgrow _
      go_wp2
      go_ret
      exact HE.out _ _ hown (((Below.refl _ _).alloc (Nat.le_refl _) _).grown hgrow (by simp) (fun k e => by have := Option.some.inj e; simp at this; omega))
    · obtain ⟨b, off, had, hbl, hcell⟩ := hc he
      cases had
      have hcell' := fun o j u hu => (((Below.refl w.heap.size w).alloc (Nat.le_refl _) o).cell (p := (⟨b, off, none⟩ : Addr).add j) (by rw [Addr.add_lit]; exact hbl)).trans (hcell j u hu)
      have HC := Lib.hid hcell'
      clear hc hcell hcell'
      go_enter Tryz.func45, Tryz.ntmps45
      go_wp2_with (at_builtin; refine wpList_append_fresh _ rfl (.tmp 5) (.tmp 6) 30 rfl w.heap.size 58 i0 _ 5 64 Tryz.underlying30 hi hz0 hz1 hz2 rfl (by decide) _ 0 [] rfl HM.out ⟨b, off, none⟩ n cap cs rfl ?d1 (HC.out _) h1 ?d3 ?d4 ?d5 ?_)
      case d1 => exact hcs
      case d3 => unfold maxLen; omega
      case d4 => omega
      case d5 => simp
      intro v' w1 hown hgrow _
      go_wp2
      go_ret
      exact HE.out _ _ hown (((Below.refl _ _).alloc (Nat.le_refl _) _).grown hgrow (by simp) (fun k e => by have := Option.some.inj e; simp at this; omega))

theorem fail_one (fs : List F2) : ∀ u ∈ failCells fs, u.oneCell' = true := by
  intro u hu
  unfold failCells at hu
  obtain ⟨f, _, hu⟩ := List.mem_flatMap.1 hu
  simp at hu
  rcases hu with rfl | rfl <;> rfl
theorem call_one (ts : List T5) : ∀ u ∈ callCells ts, u.oneCell' = true := by
  intro u hu
  unfold callCells at hu
  obtain ⟨f, _, hu⟩ := List.mem_flatMap.1 hu
  simp at hu
  rcases hu with rfl | rfl | rfl | rfl | rfl <;> rfl
theorem fail_len (fs : List F2) : (failCells fs).length = fs.length * 2 := by
  unfold failCells
  induction fs with
  | nil => rfl
  | cons f r ih => rw [List.flatMap_cons, List.length_append, ih, List.length_cons]; simp only [List.length_cons, List.length_nil]; omega
theorem call_len (ts : List T5) : (callCells ts).length = ts.length * 5 := by
  unfold callCells
  induction ts with
  | nil => rfl
  | cons f r ih => rw [List.flatMap_cons, List.length_append, ih, List.length_cons]; simp only [List.length_cons, List.length_nil]; omega

variable {w : World} {p b n : Nat} {S : WS} {val : S8 → S8 → Value} {vf vt : Value} {D : DataW Value}
set_option maxHeartbeats 1600000 in
theorem trace_w (h : WAt w p b n S val vf vt D) (hl : S.trace.length ≤ 1000000) :
    Calls Tryz.prog 16 #[.pointer (some ⟨p, 0, none⟩)] w (ClC 58 5 S.trace.length (callCells S.trace) w) := by
  obtain ⟨P, cap, rfl⟩ := slice_form h.trace
  have c0 : w.cell? ⟨p, 2, none⟩ = some (.slice P S.trace.length cap) := by rw [Lib.cell_of_heap h.box]; rfl
  have CL := clone_calls _ S.trace.length (callCells S.trace) w (CellsAt.row h.trace) (call_len _) (call_one _) hl
  generalize S.trace.length = m at c0 CL ⊢
  generalize callCells S.trace = cs at CL ⊢
  clear h
  go_enter Tryz.func16, Tryz.ntmps16
  go_wp2_with fail
  refine CL.mono ?_
  rintro e w1 ⟨v', rfl, hown, hb⟩
  have HF := Lib.hid (⟨v', rfl, hown, hb⟩ : ClC 58 5 m cs w (.returned v') w1)
  clear hown hb CL
  go_wp2
  go_ret
  exact HF.out

end Go.Proofs.YtpbipngnoklmcaaGreatDoor
namespace Go.Proofs.YtpbipngnoklmcaaGreatDoor
open Go.RowKit
set_option maxRecDepth 100000
attribute [local go_sem] str_size str_toList str_get

/-- v is a slice (perhaps nil) of these objects. -/
def ObjsAt (w : World) (v : Value) (os : List O3) : Prop :=
  ∃ (ao : Option Addr) (cap : Nat), v = .slice ao os.length cap ∧ (os.length ≤ cap ∧ cap ≤ 9223372036854775807 ∧ (ao = none → cap = 0)) ∧ (∀ o ∈ os, fitS o.1 ∧ fitS o.2.1) ∧
    (os ≠ [] → ∃ b off, ao = some ⟨b, off, none⟩ ∧ b < w.heap.size ∧ ∀ (i : Nat) (t j : S8) (x : VT), os[i]? = some (t, j, x) → ∃ ai ci ak ck,
      ValAt w x (.agg #[.int .i64 x.kind, .bool x.flag, str x.text, .slice ai x.items.length ci, .slice ak x.keys.length ck]) ∧
      w.cell? ⟨b, off + i * 7, none⟩ = some (str t) ∧ w.cell? ⟨b, off + i * 7 + 1, none⟩ = some (str j) ∧ w.cell? ⟨b, off + i * 7 + 2, none⟩ = some (.int .i64 x.kind) ∧ w.cell? ⟨b, off + i * 7 + 3, none⟩ = some (.bool x.flag) ∧
      w.cell? ⟨b, off + i * 7 + 4, none⟩ = some (str x.text) ∧ w.cell? ⟨b, off + i * 7 + 5, none⟩ = some (.slice ai x.items.length ci) ∧ w.cell? ⟨b, off + i * 7 + 6, none⟩ = some (.slice ak x.keys.length ck))
theorem ObjsAt.mono {w w' : World} {v : Value} {os : List O3} (h : ObjsAt w v os) (hb : Below w.heap.size w w') : ObjsAt w' v os := by
  obtain ⟨ao, cap, hv, hm, hf, hc⟩ := h
  refine ⟨ao, cap, hv, hm, hf, fun hne => ?_⟩
  obtain ⟨b, off, ha, hlt, hk⟩ := hc hne
  refine ⟨b, off, ha, Nat.lt_of_lt_of_le hlt hb.size, fun i t j x hi => ?_⟩
  obtain ⟨ai, ci, ak, ck, hx, h0, h1, h2, h3, h4, h5, h6⟩ := hk i t j x hi
  have k : ∀ {o : Nat} {u : Value}, w.cell? ⟨b, o, none⟩ = some u → w'.cell? ⟨b, o, none⟩ = some u := fun {o u} hu => (hb.cell (p := ⟨b, o, none⟩) hlt).trans hu
  exact ⟨ai, ci, ak, ck, hx.mono hb, k h0, k h1, k h2, k h3, k h4, k h5, k h6⟩
theorem ObjsAt.nil (w : World) : ObjsAt w (.slice none 0 0) [] := ⟨none, 0, rfl, by simp, by simp, fun h => absurd rfl h⟩

def objV (t j : S8) (x : VT) (ai : Option Addr) (ci : Nat) (ak : Option Addr) (ck : Nat) : Value := .agg #[str t, str j, .int .i64 x.kind, .bool x.flag, str x.text, .slice ai x.items.length ci, .slice ak x.keys.length ck]
set_option maxHeartbeats 1600000 in
/-- What New asks of an object. -/
theorem ask_obj (t j : S8) (x : VT) (ai : Option Addr) (ci : Nat) (ak : Option Addr) (ck : Nat) (w : World) (h : ValAt w x (.agg #[.int .i64 x.kind, .bool x.flag, str x.text, .slice ai x.items.length ci, .slice ak x.keys.length ck])) :
    Calls Tryz.prog 28 #[objV t j x ai ci ak ck] w fun e w' => e = .returned (.bool (!goodA x)) ∧ Below w.heap.size w w' := by
  have GD := fun o => good_w x _ (w.alloc o) (h.mono ((Below.refl _ w).alloc (Nat.le_refl _) o))
  generalize goodA x = g at GD ⊢
  have HG := Lib.hid GD
  clear GD h
  unfold objV
  go_enter Tryz.func28, Tryz.ntmps28
  go_wp2_with fail
  refine (HG.out _).mono ?_
  rintro e w1 ⟨rfl, hb⟩
  have hbw := ((Below.refl _ w).alloc (Nat.le_refl _) _).trans (hb.mono (by simp))
  clear hb HG
  go_wp2
  go_ret
  exact ⟨rfl, hbw⟩

set_option maxHeartbeats 2000000 in
theorem index_objs (os : List O3) (v : Value) (w : World) (h : ObjsAt w v os) :
    Calls Tryz.prog 58 #[v, .func (.func 28) #[] #[]] w fun e w' =>
      ∃ z : Int, e = .returned (.int .i64 z) ∧ decide (0 ≤ z) = !(os.all fun o => goodA o.2.2) ∧ Below w.heap.size w w' := by
  obtain ⟨ao, cap, rfl, hm, hf, hc⟩ := h
  have HC := Lib.hid hc
  have hm1 : os.length ≤ 9223372036854775807 := by omega
  clear hc hf
  go_enter Tryz.func58, Tryz.ntmps58
  go_wp2
  go_loopg [5, 8] os.length (fun gg _ s8 wr => ∃ i : Nat, i + gg = os.length ∧ s8 = .int .i64 i ∧ Hid ((os.take i).all (fun o => goodA o.2.2) = true) ∧ Below w.heap.size w wr)
  case atStart => exact ⟨0, by omega, rfl, rfl, Below.refl _ _⟩
  case round =>
    obtain ⟨i, hig, rfl, HA, hbr⟩ := hrel
    cases gk with
    | zero =>
      obtain rfl : i = os.length := by omega
      have := HA.out
      rw [List.take_length] at this
      have HF := Lib.hid this
      clear this
      go_wp2
      go_ret
      exact ⟨-1, rfl, by rw [HF.out]; rfl, hbr⟩
    | succ gg =>
      have hin : i < os.length := by omega
      have hie : (i : Int) < (os.length : Int) := by omega
      obtain ⟨b, off, rfl, hlt, hk⟩ := HC.out (by rintro rfl; simp at hin)
      obtain ⟨t, j, x, hox⟩ : ∃ t j x, os[i] = (t, j, x) := ⟨_, _, _, rfl⟩
      obtain ⟨ai, ci, ak, ck, hx, k0, k1, k2, k3, k4, k5, k6⟩ := hk i t j x (by rw [List.getElem?_eq_getElem hin, hox])
      have q : ∀ {o : Nat} {u : Value}, w.cell? ⟨b, o, none⟩ = some u → wr.cell? ⟨b, o, none⟩ = some u := fun {o u} hu => (hbr.cell (p := ⟨b, o, none⟩) hlt).trans hu
      have k0 := q k0
      have k1 := q k1
      have k2 := q k2
      have k3 := q k3
      have k4 := q k4
      have k5 := q k5
      have k6 := q k6
      have AO := ask_obj t j x ai ci ak ck wr (hx.mono hbr)
      unfold objV at AO
      have HT : Hid (goodA x = true → (os.take (i + 1)).all (fun o => goodA o.2.2) = true) := fun hg => by
        rw [List.take_succ_eq_append_getElem hin, List.all_append, HA.out, hox]
        simp [hg]
      have HF : Hid (goodA x = false → os.all (fun o => goodA o.2.2) = false) := fun hg => by
        rw [List.all_eq_false]
        exact ⟨(t, j, x), by rw [← hox]; exact List.getElem_mem hin, by simp [hg]⟩
      generalize goodA x = g at AO HT HF
      clear q hk hox hx
      go_wp2_with fail
      refine AO.mono ?_
      rintro e w1 ⟨rfl, hb1⟩
      have hb2 := hbr.trans (hb1.mono hbr.size)
      cases g with
      | true =>
        have HT' := Lib.hid (HT.out rfl)
        clear HT HF
        go_wp2
        go_roundg gg
        case measure => omega
        case rel => exact ⟨i + 1, by omega, by go_num, HT', hb2⟩
      | false =>
        have HF' := Lib.hid (HF.out rfl)
        clear HT HF
        go_wp2
        go_ret
        exact ⟨i, rfl, by rw [HF'.out]; simp, hb2⟩

set_option maxHeartbeats 1600000 in
theorem contains_objs (os : List O3) (v : Value) (w : World) (h : ObjsAt w v os) :
    Calls Tryz.prog 27 #[v, .func (.func 28) #[] #[]] w fun e w' =>
      e = .returned (.bool (!(os.all fun o => goodA o.2.2))) ∧ Below w.heap.size w w' := by
  have C := index_objs os v w h
  obtain ⟨ao, cap, rfl, _⟩ := h
  generalize (!(os.all fun o => goodA o.2.2)) = B at C ⊢
  generalize os.length = m at C ⊢
  go_enter Tryz.func27, Tryz.ntmps27
  go_wp2_with fail
  refine C.mono ?_
  rintro e w1 ⟨z, rfl, hz, hb⟩
  have HZ := Lib.hid hz
  clear hz C
  go_wp2
  go_ret
  exact ⟨by rw [← HZ.out]; rfl, hb⟩

end Go.Proofs.YtpbipngnoklmcaaGreatDoor
