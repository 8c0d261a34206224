/- What a range over the world's map has collected. No walk. Plain: rows of objects of the call's own, with their values; what Objects leaves. No walk. cmp.Compare at texts, cmp.Or at two numbers; what Objects sorts by. Printed by genwldt.py. Plain: a row of objects of the call's own, sorted by the library; values of one's own in another order. No walk. -/
import Derived.Test.YtpbipngnoklmcaaGreatDoorMWldM
import Derived.Maps.RangeWalk
import Derived.Test.YtpbipngnoklmcaaGreatDoorMWldO
import Derived.Test.YtpbipngnoklmcaaGreatDoorMStepA
import Derived.Test.YtpbipngnoklmcaaGreatDoorMWldF
import Derived.Deep.RegionWith
import Derived.Shelf.SlSortCmp.WholeK
import Derived.Shelf.SlSortCmp.NoneTotal
namespace Go.Proofs.YtpbipngnoklmcaaGreatDoor
open Go.RowKit
set_option maxRecDepth 100000

theorem same_klW {a b t i : S8} (ha : fitS a) (hb : fitS b) (ht : fitS t) (hi : fitS i) : (klW a b).sameKey (klW t i) = ((a == t) && (b == i)) := by
  by_cases he : a = t ∧ b = i
  · obtain ⟨rfl, rfl⟩ := he
    simp only [beq_self_eq_true, Bool.and_self]
    unfold klW Lit.sameKey
    simp
  · have hne : klW a b ≠ klW t i := fun e => he (klW_inj ha hb ht hi e)
    rw [Maps.sameKey_ne hne]
    symm
    rw [Bool.and_eq_false_iff]
    by_cases h1 : a = t
    · exact .inr (by simpa using fun e => he ⟨h1, e⟩)
    · exact .inl (by simpa using h1)

/-- acc is what has come of objs; left says of each key whether it is still to come. -/
structure ColR (left : Lit → Bool) (objs acc : List O3) : Prop where
  left : ∀ t i, fitS t → fitS i → left (klW t i) = (hasO objs t i && !hasO acc t i)
  mem : ∀ o ∈ acc, o ∈ objs
theorem ColR.start {D : DataW Value} {objs : List O3} {val : S8 → S8 → Value} (h : MapRel D objs val) : ColR (Maps.has D) objs [] :=
  ⟨fun t i ht hi => by rw [(h t i ht hi).1]; simp [hasO], fun o ho => by cases ho⟩
theorem hasO_snoc (acc : List O3) (o : O3) (t i : S8) : hasO (acc ++ [o]) t i = (hasO acc t i || ((o.1 == t) && (o.2.1 == i))) := by
  unfold hasO isO
  rw [List.any_append]
  simp
theorem ColR.step {left : Lit → Bool} {objs acc : List O3} (h : ColR left objs acc) {t i : S8} (ht : fitS t) (hi : fitS i) (hl : left (klW t i) = true) :
    ∃ x, (t, i, x) ∈ objs ∧ hasO acc t i = false ∧ ColR (fun z => left z && !z.sameKey (klW t i)) objs (acc ++ [(t, i, x)]) := by
  have h1 := h.left t i ht hi
  rw [hl] at h1
  obtain ⟨h2, h3⟩ := (Bool.and_eq_true _ _).mp h1.symm
  obtain ⟨x, hx⟩ := hasO_iff.1 h2
  refine ⟨x, hx, by simpa using h3, fun a b ha hb => ?_, fun o ho => ?_⟩
  · show (left (klW a b) && !(klW a b).sameKey (klW t i)) = _
    rw [h.left a b ha hb, same_klW ha hb ht hi, hasO_snoc]
    show _ = (hasO objs a b && !(hasO acc a b || ((t == a) && (i == b))))
    rw [show (t == a) = (a == t) from BEq.comm, show (i == b) = (b == i) from BEq.comm]
    cases hasO objs a b <;> cases hasO acc a b <;> cases (a == t) <;> cases (b == i) <;> rfl
  · rcases List.mem_append.1 ho with ho | ho
    · exact h.mem o ho
    · simp at ho
      subst ho
      exact hx
theorem ColR.done {left : Lit → Bool} {objs acc : List O3} (h : ColR left objs acc) (hl : ∀ z, left z = false) (hf : fitO objs) (hr : risO objs) (o : O3) : o ∈ acc ↔ o ∈ objs := by
  refine ⟨h.mem o, fun ho => ?_⟩
  obtain ⟨f1, f2⟩ := hf o ho
  have h1 := h.left o.1 o.2.1 f1 f2
  rw [hl, hasO_iff.2 ⟨o.2.2, ho⟩] at h1
  have h2 : hasO acc o.1 o.2.1 = true := by simpa using h1
  obtain ⟨v, hv⟩ := hasO_iff.1 h2
  have := ris_one hr (h.mem _ hv) ho
  subst this
  exact hv
/-- The collected objects, put in order, are the world's. -/
theorem ColR.sorted {left : Lit → Bool} {objs acc l : List O3} (h : ColR left objs acc) (hl : ∀ z, left z = false) (hf : fitO objs) (hr : risO objs) (hp : l.Perm acc) (hs : risO l) : l = objs :=
  ris_ext hs hr fun o => by rw [hp.mem_iff, h.done hl hf hr]

end Go.Proofs.YtpbipngnoklmcaaGreatDoor
namespace Go.Proofs.YtpbipngnoklmcaaGreatDoor
open Go.RowKit
set_option maxRecDepth 100000

theorem strNeO : (9 : TypeId) ≠ 47 := by decide
theorem valNeO : (41 : TypeId) ≠ 47 := by decide
theorem owns_kinds {w : World} : ∀ {ts : List VT} {vs : List Value} {F : List Nat}, OwnVals w ts vs F → ∀ q ∈ F, ∃ cs fz, w.heap[q]? = some (.cells cs 9 fz) ∨ w.heap[q]? = some (.cells cs 41 fz)
  | [], vs, F, h => by rw [OwnVals] at h; rw [h.2]; intro q hq; cases hq
  | t :: r, vs, F, h => by
    obtain ⟨x, ys, Fx, Fr, rfl, rfl, hx, hr⟩ := h.head
    intro q hq
    rcases List.mem_append.1 hq with hq | hq
    · exact own_kinds hx q hq
    · exact owns_kinds hr q hq
/-- A row of objects of the call's own, with their values, all in memory behind w0. -/
def ObjL (w0 : World) (rs : List R3) (v : Value) (F : List Nat) (w : World) : Prop :=
  w.ownsRow w0.heap.size 47 7 v rs.length (rowC rs) ∧ OwnVals w (rs.map fun r => r.1.2.2) (rs.map rV) F ∧ F.Nodup ∧ (∀ q ∈ F, w0.heap.size ≤ q) ∧ Below w0.heap.size w0 w
theorem ObjL.nil (w : World) : ObjL w [] (.slice none 0 0) [] w := ⟨World.ownsRow_nil _ _ _ _, by rw [List.map_nil, List.map_nil, OwnVals]; exact ⟨rfl, rfl⟩, by simp, (fun q hq => by cases hq), Below.refl _ _⟩
theorem ObjL.apart {w0 w : World} {rs : List R3} {v : Value} {F : List Nat} (h : ObjL w0 rs v F w) {q : Nat} (hq : q ∈ F) : v.ownBlock ≠ some q := fun e => by
  obtain ⟨cs, hh⟩ := row_block h.1 e
  obtain ⟨cs', fz, hk⟩ := owns_kinds h.2.1 q hq
  rcases hk with hk | hk <;> rw [hh] at hk <;> injection hk with hk <;> injection hk with _ e _
  · exact strNeO e.symm
  · exact valNeO e.symm
theorem ObjL.stays {w0 w w' : World} {rs : List R3} {v : Value} {F : List Nat} (h : ObjL w0 rs v F w) (hb : Below w.heap.size w w') : ObjL w0 rs v F w' := by
  obtain ⟨h1, h2, h3, h4, h5⟩ := h
  refine ⟨row_keep h1 fun q hq => ?_, h2.keep fun q hq => hb.block q (h2.lt q hq), h3, h4, h5.trans (hb.mono h5.size)⟩
  obtain ⟨_, hh⟩ := row_block h1 hq
  exact hb.block q (heap_lt hh)
theorem ObjL.push {w0 wr w1 w3 : World} {rs : List R3} {r : R3} {vo v' : Value} {F Fx : List Nat} {o : Obj} (h : ObjL w0 rs vo F wr) (hb : Below wr.heap.size wr w1) (hx : OwnVal w1 r.1.2.2 (rV r) Fx) (hd : Fx.Nodup) (hF : ∀ q ∈ Fx, wr.heap.size ≤ q)
    (hown : w3.ownsRow w0.heap.size 47 7 v' (rs.length + 1) (rowC rs ++ rcells r)) (hg : (w1.alloc o).grownBy w3 vo.ownBlock) : ObjL w0 (rs ++ [r]) v' (F ++ Fx) w3 := by
  have h1 := h.stays hb
  have hap := fun q (hq : q ∈ F) => h1.apart hq
  obtain ⟨h1, h2, h3, h4, h5⟩ := h1
  have hlt := h.2.1.lt
  have hk : ∀ q, q < w1.heap.size → vo.ownBlock ≠ some q → w3.heap[q]? = w1.heap[q]? := fun q hq hn => by
    rw [hg.block q (by simp only [World.alloc, Array.size_push]; omega) (fun e => hn e.symm)]
    exact Below.heap_alloc _ _ q hq
  have hxk : ∀ q ∈ Fx, vo.ownBlock ≠ some q := fun q hq e => by
    have := (h.1.lt q e).2
    have := hF q hq
    omega
  refine ⟨?_, ?_, ?_, ?_, ?_⟩
  · rw [List.length_append, rowC_snoc]
    exact hown
  · rw [List.map_append, List.map_append]
    exact (h2.keep fun q hq => hk q (h2.lt q hq) (hap q hq)).append (OwnVals.one (hx.keep fun q hq => hk q (hx.lt q hq) (hxk q hq)))
  · rw [List.nodup_append]
    exact ⟨h3, hd, fun a ha b hb' e => by have := hlt a ha; have := hF b hb'; omega⟩
  · intro q hq
    rcases List.mem_append.1 hq with hq | hq
    · exact h4 q hq
    · have := hF q hq
      have := h.2.2.2.2.size
      omega
  · have hb1 : Below w0.heap.size w0 (w1.alloc o) := h5.alloc h5.size _
    exact hb1.grown hg hb1.size fun k e => (h.1.lt k e).1
/-- The row reads as objects. -/
theorem ObjL.objs {w0 w : World} {rs : List R3} {v : Value} {F : List Nat} (h : ObjL w0 rs v F w) (hf : fitO (osR rs)) : ObjsAt w v (osR rs) := by
  refine objs_of_rows (CellsAt.row h.1) (fun r hr => ?_) hf
  obtain ⟨h1, h2, _⟩ := h
  have go : ∀ (l : List R3) (F : List Nat), OwnVals w (l.map fun r => r.1.2.2) (l.map rV) F → ∀ r ∈ l, ValAt w r.1.2.2 (rV r) := by
    intro l
    induction l with
    | nil => intro F _ r hr; cases hr
    | cons x l ih =>
      intro F hF r hr
      rw [List.map_cons, List.map_cons, OwnVals] at hF
      obtain ⟨y, ys, Fx, Fr, he, rfl, hx, hrr⟩ := hF
      injection he with e1 e2
      subst e1 e2
      rcases List.mem_cons.1 hr with rfl | hr
      · exact hx.at
      · exact ih Fr hrr r hr
  exact go rs F h2 r hr
variable {w : World} {p b n : Nat} {S : WS} {val : S8 → S8 → Value} {vf vt : Value} {D : DataW Value}
/-- What Objects leaves. -/
def ObjPost (S : WS) (w : World) (e : Ending) (w' : World) : Prop := ∃ rs v F, e = .returned v ∧ osR rs = S.objs ∧ ObjL w rs v F w'
theorem ObjPost.done {left : Lit → Bool} {rs ts : List R3} {v : Value} {F : List Nat} {w' : World} (hc : ColR left S.objs (osR rs)) (hl : ∀ z, left z = false) (hf : fitO S.objs) (hr : risO S.objs) (hp : ts.Perm rs) (hs : risO (osR ts)) (h : ObjL w ts v F w') : ObjPost S w (.returned v) w' :=
  ⟨ts, v, F, rfl, hc.sorted hl hf hr (hp.map _) hs, h⟩

theorem val_cells {x : VT} {v : Value} {F : List Nat} (h : OwnVal w x v F) : ∃ ai ci ak ck, v = .agg #[.int .i64 x.kind, .bool x.flag, str x.text, .slice ai x.items.length ci, .slice ak x.keys.length ck] := by
  obtain ⟨ai, ci, ak, ck, h⟩ := h.at.form
  exact ⟨ai, ci, ak, ck, h⟩

/-- Names that differ, two by two. -/
def apartO (l : List O3) : Prop := l.Pairwise fun a b => ¬ (a.1 = b.1 ∧ a.2.1 = b.2.1)
theorem apart_len : ∀ {acc l : List O3}, apartO acc → (∀ o ∈ acc, o ∈ l) → acc.length ≤ l.length
  | [], _, _, _ => Nat.zero_le _
  | a :: acc, l, h, hm => by
    obtain ⟨h1, h2⟩ := List.pairwise_cons.1 h
    have hlt : (outO l a.1 a.2.1).length < l.length := by
      unfold outO
      exact List.length_filter_lt_length_iff_exists.2 ⟨a, hm a (by simp), by simp [isO_self]⟩
    have := apart_len (acc := acc) (l := outO l a.1 a.2.1) h2 fun o ho => mem_outO.2 ⟨hm o (by simp [ho]), isO_of_ne fun e => h1 o ho ⟨e.1.symm, e.2.symm⟩⟩
    rw [List.length_cons]
    omega
theorem apart_snoc {acc : List O3} {t i : S8} {x : VT} (h : apartO acc) (hn : hasO acc t i = false) : apartO (acc ++ [(t, i, x)]) := by
  unfold apartO
  rw [List.pairwise_append]
  refine ⟨h, List.pairwise_singleton _ _, fun o ho q hq e => ?_⟩
  have : q = (t, i, x) := by simpa using hq
  subst this
  have : hasO acc t i = true := List.any_eq_true.2 ⟨o, ho, isO_iff.2 e⟩
  rw [hn] at this
  cases this
theorem osR_snoc (rs : List R3) (r : R3) : osR (rs ++ [r]) = osR rs ++ [r.1] := by unfold osR; rw [List.map_append]; rfl

end Go.Proofs.YtpbipngnoklmcaaGreatDoor
namespace Go.Proofs.YtpbipngnoklmcaaGreatDoor
open Go.RowKit
set_option maxRecDepth 100000
attribute [local go_sem] str_size str_toList str_get

theorem nan_cmp (a : List UInt8) (w : World) : Calls Tryz.prog 71 #[str a] w fun e w' => e = .returned (.bool false) ∧ w' = w := by
  go_enter Tryz.func71, Tryz.ntmps71
  go_wp2
  go_ret
  exact ⟨by simp, rfl⟩
theorem compare_str (a b : List UInt8) (w : World) : Calls Tryz.prog 49 #[str a, str b] w fun e w' => e = .returned (.int .i64 (ordS a b)) ∧ w' = w := by
  have hl1 := bytesLess_eq a b
  have hl2 := bytesLess_eq b a
  obtain ⟨r, hr⟩ : ∃ r, ordS a b = r := ⟨_, rfl⟩
  rw [hr]
  unfold ordS at hr
  cases h1 : ltS a b with
  | true =>
    rw [h1] at hr hl1
    rw [if_pos rfl] at hr
    subst hr
    clear hl2 h1
    go_enter Tryz.func49, Tryz.ntmps49
    go_wp2_with (go_at_call 71; refine (nan_cmp _ _).mono ?_; rintro e w' ⟨rfl, rfl⟩)
    go_ret
    exact ⟨rfl, rfl⟩
  | false =>
    rw [h1] at hr hl1
    rw [if_neg Bool.false_ne_true] at hr
    cases h2 : ltS b a with
    | true =>
      rw [h2] at hr hl2
      rw [if_pos rfl] at hr
      subst hr
      have hne : (a == b) = false := by
        rw [beq_eq_false_iff_ne]
        rintro rfl
        rw [h1] at h2
        cases h2
      clear h1 h2
      go_enter Tryz.func49, Tryz.ntmps49
      go_wp2_with (go_at_call 71; refine (nan_cmp _ _).mono ?_; rintro e w' ⟨rfl, rfl⟩)
      go_ret
      exact ⟨rfl, rfl⟩
    | false =>
      rw [h2] at hr hl2
      rw [if_neg Bool.false_ne_true] at hr
      subst hr
      obtain rfl := ltS_tri h1 h2
      clear h1 h2
      go_enter Tryz.func49, Tryz.ntmps49
      go_wp2_with (go_at_call 71; refine (nan_cmp _ _).mono ?_; rintro e w' ⟨rfl, rfl⟩)
      go_ret
      exact ⟨rfl, rfl⟩
theorem or_two (a b : Int) (g : Nat) (w : World) (h0 : w.cell? ⟨g, 0, none⟩ = some (.int .i64 a)) (h1 : w.cell? ⟨g, 1, none⟩ = some (.int .i64 b)) :
    Calls Tryz.prog 48 #[.slice (some ⟨g, 0, none⟩) 2 2] w fun e w' => e = .returned (.int .i64 (if a = 0 then b else a)) ∧ w' = w := by
  obtain ⟨R, hR⟩ : ∃ R, (if a = 0 then b else a) = R := ⟨_, rfl⟩
  rw [hR]
  have HR := Lib.hid hR
  clear hR
  go_enter Tryz.func48, Tryz.ntmps48
  go_wp2
  go_loopg [8] 2 (fun gk v8 wr => ∃ i : Nat, i + gk = 2 ∧ v8 = .int .i64 i ∧ Hid (0 < i → a = 0) ∧ Hid (1 < i → b = 0) ∧ wr = w)
  case atStart => exact ⟨0, by omega, rfl, fun h => by omega, fun h => by omega, rfl⟩
  case round =>
    obtain ⟨i, hig, rfl, HA, HB, hwr⟩ := hrel
    subst hwr
    cases gk with
    | zero =>
      obtain rfl : i = 2 := by omega
      obtain rfl : 0 = R := by rw [← HR.out, if_pos (HA.out (by omega)), HB.out (by omega)]
      go_wp2
      go_ret
      exact ⟨rfl, rfl⟩
    | succ g' =>
      have hi2 : i = 0 ∨ i = 1 := by omega
      rcases hi2 with rfl | rfl
      · by_cases ha : a = 0
        · subst ha
          clear HA HB
          go_wp2
          go_roundg 1
          case measure => omega
          case rel => exact ⟨1, by omega, (by first | trivial | rfl), (by first | trivial | exact fun _ => trivial | exact fun _ => rfl), (by first | trivial | exact fun h => absurd h (by omega)), (by first | trivial | rfl)⟩
        · obtain rfl : a = R := by rw [← HR.out, if_neg ha]
          have hzb : (a == 0) = false := by simpa using ha
          have hzc : (a != 0) = true := by simpa using ha
          clear HA HB HR ha
          go_wp2
          go_ret
          exact ⟨rfl, rfl⟩
      · have ha := HA.out (by omega)
        obtain rfl : b = R := by rw [← HR.out, if_pos ha]
        by_cases hb : b = 0
        · subst hb
          clear HA HB HR
          have HA := Lib.hid ha
          clear ha
          go_wp2
          go_roundg 0
          case measure => omega
          case rel => exact ⟨2, by omega, (by first | trivial | rfl), (by first | trivial | exact fun _ => HA.out), (by first | trivial | exact fun _ => trivial | exact fun _ => rfl), (by first | trivial | rfl)⟩
        · have hzb : (b == 0) = false := by simpa using hb
          have hzc : (b != 0) = true := by simpa using hb
          clear HA HB HR hb ha
          go_wp2
          go_ret
          exact ⟨rfl, rfl⟩

/-- What Objects sorts by. -/
def ordO (a b : O3) : Int := if ordS a.1 b.1 = 0 then ordS a.2.1 b.2.1 else ordS a.1 b.1
theorem ordO_lt (a b : O3) : ordO a b < 0 ↔ ltO a b = true := by
  unfold ordO ltO ordS
  cases h1 : ltS a.1 b.1 with
  | true => simp
  | false =>
    cases h2 : ltS b.1 a.1 with
    | true =>
      have hne : ¬ a.1 = b.1 := fun e => by rw [e, ltS_irr] at h2; cases h2
      simp [hne]
    | false =>
      have he := ltS_tri h1 h2
      simp only [he, beq_self_eq_true, Bool.true_and, Bool.false_or]
      cases h3 : ltS a.2.1 b.2.1 with
      | true => simp
      | false => cases h4 : ltS b.2.1 a.2.1 <;> simp

theorem cells2_new (W : World) (x y : Value) (T : TypeId) : (W.alloc (.cells #[x, y] T)).cell? ⟨W.heap.size, 0, none⟩ = some x ∧ (W.alloc (.cells #[x, y] T)).cell? ⟨W.heap.size, 1, none⟩ = some y := by
  have h := heap_alloc_new W (.cells #[x, y] T)
  constructor
  · rw [Lib.cell_of_heap h]; rfl
  · rw [Lib.cell_of_heap h]; rfl
set_option maxHeartbeats 4000000 in
theorem cmp_objs (t j t' j' : S8) (w : World) (c2 c3 c4 c5 c6 d2 d3 d4 d5 d6 : Value) :
    Calls Tryz.prog 47 #[.agg #[str t, str j, c2, c3, c4, c5, c6], .agg #[str t', str j', d2, d3, d4, d5, d6]] w fun e w' =>
      e = .returned (.int .i64 (if ordS t t' = 0 then ordS j j' else ordS t t')) ∧ ∃ q os', w' = Sort.grow (w.drewN q) os' := by
  have mixed : Tryz.prog.follows .mixedOrders = true := by kernel_rfl
  have CC := fun (a b : S8) (W : World) => compare_str a b W
  generalize ordS = f at CC ⊢
  obtain ⟨x, hx⟩ : ∃ x, f t t' = x := ⟨_, rfl⟩
  obtain ⟨y, hy⟩ : ∃ y, f j j' = y := ⟨_, rfl⟩
  rw [hx, hy]
  obtain ⟨z, hz⟩ : ∃ z : Int, (if x = 0 then y else x) = z := ⟨_, rfl⟩
  have OR : ∀ W : World, Calls Tryz.prog 48 #[.slice (some ⟨W.heap.size, 0, none⟩) 2 2] (W.alloc (.cells #[.int .i64 x, .int .i64 y] 3)).drew fun e w' => e = .returned (.int .i64 z) ∧ w' = (W.alloc (.cells #[.int .i64 x, .int .i64 y] 3)).drew := fun W => by
    rw [← hz]
    exact or_two x y W.heap.size _ (cells2_new W _ _ _).1 (cells2_new W _ _ _).2
  rw [hz]
  obtain ⟨w1, hw1⟩ : ∃ w1, w1 = w.alloc (.cells #[str t, str j, c2, c3, c4, c5, c6] 47) := ⟨_, rfl⟩
  obtain ⟨w2, hw2⟩ : ∃ w2, w2 = w1.alloc (.cells #[str t', str j', d2, d3, d4, d5, d6] 47) := ⟨_, rfl⟩
  have hg : ∃ os, w2 = Sort.grow w os := ⟨_, by rw [hw2, hw1, Sort.alloc_eq_grow, Sort.alloc_eq_grow, Sort.grow_grow]⟩
  have s1 : w1.heap.size = w.heap.size + 1 := by rw [hw1]; simp only [World.alloc, Array.size_push]
  have n1 : w1.heap[w.heap.size]? = some (.cells #[str t, str j, c2, c3, c4, c5, c6] 47 (0, 0)) := by rw [hw1]; exact heap_alloc_new _ _
  have n2 : w2.heap[w1.heap.size]? = some (.cells #[str t', str j', d2, d3, d4, d5, d6] 47 (0, 0)) := by rw [hw2]; exact heap_alloc_new _ _
  have b1 : Below w.heap.size w w1 := by rw [hw1]; exact (Below.refl _ w).alloc (Nat.le_refl _) _
  have b2 : Below w1.heap.size w1 w2 := by rw [hw2]; exact (Below.refl _ w1).alloc (Nat.le_refl _) _
  have m1 := (b2.block _ (heap_lt n1)).trans n1
  have hb := b1.trans (b2.mono b1.size)
  rw [s1] at n2
  have k0 : w2.cell? ⟨w.heap.size, 0, none⟩ = some (str t) := by rw [Lib.cell_of_heap m1]; rfl
  have k1 : w2.cell? ⟨w.heap.size, 1, none⟩ = some (str j) := by rw [Lib.cell_of_heap m1]; rfl
  have l0 : w2.cell? ⟨w.heap.size + 1, 0, none⟩ = some (str t') := by rw [Lib.cell_of_heap n2]; rfl
  have l1 : w2.cell? ⟨w.heap.size + 1, 1, none⟩ = some (str j') := by rw [Lib.cell_of_heap n2]; rfl
  clear m1 n1 n2 b1 b2 hz s1
  go_enter Tryz.func47, Tryz.ntmps47
  go_upto_region 1 with fail
  rw [← hw1, ← hw2]
  clear hw1 hw2
  go_region_law_o (first
    | (go_simp; go_at_call 49; refine (CC _ _ _).mono ?_; rintro e w' ⟨rfl, hw'⟩; rw [hw']; clear hw' w')
    | (go_simp; go_at_call 48; refine (OR _).mono ?_; rintro e w' ⟨rfl, hw'⟩; rw [hw']; clear hw' w'))
  all_goals
    go_wp2
    go_ret
    obtain ⟨os, hos⟩ := hg
    exact ⟨rfl, 1, _, by rw [hos, Sort.alloc_eq_grow, Sort.grow_grow]; rfl⟩

end Go.Proofs.YtpbipngnoklmcaaGreatDoor
namespace Go.Proofs.YtpbipngnoklmcaaGreatDoor
open Go.RowKit Go.Sort
set_option maxRecDepth 100000

instance : Inhabited R3 := ⟨((([], [], VT.none) : O3), (none, 0, none, 0))⟩

theorem flat_row (rs : List R3) : flatK rcells 7 rs.toArray = (rowC rs).toArray := by
  refine ext_get! (by simp [rowC_len]) fun t ht => ?_
  have ht' : t < rs.toArray.size * 7 := by simpa using ht
  rw [get_flatK _ _ _ t ht']
  have hl : t < rs.length * 7 := by simpa using ht'
  have hi : t / 7 < rs.length := by omega
  have hd : rs.toArray[t / 7]! = rs[t / 7] := by simp [hi]
  have h := rowC_get rs (t / 7) rs[t / 7] (t % 7) (List.getElem?_eq_getElem hi) (by omega)
  rw [show t / 7 * 7 + t % 7 = t by omega] at h
  rw [hd]
  have hl2 : t < (rowC rs).length := by rw [rowC_len]; exact hl
  have hl3 : t % 7 < (rcells rs[t / 7]).length := by simp only [rcells, List.length_cons, List.length_nil]; omega
  rw [List.getElem?_eq_getElem hl2, List.getElem?_eq_getElem hl3] at h
  have h := Option.some.inj h
  rw [getElem!_pos (rcells rs[t / 7]) (t % 7) hl3, getElem!_pos (rowC rs).toArray t (by simpa using hl2)]
  simpa using h.symm
theorem take_put (cur : Array Value) (cs : List Value) (h : cs.length ≤ cur.size) : (putCells id 0 cs.toArray cur).toList.take cs.length = cs := by
  apply List.ext_getElem?
  intro j
  by_cases hj : j < cs.length
  · rw [List.getElem?_take_of_lt hj, Array.getElem?_toList]
    simp [putCells, hj, show j < cur.size by omega]
  · rw [List.getElem?_take_eq_none (by omega), List.getElem?_eq_none (by omega)]
/-- What the sort is told of the row. -/
theorem holds_row {w : World} {base e : Nat} {g cap n : Nat} {rs : List R3} (h : w.ownsRow base e 7 (.slice (some ⟨g, 0, none⟩) n cap) rs.length (rowC rs)) : HoldsK rcells 7 w g 0 rs.toArray := by
  unfold HoldsK
  rw [flat_row]
  rcases h.2 with ⟨h1, _⟩ | ⟨g', c', cur, hv, _, hh, _, _, _, ht⟩
  · cases h1
  · cases hv
    intro j hj
    have hj' : j < (rowC rs).length := by simpa using hj
    refine ⟨?_, Lib.frozen_of_heap hh _⟩
    have := h.cells rfl j (rowC rs)[j] (List.getElem?_eq_getElem hj')
    rw [Addr.add_lit] at this
    rw [this]
    simp [hj']
/-- The row behind the sort. -/
theorem row_sorted {w : World} {base e : Nat} {g cap n m : Nat} {os : Array Obj} {rs ts : List R3} (h : w.ownsRow base e 7 (.slice (some ⟨g, 0, none⟩) n cap) rs.length (rowC rs)) (hl : ts.length = rs.length) :
    (Go.Proofs.sortWorldK rcells 7 w g 0 m ts.toArray os).ownsRow base e 7 (.slice (some ⟨g, 0, none⟩) n cap) rs.length (rowC ts) := by
  rcases h.2 with ⟨h1, _⟩ | ⟨g', c', cur, hv, hb, hh, h3, h4, h5, ht⟩
  · cases h1
  · cases hv
    have hg : g < w.heap.size := heap_lt hh
    refine ⟨by rw [rowC_len, hl], .inr ⟨g, cap, putCells id 0 (rowC ts).toArray cur, rfl, hb, ?_, h3, h4, by simp [putCells, h5], ?_⟩⟩
    · unfold Go.Proofs.sortWorldK putRowK
      rw [flat_row, Sort.heap_grow_old _ _ (by simpa using hg)]
      simp [putRow, mapBlock, Sort.ahead, Array.getElem?_modify, hh, onCells]
    · rw [show rs.length * 7 = (rowC ts).length by rw [rowC_len, hl]]
      exact take_put cur _ (by rw [rowC_len, hl, h5]; exact Nat.mul_le_mul_right 7 h3)
theorem sorted_spares {w : World} {g m : Nat} {os : Array Obj} (d : Array R3) : Spares [g] w (Go.Proofs.sortWorldK rcells 7 w g 0 m d os) := by
  refine ⟨rfl, rfl, rfl, by simp [Go.Proofs.sortWorldK, putRowK, Sort.grow, putRow, mapBlock, Sort.ahead], fun k hk hn => ?_⟩
  have hne : g ≠ k := fun e => hn (by simp [e])
  unfold Go.Proofs.sortWorldK putRowK
  rw [Sort.heap_grow_old _ _ (by simpa using hk)]
  simp [putRow, mapBlock, Sort.ahead, Array.getElem?_modify, hne]

/-- By type, then by ID: a strict weak order. -/
theorem swoO : SWO (Go.Proofs.ltOf fun x y : R3 => ordO x.1 y.1) := by
  have e : ∀ x y : R3, Go.Proofs.ltOf (fun x y : R3 => ordO x.1 y.1) x y = ltO x.1 y.1 := fun x y => by
    unfold Go.Proofs.ltOf
    rw [Bool.eq_iff_iff, decide_eq_true_eq]
    exact ordO_lt x.1 y.1
  refine ⟨fun x => by rw [e]; exact ltO_irr _, fun x y z h1 h2 => by rw [e] at *; exact ltO_trans h1 h2, fun x y z h1 h2 => ?_⟩
  rw [e] at *
  cases h : ltO x.1 z.1 with
  | false => rfl
  | true =>
    exfalso
    cases h3 : ltO y.1 x.1 with
    | true =>
      have := ltO_trans h3 h
      rw [h2] at this
      cases this
    | false =>
      obtain ⟨e1, e2⟩ := ltO_tri h1 h3
      have : ltO y.1 z.1 = true := by
        rw [ltO_iff] at h ⊢
        rw [← e1, ← e2]
        exact h
      rw [h2] at this
      cases this
/-- Sorted, and each name once: rising. -/
theorem sorted_ris {rs ts : List R3} (hs : SortedIn (Go.Proofs.ltOf fun x y : R3 => ordO x.1 y.1) 0 rs.length ts.toArray) (hp : ts.Perm rs) (ha : apartO (osR rs)) : risO (osR ts) := by
  have hl := hp.length_eq
  have hat : apartO (osR ts) := by
    unfold apartO at ha ⊢
    exact ((hp.map fun r : R3 => r.1).pairwise_iff (fun {a b} h e => h ⟨e.1.symm, e.2.symm⟩)).2 ha
  refine List.pairwise_iff_getElem.2 fun i j hi hj hij => ?_
  have h1 := List.pairwise_iff_getElem.1 hat i j hi hj hij
  rw [osR_len] at hi hj
  have h2 := hs i j (Nat.zero_le _) hij (by omega)
  have e : ltO (osR ts)[j] (osR ts)[i] = false := by
    unfold Go.Proofs.ltOf at h2
    rw [decide_eq_false_iff_not, ordO_lt] at h2
    simp only [List.getElem!_toArray, getElem!_pos ts i hi, getElem!_pos ts j hj] at h2
    simpa [osR] using h2
  cases h3 : ltO (osR ts)[i] (osR ts)[j] with
  | true => rfl
  | false => exact absurd (ltO_tri h3 e) h1

/-- Values of one's own, in another order. -/
theorem OwnVals.perm {w : World} {rs ts : List R3} (hp : rs.Perm ts) : ∀ {F : List Nat}, OwnVals w (rs.map fun r => r.1.2.2) (rs.map rV) F → ∃ G, F.Perm G ∧ OwnVals w (ts.map fun r => r.1.2.2) (ts.map rV) G := by
  induction hp with
  | nil => intro F h; exact ⟨F, List.Perm.refl _, h⟩
  | cons x p ih =>
    intro F h
    rw [List.map_cons, List.map_cons, OwnVals] at h
    obtain ⟨v, vs, Fx, Fr, he, rfl, hx, hr⟩ := h
    injection he with e1 e2
    subst e1 e2
    obtain ⟨G, hG, hv⟩ := ih hr
    refine ⟨Fx ++ G, List.Perm.append_left _ hG, ?_⟩
    rw [List.map_cons, List.map_cons, OwnVals]
    exact ⟨_, _, Fx, G, rfl, rfl, hx, hv⟩
  | swap x y l =>
    intro F h
    rw [List.map_cons, List.map_cons, List.map_cons, List.map_cons, OwnVals] at h
    obtain ⟨v, vs, Fx, Fr, he, rfl, hx, hr⟩ := h
    injection he with e1 e2
    subst e1 e2
    rw [OwnVals] at hr
    obtain ⟨v, vs, Fy, Fs, he, rfl, hy, hr⟩ := hr
    injection he with e1 e2
    subst e1 e2
    refine ⟨Fy ++ (Fx ++ Fs), ?_, ?_⟩
    · rw [← List.append_assoc, ← List.append_assoc]
      exact List.Perm.append_right _ List.perm_append_comm
    · rw [List.map_cons, List.map_cons, List.map_cons, List.map_cons, OwnVals]
      refine ⟨_, _, Fy, _, rfl, rfl, hy, ?_⟩
      rw [OwnVals]
      exact ⟨_, _, Fx, _, rfl, rfl, hx, hr⟩
  | trans p q ih1 ih2 =>
    intro F h
    obtain ⟨G, h1, h2⟩ := ih1 h
    obtain ⟨K, h3, h4⟩ := ih2 h2
    exact ⟨K, h1.trans h3, h4⟩
theorem perm_in {d d' : Array R3} (h : PermIn 0 d.size d d') : d'.toList.Perm d.toList := by
  obtain ⟨h1, _, h3⟩ := h
  have e1 : d'.extract 0 d.size = d' := by rw [← h1]; simp
  have e2 : d.extract 0 d.size = d := by simp
  rw [e1, e2] at h3
  exact h3

/-- Behind the sort. -/
theorem ObjL.sorted {w0 w : World} {rs ts : List R3} {g cap m : Nat} {os : Array Obj} {F : List Nat} (h : ObjL w0 rs (.slice (some ⟨g, 0, none⟩) rs.length cap) F w) (hp : rs.Perm ts) : ∃ G, ObjL w0 ts (.slice (some ⟨g, 0, none⟩) ts.length cap) G (Go.Proofs.sortWorldK rcells 7 w g 0 m ts.toArray os) := by
  have hl := hp.length_eq
  have hap := fun q (hq : q ∈ F) => h.apart hq
  have hgb := (h.1.lt g rfl).1
  obtain ⟨h1, h2, h3, h4, h5⟩ := h
  have hs : Spares [g] w (Go.Proofs.sortWorldK rcells 7 w g 0 m ts.toArray os) := sorted_spares _
  obtain ⟨G, hG, hv⟩ := OwnVals.perm hp (h2.keep fun q hq => hs.block q (h2.lt q hq) fun hm => hap q hq (by
    have : q = g := by simpa using hm
    rw [this]
    rfl))
  refine ⟨G, ?_, hv, hG.nodup_iff.1 h3, fun q hq => h4 q (hG.mem_iff.2 hq), Below.spared h5 hs h5.size fun k hk => ?_⟩
  · have := row_sorted (m := m) (os := os) h1 hl.symm
    rw [← hl]
    exact this
  · have : k = g := by simpa using hk
    omega

end Go.Proofs.YtpbipngnoklmcaaGreatDoor
