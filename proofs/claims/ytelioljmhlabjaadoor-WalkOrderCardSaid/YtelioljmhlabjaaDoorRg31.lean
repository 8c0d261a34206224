/- A region of New that draws its order: three slices made, the edges copied, the walk's own block laid. -/
import Derived.Test.YtelioljmhlabjaaDoorFree
import Derived.Test.YtelioljmhlabjaaDoorOMem
import Derived.Test.YtelioljmhlabjaaDoorOwn
import Derived.Test.YtelioljmhlabjaaDoorClone
import Derived.Test.YtelioljmhlabjaaDoorApp2
import Derived.Laws.MakeOwn
namespace Go.Proofs.YtelioljmhlabjaaDoor
open Go.RowKit
set_option maxRecDepth 100000

/-- What a copy leaves: a new row of the same pairs. -/
def CloneP (es : List (Int × Int)) (w : World) (e : Ending) (w' : World) : Prop :=
  ∃ v', e = .returned v' ∧ w'.ownsRow w.heap.size 34 2 v' es.length (pairCells es) ∧ Below w.heap.size w w'

set_option maxHeartbeats 800000 in
theorem cloneP_any (v : Value) (es : List (Int × Int)) (w : World) (h : PairsAt w v es) (hl : es.length ≤ 5000) :
    Calls Tryd.prog 57 #[v] w (CloneP es w) := by
  obtain ⟨i0, hi, hz0, hz1, hz2⟩ := info_parts Tryd.info34
  obtain ⟨ao, cap, rfl, _, hm, hc⟩ := h
  have hend : ∀ w' v', w'.ownsRow w.heap.size 34 2 v' es.length (pairCells es) → Below w.heap.size w w' → CloneP es w (.returned v') w' := fun w' v' h1 h2 => ⟨v', rfl, h1, h2⟩
  have HE := Lib.hid hend
  clear hend
  have hmade : (w.alloc (.cells #[] 34)).ownsRow w.heap.size 34 2 (.slice (some ⟨w.heap.size, 0, none⟩) 0 0) 0 [] := World.ownsRow_made w #[] 0 (Nat.le_refl _) (by unfold maxLen; omega) rfl
  have HM := Lib.hid hmade
  clear hmade
  have qT : ∀ (w : World) (a : Option Addr) (n c n' c' : Nat), (binOp .eql 22 (.slice a n c) (.slice none n' c')).run Tryd.prog w = .ok (.bool a.isNone) w := fun w a n c n' c' => Lib.run_eql_slice_nil w _ _ a n c n' c' Tryd.underlying22
  cases ao with
  | none =>
    obtain rfl := hm.2.2 rfl
    have : es = [] := List.eq_nil_of_length_eq_zero (by omega)
    subst this
    clear hc
    go_enter Tryd.func57, Tryd.ntmps57
    go_wp2
    go_ret
    exact HE.out _ _ (World.ownsRow_nil _ _ _ _) (Below.refl _ _)
  | some ad =>
    by_cases he : es = []
    · subst he
      clear hc
      go_enter Tryd.func57, Tryd.ntmps57
      go_wp2_with (at_builtin; refine wpList_append_fresh _ rfl (.tmp 5) (.tmp 6) 22 rfl w.heap.size 34 i0 _ 2 16 Tryd.underlying22 hi hz0 hz1 hz2 rfl (by decide) _ 0 [] rfl HM.out ad 0 cap [] rfl rfl ?c1 ?c2 ?c3 ?c4 ?c5 ?_)
      case c1 => intro j u hu; simp at hu
      case c2 => intro u hu; cases hu
      case c3 => unfold maxLen; omega
      case c4 => omega
      case c5 => simp
      intro v' w1 hown hgrow _
      go_wp2
      go_ret
      exact HE.out _ _ hown (((Below.refl _ _).alloc (Nat.le_refl _) _).grown hgrow (by simp) (fun k e => by have := Option.some.inj e; simp at this; omega))
    · obtain ⟨b, off, had, hbl, hcell⟩ := hc he
      cases had
      have hcell' := fun o => pairs_cells (w := w.alloc o) (fun i hi => ⟨(((Below.refl w.heap.size w).alloc (Nat.le_refl _) o).cell (p := ⟨b, off + i * 2, none⟩) hbl).trans (hcell i hi).1, (((Below.refl w.heap.size w).alloc (Nat.le_refl _) o).cell (p := ⟨b, off + i * 2 + 1, none⟩) hbl).trans (hcell i hi).2⟩)
      have HC := Lib.hid hcell'
      clear hc hcell hcell'
      go_enter Tryd.func57, Tryd.ntmps57
      go_wp2_with (at_builtin; refine wpList_append_fresh _ rfl (.tmp 5) (.tmp 6) 22 rfl w.heap.size 34 i0 _ 2 16 Tryd.underlying22 hi hz0 hz1 hz2 rfl (by decide) _ 0 [] rfl HM.out ⟨b, off, none⟩ es.length cap (pairCells es) rfl (pairCells_len es) (HC.out _) (pairCells_one es) ?d3 ?d4 ?d5 ?_)
      case d3 => unfold maxLen; omega
      case d4 => omega
      case d5 => simp
      intro v' w1 hown hgrow _
      go_wp2
      go_ret
      exact HE.out _ _ hown (((Below.refl _ _).alloc (Nat.le_refl _) _).grown hgrow (by simp) (fun k e => by have := Option.some.inj e; simp at this; omega))

theorem Tryd.info26 : (Tryd.prog.info? 26).map (fun i => (i.zero, i.size, i.bytes)) = some (some (.slice none 0 0), 1, 24) := by kernel_rfl

/-- A slice of zeros is made. -/
theorem make_zeros (n : Nat) (hn : n ≤ 512) (w : World) :
    (Instr.makeSlice 26 (.int .i64 (n : Int)) (.int .i64 (n : Int))).run Tryd.prog w = .ok (.slice (some ⟨w.heap.size, 0, none⟩) n n) (w.alloc (.cells (Array.replicate n (Value.int .i64 0)) 3)) := by
  obtain ⟨i0, hi, hz0, hz1, hz2⟩ := info_parts Tryd.info3
  have := run_makeSlice (P := Tryd.prog) (w := w) 26 3 i0 _ Tryd.underlying26 hi hz0 .i64 .i64 n n (by omega) (by omega) (by rw [hz1]; simp; omega) (by rw [hz2]; omega) (by omega)
  rw [this]
  have e : (madeCells (Value.int .i64 0).cells ((n : Int).toNat * i0.size)) = Array.replicate n (Value.int .i64 0) := by
    rw [hz1]
    simp only [Value.cells, madeCells, Int.toNat_natCast, Nat.mul_one]
    apply Array.ext'
    simp [Nat.mod_one, List.map_const']
  rw [e]
  simp
theorem own_zeros (w : World) (n : Nat) : OwnInts (w.alloc (.cells (Array.replicate n (Value.int .i64 0)) 3)) w.heap.size (List.replicate n 0) := by
  unfold OwnInts
  rw [heap_alloc_new]
  simp
/-- A slice of nil slices is made. -/
theorem make_nils (n : Nat) (hn : n ≤ 512) (w : World) :
    (Instr.makeSlice 90 (.int .i64 (n : Int)) (.int .i64 (n : Int))).run Tryd.prog w = .ok (.slice (some ⟨w.heap.size, 0, none⟩) n n) (w.alloc (.cells (Array.replicate n (Value.slice none 0 0)) 26)) := by
  obtain ⟨i0, hi, hz0, hz1, hz2⟩ := info_parts Tryd.info26
  have := run_makeSlice (P := Tryd.prog) (w := w) 90 26 i0 _ Tryd.underlying90 hi hz0 .i64 .i64 n n (by omega) (by omega) (by rw [hz1]; simp; omega) (by rw [hz2]; omega) (by omega)
  rw [this]
  have e : (madeCells (Value.slice none 0 0).cells ((n : Int).toNat * i0.size)) = Array.replicate n (Value.slice none 0 0) := by
    rw [hz1]
    simp only [Value.cells, madeCells, Int.toNat_natCast, Nat.mul_one]
    apply Array.ext'
    simp [Nat.mod_one, List.map_const']
  rw [e]
  simp

/-- One of the four that are made. -/
def Mk (i : Nat) : Prop := i = 1 ∨ i = 3 ∨ i = 5 ∨ i = 7

structure G6 (w0 : World) (n : Nat) (v : Value) (es : List (Int × Int)) (lim : Int) (L : Nat → Bool) (s : Nat → Value) (w : World) : Prop where
  bel : Below w0.heap.size w0 w
  p0 : L 0 = true → s 0 = .int .i64 n
  p2 : L 2 = true → s 2 = .int .i64 n
  p4 : L 4 = true → s 4 = .int .i64 n
  p6 : L 6 = true → s 6 = v
  p8 : L 8 = true → s 8 = .int .i64 lim
  m1 : L 1 = true → ∃ x, s 1 = .slice (some ⟨x, 0, none⟩) n n ∧ OwnInts w x (List.replicate n 0)
  m3 : L 3 = true → ∃ x, s 3 = .slice (some ⟨x, 0, none⟩) n n ∧ OwnInts w x (List.replicate n 0)
  m5 : L 5 = true → ∃ x, s 5 = .slice (some ⟨x, 0, none⟩) n n ∧ w.heap[x]? = some (.cells (Array.replicate n (Value.slice none 0 0)) 26 (0, 0))
  m7 : L 7 = true → w.ownsRow w0.heap.size 34 2 (s 7) es.length (pairCells es)
  fr : ∀ i, Mk i → L i = true → ∀ x, (s i).ownBlock = some x → w0.heap.size ≤ x ∧ x < w.heap.size
  di : ∀ i j, Mk i → Mk j → i ≠ j → L i = true → L j = true → ∀ x, (s i).ownBlock = some x → (s j).ownBlock ≠ some x
  m9 : L 9 = true → s 9 = .agg #[s 1, s 3, s 5, s 7, .int .i64 lim]
  m10 : L 10 = true → ∃ x, s 10 = .pointer (some ⟨x, 0, none⟩) ∧ w.heap[x]? = some (.cells #[s 1, s 3, s 5, s 7, .int .i64 lim] 92 (0, 0)) ∧ w0.heap.size ≤ x ∧ ∀ i, Mk i → (s i).ownBlock ≠ some x
  m11 : L 11 = true → s 11 = s 10

section
variable {w0 : World} {n : Nat} {v : Value} {es : List (Int × Int)} {lim : Int} {L : Nat → Bool} {s : Nat → Value} {w : World}
theorem G6.grow (h : G6 w0 n v es lim L s w) {w' : World} (hb : Below w.heap.size w w') : G6 w0 n v es lim L s w' := by
  refine ⟨h.bel.trans (hb.mono h.bel.size), h.p0, h.p2, h.p4, h.p6, h.p8, fun hl => ?_, fun hl => ?_, fun hl => ?_, fun hl => own_below (h.m7 hl) hb, fun i hi hl x hx => ?_, h.di, h.m9, fun hl => ?_, h.m11⟩
  · obtain ⟨x, e, ho⟩ := h.m1 hl
    exact ⟨x, e, ho.kept (hb.block _ ho.lt)⟩
  · obtain ⟨x, e, ho⟩ := h.m3 hl
    exact ⟨x, e, ho.kept (hb.block _ ho.lt)⟩
  · obtain ⟨x, e, ho⟩ := h.m5 hl
    exact ⟨x, e, (hb.block _ (Array.getElem?_eq_some_iff.1 ho).1).trans ho⟩
  · obtain ⟨h1, h2⟩ := h.fr i hi hl x hx
    exact ⟨h1, Nat.lt_of_lt_of_le h2 hb.size⟩
  · obtain ⟨x, e, ho, h3, h4⟩ := h.m10 hl
    exact ⟨x, e, (hb.block _ (Array.getElem?_eq_some_iff.1 ho).1).trans ho, h3, h4⟩

theorem G6.add (h : G6 w0 n v es lim L s w) (i : Nat) (u : Value) (hL : L i = false) (c9 : L 9 = true → L 1 = true ∧ L 3 = true ∧ L 5 = true ∧ L 7 = true) (c10 : L 10 = true → L 9 = true) (c11 : L 11 = true → L 10 = true)
    (a9' : i = 9 → L 1 = true ∧ L 3 = true ∧ L 5 = true ∧ L 7 = true) (a10' : i = 10 → L 9 = true) (a11' : i = 11 → L 10 = true)
    (a0 : i = 0 → u = .int .i64 n) (a2 : i = 2 → u = .int .i64 n) (a4 : i = 4 → u = .int .i64 n) (a6 : i = 6 → u = v) (a8 : i = 8 → u = .int .i64 lim)
    (a1 : i = 1 ∨ i = 3 → ∃ x, u = .slice (some ⟨x, 0, none⟩) n n ∧ OwnInts w x (List.replicate n 0))
    (a5 : i = 5 → ∃ x, u = .slice (some ⟨x, 0, none⟩) n n ∧ w.heap[x]? = some (.cells (Array.replicate n (Value.slice none 0 0)) 26 (0, 0)))
    (a7 : i = 7 → w.ownsRow w0.heap.size 34 2 u es.length (pairCells es))
    (af : Mk i → ∀ x, u.ownBlock = some x → w0.heap.size ≤ x ∧ x < w.heap.size) (ad : Mk i → ∀ j, Mk j → j ≠ i → L j = true → ∀ x, u.ownBlock = some x → (s j).ownBlock ≠ some x)
    (a9 : i = 9 → u = .agg #[s 1, s 3, s 5, s 7, .int .i64 lim])
    (a10 : i = 10 → ∃ x, u = .pointer (some ⟨x, 0, none⟩) ∧ w.heap[x]? = some (.cells #[s 1, s 3, s 5, s 7, .int .i64 lim] 92 (0, 0)) ∧ w0.heap.size ≤ x ∧ ∀ i, Mk i → (s i).ownBlock ≠ some x)
    (a11 : i = 11 → u = s 10) : G6 w0 n v es lim (fun j => L j || j == i) (updS s i u) w := by
  have hs : ∀ j, L j = true → updS s i u j = s j := fun j hj => by
    have : j ≠ i := fun e => by rw [e, hL] at hj; cases hj
    simp [updS, this]
  have key : ∀ j, (L j || j == i) = true → (L j = true ∧ updS s i u j = s j) ∨ (i = j ∧ updS s i u j = u) := fun j hj => by
    rcases (Bool.or_eq_true _ _).mp hj with hj | hj
    · exact Or.inl ⟨hj, hs j hj⟩
    · have e : j = i := by simpa using hj
      exact Or.inr ⟨e.symm, by simp [updS, e]⟩
  have four : (L 9 = true ∨ i = 9) → updS s i u 1 = s 1 ∧ updS s i u 3 = s 3 ∧ updS s i u 5 = s 5 ∧ updS s i u 7 = s 7 := fun h9 => by
    have h4 : L 1 = true ∧ L 3 = true ∧ L 5 = true ∧ L 7 = true := h9.elim c9 a9'
    exact ⟨hs 1 h4.1, hs 3 h4.2.1, hs 5 h4.2.2.1, hs 7 h4.2.2.2⟩
  have fourM : L 9 = true → ∀ k, Mk k → updS s i u k = s k := fun h9 k hk => by
    obtain ⟨f1, f3, f5, f7⟩ := four (Or.inl h9)
    rcases hk with rfl | rfl | rfl | rfl
    · exact f1
    · exact f3
    · exact f5
    · exact f7
  have simple : ∀ (j : Nat) (X : Value), (L j = true → s j = X) → (i = j → u = X) → (L j || j == i) = true → updS s i u j = X := fun j X h1 h2 h3 => by
    rcases key j h3 with ⟨h4, h5⟩ | ⟨h4, h5⟩
    · rw [h5]; exact h1 h4
    · rw [h5]; exact h2 h4
  refine ⟨h.bel, simple 0 _ h.p0 a0, simple 2 _ h.p2 a2, simple 4 _ h.p4 a4, simple 6 _ h.p6 a6, simple 8 _ h.p8 a8, fun hj => ?_, fun hj => ?_, fun hj => ?_, fun hj => ?_, fun k hk hj x hx => ?_, fun k j hk hj hkj h1 h2 x hx => ?_, fun hj => ?_, fun hj => ?_, fun hj => ?_⟩
  · rcases key 1 hj with ⟨h4, h5⟩ | ⟨h4, h5⟩
    · rw [h5]; exact h.m1 h4
    · rw [h5]; exact a1 (Or.inl h4)
  · rcases key 3 hj with ⟨h4, h5⟩ | ⟨h4, h5⟩
    · rw [h5]; exact h.m3 h4
    · rw [h5]; exact a1 (Or.inr h4)
  · rcases key 5 hj with ⟨h4, h5⟩ | ⟨h4, h5⟩
    · rw [h5]; exact h.m5 h4
    · rw [h5]; exact a5 h4
  · rcases key 7 hj with ⟨h4, h5⟩ | ⟨h4, h5⟩
    · rw [h5]; exact h.m7 h4
    · rw [h5]; exact a7 h4
  · rcases key k hj with ⟨h4, h5⟩ | ⟨h4, h5⟩
    · rw [h5] at hx; exact h.fr k hk h4 x hx
    · rw [h5] at hx; subst h4; exact af hk x hx
  · rcases key k h1 with ⟨h4, h5⟩ | ⟨h4, h5⟩
    · rw [h5] at hx
      rcases key j h2 with ⟨h6, h7⟩ | ⟨h6, h7⟩
      · rw [h7]; exact h.di k j hk hj hkj h4 h6 x hx
      · rw [h7]
        subst h6
        exact fun e => ad hj k hk hkj h4 x e hx
    · rw [h5] at hx
      subst h4
      rcases key j h2 with ⟨h6, h7⟩ | ⟨h6, h7⟩
      · rw [h7]; exact ad hk j hj (fun e => hkj e.symm) h6 x hx
      · exact absurd h6 hkj
  · rcases key 9 hj with ⟨h4, h5⟩ | ⟨h4, h5⟩
    · obtain ⟨f1, f3, f5, f7⟩ := four (Or.inl h4)
      rw [h5, f1, f3, f5, f7]; exact h.m9 h4
    · obtain ⟨f1, f3, f5, f7⟩ := four (Or.inr h4)
      rw [h5, f1, f3, f5, f7]; exact a9 h4
  · rcases key 10 hj with ⟨h4, h5⟩ | ⟨h4, h5⟩
    · obtain ⟨f1, f3, f5, f7⟩ := four (Or.inl (c10 h4))
      obtain ⟨x, b1, b2, b3, b4⟩ := h.m10 h4
      rw [h5, f1, f3, f5, f7]
      exact ⟨x, b1, b2, b3, fun k hk => by rw [fourM (c10 h4) k hk]; exact b4 k hk⟩
    · obtain ⟨f1, f3, f5, f7⟩ := four (Or.inl (a10' h4))
      obtain ⟨x, b1, b2, b3, b4⟩ := a10 h4
      rw [h5, f1, f3, f5, f7]
      exact ⟨x, b1, b2, b3, fun k hk => by rw [fourM (a10' h4) k hk]; exact b4 k hk⟩
  · rcases key 11 hj with ⟨h4, h5⟩ | ⟨h4, h5⟩
    · rw [h5, hs 10 (c11 h4)]; exact h.m11 h4
    · rw [h5, hs 10 (a11' h4)]; exact a11 h4
end

noncomputable def ops31a : List Oper := opsOf Tryd.f31 6
def dst31a : List Nat := [28, 29, 30, 31, 32, 33, 34, 35, 36, 37, 38, 10]
theorem below_al (w : World) (o : Obj) : Below w.heap.size w (w.alloc o) := (Below.refl _ _).alloc (Nat.le_refl _) _
theorem own_base {w : World} {b0 base e size n : Nat} {v : Value} {xs : List Value} (h : w.ownsRow base e size v n xs) (hb : b0 ≤ base) : w.ownsRow b0 e size v n xs := by
  refine ⟨h.1, ?_⟩
  rcases h.2 with h2 | ⟨g, cap, cur, hv, hg, r⟩
  · exact .inl h2
  · exact .inr ⟨g, cap, cur, hv, Nat.le_trans hb hg, r⟩
theorem own_slice {w : World} {base e size n : Nat} {v : Value} {xs : List Value} (h : w.ownsRow base e size v n xs) : ∃ ao cap, v = .slice ao n cap := by
  rcases h.2 with ⟨h1, h2⟩ | ⟨g, cap, cur, hv, _⟩
  · exact ⟨none, 0, by rw [h1, h2]⟩
  · exact ⟨_, _, hv⟩
theorem PairsAt.mono' {w w' : World} {v : Value} {es : List (Int × Int)} (h : PairsAt w v es) (hb : Below w.heap.size w w') : PairsAt w' v es := h.mono hb

/-- The memory of a new walk. -/
structure NwP (w0 w : World) (b S A N n : Nat) (ev : Value) (es : List (Int × Int)) (lim : Int) : Prop where
  bel : Below w0.heap.size w0 w
  blk : w.heap[b]? = some (.cells #[.slice (some ⟨S, 0, none⟩) n n, .slice (some ⟨A, 0, none⟩) n n, .slice (some ⟨N, 0, none⟩) n n, ev, .int .i64 lim] 92 (0, 0))
  sst : OwnInts w S (List.replicate n 0)
  sah : OwnInts w A (List.replicate n 0)
  nb : w.heap[N]? = some (.cells (Array.replicate n (Value.slice none 0 0)) 26 (0, 0))
  ed : w.ownsRow w0.heap.size 34 2 ev es.length (pairCells es)
  ge : w0.heap.size ≤ b ∧ w0.heap.size ≤ S ∧ w0.heap.size ≤ A ∧ w0.heap.size ≤ N
  h0 : b ≠ S ∧ b ≠ A ∧ S ≠ A ∧ N ≠ S ∧ N ≠ A ∧ b ≠ N
  h1 : ∀ k, ev.ownBlock = some k → k ≠ S ∧ k ≠ A ∧ k ≠ N ∧ k ≠ b

set_option maxHeartbeats 2000000 in
theorem region31a (a : Act) (w : World) (Q : Exit → Act → World → Prop) (n : Nat) (v : Value) (es : List (Int × Int)) (lim : Int) (hn : n ≤ 512) (hl : es.length ≤ 5000)
    (e0 : a.eval (.tmp 0) = .int .i64 n) (e1 : a.eval (.tmp 1) = v) (e2 : a.eval (.tmp 2) = .int .i64 lim) (hsz : a.tmps.size = 79) (hv : PairsAt w.drew v es)
    (hQ : ∀ w' b S A N ev, NwP w.drew w' b S A N n ev es lim → Q .normal ((((((((((((a.put (some 28) (.int .i64 n)).put (some 29) (.slice (some ⟨S, 0, none⟩) n n)).put (some 30) (.int .i64 n)).put (some 31) (.slice (some ⟨A, 0, none⟩) n n)).put (some 32) (.int .i64 n)).put (some 33) (.slice (some ⟨N, 0, none⟩) n n)).put (some 34) (v)).put (some 35) (ev)).put (some 36) (.int .i64 lim)).put (some 37) (.agg #[.slice (some ⟨S, 0, none⟩) n n, .slice (some ⟨A, 0, none⟩) n n, .slice (some ⟨N, 0, none⟩) n n, ev, .int .i64 lim])).put (some 38) (.pointer (some ⟨b, 0, none⟩))).put (some 10) (.pointer (some ⟨b, 0, none⟩))) w') :
    (Code.region 6 ops31a.toArray true).wp Tryd.prog Q a w := by
  refine wp_region_puts dst31a (G6 w.drew n v es lim) (by kernel_rfl) (by kernel_rfl) (by rfl) (by kernel_rfl) (by decide) (fun d hd => ?_)
    ⟨Below.refl _ _, fun h => (by cases h), fun h => (by cases h), fun h => (by cases h), fun h => (by cases h), fun h => (by cases h), fun h => (by cases h), fun h => (by cases h), fun h => (by cases h), fun h => (by cases h), fun _ _ h => (by cases h), fun _ _ _ _ _ h => (by cases h), fun h => (by cases h), fun h => (by cases h), fun h => (by cases h)⟩ ?_ ?_
  · rw [hsz]
    have : ∀ d ∈ dst31a, d < 79 := by decide
    exact this d hd
  · intro L s w1 hG i o ho hL hdep hcl a' he K hK
    have hi : i < 12 := (List.getElem?_eq_some_iff.1 ho).1
    have f0 : a'.eval (.tmp 0) = .int .i64 n := (he.other 0 (by decide)).trans e0
    have f1 : a'.eval (.tmp 1) = v := (he.other 1 (by decide)).trans e1
    have f2 : a'.eval (.tmp 2) = .int .i64 lim := (he.other 2 (by decide)).trans e2
    have c9 : L 9 = true → L 1 = true ∧ L 3 = true ∧ L 5 = true ∧ L 7 = true := fun h => by
      have := hcl 9 _ rfl h
      exact ⟨this 1 (by decide), this 3 (by decide), this 5 (by decide), this 7 (by decide)⟩
    have c10 : L 10 = true → L 9 = true := fun h => hcl 10 _ rfl h 9 (by decide)
    have c11 : L 11 = true → L 10 = true := fun h => hcl 11 _ rfl h 10 (by decide)
    clear hcl e0 e1 e2 hQ
    rcases (show i = 0 ∨ i = 1 ∨ i = 2 ∨ i = 3 ∨ i = 4 ∨ i = 5 ∨ i = 6 ∨ i = 7 ∨ i = 8 ∨ i = 9 ∨ i = 10 ∨ i = 11 by omega) with rfl | rfl | rfl | rfl | rfl | rfl | rfl | rfl | rfl | rfl | rfl | rfl
    · change some _ = some o at ho
      obtain rfl := Option.some.inj ho
      unfold Oper.wp execOp
      simp only [f0]
      go_simp
      exact hK _ _ (hG.add 0 _ hL c9 c10 c11 (fun e => absurd e (by decide)) (fun e => absurd e (by decide)) (fun e => absurd e (by decide)) (fun _ => rfl) (fun e => absurd e (by decide)) (fun e => absurd e (by decide)) (fun e => absurd e (by decide)) (fun e => absurd e (by decide)) (fun e => absurd e (by decide)) (fun e => absurd e (by decide)) (fun e => absurd e (by decide)) (fun e => absurd e (by unfold Mk; decide)) (fun e => absurd e (by unfold Mk; decide)) (fun e => absurd e (by decide)) (fun e => absurd e (by decide)) (fun e => absurd e (by decide)))
    · change some _ = some o at ho
      obtain rfl := Option.some.inj ho
      have x28 : a'.eval (.tmp 28) = .int .i64 n := (he.done 0 (by decide) (hdep 0 (by decide))).trans (hG.p0 (hdep 0 (by decide)))
      have hmk := make_zeros n hn w1
      unfold Oper.wp execOp
      simp only [x28]
      go_simp
      have hb : Below w1.heap.size w1 (w1.alloc (.cells (Array.replicate n (Value.int .i64 0)) 3)) := below_al _ _
      have hG' := hG.grow hb
      refine hK _ _ (hG'.add 1 _ hL c9 c10 c11 (fun e => absurd e (by decide)) (fun e => absurd e (by decide)) (fun e => absurd e (by decide)) (fun e => absurd e (by decide)) (fun e => absurd e (by decide)) (fun e => absurd e (by decide)) (fun e => absurd e (by decide)) (fun e => absurd e (by decide)) (fun _ => ⟨w1.heap.size, rfl, own_zeros _ _⟩) (fun e => absurd e (by decide)) (fun e => absurd e (by decide)) (fun _ x hx => ?_) (fun _ j hj _ hLj x hx hs => ?_) (fun e => absurd e (by decide)) (fun e => absurd e (by decide)) (fun e => absurd e (by decide)))
      · obtain rfl : w1.heap.size = x := Option.some.inj hx
        exact ⟨hG.bel.size, by simp⟩
      · obtain rfl : w1.heap.size = x := Option.some.inj hx
        have := (hG.fr j hj hLj _ hs).2
        omega
    · change some _ = some o at ho
      obtain rfl := Option.some.inj ho
      unfold Oper.wp execOp
      simp only [f0]
      go_simp
      exact hK _ _ (hG.add 2 _ hL c9 c10 c11 (fun e => absurd e (by decide)) (fun e => absurd e (by decide)) (fun e => absurd e (by decide)) (fun e => absurd e (by decide)) (fun _ => rfl) (fun e => absurd e (by decide)) (fun e => absurd e (by decide)) (fun e => absurd e (by decide)) (fun e => absurd e (by decide)) (fun e => absurd e (by decide)) (fun e => absurd e (by decide)) (fun e => absurd e (by unfold Mk; decide)) (fun e => absurd e (by unfold Mk; decide)) (fun e => absurd e (by decide)) (fun e => absurd e (by decide)) (fun e => absurd e (by decide)))
    · change some _ = some o at ho
      obtain rfl := Option.some.inj ho
      have x30 : a'.eval (.tmp 30) = .int .i64 n := (he.done 2 (by decide) (hdep 2 (by decide))).trans (hG.p2 (hdep 2 (by decide)))
      have hmk := make_zeros n hn w1
      unfold Oper.wp execOp
      simp only [x30]
      go_simp
      have hb : Below w1.heap.size w1 (w1.alloc (.cells (Array.replicate n (Value.int .i64 0)) 3)) := below_al _ _
      have hG' := hG.grow hb
      refine hK _ _ (hG'.add 3 _ hL c9 c10 c11 (fun e => absurd e (by decide)) (fun e => absurd e (by decide)) (fun e => absurd e (by decide)) (fun e => absurd e (by decide)) (fun e => absurd e (by decide)) (fun e => absurd e (by decide)) (fun e => absurd e (by decide)) (fun e => absurd e (by decide)) (fun _ => ⟨w1.heap.size, rfl, own_zeros _ _⟩) (fun e => absurd e (by decide)) (fun e => absurd e (by decide)) (fun _ x hx => ?_) (fun _ j hj _ hLj x hx hs => ?_) (fun e => absurd e (by decide)) (fun e => absurd e (by decide)) (fun e => absurd e (by decide)))
      · obtain rfl : w1.heap.size = x := Option.some.inj hx
        exact ⟨hG.bel.size, by simp⟩
      · obtain rfl : w1.heap.size = x := Option.some.inj hx
        have := (hG.fr j hj hLj _ hs).2
        omega
    · change some _ = some o at ho
      obtain rfl := Option.some.inj ho
      unfold Oper.wp execOp
      simp only [f0]
      go_simp
      exact hK _ _ (hG.add 4 _ hL c9 c10 c11 (fun e => absurd e (by decide)) (fun e => absurd e (by decide)) (fun e => absurd e (by decide)) (fun e => absurd e (by decide)) (fun e => absurd e (by decide)) (fun _ => rfl) (fun e => absurd e (by decide)) (fun e => absurd e (by decide)) (fun e => absurd e (by decide)) (fun e => absurd e (by decide)) (fun e => absurd e (by decide)) (fun e => absurd e (by unfold Mk; decide)) (fun e => absurd e (by unfold Mk; decide)) (fun e => absurd e (by decide)) (fun e => absurd e (by decide)) (fun e => absurd e (by decide)))
    · change some _ = some o at ho
      obtain rfl := Option.some.inj ho
      have x32 : a'.eval (.tmp 32) = .int .i64 n := (he.done 4 (by decide) (hdep 4 (by decide))).trans (hG.p4 (hdep 4 (by decide)))
      have hmk := make_nils n hn w1
      unfold Oper.wp execOp
      simp only [x32]
      go_simp
      have hb : Below w1.heap.size w1 (w1.alloc (.cells (Array.replicate n (Value.slice none 0 0)) 26)) := below_al _ _
      have hG' := hG.grow hb
      refine hK _ _ (hG'.add 5 _ hL c9 c10 c11 (fun e => absurd e (by decide)) (fun e => absurd e (by decide)) (fun e => absurd e (by decide)) (fun e => absurd e (by decide)) (fun e => absurd e (by decide)) (fun e => absurd e (by decide)) (fun e => absurd e (by decide)) (fun e => absurd e (by decide)) (fun e => absurd e (by decide)) (fun _ => ⟨w1.heap.size, rfl, heap_alloc_new _ _⟩) (fun e => absurd e (by decide)) (fun _ x hx => ?_) (fun _ j hj _ hLj x hx hs => ?_) (fun e => absurd e (by decide)) (fun e => absurd e (by decide)) (fun e => absurd e (by decide)))
      · obtain rfl : w1.heap.size = x := Option.some.inj hx
        exact ⟨hG.bel.size, by simp⟩
      · obtain rfl : w1.heap.size = x := Option.some.inj hx
        have := (hG.fr j hj hLj _ hs).2
        omega
    · change some _ = some o at ho
      obtain rfl := Option.some.inj ho
      unfold Oper.wp execOp
      simp only [f1]
      go_simp
      exact hK _ _ (hG.add 6 _ hL c9 c10 c11 (fun e => absurd e (by decide)) (fun e => absurd e (by decide)) (fun e => absurd e (by decide)) (fun e => absurd e (by decide)) (fun e => absurd e (by decide)) (fun e => absurd e (by decide)) (fun _ => rfl) (fun e => absurd e (by decide)) (fun e => absurd e (by decide)) (fun e => absurd e (by decide)) (fun e => absurd e (by decide)) (fun e => absurd e (by unfold Mk; decide)) (fun e => absurd e (by unfold Mk; decide)) (fun e => absurd e (by decide)) (fun e => absurd e (by decide)) (fun e => absurd e (by decide)))
    · change some _ = some o at ho
      obtain rfl := Option.some.inj ho
      have x34 : a'.eval (.tmp 34) = v := (he.done 6 (by decide) (hdep 6 (by decide))).trans (hG.p6 (hdep 6 (by decide)))
      have CL := cloneP_any v es w1 (hv.mono' hG.bel) hl
      unfold Oper.wp execOp
      simp only [resolve, List.map_toArray, List.map_cons, List.map_nil, x34]
      go_simp
      refine CL.mono ?_
      rintro e w2 ⟨v', rfl, hown, hb⟩
      have hG' := hG.grow hb
      refine hK _ _ (hG'.add 7 _ hL c9 c10 c11 (fun e => absurd e (by decide)) (fun e => absurd e (by decide)) (fun e => absurd e (by decide)) (fun e => absurd e (by decide)) (fun e => absurd e (by decide)) (fun e => absurd e (by decide)) (fun e => absurd e (by decide)) (fun e => absurd e (by decide)) (fun e => absurd e (by decide)) (fun e => absurd e (by decide)) (fun _ => own_base hown hG.bel.size) (fun _ x hx => ?_) (fun _ j hj _ hLj x hx hs => ?_) (fun e => absurd e (by decide)) (fun e => absurd e (by decide)) (fun e => absurd e (by decide)))
      · have := hown.lt _ hx
        exact ⟨Nat.le_trans hG.bel.size this.1, this.2⟩
      · have h1 := hown.lt _ hx
        have h2 := (hG.fr j hj hLj _ hs).2
        omega
    · change some _ = some o at ho
      obtain rfl := Option.some.inj ho
      unfold Oper.wp execOp
      simp only [f2]
      go_simp
      exact hK _ _ (hG.add 8 _ hL c9 c10 c11 (fun e => absurd e (by decide)) (fun e => absurd e (by decide)) (fun e => absurd e (by decide)) (fun e => absurd e (by decide)) (fun e => absurd e (by decide)) (fun e => absurd e (by decide)) (fun e => absurd e (by decide)) (fun _ => rfl) (fun e => absurd e (by decide)) (fun e => absurd e (by decide)) (fun e => absurd e (by decide)) (fun e => absurd e (by unfold Mk; decide)) (fun e => absurd e (by unfold Mk; decide)) (fun e => absurd e (by decide)) (fun e => absurd e (by decide)) (fun e => absurd e (by decide)))
    · change some _ = some o at ho
      obtain rfl := Option.some.inj ho
      have d1 := hdep 1 (by decide)
      have d3 := hdep 3 (by decide)
      have d5 := hdep 5 (by decide)
      have d7 := hdep 7 (by decide)
      have x29 : a'.eval (.tmp 29) = s 1 := he.done 1 (by decide) d1
      have x31 : a'.eval (.tmp 31) = s 3 := he.done 3 (by decide) d3
      have x33 : a'.eval (.tmp 33) = s 5 := he.done 5 (by decide) d5
      have x35 : a'.eval (.tmp 35) = s 7 := he.done 7 (by decide) d7
      have x36 : a'.eval (.tmp 36) = .int .i64 lim := (he.done 8 (by decide) (hdep 8 (by decide))).trans (hG.p8 (hdep 8 (by decide)))
      obtain ⟨y1, e1, _⟩ := hG.m1 d1
      obtain ⟨y3, e3, _⟩ := hG.m3 d3
      obtain ⟨y5, e5, _⟩ := hG.m5 d5
      obtain ⟨ao, cap, e7⟩ : ∃ ao cap, s 7 = .slice ao es.length cap := own_slice (hG.m7 d7)
      have hk : ∀ u, u = Value.agg #[s 1, s 3, s 5, s 7, .int .i64 lim] → K (a'.put (some 37) u) w1 := fun u hu => hK _ _ (hG.add 9 _ hL c9 c10 c11 (fun _ => ⟨d1, d3, d5, d7⟩) (fun e => absurd e (by decide)) (fun e => absurd e (by decide)) (fun e => absurd e (by decide)) (fun e => absurd e (by decide)) (fun e => absurd e (by decide)) (fun e => absurd e (by decide)) (fun e => absurd e (by decide)) (fun e => absurd e (by decide)) (fun e => absurd e (by decide)) (fun e => absurd e (by decide)) (fun e => absurd e (by unfold Mk; decide)) (fun e => absurd e (by unfold Mk; decide)) (fun _ => hu) (fun e => absurd e (by decide)) (fun e => absurd e (by decide)))
      rw [e1] at x29
      rw [e3] at x31
      rw [e5] at x33
      rw [e7] at x35
      simp only [Act.eval, Array.getD_eq_getD_getElem?] at x29 x31 x33 x35 x36
      rw [e1, e3, e5, e7] at hk
      clear e1 e3 e5 e7 hG
      unfold Oper.wp execOp
      go_simp
      exact hk _ rfl
    · change some _ = some o at ho
      obtain rfl := Option.some.inj ho
      have d9 := hdep 9 (by decide)
      obtain ⟨d1, d3, d5, d7⟩ := c9 d9
      obtain ⟨y1, e1, _⟩ := hG.m1 d1
      obtain ⟨y3, e3, _⟩ := hG.m3 d3
      obtain ⟨y5, e5, _⟩ := hG.m5 d5
      obtain ⟨ao, cap, e7⟩ : ∃ ao cap, s 7 = .slice ao es.length cap := own_slice (hG.m7 d7)
      have x37 : a'.eval (.tmp 37) = .agg #[.slice (some ⟨y1, 0, none⟩) n n, .slice (some ⟨y3, 0, none⟩) n n, .slice (some ⟨y5, 0, none⟩) n n, .slice ao es.length cap, .int .i64 lim] := by
        rw [← e1, ← e3, ← e5, ← e7]
        exact (he.done 9 (by decide) d9).trans (hG.m9 d9)
      have hb : Below w1.heap.size w1 (w1.alloc (.cells #[.slice (some ⟨y1, 0, none⟩) n n, .slice (some ⟨y3, 0, none⟩) n n, .slice (some ⟨y5, 0, none⟩) n n, .slice ao es.length cap, .int .i64 lim] 92)) := below_al _ _
      have hG' := hG.grow hb
      have hk : K (a'.put (some 38) (.pointer (some ⟨w1.heap.size, 0, none⟩))) (w1.alloc (.cells #[.slice (some ⟨y1, 0, none⟩) n n, .slice (some ⟨y3, 0, none⟩) n n, .slice (some ⟨y5, 0, none⟩) n n, .slice ao es.length cap, .int .i64 lim] 92)) := by
        refine hK _ _ (hG'.add 10 _ hL c9 c10 c11 (fun e => absurd e (by decide)) (fun _ => d9) (fun e => absurd e (by decide)) (fun e => absurd e (by decide)) (fun e => absurd e (by decide)) (fun e => absurd e (by decide)) (fun e => absurd e (by decide)) (fun e => absurd e (by decide)) (fun e => absurd e (by decide)) (fun e => absurd e (by decide)) (fun e => absurd e (by decide)) (fun e => absurd e (by unfold Mk; decide)) (fun e => absurd e (by unfold Mk; decide)) (fun e => absurd e (by decide)) (fun _ => ⟨w1.heap.size, rfl, ?_, hG.bel.size, fun k hk hx => ?_⟩) (fun e => absurd e (by decide)))
        · rw [e1, e3, e5, e7]
          exact heap_alloc_new _ _
        · have hLk : L k = true := by
            rcases hk with rfl | rfl | rfl | rfl
            · exact d1
            · exact d3
            · exact d5
            · exact d7
          have := (hG.fr k hk hLk _ hx).2
          omega
      unfold Oper.wp execOp
      simp only [x37]
      go_simp
      exact hk
    · change some _ = some o at ho
      obtain rfl := Option.some.inj ho
      have d10 := hdep 10 (by decide)
      have x38 : a'.eval (.tmp 38) = s 10 := he.done 10 (by decide) d10
      unfold Oper.wp execOp
      simp only [x38]
      go_simp
      exact hK _ _ (hG.add 11 _ hL c9 c10 c11 (fun e => absurd e (by decide)) (fun e => absurd e (by decide)) (fun _ => d10) (fun e => absurd e (by decide)) (fun e => absurd e (by decide)) (fun e => absurd e (by decide)) (fun e => absurd e (by decide)) (fun e => absurd e (by decide)) (fun e => absurd e (by decide)) (fun e => absurd e (by decide)) (fun e => absurd e (by decide)) (fun e => absurd e (by unfold Mk; decide)) (fun e => absurd e (by unfold Mk; decide)) (fun e => absurd e (by decide)) (fun e => absurd e (by decide)) (fun _ => rfl))
  · intro s w1 L hall hG
    have l := fun j (hj : j < 12) => hall j (by have : ops31a.length = 12 := rfl; omega)
    obtain ⟨S, e1', o1⟩ := hG.m1 (l 1 (by decide))
    obtain ⟨A, e3', o3⟩ := hG.m3 (l 3 (by decide))
    obtain ⟨N, e5', o5⟩ := hG.m5 (l 5 (by decide))
    have o7 := hG.m7 (l 7 (by decide))
    have e9 := hG.m9 (l 9 (by decide))
    obtain ⟨b, e10, o10, g10, n10⟩ := hG.m10 (l 10 (by decide))
    have e11 := hG.m11 (l 11 (by decide))
    have k1 : Mk 1 := Or.inl rfl
    have k3 : Mk 3 := Or.inr (Or.inl rfl)
    have k5 : Mk 5 := Or.inr (Or.inr (Or.inl rfl))
    have k7 : Mk 7 := Or.inr (Or.inr (Or.inr rfl))
    have q1 : (s 1).ownBlock = some S := by rw [e1']; rfl
    have q3 : (s 3).ownBlock = some A := by rw [e3']; rfl
    have q5 : (s 5).ownBlock = some N := by rw [e5']; rfl
    have d := fun i j hi hj hij hLi hLj => hG.di i j hi hj hij hLi hLj
    rw [e1', e3', e5'] at o10
    have H : NwP w.drew w1 b S A N n (s 7) es lim := by
      refine ⟨hG.bel, o10, o1, o3, o5, o7, ⟨g10, (hG.fr 1 k1 (l 1 (by decide)) S q1).1, (hG.fr 3 k3 (l 3 (by decide)) A q3).1, (hG.fr 5 k5 (l 5 (by decide)) N q5).1⟩, ⟨?_, ?_, ?_, ?_, ?_, ?_⟩, fun k hk => ⟨?_, ?_, ?_, ?_⟩⟩
      · intro e; exact n10 1 k1 (by rw [e]; exact q1)
      · intro e; exact n10 3 k3 (by rw [e]; exact q3)
      · intro e; exact d 1 3 k1 k3 (by decide) (l 1 (by decide)) (l 3 (by decide)) S q1 (by rw [e]; exact q3)
      · intro e; exact d 5 1 k5 k1 (by decide) (l 5 (by decide)) (l 1 (by decide)) N q5 (by rw [e]; exact q1)
      · intro e; exact d 5 3 k5 k3 (by decide) (l 5 (by decide)) (l 3 (by decide)) N q5 (by rw [e]; exact q3)
      · intro e; exact n10 5 k5 (by rw [e]; exact q5)
      · intro e; exact d 7 1 k7 k1 (by decide) (l 7 (by decide)) (l 1 (by decide)) k hk (by rw [e]; exact q1)
      · intro e; exact d 7 3 k7 k3 (by decide) (l 7 (by decide)) (l 3 (by decide)) k hk (by rw [e]; exact q3)
      · intro e; exact d 7 5 k7 k5 (by decide) (l 7 (by decide)) (l 5 (by decide)) k hk (by rw [e]; exact q5)
      · intro e; exact n10 7 k7 (by rw [hk, e])
    have := hQ w1 b S A N (s 7) H
    have e : putAll dst31a (fun _ => true) s dst31a.length a = (((((((((((a.put (some 28) (.int .i64 n)).put (some 29) (.slice (some ⟨S, 0, none⟩) n n)).put (some 30) (.int .i64 n)).put (some 31) (.slice (some ⟨A, 0, none⟩) n n)).put (some 32) (.int .i64 n)).put (some 33) (.slice (some ⟨N, 0, none⟩) n n)).put (some 34) (v)).put (some 35) (s 7)).put (some 36) (.int .i64 lim)).put (some 37) (.agg #[.slice (some ⟨S, 0, none⟩) n n, .slice (some ⟨A, 0, none⟩) n n, .slice (some ⟨N, 0, none⟩) n n, s 7, .int .i64 lim])).put (some 38) (.pointer (some ⟨b, 0, none⟩))).put (some 10) (.pointer (some ⟨b, 0, none⟩)) := by
      show putAll dst31a (fun _ => true) s 12 a = _
      rw [e1', e3', e5'] at e9
      simp only [putAll, if_true, hG.p0 (l 0 (by decide)), hG.p2 (l 2 (by decide)), hG.p4 (l 4 (by decide)), hG.p6 (l 6 (by decide)), hG.p8 (l 8 (by decide)), e1', e3', e5', e9, e11, e10]
      rfl
    rw [e]
    exact this

end Go.Proofs.YtelioljmhlabjaaDoor
