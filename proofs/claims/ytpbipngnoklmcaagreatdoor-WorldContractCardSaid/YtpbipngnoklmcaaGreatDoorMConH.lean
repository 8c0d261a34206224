/- What WorldContract asks beside: Update, Read of a world that is held; the document's Int; what Objects told, kept. Plain: numbers of new IDs; two addresses don't hang on one another. No walk. -/
import Derived.Test.YtpbipngnoklmcaaGreatDoorMWldHs
import Derived.Test.YtpbipngnoklmcaaGreatDoorMWldRe
import Derived.Test.YtpbipngnoklmcaaGreatDoorMRefC
import Derived.Test.YtpbipngnoklmcaaGreatDoorPutU
import Derived.Test.YtpbipngnoklmcaaGreatDoorMWldD
namespace Go.Proofs.YtpbipngnoklmcaaGreatDoor
open Go.RowKit
set_option maxRecDepth 100000
attribute [local go_sem] str_size str_toList str_get
variable {w w' : World} {p b n : Nat} {S : WS} {val : S8 → S8 → Value} {vf vt : Value} {D : DataW Value} {G : Nat} {L : List Nat} {N : Nat}

theorem Has.guards (h : Has G L p S N w) {M : List Nat} (hM : ∀ q ∈ M, w.heap.size ≤ q) : Has G (M ++ L) p S N w := by
  obtain ⟨b, n, val, vf, vt, D, hn, hW, hF⟩ := h
  refine ⟨b, n, val, vf, vt, D, hn, hW, fun k hk => ⟨(hF k hk).1, fun hm => ?_⟩⟩
  rcases List.mem_append.1 hm with hm | hm
  · have := hM k hm
    have := hW.lt k hk
    omega
  · exact (hF k hk).2 hm
theorem update_h (h : Has G L p S N w) (hL : ∀ q ∈ L, q < w.heap.size) (addr typ i : S8) (x : VT) (v : Value) (hv : ValAt w x v) (ft : fitS typ) (fi : fitS i) (hl : S.trace.length ≤ 100000) (hN : N ≤ 100000) :
    Calls Tryz.prog 21 #[.pointer (some ⟨p, 0, none⟩), str addr, str typ, str i, v] w fun e w' => e = .returned (.int .i64 (updateP S addr typ i x).2) ∧ Has G L p (updateP S addr typ i x).1 (N + 1) w' ∧ Keeps G L w w' := by
  obtain ⟨b, n, val, vf, vt, D, hn, hW, hF⟩ := h
  refine (update_w hW addr typ i x v hv ft fi hl (by omega)).mono ?_
  rintro e w' ⟨rfl, n', hn', hs⟩
  exact ⟨rfl, hs.has hF (by omega) (heap_lt hW.box) hL⟩
theorem read_h (h : Has G L p S N w) (typ i : S8) (ft : fitS typ) (fi : fitS i) :
    Calls Tryz.prog 17 #[.pointer (some ⟨p, 0, none⟩), str typ, str i] w fun e w' => ∃ v', e = .returned (.tuple #[v', .bool (hasO S.objs typ i)]) ∧ ValAt w' (readV S.objs typ i) v' ∧ Below w.heap.size w w' := by
  obtain ⟨b, n, val, vf, vt, D, hn, hW, hF⟩ := h
  refine (read_w hW typ i ft fi).mono ?_
  rintro e w' ⟨v', F, rfl, ho, _, _, hb⟩
  exact ⟨v', rfl, ho.at, hb⟩
theorem objs_of_own {w : World} {base : Nat} {rs : List R3} {v : Value} {F : List Nat} (h1 : w.ownsRow base 47 7 v rs.length (rowC rs)) (h2 : OwnVals w (rs.map fun r => r.1.2.2) (rs.map rV) F) (hf : fitO (osR rs)) : ObjsAt w v (osR rs) := by
  refine objs_of_rows (CellsAt.row h1) (fun r hr => ?_) hf
  have go : ∀ (l : List R3) (F : List Nat), OwnVals w (l.map fun r => r.1.2.2) (l.map rV) F → ∀ r ∈ l, ValAt w r.1.2.2 (rV r) := by
    intro l
    induction l with
    | nil => intro F _ r hr; cases hr
    | cons x l ih =>
      intro F hF r hr
      rw [List.map_cons, List.map_cons, OwnVals] at hF
      obtain ⟨y, ys, Fx, Fr, he, rfl, hx, hrr⟩ := hF
      injection he with e1 e2
      subst e1 e2
      rcases List.mem_cons.1 hr with rfl | hr
      · exact hx.at
      · exact ih Fr hrr r hr
  exact go rs F h2 r hr
variable {w : World} {p b n : Nat} {S : WS} {val : S8 → S8 → Value} {vf vt : Value} {D : DataW Value}
/-- Objects, and the blocks that what it told stands in. -/
theorem objects_k (h : Has G L p S N w) (hl : S.objs.length ≤ 100000) : Calls Tryz.prog 15 #[.pointer (some ⟨p, 0, none⟩)] w fun e w' =>
    ∃ (a : Option Addr) (c : Nat) (M : List Nat), e = .returned (.slice a S.objs.length c) ∧ (∀ W : World, (∀ q ∈ M, W.heap[q]? = w'.heap[q]?) → ObjsAt W (.slice a S.objs.length c) S.objs) ∧ (∀ q ∈ M, w.heap.size ≤ q ∧ q < w'.heap.size) ∧ Below w.heap.size w w' := by
  obtain ⟨b, n, val, vf, vt, D, hn, hW, hF⟩ := h
  refine (objects_w hW hl).mono ?_
  rintro e w' ⟨rs, v, F, rfl, ho, hb⟩
  have hf : fitO (osR rs) := by rw [ho]; exact hW.fit
  obtain ⟨a, c, rfl⟩ := slice_form hb.1
  have hlen : rs.length = S.objs.length := by rw [← ho, osR_len]
  refine ⟨a, c, ((Value.slice a rs.length c).ownBlock).toList ++ F, by rw [hlen], fun W hW => ?_, fun q hq => ?_, hb.2.2.2.2⟩
  · have := objs_of_own (row_keep hb.1 fun q hq => hW q (List.mem_append.2 (.inl (by rw [hq]; simp)))) (hb.2.1.keep fun q hq => hW q (List.mem_append.2 (.inr hq))) hf
    rw [ho, hlen] at this
    exact this
  · rcases List.mem_append.1 hq with hq | hq
    · exact hb.1.lt q (by simpa using hq)
    · exact ⟨hb.2.2.2.1 q hq, hb.2.1.lt q hq⟩

set_option maxHeartbeats 4000000 in
theorem int02 (n : Int) (h0 : -9223372036854775808 ≤ n) (h1 : n ≤ 9223372036854775807) (hlen : (Lib.itoa n).length ≤ 9223372036854775807) (w : World) : Calls Tryz.prog 25 #[.int .i64 n] w fun e w' => ∃ v', e = .returned v' ∧ ValAt w' (.mk 3 false (Lib.itoa n) [] []) v' ∧ Below w.heap.size w w' := by
  obtain ⟨wA, hwA⟩ : ∃ wA, wA = w.alloc (.cells #[.int .i64 0, .bool false, .string ⟨#[]⟩, .slice none 0 0, .slice none 0 0] 41) := ⟨_, rfl⟩
  have nA := heap_alloc_new w (.cells #[.int .i64 0, .bool false, .string ⟨#[]⟩, .slice none 0 0, .slice none 0 0] 41)
  rw [← hwA] at nA
  have hbA : Below w.heap.size w wA := by rw [hwA]; exact (Below.refl _ w).alloc (Nat.le_refl _) _
  have DG := digits_ref n h0 h1 wA
  go_enter Tryz.func25, Tryz.ntmps25
  go_upto_region 1 with fail
  rw [← hwA]
  clear hwA
  go_wp2_with fail
  refine DG.mono ?_
  rintro e w1 ⟨rfl, hb1⟩
  have n1 := (hb1.block _ (heap_lt nA)).trans nA
  obtain ⟨z0, z1, z2, z3, z4, j0, j1, j2, j3, j4⟩ := free5 n1
  obtain ⟨w7, hw7, hr7, hz7, hk7, hB7⟩ := put_box5 n1 (.int .i64 3) (.bool false) (str (Lib.itoa n)) (.slice none 0 0) (.slice none 0 0)
  obtain ⟨p0, p1, p2, p3, p4, _, _⟩ := cell_box5 hr7
  have hB := hB7 _ _ (Nat.le_refl _) (hbA.trans (hb1.mono hbA.size))
  have HB := Lib.hid hB
  have HW := Lib.hid hw7
  clear DG hw7 hr7 hk7 hB7 hb1 n1 nA hbA hB
  go_wp2
  rw [← HW.out]
  refine bodyPost_ret (v := .agg #[.int .i64 3, .bool false, str (Lib.itoa n), .slice none 0 0, .slice none 0 0]) (by simp [results, go_sem, p0, p1, p2, p3, p4]) rfl ⟨_, rfl, ?_, HB.out⟩
  rw [ValAt]
  exact ⟨_, _, rfl, by simp; exact hlen, StrsAt.nil _, fun _ => .bool false, RowAt.nil _ _, by rw [ValsAt]; trivial⟩

end Go.Proofs.YtpbipngnoklmcaaGreatDoor
namespace Go.Proofs.YtpbipngnoklmcaaGreatDoor
set_option maxRecDepth 100000

theorem min_free (f : Nat → Bool) : ∀ (n : Nat), f n = false → ∃ j, j ≤ n ∧ f j = false ∧ ∀ m, m < j → f m = true
  | 0, h => ⟨0, Nat.le_refl _, h, fun m hm => by omega⟩
  | n + 1, h => by
    by_cases ha : ∀ m, m < n + 1 → f m = true
    · exact ⟨n + 1, Nat.le_refl _, h, ha⟩
    · have : ∃ m, m < n + 1 ∧ f m = false := by
        apply Classical.byContradiction
        intro hh
        exact ha fun m hm => by
          cases hf : f m with
          | true => rfl
          | false => exact absurd ⟨m, hm, hf⟩ hh
      obtain ⟨m, hm, hf⟩ := this
      -- the least below m
      have go : ∀ k, k ≤ n → f k = false → ∃ j, j ≤ k ∧ f j = false ∧ ∀ m, m < j → f m = true := by
        intro k
        induction k using Nat.strongRecOn with
        | _ k ih =>
          intro hk hfk
          by_cases hb : ∀ m, m < k → f m = true
          · exact ⟨k, Nat.le_refl _, hfk, hb⟩
          · have : ∃ m, m < k ∧ f m = false := by
              apply Classical.byContradiction
              intro hh
              exact hb fun m hm => by
                cases hf : f m with
                | true => rfl
                | false => exact absurd ⟨m, hm, hf⟩ hh
            obtain ⟨m, hm, hf⟩ := this
            obtain ⟨j, h1, h2, h3⟩ := ih m hm (by omega) hf
            exact ⟨j, by omega, h2, h3⟩
      obtain ⟨j, h1, h2, h3⟩ := go m (by omega) hf
      exact ⟨j, by omega, h2, h3⟩

/-- The new ID is the first free one. -/
theorem newId_spec (l : List O3) (addr typ after : S8) : ∃ j : Nat, j ≤ l.length ∧ newId l addr typ after = idN addr (behindP addr after + j) ∧ hasO l typ (idN addr (behindP addr after + j)) = false ∧ ∀ m : Nat, m < j → hasO l typ (idN addr (behindP addr after + m)) = true := by
  obtain ⟨n, hn, hf⟩ := free_id (fun _ _ h => itoa_inj h) typ addr l.length l (behindP addr after) (Nat.le_refl _)
  obtain ⟨j, hj, h1, h2⟩ := min_free (fun m => hasO l typ (idN addr (behindP addr after + (m : Nat)))) n hf
  refine ⟨j, by omega, ?_, h1, h2⟩
  unfold newId
  rw [next_is l typ addr j (l.length + 1) _ h2 h1 (by omega)]
theorem newId_is {l : List O3} {addr typ after : S8} {j : Nat} (h1 : hasO l typ (idN addr (behindP addr after + j)) = false) (h2 : ∀ m : Nat, m < j → hasO l typ (idN addr (behindP addr after + m)) = true) : newId l addr typ after = idN addr (behindP addr after + j) := by
  obtain ⟨k, _, he, g1, g2⟩ := newId_spec l addr typ after
  have hjk : j = k := by
    rcases Nat.lt_trichotomy j k with h | h | h
    · rw [g2 j h] at h1; cases h1
    · exact h
    · rw [h2 k h] at g1; cases g1
  rw [he, hjk]
theorem newId_free (l : List O3) (addr typ after : S8) : hasO l typ (newId l addr typ after) = false := by
  obtain ⟨j, _, he, h, _⟩ := newId_spec l addr typ after
  rw [he, h]
theorem newId_form (l : List O3) (addr typ after : S8) : ∃ k : Int, newId l addr typ after = idN addr k := by
  obtain ⟨j, _, he, _⟩ := newId_spec l addr typ after
  exact ⟨_, he⟩
theorem newId_congr {l l' : List O3} {addr typ after : S8} (h : ∀ k : Int, hasO l' typ (idN addr k) = hasO l typ (idN addr k)) : newId l' addr typ after = newId l addr typ after := by
  obtain ⟨j, _, he, h1, h2⟩ := newId_spec l addr typ after
  rw [he]
  exact newId_is (by rw [h]; exact h1) (fun m hm => by rw [h]; exact h2 m hm)

/-- IDs of two addresses, none of which is the beginning of the other's IDs. -/
theorem idN_apart {a b : S8} (h1 : (a ++ [35]).isPrefixOf (b ++ [35]) = false) (h2 : (b ++ [35]).isPrefixOf (a ++ [35]) = false) (j k : Int) : idN a j ≠ idN b k := by
  intro h
  have pa : (a ++ [35]) <+: idN b k := by rw [← h]; exact List.prefix_append _ _
  have pb : (b ++ [35]) <+: idN b k := List.prefix_append _ _
  rcases List.prefix_or_prefix_of_prefix pa pb with h | h
  · rw [List.isPrefixOf_iff_prefix.2 h] at h1; cases h1
  · rw [List.isPrefixOf_iff_prefix.2 h] at h2; cases h2
theorem with_comm {l : List O3} (hr : risO l) {o q : O3} (hne : ¬ (o.1 = q.1 ∧ o.2.1 = q.2.1)) : withO (withO l o) q = withO (withO l q) o := by
  refine ris_ext (ris_with (ris_with hr _) _) (ris_with (ris_with hr _) _) fun x => ?_
  rw [mem_withO, mem_withO, mem_withO, mem_withO]
  have e1 : isO q.1 q.2.1 o = false := isO_of_ne hne
  have e2 : isO o.1 o.2.1 q = false := isO_of_ne fun e => hne ⟨e.1.symm, e.2.symm⟩
  constructor
  · rintro (rfl | ⟨rfl | ⟨h1, h2⟩, h3⟩)
    · exact .inr ⟨.inl rfl, e2⟩
    · exact .inl rfl
    · exact .inr ⟨.inr ⟨h1, h3⟩, h2⟩
  · rintro (rfl | ⟨rfl | ⟨h1, h2⟩, h3⟩)
    · exact .inr ⟨.inl rfl, e1⟩
    · exact .inl rfl
    · exact .inr ⟨.inr ⟨h1, h3⟩, h2⟩
/-- Creating for two such addresses, in either order. -/
theorem create_apart {l : List O3} (hr : risO l) {a b ta tb fa fb : S8} {xa xb : VT} (h1 : (a ++ [35]).isPrefixOf (b ++ [35]) = false) (h2 : (b ++ [35]).isPrefixOf (a ++ [35]) = false) :
    newId (withO l (tb, newId l b tb fb, xb)) a ta fa = newId l a ta fa ∧ newId (withO l (ta, newId l a ta fa, xa)) b tb fb = newId l b tb fb ∧
    withO (withO l (ta, newId l a ta fa, xa)) (tb, newId l b tb fb, xb) = withO (withO l (tb, newId l b tb fb, xb)) (ta, newId l a ta fa, xa) := by
  obtain ⟨i, hi⟩ := newId_form l a ta fa
  obtain ⟨j, hj⟩ := newId_form l b tb fb
  refine ⟨newId_congr fun k => ?_, newId_congr fun k => ?_, with_comm hr fun e => ?_⟩
  · rw [hasO_with]
    have : (newId l b tb fb == idN a k) = false := by rw [hj]; simpa using fun e => idN_apart h1 h2 k j e.symm
    show (tb == ta && newId l b tb fb == idN a k || hasO l ta (idN a k)) = _
    rw [this, Bool.and_false, Bool.false_or]
  · rw [hasO_with]
    have : (newId l a ta fa == idN b k) = false := by rw [hi]; simpa using fun e => idN_apart h1 h2 i k e
    show (ta == tb && newId l a ta fa == idN b k || hasO l tb (idN b k)) = _
    rw [this, Bool.and_false, Bool.false_or]
  · have := e.2
    dsimp only at this
    rw [hi, hj] at this
    exact idN_apart h1 h2 i j this

theorem len_ins (o : O3) : ∀ (l : List O3), (insO o l).length = l.length + 1
  | [] => rfl
  | x :: r => by
    rw [insO]
    split
    · rfl
    · rw [List.length_cons, len_ins o r, List.length_cons]
theorem out_none {l : List O3} {t i : S8} (h : hasO l t i = false) : outO l t i = l := by
  unfold outO
  rw [List.filter_eq_self]
  intro o ho
  cases hh : isO t i o with
  | false => rfl
  | true =>
    have : hasO l t i = true := List.any_eq_true.2 ⟨o, ho, hh⟩
    rw [h] at this
    cases this
theorem len_with_new {l : List O3} {o : O3} (h : hasO l o.1 o.2.1 = false) : (withO l o).length = l.length + 1 := by
  unfold withO
  rw [len_ins, out_none h]
theorem len_with_le (l : List O3) (o : O3) : (withO l o).length ≤ l.length + 1 := by
  unfold withO
  rw [len_ins]
  have : (outO l o.1 o.2.1).length ≤ l.length := List.length_filter_le _ _
  omega
theorem len_out_le (l : List O3) (t i : S8) : (outO l t i).length ≤ l.length := List.length_filter_le _ _
theorem out_with_new {l : List O3} (hr : risO l) {o : O3} (h : hasO l o.1 o.2.1 = false) : outO (withO l o) o.1 o.2.1 = l := by
  refine ris_ext (ris_out (ris_with hr _) _ _) hr fun x => ?_
  rw [mem_outO, mem_withO]
  have hself := isO_self o
  constructor
  · rintro ⟨rfl | ⟨h1, _⟩, h2⟩
    · rw [hself] at h2; cases h2
    · exact h1
  · intro hx
    refine ⟨.inr ⟨hx, ?_⟩, ?_⟩ <;>
    · cases hh : isO o.1 o.2.1 x with
      | false => rfl
      | true =>
        have : hasO l o.1 o.2.1 = true := List.any_eq_true.2 ⟨x, hx, hh⟩
        rw [h] at this
        cases this
theorem with_with (l : List O3) (hr : risO l) {o q : O3} (h : o.1 = q.1 ∧ o.2.1 = q.2.1) : withO (withO l o) q = withO l q := by
  refine ris_ext (ris_with (ris_with hr _) _) (ris_with hr _) fun x => ?_
  rw [mem_withO, mem_withO, mem_withO]
  have e1 : isO q.1 q.2.1 o = true := isO_iff.2 h
  constructor
  · rintro (rfl | ⟨rfl | ⟨h1, _⟩, h3⟩)
    · exact .inl rfl
    · rw [e1] at h3; cases h3
    · exact .inr ⟨h1, h3⟩
  · rintro (rfl | ⟨h1, h3⟩)
    · exact .inl rfl
    · exact .inr ⟨.inr ⟨h1, by rw [h.1, h.2]; exact h3⟩, h3⟩
theorem len_out {l : List O3} (hr : risO l) {t i : S8} (h : hasO l t i = true) : (outO l t i).length + 1 = l.length := by
  obtain ⟨v, hv⟩ := hasO_iff.1 h
  have e : withO (outO l t i) (t, i, v) = l := by
    refine ris_ext (ris_with (ris_out hr _ _) _) hr fun x => ?_
    rw [mem_withO, mem_outO]
    constructor
    · rintro (rfl | ⟨⟨h1, _⟩, _⟩)
      · exact hv
      · exact h1
    · intro hx
      cases hh : isO t i x with
      | false => exact .inr ⟨⟨hx, rfl⟩, rfl⟩
      | true =>
        obtain ⟨a, b, y⟩ := x
        obtain ⟨rfl, rfl⟩ := isO_iff.1 hh
        rw [ris_one hr hx hv]
        exact .inl rfl
  have h2 : hasO (outO l t i) t i = false := by
    rw [hasO_out]
    simp
  have := len_with_new (o := (t, i, v)) h2
  rw [e] at this
  omega

end Go.Proofs.YtpbipngnoklmcaaGreatDoor
