/- Walk of the program's look, with its closures. -/
import Derived.Test.YtnjbdedmalpccaaDoorGrBase
import Derived.Test.YtnjbdedmalpccaaDoorGrKahn
import Derived.Laws.EntriesVeiled
namespace Go.Proofs.YtnjbdedmalpccaaDoor
open Go.RowKit

theorem out1_any (i n : Int) (p : Addr) (w : World) (h : w.cell? p = some (.int .i64 n)) :
    Calls Tryd.prog 30 #[.int .i64 i, .pointer (some p)] w fun e w' => e = .returned (.bool (outE n i)) ∧ w = w' := by
  by_cases h1 : i < 0
  · have HR : Hid (outE n i = true) := by rw [Hid]; unfold outE; simp [h1]
    go_enter Tryd.func30, Tryd.ntmps30
    go_wp2
    go_ret
    exact ⟨ret_bool HR.out.symm, rfl⟩
  · have HR : Hid (outE n i = decide (n ≤ i)) := by rw [Hid]; unfold outE; simp [h1]
    go_enter Tryd.func30, Tryd.ntmps30
    go_wp2
    go_ret
    exact ⟨ret_bool HR.out.symm, rfl⟩

/-- The value of the closure 'out'. -/
def outV (p : Addr) : Value := .func (.func 30) #[] #[.pointer (some p)]

set_option maxHeartbeats 400000 in
theorem index1_any (v : Value) (fr : List Int) (n : Int) (p : Addr) (w : World) (hf : IntsAt w v fr) (h : w.cell? p = some (.int .i64 n)) :
    Calls Tryd.prog 52 #[v, outV p] w fun e w' => ∃ j : Int, e = .returned (.int .i64 j) ∧ Hid (decide (0 ≤ j) = fr.any (outE n)) ∧ w = w' := by
  obtain ⟨ao, cap, rfl, hl, hm, hc⟩ := hf
  unfold outV
  go_enter Tryd.func52, Tryd.ntmps52
  go_wp2
  go_loop [5, 8] (fun _ i => ∃ k : Nat, k ≤ fr.length ∧ i = .int .i64 k ∧ Hid ((fr.take k).any (outE n) = false)) (fun _ i => fr.length - (intOf i).toNat)
  case atStart => exact ⟨0, Nat.zero_le _, rfl, rfl⟩
  case round =>
    obtain ⟨j, hj, rfl, htj⟩ := hrel
    by_cases hlt : j < fr.length
    · obtain ⟨bl, off, rfl, hbl, hcell⟩ := hc (by intro h; simp [h] at hlt)
      have c1 := hcell j hlt
      clear hc hcell
      have hts := take_next fr j 0 hlt
      have hmem : fr.getD j 0 ∈ fr := by simp [List.getD, hlt]
      obtain ⟨x, hx⟩ : ∃ p, p = fr.getD j 0 := ⟨_, rfl⟩
      rw [← hx] at c1 hts hmem
      have H1 : Hid (outE n x = true → fr.any (outE n) = true) := fun ho => List.any_eq_true.2 ⟨_, hmem, ho⟩
      have H2 : Hid (outE n x = false → (fr.take (j + 1)).any (outE n) = false) := fun ho => by
        rw [hts, List.any_append, htj.out]
        simpa using ho
      clear hx hts hmem htj
      go_wp2_with (go_at_call 30; refine (out1_any x n p _ h).mono ?_; rintro e w' ⟨rfl, rfl⟩)
      · have hx : outE n x = true := by assumption
        go_ret
        exact ⟨_, rfl, by rw [Hid, H1.out hx]; simp, rfl⟩
      · have hx : outE n x = false := by assumption
        go_round
        case rel => exact ⟨j + 1, by omega, by go_num, H2.out hx⟩
        case measure => simp [intOf]; omega
    · have hj' : j = fr.length := by omega
      have htj1 := htj.out
      rw [hj', List.take_length] at htj1
      have HB := Lib.hid htj1
      clear hj' htj1 htj hc
      go_wp2
      go_ret
      exact ⟨_, rfl, by rw [Hid, HB.out]; rfl, rfl⟩

theorem contains1_any (v : Value) (fr : List Int) (n : Int) (p : Addr) (w : World) (hf : IntsAt w v fr) (h : w.cell? p = some (.int .i64 n)) :
    Calls Tryd.prog 31 #[v, outV p] w fun e w' => e = .returned (.bool (fr.any (outE n))) ∧ w = w' := by
  go_enter Tryd.func31, Tryd.ntmps31
  go_wp2_with (go_at_call 52; refine (index1_any v fr n p _ hf h).mono ?_; rintro e w' ⟨j, rfl, hj, rfl⟩)
  go_ret
  exact ⟨ret_bool hj.out, rfl⟩

theorem out2_any (x y n : Int) (p q : Addr) (w : World) (hq : w.cell? q = some (outV p)) (h : w.cell? p = some (.int .i64 n)) (hpl : p.block < w.heap.size) (hql : q.block < w.heap.size) :
    Calls Tryd.prog 33 #[.agg #[.int .i64 x, .int .i64 y], .pointer (some q)] w fun e w' => e = .returned (.bool (outE n x || outE n y)) ∧ Below w.heap.size w w' := by
  unfold outV at hq
  obtain ⟨qb, qo, qs⟩ := q
  obtain ⟨pb, po, ps⟩ := p
  have hp' : ∀ o, (w.alloc o).cell? ⟨pb, po, ps⟩ = some (.int .i64 n) := fun o => (((Below.refl w.heap.size w).alloc (Nat.le_refl _) o).cell (p := ⟨pb, po, ps⟩) hpl).trans h
  have Hp := Lib.hid hp'
  clear hp'
  go_enter Tryd.func33, Tryd.ntmps33
  go_wp2_with (go_at_call 30; refine (out1_any _ n _ _ (Hp.out _)).mono ?_; rintro e w' ⟨rfl, rfl⟩)
  · have h1 : outE n x = true := by assumption
    go_ret
    exact ⟨ret_bool (by rw [h1]; rfl), (Below.refl _ _).alloc (Nat.le_refl _) _⟩
  · have h1 : outE n x = false := by simpa using ‹¬ outE n x = true›
    go_ret
    exact ⟨ret_bool (by rw [h1]; rfl), (Below.refl _ _).alloc (Nat.le_refl _) _⟩

/-- The value of the second closure. -/
def outV2 (q : Addr) : Value := .func (.func 33) #[] #[.pointer (some q)]

set_option maxHeartbeats 400000 in
theorem index2_any (v : Value) (es : List (Int × Int)) (n : Int) (p q : Addr) (w : World) (hf : PairsAt w v es) (hq : w.cell? q = some (outV p)) (h : w.cell? p = some (.int .i64 n)) (hpl : p.block < w.heap.size) (hql : q.block < w.heap.size) :
    Calls Tryd.prog 53 #[v, outV2 q] w fun e w' => ∃ j : Int, e = .returned (.int .i64 j) ∧ Hid (decide (0 ≤ j) = es.any fun e => outE n e.1 || outE n e.2) ∧ Below w.heap.size w w' := by
  obtain ⟨ao, cap, rfl, hl, hm, hc⟩ := hf
  unfold outV2
  have HQ := Lib.hid hq
  have HP := Lib.hid h
  clear hq h
  go_enter Tryd.func53, Tryd.ntmps53
  go_wp2
  go_loopw [5, 8] (fun _ i wr => ∃ k : Nat, k ≤ es.length ∧ i = .int .i64 k ∧ Hid ((es.take k).any (fun e => outE n e.1 || outE n e.2) = false) ∧ Below w.heap.size w wr) (fun _ i _ => es.length - (intOf i).toNat)
  case atStart => exact ⟨0, Nat.zero_le _, rfl, rfl, Below.refl _ _⟩
  case round =>
    obtain ⟨j, hj, rfl, htj, hb⟩ := hrel
    by_cases hlt : j < es.length
    · obtain ⟨bl, off, rfl, hbl, hcell⟩ := hc (by intro h; simp [h] at hlt)
      have c1 := (hb.cell (p := ⟨bl, off + j * 2, none⟩) hbl).trans (hcell j hlt).1
      have c2 := (hb.cell (p := ⟨bl, off + j * 2 + 1, none⟩) hbl).trans (hcell j hlt).2
      clear hc hcell
      have hts := take_next es j (0, 0) hlt
      have hmem : es.getD j (0, 0) ∈ es := by simp [List.getD, hlt]
      obtain ⟨⟨x, y⟩, hx⟩ : ∃ p, p = es.getD j (0, 0) := ⟨_, rfl⟩
      rw [← hx] at c1 c2 hts hmem
      have H1 : Hid ((outE n x || outE n y) = true → es.any (fun e => outE n e.1 || outE n e.2) = true) := fun ho => List.any_eq_true.2 ⟨_, hmem, ho⟩
      have H2 : Hid ((outE n x || outE n y) = false → (es.take (j + 1)).any (fun e => outE n e.1 || outE n e.2) = false) := fun ho => by
        rw [hts, List.any_append, htj.out]
        simpa using ho
      have W := out2_any x y n p q wr ((hb.cell hql).trans HQ.out) ((hb.cell hpl).trans HP.out) (Nat.lt_of_lt_of_le hpl hb.size) (Nat.lt_of_lt_of_le hql hb.size)
      clear hx hts hmem htj
      go_wp2_with (go_at_call 33; refine W.mono ?_; rintro e w' ⟨rfl, hb2⟩)
      · have ho : outE n x = true ∨ outE n y = true := by assumption
        go_ret
        exact ⟨_, rfl, by rw [Hid, H1.out (by simpa using ho)]; simp, hb.trans (hb2.mono hb.size)⟩
      · have ho : outE n x = false ∧ outE n y = false := by assumption
        go_roundw
        case rel => exact ⟨j + 1, by omega, by go_num, H2.out (by simpa using ho), hb.trans (hb2.mono hb.size)⟩
        case measure => simp [intOf]; omega
    · have hj' : j = es.length := by omega
      have htj1 := htj.out
      rw [hj', List.take_length] at htj1
      have HB := Lib.hid htj1
      clear hj' htj1 htj hc
      go_wp2
      go_ret
      exact ⟨_, rfl, by rw [Hid, HB.out]; rfl, hb⟩

theorem contains2_any (v : Value) (es : List (Int × Int)) (n : Int) (p q : Addr) (w : World) (hf : PairsAt w v es) (hq : w.cell? q = some (outV p)) (h : w.cell? p = some (.int .i64 n)) (hpl : p.block < w.heap.size) (hql : q.block < w.heap.size) :
    Calls Tryd.prog 32 #[v, outV2 q] w fun e w' => e = .returned (.bool (es.any fun e => outE n e.1 || outE n e.2)) ∧ Below w.heap.size w w' := by
  go_enter Tryd.func32, Tryd.ntmps32
  go_wp2_with (go_at_call 53; refine (index2_any v es n p q _ hf hq h hpl hql).mono ?_; rintro e w' ⟨j, rfl, hj, hb⟩)
  go_ret
  exact ⟨ret_bool hj.out, hb⟩

/-- The world in which look's closures run. -/
theorem look_world (w : World) (n : Int) :
    ((w.alloc (.cells #[.int .i64 n] 3)).alloc (.cells #[.func (.func 30) #[] #[.pointer (some ⟨w.heap.size, 0, none⟩)]] 90)).cell? ⟨w.heap.size, 0, none⟩ = some (.int .i64 n) ∧
    ((w.alloc (.cells #[.int .i64 n] 3)).alloc (.cells #[.func (.func 30) #[] #[.pointer (some ⟨w.heap.size, 0, none⟩)]] 90)).cell? ⟨w.heap.size + 1, 0, none⟩ = some (outV ⟨w.heap.size, 0, none⟩) ∧
    ((w.alloc (.cells #[.int .i64 n] 3)).alloc (.cells #[.func (.func 30) #[] #[.pointer (some ⟨w.heap.size, 0, none⟩)]] 90)).heap.size = w.heap.size + 2 ∧
    Below w.heap.size w ((w.alloc (.cells #[.int .i64 n] 3)).alloc (.cells #[.func (.func 30) #[] #[.pointer (some ⟨w.heap.size, 0, none⟩)]] 90)) := by
  refine ⟨?_, ?_, by simp, ((Below.refl _ _).alloc (Nat.le_refl _) _).alloc (by simp) _⟩
  · show (match ((w.heap.push _).push _)[w.heap.size]? with | some (.cells c _ _) => _ | _ => _) = _
    simp [Array.getElem?_push]
  · have e : w.heap.size + 1 = (w.alloc (.cells #[.int .i64 n] 3)).heap.size := by simp
    rw [e, World.cell?, heap_alloc_new]
    simp [outV]

set_option maxHeartbeats 800000 in
theorem look_any (v u : Value) (es : List (Int × Int)) (fr : List Int) (n : Int) (w : World) (h : PairsAt w v es) (hf : IntsAt w u fr) :
    Calls Tryd.prog 21 #[.int .i64 n, v, u] w fun e w' => e = .returned (.int .i64 (lookE n es fr)) ∧ Below w.heap.size w w' := by
  obtain ⟨c1, c2, hs, hb⟩ := look_world w n
  have C1 := contains1_any u fr n ⟨w.heap.size, 0, none⟩ _ (hf.mono hb) c1
  have C2 := contains2_any v es n ⟨w.heap.size, 0, none⟩ ⟨w.heap.size + 1, 0, none⟩ _ (h.mono hb) c2 c1 (by rw [hs]; exact Nat.lt_add_of_pos_right (by decide)) (by rw [hs]; exact Nat.lt_succ_self _)
  have hb' : ∀ x, Below ((w.alloc (.cells #[.int .i64 n] 3)).alloc (.cells #[.func (.func 30) #[] #[.pointer (some ⟨w.heap.size, 0, none⟩)]] 90)).heap.size ((w.alloc (.cells #[.int .i64 n] 3)).alloc (.cells #[.func (.func 30) #[] #[.pointer (some ⟨w.heap.size, 0, none⟩)]] 90)) x → Below w.heap.size w x := fun x hx => hb.trans (hx.mono (by rw [hs]; omega))
  obtain ⟨ao, cap, rfl, hl, hm, _⟩ := h
  have HB := Lib.hid hb
  have HB' := Lib.hid hb'
  clear hf c1 c2 hs hb hb'
  by_cases hn : n < 0 ∨ 512 < n
  · have HR : Hid (lookE n es fr = 1) := by unfold lookE; rw [Hid, if_pos hn]
    rcases hn with hn | hn
    · clear C1 C2
      go_enter Tryd.func21, Tryd.ntmps21
      go_wp2_with fail
      go_ret
      exact ⟨ret_int HR.out.symm, HB.out⟩
    · clear C1 C2
      have h0 : ¬ n < 0 := by omega
      go_enter Tryd.func21, Tryd.ntmps21
      go_wp2_with fail
      go_ret
      exact ⟨ret_int HR.out.symm, HB.out⟩
  · have h0 : ¬ n < 0 := by omega
    have h1 : n ≤ 512 := by omega
    have HN := Lib.hid hn
    clear hn
    cases hfa : fr.any (outE n) with
    | true =>
      have HR : Hid (lookE n es fr = 1) := by unfold lookE; rw [Hid, if_neg HN.out, if_pos (by rw [hfa]; simp)]
      rw [hfa] at C1
      clear hfa C2
      go_enter Tryd.func21, Tryd.ntmps21
      go_wp2_with (go_at_call 31; refine C1.mono ?_; rintro e w' ⟨rfl, rfl⟩)
      go_ret
      exact ⟨ret_int HR.out.symm, HB.out⟩
    | false =>
      rw [hfa] at C1
      cases hea : es.any (fun e => outE n e.1 || outE n e.2) with
      | true =>
        have HR : Hid (lookE n es fr = 1) := by unfold lookE; rw [Hid, if_neg HN.out, if_pos (by rw [hea]; simp)]
        rw [hea] at C2
        clear hfa hea
        go_enter Tryd.func21, Tryd.ntmps21
        go_wp2_with (first | (go_at_call 31; refine C1.mono ?_; rintro e w' ⟨rfl, rfl⟩) | (go_at_call 32; refine C2.mono ?_; rintro e w' ⟨rfl, hb2⟩))
        go_ret
        exact ⟨ret_int HR.out.symm, HB'.out _ hb2⟩
      | false =>
        have HR : Hid (lookE n es fr = if 4096 < es.length then 3 else 0) := by
          unfold lookE; rw [Hid, if_neg HN.out, if_neg (by rw [hea, hfa]; simp)]
        rw [hea] at C2
        clear hfa hea
        by_cases h4 : 4096 < es.length
        · rw [if_pos h4] at HR
          go_enter Tryd.func21, Tryd.ntmps21
          go_wp2_with (first | (go_at_call 31; refine C1.mono ?_; rintro e w' ⟨rfl, rfl⟩) | (go_at_call 32; refine C2.mono ?_; rintro e w' ⟨rfl, hb2⟩))
          go_ret
          exact ⟨ret_int HR.out.symm, HB'.out _ hb2⟩
        · rw [if_neg h4] at HR
          go_enter Tryd.func21, Tryd.ntmps21
          go_wp2_with (first | (go_at_call 31; refine C1.mono ?_; rintro e w' ⟨rfl, rfl⟩) | (go_at_call 32; refine C2.mono ?_; rintro e w' ⟨rfl, hb2⟩))
          go_ret
          exact ⟨ret_int HR.out.symm, HB'.out _ hb2⟩

end Go.Proofs.YtnjbdedmalpccaaDoor
