/- Plain: in the document's order each edge goes forward; it is whole just if any order is; turned round it is whole just if it was. No program in sight. -/
import Derived.Test.YtnjbdedmalpccaaDoorGrKahn
namespace Go.Proofs.YtnjbdedmalpccaaDoor

/-- Each edge goes forward, and what is ahead of a node in order is in order, too. -/
structure Fwd (es : List (Int × Int)) (o : List Nat) : Prop where
  lt : ∀ e ∈ es, ∀ i j : Nat, o[i]? = some e.1.toNat → o[j]? = some e.2.toNat → i < j
  mem : ∀ e ∈ es, e.2.toNat ∈ o → e.1.toNat ∈ o

theorem Fwd.nil (es : List (Int × Int)) : Fwd es [] := ⟨fun e _ i j h => by simp at h, fun e _ h => by cases h⟩

theorem rdy_mem {es : List (Int × Int)} {o : List Nat} {x : Nat} (h : rdy es o x = true) {e : Int × Int} (he : e ∈ es) (hx : e.2 = (x : Int)) : e.1.toNat ∈ o := by
  unfold rdy at h
  simp only [Bool.and_eq_true, List.all_eq_true, Bool.or_eq_true, Bool.not_eq_true', beq_eq_false_iff_ne, List.contains_eq_mem, decide_eq_true_eq] at h
  exact (h.2 e he).resolve_left (fun h => h hx)

theorem Fwd.snoc {es : List (Int × Int)} {o : List Nat} {x : Nat} (h : Fwd es o) (hes : ∀ e ∈ es, 0 ≤ e.1 ∧ 0 ≤ e.2) (hr : rdy es o x = true) : Fwd es (o ++ [x]) := by
  have hxo := rdy_notin hr
  refine ⟨fun e he i j hi hj => ?_, fun e he hm => ?_⟩
  · rw [List.getElem?_append] at hi hj
    have key : e.1.toNat ∈ o := by
      split at hj
      · exact h.mem e he (List.mem_of_getElem? hj)
      · rename_i hjl
        have : e.2 = (x : Int) := by
          cases hd : j - o.length with
          | zero => rw [hd] at hj; simp at hj; have := hes e he; omega
          | succ d => rw [hd] at hj; simp at hj
        exact rdy_mem hr he this
    have hil : i < o.length := by
      apply Classical.byContradiction
      intro hn
      rw [if_neg hn] at hi
      cases hd : i - o.length with
      | zero => rw [hd] at hi; simp at hi; rw [← hi] at key; exact hxo key
      | succ d => rw [hd] at hi; simp at hi
    rw [if_pos hil] at hi
    split at hj
    · exact h.lt e he i j hi hj
    · omega
  · rcases List.mem_append.1 hm with hm | hm
    · exact List.mem_append_left _ (h.mem e he hm)
    · simp at hm
      exact List.mem_append_left _ (rdy_mem hr he (by have := hes e he; omega))

theorem kahnF_fwd {n : Nat} {es : List (Int × Int)} (hes : ∀ e ∈ es, 0 ≤ e.1 ∧ 0 ≤ e.2) : ∀ (f : Nat) {o : List Nat}, Fwd es o → Fwd es (kahnF n es f o)
  | 0, _, h => h
  | f + 1, o, h => by
    unfold kahnF
    cases hn : nextOf n es o with
    | none => exact h
    | some i => exact kahnF_fwd hes f (h.snoc hes (nextOf_some hn).2)
theorem kahn_fwd {n : Nat} {es : List (Int × Int)} (hes : ∀ e ∈ es, 0 ≤ e.1 ∧ 0 ≤ e.2) : Fwd es (kahn n es) := kahnF_fwd hes n (Fwd.nil es)

theorem Ok.all {n : Nat} {o : List Nat} (h : Ok n o) (hl : o.length = n) : ∀ k, k < n → k ∈ o := by
  intro k hk
  apply Classical.byContradiction
  intro hn
  have := (h.snoc hk hn).len
  simp at this
  omega

/-- Where there is a whole order, an order under way has a next node. -/
theorem next_of_full {n : Nat} {es : List (Int × Int)} {L o : List Nat} (hes : ∀ e ∈ es, 0 ≤ e.1 ∧ e.1 < n ∧ 0 ≤ e.2 ∧ e.2 < n) (hL : Ok n L) (hf : L.length = n) (hw : Fwd es L) (hl : o.length < n) : ∃ i, nextOf n es o = some i := by
  cases hn : nextOf n es o with
  | some i => exact ⟨i, rfl⟩
  | none =>
    exfalso
    unfold nextOf at hn
    rw [List.find?_eq_none] at hn
    have hex : ∃ j, j < L.length ∧ L.getD j 0 ∉ o := by
      apply Classical.byContradiction
      intro hno
      have hsub : L ⊆ o := fun k hk => by
        obtain ⟨j, hj, rfl⟩ := List.getElem_of_mem hk
        apply Classical.byContradiction
        intro h
        exact hno ⟨j, hj, by simpa [List.getD, hj] using h⟩
      have := hL.nd.length_le_of_subset hsub
      omega
    have key : ∀ j, j < L.length → L.getD j 0 ∈ o := by
      intro j
      induction j using Nat.strongRecOn with
      | _ j ih =>
        intro hj
        apply Classical.byContradiction
        intro hno
        have hjn : L.getD j 0 < n := hL.lt _ (by simp [List.getD, hj])
        apply hn (L.getD j 0) (by simpa using hjn)
        unfold rdy
        simp only [Bool.and_eq_true, Bool.not_eq_true', List.contains_eq_mem, decide_eq_false_iff_not, List.all_eq_true, Bool.or_eq_true, beq_eq_false_iff_ne, decide_eq_true_eq]
        refine ⟨hno, fun e he => ?_⟩
        by_cases h2 : e.2 = (L.getD j 0 : Int)
        · right
          obtain ⟨p1, p2, p3, p4⟩ := hes e he
          obtain ⟨i, hi, hie⟩ := List.getElem_of_mem (hL.all hf e.1.toNat (by omega))
          have hij := hw.lt e he i j (by rw [List.getElem?_eq_getElem hi, hie]) (by
            have e2 : e.2.toNat = L.getD j 0 := by omega
            rw [e2]; simp [List.getD, hj])
          have := ih i hij hi
          rw [← hie]
          simpa [List.getD, hi] using this
        · left; exact h2
    obtain ⟨j, hj, hno⟩ := hex
    exact hno (key j hj)

theorem kahnF_full {n : Nat} {es : List (Int × Int)} {L : List Nat} (hes : ∀ e ∈ es, 0 ≤ e.1 ∧ e.1 < n ∧ 0 ≤ e.2 ∧ e.2 < n) (hL : Ok n L) (hf : L.length = n) (hw : Fwd es L) : ∀ (f : Nat) {o : List Nat}, Ok n o → n - o.length ≤ f → (kahnF n es f o).length = n
  | 0, o, h, hfu => by have := h.len; simp only [kahnF]; omega
  | f + 1, o, h, hfu => by
    unfold kahnF
    by_cases hl : o.length < n
    · obtain ⟨i, hi⟩ := next_of_full hes hL hf hw hl
      rw [hi]
      obtain ⟨h1, h2⟩ := nextOf_some hi
      exact kahnF_full hes hL hf hw f (h.snoc h1 (rdy_notin h2)) (by simp; omega)
    · have hlen := h.len
      rw [h.full (es := es) (by omega)]
      simp only
      omega
theorem kahn_full {n : Nat} {es : List (Int × Int)} {L : List Nat} (hes : ∀ e ∈ es, 0 ≤ e.1 ∧ e.1 < n ∧ 0 ≤ e.2 ∧ e.2 < n) (hL : Ok n L) (hf : L.length = n) (hw : Fwd es L) : (kahn n es).length = n := kahnF_full hes hL hf hw n (Ok.nil n) (by simp)

/-- The edges turned round. -/
def revE (es : List (Int × Int)) : List (Int × Int) := es.map fun e => (e.2, e.1)
theorem revE_len (es : List (Int × Int)) : (revE es).length = es.length := by simp [revE]
theorem revE_snoc (es : List (Int × Int)) (e : Int × Int) : revE (es ++ [e]) = revE es ++ [(e.2, e.1)] := by simp [revE]
theorem mem_revE {es : List (Int × Int)} {e : Int × Int} : e ∈ revE es ↔ (e.2, e.1) ∈ es := by
  unfold revE
  constructor
  · intro h; obtain ⟨p, hp, rfl⟩ := List.mem_map.1 h; exact hp
  · intro h; exact List.mem_map.2 ⟨_, h, rfl⟩
theorem revE_rev (es : List (Int × Int)) : revE (revE es) = es := by
  unfold revE
  rw [List.map_map]
  exact (List.map_congr_left (fun _ _ => rfl)).trans (List.map_id es)
theorem revE_in {n : Nat} {es : List (Int × Int)} (hes : ∀ e ∈ es, 0 ≤ e.1 ∧ e.1 < n ∧ 0 ≤ e.2 ∧ e.2 < n) : ∀ e ∈ revE es, 0 ≤ e.1 ∧ e.1 < n ∧ 0 ≤ e.2 ∧ e.2 < n := fun e he => by
  obtain ⟨a, b, c, d⟩ := hes _ (mem_revE.1 he)
  exact ⟨c, d, a, b⟩

theorem look_rev (n : Int) (es : List (Int × Int)) : lookE n (revE es) [] = lookE n es [] := by
  have h : (revE es).any (fun e => outE n e.1 || outE n e.2) = es.any (fun e => outE n e.1 || outE n e.2) := by
    unfold revE
    rw [List.any_map]
    congr 1
    funext e
    simp [Bool.or_comm]
  unfold lookE
  rw [h, revE_len]

theorem fwd_rev {n : Nat} {es : List (Int × Int)} {L : List Nat} (hes : ∀ e ∈ es, 0 ≤ e.1 ∧ e.1 < n ∧ 0 ≤ e.2 ∧ e.2 < n) (hL : Ok n L) (hf : L.length = n) (hw : Fwd es L) : Fwd (revE es) L.reverse := by
  refine ⟨fun e he i j hi hj => ?_, fun e he _ => ?_⟩
  · have hm := mem_revE.1 he
    have hil : i < L.length := by have := (List.getElem?_eq_some_iff.1 hi).1; simpa using this
    have hjl : j < L.length := by have := (List.getElem?_eq_some_iff.1 hj).1; simpa using this
    rw [List.getElem?_reverse hil] at hi
    rw [List.getElem?_reverse hjl] at hj
    have := hw.lt _ hm _ _ hj hi
    omega
  · have hm := hes _ (mem_revE.1 he)
    simp only at hm
    rw [List.mem_reverse]
    exact hL.all hf _ (by omega)

theorem kahn_rev {n : Nat} {es : List (Int × Int)} (hes : ∀ e ∈ es, 0 ≤ e.1 ∧ e.1 < n ∧ 0 ≤ e.2 ∧ e.2 < n) (h : (kahn n es).length = n) : (kahn n (revE es)).length = n := by
  have hok := kahn_ok n es
  exact kahn_full (L := (kahn n es).reverse) (revE_in hes) ⟨fun i hi => hok.lt i (by simpa using hi), (List.reverse_perm _).nodup_iff.2 hok.nd⟩ (by simpa using h) (fwd_rev hes hok h (kahn_fwd fun e he => ⟨(hes e he).1, (hes e he).2.2.1⟩))

theorem order_rev (n : Int) (es : List (Int × Int)) : (orderR n (revE es)).2 = (orderR n es).2 := by
  unfold orderR
  rw [look_rev]
  by_cases h0 : lookE n es [] = 0
  · rw [if_pos h0, if_pos h0]
    obtain ⟨hn0, hn1, _, hes, _⟩ := lookE_zero h0
    obtain ⟨m, rfl⟩ := Int.eq_ofNat_of_zero_le hn0
    rw [Int.toNat_natCast]
    have k1 := (kahn_ok m es).len
    have k2 := (kahn_ok m (revE es)).len
    have h1 : (kahn m es).length = m → (kahn m (revE es)).length = m := kahn_rev hes
    have h2 : (kahn m (revE es)).length = m → (kahn m es).length = m := fun h => by
      have := kahn_rev (revE_in hes) h
      rwa [revE_rev] at this
    by_cases e : (kahn m es).length = m
    · rw [if_neg (by have := h1 e; omega), if_neg (by omega)]
    · rw [if_pos (by have : ¬ (kahn m (revE es)).length = m := fun h => e (h2 h); omega), if_pos (by omega)]
  · rw [if_neg h0, if_neg h0]

theorem orderR_ne {n : Int} {es : List (Int × Int)} (h : (orderR n es).2 ≠ 0) : (orderR n es).1 = [] := by
  unfold orderR at h ⊢
  split
  · rename_i h0
    rw [if_pos h0] at h
    split
    · rfl
    · rename_i h1
      rw [if_neg h1] at h
      exact absurd rfl h
  · rfl
theorem orderR_zero {n : Int} {es : List (Int × Int)} (h : (orderR n es).2 = 0) :
    ∃ m : Nat, n = (m : Int) ∧ m ≤ 512 ∧ (∀ e ∈ es, 0 ≤ e.1 ∧ e.1 < (m : Int) ∧ 0 ≤ e.2 ∧ e.2 < (m : Int)) ∧ (kahn m es).length = m ∧ (orderR n es).1 = (kahn m es).map fun i : Nat => (i : Int) := by
  unfold orderR at h ⊢
  split at h
  · rename_i h0
    obtain ⟨hn0, hn1, _, hes, _⟩ := lookE_zero h0
    obtain ⟨m, rfl⟩ := Int.eq_ofNat_of_zero_le hn0
    rw [Int.toNat_natCast] at h ⊢
    split at h
    · cases h
    · rename_i h1
      have := (kahn_ok m es).len
      exact ⟨m, rfl, by omega, hes, by omega, by rw [if_pos h0, if_neg h1]⟩
  · rename_i h0
    exact absurd h h0

end Go.Proofs.YtnjbdedmalpccaaDoor
