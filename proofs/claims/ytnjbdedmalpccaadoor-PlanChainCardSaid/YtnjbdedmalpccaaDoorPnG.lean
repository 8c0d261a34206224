/- Plain: a graph whose nodes stand in one row has that order, and so has its reduction. No walk. -/
import Derived.Test.YtnjbdedmalpccaaDoorPnO
namespace Go.Proofs.YtnjbdedmalpccaaDoor
set_option maxRecDepth 100000

/-- The nodes' one row: each edge goes forward in it, and each node is tied to the next. -/
structure RowG (n : Nat) (es : List (Int × Int)) (l : List Nat) : Prop where
  ok : Ok n l
  full : l.length = n
  rng : ∀ e ∈ es, 0 ≤ e.1 ∧ e.1 < n ∧ 0 ≤ e.2 ∧ e.2 < n
  fwd : ∀ e ∈ es, l.idxOf e.1.toNat < l.idxOf e.2.toNat
  next : ∀ k (h : k + 1 < l.length), ((l[k] : Nat), (l[k + 1] : Nat)) ∈ es.map fun e => (e.1.toNat, e.2.toNat)

theorem idx_get {l : List Nat} (hn : l.Nodup) {k : Nat} (h : k < l.length) : l.idxOf l[k] = k := by
  have h1 : l.idxOf l[k] < l.length := List.idxOf_lt_length_of_mem (List.getElem_mem h)
  have h2 : l[l.idxOf l[k]] = l[k] := List.getElem_idxOf h1
  have hp := List.pairwise_iff_getElem.1 hn
  rcases Nat.lt_trichotomy (l.idxOf l[k]) k with h3 | h3 | h3
  · exact absurd h2 (hp _ _ h1 h h3)
  · exact h3
  · exact absurd h2.symm (hp _ _ h h1 h3)
theorem mem_take_idx {l : List Nat} (hn : l.Nodup) {x k : Nat} (hx : x ∈ l) : x ∈ l.take k ↔ l.idxOf x < k := by
  have h1 : l.idxOf x < l.length := List.idxOf_lt_length_of_mem hx
  have h2 : l[l.idxOf x] = x := List.getElem_idxOf h1
  constructor
  · intro h
    obtain ⟨i, hi, he⟩ := List.mem_iff_getElem.1 h
    rw [List.getElem_take] at he
    have hik : i < k := by rw [List.length_take] at hi; omega
    have hil : i < l.length := by rw [List.length_take] at hi; omega
    rw [← he, idx_get hn hil]
    exact hik
  · intro h
    rw [List.mem_iff_getElem]
    exact ⟨l.idxOf x, by rw [List.length_take]; omega, by rw [List.getElem_take]; exact h2⟩
theorem RowG.mem {n : Nat} {es : List (Int × Int)} {l : List Nat} (h : RowG n es l) {i : Nat} (hi : i < n) : i ∈ l := by
  apply Classical.byContradiction
  intro hm
  have := (h.ok.snoc hi hm).len
  rw [List.length_append, h.full] at this
  simp at this
  omega
theorem RowG.rdy {n : Nat} {es : List (Int × Int)} {l : List Nat} (h : RowG n es l) {k i : Nat} (hk : k < l.length) (hi : i < n) : rdy es (l.take k) i = true ↔ i = l[k] := by
  have hm := h.mem hi
  unfold Go.Proofs.YtnjbdedmalpccaaDoor.rdy
  simp only [Bool.and_eq_true, Bool.not_eq_true', List.contains_eq_mem, decide_eq_false_iff_not, List.all_eq_true, Bool.or_eq_true, decide_eq_true_eq]
  have hil : l.idxOf i < l.length := List.idxOf_lt_length_of_mem hm
  have hgi : l[l.idxOf i] = i := List.getElem_idxOf hil
  constructor
  · rintro ⟨h1, h2⟩
    rw [mem_take_idx h.ok.nd hm] at h1
    by_cases e : l.idxOf i = k
    · subst e
      exact hgi.symm
    · exfalso
      obtain ⟨j, hj⟩ : ∃ j, l.idxOf i = j + 1 := ⟨l.idxOf i - 1, by omega⟩
      have hjl : j + 1 < l.length := by omega
      obtain ⟨x, hx, he⟩ := List.mem_map.1 (h.next j hjl)
      have e1 : x.1.toNat = l[j] := congrArg Prod.fst he
      have e2 : x.2.toNat = l[j + 1] := congrArg Prod.snd he
      have e3 : l[j + 1] = i := by
        have := hgi
        simp only [hj] at this
        exact this
      have hx0 := h.rng x hx
      rcases h2 x hx with h3 | h3
      · have : x.2 = (i : Int) := by rw [← e3, ← e2]; omega
        rw [this] at h3
        simp at h3
      · rw [e1, mem_take_idx h.ok.nd (List.getElem_mem (by omega)), idx_get h.ok.nd (by omega)] at h3
        omega
  · rintro rfl
    refine ⟨fun hh => ?_, fun x hx => ?_⟩
    · rw [mem_take_idx h.ok.nd hm, idx_get h.ok.nd hk] at hh
      omega
    · by_cases e : x.2 = ((l[k] : Nat) : Int)
      · right
        have hf := h.fwd x hx
        have hx0 := h.rng x hx
        rw [mem_take_idx h.ok.nd (h.mem (by omega))]
        have : x.2.toNat = l[k] := by omega
        rw [this, idx_get h.ok.nd hk] at hf
        exact hf
      · left
        simpa using e
theorem RowG.kahn {n : Nat} {es : List (Int × Int)} {l : List Nat} (h : RowG n es l) : kahn n es = l := by
  have go : ∀ (f k : Nat), k + f = n → kahnF n es f (l.take k) = l := by
    intro f
    induction f with
    | zero =>
      intro k hk
      have : l.take k = l := List.take_of_length_le (by rw [h.full]; omega)
      rw [this]
      rfl
    | succ f ih =>
      intro k hk
      have hkl : k < l.length := by rw [h.full]; omega
      have hn : nextOf n es (l.take k) = some l[k] := by
        cases hx : nextOf n es (l.take k) with
        | none =>
          exfalso
          unfold nextOf at hx
          have := List.find?_eq_none.1 hx l[k] (by simpa using h.ok.lt _ (List.getElem_mem hkl))
          exact this ((h.rdy hkl (h.ok.lt _ (List.getElem_mem hkl))).2 rfl)
        | some i =>
          obtain ⟨h1, h2⟩ := nextOf_some hx
          rw [(h.rdy hkl h1).1 h2]
      rw [kahnF_some f hn, show l.take k ++ [l[k]] = l.take (k + 1) by rw [List.take_add_one, List.getElem?_eq_getElem hkl]; rfl]
      exact ih (k + 1) (by omega)
  have := go n 0 (by omega)
  simpa [Go.Proofs.YtnjbdedmalpccaaDoor.kahn] using this
theorem RowG.perm {n : Nat} {es ts : List (Int × Int)} {l : List Nat} (h : RowG n es l) (hp : ts.Perm es) : RowG n ts l :=
  ⟨h.ok, h.full, fun e he => h.rng e (hp.mem_iff.1 he), fun e he => h.fwd e (hp.mem_iff.1 he), fun k hk => (hp.map _).mem_iff.2 (h.next k hk)⟩
theorem RowG.reduce {n : Nat} {es : List (Int × Int)} {l : List Nat} (h : RowG n es l) (hn : n ≤ 512) (hl : es.length ≤ 4096) :
    (∀ ts : List (Int × Int), ts.Perm es → reduceR n ts = (redL n es, 0)) ∧ orderR n (redL n es) = (l.map (fun i : Nat => (i : Int)), 0) := by
  have hk : ∀ {ts : List (Int × Int)}, RowG n ts l → (Go.Proofs.YtnjbdedmalpccaaDoor.kahn n ts).length = n := fun ht => by rw [ht.kahn]; exact ht.full
  refine ⟨fun ts hp => ?_, ?_⟩
  · have ht := h.perm hp
    rw [reduce_good (look_zero hn (by rw [hp.length_eq]; exact hl) ht.rng (by simp)) (hk ht)]
    rw [redL_congr (es := ts) (fs := es) fun a b => by
      have he : EdgeL ts = EdgeL es := funext fun a => funext fun b => propext (by unfold EdgeL; exact hp.mem_iff)
      rw [he]]
  · have hsub := fun e (he : e ∈ redL n es) => redL_sub e he
    have hkr : Go.Proofs.YtnjbdedmalpccaaDoor.kahn n (redL n es) = l := by
      rw [kahn_ways (fun e he => h.rng e (hsub e he)) h.rng (fun a b => way_redL h.rng (hk h) a b)]
      exact h.kahn
    have hnd : (redL n es).Nodup := gridL_nodup n _
    have hlen : (redL n es).length ≤ es.length := hnd.length_le_of_subset hsub
    rw [order_good (look_zero hn (by omega) (fun e he => h.rng e (hsub e he)) (by simp)) (by rw [hkr]; exact h.full), hkr]

end Go.Proofs.YtnjbdedmalpccaaDoor
