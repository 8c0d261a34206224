/- Plain: a graph without cycles is reduced to the edges that no other way stands for; it has the same ways and the same order. No program in sight. -/
import Derived.Test.YtnjbdedmalpccaaDoorGrReachP
import Derived.Test.YtnjbdedmalpccaaDoorGrTopP
namespace Go.Proofs.YtnjbdedmalpccaaDoor

theorem Way.head {E : Nat → Nat → Prop} {a b : Nat} (h : Way E a b) : E a b ∨ ∃ m, E a m ∧ Way E m b := by
  induction h with
  | one e => exact Or.inl e
  | snoc _ e ih =>
    rcases ih with h | ⟨m, h1, h2⟩
    · exact Or.inr ⟨_, h, .one e⟩
    · exact Or.inr ⟨m, h1, .snoc h2 e⟩

/-- The edges rise: no cycle. -/
def Rises (E : Nat → Nat → Prop) : Prop := ∃ r : Nat → Nat, ∀ a b, E a b → r a < r b
theorem way_rises {E : Nat → Nat → Prop} {r : Nat → Nat} (hr : ∀ a b, E a b → r a < r b) {a b : Nat} (h : Way E a b) : r a < r b := by
  induction h with
  | one e => exact hr _ _ e
  | snoc _ e ih => exact Nat.lt_trans ih (hr _ _ e)

/-- The steps: the ways that no other two make. -/
def Red (E : Nat → Nat → Prop) (a b : Nat) : Prop := Way E a b ∧ ∀ m, Way E a m → ¬ Way E m b
theorem Red.edge {E : Nat → Nat → Prop} {a b : Nat} (h : Red E a b) : E a b := by
  rcases h.1.head with h1 | ⟨m, h1, h2⟩
  · exact h1
  · exact absurd h2 (h.2 m (.one h1))
theorem Red.congr {E F : Nat → Nat → Prop} (h : ∀ a b, Way E a b ↔ Way F a b) (a b : Nat) : Red E a b ↔ Red F a b := by
  unfold Red
  rw [h]
  exact ⟨fun ⟨x, y⟩ => ⟨x, fun m hm hb => y m ((h _ _).2 hm) ((h _ _).2 hb)⟩, fun ⟨x, y⟩ => ⟨x, fun m hm hb => y m ((h _ _).1 hm) ((h _ _).1 hb)⟩⟩

theorem way_of_red {E : Nat → Nat → Prop} {r : Nat → Nat} (hr : ∀ a b, E a b → r a < r b) : ∀ (d : Nat) (a b : Nat), r b - r a ≤ d → Way E a b → Way (Red E) a b
  | 0, a, b, hd, h => by have := way_rises hr h; omega
  | d + 1, a, b, hd, h => by
    by_cases hm : ∃ m, Way E a m ∧ Way E m b
    · obtain ⟨m, h1, h2⟩ := hm
      have p1 := way_rises hr h1
      have p2 := way_rises hr h2
      exact (way_of_red hr d a m (by omega) h1).trans (way_of_red hr d m b (by omega) h2)
    · exact .one ⟨h, fun m h1 h2 => hm ⟨m, h1, h2⟩⟩
theorem way_red {E : Nat → Nat → Prop} (hr : Rises E) (a b : Nat) : Way (Red E) a b ↔ Way E a b := by
  obtain ⟨r, hr⟩ := hr
  exact ⟨fun h => h.mono fun _ _ h => h.edge, fun h => way_of_red hr _ a b (Nat.le_refl _) h⟩
theorem red_red {E : Nat → Nat → Prop} (hr : Rises E) (a b : Nat) : Red (Red E) a b ↔ Red E a b := Red.congr (way_red hr) a b

/-- A reduced edge has no other way. -/
theorem red_alone {E F : Nat → Nat → Prop} {a b : Nat} (h : Red E a b) (hF : ∀ x y, F x y → E x y) (hn : ¬ F a b) : ¬ Way F a b := fun hw => by
  rcases hw.head with h1 | ⟨m, h1, h2⟩
  · exact hn h1
  · exact h.2 m (.one (hF _ _ h1)) (h2.mono hF)

/-- The reference's edges: those that no way without them stands for. -/
theorem red_without {E F : Nat → Nat → Prop} (hr : Rises E) {a b : Nat} (hF : ∀ x y, F x y ↔ E x y ∧ ¬ (x = a ∧ y = b)) : (E a b ∧ ¬ Way F a b) ↔ Red E a b := by
  obtain ⟨r, hr⟩ := hr
  refine ⟨fun ⟨he, hw⟩ => ⟨.one he, fun m h1 h2 => hw ?_⟩, fun h => ⟨h.edge, red_alone h (fun x y h => ((hF x y).1 h).1) (fun h => ((hF a b).1 h).2 ⟨rfl, rfl⟩)⟩⟩
  have p2 := way_rises hr h2
  have p1 := way_rises hr h1
  have up : ∀ k, Way E m k → Way F m k := by
    intro k hk
    induction hk with
    | one e => exact .one ((hF _ _).2 ⟨e, fun e => by rw [e.1] at p1; omega⟩)
    | snoc hx e ih => exact .snoc ih ((hF _ _).2 ⟨e, fun e => by have := way_rises hr hx; rw [e.1] at this; omega⟩)
  have lo : ∀ k, Way E a k → r k < r b → Way F a k := by
    intro k hk
    induction hk with
    | one e => intro hl; exact .one ((hF _ _).2 ⟨e, fun e => by rw [e.2] at hl; omega⟩)
    | snoc hx e ih =>
      intro hl
      have := hr _ _ e
      exact .snoc (ih (by omega)) ((hF _ _).2 ⟨e, fun e => by rw [e.2] at hl; omega⟩)
  exact (lo m h1 p2).trans (up b h2)

/-- Ways that stand for themselves change nothing. -/
theorem way_more {E F : Nat → Nat → Prop} (h1 : ∀ a b, E a b → F a b) (h2 : ∀ a b, F a b → Way E a b) (a b : Nat) : Way F a b ↔ Way E a b := by
  refine ⟨fun h => ?_, fun h => h.mono h1⟩
  induction h with
  | one e => exact h2 _ _ e
  | snoc _ e ih => exact ih.trans (h2 _ _ e)

/-- The edge relation of a list of edges. -/
def EdgeL (es : List (Int × Int)) (a b : Nat) : Prop := ((a : Int), (b : Int)) ∈ es
theorem edge_none (es : List (Int × Int)) : Edge es (-1, -1) = EdgeL es := funext fun _ => funext fun _ => propext Edge.none

theorem rises_of {n : Nat} {es : List (Int × Int)} (hes : ∀ e ∈ es, 0 ≤ e.1 ∧ e.1 < n ∧ 0 ≤ e.2 ∧ e.2 < n) (h : (kahn n es).length = n) : ∀ a b, EdgeL es a b → (kahn n es).idxOf a < (kahn n es).idxOf b := by
  intro a b hab
  obtain ⟨p1, p2, p3, p4⟩ := hes _ hab
  have ha := (kahn_ok n es).all h a (by simpa using p2)
  have hb := (kahn_ok n es).all h b (by simpa using p4)
  refine (kahn_fwd (n := n) (es := es) fun e he => ⟨(hes e he).1, (hes e he).2.2.1⟩).lt _ hab _ _ ?_ ?_
  · simp [List.getElem?_eq_getElem (List.idxOf_lt_length_of_mem ha)]
  · simp [List.getElem?_eq_getElem (List.idxOf_lt_length_of_mem hb)]
theorem rises_kahn {n : Nat} {es : List (Int × Int)} (hes : ∀ e ∈ es, 0 ≤ e.1 ∧ e.1 < n ∧ 0 ≤ e.2 ∧ e.2 < n) (h : (kahn n es).length = n) : Rises (EdgeL es) := ⟨_, rises_of hes h⟩

/-- The reduced graph, as a list: a rising, b rising. -/
def gridL (n : Nat) (p : Nat → Nat → Bool) : List (Int × Int) := (List.range n).flatMap fun a => ((List.range n).filter (p a)).map fun b : Nat => ((a : Int), (b : Int))
theorem mem_gridL {n : Nat} {p : Nat → Nat → Bool} {e : Int × Int} : e ∈ gridL n p ↔ ∃ a b : Nat, a < n ∧ b < n ∧ p a b = true ∧ e = ((a : Int), (b : Int)) := by
  unfold gridL
  simp only [List.mem_flatMap, List.mem_map, List.mem_filter, List.mem_range]
  constructor
  · rintro ⟨a, ha, b, ⟨hb, hp⟩, rfl⟩; exact ⟨a, b, ha, hb, hp, rfl⟩
  · rintro ⟨a, b, ha, hb, hp, rfl⟩; exact ⟨a, ha, b, ⟨hb, hp⟩, rfl⟩
theorem gridL_congr {n : Nat} {p q : Nat → Nat → Bool} (h : ∀ a b, a < n → b < n → p a b = q a b) : gridL n p = gridL n q := by
  unfold gridL
  rw [List.flatMap_def, List.flatMap_def]
  congr 1
  apply List.map_congr_left
  intro a ha
  congr 1
  apply List.filter_congr
  intro b hb
  exact h a b (by simpa using ha) (by simpa using hb)

open Classical in
noncomputable def redB (es : List (Int × Int)) (a b : Nat) : Bool := decide (Red (EdgeL es) a b)
theorem redB_true {es : List (Int × Int)} {a b : Nat} : redB es a b = true ↔ Red (EdgeL es) a b := by simp [redB]
noncomputable def redL (n : Nat) (es : List (Int × Int)) : List (Int × Int) := gridL n (redB es)

theorem edgeL_redL {n : Nat} {es : List (Int × Int)} (hes : ∀ e ∈ es, 0 ≤ e.1 ∧ e.1 < n ∧ 0 ≤ e.2 ∧ e.2 < n) (a b : Nat) : EdgeL (redL n es) a b ↔ Red (EdgeL es) a b := by
  unfold EdgeL redL
  rw [mem_gridL]
  constructor
  · rintro ⟨x, y, hx, hy, hp, he⟩
    obtain rfl : a = x := by have := congrArg Prod.fst he; simp at this; omega
    obtain rfl : b = y := by have := congrArg Prod.snd he; simp at this; omega
    exact redB_true.1 hp
  · intro h
    have hm : ((a : Int), (b : Int)) ∈ es := h.edge
    obtain ⟨p1, p2, p3, p4⟩ := hes _ hm
    exact ⟨a, b, by simpa using p2, by simpa using p4, redB_true.2 h, rfl⟩
theorem redL_sub {n : Nat} {es : List (Int × Int)} : ∀ e ∈ redL n es, e ∈ es := by
  intro e he
  obtain ⟨a, b, _, _, hp, rfl⟩ := mem_gridL.1 he
  exact (redB_true.1 hp).edge
theorem way_redL {n : Nat} {es : List (Int × Int)} (hes : ∀ e ∈ es, 0 ≤ e.1 ∧ e.1 < n ∧ 0 ≤ e.2 ∧ e.2 < n) (h : (kahn n es).length = n) (a b : Nat) : Way (EdgeL (redL n es)) a b ↔ Way (EdgeL es) a b := by
  have : EdgeL (redL n es) = Red (EdgeL es) := funext fun a => funext fun b => propext (edgeL_redL hes a b)
  rw [this]
  exact way_red (rises_kahn hes h) a b
theorem redL_congr {n : Nat} {es fs : List (Int × Int)} (h : ∀ a b, Way (EdgeL es) a b ↔ Way (EdgeL fs) a b) : redL n es = redL n fs := gridL_congr fun a b _ _ => by
  rw [Bool.eq_iff_iff, redB_true, redB_true]
  exact Red.congr h a b
theorem gridL_nodup (n : Nat) (p : Nat → Nat → Bool) : (gridL n p).Nodup := by
  unfold gridL List.Nodup
  rw [List.pairwise_flatMap]
  refine ⟨fun a _ => ?_, ?_⟩
  · rw [List.pairwise_map]
    have : (List.range n).Pairwise (· ≠ ·) := List.nodup_range
    refine (this.filter _).imp ?_
    intro x y hxy h
    have := congrArg Prod.snd h
    simp only at this
    omega
  · have : (List.range n).Pairwise (· ≠ ·) := List.nodup_range
    refine this.imp ?_
    intro a b hab x hx y hy h
    simp only [List.mem_map] at hx hy
    obtain ⟨u, _, rfl⟩ := hx
    obtain ⟨v, _, rfl⟩ := hy
    simp at h
    omega

/-- The order hangs on the ways alone. -/
theorem rdy_ways {n : Nat} {es : List (Int × Int)} {o : List Nat} (hes : ∀ e ∈ es, 0 ≤ e.1 ∧ e.1 < n ∧ 0 ≤ e.2 ∧ e.2 < n) (hc : ∀ a b, EdgeL es a b → b ∈ o → a ∈ o) (k : Nat) :
    rdy es o k = true ↔ k ∉ o ∧ ∀ a, Way (EdgeL es) a k → a ∈ o := by
  have up : ∀ a b, Way (EdgeL es) a b → b ∈ o → a ∈ o := by
    intro a b h
    induction h with
    | one e => exact hc _ _ e
    | snoc _ e ih => exact fun hb => ih (hc _ _ e hb)
  unfold rdy
  simp only [Bool.and_eq_true, Bool.not_eq_true', List.contains_eq_mem, decide_eq_false_iff_not, List.all_eq_true, Bool.or_eq_true, beq_eq_false_iff_ne, decide_eq_true_eq]
  refine and_congr_right fun hk => ⟨fun h a hw => ?_, fun h e he => ?_⟩
  · have last : ∀ b, Way (EdgeL es) a b → b = k → a ∈ o := by
      intro b hb
      induction hb with
      | one e =>
        rintro rfl
        rcases h _ e with h1 | h1
        · exact absurd rfl h1
        · simpa using h1
      | snoc hx e _ =>
        rintro rfl
        rcases h _ e with h1 | h1
        · exact absurd rfl h1
        · exact up _ _ hx (by simpa using h1)
    exact last k hw rfl
  · by_cases h2 : e.2 = (k : Int)
    · right
      refine h _ (.one ?_)
      obtain ⟨p1, _⟩ := hes e he
      have : (((e.1.toNat : Nat) : Int), (k : Int)) = e := by rw [← h2, Int.toNat_of_nonneg p1]
      unfold EdgeL; rw [this]; exact he
    · left; exact h2

theorem kahnF_ways {n : Nat} {es fs : List (Int × Int)} (hes : ∀ e ∈ es, 0 ≤ e.1 ∧ e.1 < n ∧ 0 ≤ e.2 ∧ e.2 < n) (hfs : ∀ e ∈ fs, 0 ≤ e.1 ∧ e.1 < n ∧ 0 ≤ e.2 ∧ e.2 < n)
    (h : ∀ a b, Way (EdgeL es) a b ↔ Way (EdgeL fs) a b) : ∀ (f : Nat) {o : List Nat}, (∀ a b, Way (EdgeL es) a b → b ∈ o → a ∈ o) → kahnF n es f o = kahnF n fs f o
  | 0, _, _ => rfl
  | f + 1, o, hc => by
    have hr : rdy es o = rdy fs o := funext fun k => by
      rw [Bool.eq_iff_iff, rdy_ways hes (fun a b e => hc a b (.one e)) k, rdy_ways hfs (fun a b e => hc a b ((h a b).2 (.one e))) k]
      exact and_congr_right fun _ => ⟨fun H a ha => H a ((h a k).2 ha), fun H a ha => H a ((h a k).1 ha)⟩
    have hn : nextOf n es o = nextOf n fs o := by unfold nextOf; rw [hr]
    unfold kahnF
    rw [← hn]
    cases hx : nextOf n es o with
    | none => rfl
    | some i =>
      have hri := (rdy_ways hes (fun a b e => hc a b (.one e)) i).1 (nextOf_some hx).2
      refine kahnF_ways hes hfs h f fun a b hw hb => ?_
      rcases List.mem_append.1 hb with hb | hb
      · exact List.mem_append_left _ (hc a b hw hb)
      · obtain rfl := List.mem_singleton.1 hb
        exact List.mem_append_left _ (hri.2 a hw)
theorem kahn_ways {n : Nat} {es fs : List (Int × Int)} (hes : ∀ e ∈ es, 0 ≤ e.1 ∧ e.1 < n ∧ 0 ≤ e.2 ∧ e.2 < n) (hfs : ∀ e ∈ fs, 0 ≤ e.1 ∧ e.1 < n ∧ 0 ≤ e.2 ∧ e.2 < n)
    (h : ∀ a b, Way (EdgeL es) a b ↔ Way (EdgeL fs) a b) : kahn n es = kahn n fs := kahnF_ways hes hfs h n (fun _ _ _ hb => by cases hb)

/-- A set of all to which a way goes. -/
def bitSet (l : List Nat) : Nat := l.foldl (fun S k => S ||| 2 ^ k) 0
theorem bitSet_bit (l : List Nat) (k : Nat) : (bitSet l).testBit k = true ↔ k ∈ l := by
  have key : ∀ (l : List Nat) (S : Nat), ((l.foldl (fun S k => S ||| 2 ^ k) S).testBit k = true ↔ S.testBit k = true ∨ k ∈ l) := by
    intro l
    induction l with
    | nil => intro S; simp
    | cons e l ih =>
      intro S
      rw [List.foldl_cons, ih, Nat.testBit_or, Nat.testBit_two_pow, Bool.or_eq_true, decide_eq_true_eq, List.mem_cons, or_assoc]
      have : e = k ↔ k = e := eq_comm
      rw [this]
  unfold bitSet
  rw [key]
  simp
noncomputable def wayS (n : Nat) (es : List (Int × Int)) (i : Nat) : Nat := bitSet (wayL n es (-1, -1) i)
theorem wayS_bit (n : Nat) (es : List (Int × Int)) (i k : Nat) : (wayS n es i).testBit k = true ↔ k < n ∧ Way (EdgeL es) i k := by
  unfold wayS
  rw [bitSet_bit, mem_wayL, edge_none]

/-- The set that is gathered from the first nodes behind i. -/
noncomputable def gath (n : Nat) (es : List (Int × Int)) (l : List Nat) : Nat := l.foldl (fun S k => S ||| 2 ^ k ||| wayS n es k) 0
theorem gath_nil (n : Nat) (es : List (Int × Int)) : gath n es [] = 0 := rfl
theorem gath_snoc (n : Nat) (es : List (Int × Int)) (l : List Nat) (k : Nat) : gath n es (l ++ [k]) = gath n es l ||| 2 ^ k ||| wayS n es k := by simp [gath]
theorem gath_bit (n : Nat) (es : List (Int × Int)) (l : List Nat) (k : Nat) : (gath n es l).testBit k = true ↔ ∃ m ∈ l, m = k ∨ (wayS n es m).testBit k = true := by
  have key : ∀ (l : List Nat) (S : Nat), ((l.foldl (fun S k => S ||| 2 ^ k ||| wayS n es k) S).testBit k = true ↔ S.testBit k = true ∨ ∃ m ∈ l, m = k ∨ (wayS n es m).testBit k = true) := by
    intro l
    induction l with
    | nil => intro S; simp
    | cons e l ih =>
      intro S
      rw [List.foldl_cons, ih, Nat.testBit_or, Nat.testBit_or, Nat.testBit_two_pow]
      simp only [Bool.or_eq_true, decide_eq_true_eq, List.mem_cons, exists_eq_or_imp, or_assoc]
  unfold gath
  rw [key]
  simp
theorem gath_all {n : Nat} {es : List (Int × Int)} (hn : n ≤ 512) (hes : ∀ e ∈ es, 0 ≤ e.1 ∧ e.1 < n ∧ 0 ≤ e.2 ∧ e.2 < n) (i : Nat) : gath n es (nodes (succS es i)) = wayS n es i := by
  apply Nat.eq_of_testBit_eq
  intro k
  rw [Bool.eq_iff_iff, gath_bit, wayS_bit]
  have hin : ∀ a b, Way (EdgeL es) a b → b < n := fun a b h => way_in (wo := (-1, -1)) hes (by rw [edge_none]; exact h)
  constructor
  · rintro ⟨m, hm, h⟩
    have he : EdgeL es i m := (succS_bit es i m (fun e he => (hes e he).2.2.1)).1 ((mem_nodes _ _).1 hm).2
    rcases h with rfl | h
    · exact ⟨hin _ _ (.one he), .one he⟩
    · have h2 := (wayS_bit n es m k).1 h
      exact ⟨h2.1, Way.cons he h2.2⟩
  · rintro ⟨hk, hw⟩
    have mem : ∀ m, EdgeL es i m → m ∈ nodes (succS es i) := fun m he => by
      rw [mem_nodes]
      have := hin _ _ (Way.one he)
      exact ⟨by omega, (succS_bit es i m (fun e he => (hes e he).2.2.1)).2 he⟩
    rcases hw.head with h1 | ⟨m, h1, h2⟩
    · exact ⟨k, mem k h1, Or.inl rfl⟩
    · exact ⟨m, mem m h1, Or.inr ((wayS_bit n es m k).2 ⟨hk, h2⟩)⟩

/-- The program's test: no node behind a, at the head of a way to b. -/
noncomputable def keepB (n : Nat) (es : List (Int × Int)) (a b : Nat) : Bool := !(nodes (succS es a)).any fun m => (wayS n es m).testBit b
/-- What the program appends in row a, of the first nodes behind it. -/
noncomputable def rowL (n : Nat) (es : List (Int × Int)) (a : Nat) (l : List Nat) : List (Int × Int) := (l.filter (keepB n es a)).map fun b : Nat => ((a : Int), (b : Int))
theorem rowL_snoc (n : Nat) (es : List (Int × Int)) (a : Nat) (l : List Nat) (b : Nat) : rowL n es a (l ++ [b]) = if keepB n es a b = true then rowL n es a l ++ [((a : Int), (b : Int))] else rowL n es a l := by
  unfold rowL
  rw [List.filter_append, List.map_append]
  by_cases h : keepB n es a b = true <;> simp [h]
noncomputable def rowsL (n : Nat) (es : List (Int × Int)) (k : Nat) : List (Int × Int) := (List.range k).flatMap fun a => rowL n es a (nodes (succS es a))
theorem rowsL_succ (n : Nat) (es : List (Int × Int)) (k : Nat) : rowsL n es (k + 1) = rowsL n es k ++ rowL n es k (nodes (succS es k)) := by
  unfold rowsL
  rw [List.range_succ, List.flatMap_append]
  simp

theorem keepB_red {n : Nat} {es : List (Int × Int)} (hn : n ≤ 512) (hes : ∀ e ∈ es, 0 ≤ e.1 ∧ e.1 < n ∧ 0 ≤ e.2 ∧ e.2 < n) (a b : Nat) : (EdgeL es a b ∧ keepB n es a b = true) ↔ Red (EdgeL es) a b := by
  have hin : ∀ a b, Way (EdgeL es) a b → b < n := fun a b h => way_in (wo := (-1, -1)) hes (by rw [edge_none]; exact h)
  have hk : keepB n es a b = true ↔ ∀ m, EdgeL es a m → ¬ Way (EdgeL es) m b := by
    unfold keepB
    rw [Bool.not_eq_true', List.any_eq_false]
    constructor
    · intro h m he hw
      refine h m ?_ ((wayS_bit n es m b).2 ⟨hin _ _ hw, hw⟩)
      rw [mem_nodes]
      have := hin _ _ (Way.one he)
      exact ⟨by omega, (succS_bit es a m (fun e he => (hes e he).2.2.1)).2 he⟩
    · intro h m hm hb
      exact h m ((succS_bit es a m (fun e he => (hes e he).2.2.1)).1 ((mem_nodes _ _).1 hm).2) ((wayS_bit n es m b).1 hb).2
  rw [hk]
  constructor
  · rintro ⟨he, h⟩
    refine ⟨.one he, fun m h1 h2 => ?_⟩
    rcases h1.head with h3 | ⟨x, h3, h4⟩
    · exact h m h3 h2
    · exact h x h3 (h4.trans h2)
  · intro h
    exact ⟨h.edge, fun m he hw => h.2 m (.one he) hw⟩
theorem rowsL_red {n : Nat} {es : List (Int × Int)} (hn : n ≤ 512) (hes : ∀ e ∈ es, 0 ≤ e.1 ∧ e.1 < n ∧ 0 ≤ e.2 ∧ e.2 < n) : rowsL n es n = redL n es := by
  have key : ∀ a, (nodes (succS es a)).filter (keepB n es a) = (List.range n).filter (redB es a) := by
    intro a
    have hnf := nodes_filter (F := succS es a) hn (fun k hk => by
      have : EdgeL es a k := (succS_bit es a k (fun e he => (hes e he).2.2.1)).1 hk
      have := (hes _ this).2.2.2
      simpa using this)
    have e1 : (nodes (succS es a)).filter (keepB n es a) = ((List.range n).filter fun k => (succS es a).testBit k).filter (keepB n es a) := congrArg (List.filter (keepB n es a)) hnf
    refine e1.trans ?_
    rw [List.filter_filter]
    apply List.filter_congr
    intro b hb
    rw [Bool.eq_iff_iff, redB_true, ← keepB_red hn hes, Bool.and_eq_true, succS_bit es a b (fun e he => (hes e he).2.2.1)]
    exact and_comm
  unfold rowsL redL gridL rowL
  rw [List.flatMap_def, List.flatMap_def]
  exact congrArg List.flatten (List.map_congr_left fun a _ => congrArg (List.map fun b : Nat => ((a : Int), (b : Int))) (key a))

/-- The sets behind one node's turn: what is behind it, first nodes ks. -/
def gF (f : Nat → Nat) (i : Nat) (ks : List Nat) (j : Nat) : Nat := if j = i then ks.foldl (fun S k => S ||| 2 ^ k ||| f k) (f i) else f j
theorem gF_nil (f : Nat → Nat) (i j : Nat) : gF f i [] j = f j := by
  unfold gF
  by_cases h : j = i
  · subst h; simp
  · simp [h]
theorem gF_other (f : Nat → Nat) (i : Nat) (ks : List Nat) {j : Nat} (h : j ≠ i) : gF f i ks j = f j := by simp [gF, h]
theorem gF_snoc (f : Nat → Nat) (i : Nat) (ks : List Nat) (k j : Nat) (hk : k ≠ i) : gF f i (ks ++ [k]) j = if j = i then gF f i ks i ||| 2 ^ k ||| gF f i ks k else gF f i ks j := by
  rw [gF_other f i ks hk]
  unfold gF
  by_cases h : j = i
  · simp [h]
  · simp [h]
/-- The sets behind all turns. -/
def stF (es : List (Int × Int)) (l : List Nat) : Nat → Nat := l.foldl (fun f i => gF f i (nodes (succS es i))) (fun _ => 0)
theorem stF_nil (es : List (Int × Int)) (k : Nat) : stF es [] k = 0 := rfl
theorem stF_snoc (es : List (Int × Int)) (l : List Nat) (i : Nat) : stF es (l ++ [i]) = gF (stF es l) i (nodes (succS es i)) := by simp [stF]

theorem foldl_gath (n : Nat) (es : List (Int × Int)) (f : Nat → Nat) (ks : List Nat) (h : ∀ k ∈ ks, f k = wayS n es k) : ks.foldl (fun S k => S ||| 2 ^ k ||| f k) 0 = gath n es ks := by
  unfold gath
  generalize (0 : Nat) = S
  induction ks generalizing S with
  | nil => rfl
  | cons k ks ih =>
    rw [List.foldl_cons, List.foldl_cons, h k (by simp)]
    exact ih (fun k hk => h k (List.mem_cons_of_mem _ hk)) _

theorem stF_suffix {n : Nat} {es : List (Int × Int)} (hn : n ≤ 512) (hes : ∀ e ∈ es, 0 ≤ e.1 ∧ e.1 < n ∧ 0 ≤ e.2 ∧ e.2 < n) {L : List Nat} (hL : Ok n L) (hf : L.length = n) (hw : Fwd es L) :
    ∀ (l2 l1 : List Nat), L = l1 ++ l2 → ∀ k, stF es l2.reverse k = if k ∈ l2 then wayS n es k else 0
  | [], _, _, k => by simp [stF_nil]
  | i :: l2, l1, e, k => by
    have ih := stF_suffix hn hes hL hf hw l2 (l1 ++ [i]) (by simp [e])
    have hnd := hL.nd
    rw [e, List.nodup_append] at hnd
    have hil : i ∉ l2 := (List.nodup_cons.1 hnd.2.1).1
    rw [List.reverse_cons, stF_snoc]
    by_cases hk : k = i
    · subst hk
      unfold gF
      rw [if_pos rfl, if_pos (by simp), ih k, if_neg hil]
      rw [foldl_gath n es _ _ (fun m hm => ?_), gath_all hn hes]
      rw [ih m, if_pos ?_]
      have he : EdgeL es k m := (succS_bit es k m (fun e he => (hes e he).2.2.1)).1 ((mem_nodes _ _).1 hm).2
      have hmL : m ∈ L := hL.all hf m (by have := (hes _ he).2.2.2; simpa using this)
      obtain ⟨q, hq, hqm⟩ := List.getElem_of_mem hmL
      have hlt := hw.lt _ he l1.length q (by simp [e]) (by simp [List.getElem?_eq_getElem hq, hqm])
      have : L[q]? = some m := by rw [List.getElem?_eq_getElem hq, hqm]
      rw [e, List.getElem?_append_right (by omega), show q - l1.length = (q - l1.length - 1) + 1 by omega, List.getElem?_cons_succ] at this
      exact List.mem_of_getElem? this
    · rw [gF_other _ _ _ hk, ih k]
      simp [hk]
theorem stF_all {n : Nat} {es : List (Int × Int)} (hn : n ≤ 512) (hes : ∀ e ∈ es, 0 ≤ e.1 ∧ e.1 < n ∧ 0 ≤ e.2 ∧ e.2 < n) (h : (kahn n es).length = n) (k : Nat) (hk : k < n) : stF es (kahn n es).reverse k = wayS n es k := by
  rw [stF_suffix hn hes (kahn_ok n es) h (kahn_fwd fun e he => ⟨(hes e he).1, (hes e he).2.2.1⟩) (kahn n es) [] rfl k, if_pos ((kahn_ok n es).all h k hk)]

/-- What the program's Reduce answers. -/
noncomputable def reduceR (n : Int) (es : List (Int × Int)) : List (Int × Int) × Int :=
  if (orderR n es).2 = 0 then (redL n.toNat es, 0) else ([], (orderR n es).2)

end Go.Proofs.YtnjbdedmalpccaaDoor
