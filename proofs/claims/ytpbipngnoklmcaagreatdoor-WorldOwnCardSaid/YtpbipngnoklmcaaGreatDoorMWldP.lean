/- Plain: the world as a list of objects. No program in sight. Values in memory: a slice of texts, a value as a tree; both stay where memory only grows. The walks of the sizes of values. -/
import Derived.Test.YtpbipngnoklmcaaGreatDoorMValK
import Derived.Test.YtpbipngnoklmcaaGreatDoorMLimbP
import Derived.Test.YtpbipngnoklmcaaGreatDoorMNumP
import Derived.Deep.Slices
namespace Go.Proofs.YtpbipngnoklmcaaGreatDoor
open Go

abbrev S8 := List UInt8
/-- An object: its type, its ID, its attributes. -/
abbrev O3 := S8 × S8 × VT
def isO (t i : S8) (o : O3) : Bool := o.1 == t && o.2.1 == i
def hasO (l : List O3) (t i : S8) : Bool := l.any (isO t i)
def atO (l : List O3) (t i : S8) : Option VT := (l.find? (isO t i)).map (·.2.2)
def outO (l : List O3) (t i : S8) : List O3 := l.filter fun o => !isO t i o
def ltO (a b : O3) : Bool := ltS a.1 b.1 || (a.1 == b.1 && ltS a.2.1 b.2.1)
def insO (o : O3) : List O3 → List O3
  | [] => [o]
  | x :: r => if ltO o x = true then o :: x :: r else x :: insO o r
def withO (l : List O3) (o : O3) : List O3 := insO o (outO l o.1 o.2.1)
def risO (l : List O3) : Prop := l.Pairwise (fun a b => ltO a b = true)

theorem isO_iff {t i : S8} {o : O3} : isO t i o = true ↔ o.1 = t ∧ o.2.1 = i := by unfold isO; rw [Bool.and_eq_true, beq_iff_eq, beq_iff_eq]
theorem isO_self (o : O3) : isO o.1 o.2.1 o = true := isO_iff.2 ⟨rfl, rfl⟩
theorem ltO_iff {a b : O3} : ltO a b = true ↔ ltS a.1 b.1 = true ∨ (a.1 = b.1 ∧ ltS a.2.1 b.2.1 = true) := by unfold ltO; rw [Bool.or_eq_true, Bool.and_eq_true, beq_iff_eq]
theorem ltO_irr (a : O3) : ltO a a = false := by
  cases h : ltO a a
  · rfl
  · rcases ltO_iff.1 h with h | ⟨_, h⟩ <;> rw [ltS_irr] at h <;> cases h
theorem ltO_trans {a b c : O3} (h : ltO a b = true) (k : ltO b c = true) : ltO a c = true := by
  rw [ltO_iff] at *
  rcases h with h | ⟨h1, h2⟩
  · rcases k with k | ⟨k1, _⟩
    · exact .inl (ltS_trans h k)
    · exact .inl (k1 ▸ h)
  · rcases k with k | ⟨k1, k2⟩
    · exact .inl (h1 ▸ k)
    · exact .inr ⟨h1.trans k1, ltS_trans h2 k2⟩
theorem ltO_tri {a b : O3} (h : ltO a b = false) (k : ltO b a = false) : a.1 = b.1 ∧ a.2.1 = b.2.1 := by
  have h' := fun e => Bool.eq_false_iff.1 h (ltO_iff.2 e)
  have k' := fun e => Bool.eq_false_iff.1 k (ltO_iff.2 e)
  have e1 : a.1 = b.1 := ltS_tri (Bool.eq_false_iff.2 fun e => h' (.inl e)) (Bool.eq_false_iff.2 fun e => k' (.inl e))
  exact ⟨e1, ltS_tri (Bool.eq_false_iff.2 fun e => h' (.inr ⟨e1, e⟩)) (Bool.eq_false_iff.2 fun e => k' (.inr ⟨e1.symm, e⟩))⟩
theorem ltO_keys {a b : O3} (h1 : a.1 = b.1) (h2 : a.2.1 = b.2.1) : ltO a b = false := by
  cases h : ltO a b
  · rfl
  · rcases ltO_iff.1 h with h | ⟨_, h⟩
    · rw [h1, ltS_irr] at h; cases h
    · rw [h2, ltS_irr] at h; cases h
theorem isO_of_ne {t i : S8} {o : O3} (h : ¬ (o.1 = t ∧ o.2.1 = i)) : isO t i o = false := Bool.eq_false_iff.2 fun e => h (isO_iff.1 e)

theorem mem_insO {o x : O3} : ∀ {l : List O3}, x ∈ insO o l ↔ x = o ∨ x ∈ l
  | [] => by simp [insO]
  | y :: r => by
    rw [insO]
    split
    · simp
    · rw [List.mem_cons, mem_insO (l := r), List.mem_cons]
      constructor
      · rintro (h | h | h)
        · exact .inr (.inl h)
        · exact .inl h
        · exact .inr (.inr h)
      · rintro (h | h | h)
        · exact .inr (.inl h)
        · exact .inl h
        · exact .inr (.inr h)
theorem mem_outO {l : List O3} {t i : S8} {x : O3} : x ∈ outO l t i ↔ x ∈ l ∧ isO t i x = false := by
  unfold outO
  rw [List.mem_filter]
  simp
theorem mem_withO {l : List O3} {o x : O3} : x ∈ withO l o ↔ x = o ∨ (x ∈ l ∧ isO o.1 o.2.1 x = false) := by
  unfold withO
  rw [mem_insO, mem_outO]
theorem ris_out {l : List O3} (h : risO l) (t i : S8) : risO (outO l t i) := List.Pairwise.sublist List.filter_sublist h
theorem ris_ins {o : O3} : ∀ {l : List O3}, risO l → (∀ x ∈ l, isO o.1 o.2.1 x = false) → risO (insO o l)
  | [], _, _ => by simp [insO, risO]
  | y :: r, h, hn => by
    rw [insO]
    obtain ⟨h1, h2⟩ := List.pairwise_cons.1 h
    split
    · next hl =>
      refine List.pairwise_cons.2 ⟨fun x hx => ?_, h⟩
      rcases List.mem_cons.1 hx with rfl | hx
      · exact hl
      · exact ltO_trans hl (h1 x hx)
    · next hl =>
      refine List.pairwise_cons.2 ⟨fun x hx => ?_, ris_ins h2 (fun x hx => hn x (List.mem_cons_of_mem _ hx))⟩
      rcases mem_insO.1 hx with rfl | hx
      · cases hy : ltO y x
        · have := ltO_tri (Bool.eq_false_iff.2 hl) hy
          have hny := hn y (by simp)
          rw [isO_iff.2 ⟨this.1.symm, this.2.symm⟩] at hny
          cases hny
        · rfl
      · exact h1 x hx
theorem ris_with {l : List O3} (h : risO l) (o : O3) : risO (withO l o) := ris_ins (ris_out h _ _) fun _ hx => (mem_outO.1 hx).2

/-- Two rising lists of the same objects are one. -/
theorem ris_ext : ∀ {l m : List O3}, risO l → risO m → (∀ x, x ∈ l ↔ x ∈ m) → l = m
  | [], [], _, _, _ => rfl
  | [], y :: m, _, _, h => by have := (h y).2 (by simp); simp at this
  | x :: l, [], _, _, h => by have := (h x).1 (by simp); simp at this
  | x :: l, y :: m, hl, hm, h => by
    obtain ⟨h1, h2⟩ := List.pairwise_cons.1 hl
    obtain ⟨k1, k2⟩ := List.pairwise_cons.1 hm
    have hxy : x = y := by
      rcases List.mem_cons.1 ((h x).1 (by simp)) with e | hx
      · exact e
      · rcases List.mem_cons.1 ((h y).2 (by simp)) with e | hy
        · exact e.symm
        · have := ltO_trans (k1 x hx) (h1 y hy)
          rw [ltO_irr] at this
          cases this
    subst hxy
    rw [ris_ext h2 k2 fun z => ?_]
    constructor
    · intro hz
      rcases List.mem_cons.1 ((h z).1 (List.mem_cons_of_mem _ hz)) with rfl | hz'
      · have := h1 z hz; rw [ltO_irr] at this; cases this
      · exact hz'
    · intro hz
      rcases List.mem_cons.1 ((h z).2 (List.mem_cons_of_mem _ hz)) with rfl | hz'
      · have := k1 z hz; rw [ltO_irr] at this; cases this
      · exact hz'

theorem hasO_iff {l : List O3} {t i : S8} : hasO l t i = true ↔ ∃ v, (t, i, v) ∈ l := by
  unfold hasO
  rw [List.any_eq_true]
  constructor
  · rintro ⟨⟨a, b, v⟩, hm, h⟩
    obtain ⟨rfl, rfl⟩ := isO_iff.1 h
    exact ⟨v, hm⟩
  · rintro ⟨v, hm⟩
    exact ⟨_, hm, isO_iff.2 ⟨rfl, rfl⟩⟩
/-- One object a name. -/
theorem ris_one {l : List O3} (h : risO l) {t i : S8} {u v : VT} (hu : (t, i, u) ∈ l) (hv : (t, i, v) ∈ l) : u = v := by
  induction l with
  | nil => simp at hu
  | cons x r ih =>
    obtain ⟨h1, h2⟩ := List.pairwise_cons.1 h
    rcases List.mem_cons.1 hu with rfl | hu'
    · rcases List.mem_cons.1 hv with e | hv'
      · cases e; rfl
      · have := h1 _ hv'
        have e : ltO (t, i, u) (t, i, v) = false := ltO_keys rfl rfl
        rw [e] at this
        cases this
    · rcases List.mem_cons.1 hv with rfl | hv'
      · have := h1 _ hu'
        have e : ltO (t, i, v) (t, i, u) = false := ltO_keys rfl rfl
        rw [e] at this
        cases this
      · exact ih h2 hu' hv'
theorem atO_iff {l : List O3} (h : risO l) {t i : S8} {v : VT} : atO l t i = some v ↔ (t, i, v) ∈ l := by
  unfold atO
  constructor
  · intro e
    cases hf : l.find? (isO t i) with
    | none => rw [hf] at e; cases e
    | some o =>
      rw [hf] at e
      obtain ⟨a, b, x⟩ := o
      cases e
      obtain ⟨rfl, rfl⟩ := isO_iff.1 (List.find?_some hf)
      exact List.mem_of_find?_eq_some hf
  · intro hm
    cases hf : l.find? (isO t i) with
    | none =>
      have := List.find?_eq_none.1 hf _ hm
      exact absurd (isO_iff.2 ⟨rfl, rfl⟩) this
    | some o =>
      obtain ⟨a, b, x⟩ := o
      obtain ⟨rfl, rfl⟩ := isO_iff.1 (List.find?_some hf)
      rw [ris_one h hm (List.mem_of_find?_eq_some hf)]
      rfl
theorem hasO_at (l : List O3) (t i : S8) : hasO l t i = (atO l t i).isSome := by
  unfold hasO atO
  cases hf : l.find? (isO t i) with
  | none =>
    rw [List.find?_eq_none] at hf
    cases ha : l.any (isO t i)
    · rfl
    · obtain ⟨x, hx, h⟩ := List.any_eq_true.1 ha
      exact absurd h (hf x hx)
  | some o => exact List.any_eq_true.2 ⟨o, List.mem_of_find?_eq_some hf, List.find?_some hf⟩
theorem hasO_out (l : List O3) (t i t' i' : S8) : hasO (outO l t i) t' i' = (hasO l t' i' && !(t' == t && i' == i)) := by
  rw [Bool.eq_iff_iff, hasO_iff, Bool.and_eq_true, hasO_iff]
  constructor
  · rintro ⟨v, h⟩
    obtain ⟨h1, h2⟩ := mem_outO.1 h
    refine ⟨⟨v, h1⟩, ?_⟩
    show (!(isO t i (t', i', v))) = true
    rw [h2]
    rfl
  · rintro ⟨⟨v, h⟩, h2⟩
    have h3 : (!(isO t i (t', i', v))) = true := h2
    exact ⟨v, mem_outO.2 ⟨h, by revert h3; cases isO t i (t', i', v) <;> simp⟩⟩
theorem hasO_with (l : List O3) (o : O3) (t i : S8) : hasO (withO l o) t i = ((o.1 == t && o.2.1 == i) || hasO l t i) := by
  rw [Bool.eq_iff_iff, hasO_iff, Bool.or_eq_true, hasO_iff]
  constructor
  · rintro ⟨v, h⟩
    rcases mem_withO.1 h with rfl | ⟨h1, _⟩
    · exact .inl (by simp)
    · exact .inr ⟨v, h1⟩
  · rintro (h | ⟨v, h⟩)
    · simp only [Bool.and_eq_true, beq_iff_eq] at h
      obtain ⟨rfl, rfl⟩ := h
      exact ⟨o.2.2, mem_withO.2 (.inl rfl)⟩
    · by_cases hk : o.1 = t ∧ o.2.1 = i
      · obtain ⟨rfl, rfl⟩ := hk
        exact ⟨o.2.2, mem_withO.2 (.inl rfl)⟩
      · exact ⟨v, mem_withO.2 (.inr ⟨h, isO_of_ne fun e => hk ⟨e.1.symm, e.2.symm⟩⟩)⟩
theorem atO_with {l : List O3} (h : risO l) (o : O3) (t i : S8) : atO (withO l o) t i = if isO t i o = true then some o.2.2 else atO l t i := by
  by_cases hk : isO t i o = true
  · rw [if_pos hk]
    obtain ⟨rfl, rfl⟩ := isO_iff.1 hk
    exact (atO_iff (ris_with h o)).2 (mem_withO.2 (.inl rfl))
  · rw [if_neg hk]
    have hk' : ¬ (o.1 = t ∧ o.2.1 = i) := fun e => hk (isO_iff.2 e)
    cases ha : atO l t i with
    | some v =>
      rw [atO_iff (ris_with h o)]
      exact mem_withO.2 (.inr ⟨(atO_iff h).1 ha, isO_of_ne fun e => hk' ⟨e.1.symm, e.2.symm⟩⟩)
    | none =>
      cases hw : atO (withO l o) t i with
      | none => rfl
      | some v =>
        rcases mem_withO.1 ((atO_iff (ris_with h o)).1 hw) with e | ⟨e, _⟩
        · exact absurd ⟨by rw [← e], by rw [← e]⟩ hk'
        · rw [(atO_iff h).2 e] at ha
          cases ha
theorem atO_out {l : List O3} (h : risO l) (t i t' i' : S8) : atO (outO l t i) t' i' = if t' = t ∧ i' = i then none else atO l t' i' := by
  by_cases hk : t' = t ∧ i' = i
  · rw [if_pos hk]
    obtain ⟨rfl, rfl⟩ := hk
    cases ha : atO (outO l t' i') t' i' with
    | none => rfl
    | some v =>
      have := (mem_outO.1 ((atO_iff (ris_out h _ _)).1 ha)).2
      have e : isO t' i' (t', i', v) = true := isO_iff.2 ⟨rfl, rfl⟩
      rw [e] at this
      cases this
  · rw [if_neg hk]
    cases ha : atO l t' i' with
    | some v =>
      rw [atO_iff (ris_out h _ _)]
      exact mem_outO.2 ⟨(atO_iff h).1 ha, isO_of_ne hk⟩
    | none =>
      cases hw : atO (outO l t i) t' i' with
      | none => rfl
      | some v =>
        rw [(atO_iff h).2 (mem_outO.1 ((atO_iff (ris_out h _ _)).1 hw)).1] at ha
        cases ha

/-- What may be attributes. -/
def goodA (v : VT) : Bool := v.kind == 6 && (goodV v && knownV v)
/-- A rule; a call in the trace. -/
abbrev F2 := Int × S8
abbrev T5 := Int × S8 × S8 × S8 × Int
structure WS where
  objs : List O3
  fails : List F2
  trace : List T5
/-- The number behind an ID. -/
def behindP (addr after : S8) : Int :=
  if (addr ++ [35]).isPrefixOf after = true ∧ (intR (after.drop (addr.length + 1))).2 = true ∧ 1 ≤ (intR (after.drop (addr.length + 1))).1 ∧ (intR (after.drop (addr.length + 1))).1 ≤ 1000000000 then (intR (after.drop (addr.length + 1))).1 + 1 else 1
def idN (addr : S8) (k : Int) : S8 := addr ++ [35] ++ Lib.itoa k
/-- The first number from k on that is free. -/
def nextN (l : List O3) (typ addr : S8) : Nat → Int → Int
  | 0, k => k
  | f + 1, k => if hasO l typ (idN addr k) = true then nextN l typ addr f (k + 1) else k
def failsP (fs : List F2) (op : Int) (addr : S8) : Bool := fs.any fun f => f.1 == op && f.2 == addr
def noteP (S : WS) (op : Int) (addr typ i : S8) (e : Int) : WS := ⟨S.objs, S.fails, S.trace ++ [(op, addr, typ, i, e)]⟩
def putP (S : WS) (o : O3) : WS := ⟨withO S.objs o, S.fails, S.trace⟩
def delP (S : WS) (typ i : S8) : WS := ⟨outO S.objs typ i, S.fails, S.trace⟩
def newId (l : List O3) (addr typ after : S8) : S8 := idN addr (nextN l typ addr (l.length + 1) (behindP addr after))
def createP (S : WS) (addr typ after : S8) (x : VT) : WS × S8 × Int :=
  if goodA x = false then (S, [], 1)
  else if failsP S.fails 1 addr = true then (noteP S 1 addr typ [] 160, [], 160)
  else (noteP (putP S (typ, newId S.objs addr typ after, x)) 1 addr typ (newId S.objs addr typ after) 0, newId S.objs addr typ after, 0)
def updateP (S : WS) (addr typ i : S8) (x : VT) : WS × Int :=
  if goodA x = false then (S, 1)
  else if failsP S.fails 2 addr = true then (noteP S 2 addr typ i 160, 160)
  else if hasO S.objs typ i = false then (noteP S 2 addr typ i 4, 4)
  else (noteP (putP S (typ, i, x)) 2 addr typ i 0, 0)
def deleteP (S : WS) (addr typ i : S8) : WS × Int :=
  if failsP S.fails 5 addr = true then (noteP S 5 addr typ i 160, 160) else (noteP (delP S typ i) 5 addr typ i 0, 0)
def setP (S : WS) (typ i : S8) (x : VT) : WS × Int := if goodA x = false then (S, 1) else (putP S (typ, i, x), 0)
def killP (S : WS) (typ i : S8) : WS × Int := if hasO S.objs typ i = false then (S, 4) else (delP S typ i, 0)
/-- Objects one by one; none: one stands there already. -/
def loadP : List O3 → List O3 → Option (List O3)
  | [], l => some l
  | o :: r, l => if hasO l o.1 o.2.1 = true then none else loadP r (withO l o)
def newP (os : List O3) (fs : List F2) : Option WS × Int :=
  if (os.all fun o => goodA o.2.2) = false then (none, 1)
  else match loadP os [] with
    | none => (none, 2)
    | some l => (some ⟨l, fs, []⟩, 0)
theorem idN_inj {addr : S8} {j k : Int} (h : idN addr j = idN addr k) : Lib.itoa j = Lib.itoa k := List.append_cancel_left h
/-- Among so many numbers as there are objects, and one, one is free. -/
theorem free_id (inj : ∀ j k : Int, Lib.itoa j = Lib.itoa k → j = k) (typ addr : S8) : ∀ (n : Nat) (l : List O3) (k : Int), l.length ≤ n → ∃ j : Nat, j ≤ n ∧ hasO l typ (idN addr (k + j)) = false
  | 0, l, k, h => ⟨0, Nat.le_refl _, by cases l with | nil => rfl | cons _ _ => simp at h⟩
  | n + 1, l, k, h => by
    cases hk : hasO l typ (idN addr k) with
    | false => exact ⟨0, Nat.zero_le _, by simpa using hk⟩
    | true =>
      have hlt : (outO l typ (idN addr k)).length < l.length := by
        unfold outO
        refine List.length_filter_lt_length_iff_exists.2 ?_
        obtain ⟨x, hx, hi⟩ := List.any_eq_true.1 hk
        exact ⟨x, hx, by simp [hi]⟩
      obtain ⟨j, hj, hf⟩ := free_id inj typ addr n (outO l typ (idN addr k)) (k + 1) (by omega)
      refine ⟨j + 1, by omega, ?_⟩
      have e : k + 1 + (j : Int) = k + ((j + 1 : Nat) : Int) := by omega
      rw [e, hasO_out] at hf
      have hne : idN addr (k + ((j + 1 : Nat) : Int)) ≠ idN addr k := fun e => by
        have := inj _ _ (idN_inj e)
        omega
      have h2 : (typ == typ && idN addr (k + ((j + 1 : Nat) : Int)) == idN addr k) = false := by
        rw [Bool.and_eq_false_iff]
        exact .inr (by simpa using hne)
      rw [h2] at hf
      simpa using hf

end Go.Proofs.YtpbipngnoklmcaaGreatDoor
namespace Go.Proofs.YtpbipngnoklmcaaGreatDoor
open Go.RowKit
set_option maxRecDepth 100000
attribute [local go_sem] str_size str_toList str_get

/-- v is a slice (perhaps nil) of these texts. -/
def StrsAt (w : World) (v : Value) (ss : List (List UInt8)) : Prop :=
  ∃ (ao : Option Addr) (cap : Nat), v = .slice ao ss.length cap ∧ (ss.length ≤ cap ∧ cap ≤ 9223372036854775807 ∧ (ao = none → cap = 0)) ∧
    (ss ≠ [] → ∃ b off, ao = some ⟨b, off, none⟩ ∧ b < w.heap.size ∧ ∀ i, i < ss.length → w.cell? ⟨b, off + i, none⟩ = some (str (ss.getD i [])))
/-- v is a slice (perhaps nil) of n rows of five cells, which are these values. -/
def RowAt (w : World) (v : Value) (n : Nat) (vs : Nat → Value) : Prop :=
  ∃ (ao : Option Addr) (cap : Nat), v = .slice ao n cap ∧ (n ≤ cap ∧ cap ≤ 9223372036854775807 ∧ (ao = none → cap = 0)) ∧
    (n ≠ 0 → ∃ b off, ao = some ⟨b, off, none⟩ ∧ b < w.heap.size ∧ ∀ i, i < n → ∃ c0 c1 c2 c3 c4, vs i = .agg #[c0, c1, c2, c3, c4] ∧
      w.cell? ⟨b, off + i * 5, none⟩ = some c0 ∧ w.cell? ⟨b, off + i * 5 + 1, none⟩ = some c1 ∧ w.cell? ⟨b, off + i * 5 + 2, none⟩ = some c2 ∧ w.cell? ⟨b, off + i * 5 + 3, none⟩ = some c3 ∧ w.cell? ⟨b, off + i * 5 + 4, none⟩ = some c4)
mutual
/-- v is the value t. -/
def ValAt (w : World) : VT → Value → Prop
  | .mk k b t its ks, v => ∃ vi vk, v = .agg #[.int .i64 k, .bool b, str t, vi, vk] ∧ (-9223372036854775808 ≤ k ∧ k ≤ 9223372036854775807 ∧ t.length ≤ 9223372036854775807) ∧ StrsAt w vk ks ∧ ∃ vs, RowAt w vi its.length vs ∧ ValsAt w its vs
def ValsAt (w : World) : List VT → (Nat → Value) → Prop
  | [], _ => True
  | x :: r, vs => ValAt w x (vs 0) ∧ ValsAt w r (fun i => vs (i + 1))
end

theorem ValsAt_iff (w : World) : ∀ (l : List VT) (vs : Nat → Value), ValsAt w l vs ↔ ∀ i (h : i < l.length), ValAt w l[i] (vs i)
  | [], vs => by simp [ValsAt]
  | x :: r, vs => by
    rw [ValsAt, ValsAt_iff w r]
    constructor
    · rintro ⟨h0, h1⟩ i hi
      cases i with
      | zero => exact h0
      | succ i => exact h1 i (by simpa using hi)
    · intro h
      exact ⟨h 0 (by simp), fun i hi => h (i + 1) (by simpa using hi)⟩

theorem StrsAt.mono {w w' : World} {v : Value} {ss : List (List UInt8)} (h : StrsAt w v ss) (hb : Below w.heap.size w w') : StrsAt w' v ss := by
  obtain ⟨ao, cap, hv, hm, hc⟩ := h
  refine ⟨ao, cap, hv, hm, fun hne => ?_⟩
  obtain ⟨b, off, ha, hlt, hcell⟩ := hc hne
  exact ⟨b, off, ha, Nat.lt_of_lt_of_le hlt hb.size, fun i hi => (hb.cell (p := ⟨b, off + i, none⟩) hlt).trans (hcell i hi)⟩
theorem RowAt.mono {w w' : World} {v : Value} {n : Nat} {vs : Nat → Value} (h : RowAt w v n vs) (hb : Below w.heap.size w w') : RowAt w' v n vs := by
  obtain ⟨ao, cap, hv, hm, hc⟩ := h
  refine ⟨ao, cap, hv, hm, fun hne => ?_⟩
  obtain ⟨b, off, ha, hlt, hcell⟩ := hc hne
  refine ⟨b, off, ha, Nat.lt_of_lt_of_le hlt hb.size, fun i hi => ?_⟩
  obtain ⟨c0, c1, c2, c3, c4, hvs, h0, h1, h2, h3, h4⟩ := hcell i hi
  exact ⟨c0, c1, c2, c3, c4, hvs, (hb.cell (p := ⟨b, off + i * 5, none⟩) hlt).trans h0, (hb.cell (p := ⟨b, off + i * 5 + 1, none⟩) hlt).trans h1, (hb.cell (p := ⟨b, off + i * 5 + 2, none⟩) hlt).trans h2, (hb.cell (p := ⟨b, off + i * 5 + 3, none⟩) hlt).trans h3, (hb.cell (p := ⟨b, off + i * 5 + 4, none⟩) hlt).trans h4⟩
theorem ValAt.mono {w w' : World} (hb : Below w.heap.size w w') {t : VT} : ∀ {v : Value}, ValAt w t v → ValAt w' t v := by
  induction t using VT.ind with
  | h k b t its ks ih =>
    intro v h
    rw [ValAt] at h ⊢
    obtain ⟨vi, vk, hv, hk, hs, vs, hr, hvs⟩ := h
    refine ⟨vi, vk, hv, hk, hs.mono hb, vs, hr.mono hb, ?_⟩
    rw [ValsAt_iff] at hvs ⊢
    exact fun i hi => ih _ (List.getElem_mem hi) (hvs i hi)
theorem ValsAt.mono {w w' : World} (hb : Below w.heap.size w w') {l : List VT} {vs : Nat → Value} (h : ValsAt w l vs) : ValsAt w' l vs := by
  rw [ValsAt_iff] at h ⊢
  exact fun i hi => (h i hi).mono hb

theorem ValAt.agg {w : World} {t : VT} {v : Value} (h : ValAt w t v) : ∃ vi vk vs, v = .agg #[.int .i64 t.kind, .bool t.flag, str t.text, vi, vk] ∧ (-9223372036854775808 ≤ t.kind ∧ t.kind ≤ 9223372036854775807 ∧ t.text.length ≤ 9223372036854775807) ∧ StrsAt w vk t.keys ∧ RowAt w vi t.items.length vs ∧ ValsAt w t.items vs := by
  cases t with
  | mk k b t its ks =>
    rw [ValAt] at h
    obtain ⟨vi, vk, hv, hk, hs, vs, hr, hvs⟩ := h
    exact ⟨vi, vk, vs, hv, hk, hs, hr, hvs⟩

/-- An element of a row, cell by cell. -/
theorem RowAt.get {w : World} {ao : Option Addr} {n n' cap : Nat} {vs : Nat → Value} {l : List VT} (h : RowAt w (.slice ao n cap) n' vs) (hn : n' = l.length) (hv : ValsAt w l vs) {i : Nat} (hi : i < l.length) :
    ∃ b off vi vk, ao = some ⟨b, off, none⟩ ∧ b < w.heap.size ∧ vs i = .agg #[.int .i64 l[i].kind, .bool l[i].flag, str l[i].text, vi, vk] ∧ ValAt w l[i] (vs i) ∧
      w.cell? ⟨b, off + i * 5, none⟩ = some (.int .i64 l[i].kind) ∧ w.cell? ⟨b, off + i * 5 + 1, none⟩ = some (.bool l[i].flag) ∧ w.cell? ⟨b, off + i * 5 + 2, none⟩ = some (str l[i].text) ∧ w.cell? ⟨b, off + i * 5 + 3, none⟩ = some vi ∧ w.cell? ⟨b, off + i * 5 + 4, none⟩ = some vk := by
  subst hn
  obtain ⟨ao', cap', hv', hm, hc⟩ := h
  cases hv'
  obtain ⟨b, off, ha, hb, hcell⟩ := hc (by omega)
  obtain ⟨c0, c1, c2, c3, c4, hvs, h0, h1, h2, h3, h4⟩ := hcell i hi
  have hx := (ValsAt_iff w l vs).1 hv i hi
  obtain ⟨vi, vk, vs', hg, _⟩ := hx.agg
  rw [hvs] at hg
  injection hg with hg
  injection hg with hg
  simp only [List.cons.injEq, and_true] at hg
  obtain ⟨rfl, rfl, rfl, rfl, rfl⟩ := hg
  exact ⟨b, off, _, _, ha, hb, hvs, hx, h0, h1, h2, h3, h4⟩
theorem StrsAt.get {w : World} {ao : Option Addr} {n cap : Nat} {ss : List (List UInt8)} (h : StrsAt w (.slice ao n cap) ss) {i : Nat} (hi : i < ss.length) : ∃ b off, ao = some ⟨b, off, none⟩ ∧ b < w.heap.size ∧ w.cell? ⟨b, off + i, none⟩ = some (str (ss.getD i [])) := by
  obtain ⟨ao', cap', hv, hm, hc⟩ := h
  cases hv
  obtain ⟨b, off, ha, hb, hcell⟩ := hc (by intro e; simp [e] at hi)
  exact ⟨b, off, ha, hb, hcell i hi⟩
theorem StrsAt.nil (w : World) : StrsAt w (.slice none 0 0) [] := ⟨none, 0, rfl, by simp, fun h => absurd rfl h⟩
theorem RowAt.nil (w : World) (vs : Nat → Value) : RowAt w (.slice none 0 0) 0 vs := ⟨none, 0, rfl, by simp, fun h => absurd rfl h⟩

end Go.Proofs.YtpbipngnoklmcaaGreatDoor
namespace Go.Proofs.YtpbipngnoklmcaaGreatDoor
open Go.RowKit
set_option maxRecDepth 100000
attribute [local go_sem] str_size str_toList str_get

/-- A value as it is passed: its slices written out. -/
theorem ValAt.form {w : World} {t : VT} {v : Value} (h : ValAt w t v) : ∃ ai ci ak ck, v = .agg #[.int .i64 t.kind, .bool t.flag, str t.text, .slice ai t.items.length ci, .slice ak t.keys.length ck] := by
  obtain ⟨vi, vk, vs, rfl, _, ⟨ak, ck, rfl, _⟩, ⟨ai, ci, rfl, _⟩, _⟩ := h.agg
  exact ⟨ai, ci, ak, ck, rfl⟩
/-- An element of a row, in a world that has only grown. -/
theorem RowAt.at {w w' : World} {ao : Option Addr} {n cap : Nat} {vs : Nat → Value} {l : List VT} (h : RowAt w (.slice ao n cap) l.length vs) (hv : ValsAt w l vs) (hb : Below w.heap.size w w') {i : Nat} (hi : i < l.length) :
    ∃ b off ai ci ak ck, ao = some ⟨b, off, none⟩ ∧ b < w'.heap.size ∧ ValAt w' l[i] (.agg #[.int .i64 l[i].kind, .bool l[i].flag, str l[i].text, .slice ai l[i].items.length ci, .slice ak l[i].keys.length ck]) ∧
      w'.cell? ⟨b, off + i * 5, none⟩ = some (.int .i64 l[i].kind) ∧ w'.cell? ⟨b, off + i * 5 + 1, none⟩ = some (.bool l[i].flag) ∧ w'.cell? ⟨b, off + i * 5 + 2, none⟩ = some (str l[i].text) ∧ w'.cell? ⟨b, off + i * 5 + 3, none⟩ = some (.slice ai l[i].items.length ci) ∧ w'.cell? ⟨b, off + i * 5 + 4, none⟩ = some (.slice ak l[i].keys.length ck) := by
  obtain ⟨b, off, vi, vk, ha, hlt, he, hx, h0, h1, h2, h3, h4⟩ := RowAt.get h rfl hv hi
  obtain ⟨ai, ci, ak, ck, hf⟩ := hx.form
  rw [he] at hf hx
  injection hf with hf
  injection hf with hf
  simp only [List.cons.injEq, and_true, true_and] at hf
  obtain ⟨rfl, rfl⟩ := hf
  exact ⟨b, off, ai, ci, ak, ck, ha, Nat.lt_of_lt_of_le hlt hb.size, hx.mono hb, (hb.cell (p := ⟨b, off + i * 5, none⟩) hlt).trans h0, (hb.cell (p := ⟨b, off + i * 5 + 1, none⟩) hlt).trans h1, (hb.cell (p := ⟨b, off + i * 5 + 2, none⟩) hlt).trans h2, (hb.cell (p := ⟨b, off + i * 5 + 3, none⟩) hlt).trans h3, (hb.cell (p := ⟨b, off + i * 5 + 4, none⟩) hlt).trans h4⟩

end Go.Proofs.YtpbipngnoklmcaaGreatDoor
