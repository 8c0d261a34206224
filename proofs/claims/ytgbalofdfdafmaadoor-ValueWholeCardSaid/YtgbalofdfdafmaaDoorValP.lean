/- Plain: values as trees: what is a good one, their order, their keys. No program in sight. -/
import Derived.Test.YtgbalofdfdafmaaDoorNumP
import Derived.Test.YtgbalofdfdafmaaDoorRefP
namespace Go.Proofs.YtgbalofdfdafmaaDoor
set_option maxRecDepth 100000

/-- A value: kind, truth, text, items, keys. -/
inductive VT where
  | mk (kind : Int) (b : Bool) (text : List UInt8) (items : List VT) (keys : List (List UInt8))

theorem VT.ind {P : VT → Prop} (h : ∀ k b t its ks, (∀ x ∈ its, P x) → P (.mk k b t its ks)) (v : VT) : P v :=
  VT.rec (motive_1 := P) (motive_2 := fun l => ∀ x ∈ l, P x) (fun k b t its ks ih => h k b t its ks ih) (fun x hx => by cases hx)
    (fun y r hy hr x hx => by rcases List.mem_cons.1 hx with rfl | h'; exact hy; exact hr x h') v

def VT.kind : VT → Int | .mk k _ _ _ _ => k
def VT.flag : VT → Bool | .mk _ b _ _ _ => b
def VT.text : VT → List UInt8 | .mk _ _ t _ _ => t
def VT.items : VT → List VT | .mk _ _ _ i _ => i
def VT.keys : VT → List (List UInt8) | .mk _ _ _ _ k => k
def VT.none : VT := .mk 0 false [] [] []
instance : Inhabited VT := ⟨VT.none⟩

mutual
def sizeV : VT → Nat | .mk _ _ _ its _ => 1 + sizeL its
def sizeL : List VT → Nat | [] => 0 | x :: r => sizeV x + sizeL r
end
def deepV : Nat → VT → Bool
  | 0, _ => false
  | n + 1, .mk _ _ _ its _ => its.all (deepV n)
/-- Texts that rise. -/
def rising : List (List UInt8) → Bool
  | a :: b :: r => ltS a b && rising (b :: r)
  | _ => true
/-- Has a value just what its kind needs? (its own fields: two lots of questions, and its keys) -/
def aOk (k : Int) (b : Bool) (t : List UInt8) (n m : Nat) : Bool :=
  decide (0 ≤ k) && decide (k ≤ 6) && (!b || k == 2) && (t.isEmpty || k == 3 || k == 4) && (n == 0 || decide (5 ≤ k)) && (k == 6 || m == 0)
def bOk (k : Int) (t : List UInt8) (n m : Nat) : Bool := (!(k == 3) || goodS t) && (!(k == 4) || decide (t.length ≤ 16384)) && (!(k == 6) || m == n)
def keysOk (ks : List (List UInt8)) : Bool := ks.all (fun s => decide (s.length ≤ 16384)) && rising ks
def nodeOk (k : Int) (b : Bool) (t : List UInt8) (n : Nat) (ks : List (List UInt8)) : Bool := aOk k b t n ks.length && bOk k t n ks.length && keysOk ks
theorem rising_snoc : ∀ (l : List (List UInt8)) (p x : List UInt8), rising (l ++ [p, x]) = (rising (l ++ [p]) && ltS p x)
  | [], p, x => by simp [rising]
  | [a], p, x => by simp [rising]
  | a :: b :: r, p, x => by
    have := rising_snoc (b :: r) p x
    simp only [List.cons_append] at this ⊢
    rw [rising, rising, this, Bool.and_assoc]
theorem keysOk_zero : keysOk [] = true := rfl
theorem keysOk_one {ks : List (List UInt8)} (h : 0 < ks.length) : keysOk (ks.take 1) = decide (ks[0].length ≤ 16384) := by
  cases ks with
  | nil => simp at h
  | cons x r => simp [keysOk, rising]
theorem keysOk_succ {ks : List (List UInt8)} {i : Nat} (h : i + 1 < ks.length) : keysOk (ks.take (i + 2)) = (keysOk (ks.take (i + 1)) && (decide (ks[i + 1].length ≤ 16384) && ltS ks[i] ks[i + 1])) := by
  have e1 : ks.take (i + 1) = ks.take i ++ [ks[i]] := List.take_succ_eq_append_getElem (by omega)
  have e2 : ks.take (i + 2) = ks.take i ++ [ks[i], ks[i + 1]] := by
    rw [List.take_succ_eq_append_getElem (show i + 1 < ks.length from h), e1, List.append_assoc]
    rfl
  unfold keysOk
  rw [e2, rising_snoc, e1, List.all_append, List.all_append]
  simp only [List.all_cons, List.all_nil, Bool.and_true]
  cases (ks.take i).all (fun s => decide (s.length ≤ 16384)) <;> cases decide (ks[i].length ≤ 16384) <;> cases decide (ks[i + 1].length ≤ 16384) <;> cases rising (ks.take i ++ [ks[i]]) <;> simp
theorem keysOk_take {ks : List (List UInt8)} {i j : Nat} (hij : i ≤ j) (h : keysOk (ks.take j) = true) : keysOk (ks.take i) = true := by
  have hr : ∀ (l m : List (List UInt8)), rising (l ++ m) = true → rising l = true := by
    intro l
    induction l with
    | nil => intro _ _; rfl
    | cons a l ih =>
      intro m h
      cases l with
      | nil => rfl
      | cons b r =>
        simp only [List.cons_append, rising, Bool.and_eq_true] at h ⊢
        exact ⟨h.1, ih m h.2⟩
  have e : ks.take j = ks.take i ++ (ks.take j).drop i := by
    conv => lhs; rw [← List.take_append_drop i (ks.take j), List.take_take, Nat.min_eq_left hij]
  unfold keysOk at h ⊢
  rw [Bool.and_eq_true] at h ⊢
  rw [e] at h
  rw [List.all_append, Bool.and_eq_true] at h
  exact ⟨h.1.1, hr _ _ h.2⟩
mutual
def plainV : VT → Bool | .mk k b t its ks => nodeOk k b t its.length ks && plainL its
def plainL : List VT → Bool | [] => true | x :: r => plainV x && plainL r
end
mutual
def knownV : VT → Bool | .mk k _ _ its _ => !(k == 1) && knownL its
def knownL : List VT → Bool | [] => true | x :: r => knownV x && knownL r
end
mutual
/-- No more keys than items, at whatever depth. -/
def fitV : VT → Bool | .mk _ _ _ its ks => decide (ks.length ≤ its.length) && fitL its
def fitL : List VT → Bool | [] => true | x :: r => fitV x && fitL r
end
def goodV (v : VT) : Bool := decide (sizeV v ≤ 2000) && deepV 24 v && plainV v

theorem plainL_all : ∀ (l : List VT), plainL l = l.all plainV
  | [] => rfl
  | x :: r => by rw [plainL, List.all_cons, plainL_all r]
theorem knownL_all : ∀ (l : List VT), knownL l = l.all knownV
  | [] => rfl
  | x :: r => by rw [knownL, List.all_cons, knownL_all r]
theorem fitL_all : ∀ (l : List VT), fitL l = l.all fitV
  | [] => rfl
  | x :: r => by rw [fitL, List.all_cons, fitL_all r]
theorem nodeOk_len {k : Int} {b : Bool} {t : List UInt8} {n : Nat} {ks : List (List UInt8)} (h : nodeOk k b t n ks = true) : ks.length ≤ n := by
  simp only [nodeOk, aOk, bOk, Bool.and_eq_true, Bool.or_eq_true, beq_iff_eq, Bool.not_eq_true', beq_eq_false_iff_ne, ne_eq] at h
  obtain ⟨⟨⟨_, h1⟩, ⟨_, h2⟩⟩, _⟩ := h
  omega
theorem plain_fit (t : VT) : plainV t = true → fitV t = true := by
  induction t using VT.ind with
  | h k b tx its ks ih =>
    intro h
    rw [plainV, Bool.and_eq_true, plainL_all, List.all_eq_true] at h
    rw [fitV, Bool.and_eq_true, fitL_all, List.all_eq_true]
    exact ⟨decide_eq_true (nodeOk_len h.1), fun x hx => ih x hx (h.2 x hx)⟩
theorem fitV_mk {k : Int} {b : Bool} {t : List UInt8} {its : List VT} {ks : List (List UInt8)} : fitV (.mk k b t its ks) = true ↔ ks.length ≤ its.length ∧ ∀ x ∈ its, fitV x = true := by
  rw [fitV, Bool.and_eq_true, fitL_all, List.all_eq_true, decide_eq_true_eq]
theorem sizeV_pos (v : VT) : 1 ≤ sizeV v := by cases v; rw [sizeV]; omega
theorem sizeL_append : ∀ (l m : List VT), sizeL (l ++ m) = sizeL l + sizeL m
  | [], m => by rw [List.nil_append, sizeL, Nat.zero_add]
  | x :: r, m => by rw [List.cons_append, sizeL, sizeL, sizeL_append r m]; omega
theorem sizeL_len : ∀ (l : List VT), l.length ≤ sizeL l
  | [] => Nat.zero_le _
  | x :: r => by
    rw [sizeL, List.length_cons]
    have := sizeV_pos x
    have := sizeL_len r
    omega
theorem sizeL_take_succ {l : List VT} {i : Nat} (h : i < l.length) : sizeL (l.take (i + 1)) = sizeL (l.take i) + sizeV l[i] := by
  rw [List.take_succ_eq_append_getElem h, sizeL_append, sizeL, sizeL]
  omega
theorem sizeL_take_le (l : List VT) (i : Nat) : sizeL (l.take i) ≤ sizeL l := by
  conv => rhs; rw [← List.take_append_drop i l, sizeL_append]
  omega

mutual
def sameV : VT → VT → Bool
  | .mk k b t its ks, w => k == w.kind && b == w.flag && t == w.text && ks == w.keys && sameL its w.items
def sameL : List VT → List VT → Bool
  | [], [] => true
  | x :: r, y :: s => sameV x y && sameL r s
  | _, _ => false
end
theorem sameV_iff (a : VT) : ∀ b, sameV a b = true ↔ a = b := by
  induction a using VT.ind with
  | h k b t its ks ih =>
    have hL : ∀ (l m : List VT), (∀ x ∈ l, ∀ y, sameV x y = true ↔ x = y) → (sameL l m = true ↔ l = m) := by
      intro l
      induction l with
      | nil => intro m _; cases m <;> simp [sameL]
      | cons x r ihr =>
        intro m hx
        cases m with
        | nil => simp [sameL]
        | cons y s =>
          rw [sameL, Bool.and_eq_true, hx x (by simp) y, ihr s (fun z hz => hx z (by simp [hz]))]
          simp
    intro c
    cases c with
    | mk k' b' t' its' ks' =>
      rw [sameV]
      simp only [VT.kind, VT.flag, VT.text, VT.keys, VT.items, Bool.and_eq_true, beq_iff_eq, hL its its' ih, VT.mk.injEq]
      constructor
      · rintro ⟨⟨⟨⟨h1, h2⟩, h3⟩, h4⟩, h5⟩; exact ⟨h1, h2, h3, h5, h4⟩
      · rintro ⟨h1, h2, h3, h5, h4⟩; exact ⟨⟨⟨⟨h1, h2⟩, h3⟩, h4⟩, h5⟩

/-- -1, 0, 1 of two texts. -/
def ordS (a b : List UInt8) : Int := if ltS a b = true then -1 else if ltS b a = true then 1 else 0
/-- .. of two lists, by what their elements are to one another; the shorter first. -/
def ordL {α : Type} (f : α → α → Int) : List α → List α → Int
  | [], [] => 0
  | [], _ :: _ => -1
  | _ :: _, [] => 1
  | x :: r, y :: s => if f x y = 0 then ordL f r s else f x y
def orB (a b : Bool) : Int := if a = b then 0 else if b = true then -1 else 1
mutual
def cmpV : VT → VT → Int
  | .mk k b t its ks, w =>
    if k = w.kind then
      if k = 2 then orB b w.flag
      else if k = 3 then cmpR t w.text
      else if k = 4 then ordS t w.text
      else if ordL ordS ks w.keys = 0 then cmpLs its w.items else ordL ordS ks w.keys
    else if k < w.kind then -1 else 1
def cmpLs : List VT → List VT → Int
  | [], [] => 0
  | [], _ :: _ => -1
  | _ :: _, [] => 1
  | x :: r, y :: s => if cmpV x y = 0 then cmpLs r s else cmpV x y
end
theorem cmpLs_ord : ∀ (l m : List VT), cmpLs l m = ordL cmpV l m
  | [], [] => by rw [cmpLs, ordL]
  | [], _ :: _ => by rw [cmpLs, ordL]
  | _ :: _, [] => by rw [cmpLs, ordL]
  | x :: r, y :: s => by rw [cmpLs, ordL, cmpLs_ord r s]

end Go.Proofs.YtgbalofdfdafmaaDoor
