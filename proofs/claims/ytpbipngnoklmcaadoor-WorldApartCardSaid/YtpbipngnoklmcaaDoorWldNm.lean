/- Plain: IDs of one address, as WorldNumbers asks for them. No walk. -/
import Derived.Test.YtpbipngnoklmcaaDoorWldX
namespace Go.Proofs.YtpbipngnoklmcaaDoor
set_option maxRecDepth 100000

def abN : S8 := [97, 46, 98]
theorem intR_itoa {n : Int} (h0 : -9223372036854775808 ≤ n) (h1 : n ≤ 9223372036854775807) : intR (Lib.itoa n) = (n, true) := by
  have hb : n.natAbs < 10 ^ 100 := Nat.lt_of_le_of_lt (show n.natAbs ≤ 9223372036854775808 by omega) (by decide)
  unfold intR
  rw [if_pos ⟨good_itoa hb, by rw [valS_itoa]; omega, by rw [valS_itoa]; omega⟩, valS_itoa]
theorem behind_id (a : S8) {f : Int} (h0 : 1 ≤ f) (h1 : f ≤ 1000000000) : behindP a (idN a f) = f + 1 := by
  have hp : (a ++ [35]).isPrefixOf (idN a f) = true := List.isPrefixOf_iff_prefix.2 (List.prefix_append _ _)
  have hd : (idN a f).drop (a.length + 1) = Lib.itoa f := by
    unfold idN
    rw [List.drop_left' (by rw [List.length_append]; rfl)]
  unfold behindP
  rw [hd, intR_itoa (by omega) (by omega), if_pos ⟨hp, rfl, h0, h1⟩]
theorem behind_nil (a : S8) : behindP a [] = 1 := by
  unfold behindP
  rw [if_neg]
  rintro ⟨h, _⟩
  have := (List.isPrefixOf_iff_prefix.1 h).length_le
  rw [List.length_append] at this
  simp only [List.length_cons, List.length_nil] at this
  omega
theorem idN_ne {a : S8} {j k : Int} (h : j ≠ k) : (idN a j == idN a k) = false := by
  rw [beq_eq_false_iff_ne]
  exact fun e => h (itoa_inj (idN_inj e))

/-- i objects, whose numbers rise from behind f. -/
structure NumI (l : List O3) (f i : Nat) : Prop where
  ris : risO l
  len : l.length = i
  has : ∀ k : Int, hasO l [97] (idN abN k) = decide ((f : Int) + 1 ≤ k ∧ k < (f : Int) + 1 + i)
  none : ∀ x, hasO l [99] x = false
theorem NumI.nil (f : Nat) : NumI [] f 0 := ⟨List.Pairwise.nil, rfl, fun k => by
  rw [show hasO [] [97] (idN abN k) = false from rfl]
  symm
  rw [decide_eq_false_iff_not]
  omega, fun _ => rfl⟩
theorem NumI.id {l : List O3} {f i : Nat} (h : NumI l f i) (h0 : 1 ≤ f) (h1 : f ≤ 1000) : newId l abN [97] (idN abN f) = idN abN ((f : Int) + 1 + i) := by
  have hb := behind_id abN (f := (f : Int)) (by omega) (by omega)
  have := newId_is (l := l) (addr := abN) (typ := [97]) (after := idN abN f) (j := i) (by rw [hb, h.has, decide_eq_false_iff_not]; omega) (fun m hm => by rw [hb, h.has, decide_eq_true_eq]; omega)
  rw [this, hb]
theorem NumI.next {l : List O3} {f i : Nat} (h : NumI l f i) (x : VT) : NumI (withO l ([97], idN abN ((f : Int) + 1 + i), x)) f (i + 1) := by
  refine ⟨ris_with h.ris _, ?_, fun k => ?_, fun y => ?_⟩
  · rw [len_with_new, h.len]
    show hasO l [97] (idN abN ((f : Int) + 1 + i)) = false
    rw [h.has, decide_eq_false_iff_not]
    omega
  · rw [hasO_with, h.has]
    show ((([97] : S8) == [97] && idN abN ((f : Int) + 1 + i) == idN abN k) || _) = _
    by_cases hk : (f : Int) + 1 + i = k
    · rw [hk]
      simp only [beq_self_eq_true, Bool.and_self, Bool.true_or]
      symm
      rw [decide_eq_true_eq]
      omega
    · rw [idN_ne hk, Bool.and_false, Bool.false_or]
      congr 1
      rw [eq_iff_iff]
      omega
  · rw [hasO_with, h.none]
    rfl

/-- What is asked at the end. -/
theorem num_end {l : List O3} {f n : Nat} (h : NumI l f n) (h0 : 1 ≤ f) (h1 : f ≤ 1000) (hn : 1 ≤ n) (x : VT) :
    newId l abN [97] [] = idN abN 1 ∧
    newId (outO (withO l ([97], idN abN 1, x)) [97] (idN abN ((f : Int) + n))) abN [97] (idN abN f) = idN abN ((f : Int) + n) ∧
    newId (withO (outO (withO l ([97], idN abN 1, x)) [97] (idN abN ((f : Int) + n))) ([97], idN abN ((f : Int) + n), x)) abN [99] (idN abN f) = idN abN ((f : Int) + 1) ∧
    (withO (withO (outO (withO l ([97], idN abN 1, x)) [97] (idN abN ((f : Int) + n))) ([97], idN abN ((f : Int) + n), x)) ([99], idN abN ((f : Int) + 1), x)).length = n + 2 := by
  have hb := behind_id abN (f := (f : Int)) (by omega) (by omega)
  have f1 : hasO l [97] (idN abN 1) = false := by rw [h.has, decide_eq_false_iff_not]; omega
  obtain ⟨L1, hL1⟩ : ∃ L1, withO l ([97], idN abN 1, x) = L1 := ⟨_, rfl⟩
  have r1 : risO L1 := by rw [← hL1]; exact ris_with h.ris _
  have l1 : L1.length = n + 1 := by rw [← hL1, len_with_new f1, h.len]
  have s1 : ∀ k : Int, hasO L1 [97] (idN abN k) = decide (k = 1 ∨ ((f : Int) + 1 ≤ k ∧ k < (f : Int) + 1 + n)) := fun k => by
    rw [← hL1, hasO_with, h.has]
    show ((([97] : S8) == [97] && idN abN 1 == idN abN k) || _) = _
    by_cases hk : (1 : Int) = k
    · subst hk
      simp
    · rw [idN_ne hk, Bool.and_false, Bool.false_or]
      congr 1
      rw [eq_iff_iff]
      omega
  have c1 : ∀ y, hasO L1 [99] y = false := fun y => by
    rw [← hL1, hasO_with, h.none]
    rfl
  rw [hL1]
  obtain ⟨L2, hL2⟩ : ∃ L2, outO L1 [97] (idN abN ((f : Int) + n)) = L2 := ⟨_, rfl⟩
  have g1 : hasO L1 [97] (idN abN ((f : Int) + n)) = true := by rw [s1, decide_eq_true_eq]; omega
  have l2 : L2.length = n := by
    have := len_out r1 g1
    rw [hL2] at this
    omega
  have s2 : ∀ k : Int, hasO L2 [97] (idN abN k) = decide (k = 1 ∨ ((f : Int) + 1 ≤ k ∧ k < (f : Int) + n)) := fun k => by
    rw [← hL2, hasO_out, s1]
    by_cases hk : k = (f : Int) + n
    · subst hk
      simp only [beq_self_eq_true, Bool.and_self, Bool.not_true, Bool.and_false]
      symm
      rw [decide_eq_false_iff_not]
      omega
    · rw [idN_ne hk, Bool.and_false, Bool.not_false, Bool.and_true]
      congr 1
      rw [eq_iff_iff]
      omega
  have c2 : ∀ y, hasO L2 [99] y = false := fun y => by
    rw [← hL2, hasO_out, c1]
    rfl
  rw [hL2]
  obtain ⟨L3, hL3⟩ : ∃ L3, withO L2 ([97], idN abN ((f : Int) + n), x) = L3 := ⟨_, rfl⟩
  have e2 : hasO L2 [97] (idN abN ((f : Int) + n)) = false := by rw [s2, decide_eq_false_iff_not]; omega
  have l3 : L3.length = n + 1 := by rw [← hL3, len_with_new e2, l2]
  have c3 : ∀ y, hasO L3 [99] y = false := fun y => by
    rw [← hL3, hasO_with, c2]
    rfl
  rw [hL3]
  refine ⟨?_, ?_, ?_, ?_⟩
  · have hb0 := behind_nil abN
    have := newId_is (l := l) (addr := abN) (typ := [97]) (after := []) (j := 0) (by rw [hb0]; exact f1) (fun m hm => by omega)
    rw [this, hb0]
    rfl
  · have := newId_is (l := L2) (addr := abN) (typ := [97]) (after := idN abN f) (j := n - 1) (by rw [hb, show (f : Int) + 1 + ((n - 1 : Nat) : Int) = f + n by omega]; exact e2) (fun m hm => by rw [hb, s2, decide_eq_true_eq]; omega)
    rw [this, hb, show (f : Int) + 1 + ((n - 1 : Nat) : Int) = f + n by omega]
  · have := newId_is (l := L3) (addr := abN) (typ := [99]) (after := idN abN f) (j := 0) (c3 _) (fun m hm => by omega)
    rw [this, hb]
    rfl
  · rw [len_with_new (c3 _), l3]

theorem createP_ok {S : WS} {addr typ after : S8} {x : VT} (hx : goodA x = true) (hf : S.fails = []) :
    createP S addr typ after x = (noteP (putP S (typ, newId S.objs addr typ after, x)) 1 addr typ (newId S.objs addr typ after) 0, newId S.objs addr typ after, 0) := by
  unfold createP
  rw [if_neg (by rw [hx]; simp), if_neg (by rw [hf]; simp [failsP])]
theorem deleteP_ok {S : WS} {addr typ i : S8} (hf : S.fails = []) : deleteP S addr typ i = (noteP (delP S typ i) 5 addr typ i 0, 0) := by
  unfold deleteP
  rw [if_neg (by rw [hf]; simp [failsP])]

end Go.Proofs.YtpbipngnoklmcaaDoor
