/- The walk of text: a number's digits. -/
import Derived.Test.YtekpdmjobkikfaaDoorBack
import Derived.Test.YtekpdmjobkikfaaDoorBuild
import Derived.Test.YtekpdmjobkikfaaDoorFmt
import Derived.Test.YtekpdmjobkikfaaDoorNumP
import Derived.Test.YtekpdmjobkikfaaDoorSum
namespace Go.Proofs.YtekpdmjobkikfaaDoor
open Go.RowKit Go.Shelf
attribute [local go_sem] Oper.semAt_some
attribute [local go_sem] str_size str_toList str_get
set_option maxRecDepth 100000

/-- What a loop over limbs is handed: a place, a limb. -/
abbrev Limb := { x : Nat × Nat // x.2 < BB }
def encL (x : Limb) : Array Value := #[.int .i64 (x.1.1 : Int), .int .u64 (x.1.2 : Int)]
def elL (zs : List Nat) (h : okL zs) (q : Nat) : Limb := ⟨(q, zs.getD q 0), okL_getD h q⟩
/-- A limb's digits: filled up, but for the first. -/
def pieceL (len : Nat) (x : Limb) : List UInt8 := if x.1.1 + 1 < len then pad9 x.1.2 else Lib.decDigits x.1.2
def txtL (len : Nat) (pre : List Limb) : List UInt8 := (pre.map (pieceL len)).flatten
theorem txtL_snoc (len : Nat) (pre : List Limb) (x : Limb) : txtL len (pre ++ [x]) = txtL len pre ++ pieceL len x := by simp [txtL]
theorem pieceL_len (len : Nat) (x : Limb) : (pieceL len x).length ≤ 9 := by
  unfold pieceL
  split
  · rw [pad9_len x.2]; exact Nat.le_refl _
  · exact dec_len9 x.2
theorem txtL_len (len : Nat) (pre : List Limb) : (txtL len pre).length ≤ 9 * pre.length := by
  induction pre with
  | nil => simp [txtL]
  | cons x l ih =>
    have := pieceL_len len x
    simp only [txtL, List.map_cons, List.flatten_cons, List.length_append, List.length_cons] at ih ⊢
    omega
theorem txtL_downto {zs : List Nat} (h : okL zs) (ht : isTrim zs) : ∀ k, k + 1 ≤ zs.length → txtL zs.length (downto (elL zs h) zs.length (k + 1)) = Lib.decDigits (valL (zs.drop (zs.length - 1 - k)))
  | 0, hk => by
    rw [downto_succ, txtL_snoc]
    have e : zs.drop (zs.length - 1 - 0) = [zs.getD (zs.length - 1) 0] := by
      rw [Nat.sub_zero, drop_cons (show zs.length - 1 < zs.length by omega), List.drop_of_length_le (by omega)]
    rw [e]
    unfold pieceL elL
    rw [if_neg (by simp; omega)]
    simp [txtL, downto, valL]
  | k + 1, hk => by
    rw [downto_succ, txtL_snoc, txtL_downto h ht k (by omega)]
    unfold pieceL elL
    rw [if_pos (by simp; omega)]
    have := text_step h ht (k := zs.length - 1 - (k + 1)) (by omega)
    rw [show zs.length - 1 - (k + 1) + 1 = zs.length - 1 - k by omega] at this
    exact this

theorem rep48 (k : Nat) : Lib.repeatL [48] k = List.replicate k 48 := by
  induction k with
  | zero => rfl
  | succ k ih => rw [Lib.repeatL, ih, List.replicate_succ]; rfl
theorem cap_text {b : Bool} {xs : List Nat} (ok : bigOk b xs) (hn : xs ≠ []) :
    (100 < (Lib.decDigits (valL xs)).length → capR (numV b xs) = ([], 3)) ∧
    (¬ 100 < (Lib.decDigits (valL xs)).length → b = true → capR (numV b xs) = (45 :: Lib.decDigits (valL xs), 0)) ∧
    (¬ 100 < (Lib.decDigits (valL xs)).length → b = false → capR (numV b xs) = (Lib.decDigits (valL xs), 0)) := by
  have hp : 0 < valL xs := Nat.pos_of_ne_zero fun e => hn ((trim_nil ok.2.1).2 e)
  have ha : (numV b xs).natAbs = valL xs := by unfold numV; cases b <;> simp
  have hl : (Lib.decDigits (valL xs)).length ≤ 100 ↔ valL xs < 10 ^ 100 := by rw [Lib.decDigits_length]; exact nDigits_le (by decide)
  refine ⟨fun h => ?_, fun h hb => ?_, fun h hb => ?_⟩
  · exact capR_long (by rw [ha]; omega)
  · rw [capR_ok (by rw [ha]; omega), itoa_neg (by unfold numV; rw [hb]; simp; omega), ha]
  · rw [capR_ok (by rw [ha]; omega), itoa_pos (by unfold numV; rw [hb]; simp)]
    unfold numV
    rw [hb]
    simp
theorem below_keeps {W W' : World} (h : Below W.heap.size W W') : KeepsOthers W W' := ⟨h.size, fun k _ hk _ => (h.block k (Array.getElem?_eq_some_iff.1 hk).1).trans hk⟩
theorem builder_below {W W' : World} {T e : TypeId} {base b : Nat} {bs : List Value} (h : Lib.IsBuilder T e base b bs W) (hb : Below W.heap.size W W') : Lib.IsBuilder T e base b bs W' := by
  rcases h with ⟨hB, v, hv, hown, hne⟩ | ⟨hB, v, hv, hown, hne⟩
  · exact .inl ⟨hB, v, (hb.block b (Array.getElem?_eq_some_iff.1 hv).1).trans hv, own_below hown hb, hne⟩
  · exact .inr ⟨hB, v, (hb.block b (Array.getElem?_eq_some_iff.1 hv).1).trans hv, own_below hown hb, hne⟩
theorem heap_own {A B : World} {row : Option Nat} {k : Nat} {cs : Array Value} {t : TypeId} {fz : Nat × Nat} (h : A.heap[k]? = some (.cells cs t fz)) (hg : A.grownBy B row) (hr : ∀ r, row = some r → ∃ o : Obj, A.heap[r]? = some o ∧ o.isCells = false) : B.heap[k]? = some (.cells cs t fz) :=
  (hg.block k (Array.getElem?_eq_some_iff.1 h).1 (fun e => by
    obtain ⟨o, ho, hc⟩ := hr k e.symm
    rw [h] at ho
    cases ho
    cases hc)).trans h
theorem row_own {A B : World} {row : Option Nat} {base size n : Nat} {e : TypeId} {v : Value} {xs : List Value} (h : A.ownsRow base e size v n xs) (hg : A.grownBy B row) (hr : ∀ r, row = some r → ∃ o : Obj, A.heap[r]? = some o ∧ o.isCells = false) : B.ownsRow base e size v n xs := by
  refine ⟨h.1, ?_⟩
  rcases h.2 with h2 | ⟨g, cap, cur, hv, hgb, hh, r⟩
  · exact .inl h2
  · exact .inr ⟨g, cap, cur, hv, hgb, heap_own hh hg hr, r⟩
theorem builder_own {A B : World} {row : Option Nat} {T e : TypeId} {base b : Nat} {bs : List Value} (h : Lib.IsBuilder T e base b bs A) (hg : A.grownBy B row) (hr : ∀ r, row = some r → ∃ o : Obj, A.heap[r]? = some o ∧ o.isCells = false) : Lib.IsBuilder T e base b bs B := by
  rcases h with ⟨hB, v, hb, hown, hne⟩ | ⟨hB, v, hb, hown, hne⟩
  · exact .inl ⟨hB, v, heap_own hb hg hr, row_own hown hg hr, hne⟩
  · exact .inr ⟨hB, v, heap_own hb hg hr, row_own hown hg hr, hne⟩

set_option maxHeartbeats 4000000 in
theorem text_some (b : Bool) (v : Value) (xs : List Nat) (w : World) (hx : LimbsAt w v xs) (ok : bigOk b xs) (hl : xs.length ≤ 2000) (hn : xs ≠ []) (hT : TabW w) :
    Calls Tryd.prog 32 #[.agg #[.bool b, v]] w fun e w' => e = .returned (.tuple #[str (capR (numV b xs)).1, .int .i64 (capR (numV b xs)).2]) ∧ Below w.heap.size w w' := by
  obtain ⟨a, c, rfl, _, _, _⟩ := hx.val
  have hne : ¬ (xs.length : Int) = 0 := by have := List.length_pos_iff.2 hn; omega
  have hpos : 0 < xs.length := List.length_pos_iff.2 hn
  obtain ⟨bx, ox, rfl, hbx, hcx0⟩ := hx.get (i := 0) hpos
  refine (callsIn_wide (n := 4)).1 ?_
  refine callsIn_of_wp_marks Tryd.func32 rfl trivial ?_ rfl
  simp only [Tryd.ntmps32, List.size_toArray, List.length_nil, List.length_cons, Nat.reduceAdd, Nat.reduceSub, Array.replicate_succ, Array.replicate_zero, List.push_toArray, List.append_toArray, List.nil_append, List.cons_append]
  gi_wp2_with (refine ⟨trivial, ?_⟩; gi_at_call 50; refine (back_in Fence.wide _ trivial rfl _ _ _ _).mono ?_; rintro e w' ⟨rfl, rfl⟩)
  obtain ⟨w0, hw0⟩ : ∃ w0, w0 = ((w.alloc (.cells #[.bool b, .slice (some ⟨bx, ox, none⟩) xs.length c] 49)).alloc (.cells #[.pointer none, .slice none 0 0] 68)).alloc (.cells #[.slice (some ⟨bx, ox, none⟩) xs.length c] 47) := ⟨_, rfl⟩
  have hs0 : w0.heap.size = w.heap.size + 3 := by rw [hw0]; simp only [World.alloc, Array.size_push]
  have hb0 : Below w.heap.size w w0 := by rw [hw0]; exact (((Below.refl _ w).alloc (Nat.le_refl _) _).alloc (by simp) _).alloc (by simp <;> omega) _
  have hx0 : w0.heap[w.heap.size]? = some (.cells #[.bool b, .slice (some ⟨bx, ox, none⟩) xs.length c] 49 (0, 0)) := by
    rw [hw0]; exact (Below.heap_alloc _ _ _ (by simp <;> omega)).trans ((Below.heap_alloc _ _ _ (by simp)).trans (heap_alloc_new _ _))
  have hd0 : w0.heap[w.heap.size + 1]? = some (.cells #[.pointer none, .slice none 0 0] 68 (0, 0)) := by
    have := heap_alloc_new (w.alloc (.cells #[.bool b, .slice (some ⟨bx, ox, none⟩) xs.length c] 49)) (.cells #[.pointer none, .slice none 0 0] 68)
    rw [show (w.alloc (.cells #[.bool b, .slice (some ⟨bx, ox, none⟩) xs.length c] 49)).heap.size = w.heap.size + 1 by simp] at this
    rw [hw0]; exact (Below.heap_alloc _ _ _ (by simp <;> omega)).trans this
  have hs2 : w0.heap[w.heap.size + 2]? = some (.cells #[.slice (some ⟨bx, ox, none⟩) xs.length c] 47 (0, 0)) := by
    have := heap_alloc_new ((w.alloc (.cells #[.bool b, .slice (some ⟨bx, ox, none⟩) xs.length c] 49)).alloc (.cells #[.pointer none, .slice none 0 0] 68)) (.cells #[.slice (some ⟨bx, ox, none⟩) xs.length c] 47)
    rw [show ((w.alloc (.cells #[.bool b, .slice (some ⟨bx, ox, none⟩) xs.length c] 49)).alloc (.cells #[.pointer none, .slice none 0 0] 68)).heap.size = w.heap.size + 2 by simp only [World.alloc, Array.size_push]] at this
    rw [hw0]; exact this
  rw [← hw0]
  have hX0 := hx.mono hb0
  have hT0 := hT.mono hb0
  clear hw0
  have hcs : ∀ j, j < xs.length → w0.cell? ⟨bx, ox + j, none⟩ = some (.int .u64 ((xs[j]?.getD 0 : Nat) : Int)) := fun j hj => by
    obtain ⟨b2, o2, he, _, hc2⟩ := hX0.get hj
    cases he
    exact hc2
  refine wpIn_rangeFunc_ownG rfl (by omega) (gf := 66) (lb := #[.pointer (some ⟨w.heap.size + 1 + 1, 0, none⟩)]) rfl trivial (enters_of Tryd.func66 (by kernel_rfl) rfl)
    (back_stops encL (elL xs ok.1) Fence.wide _ trivial rfl (by omega) (w.heap.size + 2) (w.heap.size + 1) bx ox c xs (by omega) w0 (by omega) (by omega) (by omega) (fun q hq => rfl) (by simp [World.cell?, hs2]) hcs) KeepB.trans (keepB_b (by omega) (by omega)) (Below.refl _ _) (fun _ => rfl)
    (fun pre W => (Lib.IsBuilder 68 5 (w.heap.size + 1) (w.heap.size + 1) (Lib.byteCells (txtL xs.length pre)) W ∧ W.heap[w.heap.size + 2]? = some (.cells #[.slice (some ⟨bx, ox, none⟩) xs.length c] 47 (0, 0))) ∧ Below (w.heap.size + 1) w0 W)
    (fun _ _ _ => False)
    (OwnFrom.and (Own.from (fun s A B row hs hg hr => ⟨builder_own hs.1 hg hr, heap_own hs.2 hg hr⟩) _) (ownFrom_below (by omega) (by omega)))
    (fun _ _ _ _ _ hs _ _ => hs)
    ⟨⟨.inl ⟨Nat.le_refl _, .slice none 0 0, hd0, World.ownsRow_nil _ _ _ _, by simp [Value.ownBlock]⟩, hs2⟩, Below.refl _ _⟩
    ?a1 ?assign ?body ?done ?stop
  case assign =>
    intro l x W K hK
    unfold encL
    gi_wp2
    exact hK
  case body =>
    rintro l pre x W ⟨⟨hbd, hs2W⟩, hbW⟩ hlen
    have hzW : w.heap.size + 1 ≤ W.heap.size := by have := hbW.size; omega
    obtain ⟨y0, y1, _, _⟩ := cell_box2 ((hbW.block w.heap.size (by omega)).trans hx0)
    have hTW : TabW W := hT.mono (hb0.trans (hbW.mono (by omega)))
    have hx2 := x.2
    have FM := fmt_any x.1.2 (by have : x.1.2 < 1000000000 := hx2; omega) W hTW
    have hp1 : x.1.1 + 1 < xs.length → pieceL xs.length x = List.replicate (9 - (Lib.decDigits x.1.2).length) 48 ++ Lib.decDigits x.1.2 := fun h => by unfold pieceL; rw [if_pos h]; rfl
    have hp2 : ¬ x.1.1 + 1 < xs.length → pieceL xs.length x = Lib.decDigits x.1.2 := fun h => by unfold pieceL; rw [if_neg h]
    have hd9 := dec_len9 hx2
    have htl := txtL_len xs.length pre
    have HBW := Lib.hid hbW
    have HS := Lib.hid hs2W
    have HBD0 := Lib.hid hbd
    generalize hii : x.1.1 = i at hp1 hp2
    generalize Lib.decDigits x.1.2 = ds at FM hp1 hp2 hd9
    clear hbW hs2W hbd hTW hx2
    clear hii
    generalize x.1.2 = nn at FM
    gi_wp2_with fail
    refine ⟨trivial, ?_⟩
    refine (CallsIn.inRound l (callsIn_wide.2 FM)).mono ?_
    rintro e W1 ⟨rfl, hb1⟩
    by_cases hi : i + 1 < xs.length
    · have hi' : (i : Int) < (xs.length : Int) - 1 := by omega
      have hk9 : (9 : Int) - (ds.length : Int) = ((9 - ds.length : Nat) : Int) := by omega
      have RP := Tryd.strings_Repeat ⟨#[48]⟩ (9 - ds.length) W1 (by omega) (by show 1 * (9 - ds.length) ≤ _; omega)
      simp only [rep48] at RP
      have hP := hp1 hi
      generalize hzz : List.replicate (9 - ds.length) (48 : UInt8) = zz at RP hP
      have hzl : zz.length = 9 - ds.length := by rw [← hzz, List.length_replicate]
      have hadd : ∀ W : World, (Op.stringOp .add (ByteArray.mk zz.toArray) (ByteArray.mk ds.toArray)).run Tryd.prog W = .ok (.string ⟨(zz ++ ds).toArray⟩) W := fun W => str_add zz ds (by omega)
      have hl9 : (zz ++ ds).length ≤ 9 := by rw [List.length_append]; omega
      have HP := Lib.hid hP
      have hbW1 := hb1
      have HB1 := Lib.hid hb1
      obtain ⟨z0, z1, _, _⟩ := cell_box2 ((hb1.block w.heap.size (by omega)).trans ((HBW.out.block w.heap.size (by omega)).trans hx0))
      clear hp1 hp2 hP hzz hi
      gi_wp2_with fail
      refine ⟨trivial, ?_⟩
      refine (CallsIn.inRound l (callsIn_wide.2 RP)).mono ?_
      rintro e W2 ⟨rfl, hb2⟩
      have HB : Hid (Below W.heap.size W W2) := hb1.trans (hb2.mono hb1.size)
      have HBD : Hid (Lib.IsBuilder 68 5 (w.heap.size + 1) (w.heap.size + 1) (Lib.byteCells (txtL xs.length pre)) W2) := builder_below HBD0.out HB.out
      have HS2 : Hid (W2.heap[w.heap.size + 2]? = some (.cells #[.slice (some ⟨bx, ox, none⟩) xs.length c] 47 (0, 0))) := (HB.out.block _ (Array.getElem?_eq_some_iff.1 HS.out).1).trans HS.out
      have hzz2 := HB.out.size
      clear hb1 hb2 hbW1 RP FM z0 z1 y0 y1 hzl
      gi_wp2_with fail
      refine ⟨trivial, ?_⟩
      refine (CallsIn.inRound l (callsIn_wide.2 (write_any (w.heap.size + 1) (w.heap.size + 1) _ ⟨(zz ++ ds).toArray⟩ W2 HBD.out (by rw [Lib.byteCells_length, str_size]; omega) (by omega)))).mono ?_
      rintro e W3 ⟨rfl, hbd3, hb3, ho3⟩
      have hz3 := hb3.size
      have hk3 : KeepsOthers W2 W3 := others_keeps ho3 (by rcases HBD.out with ⟨_, v, hv, _⟩ | ⟨_, v, hv, _⟩ <;> exact ⟨_, _, hv⟩) hz3
      have hs3 := ho3 (w.heap.size + 2) _ HS2.out (fun e => by have := Option.some.inj e; omega) (fun c fz e => by injection e with _ e2; revert e2; decide)
      have HE : Hid (KeepsFrom w0.heap.size W W3 ∧ KeepB (w.heap.size + 1) (w.heap.size + 2) W W3 ∧ (Lib.IsBuilder 68 5 (w.heap.size + 1) (w.heap.size + 1) (Lib.byteCells (txtL xs.length (pre ++ [x]))) W3 ∧ W3.heap[w.heap.size + 2]? = some (.cells #[.slice (some ⟨bx, ox, none⟩) xs.length c] 47 (0, 0))) ∧ Below (w.heap.size + 1) w0 W3) := by
        refine ⟨((below_keeps HB.out).trans hk3).from _, ⟨(HB.out.mono hzW).trans hb3, by rw [hs3]; exact HS.out.symm⟩, ⟨.inr ?_, hs3⟩, HBW.out.trans ((HB.out.mono hzW).trans hb3)⟩
        rw [txtL_snoc, HP.out, Lib.byteCells_append]
        exact hbd3
      clear hbd3 hb3 ho3 hk3 hs3
      gi_wp2
      exact HE.out
    · have hi' : ¬ (i : Int) < (xs.length : Int) - 1 := by omega
      have HP := Lib.hid (hp2 hi)
      have HB : Hid (Below W.heap.size W W1) := hb1
      have HBD : Hid (Lib.IsBuilder 68 5 (w.heap.size + 1) (w.heap.size + 1) (Lib.byteCells (txtL xs.length pre)) W1) := builder_below HBD0.out HB.out
      have HS2 : Hid (W1.heap[w.heap.size + 2]? = some (.cells #[.slice (some ⟨bx, ox, none⟩) xs.length c] 47 (0, 0))) := (HB.out.block _ (Array.getElem?_eq_some_iff.1 HS.out).1).trans HS.out
      have hzz2 := HB.out.size
      obtain ⟨z0, z1, _, _⟩ := cell_box2 ((hb1.block w.heap.size (by omega)).trans ((HBW.out.block w.heap.size (by omega)).trans hx0))
      clear hp1 hp2 hi hb1 FM y0 y1
      gi_wp2_with fail
      refine ⟨trivial, ?_⟩
      refine (CallsIn.inRound l (callsIn_wide.2 (write_any (w.heap.size + 1) (w.heap.size + 1) _ ⟨(ds).toArray⟩ W1 HBD.out (by rw [Lib.byteCells_length, str_size]; omega) (by omega)))).mono ?_
      rintro e W3 ⟨rfl, hbd3, hb3, ho3⟩
      have hz3 := hb3.size
      have hk3 : KeepsOthers W1 W3 := others_keeps ho3 (by rcases HBD.out with ⟨_, v, hv, _⟩ | ⟨_, v, hv, _⟩ <;> exact ⟨_, _, hv⟩) hz3
      have hs3 := ho3 (w.heap.size + 2) _ HS2.out (fun e => by have := Option.some.inj e; omega) (fun c fz e => by injection e with _ e2; revert e2; decide)
      have HE : Hid (KeepsFrom w0.heap.size W W3 ∧ KeepB (w.heap.size + 1) (w.heap.size + 2) W W3 ∧ (Lib.IsBuilder 68 5 (w.heap.size + 1) (w.heap.size + 1) (Lib.byteCells (txtL xs.length (pre ++ [x]))) W3 ∧ W3.heap[w.heap.size + 2]? = some (.cells #[.slice (some ⟨bx, ox, none⟩) xs.length c] 47 (0, 0))) ∧ Below (w.heap.size + 1) w0 W3) := by
        refine ⟨((below_keeps HB.out).trans hk3).from _, ⟨(HB.out.mono hzW).trans hb3, by rw [hs3]; exact HS.out.symm⟩, ⟨.inr ?_, hs3⟩, HBW.out.trans ((HB.out.mono hzW).trans hb3)⟩
        rw [txtL_snoc, HP.out, Lib.byteCells_append]
        exact hbd3
      clear hbd3 hb3 ho3 hk3 hs3
      gi_wp2
      exact HE.out
  case stop =>
    rintro D c pre W _ _ h _
    exact h.elim
  case done =>
    rintro D ys W hD rfl ⟨⟨hbd, _⟩, hbW⟩ hK
    obtain ⟨kk, hkk⟩ : ∃ kk, xs.length = kk + 1 := ⟨xs.length - 1, by omega⟩
    have htx : txtL xs.length (downto (elL xs ok.1) xs.length xs.length) = Lib.decDigits (valL xs) := by
      have := txtL_downto ok.1 ok.2.1 kk (by omega)
      rw [show xs.length - 1 - kk = 0 by omega, List.drop_zero] at this
      rw [← hkk] at this
      exact this
    rw [htx] at hbd
    have hzW := hbW.size
    obtain ⟨y0, y1, _, _⟩ := cell_box2 ((hbW.block w.heap.size (by omega)).trans hx0)
    have hbw : Below w.heap.size w W := hb0.trans (hbW.mono (by omega))
    obtain ⟨t, ht⟩ : ∃ t, Lib.decDigits (valL xs) = t := ⟨_, rfl⟩
    rw [ht] at hbd
    have hlt : (Lib.decDigits (valL xs)).length ≤ 18000 := by
      rw [← htx]
      have h1 := txtL_len xs.length (downto (elL xs ok.1) xs.length xs.length)
      rw [downto_length] at h1
      omega
    rw [ht] at hlt
    have hcap := cap_text ok hn
    rw [ht] at hcap
    have HCAP := Lib.hid hcap
    have LN := Tryd.Builder_Len (w.heap.size + 1) (w.heap.size + 1) (Lib.byteCells t) W hbd
    rw [Lib.byteCells_length] at LN
    have ST := Tryd.Builder_String_any_k (w.heap.size + 1) (w.heap.size + 1) t W (Lib.IsBuilderF.of hbd) (by omega)
    have HK := Lib.hid hK
    have HD := Lib.hid hbd
    clear htx ht hcap hkk hbd
    by_cases h100 : 100 < t.length
    · have h100' : (100 : Int) < (t.length : Int) := by omega
      have HR := Lib.hid (HCAP.out.1 h100)
      clear h100 ST
      gi_wp2_with fail
      refine ⟨trivial, ?_⟩
      refine (callsIn_wide.2 LN).mono ?_
      rintro e w' ⟨rfl, hw'⟩
      rw [hw']
      gi_wp2
      refine ⟨by simp, .inl ⟨_, _, rfl, run_takeDeferred HK.out, ?_⟩⟩
      refine ⟨_, results_tmp2 rfl _ _ _, by rw [HR.out]; rfl, ?_⟩
      exact hbw.trans (belowK_b (w := w0) (n₀ := w.heap.size) (by omega) _ D _ _ hD HK.out rfl rfl)
    · have h100' : ¬ (100 : Int) < (t.length : Int) := by omega
      cases b with
      | true =>
        have HR := Lib.hid (HCAP.out.2.1 h100 rfl)
        have hadd : ∀ W : World, (Op.stringOp .add (ByteArray.mk #[45]) (ByteArray.mk t.toArray)).run Tryd.prog W = .ok (.string ⟨(45 :: t).toArray⟩) W := fun W => str_add [45] t (by simp; omega)
        clear h100
        gi_wp2_with fail
        refine ⟨trivial, ?_⟩
        refine (callsIn_wide.2 LN).mono ?_
        rintro e w' ⟨rfl, hw'⟩
        rw [hw']
        clear hw' w'
        gi_wp2_with fail
        refine ⟨trivial, ?_⟩
        refine (callsIn_wide.2 ST).mono ?_
        rintro e W2 ⟨rfl, _, hb2, ho2⟩
        have hK2 := ho2 D _ HK.out (fun e => by have := Option.some.inj e; omega) (fun c fz e => by cases e)
        have hbe : Below w.heap.size w W2 := hbw.trans (hb2.mono (by omega))
        clear LN ST
        gi_wp2
        refine ⟨by simp, .inl ⟨_, _, rfl, run_takeDeferred hK2, ?_⟩⟩
        refine ⟨_, results_tmp2 rfl _ _ _, by rw [HR.out]; rfl, ?_⟩
        exact hbe.trans (belowK_b (w := w0) (n₀ := w.heap.size) (by omega) _ D _ _ hD hK2 rfl rfl)
      | false =>
        have HR := Lib.hid (HCAP.out.2.2 h100 rfl)
        clear h100
        gi_wp2_with fail
        refine ⟨trivial, ?_⟩
        refine (callsIn_wide.2 LN).mono ?_
        rintro e w' ⟨rfl, hw'⟩
        rw [hw']
        clear hw' w'
        gi_wp2_with fail
        refine ⟨trivial, ?_⟩
        refine (callsIn_wide.2 ST).mono ?_
        rintro e W2 ⟨rfl, _, hb2, ho2⟩
        have hK2 := ho2 D _ HK.out (fun e => by have := Option.some.inj e; omega) (fun c fz e => by cases e)
        have hbe : Below w.heap.size w W2 := hbw.trans (hb2.mono (by omega))
        clear LN ST
        gi_wp2
        refine ⟨by simp, .inl ⟨_, _, rfl, run_takeDeferred hK2, ?_⟩⟩
        refine ⟨_, results_tmp2 rfl _ _ _, by rw [HR.out]; rfl, ?_⟩
        exact hbe.trans (belowK_b (w := w0) (n₀ := w.heap.size) (by omega) _ D _ _ hD hK2 rfl rfl)

theorem text_any (b : Bool) (v : Value) (xs : List Nat) (w : World) (hx : LimbsAt w v xs) (ok : bigOk b xs) (hl : xs.length ≤ 2000) (hT : TabW w) :
    Calls Tryd.prog 32 #[.agg #[.bool b, v]] w fun e w' => e = .returned (.tuple #[str (capR (numV b xs)).1, .int .i64 (capR (numV b xs)).2]) ∧ Below w.heap.size w w' := by
  by_cases hn : xs = []
  · subst hn
    have hb : b = false := by
      cases b with
      | false => rfl
      | true => exact absurd rfl (ok.2.2 rfl)
    subst hb
    obtain ⟨a, c, rfl, _, _, _⟩ := hx.val
    have hr : capR (numV false []) = ([48], 0) := by
      rw [show numV false [] = 0 from rfl, capR_ok (by decide), itoa_zero]
    rw [hr]
    obtain ⟨w0, hw0⟩ : ∃ w0, w0 = w.alloc (.cells #[.bool false, .slice a (List.length ([] : List Nat)) c] 49) := ⟨_, rfl⟩
    have hb0 : Below w.heap.size w w0 := by rw [hw0]; exact (Below.refl _ w).alloc (Nat.le_refl _) _
    have HW := Lib.hid hw0
    clear hr ok hl hT hx hw0
    go_enter Tryd.func32, Tryd.ntmps32
    go_wp2
    go_ret2
    refine ⟨rfl, ?_⟩
    have := HW.out
    simp only [List.length_nil] at this
    rw [← this]
    exact hb0
  · exact text_some b v xs w hx ok hl hn hT

end Go.Proofs.YtekpdmjobkikfaaDoor
