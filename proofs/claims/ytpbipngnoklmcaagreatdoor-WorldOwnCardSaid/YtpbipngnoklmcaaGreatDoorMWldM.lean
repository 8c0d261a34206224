/- What a world holds in memory, and what stays of it. No walk. Bytes, digits and texts: small laws. The walk of the document's Good. -/
import Derived.Test.YtpbipngnoklmcaaGreatDoorMWldK
import Derived.Test.YtpbipngnoklmcaaGreatDoorValC
import Derived.Test.YtpbipngnoklmcaaGreatDoorMLimbP
import Derived.Test.YtpbipngnoklmcaaGreatDoorMNumP
namespace Go.Proofs.YtpbipngnoklmcaaGreatDoor
open Go.RowKit
set_option maxRecDepth 100000

/-- How an element of the map reads: as it stands. -/
def heldR (v : Value) : Option (DataW Value × List MemPlace) := some (.held v, [])
def MapRel (D : DataW Value) (l : List O3) (val : S8 → S8 → Value) : Prop :=
  ∀ t i, fitS t → fitS i → Maps.has D (klW t i) = hasO l t i ∧ (hasO l t i = true → ∀ z, D.atKey (klW t i) z = .held (val t i))
def fitO (l : List O3) : Prop := ∀ o ∈ l, fitS o.1 ∧ fitS o.2.1
theorem isKeyW {t i : S8} (ht : fitS t) (hi : fitS i) : WideAt.IsKeyLit (klW t i) := keyK.key (keyOf_name ht hi)
def putVal (val : S8 → S8 → Value) (t i : S8) (v : Value) : S8 → S8 → Value := fun a b => if a = t ∧ b = i then v else val a b
theorem MapRel.nil (val : S8 → S8 → Value) : MapRel (.map []) [] val := fun _ _ _ _ => ⟨rfl, fun h => by cases h⟩
theorem MapRel.put {D : DataW Value} {l : List O3} {val : S8 → S8 → Value} (hD : Maps.IsMap D) (h : MapRel D l val) {t i : S8} (ht : fitS t) (hi : fitS i) (x : VT) (v : Value) :
    MapRel (D.put (klW t i) (.held v)) (withO l (t, i, x)) (putVal val t i v) := by
  intro a b ha hb
  rw [hasO_with]
  by_cases he : a = t ∧ b = i
  · obtain ⟨rfl, rfl⟩ := he
    refine ⟨?_, fun _ z => ?_⟩
    · rw [Maps.has_put_same hD (isKeyW ha hb)]
      simp
    · rw [Maps.atKey_put_same hD (isKeyW ha hb)]
      unfold putVal
      rw [if_pos ⟨rfl, rfl⟩]
  · have hne : klW a b ≠ klW t i := fun e => he (klW_inj ha hb ht hi e)
    have h2 : ((t == a) && (i == b)) = false := by
      rw [Bool.and_eq_false_iff]
      by_cases h1 : t = a
      · exact .inr (by simpa using fun e => he ⟨h1.symm, e.symm⟩)
      · exact .inl (by simpa using h1)
    rw [Maps.has_put_other hne, h2, Bool.false_or]
    refine ⟨(h a b ha hb).1, fun hh z => ?_⟩
    rw [Maps.atKey_put_other hne]
    unfold putVal
    rw [if_neg he]
    exact (h a b ha hb).2 hh z
theorem MapRel.del {D : DataW Value} {l : List O3} {val : S8 → S8 → Value} (h : MapRel D l val) {t i : S8} (ht : fitS t) (hi : fitS i) : MapRel (D.del (klW t i)) (outO l t i) val := by
  intro a b ha hb
  rw [hasO_out]
  by_cases he : a = t ∧ b = i
  · obtain ⟨rfl, rfl⟩ := he
    rw [Maps.has_del_same]
    simp
  · have hne : klW a b ≠ klW t i := fun e => he (klW_inj ha hb ht hi e)
    have h2 : ((a == t) && (b == i)) = false := by
      rw [Bool.and_eq_false_iff]
      by_cases h1 : a = t
      · exact .inr (by simpa using fun e => he ⟨h1, e⟩)
      · exact .inl (by simpa using h1)
    rw [Maps.has_del_other hne, h2, Bool.not_false, Bool.and_true]
    refine ⟨(h a b ha hb).1, fun hh z => ?_⟩
    rw [Maps.atKey_del_other hne]
    exact (h a b ha hb).2 hh z

def failCells (fs : List F2) : List Value := fs.flatMap fun f => [.int .i64 f.1, str f.2]
def callCells (ts : List T5) : List Value := ts.flatMap fun t => [.int .i64 t.1, str t.2.1, str t.2.2.1, str t.2.2.2.1, .int .i64 t.2.2.2.2]
/-- The objects' values, each in memory of its own. -/
def ValsOf (w : World) (l : List O3) (val : S8 → S8 → Value) : Prop := ∀ o ∈ l, goodA o.2.2 = true ∧ ∃ F, OwnVal w o.2.2 (val o.1 o.2.1) F
/-- The world that p points to: its map in block b, of n entries at most. -/
structure WAt (w : World) (p b n : Nat) (S : WS) (val : S8 → S8 → Value) (vf vt : Value) (D : DataW Value) : Prop where
  box : w.heap[p]? = some (.cells #[.map (some b), vf, vt] 74 (0, 0))
  map : w.ownsMap Tryz.prog 78 heldR b n D
  rel : MapRel D S.objs val
  ris : risO S.objs
  fit : fitO S.objs
  vals : ValsOf w S.objs val
  fails : w.ownsRow 0 52 2 vf S.fails.length (failCells S.fails)
  trace : w.ownsRow 0 58 5 vt S.trace.length (callCells S.trace)
/-- The blocks that a call may write. -/
def wF (p b : Nat) (vt : Value) : List Nat := p :: b :: vt.ownBlock.toList

theorem own_kinds {w : World} {t : VT} : ∀ {v : Value} {F : List Nat}, OwnVal w t v F → ∀ q ∈ F, ∃ cs fz, w.heap[q]? = some (.cells cs 9 fz) ∨ w.heap[q]? = some (.cells cs 41 fz) := by
  have row : ∀ {e : TypeId} {size n : Nat} {v : Value} {xs : List Value} {F : List Nat}, OwnS w e size v n xs F → ∀ q ∈ F, ∃ cs, w.heap[q]? = some (.cells cs e (0, 0)) := by
    intro e size n v xs F h q hq
    obtain ⟨ho, rfl⟩ := h
    rcases ho.2 with ⟨rfl, _⟩ | ⟨g, c, cur, rfl, _, hh, _⟩
    · simp [Value.ownBlock] at hq
    · simp [Value.ownBlock] at hq
      subst hq
      exact ⟨_, hh⟩
  induction t using VT.ind with
  | h k b tx its ks ih =>
    intro v F h q hq
    obtain ⟨vi, vk, xs, Fk, Fi, Fs, _, _, hk, hi, _, rfl, hv⟩ := h.form
    rcases List.mem_append.1 hq with hq | hq
    · obtain ⟨cs, hh⟩ := row hk q hq
      exact ⟨cs, _, .inl hh⟩
    · rcases List.mem_append.1 hq with hq | hq
      · obtain ⟨cs, hh⟩ := row hi q hq
        exact ⟨cs, _, .inr hh⟩
      · have go : ∀ (ts : List VT), (∀ x ∈ ts, x ∈ its) → ∀ (ys : List Value) (G : List Nat), OwnVals w ts ys G → q ∈ G → ∃ cs fz, w.heap[q]? = some (.cells cs 9 fz) ∨ w.heap[q]? = some (.cells cs 41 fz) := by
          intro ts
          induction ts with
          | nil =>
            intro _ ys G h hq
            rw [OwnVals] at h
            rw [h.2] at hq
            cases hq
          | cons x r ihr =>
            intro hs ys G h hq
            obtain ⟨y, zs, Fx, Fr, rfl, rfl, hx, hr⟩ := h.head
            rcases List.mem_append.1 hq with hq | hq
            · exact ih x (hs x (by simp)) hx q hq
            · exact ihr (fun z hz => hs z (List.mem_cons_of_mem _ hz)) zs Fr hr hq
        exact go its (fun _ h => h) xs Fs hv hq

theorem strNeWC : (9 : TypeId) ≠ 58 := by decide
theorem valNeWC : (41 : TypeId) ≠ 58 := by decide
theorem strNeW : (9 : TypeId) ≠ 74 := by decide
theorem valNeW : (41 : TypeId) ≠ 74 := by decide
theorem wcNeW : (58 : TypeId) ≠ 74 := by decide
theorem failNeW : (52 : TypeId) ≠ 74 := by decide
theorem failNeWC : (52 : TypeId) ≠ 58 := by decide

theorem row_block {w : World} {base : Nat} {e : TypeId} {size n : Nat} {v : Value} {xs : List Value} (h : w.ownsRow base e size v n xs) {q : Nat} (hq : v.ownBlock = some q) : ∃ cs, w.heap[q]? = some (.cells cs e (0, 0)) := by
  rcases h.2 with ⟨rfl, _⟩ | ⟨g, c, cur, rfl, _, hh, _⟩
  · cases hq
  · cases hq
    exact ⟨_, hh⟩
theorem row_keep {w w' : World} {base : Nat} {e : TypeId} {size n : Nat} {v : Value} {xs : List Value} (h : w.ownsRow base e size v n xs) (hk : ∀ q, v.ownBlock = some q → w'.heap[q]? = w.heap[q]?) : w'.ownsRow base e size v n xs := by
  refine ⟨h.1, ?_⟩
  rcases h.2 with h2 | ⟨g, cap, cur, rfl, hg, hh, r⟩
  · exact .inl h2
  · exact .inr ⟨g, cap, cur, rfl, hg, (hk g rfl).trans hh, r⟩
theorem map_keep {w w' : World} {b n : Nat} {D : DataW Value} (h : w.ownsMap Tryz.prog 78 heldR b n D) (hk : w'.heap[b]? = w.heap[b]?) : w'.ownsMap Tryz.prog 78 heldR b n D := by
  obtain ⟨es, clock, hb, r⟩ := h
  exact ⟨es, clock, hk.trans hb, r⟩
theorem map_block {w : World} {b n : Nat} {D : DataW Value} (h : w.ownsMap Tryz.prog 78 heldR b n D) : ∃ es clock, w.heap[b]? = some (.map es clock) := by
  obtain ⟨es, clock, hb, _⟩ := h
  exact ⟨es, clock, hb⟩
theorem heap_lt {w : World} {q : Nat} {o : Obj} (h : w.heap[q]? = some o) : q < w.heap.size := (Array.getElem?_eq_some_iff.1 h).1

variable {w w' : World} {p b n : Nat} {S : WS} {val : S8 → S8 → Value} {vf vt : Value} {D : DataW Value}

/-- The values' blocks are none of those that a call may write. -/
theorem WAt.vals_apart (h : WAt w p b n S val vf vt D) {o : O3} {F : List Nat} (hF : OwnVal w o.2.2 (val o.1 o.2.1) F) {q : Nat} (hq : q ∈ F) : q ∉ wF p b vt := by
  obtain ⟨cs, fz, hh⟩ := own_kinds hF q hq
  intro hm
  simp only [wF, List.mem_cons, Option.mem_toList] at hm
  rcases hm with rfl | rfl | hm
  · rw [h.box] at hh
    rcases hh with hh | hh <;> injection hh with hh <;> injection hh with _ e _
    · exact strNeW e.symm
    · exact valNeW e.symm
  · obtain ⟨es, clock, hb⟩ := map_block h.map
    rw [hb] at hh
    rcases hh with hh | hh <;> cases hh
  · obtain ⟨cs', hb⟩ := row_block h.trace hm
    rw [hb] at hh
    rcases hh with hh | hh <;> injection hh with hh <;> injection hh with _ e _
    · exact strNeWC e.symm
    · exact valNeWC e.symm
theorem WAt.fails_apart (h : WAt w p b n S val vf vt D) {q : Nat} (hq : vf.ownBlock = some q) : q ∉ wF p b vt := by
  obtain ⟨cs, hh⟩ := row_block h.fails hq
  intro hm
  simp only [wF, List.mem_cons, Option.mem_toList] at hm
  rcases hm with rfl | rfl | hm
  · rw [h.box] at hh
    injection hh with hh
    injection hh with _ e _
    exact failNeW e.symm
  · obtain ⟨es, clock, hb⟩ := map_block h.map
    rw [hb] at hh
    cases hh
  · obtain ⟨cs', hb⟩ := row_block h.trace hm
    rw [hb] at hh
    injection hh with hh
    injection hh with _ e _
    exact failNeWC e.symm
theorem WAt.p_ne_b (h : WAt w p b n S val vf vt D) : p ≠ b := by
  rintro rfl
  obtain ⟨es, clock, hb⟩ := map_block h.map
  rw [h.box] at hb
  cases hb
theorem WAt.trace_apart (h : WAt w p b n S val vf vt D) {q : Nat} (hq : vt.ownBlock = some q) : q ≠ p ∧ q ≠ b := by
  obtain ⟨cs, hh⟩ := row_block h.trace hq
  constructor
  · rintro rfl
    rw [h.box] at hh
    injection hh with hh
    injection hh with _ e _
    exact wcNeW e.symm
  · rintro rfl
    obtain ⟨es, clock, hb⟩ := map_block h.map
    rw [hb] at hh
    cases hh
theorem ValsOf.keep (h : ValsOf w S.objs val) (hk : ∀ o ∈ S.objs, ∀ F, OwnVal w o.2.2 (val o.1 o.2.1) F → ∀ q ∈ F, w'.heap[q]? = w.heap[q]?) : ValsOf w' S.objs val := fun o ho => by
  obtain ⟨hg, F, hF⟩ := h o ho
  exact ⟨hg, F, hF.keep (hk o ho F hF)⟩
/-- All stays while memory only grows. -/
theorem WAt.below (h : WAt w p b n S val vf vt D) (hb : Below w.heap.size w w') : WAt w' p b n S val vf vt D := by
  have hk : ∀ {q : Nat} {o : Obj}, w.heap[q]? = some o → w'.heap[q]? = w.heap[q]? := fun hq => hb.block _ (heap_lt hq)
  refine ⟨(hk h.box).trans h.box, map_keep h.map ?_, h.rel, h.ris, h.fit, h.vals.keep ?_, row_keep h.fails ?_, row_keep h.trace ?_⟩
  · obtain ⟨es, clock, hb'⟩ := map_block h.map
    exact hk hb'
  · intro o _ F hF q hq
    exact hb.block q (hF.lt q hq)
  · intro q hq
    obtain ⟨_, hh⟩ := row_block h.fails hq
    exact hk hh
  · intro q hq
    obtain ⟨_, hh⟩ := row_block h.trace hq
    exact hk hh

end Go.Proofs.YtpbipngnoklmcaaGreatDoor
namespace Go.Proofs.YtpbipngnoklmcaaGreatDoor
open Go.RowKit
set_option maxRecDepth 100000
attribute [local go_sem] str_size str_toList str_get

theorem u8_eq (c d : UInt8) : ((c.toNat : Int) == (d.toNat : Int)) = (c == d) := by
  rw [Bool.eq_iff_iff, beq_iff_eq, beq_iff_eq]
  constructor
  · intro h; exact UInt8.toNat_inj.1 (by omega)
  · rintro rfl; rfl
theorem bytesLess_eq : ∀ a b : List UInt8, Op.bytesLess a b = ltS a b
  | [], [] => rfl
  | [], _ :: _ => rfl
  | _ :: _, [] => rfl
  | c :: l, d :: m => by
    unfold Op.bytesLess ltS
    rw [bytesLess_eq l m]
    by_cases h : c = d
    · subst h; simp
    · simp [h]
/-- A digit's byte as a text. -/
theorem str_dig {w : World} (d : Nat) (h : d < 10) (x : Int) (hx : x = 48 + (d : Int)) :
    (convert 122 9 (.slice (some ⟨w.heap.size, 0, none⟩) 1 1)).run Tryz.prog (w.alloc (.cells #[.int .u8 x] 5)) = .ok (.string ⟨[UInt8.ofNat (48 + d)].toArray⟩) (w.alloc (.cells #[.int .u8 x] 5)) := by
  have hc := run_convert_bytes_back (P := Tryz.prog) (w.alloc (.cells #[.int .u8 x] 5)) 122 9 5 ⟨w.heap.size, 0, none⟩ 1 [UInt8.ofNat (48 + d)] Tryz.underlying122 Tryz.underlying5 Tryz.underlying9 (fun j hj => by
    have hj0 : j = 0 := by simpa using hj
    subst hj0
    rw [Lib.add_plain]
    have : (UInt8.ofNat (48 + d)).toNat = 48 + d := by rw [UInt8.toNat_ofNat']; omega
    have h0 := cell_one_new w (Value.int .u8 x) 5 0 (.int .u8 x) rfl
    rw [Lib.add_plain] at h0
    rw [h0, hx]
    show some (Value.int .u8 (48 + (d : Int))) = some (Value.int .u8 ((UInt8.ofNat (48 + d)).toNat : Int))
    rw [this]
    rfl)
  simpa using hc

theorem valD_take_succ {y : List UInt8} {i : Nat} (h : i < y.length) : valD (y.take (i + 1)) = 10 * valD (y.take i) + dv (y[i]?.getD 0) := by
  rw [List.take_succ_eq_append_getElem h, valD_snoc]
  simp [h]
theorem allD_at {y : List UInt8} (h : allD y = true) {i : Nat} (hi : i < y.length) : isD (y[i]?.getD 0) = true := by
  simp only [List.getElem?_eq_getElem hi, Option.getD_some]
  exact List.all_eq_true.1 h _ (List.getElem_mem hi)
theorem allD_take {y : List UInt8} (h : allD y = true) (i : Nat) : allD (y.take i) = true := by
  unfold allD at h ⊢
  rw [List.all_eq_true] at h ⊢
  exact fun c hc => h c (List.mem_of_mem_take hc)
theorem valD_take_lt {y : List UInt8} (h : allD y = true) (i : Nat) : valD (y.take i) < 10 ^ i := by
  refine Nat.lt_of_lt_of_le (valD_lt (allD_take h i)) (Nat.pow_le_pow_right (by decide) ?_)
  rw [List.length_take]
  omega
theorem allD_not {y : List UInt8} {i : Nat} (hi : i < y.length) (h : isD (y[i]?.getD 0) = false) : allD y = false := by
  cases ha : allD y with
  | false => rfl
  | true => rw [allD_at ha hi] at h; cases h
theorem allD_all {y : List UInt8} (h : ∀ i, i < y.length → isD (y[i]?.getD 0) = true) : allD y = true := by
  unfold allD
  rw [List.all_eq_true]
  intro c hc
  obtain ⟨i, hi, rfl⟩ := List.getElem_of_mem hc
  have := h i hi
  simpa [hi] using this


end Go.Proofs.YtpbipngnoklmcaaGreatDoor
namespace Go.Proofs.YtpbipngnoklmcaaGreatDoor
open Go.RowKit
set_option maxRecDepth 100000
attribute [local go_sem] str_size str_toList str_get

set_option maxHeartbeats 4000000 in
theorem good_ref (a : List UInt8) (hl : a.length ≤ 9223372036854775807) (w : World) : Calls Tryz.prog 67 #[str a] w fun e w' => e = .returned (.bool (goodS a)) ∧ w' = w := by
  obtain ⟨d, hd⟩ : ∃ d, d = sizeS a := ⟨_, rfl⟩
  have HD := Lib.hid hd
  have hg : goodS a = (!d.isEmpty && decide (d.length ≤ 100) && (!(d.head? == some 48) || a == [48]) && allD d) := by rw [hd]; rfl
  obtain ⟨G, hG⟩ : ∃ G, G = goodS a := ⟨_, rfl⟩
  rw [← hG] at hg ⊢
  have HG := Lib.hid hg
  clear hg hG
  have hda : d.length ≤ a.length := by
    rw [hd]
    unfold sizeS
    split
    · rw [List.length_tail]; omega
    · exact Nat.le_refl _
  clear hd
  cases a with
  | nil =>
    have hF : G = false := by rw [HG.out, HD.out]; rfl
    have HF := Lib.hid hF
    clear hF
    go_enter Tryz.func67, Tryz.ntmps67
    go_wp2
    go_ret
    exact ⟨by rw [HF.out]; rfl, rfl⟩
  | cons c l =>
    by_cases hc : c = 45
    · subst hc
      obtain rfl : d = l := HD.out
      have hex : (ByteArray.mk (45 :: d).toArray).extract 1 (d.length + 1) = ⟨d.toArray⟩ := by rw [ByteArray.extract_mk]; simp
      go_enter Tryz.func67, Tryz.ntmps67
      go_upto_region 4 with fail
      cases d with
      | nil =>
        have hF : G = false := by rw [HG.out]; rfl
        have HF := Lib.hid hF
        clear hF
        go_wp2
        go_ret
        exact ⟨by rw [HF.out]; rfl, rfl⟩
      | cons c0 d' =>
        by_cases h1 : 100 < (c0 :: d').length
        · have hF : G = false := by rw [HG.out, decide_eq_false (show ¬ (c0 :: d').length ≤ 100 by omega)]; simp
          have HF := Lib.hid hF
          have h1' : (99 : Int) < (d'.length : Int) := by simp at h1; omega
          have h1'' : (100 : Int) < (d'.length : Int) + 1 := by omega
          clear hF h1
          go_wp2
          go_ret
          exact ⟨by rw [HF.out]; rfl, rfl⟩
        · have h1' : ¬ (99 : Int) < (d'.length : Int) := by simp at h1; omega
          have h1'' : ¬ (100 : Int) < (d'.length : Int) + 1 := by omega
          have hle : (c0 :: d').length ≤ 100 := by omega
          have h1n : d'.length < 100 := by omega
          clear h1
          by_cases h2 : c0 = 48 ∧ ¬ (45 :: c0 :: d') = [48]
          · obtain ⟨h20, h2⟩ := h2
            have hc48 : ((c0.toNat : Int) == 48) = true := by rw [h20]; rfl
            have hF : G = false := by
              rw [HG.out]
              have h6 : ((45 :: c0 :: d') == [48]) = false := by simp
              rw [h6, h20]
              simp
            have HF := Lib.hid hF
            have h3 : (0 : Int) < (d'.length : Int) ∨ (1 : Int) < ((45 :: c0 :: d').length : Int) := by
              right; simp only [List.length_cons]; omega
            clear hF h2 h20
            by_cases h4 : (0 : Int) < (d'.length : Int)
            · have h4n : 0 < d'.length := by omega
              clear h3
              go_wp2
              go_ret
              exact ⟨by rw [HF.out]; rfl, rfl⟩
            · have h5 : (1 : Int) < ((45 :: c0 :: d').length : Int) := by omega
              have h5n : 1 < (45 :: c0 :: d').length := by omega
              have h4n : ¬ 0 < d'.length := by omega
              clear h3
              go_wp2
              go_ret
              exact ⟨by rw [HF.out]; rfl, rfl⟩
          · have hG2 : G = allD (c0 :: d') := by
              rw [HG.out, decide_eq_true hle]
              by_cases h5 : c0 = 48
              · have h6 : (45 :: c0 :: d') = [48] := Classical.byContradiction fun h => h2 ⟨h5, h⟩
                simp [h6]
              · simp [h5]
            have HG2 := Lib.hid hG2
            clear hG2
            by_cases h5 : c0 = 48
            · have h6 : (45 :: c0 :: d') = [48] := Classical.byContradiction fun h => h2 ⟨h5, h⟩
              simp at h6
            · have hcn : ((c0.toNat : Int) == 48) = false := (u8_eq c0 48).trans (by simpa using h5)
              clear h2 h5
              go_upto_region 6 with fail
              obtain ⟨D, hD⟩ : ∃ D, D = c0 :: d' := ⟨_, rfl⟩
              rw [← hD] at HG2 hle ⊢
              have HDD := Lib.hid hD
              clear hcn hD
              go_wp2
              go_loopg [4] D.length (fun g v4 wr => ∃ i : Nat, i + g = D.length ∧ v4 = .int .i64 i ∧ (∀ j, j < i → isD (D[j]?.getD 0) = true) ∧ wr = w)
              case atStart => exact ⟨0, by omega, rfl, fun j hj => by omega, rfl⟩
              case round =>
                obtain ⟨i, hig, rfl, hall, rfl⟩ := hrel
                cases gk with
                | zero =>
                  have hie : ¬ (i : Int) < (D.length : Int) := by omega
                  have hF : G = true := by rw [HG2.out]; exact allD_all fun j hj => hall j (by omega)
                  have HF := Lib.hid hF
                  clear hF hall
                  go_wp2
                  go_ret
                  exact ⟨by rw [HF.out]; rfl, rfl⟩
                | succ g =>
                  have hie : (i : Int) < (D.length : Int) := by omega
                  have HALL := Lib.hid hall
                  clear hall
                  by_cases hd0 : isD (D[i]?.getD 0) = true
                  · have hnx : ∀ j, j < i + 1 → isD (D[j]?.getD 0) = true := fun j hj => by
                      by_cases e : j = i
                      · rw [e]; exact hd0
                      · exact HALL.out j (by omega)
                    have HNX := Lib.hid hnx
                    obtain ⟨C, hC⟩ : ∃ C, D[i]?.getD 0 = C := ⟨_, rfl⟩
                    rw [hC, isD_iff] at hd0
                    have hc1 : ¬ (C.toNat : Int) < 48 := by omega
                    have hc2 : ¬ (57 : Int) < (C.toNat : Int) := by omega
                    have hc3 := hd0.1
                    have hc4 := hd0.2
                    clear hnx hd0
                    go_wp2
                    go_roundg g
                    case measure => omega
                    case rel => exact ⟨i + 1, by omega, by go_num, HNX.out, rfl⟩
                  · have hF : G = false := by rw [HG2.out]; exact allD_not (i := i) (by omega) (by simpa using hd0)
                    have HF := Lib.hid hF
                    obtain ⟨C, hC⟩ : ∃ C, D[i]?.getD 0 = C := ⟨_, rfl⟩
                    rw [hC, isD_iff] at hd0
                    by_cases hc1 : C.toNat < 48
                    · have hc1' : (C.toNat : Int) < 48 := by omega
                      clear hd0 hF
                      go_wp2
                      go_ret
                      exact ⟨by rw [HF.out]; rfl, rfl⟩
                    · have hc1' : ¬ (C.toNat : Int) < 48 := by omega
                      have hc2 : 57 < C.toNat := by omega
                      have hc2' : (57 : Int) < (C.toNat : Int) := by omega
                      clear hd0 hF
                      go_wp2
                      go_ret
                      exact ⟨by rw [HF.out]; rfl, rfl⟩
    · have hcn0 : ((c.toNat : Int) == 45) = false := (u8_eq c 45).trans (by simpa using hc)
      have hdd : d = c :: l := by rw [HD.out]; unfold sizeS; rw [if_neg (by simpa using hc)]
      clear HD hc
      go_enter Tryz.func67, Tryz.ntmps67
      go_upto_region 4 with fail
      clear hcn0
      rw [← hdd] at HG hl ⊢
      clear hdd
      cases d with
      | nil =>
        have hF : G = false := by rw [HG.out]; rfl
        have HF := Lib.hid hF
        clear hF
        go_wp2
        go_ret
        exact ⟨by rw [HF.out]; rfl, rfl⟩
      | cons c0 d' =>
        by_cases h1 : 100 < (c0 :: d').length
        · have hF : G = false := by rw [HG.out, decide_eq_false (show ¬ (c0 :: d').length ≤ 100 by omega)]; simp
          have HF := Lib.hid hF
          have h1' : (99 : Int) < (d'.length : Int) := by simp at h1; omega
          have h1'' : (100 : Int) < (d'.length : Int) + 1 := by omega
          clear hF h1
          go_wp2
          go_ret
          exact ⟨by rw [HF.out]; rfl, rfl⟩
        · have h1' : ¬ (99 : Int) < (d'.length : Int) := by simp at h1; omega
          have h1'' : ¬ (100 : Int) < (d'.length : Int) + 1 := by omega
          have hle : (c0 :: d').length ≤ 100 := by omega
          have h1n : d'.length < 100 := by omega
          clear h1
          by_cases h2 : c0 = 48 ∧ ¬ (c0 :: d') = [48]
          · obtain ⟨h20, h2⟩ := h2
            have hc48 : ((c0.toNat : Int) == 48) = true := by rw [h20]; rfl
            have hF : G = false := by
              rw [HG.out]
              have h6 : ((c0 :: d') == [48]) = false := by simpa using h2
              rw [h6, h20]
              simp
            have HF := Lib.hid hF
            have h3 : (0 : Int) < (d'.length : Int) ∨ (1 : Int) < ((c0 :: d').length : Int) := by
              left; apply Classical.byContradiction; intro h; apply h2; have : d' = [] := List.eq_nil_of_length_eq_zero (by omega); rw [this, h20]
            clear hF h2 h20
            by_cases h4 : (0 : Int) < (d'.length : Int)
            · have h4n : 0 < d'.length := by omega
              clear h3
              go_wp2
              go_ret
              exact ⟨by rw [HF.out]; rfl, rfl⟩
            · have h5 : (1 : Int) < ((c0 :: d').length : Int) := by omega
              have h5n : 1 < (c0 :: d').length := by omega
              have h4n : ¬ 0 < d'.length := by omega
              clear h3
              exfalso; simp only [List.length_cons] at h5n; omega
          · have hG2 : G = allD (c0 :: d') := by
              rw [HG.out, decide_eq_true hle]
              by_cases h5 : c0 = 48
              · have h6 : (c0 :: d') = [48] := Classical.byContradiction fun h => h2 ⟨h5, h⟩
                simp [h6]
              · simp [h5]
            have HG2 := Lib.hid hG2
            clear hG2
            by_cases h5 : c0 = 48
            · have h6 : (c0 :: d') = [48] := Classical.byContradiction fun h => h2 ⟨h5, h⟩
              have h7 : d' = [] := by simp at h6; exact h6.2
              have h4n : ¬ 0 < d'.length := by rw [h7]; simp
              have h4 : ¬ (0 : Int) < (d'.length : Int) := by omega
              have h4z : d'.length = 0 := by omega
              have hc48 : ((c0.toNat : Int) == 48) = true := by rw [h5]; rfl
              clear h2 h5 h6 h7
              go_upto_region 6 with fail
              obtain ⟨D, hD⟩ : ∃ D, D = c0 :: d' := ⟨_, rfl⟩
              rw [← hD] at HG2 hle ⊢
              have HDD := Lib.hid hD
              have HZ := Lib.hid h4z
              clear hc48 hD h4z
              go_wp2
              go_loopg [4] D.length (fun g v4 wr => ∃ i : Nat, i + g = D.length ∧ v4 = .int .i64 i ∧ (∀ j, j < i → isD (D[j]?.getD 0) = true) ∧ wr = w)
              case atStart => exact ⟨0, by omega, rfl, fun j hj => by omega, rfl⟩
              case round =>
                obtain ⟨i, hig, rfl, hall, rfl⟩ := hrel
                cases gk with
                | zero =>
                  have hie : ¬ (i : Int) < (D.length : Int) := by omega
                  have hF : G = true := by rw [HG2.out]; exact allD_all fun j hj => hall j (by omega)
                  have HF := Lib.hid hF
                  clear hF hall
                  go_wp2
                  go_ret
                  exact ⟨by rw [HF.out]; rfl, rfl⟩
                | succ g =>
                  have hie : (i : Int) < (D.length : Int) := by omega
                  have HALL := Lib.hid hall
                  clear hall
                  by_cases hd0 : isD (D[i]?.getD 0) = true
                  · have hnx : ∀ j, j < i + 1 → isD (D[j]?.getD 0) = true := fun j hj => by
                      by_cases e : j = i
                      · rw [e]; exact hd0
                      · exact HALL.out j (by omega)
                    have HNX := Lib.hid hnx
                    obtain ⟨C, hC⟩ : ∃ C, D[i]?.getD 0 = C := ⟨_, rfl⟩
                    rw [hC, isD_iff] at hd0
                    have hc1 : ¬ (C.toNat : Int) < 48 := by omega
                    have hc2 : ¬ (57 : Int) < (C.toNat : Int) := by omega
                    have hc3 := hd0.1
                    have hc4 := hd0.2
                    clear hnx hd0
                    go_wp2
                    go_roundg g
                    case measure => omega
                    case rel => exact ⟨i + 1, by omega, by go_num, HNX.out, rfl⟩
                  · have hF : G = false := by rw [HG2.out]; exact allD_not (i := i) (by omega) (by simpa using hd0)
                    have HF := Lib.hid hF
                    obtain ⟨C, hC⟩ : ∃ C, D[i]?.getD 0 = C := ⟨_, rfl⟩
                    rw [hC, isD_iff] at hd0
                    by_cases hc1 : C.toNat < 48
                    · have hc1' : (C.toNat : Int) < 48 := by omega
                      clear hd0 hF
                      go_wp2
                      go_ret
                      exact ⟨by rw [HF.out]; rfl, rfl⟩
                    · have hc1' : ¬ (C.toNat : Int) < 48 := by omega
                      have hc2 : 57 < C.toNat := by omega
                      have hc2' : (57 : Int) < (C.toNat : Int) := by omega
                      clear hd0 hF
                      go_wp2
                      go_ret
                      exact ⟨by rw [HF.out]; rfl, rfl⟩
            · have hcn : ((c0.toNat : Int) == 48) = false := (u8_eq c0 48).trans (by simpa using h5)
              clear h2 h5
              go_upto_region 6 with fail
              obtain ⟨D, hD⟩ : ∃ D, D = c0 :: d' := ⟨_, rfl⟩
              rw [← hD] at HG2 hle ⊢
              have HDD := Lib.hid hD
              clear hcn hD
              go_wp2
              go_loopg [4] D.length (fun g v4 wr => ∃ i : Nat, i + g = D.length ∧ v4 = .int .i64 i ∧ (∀ j, j < i → isD (D[j]?.getD 0) = true) ∧ wr = w)
              case atStart => exact ⟨0, by omega, rfl, fun j hj => by omega, rfl⟩
              case round =>
                obtain ⟨i, hig, rfl, hall, rfl⟩ := hrel
                cases gk with
                | zero =>
                  have hie : ¬ (i : Int) < (D.length : Int) := by omega
                  have hF : G = true := by rw [HG2.out]; exact allD_all fun j hj => hall j (by omega)
                  have HF := Lib.hid hF
                  clear hF hall
                  go_wp2
                  go_ret
                  exact ⟨by rw [HF.out]; rfl, rfl⟩
                | succ g =>
                  have hie : (i : Int) < (D.length : Int) := by omega
                  have HALL := Lib.hid hall
                  clear hall
                  by_cases hd0 : isD (D[i]?.getD 0) = true
                  · have hnx : ∀ j, j < i + 1 → isD (D[j]?.getD 0) = true := fun j hj => by
                      by_cases e : j = i
                      · rw [e]; exact hd0
                      · exact HALL.out j (by omega)
                    have HNX := Lib.hid hnx
                    obtain ⟨C, hC⟩ : ∃ C, D[i]?.getD 0 = C := ⟨_, rfl⟩
                    rw [hC, isD_iff] at hd0
                    have hc1 : ¬ (C.toNat : Int) < 48 := by omega
                    have hc2 : ¬ (57 : Int) < (C.toNat : Int) := by omega
                    have hc3 := hd0.1
                    have hc4 := hd0.2
                    clear hnx hd0
                    go_wp2
                    go_roundg g
                    case measure => omega
                    case rel => exact ⟨i + 1, by omega, by go_num, HNX.out, rfl⟩
                  · have hF : G = false := by rw [HG2.out]; exact allD_not (i := i) (by omega) (by simpa using hd0)
                    have HF := Lib.hid hF
                    obtain ⟨C, hC⟩ : ∃ C, D[i]?.getD 0 = C := ⟨_, rfl⟩
                    rw [hC, isD_iff] at hd0
                    by_cases hc1 : C.toNat < 48
                    · have hc1' : (C.toNat : Int) < 48 := by omega
                      clear hd0 hF
                      go_wp2
                      go_ret
                      exact ⟨by rw [HF.out]; rfl, rfl⟩
                    · have hc1' : ¬ (C.toNat : Int) < 48 := by omega
                      have hc2 : 57 < C.toNat := by omega
                      have hc2' : (57 : Int) < (C.toNat : Int) := by omega
                      clear hd0 hF
                      go_wp2
                      go_ret
                      exact ⟨by rw [HF.out]; rfl, rfl⟩

end Go.Proofs.YtpbipngnoklmcaaGreatDoor
