/- Rows of objects that come in; slices.ContainsFunc over them; what New asks of each. Plain: the document's rows of objects, each with the addresses of its parts. No walk. What a range over the world's map has collected. No walk. Plain: rows of objects of the call's own, with their values; what Objects leaves. No walk. -/
import Derived.Test.YtpbipngnoklmcaaGreatDoorMWldE
import Derived.Test.YtpbipngnoklmcaaGreatDoorMValR
import Derived.Test.YtpbipngnoklmcaaGreatDoorMWldM
import Derived.Maps.RangeWalk
import Derived.Test.YtpbipngnoklmcaaGreatDoorMStepA
namespace Go.Proofs.YtpbipngnoklmcaaGreatDoor
open Go.RowKit
set_option maxRecDepth 100000
attribute [local go_sem] str_size str_toList str_get

/-- v is a slice (perhaps nil) of these objects. -/
def ObjsAt (w : World) (v : Value) (os : List O3) : Prop :=
  ∃ (ao : Option Addr) (cap : Nat), v = .slice ao os.length cap ∧ (os.length ≤ cap ∧ cap ≤ 9223372036854775807 ∧ (ao = none → cap = 0)) ∧ (∀ o ∈ os, fitS o.1 ∧ fitS o.2.1) ∧
    (os ≠ [] → ∃ b off, ao = some ⟨b, off, none⟩ ∧ b < w.heap.size ∧ ∀ (i : Nat) (t j : S8) (x : VT), os[i]? = some (t, j, x) → ∃ ai ci ak ck,
      ValAt w x (.agg #[.int .i64 x.kind, .bool x.flag, str x.text, .slice ai x.items.length ci, .slice ak x.keys.length ck]) ∧
      w.cell? ⟨b, off + i * 7, none⟩ = some (str t) ∧ w.cell? ⟨b, off + i * 7 + 1, none⟩ = some (str j) ∧ w.cell? ⟨b, off + i * 7 + 2, none⟩ = some (.int .i64 x.kind) ∧ w.cell? ⟨b, off + i * 7 + 3, none⟩ = some (.bool x.flag) ∧
      w.cell? ⟨b, off + i * 7 + 4, none⟩ = some (str x.text) ∧ w.cell? ⟨b, off + i * 7 + 5, none⟩ = some (.slice ai x.items.length ci) ∧ w.cell? ⟨b, off + i * 7 + 6, none⟩ = some (.slice ak x.keys.length ck))
theorem ObjsAt.mono {w w' : World} {v : Value} {os : List O3} (h : ObjsAt w v os) (hb : Below w.heap.size w w') : ObjsAt w' v os := by
  obtain ⟨ao, cap, hv, hm, hf, hc⟩ := h
  refine ⟨ao, cap, hv, hm, hf, fun hne => ?_⟩
  obtain ⟨b, off, ha, hlt, hk⟩ := hc hne
  refine ⟨b, off, ha, Nat.lt_of_lt_of_le hlt hb.size, fun i t j x hi => ?_⟩
  obtain ⟨ai, ci, ak, ck, hx, h0, h1, h2, h3, h4, h5, h6⟩ := hk i t j x hi
  have k : ∀ {o : Nat} {u : Value}, w.cell? ⟨b, o, none⟩ = some u → w'.cell? ⟨b, o, none⟩ = some u := fun {o u} hu => (hb.cell (p := ⟨b, o, none⟩) hlt).trans hu
  exact ⟨ai, ci, ak, ck, hx.mono hb, k h0, k h1, k h2, k h3, k h4, k h5, k h6⟩
theorem ObjsAt.nil (w : World) : ObjsAt w (.slice none 0 0) [] := ⟨none, 0, rfl, by simp, by simp, fun h => absurd rfl h⟩

def objV (t j : S8) (x : VT) (ai : Option Addr) (ci : Nat) (ak : Option Addr) (ck : Nat) : Value := .agg #[str t, str j, .int .i64 x.kind, .bool x.flag, str x.text, .slice ai x.items.length ci, .slice ak x.keys.length ck]
set_option maxHeartbeats 1600000 in
/-- What New asks of an object. -/
theorem ask_obj (t j : S8) (x : VT) (ai : Option Addr) (ci : Nat) (ak : Option Addr) (ck : Nat) (w : World) (h : ValAt w x (.agg #[.int .i64 x.kind, .bool x.flag, str x.text, .slice ai x.items.length ci, .slice ak x.keys.length ck])) :
    Calls Tryz.prog 28 #[objV t j x ai ci ak ck] w fun e w' => e = .returned (.bool (!goodA x)) ∧ Below w.heap.size w w' := by
  have GD := fun o => good_w x _ (w.alloc o) (h.mono ((Below.refl _ w).alloc (Nat.le_refl _) o))
  generalize goodA x = g at GD ⊢
  have HG := Lib.hid GD
  clear GD h
  unfold objV
  go_enter Tryz.func28, Tryz.ntmps28
  go_wp2_with fail
  refine (HG.out _).mono ?_
  rintro e w1 ⟨rfl, hb⟩
  have hbw := ((Below.refl _ w).alloc (Nat.le_refl _) _).trans (hb.mono (by simp))
  clear hb HG
  go_wp2
  go_ret
  exact ⟨rfl, hbw⟩

set_option maxHeartbeats 2000000 in
theorem index_objs (os : List O3) (v : Value) (w : World) (h : ObjsAt w v os) :
    Calls Tryz.prog 58 #[v, .func (.func 28) #[] #[]] w fun e w' =>
      ∃ z : Int, e = .returned (.int .i64 z) ∧ decide (0 ≤ z) = !(os.all fun o => goodA o.2.2) ∧ Below w.heap.size w w' := by
  obtain ⟨ao, cap, rfl, hm, hf, hc⟩ := h
  have HC := Lib.hid hc
  have hm1 : os.length ≤ 9223372036854775807 := by omega
  clear hc hf
  go_enter Tryz.func58, Tryz.ntmps58
  go_wp2
  go_loopg [5, 8] os.length (fun gg _ s8 wr => ∃ i : Nat, i + gg = os.length ∧ s8 = .int .i64 i ∧ Hid ((os.take i).all (fun o => goodA o.2.2) = true) ∧ Below w.heap.size w wr)
  case atStart => exact ⟨0, by omega, rfl, rfl, Below.refl _ _⟩
  case round =>
    obtain ⟨i, hig, rfl, HA, hbr⟩ := hrel
    cases gk with
    | zero =>
      obtain rfl : i = os.length := by omega
      have := HA.out
      rw [List.take_length] at this
      have HF := Lib.hid this
      clear this
      go_wp2
      go_ret
      exact ⟨-1, rfl, by rw [HF.out]; rfl, hbr⟩
    | succ gg =>
      have hin : i < os.length := by omega
      have hie : (i : Int) < (os.length : Int) := by omega
      obtain ⟨b, off, rfl, hlt, hk⟩ := HC.out (by rintro rfl; simp at hin)
      obtain ⟨t, j, x, hox⟩ : ∃ t j x, os[i] = (t, j, x) := ⟨_, _, _, rfl⟩
      obtain ⟨ai, ci, ak, ck, hx, k0, k1, k2, k3, k4, k5, k6⟩ := hk i t j x (by rw [List.getElem?_eq_getElem hin, hox])
      have q : ∀ {o : Nat} {u : Value}, w.cell? ⟨b, o, none⟩ = some u → wr.cell? ⟨b, o, none⟩ = some u := fun {o u} hu => (hbr.cell (p := ⟨b, o, none⟩) hlt).trans hu
      have k0 := q k0
      have k1 := q k1
      have k2 := q k2
      have k3 := q k3
      have k4 := q k4
      have k5 := q k5
      have k6 := q k6
      have AO := ask_obj t j x ai ci ak ck wr (hx.mono hbr)
      unfold objV at AO
      have HT : Hid (goodA x = true → (os.take (i + 1)).all (fun o => goodA o.2.2) = true) := fun hg => by
        rw [List.take_succ_eq_append_getElem hin, List.all_append, HA.out, hox]
        simp [hg]
      have HF : Hid (goodA x = false → os.all (fun o => goodA o.2.2) = false) := fun hg => by
        rw [List.all_eq_false]
        exact ⟨(t, j, x), by rw [← hox]; exact List.getElem_mem hin, by simp [hg]⟩
      generalize goodA x = g at AO HT HF
      clear q hk hox hx
      go_wp2_with fail
      refine AO.mono ?_
      rintro e w1 ⟨rfl, hb1⟩
      have hb2 := hbr.trans (hb1.mono hbr.size)
      cases g with
      | true =>
        have HT' := Lib.hid (HT.out rfl)
        clear HT HF
        go_wp2
        go_roundg gg
        case measure => omega
        case rel => exact ⟨i + 1, by omega, by go_num, HT', hb2⟩
      | false =>
        have HF' := Lib.hid (HF.out rfl)
        clear HT HF
        go_wp2
        go_ret
        exact ⟨i, rfl, by rw [HF'.out]; simp, hb2⟩

set_option maxHeartbeats 1600000 in
theorem contains_objs (os : List O3) (v : Value) (w : World) (h : ObjsAt w v os) :
    Calls Tryz.prog 27 #[v, .func (.func 28) #[] #[]] w fun e w' =>
      e = .returned (.bool (!(os.all fun o => goodA o.2.2))) ∧ Below w.heap.size w w' := by
  have C := index_objs os v w h
  obtain ⟨ao, cap, rfl, _⟩ := h
  generalize (!(os.all fun o => goodA o.2.2)) = B at C ⊢
  generalize os.length = m at C ⊢
  go_enter Tryz.func27, Tryz.ntmps27
  go_wp2_with fail
  refine C.mono ?_
  rintro e w1 ⟨z, rfl, hz, hb⟩
  have HZ := Lib.hid hz
  clear hz C
  go_wp2
  go_ret
  exact ⟨by rw [← HZ.out]; rfl, hb⟩

end Go.Proofs.YtpbipngnoklmcaaGreatDoor
namespace Go.Proofs.YtpbipngnoklmcaaGreatDoor
open Go.RowKit
set_option maxRecDepth 100000

/-- An object with the addresses and capacities of its items and its keys. -/
abbrev R3 := O3 × (Option Addr × Nat × Option Addr × Nat)
def rV (r : R3) : Value := .agg #[.int .i64 r.1.2.2.kind, .bool r.1.2.2.flag, str r.1.2.2.text, .slice r.2.1 r.1.2.2.items.length r.2.2.1, .slice r.2.2.2.1 r.1.2.2.keys.length r.2.2.2.2]
def rcells (r : R3) : List Value := [str r.1.1, str r.1.2.1, .int .i64 r.1.2.2.kind, .bool r.1.2.2.flag, str r.1.2.2.text, .slice r.2.1 r.1.2.2.items.length r.2.2.1, .slice r.2.2.2.1 r.1.2.2.keys.length r.2.2.2.2]
def rowC (rs : List R3) : List Value := rs.flatMap rcells
def outR (rs : List R3) (t i : S8) : List R3 := rs.filter fun r => !isO t i r.1
def insR (r : R3) : List R3 → List R3
  | [] => [r]
  | x :: l => if ltO r.1 x.1 = true then r :: x :: l else x :: insR r l
def withR (rs : List R3) (r : R3) : List R3 := insR r (outR rs r.1.1 r.1.2.1)
def osR (rs : List R3) : List O3 := rs.map fun r => r.1

theorem outR_os (rs : List R3) (t i : S8) : osR (outR rs t i) = outO (osR rs) t i := by
  unfold osR outR outO
  rw [List.filter_map]
  rfl
theorem insR_os (r : R3) : ∀ (l : List R3), osR (insR r l) = insO r.1 (osR l)
  | [] => rfl
  | x :: l => by
    show osR (if ltO r.1 x.1 = true then r :: x :: l else x :: insR r l) = if ltO r.1 x.1 = true then r.1 :: x.1 :: osR l else x.1 :: insO r.1 (osR l)
    split
    · rfl
    · rw [← insR_os r l]
      rfl
theorem withR_os (rs : List R3) (r : R3) : osR (withR rs r) = withO (osR rs) r.1 := by
  unfold withR withO
  rw [insR_os, outR_os]
theorem mem_insR {r x : R3} : ∀ {l : List R3}, x ∈ insR r l ↔ x = r ∨ x ∈ l
  | [] => by simp [insR]
  | y :: l => by
    rw [insR]
    split
    · simp
    · rw [List.mem_cons, mem_insR (l := l), List.mem_cons]
      constructor
      · rintro (h | h | h)
        · exact .inr (.inl h)
        · exact .inl h
        · exact .inr (.inr h)
      · rintro (h | h | h)
        · exact .inr (.inl h)
        · exact .inl h
        · exact .inr (.inr h)
theorem mem_outR {rs : List R3} {t i : S8} {x : R3} (h : x ∈ outR rs t i) : x ∈ rs := (List.mem_filter.1 h).1
theorem mem_withR {rs : List R3} {r x : R3} (h : x ∈ withR rs r) : x = r ∨ x ∈ rs := (mem_insR.1 h).imp id mem_outR
theorem len_outR (rs : List R3) (t i : S8) : (outR rs t i).length ≤ rs.length := List.length_filter_le _ _
theorem len_insR (r : R3) : ∀ (l : List R3), (insR r l).length = l.length + 1
  | [] => rfl
  | x :: l => by
    rw [insR]
    split
    · rfl
    · rw [List.length_cons, len_insR r l, List.length_cons]
theorem len_withR (rs : List R3) (r : R3) : (withR rs r).length ≤ rs.length + 1 := by
  unfold withR
  rw [len_insR]
  have := len_outR rs r.1.1 r.1.2.1
  omega
theorem osR_len (rs : List R3) : (osR rs).length = rs.length := by unfold osR; rw [List.length_map]
theorem osR_get (rs : List R3) (i : Nat) : (osR rs)[i]? = rs[i]?.map fun r => r.1 := by unfold osR; rw [List.getElem?_map]
theorem rowC_len (rs : List R3) : (rowC rs).length = rs.length * 7 := by
  unfold rowC
  induction rs with
  | nil => rfl
  | cons r l ih => rw [List.flatMap_cons, List.length_append, ih, List.length_cons]; simp only [rcells, List.length_cons, List.length_nil]; omega
theorem rowC_one (rs : List R3) : ∀ u ∈ rowC rs, u.oneCell' = true := by
  intro u hu
  unfold rowC at hu
  obtain ⟨r, _, hu⟩ := List.mem_flatMap.1 hu
  simp only [rcells, List.mem_cons, List.not_mem_nil, or_false] at hu
  rcases hu with rfl | rfl | rfl | rfl | rfl | rfl | rfl <;> rfl
theorem rowC_append (a b : List R3) : rowC (a ++ b) = rowC a ++ rowC b := by simp [rowC]
theorem rowC_snoc (a : List R3) (r : R3) : rowC (a ++ [r]) = rowC a ++ rcells r := by simp [rowC]
theorem rowC_get : ∀ (rs : List R3) (i : Nat) (r : R3) (j : Nat), rs[i]? = some r → j < 7 → (rowC rs)[i * 7 + j]? = (rcells r)[j]?
  | [], _, _, _, h, _ => by cases h
  | x :: rs, 0, r, j, h, hj => by
    cases h
    show (rcells x ++ rowC rs)[0 * 7 + j]? = _
    rw [Nat.zero_mul, Nat.zero_add, List.getElem?_append_left (by simp only [rcells, List.length_cons, List.length_nil]; omega)]
  | x :: rs, i + 1, r, j, h, hj => by
    have ih := rowC_get rs i r j h hj
    show (rcells x ++ rowC rs)[(i + 1) * 7 + j]? = _
    rw [List.getElem?_append_right (by simp only [rcells, List.length_cons, List.length_nil]; omega), ← ih]
    congr 1
    simp only [rcells, List.length_cons, List.length_nil]
    omega
/-- What a cell of a row of objects holds. -/
theorem CellsAt.obj {w : World} {ao : Option Addr} {m cap : Nat} {rs : List R3} (h : CellsAt w (.slice ao m cap) rs.length (rowC rs)) {i : Nat} {r : R3} (hi : rs[i]? = some r) :
    ∃ b off, ao = some ⟨b, off, none⟩ ∧ b < w.heap.size ∧ w.cell? ⟨b, off + i * 7, none⟩ = some (str r.1.1) ∧ w.cell? ⟨b, off + i * 7 + 1, none⟩ = some (str r.1.2.1) ∧ w.cell? ⟨b, off + i * 7 + 2, none⟩ = some (.int .i64 r.1.2.2.kind) ∧ w.cell? ⟨b, off + i * 7 + 3, none⟩ = some (.bool r.1.2.2.flag) ∧
      w.cell? ⟨b, off + i * 7 + 4, none⟩ = some (str r.1.2.2.text) ∧ w.cell? ⟨b, off + i * 7 + 5, none⟩ = some (.slice r.2.1 r.1.2.2.items.length r.2.2.1) ∧ w.cell? ⟨b, off + i * 7 + 6, none⟩ = some (.slice r.2.2.2.1 r.1.2.2.keys.length r.2.2.2.2) := by
  obtain ⟨_, _, hv, _, hk⟩ := h
  cases hv
  have hil : i < rs.length := (List.getElem?_eq_some_iff.1 hi).1
  obtain ⟨b, off, rfl, hl, hk⟩ := hk (by omega)
  have q : ∀ j u, j < 7 → (rcells r)[j]? = some u → w.cell? ⟨b, off + i * 7 + j, none⟩ = some u := fun j u hj hu => by
    have := hk (i * 7 + j) u (by rw [rowC_get rs i r j hi hj]; exact hu)
    rw [Addr.add_lit] at this
    rw [Nat.add_assoc]
    exact this
  exact ⟨b, off, rfl, hl, q 0 _ (by omega) rfl, q 1 _ (by omega) rfl, q 2 _ (by omega) rfl, q 3 _ (by omega) rfl, q 4 _ (by omega) rfl, q 5 _ (by omega) rfl, q 6 _ (by omega) rfl⟩

/-- A row of objects that reads as these: each with its addresses. -/
theorem ObjsAt.rows {w : World} {v : Value} {os : List O3} (h : ObjsAt w v os) : ∃ rs, osR rs = os ∧ CellsAt w v rs.length (rowC rs) ∧ ∀ r ∈ rs, ValAt w r.1.2.2 (rV r) := by
  obtain ⟨ao, cap, rfl, hm, _, hk⟩ := h
  by_cases hne : os = []
  · subst hne
    refine ⟨[], rfl, ⟨ao, cap, rfl, hm, fun h => absurd rfl h⟩, fun r hr => by cases hr⟩
  · obtain ⟨b, off, rfl, hl, hk⟩ := hk hne
    have each : ∀ i, i < os.length → ∃ r : R3, os[i]? = some r.1 ∧ ValAt w r.1.2.2 (rV r) ∧ ∀ j u, (rcells r)[j]? = some u → w.cell? ⟨b, off + i * 7 + j, none⟩ = some u := fun i hi => by
      obtain ⟨t, j, x, hx⟩ : ∃ t j x, os[i] = (t, j, x) := ⟨_, _, _, rfl⟩
      have hg : os[i]? = some (t, j, x) := by rw [List.getElem?_eq_getElem hi, hx]
      obtain ⟨ai, ci, ak, ck, h0, h1, h2, h3, h4, h5, h6, h7⟩ := hk i t j x hg
      refine ⟨((t, j, x), (ai, ci, ak, ck)), hg, h0, fun q u hu => ?_⟩
      match q, hu with
      | 0, hu => cases hu; exact h1
      | 1, hu => cases hu; exact h2
      | 2, hu => cases hu; exact h3
      | 3, hu => cases hu; exact h4
      | 4, hu => cases hu; exact h5
      | 5, hu => cases hu; exact h6
      | 6, hu => cases hu; exact h7
      | q + 7, hu => simp [rcells] at hu
    obtain ⟨f, hf⟩ := Deep.choose_lt each
    have hos : osR ((List.range os.length).map f) = os := by
      refine List.ext_getElem? fun i => ?_
      rw [osR_get]
      by_cases hi : i < os.length
      · rw [(hf i hi).1]
        simp [hi]
      · simp [Nat.le_of_not_lt hi]
    have hlen : ((List.range os.length).map f).length = os.length := by simp
    refine ⟨(List.range os.length).map f, hos, ⟨_, cap, by rw [hlen], by rw [hlen]; exact hm, fun _ => ⟨b, off, rfl, hl, fun j u hu => ?_⟩⟩, fun r hr => ?_⟩
    · have hj : j < os.length * 7 := by
        have := (List.getElem?_eq_some_iff.1 hu).1
        rw [rowC_len, hlen] at this
        exact this
      have hi : j / 7 < os.length := by omega
      have hjj : j = j / 7 * 7 + j % 7 := by omega
      have hgi : ((List.range os.length).map f)[j / 7]? = some (f (j / 7)) := by simp [hi]
      rw [hjj, rowC_get _ (j / 7) _ (j % 7) hgi (by omega)] at hu
      have := (hf (j / 7) hi).2.2 (j % 7) u hu
      rw [Addr.add_lit]
      rw [show off + j = off + j / 7 * 7 + j % 7 by omega]
      exact this
    · obtain ⟨i, hi, rfl⟩ := List.mem_map.1 hr
      exact (hf i (by simpa using hi)).2.1
theorem objs_of_rows {w : World} {v : Value} {rs : List R3} (h : CellsAt w v rs.length (rowC rs)) (hv : ∀ r ∈ rs, ValAt w r.1.2.2 (rV r)) (hf : fitO (osR rs)) : ObjsAt w v (osR rs) := by
  have h0 := h
  obtain ⟨ao, cap, rfl, hm, hk⟩ := h
  refine ⟨ao, cap, by rw [osR_len], by rw [osR_len]; exact hm, hf, fun hne => ?_⟩
  have hl : rs.length ≠ 0 := fun e => hne (by rw [List.eq_nil_of_length_eq_zero e]; rfl)
  obtain ⟨b, off, rfl, hlt, _⟩ := hk hl
  refine ⟨b, off, rfl, hlt, fun i t j x hi => ?_⟩
  rw [osR_get] at hi
  obtain ⟨r, hr, he⟩ := Option.map_eq_some_iff.1 hi
  obtain ⟨b', off', hb, _, g⟩ := h0.obj hr
  cases hb
  obtain ⟨⟨t', j', x'⟩, ai, ci, ak, ck⟩ := r
  cases he
  exact ⟨ai, ci, ak, ck, hv _ (List.mem_of_getElem? hr), g⟩

end Go.Proofs.YtpbipngnoklmcaaGreatDoor
namespace Go.Proofs.YtpbipngnoklmcaaGreatDoor
open Go.RowKit
set_option maxRecDepth 100000

theorem same_klW {a b t i : S8} (ha : fitS a) (hb : fitS b) (ht : fitS t) (hi : fitS i) : (klW a b).sameKey (klW t i) = ((a == t) && (b == i)) := by
  by_cases he : a = t ∧ b = i
  · obtain ⟨rfl, rfl⟩ := he
    simp only [beq_self_eq_true, Bool.and_self]
    unfold klW Lit.sameKey
    simp
  · have hne : klW a b ≠ klW t i := fun e => he (klW_inj ha hb ht hi e)
    rw [Maps.sameKey_ne hne]
    symm
    rw [Bool.and_eq_false_iff]
    by_cases h1 : a = t
    · exact .inr (by simpa using fun e => he ⟨h1, e⟩)
    · exact .inl (by simpa using h1)

/-- acc is what has come of objs; left says of each key whether it is still to come. -/
structure ColR (left : Lit → Bool) (objs acc : List O3) : Prop where
  left : ∀ t i, fitS t → fitS i → left (klW t i) = (hasO objs t i && !hasO acc t i)
  mem : ∀ o ∈ acc, o ∈ objs
theorem ColR.start {D : DataW Value} {objs : List O3} {val : S8 → S8 → Value} (h : MapRel D objs val) : ColR (Maps.has D) objs [] :=
  ⟨fun t i ht hi => by rw [(h t i ht hi).1]; simp [hasO], fun o ho => by cases ho⟩
theorem hasO_snoc (acc : List O3) (o : O3) (t i : S8) : hasO (acc ++ [o]) t i = (hasO acc t i || ((o.1 == t) && (o.2.1 == i))) := by
  unfold hasO isO
  rw [List.any_append]
  simp
theorem ColR.step {left : Lit → Bool} {objs acc : List O3} (h : ColR left objs acc) {t i : S8} (ht : fitS t) (hi : fitS i) (hl : left (klW t i) = true) :
    ∃ x, (t, i, x) ∈ objs ∧ hasO acc t i = false ∧ ColR (fun z => left z && !z.sameKey (klW t i)) objs (acc ++ [(t, i, x)]) := by
  have h1 := h.left t i ht hi
  rw [hl] at h1
  obtain ⟨h2, h3⟩ := (Bool.and_eq_true _ _).mp h1.symm
  obtain ⟨x, hx⟩ := hasO_iff.1 h2
  refine ⟨x, hx, by simpa using h3, fun a b ha hb => ?_, fun o ho => ?_⟩
  · show (left (klW a b) && !(klW a b).sameKey (klW t i)) = _
    rw [h.left a b ha hb, same_klW ha hb ht hi, hasO_snoc]
    show _ = (hasO objs a b && !(hasO acc a b || ((t == a) && (i == b))))
    rw [show (t == a) = (a == t) from BEq.comm, show (i == b) = (b == i) from BEq.comm]
    cases hasO objs a b <;> cases hasO acc a b <;> cases (a == t) <;> cases (b == i) <;> rfl
  · rcases List.mem_append.1 ho with ho | ho
    · exact h.mem o ho
    · simp at ho
      subst ho
      exact hx
theorem ColR.done {left : Lit → Bool} {objs acc : List O3} (h : ColR left objs acc) (hl : ∀ z, left z = false) (hf : fitO objs) (hr : risO objs) (o : O3) : o ∈ acc ↔ o ∈ objs := by
  refine ⟨h.mem o, fun ho => ?_⟩
  obtain ⟨f1, f2⟩ := hf o ho
  have h1 := h.left o.1 o.2.1 f1 f2
  rw [hl, hasO_iff.2 ⟨o.2.2, ho⟩] at h1
  have h2 : hasO acc o.1 o.2.1 = true := by simpa using h1
  obtain ⟨v, hv⟩ := hasO_iff.1 h2
  have := ris_one hr (h.mem _ hv) ho
  subst this
  exact hv
/-- The collected objects, put in order, are the world's. -/
theorem ColR.sorted {left : Lit → Bool} {objs acc l : List O3} (h : ColR left objs acc) (hl : ∀ z, left z = false) (hf : fitO objs) (hr : risO objs) (hp : l.Perm acc) (hs : risO l) : l = objs :=
  ris_ext hs hr fun o => by rw [hp.mem_iff, h.done hl hf hr]

end Go.Proofs.YtpbipngnoklmcaaGreatDoor
namespace Go.Proofs.YtpbipngnoklmcaaGreatDoor
open Go.RowKit
set_option maxRecDepth 100000

theorem strNeO : (9 : TypeId) ≠ 47 := by decide
theorem valNeO : (41 : TypeId) ≠ 47 := by decide
theorem owns_kinds {w : World} : ∀ {ts : List VT} {vs : List Value} {F : List Nat}, OwnVals w ts vs F → ∀ q ∈ F, ∃ cs fz, w.heap[q]? = some (.cells cs 9 fz) ∨ w.heap[q]? = some (.cells cs 41 fz)
  | [], vs, F, h => by rw [OwnVals] at h; rw [h.2]; intro q hq; cases hq
  | t :: r, vs, F, h => by
    obtain ⟨x, ys, Fx, Fr, rfl, rfl, hx, hr⟩ := h.head
    intro q hq
    rcases List.mem_append.1 hq with hq | hq
    · exact own_kinds hx q hq
    · exact owns_kinds hr q hq
/-- A row of objects of the call's own, with their values, all in memory behind w0. -/
def ObjL (w0 : World) (rs : List R3) (v : Value) (F : List Nat) (w : World) : Prop :=
  w.ownsRow w0.heap.size 47 7 v rs.length (rowC rs) ∧ OwnVals w (rs.map fun r => r.1.2.2) (rs.map rV) F ∧ F.Nodup ∧ (∀ q ∈ F, w0.heap.size ≤ q) ∧ Below w0.heap.size w0 w
theorem ObjL.nil (w : World) : ObjL w [] (.slice none 0 0) [] w := ⟨World.ownsRow_nil _ _ _ _, by rw [List.map_nil, List.map_nil, OwnVals]; exact ⟨rfl, rfl⟩, by simp, (fun q hq => by cases hq), Below.refl _ _⟩
theorem ObjL.apart {w0 w : World} {rs : List R3} {v : Value} {F : List Nat} (h : ObjL w0 rs v F w) {q : Nat} (hq : q ∈ F) : v.ownBlock ≠ some q := fun e => by
  obtain ⟨cs, hh⟩ := row_block h.1 e
  obtain ⟨cs', fz, hk⟩ := owns_kinds h.2.1 q hq
  rcases hk with hk | hk <;> rw [hh] at hk <;> injection hk with hk <;> injection hk with _ e _
  · exact strNeO e.symm
  · exact valNeO e.symm
theorem ObjL.stays {w0 w w' : World} {rs : List R3} {v : Value} {F : List Nat} (h : ObjL w0 rs v F w) (hb : Below w.heap.size w w') : ObjL w0 rs v F w' := by
  obtain ⟨h1, h2, h3, h4, h5⟩ := h
  refine ⟨row_keep h1 fun q hq => ?_, h2.keep fun q hq => hb.block q (h2.lt q hq), h3, h4, h5.trans (hb.mono h5.size)⟩
  obtain ⟨_, hh⟩ := row_block h1 hq
  exact hb.block q (heap_lt hh)
theorem ObjL.push {w0 wr w1 w3 : World} {rs : List R3} {r : R3} {vo v' : Value} {F Fx : List Nat} {o : Obj} (h : ObjL w0 rs vo F wr) (hb : Below wr.heap.size wr w1) (hx : OwnVal w1 r.1.2.2 (rV r) Fx) (hd : Fx.Nodup) (hF : ∀ q ∈ Fx, wr.heap.size ≤ q)
    (hown : w3.ownsRow w0.heap.size 47 7 v' (rs.length + 1) (rowC rs ++ rcells r)) (hg : (w1.alloc o).grownBy w3 vo.ownBlock) : ObjL w0 (rs ++ [r]) v' (F ++ Fx) w3 := by
  have h1 := h.stays hb
  have hap := fun q (hq : q ∈ F) => h1.apart hq
  obtain ⟨h1, h2, h3, h4, h5⟩ := h1
  have hlt := h.2.1.lt
  have hk : ∀ q, q < w1.heap.size → vo.ownBlock ≠ some q → w3.heap[q]? = w1.heap[q]? := fun q hq hn => by
    rw [hg.block q (by simp only [World.alloc, Array.size_push]; omega) (fun e => hn e.symm)]
    exact Below.heap_alloc _ _ q hq
  have hxk : ∀ q ∈ Fx, vo.ownBlock ≠ some q := fun q hq e => by
    have := (h.1.lt q e).2
    have := hF q hq
    omega
  refine ⟨?_, ?_, ?_, ?_, ?_⟩
  · rw [List.length_append, rowC_snoc]
    exact hown
  · rw [List.map_append, List.map_append]
    exact (h2.keep fun q hq => hk q (h2.lt q hq) (hap q hq)).append (OwnVals.one (hx.keep fun q hq => hk q (hx.lt q hq) (hxk q hq)))
  · rw [List.nodup_append]
    exact ⟨h3, hd, fun a ha b hb' e => by have := hlt a ha; have := hF b hb'; omega⟩
  · intro q hq
    rcases List.mem_append.1 hq with hq | hq
    · exact h4 q hq
    · have := hF q hq
      have := h.2.2.2.2.size
      omega
  · have hb1 : Below w0.heap.size w0 (w1.alloc o) := h5.alloc h5.size _
    exact hb1.grown hg hb1.size fun k e => (h.1.lt k e).1
/-- The row reads as objects. -/
theorem ObjL.objs {w0 w : World} {rs : List R3} {v : Value} {F : List Nat} (h : ObjL w0 rs v F w) (hf : fitO (osR rs)) : ObjsAt w v (osR rs) := by
  refine objs_of_rows (CellsAt.row h.1) (fun r hr => ?_) hf
  obtain ⟨h1, h2, _⟩ := h
  have go : ∀ (l : List R3) (F : List Nat), OwnVals w (l.map fun r => r.1.2.2) (l.map rV) F → ∀ r ∈ l, ValAt w r.1.2.2 (rV r) := by
    intro l
    induction l with
    | nil => intro F _ r hr; cases hr
    | cons x l ih =>
      intro F hF r hr
      rw [List.map_cons, List.map_cons, OwnVals] at hF
      obtain ⟨y, ys, Fx, Fr, he, rfl, hx, hrr⟩ := hF
      injection he with e1 e2
      subst e1 e2
      rcases List.mem_cons.1 hr with rfl | hr
      · exact hx.at
      · exact ih Fr hrr r hr
  exact go rs F h2 r hr
variable {w : World} {p b n : Nat} {S : WS} {val : S8 → S8 → Value} {vf vt : Value} {D : DataW Value}
/-- What Objects leaves. -/
def ObjPost (S : WS) (w : World) (e : Ending) (w' : World) : Prop := ∃ rs v F, e = .returned v ∧ osR rs = S.objs ∧ ObjL w rs v F w'
theorem ObjPost.done {left : Lit → Bool} {rs ts : List R3} {v : Value} {F : List Nat} {w' : World} (hc : ColR left S.objs (osR rs)) (hl : ∀ z, left z = false) (hf : fitO S.objs) (hr : risO S.objs) (hp : ts.Perm rs) (hs : risO (osR ts)) (h : ObjL w ts v F w') : ObjPost S w (.returned v) w' :=
  ⟨ts, v, F, rfl, hc.sorted hl hf hr (hp.map _) hs, h⟩

theorem val_cells {x : VT} {v : Value} {F : List Nat} (h : OwnVal w x v F) : ∃ ai ci ak ck, v = .agg #[.int .i64 x.kind, .bool x.flag, str x.text, .slice ai x.items.length ci, .slice ak x.keys.length ck] := by
  obtain ⟨ai, ci, ak, ck, h⟩ := h.at.form
  exact ⟨ai, ci, ak, ck, h⟩

/-- Names that differ, two by two. -/
def apartO (l : List O3) : Prop := l.Pairwise fun a b => ¬ (a.1 = b.1 ∧ a.2.1 = b.2.1)
theorem apart_len : ∀ {acc l : List O3}, apartO acc → (∀ o ∈ acc, o ∈ l) → acc.length ≤ l.length
  | [], _, _, _ => Nat.zero_le _
  | a :: acc, l, h, hm => by
    obtain ⟨h1, h2⟩ := List.pairwise_cons.1 h
    have hlt : (outO l a.1 a.2.1).length < l.length := by
      unfold outO
      exact List.length_filter_lt_length_iff_exists.2 ⟨a, hm a (by simp), by simp [isO_self]⟩
    have := apart_len (acc := acc) (l := outO l a.1 a.2.1) h2 fun o ho => mem_outO.2 ⟨hm o (by simp [ho]), isO_of_ne fun e => h1 o ho ⟨e.1.symm, e.2.symm⟩⟩
    rw [List.length_cons]
    omega
theorem apart_snoc {acc : List O3} {t i : S8} {x : VT} (h : apartO acc) (hn : hasO acc t i = false) : apartO (acc ++ [(t, i, x)]) := by
  unfold apartO
  rw [List.pairwise_append]
  refine ⟨h, List.pairwise_singleton _ _, fun o ho q hq e => ?_⟩
  have : q = (t, i, x) := by simpa using hq
  subst this
  have : hasO acc t i = true := List.any_eq_true.2 ⟨o, ho, isO_iff.2 e⟩
  rw [hn] at this
  cases this
theorem osR_snoc (rs : List R3) (r : R3) : osR (rs ++ [r]) = osR rs ++ [r.1] := by unfold osR; rw [List.map_append]; rfl

end Go.Proofs.YtpbipngnoklmcaaGreatDoor
