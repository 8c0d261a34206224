/- The map of the world's objects: keys that are a struct of two texts, elements as they stand. Copies between rows of elements of any size; what a row holds behind an insertion. No walk. An append to a row of the call's own, with word of where the row lies behind it: where it lay, or in a new block. -/
import Derived.Test.YtpbipngnoklmcaaGreatDoorMWldP
import Derived.Test.YtpbipngnoklmcaaGreatDoorValO
import Derived.Maps.OwnSet
import Derived.Maps.RangeWalk
import Derived.DeepKeys4
import Derived.Lib.AppendZeros
import Derived.Lib.AppendZerosOnto
import Derived.Lib.Overlaps
import Derived.Laws.Externs
import Derived.Laws.IdiomCopy
import Derived.Laws.CopyRow
import Derived.Test.YtpbipngnoklmcaaGreatDoorMLimbP
namespace Go.Proofs.YtpbipngnoklmcaaGreatDoor
open Go.RowKit
open Go.Maps (Keyed)
set_option maxRecDepth 100000

theorem laidOutW : laidOutB Tryz.prog = true := by kernel_rfl
theorem rowK : (78 : TypeId) < Tryz.prog.types.size := of_decide_eq_true (by kernel_rfl)
theorem wideK : (match Tryz.prog.underlying 78 with | some (.array _ _) | some (.struct _) => true | _ => false) = true := by rw [Tryz.underlying78]
theorem keyK : Keyed Tryz.prog 78 := Keyed.of_law (deep_law_laid laidOutW (m := 2) (by omega) rowK (by kernel_rfl) wideK)
theorem cellsK : Tryz.prog.cellsOf 78 = 2 := by kernel_rfl
theorem cellsS1 : Tryz.prog.cellsOf 9 = 1 := by kernel_rfl
theorem keyTypeK : Tryz.prog.keyType 78 = true := by kernel_rfl
/-- What a name reads as. -/
def klW (t i : S8) : Lit := .string (keyBytes [.string t, .string i])
def nameV (t i : S8) : Value := .agg #[str t, str i]
abbrev fitS (t : S8) : Prop := t.length ≤ 9223372036854775807

theorem fit_size {x : S8} (hx : fitS x) : (ByteArray.mk x.toArray).size ≤ maxLen := by
  show x.toArray.size ≤ maxLen
  unfold maxLen
  simpa using hx
theorem sizeT : ∃ n, Tryz.prog.types.size = n + 1 := ⟨Tryz.prog.types.size - 1, (Nat.sub_add_cancel (Nat.lt_of_le_of_lt (Nat.zero_le _) rowK)).symm⟩
theorem formedK {c0 c1 : Value} : (Value.agg #[c0, c1]).formed Tryz.prog 78 = true := by simp [Value.formed, Tryz.underlying78, cellsK]
theorem keyOf_name {t i : S8} (ht : fitS t) (hi : fitS i) : keyOf Tryz.prog 78 (nameV t i) = some (klW t i) := by
  have hl : Tryz.prog.keyLits (Tryz.prog.types.size + 1) 78 [str t, str i] = some [.string t, .string i] := by
    obtain ⟨n, hn⟩ := sizeT
    rw [hn]
    have h1 := fit_size ht
    have h2 := fit_size hi
    simp [Program.keyLits, Tryz.underlying78, Tryz.underlying9, cellsK, cellsS1, h1, h2]
  unfold keyOf
  rw [Tryz.underlying78]
  show (if (Tryz.prog.keyType 78 && (nameV t i).formed Tryz.prog 78) = true then (Tryz.prog.keyLits (Tryz.prog.types.size + 1) 78 [str t, str i]).map (fun ls => Lit.string (keyBytes ls)) else none) = _
  rw [keyTypeK, show (nameV t i).formed Tryz.prog 78 = true from formedK, hl]
  rfl
theorem formed_inv {v : Value} (hc : v.formed Tryz.prog 78 = true) : ∃ c0 c1, v = .agg #[c0, c1] := by
  unfold Value.formed at hc
  rw [Tryz.underlying78] at hc
  cases v <;> simp [cellsK] at hc
  next cs =>
    obtain ⟨cs⟩ := cs
    match cs, hc with
    | [c0, c1], _ => exact ⟨c0, c1, rfl⟩
theorem lits_one {n : Nat} {c : Value} {ls : List Lit} (hc : Tryz.prog.keyLits (n + 1) 9 [c] = some ls) : ∃ s : S8, c = str s ∧ fitS s := by
  cases c with
  | string s =>
    obtain ⟨⟨s⟩⟩ := s
    refine ⟨s, rfl, ?_⟩
    apply Classical.byContradiction
    intro hh
    have hz : ¬ (ByteArray.mk ⟨s⟩).size ≤ maxLen := by
      intro h
      apply hh
      have h' : (⟨s⟩ : Array UInt8).size ≤ maxLen := h
      unfold maxLen at h'
      simpa using h'
    simp [Program.keyLits, Tryz.underlying9, hz] at hc
  | _ => simp [Program.keyLits, Tryz.underlying9] at hc
theorem lits_two {n : Nat} {c0 c1 : Value} {ls : List Lit} (h : Tryz.prog.keyLits (n + 1 + 1) 78 [c0, c1] = some ls) : ∃ t i : S8, c0 = str t ∧ c1 = str i ∧ fitS t ∧ fitS i := by
  cases h0 : Tryz.prog.keyLits (n + 1) 9 [c0] with
  | none =>
    exfalso
    conv at h => lhs; unfold Program.keyLits
    rw [Tryz.underlying78] at h
    simp [cellsK, cellsS1, h0] at h
  | some l0 =>
    cases h1 : Tryz.prog.keyLits (n + 1) 9 [c1] with
    | none =>
      exfalso
      conv at h => lhs; unfold Program.keyLits
      rw [Tryz.underlying78] at h
      simp [cellsK, cellsS1, h0, h1] at h
    | some l1 =>
      obtain ⟨t, rfl, ft⟩ := lits_one h0
      obtain ⟨i, rfl, fi⟩ := lits_one h1
      exact ⟨t, i, rfl, rfl, ft, fi⟩
theorem sizeT2 : ∃ n, Tryz.prog.types.size = n + 1 := sizeT
/-- A key is a name. -/
theorem keyOf_inv {v : Value} {l : Lit} (h : keyOf Tryz.prog 78 v = some l) : ∃ t i, fitS t ∧ fitS i ∧ v = nameV t i ∧ l = klW t i := by
  have h0 := h
  unfold keyOf at h
  rw [Tryz.underlying78] at h
  have h : (if (Tryz.prog.keyType 78 && v.formed Tryz.prog 78) = true then (Tryz.prog.keyLits (Tryz.prog.types.size + 1) 78 v.cells.toList).map (fun ls => Lit.string (keyBytes ls)) else none) = some l := h
  by_cases hc : (Tryz.prog.keyType 78 && v.formed Tryz.prog 78) = true
  · rw [if_pos hc] at h
    rw [keyTypeK, Bool.true_and] at hc
    obtain ⟨c0, c1, rfl⟩ := formed_inv hc
    obtain ⟨n, hn⟩ := sizeT
    rw [hn, show (Value.agg #[c0, c1]).cells.toList = [c0, c1] from rfl] at h
    cases hl : Tryz.prog.keyLits (n + 1 + 1) 78 [c0, c1] with
    | none => rw [hl] at h; cases h
    | some ls =>
      obtain ⟨t, i, rfl, rfl, ft, fi⟩ := lits_two hl
      refine ⟨t, i, ft, fi, rfl, ?_⟩
      have := keyOf_name ft fi
      rw [show nameV t i = .agg #[str t, str i] from rfl, h0] at this
      exact Option.some.inj this
  · rw [if_neg hc] at h
    cases h
theorem klW_inj {t i t' i' : S8} (h1 : fitS t) (h2 : fitS i) (h3 : fitS t') (h4 : fitS i') (h : klW t i = klW t' i') : t = t' ∧ i = i' := by
  have := keyK.inj (keyOf_name h1 h2) (h ▸ keyOf_name h3 h4)
  unfold nameV at this
  simp at this
  exact this

end Go.Proofs.YtpbipngnoklmcaaGreatDoor
namespace Go.Proofs.YtpbipngnoklmcaaGreatDoor
open Go.RowKit
set_option maxRecDepth 100000

theorem run_copy_rowN {P : Program} (w : World) (size : Nat) (dT sT ty elem : TypeId) (g o dLen dCap : Nat) (a : Addr) (sLen sCap : Nat) (cur : Array Value) (t : TypeId) (cs : List Value)
    (hu : P.underlying dT = some (.slice elem)) (hs : (P.info? elem).map (·.size) = some size)
    (hg : w.heap[g]? = some (.cells cur t (0, 0))) (hn : cs.length = Nat.min sLen dLen * size)
    (hsrc : ∀ j v, cs[j]? = some v → w.cell? (a.add j) = some v) (hfit : o + cs.length ≤ cur.size) (h1 : ∀ v ∈ cs, v.oneCell' = true) :
    (Builtin.copy_ #[dT, sT] ty #[.slice (some ⟨g, o, none⟩) dLen dCap, .slice (some a) sLen sCap]).run P w =
      .ok (goInt (Nat.min sLen dLen)) (w.setRow g (cur.toList.take o ++ cs ++ cur.toList.drop (o + cs.length)).toArray) := by
  have hl := run_loadCells_list (P := P) w a cs hsrc
  have hst := run_storeCells_at P g o t cs 0 cur w hg (by simpa using hfit) h1
  cases hq : P.info? elem with
  | none => simp [hq] at hs
  | some i =>
    have hi : i.size = size := by simpa [hq] using hs
    simp [Builtin.copy_, run_underlying hu, Builtin.lenOf, Builtin.firstCells, sizeOf, typeInfo, hq, hi, ← hn, hl, hst]

theorem heap_setRow {w : World} {g : Nat} {cur new : Array Value} {t : TypeId} (h : w.heap[g]? = some (.cells cur t (0, 0))) : (w.setRow g new).heap[g]? = some (.cells new t (0, 0)) := by
  simp [World.setRow, Array.getElem?_modify, h]
theorem heap_setRow_ne {w : World} {g k : Nat} {new : Array Value} (h : k ≠ g) : (w.setRow g new).heap[k]? = w.heap[k]? := by
  simp [World.setRow, Array.getElem?_modify, Ne.symm h]
theorem setRow_size (w : World) (g : Nat) (new : Array Value) : (w.setRow g new).heap.size = w.heap.size := by simp [World.setRow]
theorem grown_setRow (w : World) (g : Nat) (new : Array Value) : w.grownBy (w.setRow g new) (some g) :=
  ⟨rfl, rfl, rfl, by rw [setRow_size]; exact Nat.le_refl _, fun k _ hk => heap_setRow_ne (fun e => hk (by rw [e]))⟩

/-- What two copies make of a row with one element more. -/
theorem shift_row {α : Type} {cur A B news : List α} {s : Nat} (hA : cur.take (A.length + B.length) = A ++ B) (hn : news.length = s) (hl : A.length + B.length + s ≤ cur.length) :
    (((cur.take (A.length + s) ++ B ++ cur.drop (A.length + s + B.length)).take A.length ++ news ++ (cur.take (A.length + s) ++ B ++ cur.drop (A.length + s + B.length)).drop (A.length + news.length)).take (A.length + B.length + s)) = A ++ news ++ B ∧
    ((cur.take (A.length + s) ++ B ++ cur.drop (A.length + s + B.length)).take A.length ++ news ++ (cur.take (A.length + s) ++ B ++ cur.drop (A.length + s + B.length)).drop (A.length + news.length)).length = cur.length := by
  have e1 : cur.take (A.length + s) = A ++ (cur.take (A.length + s)).drop A.length := by
    conv => lhs; rw [← List.take_append_drop A.length (cur.take (A.length + s))]
    rw [List.take_take, Nat.min_eq_left (by omega)]
    have := congrArg (List.take A.length) hA
    rw [List.take_take, Nat.min_eq_left (by omega), List.take_left] at this
    rw [this]
  have hT : ((cur.take (A.length + s)).drop A.length).length = s := by simp; omega
  generalize (cur.take (A.length + s)).drop A.length = T at e1 hT
  have hD : (cur.drop (A.length + s + B.length)).length = cur.length - (A.length + s + B.length) := by simp
  generalize cur.drop (A.length + s + B.length) = D at hD
  rw [e1]
  subst hn
  rw [show (A ++ T ++ B ++ D).take A.length = A by simp, show (A ++ T ++ B ++ D).drop (A.length + news.length) = B ++ D by
    rw [show A ++ T ++ B ++ D = (A ++ T) ++ (B ++ D) by simp, List.drop_append, List.drop_of_length_le (by simp; omega)]
    rw [show A.length + news.length - (A ++ T).length = 0 by simp; omega]
    rfl]
  constructor
  · rw [show A ++ news ++ (B ++ D) = (A ++ news ++ B) ++ D by simp, show A.length + B.length + news.length = (A ++ news ++ B).length by simp; omega, List.take_left]
  · simp
    omega
/-- What two copies make of a new row. -/
theorem grow_row {α : Type} {A B news Z Y : List α} (hZ : Z.length = news.length + B.length) :
    (((A ++ Z ++ Y).take A.length ++ news ++ (A ++ Z ++ Y).drop (A.length + news.length)).take (A.length + news.length) ++ B ++ ((A ++ Z ++ Y).take A.length ++ news ++ (A ++ Z ++ Y).drop (A.length + news.length)).drop (A.length + news.length + B.length)) = A ++ news ++ B ++ Y := by
  rw [show (A ++ Z ++ Y).take A.length = A by simp]
  have e : (A ++ Z ++ Y).drop (A.length + news.length) = Z.drop news.length ++ Y := by
    rw [show A ++ Z ++ Y = A ++ (Z ++ Y) by simp, List.drop_append, List.drop_of_length_le (by omega), Nat.add_sub_cancel_left, List.drop_append, show news.length - Z.length = 0 by omega]
    rfl
  rw [e]
  rw [show (A ++ news ++ (Z.drop news.length ++ Y)).take (A.length + news.length) = A ++ news by
    rw [show A.length + news.length = (A ++ news).length by simp, List.take_left]]
  rw [show (A ++ news ++ (Z.drop news.length ++ Y)).drop (A.length + news.length + B.length) = Y by
    rw [show A ++ news ++ (Z.drop news.length ++ Y) = (A ++ news ++ Z.drop news.length) ++ Y by simp, show A.length + news.length + B.length = (A ++ news ++ Z.drop news.length).length by simp; omega, List.drop_left]]

end Go.Proofs.YtpbipngnoklmcaaGreatDoor
namespace Go.Proofs.YtpbipngnoklmcaaGreatDoor
open Go.RowKit

theorem run_append_fresh {P : Program} (w : World) (base : Nat) (t ty e : TypeId) (i : TypeInfo) (z : Value) (size bytes : Nat) (ht : P.underlying t = some (.slice e)) (hi : P.info? e = some i) (hz : i.zero = some z)
    (hsize : i.size = size) (hby : i.bytes = bytes) (hzs : z.cells.size = size) (hsz : 0 < size)
    (v : Value) (n : Nat) (xs : List Value) (hown : w.ownsRow base e size v n xs)
    (a : Addr) (m c : Nat) (news : List Value) (hl : news.length = m * size) (hnews : ∀ j u, news[j]? = some u → w.cell? (a.add j) = some u) (h1 : ∀ u ∈ news, u.oneCell' = true)
    (h63 : n + m ≤ maxLen) (hbytes : (n + m) * bytes ≤ 140737488355328) (hbase : base ≤ w.heap.size) :
    ∃ v' w', (Builtin.append_ #[t, t] ty #[v, .slice (some a) m c]).run P w = .ok v' w' ∧ w'.ownsRow base e size v' (n + m) (xs ++ news) ∧ w.grownBy w' v.ownBlock ∧
      (v'.ownBlock = v.ownBlock ∨ v'.ownBlock = some w.heap.size) := by
  obtain ⟨v', w', hr, h2, h3, h4⟩ := run_append_own (P := P) w base t ty e i z size bytes ht hi hz hsize hby hzs hsz v n xs hown a m c news hl hnews h1 h63 hbytes hbase
  refine ⟨v', w', hr, h2, h3, ?_⟩
  subst hsize hby
  have hsmall : n + m ≤ 9223372036854775807 := by simp only [maxLen] at h63; omega
  rcases hown.2 with ⟨rfl, rfl⟩ | ⟨g, cap, cur, rfl, hbg, hg, hnc, hcm, hcs, htake⟩
  · by_cases hm : m = 0
    · left; rw [h4.2 ⟨rfl, hm⟩]
    · have hr' := run_append_nil (P := P) w t ty e i z ht hi hz a m c news hl hnews (by omega) (by omega) (by have hb := hbytes; simp only [Nat.zero_add] at hb; omega)
      rw [hr'] at hr
      simp only [Result.ok.injEq] at hr
      right; rw [← hr.1]; rfl
  · by_cases hroom : n + m ≤ cap
    · have hfit : n * i.size + news.length ≤ cur.size := by rw [hl, hcs, ← Nat.add_mul]; exact Nat.mul_le_mul_right _ hroom
      have hr' := run_append_room (P := P) w t ty e i ht hi g n cap cur hg a m c news hl hnews h1 hroom hfit
      rw [hr'] at hr
      simp only [Result.ok.injEq] at hr
      left; rw [← hr.1]; rfl
    · have holds : ∀ j u, xs[j]? = some u → w.cell? ((⟨g, 0, none⟩ : Addr).add j) = some u := hown.cells (g := g) rfl
      have hr' := run_append_grow (P := P) w t ty e i z ht hi hz ⟨g, 0, none⟩ n cap xs hown.1 holds a m c news hl hnews (by omega) (by omega) (growslice_fits (by omega) hbytes)
      rw [hr'] at hr
      simp only [Result.ok.injEq] at hr
      right; rw [← hr.1]; rfl

theorem wpList_append_fresh {P : Program} (w : World) {ops : Array Oper} {rest : List Oper} {o : Oper} {a : Act} {Q : Exit → Act → World → Prop} (hgd : o.guard = none) (s x : Operand) (t : TypeId)
    (ho : o.op = .call { callee := .builtin .append, args := #[s, x], argTypes := #[t, t] })
    (base : Nat) (e : TypeId) (i : TypeInfo) (z : Value) (size bytes : Nat) (ht : P.underlying t = some (.slice e)) (hi : P.info? e = some i) (hz : i.zero = some z)
    (hsize : i.size = size) (hby : i.bytes = bytes) (hzs : z.cells.size = size) (hsz : 0 < size)
    (v : Value) (n : Nat) (xs : List Value) (hs : a.eval s = v) (hown : w.ownsRow base e size v n xs)
    (ad : Addr) (m c : Nat) (news : List Value) (hx : a.eval x = .slice (some ad) m c) (hl : news.length = m * size) (hnews : ∀ j u, news[j]? = some u → w.cell? (ad.add j) = some u) (h1 : ∀ u ∈ news, u.oneCell' = true)
    (h63 : n + m ≤ maxLen) (hbytes : (n + m) * bytes ≤ 140737488355328) (hbase : base ≤ w.heap.size)
    (h : ∀ v' w', w'.ownsRow base e size v' (n + m) (xs ++ news) → w.grownBy w' v.ownBlock → (v'.ownBlock = v.ownBlock ∨ v'.ownBlock = some w.heap.size) → wpList P ops Q rest (a.put o.dst v') w') : wpList P ops Q (o :: rest) a w := by
  refine wpList_plain hgd fun K hK => ?_
  obtain ⟨v', w', hr, h2, h3, h4⟩ := run_append_fresh (P := P) w base t o.type e i z size bytes ht hi hz hsize hby hzs hsz v n xs hown ad m c news hl hnews h1 h63 hbytes hbase
  unfold Oper.wp execOp
  simp only [ho, resolve, invoke, builtin, Sem.run_bind, Sem.run_pure, Result.andThen_ok, List.map_toArray, List.map_cons, List.map_nil, hs, hx, hr]
  exact hK _ _ (h v' w' h2 h3 h4)

end Go.Proofs.YtpbipngnoklmcaaGreatDoor
