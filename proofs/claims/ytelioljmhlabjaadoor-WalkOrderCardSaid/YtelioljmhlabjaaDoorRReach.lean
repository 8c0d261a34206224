/- Walks of the reference's Reach and All. -/
import Derived.Test.YtelioljmhlabjaaDoorReachP
import Derived.Test.YtelioljmhlabjaaDoorG2
import Derived.Test.YtelioljmhlabjaaDoorApp2
namespace Go.Proofs.YtelioljmhlabjaaDoor
open Go.RowKit
set_option maxRecDepth 100000

/-- Some edge in k of the list isn't followed yet. -/
def Shut (es : List (Int × Int)) (wo : Int × Int) (a : Nat) (o : List Nat) : Prop := ∀ e ∈ es, e ≠ wo → (e.1 = (a : Int) ∨ e.1.toNat ∈ o) → e.2.toNat ∈ o

theorem Ok.cnt {n : Nat} {o : List Nat} (h : Ok n o) : ((List.range n).filter fun i => o.contains i).length = o.length := by
  apply Nat.le_antisymm
  · exact (List.Nodup.sublist List.filter_sublist List.nodup_range).length_le_of_subset (fun i hi => by simpa using (List.mem_filter.1 hi).2)
  · exact h.nd.length_le_of_subset (fun i hi => List.mem_filter.2 ⟨by simpa using h.lt i hi, by simpa using hi⟩)
/-- How many bools of a block are true. -/
def cntB (w : World) (b n : Nat) : Nat := ((List.range n).filter fun i => match w.cell? ⟨b, i, none⟩ with
  | some (.bool t) => t
  | _ => false).length
theorem cntB_marks {w : World} {b n : Nat} {o : List Nat} (h : OwnBools w b (marks n o)) (ho : Ok n o) : cntB w b n = o.length := by
  rw [← ho.cnt]
  unfold cntB
  congr 1
  apply List.filter_congr
  intro i hi
  have hi' : i < n := by simpa using hi
  rw [h.cell (i := i) (by rw [marks_len]; exact hi'), marks_get n o i hi']

def boolN : Value → Nat
  | .bool true => 1
  | _ => 0

/-- The search's memory: the edge that is left out, what is found. -/
structure RMem (w wr : World) (n : Nat) (x y : Int) (o : List Nat) : Prop where
  bx : wr.cell? ⟨w.heap.size, 0, none⟩ = some (.int .i64 x) ∧ wr.cell? ⟨w.heap.size, 1, none⟩ = some (.int .i64 y)
  fd : OwnBools wr (w.heap.size + 1) (marks n o)
  bel : Below w.heap.size w wr
  sz : w.heap.size + 1 < wr.heap.size

theorem RMem.alloc {w wr : World} {n : Nat} {x y : Int} {o : List Nat} (h : RMem w wr n x y o) (ob : Obj) : RMem w (wr.alloc ob) n x y o := by
  have hb : Below wr.heap.size wr (wr.alloc ob) := (Below.refl _ _).alloc (Nat.le_refl _) _
  have hs := h.sz
  refine ⟨⟨(hb.cell (p := ⟨w.heap.size, 0, none⟩) (show w.heap.size < wr.heap.size by omega)).trans h.bx.1, (hb.cell (p := ⟨w.heap.size, 1, none⟩) (show w.heap.size < wr.heap.size by omega)).trans h.bx.2⟩, h.fd.alloc ob, h.bel.alloc h.bel.size _, ?_⟩
  have := hb.size
  omega
theorem RMem.set {w wr : World} {n : Nat} {x y : Int} {o : List Nat} (h : RMem w wr n x y o) (q : Nat) : RMem w (wr.setCell ⟨w.heap.size + 1, q, none⟩ (.bool true)) n x y (o ++ [q]) := by
  have hk : ∀ k : Nat, (wr.setCell ⟨w.heap.size + 1, q, none⟩ (.bool true)).cell? ⟨w.heap.size, k, none⟩ = wr.cell? ⟨w.heap.size, k, none⟩ := fun k =>
    World.cell?_of_block (Below.heap_setCell _ _ _ _ (by simp))
  refine ⟨⟨(hk 0).trans h.bx.1, (hk 1).trans h.bx.2⟩, by rw [marks_snoc]; exact h.fd.set q true, h.bel.setCell (by simp) _, by simpa [World.setCell] using h.sz⟩

def RReachPost (n : Nat) (es : List (Int × Int)) (a : Nat) (wo : Int × Int) (w : World) (e : Ending) (w' : World) : Prop :=
  ∃ b, e = .returned (.slice (some ⟨b, 0, none⟩) n n) ∧ OwnBools w' b (marks n (wayL n es wo a)) ∧ Below w.heap.size w w' ∧ w.heap.size ≤ b

set_option maxHeartbeats 1600000 in
theorem rreach_any (v : Value) (es : List (Int × Int)) (n a : Nat) (x y : Int) (w : World) (h : PairsAt w v es) (hn : n ≤ 512) (hes : ∀ e ∈ es, 0 ≤ e.1 ∧ e.1 < n ∧ 0 ≤ e.2 ∧ e.2 < n) :
    Calls Tryd.prog 29 #[.int .i64 n, v, .int .i64 a, .agg #[.int .i64 x, .int .i64 y]] w (RReachPost n es a (x, y) w) := by
  obtain ⟨i4, hi4, hz04, hz14, hz24⟩ := info_parts Tryd.info4
  have HES := Lib.hid hes
  clear hes
  go_enter Tryd.func29, Tryd.ntmps29
  go_wp2_with (first | (at_make; refine wpList_make_full _ rfl _ _ 42 rfl (w.heap.size + 1) 4 i4 (.bool false) 1 Tryd.underlying42 hi4 hz04 hz14 _ _ _ _ n rfl rfl rfl rfl (by rw [hz24]; omega) (by unfold maxLen; omega) (by simp) ?_))
  intro w1 hown hgrow
  have hM : RMem w w1 n x y [] := by
    have hb := ownsRow_block hown
    have hb1 : Below (w.heap.size + 1) (w.alloc (.cells #[.int .i64 x, .int .i64 y] 34)) w1 := (Below.refl _ _).grown hgrow (by simp) (fun k hk => by cases hk)
    have hsz : w.heap.size + 1 < w1.heap.size := (Array.getElem?_eq_some_iff.1 hb).1
    refine ⟨⟨(hb1.cell (p := ⟨w.heap.size, 0, none⟩) (Nat.lt_succ_self _)).trans ?_, (hb1.cell (p := ⟨w.heap.size, 1, none⟩) (Nat.lt_succ_self _)).trans ?_⟩, ?_, ?_, hsz⟩
    · exact cell_of_row _ _ _ _ _ _ (heap_alloc_new _ _)
    · exact cell_of_row _ _ _ _ _ _ (heap_alloc_new _ _)
    · unfold OwnBools
      rw [marks_nil, ← made_bools]
      exact hb
    · exact ((Below.refl _ _).alloc (Nat.le_refl _) _).trans (hb1.mono (Nat.le_succ _))
  have hend : ∀ w' (o : List Nat), RMem w w' n x y o → (∀ k ∈ o, Way (Edge es (x, y)) a k) → Shut es (x, y) a o → RReachPost n es a (x, y) w (.returned (.slice (some ⟨w.heap.size + 1, 0, none⟩) n n)) w' :=
    fun w' o h1 h2 h3 => ⟨_, rfl, by rw [← way_found h2 h3]; exact h1.fd, h1.bel, by simp⟩
  have HE := Lib.hid hend
  clear hend hown hgrow
  go_wp2
  go_loopw [10] (fun v10 wr => ∃ (ag : Bool) (o : List Nat), v10 = .bool ag ∧ RMem w wr n x y o ∧ Ok n o ∧ Hid (∀ k ∈ o, Way (Edge es (x, y)) a k) ∧ Hid (ag = false → Shut es (x, y) a o)) (fun v10 wr => 2 * (n - cntB wr (w.heap.size + 1) n) + boolN v10)
  case atStart => exact ⟨true, [], rfl, hM, Ok.nil n, fun k hk => (by cases hk), fun h => (by cases h)⟩
  case round =>
    obtain ⟨ag, o, rfl, hm, hok, hway, hsh⟩ := hrel
    clear hM
    cases ag with
    | false =>
      have HF := Lib.hid (HE.out _ o hm hway.out (hsh.out rfl))
      clear hm hok hway hsh
      go_wp2
      go_ret
      exact HF.out
    | true =>
      obtain ⟨ao, cap, rfl, hl, hmm, hc⟩ := id h
      have HC := Lib.hid hc
      clear hc hsh
      have hcnt := Lib.hid (cntB_marks hm.fd hok)
      have hol := hok.len
      go_wp2
      go_loopw [10, 18] (fun v10 v18 wr' => ∃ (ag : Bool) (o' : List Nat) (k : Nat), v10 = .bool ag ∧ v18 = .int .i64 k ∧ k ≤ es.length ∧ RMem w wr' n x y o' ∧ Ok n o' ∧ Hid (∀ k ∈ o', Way (Edge es (x, y)) a k) ∧ Hid (ag = false → o' = o ∧ Shut (es.take k) (x, y) a o) ∧ Hid (ag = true → o.length < o'.length)) (fun _ v18 _ => es.length - (intOf v18).toNat)
      case atStart => exact ⟨false, o, 0, rfl, rfl, by omega, hm, hok, hway, fun _ => ⟨rfl, fun e he => by simp at he⟩, fun h => (by cases h)⟩
      case round =>
        obtain ⟨ag, o', k, rfl, rfl, hk, hm', hok', hway', hsh', hgt⟩ := hrel
        clear hm hok hway
        by_cases hlt : k < es.length
        · obtain ⟨b, off, rfl, hbl, hcell⟩ := HC.out (by intro h; simp [h] at hlt)
          have c1 := (hm'.bel.cell (p := ⟨b, off + k * 2, none⟩) hbl).trans (hcell k hlt).1
          have c2 := (hm'.bel.cell (p := ⟨b, off + k * 2 + 1, none⟩) hbl).trans (hcell k hlt).2
          have hts := take_next es k (0, 0) hlt
          have hmem : es.getD k (0, 0) ∈ es := by simp [List.getD, hlt]
          obtain ⟨⟨p', q'⟩, hx⟩ : ∃ p, p = es.getD k (0, 0) := ⟨_, rfl⟩
          rw [← hx] at c1 c2 hts hmem
          obtain ⟨hx0, hx1, hy0, hy1⟩ := HES.out _ hmem
          simp only at hx0 hx1 hy0 hy1
          obtain ⟨p, rfl⟩ := Int.eq_ofNat_of_zero_le hx0
          obtain ⟨q, rfl⟩ := Int.eq_ofNat_of_zero_le hy0
          clear hx hcell HC HES h
          have hsz := hm'.sz
          have hsz0 : w.heap.size < wr.heap.size := by omega
          obtain ⟨bx1, bx2⟩ := hm'.bx
          have d1 := hm'.fd.cell (i := p) (by rw [marks_len]; omega)
          have d2 := hm'.fd.cell (i := q) (by rw [marks_len]; omega)
          have df := hm'.fd.free q
          rw [marks_get n o' p (by omega)] at d1
          rw [marks_get n o' q (by omega)] at d2
          have HM := Lib.hid hm'
          have HOK := Lib.hid hok'
          obtain ⟨z1, hz1⟩ : ∃ z, z = o'.contains p := ⟨_, rfl⟩
          obtain ⟨z2, hz2⟩ : ∃ z, z = o'.contains q := ⟨_, rfl⟩
          rw [← hz1] at d1
          rw [← hz2] at d2
          have HYes : Hid ((¬ (p : Int) = x ∨ ¬ (q : Int) = y) ∧ ((p : Int) = (a : Int) ∨ z1 = true) ∧ z2 = false → ∀ (u : Array Value), ∃ (ag : Bool) (o' : List Nat) (k1 : Nat), Value.bool true = .bool ag ∧ Value.int .i64 ((k : Int) + 1) = .int .i64 k1 ∧ k1 ≤ es.length ∧ RMem w ((wr.setCell ⟨w.heap.size + 1, q, none⟩ (.bool true)).alloc (.cells u 34)) n x y o' ∧ Ok n o' ∧ Hid (∀ k ∈ o', Way (Edge es (x, y)) a k) ∧ Hid (ag = false → o' = o ∧ Shut (es.take k1) (x, y) a o) ∧ Hid (ag = true → o.length < o'.length)) := by
            rintro ⟨h1, h2, h3⟩ u
            have hqo : q ∉ o' := by rw [h3] at hz2; simpa using hz2.symm
            refine ⟨true, o' ++ [q], k + 1, rfl, by go_num, by omega, (hm'.set q).alloc _, hok'.snoc (by omega) hqo, fun j hj => ?_, fun h => (by cases h), fun _ => ?_⟩
            · rcases List.mem_append.1 hj with hj | hj
              · exact hway'.out j hj
              · obtain rfl : j = q := by simpa using hj
                have he : Edge es (x, y) p j := ⟨hmem, fun e => by
                  have e1 := congrArg Prod.fst e
                  have e2 := congrArg Prod.snd e
                  simp only at e1 e2
                  rcases h1 with h1 | h1
                  · exact h1 e1
                  · exact h1 e2⟩
                rcases h2 with h2 | h2
                · obtain rfl : p = a := by omega
                  exact .one he
                · exact .snoc (hway'.out p (by rw [h2] at hz1; simpa using hz1.symm)) he
            · have : o.length ≤ o'.length := by
                cases ag with
                | false => rw [(hsh'.out rfl).1]; exact Nat.le_refl _
                | true => exact Nat.le_of_lt (hgt.out rfl)
              simp; omega
          have HNo : Hid (¬ ((¬ (p : Int) = x ∨ ¬ (q : Int) = y) ∧ ((p : Int) = (a : Int) ∨ z1 = true) ∧ z2 = false) → ∀ (u : Array Value), ∃ (ag' : Bool) (o' : List Nat) (k1 : Nat), Value.bool ag = .bool ag' ∧ Value.int .i64 ((k : Int) + 1) = .int .i64 k1 ∧ k1 ≤ es.length ∧ RMem w (wr.alloc (.cells u 34)) n x y o' ∧ Ok n o' ∧ Hid (∀ k ∈ o', Way (Edge es (x, y)) a k) ∧ Hid (ag' = false → o' = o ∧ Shut (es.take k1) (x, y) a o) ∧ Hid (ag' = true → o.length < o'.length)) := by
            intro hno u
            refine ⟨ag, o', k + 1, rfl, by go_num, by omega, hm'.alloc _, hok', hway', fun h => ⟨(hsh'.out h).1, ?_⟩, hgt⟩
            obtain ⟨e1, e2⟩ := hsh'.out h
            intro e he hne hor
            rw [hts] at he
            rcases List.mem_append.1 he with he | he
            · exact e2 e he hne hor
            · obtain rfl : e = ((p : Int), (q : Int)) := by simpa using he
              simp only [Int.toNat_natCast] at hor ⊢
              rw [← e1] at hor ⊢
              apply Classical.byContradiction
              intro hq
              apply hno
              refine ⟨?_, ?_, by rw [hz2]; simpa using hq⟩
              · apply Classical.byContradiction
                intro hn
                have h1 : (p : Int) = x := Classical.byContradiction fun h => hn (Or.inl h)
                have h2 : (q : Int) = y := Classical.byContradiction fun h => hn (Or.inr h)
                exact hne (by rw [h1, h2])
              · rcases hor with hor | hor
                · exact Or.inl hor
                · exact Or.inr (by rw [hz1]; simpa using hor)
          clear hm' hok' hway' hsh' hgt hmem hts hz1 hz2 hcnt HE hmm
          go_wp2
          all_goals go_roundw
          all_goals try (case measure => simp [intOf]; omega)
          all_goals try (case rel => exact HYes.out (by grind) _)
          all_goals try (case rel => exact HNo.out (by grind) _)
        · have hke : k = es.length := by omega
          rw [hke, List.take_length] at hsh'
          have HR : Hid (∃ (ag' : Bool) (o2 : List Nat), Value.bool ag = .bool ag' ∧ RMem w wr n x y o2 ∧ Ok n o2 ∧ Hid (∀ k ∈ o2, Way (Edge es (x, y)) a k) ∧ Hid (ag' = false → Shut es (x, y) a o2)) :=
            ⟨ag, o', rfl, hm', hok', hway', fun h => by rw [(hsh'.out h).1]; exact (hsh'.out h).2⟩
          have hcnt' := Lib.hid (cntB_marks hm'.fd hok')
          have hol' := hok'.len
          have HM : Hid (2 * (n - o'.length) + boolN (.bool ag) < 2 * (n - o.length) + 1) := by
            cases ag with
            | false => rw [(hsh'.out rfl).1]; exact Nat.lt_succ_self _
            | true => have := hgt.out rfl; show _ + 1 < _; omega
          clear hm' hok' hway' hsh' hgt
          go_wp2
          go_roundw
          case rel => exact HR.out
          case measure => rw [hcnt.out, hcnt'.out]; exact HM.out
end Go.Proofs.YtelioljmhlabjaaDoor
