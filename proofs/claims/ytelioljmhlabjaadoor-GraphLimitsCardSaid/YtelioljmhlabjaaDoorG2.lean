/- Walks of the reference's waits, Order and Look. -/
import Derived.Test.YtelioljmhlabjaaDoorBase
import Derived.Test.YtelioljmhlabjaaDoorKahn
namespace Go.Proofs.YtelioljmhlabjaaDoor
open Go.RowKit

/-- A row of bools of the call's own. -/
def OwnBools (w : World) (b : Nat) (bs : List Bool) : Prop := w.heap[b]? = some (.cells (bs.map Value.bool).toArray 4 (0, 0))

theorem OwnBools.cell {w : World} {b : Nat} {bs : List Bool} (h : OwnBools w b bs) {i : Nat} (hi : i < bs.length) : w.cell? ⟨b, i, none⟩ = some (.bool (bs.getD i false)) := by
  simp [World.cell?, show w.heap[b]? = _ from h, List.getD, hi]
theorem OwnBools.free {w : World} {b : Nat} {bs : List Bool} (h : OwnBools w b bs) (i : Nat) : w.frozen? ⟨b, i, none⟩ = false := by
  simp [World.frozen?, show w.heap[b]? = _ from h]
theorem OwnBools.set {w : World} {b : Nat} {bs : List Bool} (h : OwnBools w b bs) (i : Nat) (x : Bool) : OwnBools (w.setCell ⟨b, i, none⟩ (.bool x)) b (bs.set i x) := by
  unfold OwnBools at h ⊢
  simp [World.setCell, Array.getElem?_modify, h, List.map_set]

theorem OwnBools.alloc {w : World} {b : Nat} {bs : List Bool} (h : OwnBools w b bs) (o : Obj) : OwnBools (w.alloc o) b bs := by
  unfold OwnBools at h ⊢
  rw [Below.heap_alloc _ _ _ (Array.getElem?_eq_some_iff.1 h).1]; exact h
theorem OwnBools.grown {w w' : World} {b : Nat} {bs : List Bool} {row : Option Nat} (h : OwnBools w b bs) (hg : w.grownBy w' row) (hne : some b ≠ row) : OwnBools w' b bs := by
  unfold OwnBools at h ⊢
  rw [hg.block b (Array.getElem?_eq_some_iff.1 h).1 hne]; exact h

set_option maxHeartbeats 400000 in
theorem waits_any (v : Value) (es : List (Int × Int)) (b : Nat) (done : List Bool) (i : Int) (w : World) (n : Nat) (h : PairsAt w v es) (hd : OwnBools w b done) (hln : done.length = n) (_hlen : n ≤ 512)
    (hes : ∀ e ∈ es, 0 ≤ e.1 ∧ e.1 < n) :
    Calls Tryd.prog 46 #[v, .slice (some ⟨b, 0, none⟩) n n, .int .i64 i] w fun e w' => e = .returned (.bool (waitsE es done i)) ∧ w = w' := by
  obtain ⟨ao, cap, rfl, hl, hm, hc⟩ := h
  have HLn := Lib.hid hln
  have hln1 : done.length ≤ n := by omega
  have hln2 : n ≤ done.length := by omega
  clear hln
  go_enter Tryd.func46, Tryd.ntmps46
  go_wp2
  go_loop [7, 10] (fun _ i' => ∃ k : Nat, k ≤ es.length ∧ i' = .int .i64 k ∧ Hid (waitsE (es.take k) done i = false)) (fun _ i => es.length - (intOf i).toNat)
  case atStart => exact ⟨0, Nat.zero_le _, rfl, rfl⟩
  case round =>
    obtain ⟨k, hk, rfl, htk⟩ := hrel
    by_cases hlt : k < es.length
    · obtain ⟨bl, off, rfl, hbl, hcell⟩ := hc (by intro h; simp [h] at hlt)
      have c1 := (hcell k hlt).1
      have c2 := (hcell k hlt).2
      clear hc hcell
      have hts := take_next es k (0, 0) hlt
      have hmem : es.getD k (0, 0) ∈ es := by simp [List.getD, hlt]
      obtain ⟨⟨x, y⟩, hx⟩ : ∃ p, p = es.getD k (0, 0) := ⟨_, rfl⟩
      rw [← hx] at c1 c2 hts hmem
      obtain ⟨hx0, hx1⟩ := hes _ hmem
      simp only at hx0 hx1
      obtain ⟨m, rfl⟩ := Int.eq_ofNat_of_zero_le hx0
      have c3 := hd.cell (i := m) (by omega)
      obtain ⟨z, hz⟩ : ∃ z, z = done.getD m false := ⟨_, rfl⟩
      rw [← hz] at c3
      have hz' : done.getD (Int.toNat (m : Int)) false = z := hz.symm
      have H1 : Hid (y = i → z = false → waitsE es done i = true) := fun h1 h2 => by
        subst h1; unfold waitsE; rw [List.any_eq_true]; exact ⟨_, hmem, by simp only [hz', h2]; simp⟩
      have H2 : Hid (¬ (y = i ∧ z = false) → waitsE (es.take (k + 1)) done i = false) := fun h => by
        have h3 := htk.out
        unfold waitsE at h3 ⊢
        rw [hts, List.any_append, h3]
        simp only [List.any_cons, List.any_nil, Bool.or_false, Bool.false_or, Bool.and_eq_false_iff, beq_eq_false_iff_ne, ne_eq, hz']
        by_cases e : y = i
        · refine Or.inr ?_
          cases z
          · exact absurd ⟨e, rfl⟩ h
          · rfl
        · exact Or.inl e
      clear hx hts hmem htk hz hes hz'
      go_wp2
      · have h1 : y = i := by assumption
        have h2 : (!z) = true := by assumption
        go_ret
        exact ⟨ret_bool (H1.out h1 (by simpa using h2)).symm, rfl⟩
      · have h2 : (!z) = false := by assumption
        go_round
        case rel => exact ⟨k + 1, by omega, by go_num, H2.out (fun h => by simp [h.2] at h2)⟩
        case measure => simp [intOf]; omega
      · have h2 : ¬ y = i := by assumption
        go_round
        case rel => exact ⟨k + 1, by omega, by go_num, H2.out (fun h => h2 h.1)⟩
        case measure => simp [intOf]; omega
    · go_wp2
      have hk' : k = es.length := by omega
      have hf := htk.out
      rw [hk', List.take_length] at hf
      go_ret
      exact ⟨ret_bool hf.symm, rfl⟩

theorem Tryd.info4 : (Tryd.prog.info? 4).map (fun i => (i.zero, i.size, i.bytes)) = some (some (.bool false), 1, 1) := by kernel_rfl
theorem made_bools (n : Nat) : (madeCells #[Value.bool false] n).toList = (List.replicate n false).map Value.bool := by
  simp [madeCells, Nat.mod_one, List.map_const']

set_option maxRecDepth 100000 in
set_option maxHeartbeats 800000 in
/-- The reference's order. -/
theorem rorder_any (v : Value) (es : List (Int × Int)) (n : Nat) (w : World) (h : PairsAt w v es) (hn : n ≤ 512) (hes : ∀ e ∈ es, 0 ≤ e.1 ∧ e.1 < n ∧ 0 ≤ e.2 ∧ e.2 < n) :
    Calls Tryd.prog 21 #[.int .i64 n, v] w fun e w' => ∃ v', e = .returned v' ∧ IntsAt w' v' ((kahn n es).map fun i : Nat => (i : Int)) ∧ Below w.heap.size w w' := by
  obtain ⟨i0, hi, hz0, hz1, hz2⟩ := info_parts Tryd.info3
  obtain ⟨i4, hi4, hz04, hz14, hz24⟩ := info_parts Tryd.info4
  go_enter Tryd.func21, Tryd.ntmps21
  go_wp2_with (first | (at_make; refine wpList_make_full _ rfl _ _ 42 rfl w.heap.size 4 i4 (.bool false) 1 Tryd.underlying42 hi4 hz04 hz14 _ _ _ _ n rfl rfl rfl rfl (by rw [hz24]; omega) (by unfold maxLen; omega) (Nat.le_refl _) ?_))
  intro w1 hown hgrow
  have hB : OwnBools w1 w.heap.size (marks n []) := by
    unfold OwnBools
    rw [marks_nil, ← made_bools]
    exact ownsRow_block hown
  have hb1 : Below w.heap.size w w1 := (Below.refl _ _).grown hgrow (Nat.le_refl _) (fun k hk => by cases hk)
  have hsz : w.heap.size < w1.heap.size := (Array.getElem?_eq_some_iff.1 hB).1
  clear hown hgrow
  have HES := Lib.hid hes
  clear hes
  go_wp2
  go_loopw [6] (fun v6 wr => ∃ o : List Nat, Ok n o ∧ Hid (kahnF n es (n - o.length) o = kahn n es) ∧ OwnBools wr w.heap.size (marks n o) ∧ wr.ownsRow (w.heap.size + 1) 3 1 v6 o.length (o.map fun i : Nat => Value.int .i64 i) ∧ Below w.heap.size w wr ∧ w.heap.size < wr.heap.size)
    (fun v6 _ => n - lenOf v6)
  case atStart => exact ⟨[], Ok.nil n, rfl, hB, World.ownsRow_nil _ _ _ _, hb1, hsz⟩
  case round =>
    obtain ⟨o, hok, hk, hbs, hown, hbw, hsw⟩ := hrel
    clear hB hb1 hsz
    have hP : PairsAt wr v es := h.mono hbw
    go_wp2
    go_loop [7, 8] (fun v7 v8 => ∃ k : Nat, k ≤ n ∧ v8 = .int .i64 ((k : Int) - 1) ∧ v7 = .int .i64 (optI (nextFrom n es o k))) (fun _ v8 => (intOf v8 + 1).toNat)
    case atStart => exact ⟨n, Nat.le_refl _, rfl, by rw [nextFrom_end]; rfl⟩
    case round =>
      obtain ⟨k, hkn, rfl, rfl⟩ := hrel
      cases k with
      | zero =>
        rw [nextFrom_zero]
        cases hnx : nextOf n es o with
        | none =>
          have HR : Hid (kahn n es = o) := by rw [Hid, ← hk.out]; exact kahnF_none _ hnx
          have hol := hok.len
          clear HES hk hP hok hnx hbs
          simp only [optI]
          go_wp2
          rw [show o.length = (o.map fun i : Nat => (i : Int)).length by simp, show (o.map fun i : Nat => Value.int .i64 i) = (o.map fun i : Nat => (i : Int)).map (Value.int .i64) by simp] at hown
          go_ret
          exact ⟨_, rfl, by rw [HR.out]; exact ints_of_own hown (by simp; omega), hbw⟩
        | some i =>
          obtain ⟨hin, hrd⟩ := nextOf_some hnx
          have hol := (hok.snoc hin (rdy_notin hrd)).len
          simp only [List.length_append, List.length_singleton] at hol
          have HK : Hid (kahnF n es (n - (o ++ [i]).length) (o ++ [i]) = kahn n es) := by
            rw [Hid, ← hk.out]
            have : n - o.length = (n - (o ++ [i]).length) + 1 := by simp; omega
            rw [this]
            exact (kahnF_some _ hnx).symm
          have hok' := hok.snoc hin (rdy_notin hrd)
          have hfz := hbs.free i
          have c := hbs.cell (i := i) (by rw [marks_len]; omega)
          clear HES hk hP hok hnx hrd
          simp only [optI]
          go_wp2_with (first | (at_builtin; refine wpList_append_own _ rfl (.tmp 36) (.tmp 38) 26 rfl (w.heap.size + 1) 3 i0 (.int .i64 0) 1 8 Tryd.underlying26 hi hz0 hz1 hz2 rfl (by decide) _ _ _ rfl ((ownsRow_setCell_below hown (a := ⟨w.heap.size, i, none⟩) (Nat.lt_succ_self _) _).alloc _) ⟨wr.heap.size, 0, none⟩ 1 1 [.int .i64 i] rfl rfl ?c1 ?c2 ?c3 ?c4 ?c5 ?_))
          case c2 => first | rfl | (intro u hu; simp at hu; subst hu; rfl)
          case c3 => unfold maxLen; omega
          case c4 => omega
          case c5 => omega
          intro v' w1 hown' hgrow _
          have hbase : some w.heap.size ≠ u6.ownBlock := fun e => by have := (hown.lt _ e.symm).1; omega
          have hrow : ∀ k, u6.ownBlock = some k → w.heap.size ≤ k := fun k e => by have := (hown.lt _ e).1; omega
          have hbs' : OwnBools w1 w.heap.size (marks n (o ++ [i])) := by
            rw [marks_snoc]; exact ((hbs.set i true).alloc _).grown hgrow hbase
          have hbw' : Below w.heap.size w w1 := ((hbw.setCell (p := ⟨w.heap.size, i, none⟩) (Nat.le_refl _) _).alloc (by simp; omega) _).grown hgrow (by simp; omega) hrow
          have hsw' : w.heap.size < w1.heap.size := (Array.getElem?_eq_some_iff.1 hbs').1
          have hlv : lenOf v' = o.length + 1 := by
            rcases hown'.2 with ⟨_, h0⟩ | ⟨_, _, _, rfl, _⟩
            · omega
            · rfl
          have hlv6 : lenOf u6 = o.length := by
            rcases hown.2 with ⟨rfl, h0⟩ | ⟨_, _, _, rfl, _⟩
            · exact h0.symm
            · rfl
          have HLV := Lib.hid hlv
          have HLV6 := Lib.hid hlv6
          clear hgrow hown hbs hbw hsw c hfz hbase hrow hlv hlv6
          go_wp2
          go_roundw
          case rel => exact ⟨o ++ [i], hok', HK, hbs', by simpa using hown', hbw', hsw'⟩
          case measure => simp only [HLV.out, HLV6.out]; omega
      | succ m =>
        have c := hbs.cell (i := m) (by rw [marks_len]; omega)
        rw [marks_get n o m (by omega)] at c
        have hstep := nextFrom_step n es o m (by omega)
        rw [rdy_waits n es o m HES.out] at hstep
        obtain ⟨q, hq⟩ : ∃ q, q = nextFrom n es o (m + 1) := ⟨_, rfl⟩
        rw [← hq] at hstep ⊢
        obtain ⟨z, hz⟩ : ∃ z, z = o.contains m := ⟨_, rfl⟩
        rw [← hz] at hstep c
        have HS := Lib.hid hstep
        have W := waits_any v es w.heap.size (marks n o) m wr n hP hbs (marks_len n o) hn (fun e he => ⟨(HES.out e he).1, (HES.out e he).2.1⟩)
        clear HES hk hP hok hq hz hstep hbs hown
        cases z with
        | true =>
          have HS2 : Hid (nextFrom n es o m = q) := by rw [Hid, HS.out]; simp
          clear HS
          go_wp2_with (go_at_call 46; refine W.mono ?_; rintro e w' ⟨rfl, rfl⟩)
          go_round
          case rel => exact ⟨m, by omega, by go_num, by rw [HS2.out]⟩
          case measure => simp [intOf]
        | false =>
          go_wp2_with (go_at_call 46; refine W.mono ?_; rintro e w' ⟨rfl, rfl⟩)
          · have hw : (!waitsE es (marks n o) (m : Int)) = true := by assumption
            have HS2 : Hid (nextFrom n es o m = some m) := by rw [Hid, HS.out, hw]; simp
            go_round
            case rel => exact ⟨m, by omega, by go_num, by rw [HS2.out]; rfl⟩
            case measure => simp [intOf]
          · have hw : (!waitsE es (marks n o) (m : Int)) = false := by assumption
            have HS2 : Hid (nextFrom n es o m = q) := by rw [Hid, HS.out, hw]; simp
            go_round
            case rel => exact ⟨m, by omega, by go_num, by rw [HS2.out]⟩
            case measure => simp [intOf]

end Go.Proofs.YtelioljmhlabjaaDoor
