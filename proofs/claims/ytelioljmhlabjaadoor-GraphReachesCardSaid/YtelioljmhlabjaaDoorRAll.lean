/- Walk of the reference's All. -/
import Derived.Test.YtelioljmhlabjaaDoorRReach
import Derived.Test.YtelioljmhlabjaaDoorReach
namespace Go.Proofs.YtelioljmhlabjaaDoor
open Go.RowKit
set_option maxRecDepth 100000

theorem marks_put {n : Nat} {l l' : List Nat} {i : Nat} {z : Bool} (hz : z = l'.contains i) (h : ∀ j, j ≠ i → (j ∈ l' ↔ j ∈ l)) : (marks n l).set i z = marks n l' := by
  apply List.ext_getElem?
  intro j
  unfold marks
  by_cases e : i = j
  · subst e
    by_cases hi : i < n
    · simp [hi, hz]
    · simp [hi]
  · rw [List.getElem?_set_ne e]
    by_cases hj : j < n
    · have := h j (fun h => e h.symm)
      simp [hj, this]
    · simp [hj]

theorem ints_take (l : List Nat) (k : Nat) : (ints l).getD k 0 = ((l.getD k 0 : Nat) : Int) := by
  unfold ints
  simp only [List.getD, List.getElem?_map]
  cases l[k]? <;> rfl

structure AMem (w wr : World) (n : Nat) (o : List Nat) : Prop where
  fd : OwnBools wr w.heap.size (marks n o)
  bel : Below w.heap.size w wr
  sz : w.heap.size < wr.heap.size

theorem AMem.set {w wr : World} {n : Nat} {o o' : List Nat} (h : AMem w wr n o) (i : Nat) (z : Bool) (hz : z = o'.contains i) (hh : ∀ j, j ≠ i → (j ∈ o' ↔ j ∈ o)) : AMem w (wr.setCell ⟨w.heap.size, i, none⟩ (.bool z)) n o' :=
  ⟨by rw [← marks_put hz hh]; exact h.fd.set i z, h.bel.setCell (Nat.le_refl _) _, by simpa [World.setCell] using h.sz⟩
theorem AMem.below {w wr w' : World} {n : Nat} {o : List Nat} (h : AMem w wr n o) (hb : Below wr.heap.size wr w') : AMem w w' n o :=
  ⟨(hb.block _ h.sz).trans h.fd, h.bel.trans (hb.mono h.bel.size), Nat.lt_of_lt_of_le h.sz hb.size⟩

theorem AMem.congr {w wr : World} {n : Nat} {o o' : List Nat} (h : AMem w wr n o) (hh : ∀ k, k < n → (k ∈ o ↔ k ∈ o')) : AMem w wr n o' :=
  ⟨by rw [← marks_congr hh]; exact h.fd, h.bel, h.sz⟩

/-- What is found, and what the new search has found below i. -/
def mixL (o r : List Nat) (i : Nat) : List Nat := o ++ r.filter fun j => decide (j < i)
theorem mem_mixL {o r : List Nat} {i j : Nat} : j ∈ mixL o r i ↔ j ∈ o ∨ (j ∈ r ∧ j < i) := by simp [mixL]

open Classical in
theorem allL_filter (n : Nat) (es : List (Int × Int)) (fl : List Nat) : (List.range n).filter (fun j => (allL n es fl).contains j) = allL n es fl := by
  conv => rhs; unfold allL
  apply List.filter_congr
  intro j hj
  rw [Bool.eq_iff_iff, List.contains_eq_mem, decide_eq_true_eq, mem_allL, decide_eq_true_eq]
  simp at hj
  simp [hj]

def AllPost (n : Nat) (es : List (Int × Int)) (fl : List Nat) (w : World) (e : Ending) (w' : World) : Prop :=
  ∃ v', e = .returned v' ∧ IntsAt w' v' (ints (allL n es fl)) ∧ Below w.heap.size w w'

set_option maxHeartbeats 1600000 in
theorem all_any (v u : Value) (es : List (Int × Int)) (fl : List Nat) (n : Nat) (w : World) (h : PairsAt w v es) (hf : IntsAt w u (ints fl)) (hn : n ≤ 512) (hes : ∀ e ∈ es, 0 ≤ e.1 ∧ e.1 < n ∧ 0 ≤ e.2 ∧ e.2 < n) (hfl : ∀ f ∈ fl, f < n) :
    Calls Tryd.prog 24 #[.int .i64 n, v, u] w (AllPost n es fl w) := by
  obtain ⟨i4, hi4, hz04, hz14, hz24⟩ := info_parts Tryd.info4
  obtain ⟨i0, hi, hz0, hz1, hz2⟩ := info_parts Tryd.info3
  obtain ⟨ao, cap, hu, hlf, _⟩ := hf.val
  subst hu
  rw [ints_len] at hlf hf
  have HES := Lib.hid hes
  have HFL := Lib.hid hfl
  clear hes hfl
  rw [ints_len]
  go_enter Tryd.func24, Tryd.ntmps24
  go_wp2_with (first | (at_make; refine wpList_make_full _ rfl _ _ 42 rfl w.heap.size 4 i4 (.bool false) 1 Tryd.underlying42 hi4 hz04 hz14 _ _ _ _ n rfl rfl rfl rfl (by rw [hz24]; omega) (by unfold maxLen; omega) (Nat.le_refl _) ?_))
  intro w1 hown hgrow
  have hM : AMem w w1 n (allL n es (fl.take 0)) := by
    have hb := ownsRow_block hown
    refine ⟨?_, (Below.refl _ _).grown hgrow (Nat.le_refl _) (fun k hk => by cases hk), (Array.getElem?_eq_some_iff.1 hb).1⟩
    have : allL n es (fl.take 0) = [] := by simp [allL]
    rw [this]
    unfold OwnBools
    rw [marks_nil, ← made_bools]
    exact hb
  clear hown hgrow
  go_wp2
  go_loopw [17] (fun v17 wr => ∃ k : Nat, k ≤ fl.length ∧ v17 = .int .i64 k ∧ AMem w wr n (allL n es (fl.take k))) (fun v17 _ => fl.length - (intOf v17).toNat)
  case atStart => exact ⟨0, by omega, rfl, hM⟩
  case round =>
    obtain ⟨k, hk, rfl, hm⟩ := hrel
    clear hM
    by_cases hlt : k < fl.length
    · obtain ⟨b, off, rfl, hbl, hc⟩ := hf.get (i := k) (by rw [ints_len]; exact hlt)
      rw [ints_take] at hc
      have c1 := (hm.bel.cell (p := ⟨b, off + k, none⟩) hbl).trans hc
      obtain ⟨f, hfx⟩ : ∃ f, f = fl.getD k 0 := ⟨_, rfl⟩
      have hmem : fl.getD k 0 ∈ fl := by simp [List.getD, hlt]
      have hts := take_next fl k 0 hlt
      rw [← hfx] at hmem hts c1
      have hfn := HFL.out f hmem
      have df := hm.fd.free f
      have d1 := hm.fd.cell (i := f) (by rw [marks_len]; exact hfn)
      obtain ⟨z, hz⟩ : ∃ z, z = (marks n (allL n es (fl.take k))).getD f false := ⟨_, rfl⟩
      rw [← hz] at d1
      clear hz
      have hfn2 : (f : Int) < n := by omega
      have hP : ∀ w', Below wr.heap.size wr w' → PairsAt w' v es := fun w' hb => h.mono (hm.bel.trans (hb.mono hm.bel.size))
      have hm1 := hm.set f true (o' := allL n es (fl.take k) ++ [f]) (by simp) (fun j hj => by simp [hj])
      have HM1 := Lib.hid hm1
      have RR := rreach_any v es n f (-1) (-1) (wr.setCell ⟨w.heap.size, f, none⟩ (.bool true)) (h.mono hm1.bel) hn HES.out
      have HN : Hid (∀ j, j < n → (j ∈ allL n es (fl.take (k + 1)) ↔ (j ∈ allL n es (fl.take k) ++ [f]) ∨ j ∈ wayL n es (-1, -1) f)) := fun j hj => by
        rw [List.mem_append, List.mem_singleton, mem_allL, mem_allL, mem_wayL, hts]
        simp only [hj, true_and, List.mem_append, List.mem_singleton]
        constructor
        · rintro ⟨g, hg | rfl, hw⟩
          · exact Or.inl (Or.inl ⟨g, hg, hw⟩)
          · rcases hw with rfl | hw
            · exact Or.inl (Or.inr rfl)
            · exact Or.inr hw
        · rintro ((⟨g, hg, hw⟩ | rfl) | hw)
          · exact ⟨g, Or.inl hg, hw⟩
          · exact ⟨j, Or.inr rfl, Or.inl rfl⟩
          · exact ⟨f, Or.inr rfl, Or.inr hw⟩
      have hsz := hm.sz
      clear hfx hc hts hm hm1 hmem
      go_wp2_with fail
      refine RR.mono ?_
      rintro e w2 ⟨rb, rfl, hrb, hb2, hrl⟩
      have hm2 : AMem w w2 n (mixL (allL n es (fl.take k) ++ [f]) (wayL n es (-1, -1) f) 0) := (HM1.out.below hb2).congr (fun j _ => by rw [mem_mixL]; simp)
      have hrw : w.heap.size < rb := by simp at hrl; omega
      generalize allL n es (fl.take k) ++ [f] = o1 at hm2 HN
      generalize wayL n es (-1, -1) f = r at hm2 HN hrb
      clear RR HM1 hb2 hrl df d1 hP c1
      go_wp2
      go_loopw [36] (fun v36 wr2 => ∃ i : Nat, i ≤ n ∧ v36 = .int .i64 i ∧ AMem w wr2 n (mixL o1 r i) ∧ OwnBools wr2 rb (marks n r)) (fun v36 _ => n - (intOf v36).toNat)
      case atStart => exact ⟨0, by omega, rfl, hm2, hrb⟩
      case round =>
        obtain ⟨i, hi', rfl, hm3, hr3⟩ := hrel
        clear hm2 hrb
        by_cases hin : i < n
        · have d1 := hm3.fd.cell (i := i) (by rw [marks_len]; exact hin)
          have d2 := hr3.cell (i := i) (by rw [marks_len]; exact hin)
          have df := hm3.fd.free i
          rw [marks_get n _ i hin] at d1 d2
          have hset : ∀ z, z = ((mixL o1 r i).contains i || r.contains i) → ∃ i' : Nat, i' ≤ n ∧ Value.int .i64 ((i : Int) + 1) = .int .i64 i' ∧ AMem w (wr.setCell ⟨w.heap.size, i, none⟩ (.bool z)) n (mixL o1 r i') ∧ OwnBools (wr.setCell ⟨w.heap.size, i, none⟩ (.bool z)) rb (marks n r) := by
            intro z hz
            refine ⟨i + 1, by omega, by go_num, hm3.set i z ?_ ?_, ?_⟩
            · rw [hz, Bool.eq_iff_iff]
              simp only [Bool.or_eq_true, List.contains_eq_mem, decide_eq_true_eq, mem_mixL]
              simp
            · intro j hj
              rw [mem_mixL, mem_mixL]
              have : j < i + 1 ↔ j < i := by omega
              rw [this]
            · show (wr.setCell ⟨w.heap.size, i, none⟩ (.bool z)).heap[rb]? = _
              rw [Below.heap_setCell _ _ _ _ (by show rb ≠ w.heap.size; omega)]
              exact hr3
          have HS := Lib.hid hset
          obtain ⟨z1, hz1⟩ : ∃ z, z = (mixL o1 r i).contains i := ⟨_, rfl⟩
          obtain ⟨z2, hz2⟩ : ∃ z, z = r.contains i := ⟨_, rfl⟩
          rw [← hz1] at d1 HS
          rw [← hz2] at d2 HS
          clear hz1 hz2 hset hm3 hr3 HN
          cases z1 with
          | true =>
            go_wp2
            go_roundw
            case rel => exact HS.out true rfl
            case measure => simp [intOf]; omega
          | false =>
            go_wp2
            go_roundw
            case rel => exact HS.out z2 (by simp)
            case measure => simp [intOf]; omega
        · have hin' : i = n := by omega
          have HM3 : Hid (AMem w wr n (allL n es (fl.take (k + 1)))) := hm3.congr (fun j hj => by
            rw [mem_mixL, HN.out j hj, hin']; simp [hj])
          clear hm3 hr3 HN hin'
          go_wp2
          go_roundw
          case rel => exact ⟨k + 1, by omega, by go_num, HM3.out⟩
          case measure => simp [intOf]; omega
    · have hk' : k = fl.length := by omega
      rw [hk', List.take_length] at hm
      clear hf hk'
      obtain ⟨o, ho⟩ : ∃ o, o = allL n es fl := ⟨_, rfl⟩
      have HO : Hid (∀ w' v', IntsAt w' v' (ints ((List.range n).filter fun j => o.contains j)) → Below w.heap.size w w' → AllPost n es fl w (.returned v') w') := fun w' v' h1 h2 => by
        refine ⟨v', rfl, ?_, h2⟩
        rw [ho, allL_filter] at h1
        exact h1
      rw [← ho] at hm
      clear ho
      go_wp2
      go_loopw [11, 56] (fun v11 v56 wr => ∃ i : Nat, i ≤ n ∧ v56 = .int .i64 i ∧ AMem w wr n o ∧ wr.ownsRow (w.heap.size + 1) 3 1 v11 ((List.range i).filter fun j => o.contains j).length ((ints ((List.range i).filter fun j => o.contains j)).map (Value.int .i64))) (fun _ v56 _ => n - (intOf v56).toNat)
      case atStart => exact ⟨0, by omega, rfl, hm, World.ownsRow_nil _ _ _ _⟩
      case round =>
        obtain ⟨i, hi', rfl, hm3, hown⟩ := hrel
        clear hm
        have hfl : ((List.range i).filter fun j => o.contains j).length ≤ i := by
          have := List.length_filter_le (fun j => o.contains j) (List.range i)
          simpa using this
        by_cases hin : i < n
        · have d1 := hm3.fd.cell (i := i) (by rw [marks_len]; exact hin)
          rw [marks_get n _ i hin] at d1
          have HL : Hid ((List.range (i + 1)).filter (fun j => o.contains j) = (List.range i).filter (fun j => o.contains j) ++ if o.contains i = true then [i] else []) := by
            rw [Hid, List.range_succ, List.filter_append]
            simp only [List.filter_cons, List.filter_nil]
          obtain ⟨l, hl⟩ : ∃ l, l = (List.range i).filter fun j => o.contains j := ⟨_, rfl⟩
          obtain ⟨z, hz⟩ : ∃ z, z = o.contains i := ⟨_, rfl⟩
          rw [← hl] at hown hfl HL
          rw [← hz] at d1 HL
          clear hl hz
          cases z with
          | true =>
            have hsz := hm3.sz
            go_wp2_with (at_builtin; refine wpList_append_own _ rfl (.tmp 63) (.tmp 65) 26 rfl (w.heap.size + 1) 3 i0 (.int .i64 0) 1 8 Tryd.underlying26 hi hz0 hz1 hz2 rfl (by decide) _ _ _ rfl (hown.alloc _) ⟨wr.heap.size, 0, none⟩ 1 1 [.int .i64 (i : Int)] rfl rfl ?c1 ?c2 ?c3 ?c4 ?c5 ?_)
            case c2 => first | rfl | exact ⟨rfl, rfl⟩ | (intro u hu; simp at hu; subst hu; rfl)
            case c3 => unfold maxLen; omega
            case c4 => omega
            case c5 => first | omega | (simp; omega)
            intro v' w4 hown4 hgrow _
            have hm4 : AMem w w4 n o := by
              have hrow : some w.heap.size ≠ u11.ownBlock := fun e => by have := (hown.lt _ e.symm).1; omega
              refine ⟨(hm3.fd.alloc _).grown hgrow hrow, (hm3.bel.alloc hm3.bel.size _).grown hgrow (by have := hm3.bel.size; simp; omega) (fun k e => by have := (hown.lt _ e).1; omega), ?_⟩
              have := hgrow.size; simp at this; omega
            have hown5 : w4.ownsRow (w.heap.size + 1) 3 1 v' (l ++ [i]).length ((ints (l ++ [i])).map (Value.int .i64)) := by
              simpa [ints] using hown4
            have HL2 : Hid ((List.range (i + 1)).filter (fun j => o.contains j) = l ++ [i]) := by rw [Hid, HL.out]; rfl
            clear hown hown4 hgrow hm3 HL
            go_wp2
            go_roundw
            case rel => exact ⟨i + 1, by omega, by go_num, hm4, by rw [HL2.out]; exact hown5⟩
            case measure => simp [intOf]; omega
          | false =>
            have HL2 : Hid ((List.range (i + 1)).filter (fun j => o.contains j) = l) := by rw [Hid, HL.out]; simp
            clear HL
            go_wp2
            go_roundw
            case rel => exact ⟨i + 1, by omega, by go_num, hm3, by rw [HL2.out]; exact hown⟩
            case measure => simp [intOf]; omega
        · have hin' : i = n := by omega
          rw [hin', ← ints_len] at hown
          have HF := Lib.hid (HO.out wr u11 (ints_of_own hown (by rw [ints_len]; rw [hin'] at hfl; omega)) hm3.bel)
          clear hm3 hown hfl hin' HO
          go_wp2
          go_ret
          exact HF.out
end Go.Proofs.YtelioljmhlabjaaDoor
