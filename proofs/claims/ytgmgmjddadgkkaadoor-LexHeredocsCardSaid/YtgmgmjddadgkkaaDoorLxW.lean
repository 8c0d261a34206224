/- The walk of Plain: a text as it would stand between quotes. -/
import Derived.Test.YtgmgmjddadgkkaaDoorLxV
import Derived.Test.YtgmgmjddadgkkaaDoorLexW
namespace Go.Proofs.YtgmgmjddadgkkaaDoor
open Go.RowKit
set_option maxRecDepth 100000
attribute [local go_sem] str_size str_toList str_get

def bcells (l : Bs) : List Value := l.map fun c => Value.int .u8 (c.toNat : Int)
theorem bcells_app (a b : Bs) : bcells (a ++ b) = bcells a ++ bcells b := List.map_append
/-- v is a slice of these bytes (not nil). -/
def BytesAt (w : World) (v : Value) (l : Bs) : Prop :=
  ∃ g cap, v = .slice (some ⟨g, 0, none⟩) l.length cap ∧ g < w.heap.size ∧ l.length ≤ cap ∧ ∀ j (hj : j < l.length), w.cell? ⟨g, j, none⟩ = some (.int .u8 ((l[j]'hj).toNat : Int))
theorem BytesAt.mono {w w' : World} {v : Value} {l : Bs} (h : BytesAt w v l) (hb : Below w.heap.size w w') : BytesAt w' v l := by
  obtain ⟨g, cap, hv, hg, hc, hk⟩ := h
  have := hb.size
  exact ⟨g, cap, hv, by omega, hc, fun j hj => (hb.cell (p := ⟨g, j, none⟩) hg).trans (hk j hj)⟩
theorem BytesAt.text {w : World} {v : Value} {l : Bs} (h : BytesAt w v l) : (convert 35 9 v).run Tryd.prog w = .ok (str l) w := by
  obtain ⟨g, cap, rfl, hg, hc, hk⟩ := h
  refine run_convert_bytes_back (P := Tryd.prog) w 35 9 5 ⟨g, 0, none⟩ cap l Tryd.underlying35 Tryd.underlying5 Tryd.underlying9 (fun j hj => ?_)
  have := hk j hj
  by_cases h0 : j = 0
  · subst h0; simpa [Addr.add] using this
  · simpa [Addr.add, h0] using this
theorem bytes_of_own {w : World} {base : Nat} {v : Value} {l : Bs} (h : w.ownsRow base 5 1 v l.length (bcells l)) (hn : l ≠ []) : BytesAt w v l := by
  have hp : 0 < l.length := by
    cases l with
    | nil => exact absurd rfl hn
    | cons _ _ => simp
  obtain ⟨g, cap, hv⟩ := Joins.ownsRow_form h hp
  have hg : v.ownBlock = some g := by rw [hv]; rfl
  have hcap : l.length ≤ cap := by
    rcases h.2 with ⟨h1, h2⟩ | ⟨g', cap', _, h1, _, _, h2, _⟩
    · omega
    · rw [hv] at h1
      cases h1
      exact h2
  refine ⟨g, cap, hv, (h.lt g hg).2, hcap, fun j hj => ?_⟩
  have := h.cells hg j (.int .u8 ((l[j]'hj).toNat : Int)) (by unfold bcells; rw [List.getElem?_map, List.getElem?_eq_getElem hj]; rfl)
  by_cases h0 : j = 0
  · subst h0; simpa [Addr.add] using this
  · simpa [Addr.add, h0] using this
theorem pln_take (l : Bs) (i : Nat) (h : i < l.length) : plnT (l.take (i + 1)) = plnT (l.take i) ++ plnB (l[i]'h) := by
  rw [List.take_add_one, List.getElem?_eq_getElem h]
  unfold plnT
  rw [List.flatMap_append]
  simp

set_option maxHeartbeats 8000000 in
theorem plain_any (l : Bs) (hn : l ≠ []) (hl : l.length ≤ 100000) (w : World) : Calls Tryd.prog 9 #[str l] w fun e w' => e = .returned (str (plnT l)) ∧ Below w.heap.size w w' := by
  have mixed : Tryd.prog.follows .mixedOrders = true := by kernel_rfl
  have hpos : 0 < l.length := by
    cases l with
    | nil => exact absurd rfl hn
    | cons _ _ => simp
  have HN := Lib.hid hn
  clear hn
  obtain ⟨i8, hi8, hz8, hs8, hy8⟩ := info_parts (P := Tryd.prog) (e := 5) (z := .int .u8 0) (size := 1) (bytes := 1) (by kernel_rfl)
  go_enter Tryd.func9, Tryd.ntmps9
  go_wp2
  go_loopg [3, 4] (l.length + 1) (fun gg v3 v4 wr => ∃ i : Nat, v4 = .int .i64 i ∧ i ≤ l.length ∧ l.length - i < gg ∧ Hid (wr.ownsRow w.heap.size 5 1 v3 (plnT (l.take i)).length (bcells (plnT (l.take i)))) ∧ Below w.heap.size w wr)
  case atStart => exact ⟨0, rfl, by omega, by omega, World.ownsRow_nil _ _ _ _, Below.refl _ _⟩
  case round =>
    obtain ⟨i, rfl, hi, hgk, HO, hbr⟩ := hrel
    by_cases hin : i < l.length
    · have hini : (i : Int) < (l.length : Int) := by omega
      have hwi : IntKind.i64.wrap ((i : Int) + 1) = (i : Int) + 1 := by rw [IntKind.wrap_i64]; omega
      have hpt := pln_take l i hin
      obtain ⟨c, hc⟩ : ∃ c, l[i] = c := ⟨_, rfl⟩
      rw [hc] at hpt
      have hle := pln_le (l.take i)
      have hlt : (l.take i).length ≤ l.length := by rw [List.length_take]; omega
      obtain ⟨T, hT⟩ : ∃ T, plnT (l.take i) = T := ⟨_, rfl⟩
      rw [hT] at hpt hle HO
      obtain ⟨P, cap, rfl⟩ := own_form HO.out
      have hsw := hbr.size
      have hown1 := fun o => own_below HO.out ((Below.refl wr.heap.size wr).alloc (Nat.le_refl _) o)
      have hownlt := HO.out.lt
      have hbA := fun o => hbr.alloc hsw o
      have HPT := Lib.hid hpt
      clear hT hpt HO
      by_cases e92 : c = 92
      · have t92 : ((c.toNat : Int) == 92) = true := (u8_eq c 92).trans (by simpa using e92)
        have HB := Lib.hid (show plnB c = [92, c] from by unfold plnB; rw [if_pos (by simp [e92])])
        clear e92
        go_wp2_with (at_builtin; refine wpList_append_own _ rfl _ _ 35 rfl w.heap.size 5 i8 (.int .u8 0) 1 1 Tryd.underlying35 hi8 hz8 hs8 hy8 rfl (by decide) _ _ _ rfl (hown1 _) ⟨wr.heap.size, 0, none⟩ 2 2 [.int .u8 92, .int .u8 (c.toNat : Int)] rfl rfl ?a921 ?a922 ?a923 ?a924 ?a925 ?_)
        case a921 =>
          intro j u hj
          match j, hj with
          | 0, hj => simp at hj; subst hj; simp [Addr.add]
          | 1, hj => simp at hj; subst hj; simp [Addr.add]
          | (j + 2), hj => simp at hj
        case a922 => intro u hu; simp at hu; rcases hu with rfl | rfl <;> rfl
        case a923 => unfold maxLen; omega
        case a924 => omega
        case a925 => simp; omega
        intro v' w7 hown' hgrow _
        have hb7 : Below w.heap.size w w7 := (hbA _).grown hgrow (by simp; omega) (fun k hk => (hownlt k hk).1)
        have HO7 := Lib.hid hown'
        clear hown' hgrow hown1 hownlt hbA
        go_wp2
        go_roundg (gk - 1)
        case rel =>
          refine ⟨i + 1, by simp, by omega, by omega, ?_, hb7⟩
          rw [HPT.out, show plnB c = [92, c] from HB.out, List.length_append, bcells_app]
          exact HO7.out
        case measure => omega
      have t92 : ((c.toNat : Int) == 92) = false := (u8_eq c 92).trans (by simpa using e92)
      by_cases e34 : c = 34
      · have t34 : ((c.toNat : Int) == 34) = true := (u8_eq c 34).trans (by simpa using e34)
        have HB := Lib.hid (show plnB c = [92, c] from by unfold plnB; rw [if_pos (by simp [e34])])
        clear e34
        go_wp2_with (at_builtin; refine wpList_append_own _ rfl _ _ 35 rfl w.heap.size 5 i8 (.int .u8 0) 1 1 Tryd.underlying35 hi8 hz8 hs8 hy8 rfl (by decide) _ _ _ rfl (hown1 _) ⟨wr.heap.size, 0, none⟩ 2 2 [.int .u8 92, .int .u8 (c.toNat : Int)] rfl rfl ?a341 ?a342 ?a343 ?a344 ?a345 ?_)
        case a341 =>
          intro j u hj
          match j, hj with
          | 0, hj => simp at hj; subst hj; simp [Addr.add]
          | 1, hj => simp at hj; subst hj; simp [Addr.add]
          | (j + 2), hj => simp at hj
        case a342 => intro u hu; simp at hu; rcases hu with rfl | rfl <;> rfl
        case a343 => unfold maxLen; omega
        case a344 => omega
        case a345 => simp; omega
        intro v' w7 hown' hgrow _
        have hb7 : Below w.heap.size w w7 := (hbA _).grown hgrow (by simp; omega) (fun k hk => (hownlt k hk).1)
        have HO7 := Lib.hid hown'
        clear hown' hgrow hown1 hownlt hbA
        go_wp2
        go_roundg (gk - 1)
        case rel =>
          refine ⟨i + 1, by simp, by omega, by omega, ?_, hb7⟩
          rw [HPT.out, show plnB c = [92, c] from HB.out, List.length_append, bcells_app]
          exact HO7.out
        case measure => omega
      have t34 : ((c.toNat : Int) == 34) = false := (u8_eq c 34).trans (by simpa using e34)
      by_cases e36 : c = 36
      · have t36 : ((c.toNat : Int) == 36) = true := (u8_eq c 36).trans (by simpa using e36)
        have HB := Lib.hid (show plnB c = [92, c] from by unfold plnB; rw [if_pos (by simp [e36])])
        clear e36
        go_wp2_with (at_builtin; refine wpList_append_own _ rfl _ _ 35 rfl w.heap.size 5 i8 (.int .u8 0) 1 1 Tryd.underlying35 hi8 hz8 hs8 hy8 rfl (by decide) _ _ _ rfl (hown1 _) ⟨wr.heap.size, 0, none⟩ 2 2 [.int .u8 92, .int .u8 (c.toNat : Int)] rfl rfl ?a361 ?a362 ?a363 ?a364 ?a365 ?_)
        case a361 =>
          intro j u hj
          match j, hj with
          | 0, hj => simp at hj; subst hj; simp [Addr.add]
          | 1, hj => simp at hj; subst hj; simp [Addr.add]
          | (j + 2), hj => simp at hj
        case a362 => intro u hu; simp at hu; rcases hu with rfl | rfl <;> rfl
        case a363 => unfold maxLen; omega
        case a364 => omega
        case a365 => simp; omega
        intro v' w7 hown' hgrow _
        have hb7 : Below w.heap.size w w7 := (hbA _).grown hgrow (by simp; omega) (fun k hk => (hownlt k hk).1)
        have HO7 := Lib.hid hown'
        clear hown' hgrow hown1 hownlt hbA
        go_wp2
        go_roundg (gk - 1)
        case rel =>
          refine ⟨i + 1, by simp, by omega, by omega, ?_, hb7⟩
          rw [HPT.out, show plnB c = [92, c] from HB.out, List.length_append, bcells_app]
          exact HO7.out
        case measure => omega
      have t36 : ((c.toNat : Int) == 36) = false := (u8_eq c 36).trans (by simpa using e36)
      by_cases e10 : c = 10
      · have t10 : ((c.toNat : Int) == 10) = true := (u8_eq c 10).trans (by simpa using e10)
        have HB := Lib.hid (show plnB c = [92, 110] by subst e10; rfl)
        clear e10
        go_wp2_with (at_builtin; refine wpList_append_own _ rfl _ _ 35 rfl w.heap.size 5 i8 (.int .u8 0) 1 1 Tryd.underlying35 hi8 hz8 hs8 hy8 rfl (by decide) _ _ _ rfl (hown1 _) ⟨wr.heap.size, 0, none⟩ 2 2 [.int .u8 92, .int .u8 110] rfl rfl ?a101 ?a102 ?a103 ?a104 ?a105 ?_)
        case a101 =>
          intro j u hj
          match j, hj with
          | 0, hj => simp at hj; subst hj; simp [Addr.add]
          | 1, hj => simp at hj; subst hj; simp [Addr.add]
          | (j + 2), hj => simp at hj
        case a102 => intro u hu; simp at hu; rcases hu with rfl | rfl <;> rfl
        case a103 => unfold maxLen; omega
        case a104 => omega
        case a105 => simp; omega
        intro v' w7 hown' hgrow _
        have hb7 : Below w.heap.size w w7 := (hbA _).grown hgrow (by simp; omega) (fun k hk => (hownlt k hk).1)
        have HO7 := Lib.hid hown'
        clear hown' hgrow hown1 hownlt hbA
        go_wp2
        go_roundg (gk - 1)
        case rel =>
          refine ⟨i + 1, by simp, by omega, by omega, ?_, hb7⟩
          rw [HPT.out, show plnB c = [92, 110] from HB.out, List.length_append, bcells_app]
          exact HO7.out
        case measure => omega
      have t10 : ((c.toNat : Int) == 10) = false := (u8_eq c 10).trans (by simpa using e10)
      by_cases e9 : c = 9
      · have t9 : ((c.toNat : Int) == 9) = true := (u8_eq c 9).trans (by simpa using e9)
        have HB := Lib.hid (show plnB c = [92, 116] by subst e9; rfl)
        clear e9
        go_wp2_with (at_builtin; refine wpList_append_own _ rfl _ _ 35 rfl w.heap.size 5 i8 (.int .u8 0) 1 1 Tryd.underlying35 hi8 hz8 hs8 hy8 rfl (by decide) _ _ _ rfl (hown1 _) ⟨wr.heap.size, 0, none⟩ 2 2 [.int .u8 92, .int .u8 116] rfl rfl ?a91 ?a92 ?a93 ?a94 ?a95 ?_)
        case a91 =>
          intro j u hj
          match j, hj with
          | 0, hj => simp at hj; subst hj; simp [Addr.add]
          | 1, hj => simp at hj; subst hj; simp [Addr.add]
          | (j + 2), hj => simp at hj
        case a92 => intro u hu; simp at hu; rcases hu with rfl | rfl <;> rfl
        case a93 => unfold maxLen; omega
        case a94 => omega
        case a95 => simp; omega
        intro v' w7 hown' hgrow _
        have hb7 : Below w.heap.size w w7 := (hbA _).grown hgrow (by simp; omega) (fun k hk => (hownlt k hk).1)
        have HO7 := Lib.hid hown'
        clear hown' hgrow hown1 hownlt hbA
        go_wp2
        go_roundg (gk - 1)
        case rel =>
          refine ⟨i + 1, by simp, by omega, by omega, ?_, hb7⟩
          rw [HPT.out, show plnB c = [92, 116] from HB.out, List.length_append, bcells_app]
          exact HO7.out
        case measure => omega
      have t9 : ((c.toNat : Int) == 9) = false := (u8_eq c 9).trans (by simpa using e9)
      by_cases e13 : c = 13
      · have t13 : ((c.toNat : Int) == 13) = true := (u8_eq c 13).trans (by simpa using e13)
        have HB := Lib.hid (show plnB c = [92, 114] by subst e13; rfl)
        clear e13
        go_wp2_with (at_builtin; refine wpList_append_own _ rfl _ _ 35 rfl w.heap.size 5 i8 (.int .u8 0) 1 1 Tryd.underlying35 hi8 hz8 hs8 hy8 rfl (by decide) _ _ _ rfl (hown1 _) ⟨wr.heap.size, 0, none⟩ 2 2 [.int .u8 92, .int .u8 114] rfl rfl ?a131 ?a132 ?a133 ?a134 ?a135 ?_)
        case a131 =>
          intro j u hj
          match j, hj with
          | 0, hj => simp at hj; subst hj; simp [Addr.add]
          | 1, hj => simp at hj; subst hj; simp [Addr.add]
          | (j + 2), hj => simp at hj
        case a132 => intro u hu; simp at hu; rcases hu with rfl | rfl <;> rfl
        case a133 => unfold maxLen; omega
        case a134 => omega
        case a135 => simp; omega
        intro v' w7 hown' hgrow _
        have hb7 : Below w.heap.size w w7 := (hbA _).grown hgrow (by simp; omega) (fun k hk => (hownlt k hk).1)
        have HO7 := Lib.hid hown'
        clear hown' hgrow hown1 hownlt hbA
        go_wp2
        go_roundg (gk - 1)
        case rel =>
          refine ⟨i + 1, by simp, by omega, by omega, ?_, hb7⟩
          rw [HPT.out, show plnB c = [92, 114] from HB.out, List.length_append, bcells_app]
          exact HO7.out
        case measure => omega
      have t13 : ((c.toNat : Int) == 13) = false := (u8_eq c 13).trans (by simpa using e13)
      have HB := Lib.hid (show plnB c = [c] by unfold plnB; rw [if_neg (by simp [e92, e34, e36]), if_neg e10, if_neg e9, if_neg e13])
      clear e92 e34 e36 e10 e9 e13
      go_wp2_with (at_builtin; refine wpList_append_own _ rfl _ _ 35 rfl w.heap.size 5 i8 (.int .u8 0) 1 1 Tryd.underlying35 hi8 hz8 hs8 hy8 rfl (by decide) _ _ _ rfl (hown1 _) ⟨wr.heap.size, 0, none⟩ 1 1 [.int .u8 (c.toNat : Int)] rfl rfl ?b1 ?b2 ?b3 ?b4 ?b5 ?_)
      case b1 =>
        intro j u hj
        match j, hj with
        | 0, hj => simp at hj; subst hj; simp [Addr.add]
        | (j + 1), hj => simp at hj
      case b2 => intro u hu; simp at hu; subst hu; rfl
      case b3 => unfold maxLen; omega
      case b4 => omega
      case b5 => simp; omega
      intro v' w7 hown' hgrow _
      have hb7 : Below w.heap.size w w7 := (hbA _).grown hgrow (by simp; omega) (fun k hk => (hownlt k hk).1)
      have HO7 := Lib.hid hown'
      clear hown' hgrow hown1 hownlt hbA
      go_wp2
      go_roundg (gk - 1)
      case rel =>
        refine ⟨i + 1, by simp, by omega, by omega, ?_, hb7⟩
        rw [HPT.out, show plnB c = [c] from HB.out, List.length_append, bcells_app]
        exact HO7.out
      case measure => omega
    · have hie : i = l.length := by omega
      subst hie
      have ho := HO.out
      rw [List.take_length] at ho
      have hne : plnT l ≠ [] := by
        intro h
        have hn := HN.out
        cases l with
        | nil => exact hn rfl
        | cons c r =>
          have e : plnT (c :: r) = plnB c ++ plnT r := rfl
          rw [e] at h
          have := (List.append_eq_nil_iff.1 h).1
          revert this
          unfold plnB
          repeat' split
          all_goals simp
      obtain ⟨P, cap, rfl⟩ := own_form ho
      have hB := bytes_of_own ho hne
      have htx := hB.text
      clear ho hB HO
      go_wp2
      go_ret
      exact ⟨rfl, hbr⟩

end Go.Proofs.YtgmgmjddadgkkaaDoor
