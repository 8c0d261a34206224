/- The walk of Scan. -/
import Derived.Test.YtgmgmjddadgkkaaDoorLxQ
import Derived.Test.YtgmgmjddadgkkaaDoorLexS
namespace Go.Proofs.YtgmgmjddadgkkaaDoor
open Go.RowKit
set_option maxRecDepth 100000

/-- A row of tokens, cell by cell. -/
def tokCells (ts : List Tok) : List Value := ts.flatMap fun t => [.int .i64 t.1, str t.2.1, .int .i64 t.2.2]
/-- What Scan leaves behind. -/
def ScanPost (w : World) (R : Except (Int × Nat) (List Tok)) (e : Ending) (w' : World) : Prop :=
  Below w.heap.size w w' ∧
  match R with
  | .error x => ∃ d, w.heap.size ≤ d ∧ e = .returned (.tuple #[.slice none 0 0, .pointer (some ⟨d, 0, none⟩)]) ∧ w'.heap[d]? = some (.cells #[.int .i64 x.1, .string ⟨#[]⟩, .int .i64 x.2] 29 (0, 0))
  | .ok ts => ∃ v, e = .returned (.tuple #[v, .pointer none]) ∧ w'.ownsRow w.heap.size 32 3 v ts.length (tokCells ts)
theorem new_last (w : World) (o : Obj) : (w.alloc o).heap[w.heap.size]? = some o := by
  show (w.heap.push o)[w.heap.size]? = some o
  simp
theorem badF_end (l : Bs) (s : ByteArray) (f pos : Nat) (h : ¬ pos < s.size) : badF l s f pos = none := by
  cases f with
  | zero => rfl
  | succ f => simp [badF, h]
theorem badF_cons (l : Bs) (s : ByteArray) (f pos : Nat) (h : pos < s.size) : badF l s (f + 1) pos =
    if (Utf8.decode s pos).1 = 65533 ∧ ([239, 191, 189] : Bs).isPrefixOf (l.drop pos) = false then some pos else badF l s f (pos + (Utf8.decode s pos).2) := by
  rw [badF, if_pos h]

/-- What stands ahead, and what follows. -/
def preT (ts : List Tok) : Except (Int × Nat) (List Tok) → Except (Int × Nat) (List Tok)
  | .error x => .error x
  | .ok l => .ok (ts ++ l)
theorem set_size (w : World) (p : Addr) (v : Value) : (w.setCell p v).heap.size = w.heap.size := by simp [World.setCell]
theorem tok_snoc (ts : List Tok) (k : Int) (t : Bs) (a : Nat) : tokCells (ts ++ [(k, t, a)]) = tokCells ts ++ [.int .i64 k, str t, .int .i64 a] := by
  unfold tokCells
  rw [List.flatMap_append]
  rfl
theorem set_at {w : World} {b : Nat} {cs : Array Value} {T : TypeId} {fz : Nat × Nat} (h : w.heap[b]? = some (.cells cs T fz)) (o : Nat) (u : Value) : (w.setCell ⟨b, o, none⟩ u).heap[b]? = some (.cells (cs.setIfInBounds o u) T fz) := by
  show (w.heap.modify b _)[b]? = _
  rw [Array.getElem?_modify, if_pos rfl, h]
  rfl
theorem set3 {W W' : World} {b : Nat} {x0 x1 x2 u0 u1 u2 : Value} {T : TypeId} (h : W.heap[b]? = some (.cells #[x0, x1, x2] T (0, 0))) (hW : W' = ((W.setCell ⟨b, 0, none⟩ u0).setCell ⟨b, 1, none⟩ u1).setCell ⟨b, 2, none⟩ u2) :
    W'.heap[b]? = some (.cells #[u0, u1, u2] T (0, 0)) ∧ W'.heap.size = W.heap.size := by
  subst hW
  exact ⟨set_at (set_at (set_at h 0 u0) 1 u1) 2 u2, by simp only [set_size]⟩
theorem own_form {w : World} {base e size n : Nat} {v : Value} {xs : List Value} (h : w.ownsRow base e size v n xs) : ∃ P cap, v = .slice P n cap := by
  rcases h.2 with ⟨h1, h2⟩ | ⟨g, cap, _, h1, _⟩
  · exact ⟨none, 0, by rw [h1, h2]⟩
  · exact ⟨_, _, h1⟩
theorem preT_nil (x : Except (Int × Nat) (List Tok)) : preT [] x = x := by cases x <;> rfl

attribute [local go_sem] str_size str_toList str_get
set_option maxHeartbeats 8000000 in
theorem scan_any (l : Bs) (hl : l.length ≤ 9223372036854775807) (w : World) (hM : MaxW w) :
    Calls Tryd.prog 8 #[str l] w fun e w' => ScanPost w (scanP l) e w' := by
  have mixed : Tryd.prog.follows .mixedOrders = true := by kernel_rfl
  obtain ⟨R, hR⟩ : ∃ R, scanP l = R := ⟨_, rfl⟩
  rw [hR]
  unfold scanP at hR
  by_cases hlen : 16384 < l.length
  · rw [if_pos hlen] at hR
    subst hR
    have hlen' : (16384 : Int) < (l.length : Int) := by omega
    clear hlen
    go_enter Tryd.func8, Tryd.ntmps8
    go_wp2
    go_ret2
    exact ⟨(Below.refl _ w).alloc (Nat.le_refl _) _, _, Nat.le_refl _, rfl, new_last _ _⟩
  · rw [if_neg hlen] at hR
    have hlen' : ¬ (16384 : Int) < (l.length : Int) := by omega
    have hlN : l.length ≤ 16384 := by omega
    obtain ⟨S, hS⟩ : ∃ S, ByteArray.mk l.toArray = S := ⟨_, rfl⟩
    have hSs : S.size = l.length := by rw [← hS]; exact str_size l
    rw [hS] at hR
    have HR := Lib.hid hR
    clear hR
    go_enter Tryd.func8, Tryd.ntmps8
    go_wp2
    go_loopw [] (fun wr => ∃ (pos fuel : Nat), wr.heap[w.heap.size]? = some (.stringIter S pos) ∧ Below w.heap.size w wr ∧ Hid (badF l S fuel pos = badF l S (l.length + 1) 0) ∧ S.size < pos + fuel) (fun wr => S.size - wr.iterPos w.heap.size)
    case atStart =>
      refine ⟨0, l.length + 1, ?_, (Below.refl _ w).alloc (Nat.le_refl _) _, rfl, by omega⟩
      rw [← hS]
      simpa using World.iter_heap w ⟨l.toArray⟩ 0
    case round =>
      obtain ⟨pos, fuel, hit, hbw, HB, hfu⟩ := hrel
      have hsz : w.heap.size < wr.heap.size := (Array.getElem?_eq_some_iff.1 hit).1
      by_cases hp : pos < S.size
      · obtain ⟨fuel, rfl⟩ : ∃ f, fuel = f + 1 := ⟨fuel - 1, by omega⟩
        have hnx : ∀ ty, (Instr.next (.pointer (some ⟨w.heap.size, 0, none⟩)) true ty).run Tryd.prog wr = _ := fun ty => Lib.run_next_any_at wr w.heap.size S pos ty hit hp
        have hw1 := width_pos S pos hp
        have hit2 := Lib.iterAt_heap wr w.heap.size S pos (pos + (Utf8.decode S pos).2) hit
        have hbw2 := Lib.below_iterAt hbw (k := w.heap.size) (Nat.le_refl _) S (pos + (Utf8.decode S pos).2)
        obtain ⟨W3, hW3⟩ : ∃ W3, wr.iterAt w.heap.size S (pos + (Utf8.decode S pos).2) = W3 := ⟨_, rfl⟩
        rw [hW3] at hnx hit2 hbw2
        have hb := HB.out
        rw [badF_cons l S fuel pos hp] at hb
        obtain ⟨rr, hrr⟩ : ∃ rr, (Utf8.decode S pos).1 = rr := ⟨_, rfl⟩
        obtain ⟨wd, hwd⟩ : ∃ wd, (Utf8.decode S pos).2 = wd := ⟨_, rfl⟩
        rw [hrr] at hnx hb
        rw [hwd] at hit2 hw1 hb
        have hpl : (pos : Int) ≤ (l.length : Int) := by omega
        have hm3 : S.size - W3.iterPos w.heap.size < S.size - wr.iterPos w.heap.size := by
          simp only [World.iterPos, hit2, hit]
          omega
        have hsz3 : w.heap.size ≤ W3.heap.size := hbw2.size
        clear hrr hwd hW3 hbw
        by_cases h3 : rr = 65533
        · subst h3
          have HP := fun W => Tryd.strings_HasPrefix ⟨(l.drop pos).toArray⟩ ⟨#[239, 191, 189]⟩ W
          have hcut := cut_from l pos
          rw [hS] at hcut
          obtain ⟨P, hP⟩ : ∃ P, ([239, 191, 189] : Bs).isPrefixOf (l.drop pos) = P := ⟨_, rfl⟩
          have HP : ∀ W, Calls Tryd.prog 13 #[.string ⟨(l.drop pos).toArray⟩, .string ⟨#[239, 191, 189]⟩] W fun e w' => e = .returned (.bool P) ∧ w' = W := fun W => by rw [← hP]; exact HP W
          rw [hP] at hb
          clear hP
          cases P with
          | true =>
            rw [if_neg (by simp)] at hb
            have HB2 := Lib.hid hb
            clear hb HB
            go_wp2_with fail
            refine (HP _).mono ?_
            rintro e W4 ⟨rfl, hW4⟩
            rw [hW4]
            go_wp2
            go_roundw
            case rel => exact ⟨pos + wd, fuel, hit2, hbw2, HB2, by omega⟩
            case measure => exact hm3
          | false =>
            rw [if_pos ⟨rfl, rfl⟩] at hb
            have hr := HR.out
            rw [← hb] at hr
            simp only at hr
            subst hr
            clear hb HB HR
            go_wp2_with fail
            refine (HP _).mono ?_
            rintro e W4 ⟨rfl, hW4⟩
            rw [hW4]
            clear hW4 HP
            go_wp2
            go_ret2
            exact ⟨hbw2.alloc hsz3 _, _, hsz3, rfl, new_last _ _⟩
        · rw [if_neg (fun h => h3 h.1)] at hb
          have HB2 := Lib.hid hb
          have q3 : ((rr : Int) == 65533) = false := by simpa using (show ¬ (rr : Int) = 65533 by omega)
          clear hb HB h3
          go_wp2
          go_roundw
          case rel => exact ⟨pos + wd, fuel, hit2, hbw2, HB2, by omega⟩
          case measure => exact hm3
      · have hnx : ∀ ty, (Instr.next (.pointer (some ⟨w.heap.size, 0, none⟩)) true ty).run Tryd.prog wr = _ := fun ty => Lib.run_next_end_at wr w.heap.size S pos ty hit hp
        have hb := HB.out
        rw [badF_end l S fuel pos hp] at hb
        have hr := HR.out
        rw [← hb] at hr
        simp only at hr
        have hr2 : preT [] (scanN (l.drop 0) 0 ([] : List Tok).length) = R := by rw [preT_nil]; exact hr
        have HR2 := Lib.hid hr2
        clear hb hr hr2 HB HR hp hit hS hSs hfu
        obtain ⟨w5, rfl⟩ : ∃ w5, w5 = wr := ⟨_, rfl⟩
        have HM := Lib.hid hM
        go_wp2
        go_loopg [6, 7] (l.length + 1) (fun gg v6 v7 wr => ∃ (at_ : Nat) (ts : List Tok), v7 = .int .i64 at_ ∧ at_ ≤ l.length ∧ l.length - at_ < gg ∧ ts.length ≤ 4096 ∧ Hid (wr.ownsRow w.heap.size 32 3 v6 ts.length (tokCells ts)) ∧ Below w.heap.size w wr ∧ Hid (preT ts (scanN (l.drop at_) at_ ts.length) = R))
        case atStart => exact ⟨0, [], rfl, by omega, by omega, by simp, World.ownsRow_nil _ _ _ _, hbw, HR2⟩
        case round =>
          clear HR2 hbw
          obtain ⟨at_, ts, rfl, hal, hag, htl, hown, hbw, HRr⟩ := hrel
          have hsw := hbw.size
          have hMr := HM.out.mono hbw
          have hcut := cut_from l at_
          have hTl : (l.drop at_).length + at_ = l.length := by rw [List.length_drop]; omega
          have hali : (at_ : Int) ≤ (l.length : Int) := by omega
          have SK := skip_any (l.drop at_) (by omega) wr hMr
          have hdd : ∀ k, (l.drop at_).drop k = l.drop (at_ + k) := fun k => by rw [List.drop_drop]
          have hr := HRr.out
          rw [scanN_eq] at hr
          have hx := (skip_le (l.drop at_).length (l.drop at_) (Nat.le_refl _)).1
          rw [hdd] at hr
          obtain ⟨X, hX⟩ : ∃ X, skipN (l.drop at_) = X := ⟨_, rfl⟩
          obtain ⟨T, hT⟩ : ∃ T, l.drop at_ = T := ⟨_, rfl⟩
          rw [hX] at hr hx SK
          rw [hT] at SK hcut hTl hx
          obtain ⟨n, e2⟩ := X
          simp only at hr hx SK
          have hwn : IntKind.i64.wrap ((at_ : Int) + (n : Int)) = (at_ : Int) + (n : Int) := by rw [IntKind.wrap_i64]; omega
          have HRR := Lib.hid hr
          clear hr hX hT HRr hdd
          go_wp2_with fail
          refine SK.mono ?_
          rintro e w6 ⟨rfl, hw6⟩
          rw [hw6]
          clear hw6 SK
          by_cases he : e2 = 0
          · subst he
            have hr := HRR.out
            rw [if_neg (by simp)] at hr
            by_cases hend : at_ + n = l.length
            · have hendi : (at_ : Int) + (n : Int) = (l.length : Int) := by omega
              have hendb : (((at_ : Int) + (n : Int)) == (l.length : Int)) = true := by simpa using hendi
              rw [hend, List.drop_length] at hr
              have hR : .ok (ts ++ [((0 : Int), ([] : Bs), l.length)]) = R := hr
              subst hR
              clear hr HRR
              obtain ⟨i0, hi, hz0, hz1, hz2⟩ := info_parts (P := Tryd.prog) (e := 32) (z := .agg #[.int .i64 0, .string ⟨#[]⟩, .int .i64 0]) (size := 3) (bytes := 32) (by kernel_rfl)
              have hown1 := fun o => own_below hown.out ((Below.refl wr.heap.size wr).alloc (Nat.le_refl _) o)
              go_wp2_with (at_builtin; refine wpList_append_own _ rfl _ _ 23 rfl w.heap.size 32 i0 (.agg #[.int .i64 0, .string ⟨#[]⟩, .int .i64 0]) 3 32 Tryd.underlying23 hi hz0 hz1 hz2 rfl (by decide) _ _ _ rfl (hown1 _) ⟨wr.heap.size, 0, none⟩ 1 1 [.int .i64 0, .string ⟨#[]⟩, .int .i64 l.length] rfl rfl ?c1 ?c2 ?c3 ?c4 ?c5 ?_)
              case c1 =>
                intro j u hj
                match j, hj with
                | 0, hj => simp at hj; subst hj; simp [Addr.add]
                | 1, hj => simp at hj; subst hj; simp [Addr.add]
                | 2, hj => simp at hj; subst hj; simp [Addr.add]
                | (j + 3), hj => simp at hj
              case c2 => intro u hu; simp at hu; rcases hu with rfl | rfl | rfl <;> rfl
              case c3 => unfold maxLen; omega
              case c4 => omega
              case c5 => simp; omega
              intro v' w7 hown' hgrow _
              go_wp2
              go_ret2
              refine ⟨(hbw.alloc hsw _).grown hgrow (by simp; omega) (fun k hk => (hown.out.lt k hk).1), _, rfl, ?_⟩
              rw [tok_snoc, List.length_append]
              exact hown'
            · have hendi : ¬ (at_ : Int) + (n : Int) = (l.length : Int) := by omega
              have hendb : (((at_ : Int) + (n : Int)) == (l.length : Int)) = false := by simpa using hendi
              have hltn : at_ + n < l.length := by omega
              obtain ⟨c, hc⟩ : ∃ c, l[at_ + n]?.getD 0 = c := ⟨_, rfl⟩
              obtain ⟨r, hrr⟩ : ∃ r, l.drop (at_ + n + 1) = r := ⟨_, rfl⟩
              have hdg := drop_get hltn
              rw [hc, hrr] at hdg
              rw [hdg] at hr
              have hcut2 := cut_from l (at_ + n)
              rw [hdg] at hcut2
              have hcl : (c :: r).length + (at_ + n) = l.length := by rw [← hdg, List.length_drop]; omega
              have ON := fun W hW => one_any c r (by omega) W hW
              have hsz1 := one_le c r
              obtain ⟨tk, htk⟩ : ∃ tk, oneN c r = tk := ⟨_, rfl⟩
              simp only [htk] at ON hsz1 hr
              obtain ⟨k, tx, sz, er⟩ := tk
              simp only [oneV] at ON hsz1 hr
              have HR3 := Lib.hid hr
              have HDR := Lib.hid (show (c :: r).drop sz = l.drop (at_ + n + sz) by rw [← hdg, List.drop_drop])
              clear hr HRR hc hrr hdg htk
              have hbw1 := hbw.alloc hsw (.cells #[.int .i64 0, .string ⟨#[]⟩, .int .i64 0] 32)
              go_wp2_with fail
              refine (ON _ (HM.out.mono hbw1)).mono ?_
              rintro e W ⟨rfl, hb⟩
              have hC : W.heap[wr.heap.size]? = some (.cells #[.int .i64 0, .string ⟨#[]⟩, .int .i64 0] 32 (0, 0)) := (hb.block wr.heap.size (by simp)).trans (new_last _ _)
              have y0 : W.cell? ⟨wr.heap.size, 0, none⟩ = some (.int .i64 0) := by rw [Lib.cell_of_heap hC]; rfl
              have y1 : W.cell? ⟨wr.heap.size, 1, none⟩ = some (.string ⟨#[]⟩) := by rw [Lib.cell_of_heap hC]; rfl
              have y2 : W.cell? ⟨wr.heap.size, 2, none⟩ = some (.int .i64 0) := by rw [Lib.cell_of_heap hC]; rfl
              have g0 : W.frozen? ⟨wr.heap.size, 0, none⟩ = false := Lib.frozen_of_heap hC 0
              have g1 : W.frozen? ⟨wr.heap.size, 1, none⟩ = false := Lib.frozen_of_heap hC 1
              have g2 : W.frozen? ⟨wr.heap.size, 2, none⟩ = false := Lib.frozen_of_heap hC 2
              have hbW := hbw1.trans (hb.mono (by simp; omega))
              have hsW := hbW.size
              by_cases her : er = 0
              · subst her
                have hr := HR3.out
                rw [if_neg (by simp)] at hr
                obtain ⟨P, cap, rfl⟩ := own_form hown.out
                by_cases hk : ts.length = 4096
                · rw [if_pos hk] at hr
                  have hki : ((ts.length : Int) == 4096) = true := by rw [hk]; rfl
                  have hR : .error ((3 : Int), at_ + n) = R := hr
                  subst hR
                  clear hr HR3 hown hsz1 ON hC hb hk
                  go_wp2
                  go_ret2
                  have hb5 := ((hbW.setCell (p := ⟨wr.heap.size, 0, none⟩) hsw (.int .i64 k)).setCell (p := ⟨wr.heap.size, 1, none⟩) hsw (str tx)).setCell (p := ⟨wr.heap.size, 2, none⟩) hsw (.int .i64 0)
                  have h5 := fun o => new_last (((W.setCell ⟨wr.heap.size, 0, none⟩ (.int .i64 k)).setCell ⟨wr.heap.size, 1, none⟩ (str tx)).setCell ⟨wr.heap.size, 2, none⟩ (.int .i64 0)) o
                  simp only [set_size] at h5
                  exact ⟨hb5.alloc hb5.size _, W.heap.size, hbW.size, rfl, h5 _⟩
                · rw [if_neg hk] at hr
                  have hts : ts.length + 1 ≤ 4096 := by omega
                  have hki : ((ts.length : Int) == 4096) = false := by simpa using (show ¬ (ts.length : Int) = 4096 by omega)
                  have HR4 := Lib.hid hr
                  have hbr : Below wr.heap.size wr W := ((Below.refl wr.heap.size wr).alloc (Nat.le_refl _) _).trans (hb.mono (by simp))
                  obtain ⟨W3, hW3⟩ : ∃ W3, W3 = ((W.setCell ⟨wr.heap.size, 0, none⟩ (.int .i64 k)).setCell ⟨wr.heap.size, 1, none⟩ (str tx)).setCell ⟨wr.heap.size, 2, none⟩ (.int .i64 0) := ⟨_, rfl⟩
                  obtain ⟨hC3, hz3⟩ := set3 hC hW3
                  have hbr3 : Below wr.heap.size wr W3 := by rw [hW3]; exact ((hbr.setCell (p := ⟨wr.heap.size, 0, none⟩) (Nat.le_refl _) _).setCell (p := ⟨wr.heap.size, 1, none⟩) (Nat.le_refl _) _).setCell (p := ⟨wr.heap.size, 2, none⟩) (Nat.le_refl _) _
                  obtain ⟨W4, hW4⟩ : ∃ W4, W4 = W3.setCell ⟨wr.heap.size, 2, none⟩ (.int .i64 ((at_ : Int) + (n : Int))) := ⟨_, rfl⟩
                  have hC4 : W4.heap[wr.heap.size]? = some (.cells #[.int .i64 k, str tx, .int .i64 ((at_ : Int) + (n : Int))] 32 (0, 0)) := by
                    rw [hW4]
                    exact set_at hC3 2 _
                  have hbr4 : Below wr.heap.size wr W4 := by rw [hW4]; exact hbr3.setCell (p := ⟨wr.heap.size, 2, none⟩) (Nat.le_refl _) _
                  have z2 : W3.cell? ⟨wr.heap.size, 2, none⟩ = some (.int .i64 0) := by rw [Lib.cell_of_heap hC3]; rfl
                  have f2 : W3.frozen? ⟨wr.heap.size, 2, none⟩ = false := Lib.frozen_of_heap hC3 2
                  have v0 : W4.cell? ⟨wr.heap.size, 0, none⟩ = some (.int .i64 k) := by rw [Lib.cell_of_heap hC4]; rfl
                  have v1 : W4.cell? ⟨wr.heap.size, 1, none⟩ = some (str tx) := by rw [Lib.cell_of_heap hC4]; rfl
                  have v2 : W4.cell? ⟨wr.heap.size, 2, none⟩ = some (.int .i64 ((at_ : Int) + (n : Int))) := by rw [Lib.cell_of_heap hC4]; rfl
                  have hbw4 : Below w.heap.size w W4 := hbw.trans (hbr4.mono hsw)
                  clear hr HR3 hk hb hC hC3 hC4 hbr hbr3
                  go_upto_region 18 with fail
                  rw [← hW3]
                  clear hW3 y0 y1 y2 g0 g1 g2
                  go_upto_region 23 with fail
                  rw [← hW4]
                  clear hW4 z2 f2
                  obtain ⟨hs1, hs2, _⟩ := hsz1 trivial
                  have hs2' : sz + (at_ + n) ≤ l.length := by simp only [List.length_cons] at hcl; omega
                  have hw2 : IntKind.i64.wrap ((at_ : Int) + (n : Int) + (sz : Int)) = (at_ : Int) + (n : Int) + (sz : Int) := by rw [IntKind.wrap_i64]; omega
                  have hown1 := fun o => own_below hown.out (hbr4.alloc hbr4.size o)
                  have hownlt := hown.out.lt
                  clear hsz1
                  obtain ⟨i0, hi, hz0, hz1, hz2⟩ := info_parts (P := Tryd.prog) (e := 32) (z := .agg #[.int .i64 0, .string ⟨#[]⟩, .int .i64 0]) (size := 3) (bytes := 32) (by kernel_rfl)
                  go_wp2_with (at_builtin; refine wpList_append_own _ rfl _ _ 23 rfl w.heap.size 32 i0 (.agg #[.int .i64 0, .string ⟨#[]⟩, .int .i64 0]) 3 32 Tryd.underlying23 hi hz0 hz1 hz2 rfl (by decide) _ _ _ rfl (hown1 _) ⟨W4.heap.size, 0, none⟩ 1 1 [.int .i64 k, str tx, .int .i64 ((at_ : Int) + (n : Int))] rfl rfl ?d1 ?d2 ?d3 ?d4 ?d5 ?_)
                  case d1 =>
                    intro j u hj
                    match j, hj with
                    | 0, hj => simp at hj; subst hj; simp [Addr.add]
                    | 1, hj => simp at hj; subst hj; simp [Addr.add]
                    | 2, hj => simp at hj; subst hj; simp [Addr.add]
                    | (j + 3), hj => simp at hj
                  case d2 => intro u hu; simp at hu; rcases hu with rfl | rfl | rfl <;> rfl
                  case d3 => unfold maxLen; omega
                  case d4 => omega
                  case d5 => have := hbw4.size; simp; omega
                  intro v' w7 hown' hgrow _
                  have hb7 : Below w.heap.size w w7 := (hbw4.alloc hbw4.size _).grown hgrow (by have := hbw4.size; simp; omega) (fun k hk => (hownlt k hk).1)
                  have hr := HR4.out
                  rw [HDR.out] at hr
                  have HR5 := Lib.hid hr
                  have HO7 := Lib.hid hown'
                  clear hr HR4 hown' hown1 hgrow hown v0 v1 v2
                  go_wp2
                  go_roundg (gk - 1)
                  case rel =>
                    refine ⟨at_ + n + sz, ts ++ [(k, tx, at_ + n)], by simp, by omega, by omega, by simp; omega, ?_, hb7, ?_⟩
                    · rw [tok_snoc, List.length_append]
                      exact HO7.out
                    · show preT (ts ++ [(k, tx, at_ + n)]) (scanN (l.drop (at_ + n + sz)) (at_ + n + sz) (ts ++ [(k, tx, at_ + n)]).length) = R
                      have h := HR5.out
                      rw [List.length_append]
                      show preT (ts ++ [(k, tx, at_ + n)]) (scanN (l.drop (at_ + n + sz)) (at_ + n + sz) (ts.length + 1)) = R
                      rw [← h]
                      cases scanN (l.drop (at_ + n + sz)) (at_ + n + sz) (ts.length + 1) with
                      | error e => rfl
                      | ok x =>
                        show Except.ok ((ts ++ [(k, tx, at_ + n)]) ++ x) = Except.ok (ts ++ (k, tx, at_ + n) :: x)
                        simp
                  case measure => omega
              · have he1 : (er == 0) = false := by simpa using her
                have he2 : (er != 0) = true := by simpa using her
                have hr := HR3.out
                rw [if_pos her] at hr
                have hR : .error (er, at_ + n) = R := hr
                subst hR
                clear hr HR3 her hown hsz1 ON hC hb
                go_wp2
                go_ret2
                have hb5 := ((hbW.setCell (p := ⟨wr.heap.size, 0, none⟩) hsw (.int .i64 k)).setCell (p := ⟨wr.heap.size, 1, none⟩) hsw (str tx)).setCell (p := ⟨wr.heap.size, 2, none⟩) hsw (.int .i64 0)
                have h5 := fun o => new_last (((W.setCell ⟨wr.heap.size, 0, none⟩ (.int .i64 k)).setCell ⟨wr.heap.size, 1, none⟩ (str tx)).setCell ⟨wr.heap.size, 2, none⟩ (.int .i64 0)) o
                simp only [set_size] at h5
                exact ⟨hb5.alloc hb5.size _, W.heap.size, hbW.size, rfl, h5 _⟩
          · have he1 : (e2 == 0) = false := by simpa using he
            have he2 : (e2 != 0) = true := by simpa using he
            have hr := HRR.out
            rw [if_pos he] at hr
            have hR : .error (e2, at_ + n) = R := hr
            subst hR
            clear hr HRR he hown
            go_wp2
            go_ret2
            exact ⟨(hbw.alloc hsw _).alloc (by simp; omega) _, wr.heap.size + 1, by omega, rfl, two_last _ _ _⟩
end Go.Proofs.YtgmgmjddadgkkaaDoor
