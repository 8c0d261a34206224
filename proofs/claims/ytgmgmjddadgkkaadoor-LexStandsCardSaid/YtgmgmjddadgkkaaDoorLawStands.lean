/- LexStands: each token stands in the text where it says, one behind the other, and the last is the end. -/
import Derived.Test.YtgmgmjddadgkkaaDoorLxS
import Derived.Deep.RegionHeld3
namespace Go.Proofs.YtgmgmjddadgkkaaDoor
open Go.RowKit
set_option maxRecDepth 100000
attribute [local go_sem] str_size str_toList str_get

theorem stand_at {l : Bs} {ts : List Tok} {p i : Nat} (h : StandP l p (ts.drop i)) {k : Int} {t : Bs} {a : Nat} (hi : ts[i]? = some (k, t, a)) :
    p ≤ a ∧ ((i + 1 = ts.length ∧ k = 0 ∧ t = [] ∧ a = l.length) ∨ (i + 1 < ts.length ∧ a < l.length ∧ k ≠ 0 ∧ (k = 3 → l[a]? = some 60 → StandP l (a + 5) (ts.drop (i + 1))) ∧
      (k = 3 → l[a]? ≠ some 60 → a + 1 + t.length ≤ l.length ∧ (l.drop (a + 1)).take t.length = t ∧ StandP l (a + 1 + t.length) (ts.drop (i + 1))) ∧
      (k ≠ 3 → a + t.length ≤ l.length ∧ (l.drop a).take t.length = t ∧ StandP l (a + t.length) (ts.drop (i + 1))))) := by
  obtain ⟨hlt, he⟩ := List.getElem?_eq_some_iff.1 hi
  rw [List.drop_eq_getElem_cons hlt, he] at h
  cases hd : ts.drop (i + 1) with
  | nil =>
    rw [hd] at h
    have : ts.length ≤ i + 1 := by simpa using hd
    exact ⟨h.1, .inl ⟨by omega, h.2⟩⟩
  | cons y r =>
    rw [hd] at h
    have : i + 1 < ts.length := by
      have := congrArg List.length hd
      rw [List.length_drop] at this
      simp at this
      omega
    exact ⟨h.1, .inr ⟨this, h.2⟩⟩

theorem stand_last {l : Bs} : ∀ (ts : List Tok) (p n : Nat) (x : Tok), StandP l p ts → ts.length = n + 1 → ts[n]? = some x → x.2.2 = l.length
  | [], _, _, _, h, _, _ => h.elim
  | [y], _, n, x, h, hn, hx => by
    have : n = 0 := by simp at hn; omega
    subst this
    cases hx
    exact h.2.2.2
  | y :: z :: r, p, n, x, h, hn, hx => by
    obtain ⟨m, rfl⟩ : ∃ m, n = m + 1 := ⟨n - 1, by simp at hn; omega⟩
    have hx' : (z :: r)[m]? = some x := hx
    have hm : (z :: r).length = m + 1 := by simp at hn ⊢; omega
    obtain ⟨_, _, _, h1, h2, h3⟩ := h
    by_cases hk : y.1 = 3
    · by_cases hc : l[y.2.2]? = some 60
      · exact stand_last (z :: r) _ m x (h1 hk hc) hm hx'
      · exact stand_last (z :: r) _ m x (h2 hk hc).2.2 hm hx'
    · exact stand_last (z :: r) _ m x (h3 hk).2.2 hm hx'

set_option maxHeartbeats 8000000 in
theorem stands_true (l : Bs) (hl : l.length ≤ 9223372036854775807) (w : World) (hM : MaxW w) : Calls Tryd.prog 3 #[str l] w fun e w' => e = .returned (.bool true) ∧ Below w.heap.size w w' := by
  have mixed : Tryd.prog.follows .mixedOrders = true := by kernel_rfl
  have HM := Lib.hid hM
  clear hM
  cases hsc : scanP l with
  | error x =>
    obtain ⟨c, a⟩ := x
    have hal := (scanP_err hsc).1
    have SC := fun W hW => scan_er hsc hl W hW
    clear hsc
    go_enter Tryd.func3, Tryd.ntmps3
    go_wp2_with fail
    refine (awake04 w HM.out).mono ?_
    rintro e w1 ⟨rfl, hb1⟩
    go_wp2_with fail
    refine (SC w1 (HM.out.mono hb1)).mono ?_
    rintro e w2 ⟨d, rfl, hd, hc, hb2⟩
    have c2 : w2.cell? ⟨d, 2, none⟩ = some (.int .i64 a) := by rw [Lib.cell_of_heap hc]; rfl
    have hb := hb1.trans (hb2.mono hb1.size)
    have hai : (a : Int) ≤ (l.length : Int) := by omega
    have hai0 : (0 : Int) ≤ (a : Int) := by omega
    clear hc hb1 hb2 SC
    go_wp2
    go_ret
    exact ⟨rfl, hb⟩
  | ok ts =>
    have hst := (scanP_ok hsc).1
    have hne := hst.ne
    have SC := fun W hW => scan_ok hsc W hW
    have hpos : 0 < ts.length := by
      cases ts with
      | nil => exact absurd rfl hne
      | cons _ _ => simp
    have hlim := (scanP_ok hsc).2
    have HST := Lib.hid hst
    clear hsc hst hne
    go_enter Tryd.func3, Tryd.ntmps3
    go_wp2_with fail
    refine (awake04 w HM.out).mono ?_
    rintro e w1 ⟨rfl, hb1⟩
    go_wp2_with fail
    refine (SC w1 (HM.out.mono hb1)).mono ?_
    rintro e w2 ⟨v, rfl, ht, hb2⟩
    have hb := hb1.trans (hb2.mono hb1.size)
    obtain ⟨g, cap, rfl, hg, htm, hk⟩ := ht
    have HK := Lib.hid hk
    clear hk hb1 hb2 SC HM
    go_wp2
    go_loopg [5, 39] (ts.length + 1) (fun gg v5 v39 wr => ∃ (p i : Nat), v5 = .int .i64 p ∧ v39 = .int .i64 i ∧ i ≤ ts.length ∧ ts.length - i < gg ∧ Hid (i < ts.length → StandP l p (ts.drop i)) ∧ Below w2.heap.size w2 wr)
    case atStart => exact ⟨0, 0, rfl, rfl, by omega, by omega, fun _ => HST.out, Below.refl _ _⟩
    case round =>
      obtain ⟨p, i, rfl, rfl, hil, hgk, HS, hbr⟩ := hrel
      by_cases hi : i < ts.length
      · have hii : (i : Int) < (ts.length : Int) := by omega
        have hid : decide ((i : Int) < (ts.length : Int)) = true := by simpa using hii
        obtain ⟨⟨k, t, a⟩, hx⟩ : ∃ x : Tok, ts[i]? = some x := ⟨_, List.getElem?_eq_getElem hi⟩
        have hst := stand_at (HS.out hi) hx
        obtain ⟨h0, h1, h2⟩ := HK.out i k t a hx
        have x0 := (hbr.cell (p := ⟨g, i * 3, none⟩) hg).trans h0
        have x1 := (hbr.cell (p := ⟨g, i * 3 + 1, none⟩) hg).trans h1
        have x2 := (hbr.cell (p := ⟨g, i * 3 + 2, none⟩) hg).trans h2
        clear h0 h1 h2 hx
        obtain ⟨hpa, hst⟩ := hst
        have hal : a ≤ l.length := by rcases hst with ⟨_, _, _, h⟩ | ⟨_, h, _⟩ <;> omega
        obtain ⟨b, hb0, hb1⟩ : ∃ b : Bool, (k == 0) = b ∧ ((i : Int) == (ts.length : Int) - 1) = b := by
          rcases hst with ⟨h1, h2, _⟩ | ⟨h1, _, h2, _⟩
          · exact ⟨true, by simpa using h2, by simpa using (show (i : Int) = (ts.length : Int) - 1 by omega)⟩
          · exact ⟨false, by simpa using h2, by simpa using (show ¬ (i : Int) = (ts.length : Int) - 1 by omega)⟩
        have hpai : ¬ (a : Int) < (p : Int) := by omega
        have hali : ¬ (l.length : Int) < (a : Int) := by omega
        have hcase : (k ≠ 3 ∧ a + t.length ≤ l.length ∧ (l.drop a).take t.length = t ∧ (i + 1 < ts.length → StandP l (a + t.length) (ts.drop (i + 1)))) ∨
            (k = 3 ∧ a < l.length ∧ i + 1 < ts.length ∧ ((l[a]?.getD 0 = 60 ∧ StandP l (a + 5) (ts.drop (i + 1))) ∨ (l[a]?.getD 0 ≠ 60 ∧ a + 1 + t.length ≤ l.length ∧ (l.drop (a + 1)).take t.length = t ∧ StandP l (a + 1 + t.length) (ts.drop (i + 1))))) := by
          rcases hst with ⟨h1, h2, h3, h4⟩ | ⟨h1, h2, h3, s1, s2, s3⟩
          · subst h2 h3 h4
            exact .inl ⟨by decide, Nat.le_refl _, rfl, fun h => by omega⟩
          · by_cases hk3 : k = 3
            · refine .inr ⟨hk3, h2, h1, ?_⟩
              rw [List.getElem?_eq_getElem h2] at s1 s2 ⊢
              by_cases h60 : l[a] = 60
              · exact .inl ⟨h60, s1 hk3 (by rw [h60])⟩
              · exact .inr ⟨h60, s2 hk3 (by simpa using h60)⟩
            · obtain ⟨h4, h5, h6⟩ := s3 hk3
              exact .inl ⟨hk3, h4, h5, fun _ => h6⟩
        clear hst
        obtain ⟨W, hW⟩ : ∃ W, W = wr.alloc (.cells #[.int .i64 k, str t, .int .i64 a] 32) := ⟨_, rfl⟩
        obtain ⟨_, m0, m1, m2, hsW, hbW⟩ := box3 hW
        have hbn := hbr.trans (hbW.mono hbr.size)
        have hwi : IntKind.i64.wrap ((i : Int) + 1) = (i : Int) + 1 := by rw [IntKind.wrap_i64]; omega
        have hwt : IntKind.i64.wrap ((ts.length : Int) - 1) = (ts.length : Int) - 1 := by rw [IntKind.wrap_i64]; omega
        rcases hcase with ⟨hk3, hle, htk, hnx⟩ | ⟨rfl, hla, hin, hc⟩
        · have hk3b : (k == 3) = false := by simpa using hk3
          have hcut : (ByteArray.mk l.toArray).extract a (a + t.length) = ByteArray.mk t.toArray := by rw [str_cut, Nat.add_sub_cancel_left, htk]
          obtain ⟨E, hE⟩ : ∃ E, a + t.length = E := ⟨_, rfl⟩
          have hwa : IntKind.i64.wrap ((a : Int) + (t.length : Int)) = (E : Int) := by rw [IntKind.wrap_i64]; omega
          rw [hE] at hcut hnx
          have hlei : ¬ (l.length : Int) < (E : Int) := by omega
          have hlei2 : (a : Int) ≤ (E : Int) := by omega
          have hEl : E ≤ l.length := by omega
          have hEa : a ≤ E := by omega
          have HN := Lib.hid hnx
          clear htk hnx HS HK hE hle
          go_upto_region 10 with fail
          rw [← hW]
          clear hW x0 x1 x2
          go_wp2
          go_quiet (fail)
          go_wp2
          go_roundg (gk - 1)
          case rel => exact ⟨E, i + 1, rfl, by simp, by omega, by omega, HN.out, below_drawnL hbn _⟩
          case measure => omega
        · obtain ⟨c, hlc⟩ : ∃ c, l[a] = c := ⟨_, rfl⟩
          rw [List.getElem?_eq_getElem hla, Option.getD_some, hlc] at hc
          have hlai : (a : Int) < (l.length : Int) := by omega
          rcases hc with ⟨h60, hnx⟩ | ⟨h60, hle, htk, hnx⟩
          · have h60b : ((c.toNat : Int) == 60) = true := by rw [h60]; rfl
            have hwa : IntKind.i64.wrap ((a : Int) + 5) = ((a + 5 : Nat) : Int) := by rw [IntKind.wrap_i64]; omega
            have HN := Lib.hid hnx
            clear hnx HS HK h60
            go_upto_region 10 with fail
            rw [← hW]
            clear hW x0 x1 x2
            go_wp2
            go_roundg (gk - 1)
            case rel => exact ⟨a + 5, i + 1, rfl, by simp, by omega, by omega, fun _ => HN.out, hbn⟩
            case measure => omega
          · have h60b : ((c.toNat : Int) == 60) = false := (u8_eq c 60).trans (by simpa using h60)
            have hcut : (ByteArray.mk l.toArray).extract (a + 1) (a + 1 + t.length) = ByteArray.mk t.toArray := by rw [str_cut, Nat.add_sub_cancel_left, htk]
            obtain ⟨E, hE⟩ : ∃ E, a + 1 + t.length = E := ⟨_, rfl⟩
            obtain ⟨A, hA⟩ : ∃ A, a + 1 = A := ⟨_, rfl⟩
            have hw1 : IntKind.i64.wrap ((a : Int) + 1) = (A : Int) := by rw [IntKind.wrap_i64]; omega
            have hwa : IntKind.i64.wrap ((A : Int) + (t.length : Int)) = (E : Int) := by rw [IntKind.wrap_i64]; omega
            rw [hE] at hcut hnx
            rw [hA] at hcut
            have hlei : ¬ (l.length : Int) < (E : Int) := by omega
            have hlei2 : (A : Int) ≤ (E : Int) := by omega
            have hEl : E ≤ l.length := by omega
            have hEa : A ≤ E := by omega
            have HN := Lib.hid hnx
            clear htk hnx HS HK hE hle hA
            go_upto_region 10 with fail
            rw [← hW]
            clear hW x0 x1 x2
            go_wp2
            go_quiet (fail)
            go_wp2
            go_roundg (gk - 1)
            case rel => exact ⟨E, i + 1, rfl, by simp, by omega, by omega, fun _ => HN.out, below_drawnL hbn _⟩
            case measure => omega
      · have hie : i = ts.length := by omega
        subst hie
        obtain ⟨n, hn⟩ : ∃ n, ts.length = n + 1 := ⟨ts.length - 1, by omega⟩
        obtain ⟨⟨k, t, a⟩, hx⟩ : ∃ x : Tok, ts[n]? = some x := ⟨_, List.getElem?_eq_getElem (by omega)⟩
        have hlast : a = l.length := stand_last _ _ _ _ HST.out hn hx
        obtain ⟨_, _, h2⟩ := HK.out n k t a hx
        have x2 := (hbr.cell (p := ⟨g, n * 3 + 2, none⟩) hg).trans h2
        rw [hlast] at x2
        have hwt : IntKind.i64.wrap ((ts.length : Int) - 1) = (n : Int) := by rw [IntKind.wrap_i64]; omega
        have hp0 : (0 : Int) < (ts.length : Int) := by omega
        have hnl : (n : Int) < (ts.length : Int) := by omega
        have hnl2 : n < ts.length := by omega
        have hB := hb.trans (hbr.mono hb.size)
        clear hlast hx h2 HS HK hn HST
        go_wp2
        go_ret
        exact ⟨rfl, hB⟩

end Go.Proofs.YtgmgmjddadgkkaaDoor
