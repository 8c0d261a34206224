/- The walks of the document's small functions on numbers' texts. -/
import Derived.Test.YtekpdmjobkikfaaDoorStr
import Derived.Test.YtekpdmjobkikfaaDoorRefP
namespace Go.Proofs.YtekpdmjobkikfaaDoor
open Go.RowKit
set_option maxRecDepth 100000
attribute [local go_sem] str_size str_toList str_get

theorem u8_eq (c d : UInt8) : ((c.toNat : Int) == (d.toNat : Int)) = (c == d) := by
  rw [Bool.eq_iff_iff, beq_iff_eq, beq_iff_eq]
  constructor
  · intro h; exact UInt8.toNat_inj.1 (by omega)
  · rintro rfl; rfl
theorem below_ref (c : UInt8) (l : List UInt8) (w : World) : Calls Tryd.prog 39 #[str (c :: l)] w fun e w' => e = .returned (.bool (belowS (c :: l))) ∧ w' = w := by
  go_enter Tryd.func39, Tryd.ntmps39
  go_wp2
  go_ret
  refine ⟨?_, rfl⟩
  have := u8_eq c 45
  unfold belowS
  simpa using this
theorem size_ref (c : UInt8) (l : List UInt8) (w : World) : Calls Tryd.prog 38 #[str (c :: l)] w fun e w' => e = .returned (str (sizeS (c :: l))) ∧ w' = w := by
  by_cases hb : belowS (c :: l) = true
  · have hs : (ByteArray.mk (c :: l).toArray).extract 1 (l.length + 1) = ⟨(sizeS (c :: l)).toArray⟩ := by
      rw [ByteArray.extract_mk]
      have : c = 45 := by simpa [belowS] using hb
      simp [sizeS, this]
    go_enter Tryd.func38, Tryd.ntmps38
    go_wp2_with (refine (below_ref _ _ _).mono ?_; rintro e w' ⟨rfl, rfl⟩)
    go_ret
    exact ⟨rfl, rfl⟩
  · have hs : sizeS (c :: l) = c :: l := by
      unfold sizeS
      rw [if_neg]
      simpa [belowS] using hb
    go_enter Tryd.func38, Tryd.ntmps38
    go_wp2_with (refine (below_ref _ _ _).mono ?_; rintro e w' ⟨rfl, rfl⟩)
    go_ret
    exact ⟨by rw [hs]; rfl, rfl⟩
theorem signed_ref (b : Bool) (l : List UInt8) (hl : l.length ≤ 10000) (w : World) : Calls Tryd.prog 40 #[.bool b, str l] w fun e w' => e = .returned (str (signedS b l)) ∧ w' = w := by
  have ha : (Op.stringOp .add (ByteArray.mk #[45]) (ByteArray.mk l.toArray)).run Tryd.prog w = .ok (.string ⟨(45 :: l).toArray⟩) w := str_add [45] l (by simp; omega)
  have h1 : b = true → (!l == [48]) = true → signedS b l = 45 :: l := fun h1 h2 => by unfold signedS; rw [if_pos ⟨h1, by simpa using h2⟩]
  have h2 : (!l == [48]) = false → signedS b l = l := fun h2 => by unfold signedS; rw [if_neg (fun h => h.2 (by simpa using h2))]
  have h3 : ¬ b = true → signedS b l = l := fun h3 => by unfold signedS; rw [if_neg (fun h => h3 h.1)]
  have H1 := Lib.hid h1
  have H2 := Lib.hid h2
  have H3 := Lib.hid h3
  clear h1 h2 h3
  go_enter Tryd.func40, Tryd.ntmps40
  go_wp2
  · go_ret
    refine ⟨?_, rfl⟩
    rw [H1.out (by assumption) (by assumption)]
    rfl
  · go_ret
    refine ⟨?_, rfl⟩
    rw [H2.out (by assumption)]
    rfl
  · go_ret
    refine ⟨?_, rfl⟩
    rw [H3.out (by assumption)]
    rfl
theorem same_any (s want : List UInt8) (e code : Int) (w : World) : Calls Tryd.prog 17 #[str s, .int .i64 e, str want, .int .i64 code] w fun x w' => x = .returned (.bool (s == want && e == code)) ∧ w' = w := by
  go_enter Tryd.func17, Tryd.ntmps17
  go_wp2
  · rename_i h
    go_ret
    exact ⟨by simp [h], rfl⟩
  · rename_i h
    go_ret
    exact ⟨by simp [h], rfl⟩
theorem capped_ref (c : UInt8) (l : List UInt8) (w : World) : Calls Tryd.prog 18 #[str (c :: l)] w fun e w' => e = .returned (if 100 < (sizeS (c :: l)).length then .tuple #[str [], .int .i64 3] else .tuple #[str (c :: l), .int .i64 0]) ∧ w' = w := by
  by_cases h : 100 < (sizeS (c :: l)).length
  · have h' : (100 : Int) < ((sizeS (c :: l)).length : Int) := by omega
    rw [if_pos h]
    go_enter Tryd.func18, Tryd.ntmps18
    go_wp2_with (refine (size_ref _ _ _).mono ?_; rintro e w' ⟨rfl, rfl⟩)
    go_ret2
    exact ⟨rfl, rfl⟩
  · have h' : ¬ (100 : Int) < ((sizeS (c :: l)).length : Int) := by omega
    rw [if_neg h]
    go_enter Tryd.func18, Tryd.ntmps18
    go_wp2_with (refine (size_ref _ _ _).mono ?_; rintro e w' ⟨rfl, rfl⟩)
    go_ret2
    exact ⟨rfl, rfl⟩
theorem digit_ref (s : List UInt8) (i : Nat) (hd : allD s = true) (hl : s.length ≤ 10000) (w : World) : Calls Tryd.prog 59 #[str s, .int .i64 i] w fun e w' => e = .returned (.int .i64 (dgR s i)) ∧ w' = w := by
  by_cases h : i < s.length
  · have h' : (i : Int) < (s.length : Int) := by omega
    have hr : dgR s i = dv (s.getD (s.length - 1 - i) 0) := by unfold dgR; rw [if_pos h]
    have hc : isD (s.getD (s.length - 1 - i) 0) = true := by
      refine List.all_eq_true.1 hd _ ?_
      simp only [List.getD, List.getElem?_eq_getElem (show s.length - 1 - i < s.length by omega), Option.getD_some]
      exact List.getElem_mem _
    rw [isD_iff] at hc
    have hx : ((s.length : Int) - 1 - (i : Int)).toNat = s.length - 1 - i := by omega
    have h0 : (0 : Int) ≤ (s.length : Int) - 1 - (i : Int) := by omega
    have h1 : (s.length : Int) - 1 - (i : Int) < (s.length : Int) := by omega
    rw [hr]
    unfold dv
    obtain ⟨C, hg0⟩ : ∃ C, s.getD (s.length - 1 - i) 0 = C := ⟨_, rfl⟩
    rw [hg0] at hc ⊢
    have hg : s[s.length - 1 - i]?.getD 0 = C := hg0
    clear hg0
    have hc1 := hc.1
    have hc2 := hc.2
    clear hr hc
    go_enter Tryd.func59, Tryd.ntmps59
    go_wp2
    go_ret
    refine ⟨?_, rfl⟩
    show Ending.returned (Value.int IntKind.i64 ((C.toNat : Int) - 48)) = _
    rw [show (C.toNat : Int) - 48 = ((C.toNat - 48 : Nat) : Int) by omega]
  · have h' : ¬ (i : Int) < (s.length : Int) := by omega
    have hr : dgR s i = 0 := by unfold dgR; rw [if_neg h]
    rw [hr]
    go_enter Tryd.func59, Tryd.ntmps59
    go_wp2
    go_ret
    exact ⟨rfl, rfl⟩
theorem bytesLess_eq : ∀ a b : List UInt8, Op.bytesLess a b = ltS a b
  | [], [] => rfl
  | [], _ :: _ => rfl
  | _ :: _, [] => rfl
  | c :: l, d :: m => by
    unfold Op.bytesLess ltS
    rw [bytesLess_eq l m]
    by_cases h : c = d
    · subst h; simp
    · simp [h]
theorem less_ref (a b : List UInt8) (w : World) : Calls Tryd.prog 42 #[str a, str b] w fun e w' => e = .returned (.bool (lessS a b)) ∧ w' = w := by
  by_cases h : a.length = b.length
  · have hs : lessS a b = Op.bytesLess a b := by unfold lessS; rw [if_neg (by simpa using h), bytesLess_eq]
    rw [hs]
    clear hs
    go_enter Tryd.func42, Tryd.ntmps42
    go_wp2
    all_goals first | (exfalso; simp_all; done) | (go_ret; exact ⟨rfl, rfl⟩)
  · have hs : lessS a b = decide (a.length < b.length) := by unfold lessS; rw [if_pos h]
    rw [hs]
    clear hs
    go_enter Tryd.func42, Tryd.ntmps42
    go_wp2
    all_goals first | (exfalso; rename_i hq; simp at hq; omega) | (go_ret; exact ⟨rfl, rfl⟩)
theorem bare_ref (a : List UInt8) (hl : a.length ≤ 10000) (w : World) : Calls Tryd.prog 44 #[str a] w fun e w' => e = .returned (str (bareL a)) ∧ w' = w := by
  go_enter Tryd.func44, Tryd.ntmps44
  obtain ⟨b0, hb0⟩ : ∃ b0, bareL a = b0 := ⟨_, rfl⟩
  rw [hb0]
  have HB0 := Lib.hid hb0
  clear hb0
  go_wp2
  go_loopg [0] a.length (fun g v0 wr => ∃ l, l.length ≤ g ∧ v0 = str l ∧ bareL l = b0 ∧ l.length ≤ 10000 ∧ wr = w)
  case atStart => exact ⟨a, Nat.le_refl _, rfl, HB0.out, hl, rfl⟩
  case round =>
    obtain ⟨l, hlg, rfl, hb, hl', rfl⟩ := hrel
    have HB := Lib.hid hb
    clear hb
    cases l with
    | nil =>
      go_wp2
      go_ret
      exact ⟨by rw [← HB.out]; rfl, rfl⟩
    | cons c l =>
      cases l with
      | nil =>
        go_wp2
        go_ret
        exact ⟨by rw [← HB.out]; rfl, rfl⟩
      | cons d l =>
        by_cases hc : c = 48
        · subst hc
          have e : bareL (48 :: d :: l) = bareL (d :: l) := by conv => lhs; unfold bareL; rw [if_pos rfl]
          have hs : (ByteArray.mk (48 :: d :: l).toArray).extract 1 (l.length + 1 + 1) = ⟨(d :: l).toArray⟩ := by
            rw [ByteArray.extract_mk]
            simp
          obtain ⟨g, rfl⟩ : ∃ g', gk = g' + 1 := ⟨gk - 1, by simp at hlg; omega⟩
          have HE := Lib.hid e
          clear e
          go_wp2
          go_roundg g
          case measure => omega
          case rel => exact ⟨d :: l, by simp at hlg ⊢; omega, rfl, by rw [← HE.out]; exact HB.out, by simp at hl' ⊢; omega, rfl⟩
        · have e : bareL (c :: d :: l) = c :: d :: l := by unfold bareL; rw [if_neg hc]
          have hcn : ((c.toNat : Int) == 48) = false := by
            exact (u8_eq c 48).trans (by simpa using hc)
          have HE := Lib.hid e
          clear e hc
          go_wp2
          go_ret
          exact ⟨by rw [← HB.out, HE.out]; rfl, rfl⟩

end Go.Proofs.YtekpdmjobkikfaaDoor
