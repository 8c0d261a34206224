/- The walk of strings.TrimLeft at blanks and tabs. -/
import Derived.Test.YtgmgmjddadgkkaaDoorLxJ
namespace Go.Proofs.YtgmgmjddadgkkaaDoor
open Go.RowKit
set_option maxRecDepth 100000
attribute [local go_sem] str_size str_toList str_get

theorem bld_below {B b : Nat} {l : Bs} {w w' : World} (h : Bld B b l w) (hb : Below w.heap.size w w') : Bld B b l w' := by
  have key : ∀ {p : Value} {bs : List Value}, Lib.BuilderAtF 61 5 B b p bs w → Lib.BuilderAtF 61 5 B b p bs w' := by
    intro p bs h
    have hlt := h.lt
    obtain ⟨hB, v, hv, hown, hne⟩ := h
    exact ⟨hB, v, (hb.block b hlt).trans hv, hown.kept (row := none) ⟨hb.os, hb.tape, hb.output, hb.size, fun k hk _ => hb.block k hk⟩ (Classical.em _), hne⟩
  exact h.elim (fun x => .inl (key x)) (fun x => .inr (key x))

set_option maxHeartbeats 2000000 in
theorem trim_walk (l : Bs) (hl : l.length ≤ 9223372036854775807) (b : Nat) (p : UInt8 → Bool) (w : World) (hset : ∀ x : UInt8, w.cell? ⟨b, x.toNat, none⟩ = some (.bool (p x))) :
    Calls Tryd.prog 47 #[str l, .pointer (some ⟨b, 0, none⟩)] w fun e w' => e = .returned (str (l.dropWhile p)) ∧ w' = w := by
  obtain ⟨R, hR⟩ : ∃ R, l.dropWhile p = R := ⟨_, rfl⟩
  rw [hR]
  have HR0 : Hid ((l.drop 0).dropWhile p = R) := hR
  clear hR
  have HS := Lib.hid hset
  clear hset
  have mixed : Tryd.prog.follows .mixedOrders = true := by kernel_rfl
  go_enter Tryd.func47, Tryd.ntmps47
  go_wp2
  go_loopg [0] l.length (fun gg v0 wr => ∃ i : Nat, i ≤ l.length ∧ l.length - i ≤ gg ∧ v0 = str (l.drop i) ∧ Hid ((l.drop i).dropWhile p = R) ∧ wr = w)
  case atStart => exact ⟨0, by omega, by omega, rfl, HR0, rfl⟩
  case round =>
    clear HR0
    obtain ⟨i, hil, hig, rfl, HR, rfl⟩ := hrel
    by_cases hi : i < l.length
    · have hdg := drop_get hi
      obtain ⟨c, hc⟩ : ∃ c, l[i]?.getD 0 = c := ⟨_, rfl⟩
      obtain ⟨r, hr⟩ : ∃ r, l.drop (i + 1) = r := ⟨_, rfl⟩
      rw [hc, hr] at hdg
      have hrl : r.length + 1 + i = l.length := by
        have := congrArg List.length hr
        rw [List.length_drop] at this
        omega
      have hcut : (ByteArray.mk (c :: r).toArray).extract 1 (r.length + 1) = ByteArray.mk r.toArray := by
        rw [str_cut]; simp
      have hrn := HR.out
      have HDR := Lib.hid hr
      rw [hdg]
      rw [hdg, List.dropWhile_cons] at hrn
      have hcell := HS.out c
      have CC := fun W h => Tryd.asciiSet_contains b c (p c) W h
      have hpos : (0 : Int) < (r.length : Int) + 1 := by omega
      clear HR hdg hr hc
      obtain ⟨q, hq⟩ : ∃ q, p c = q := ⟨_, rfl⟩
      rw [hq] at hrn hcell CC
      clear hq
      cases q with
      | true =>
        have hrn' : r.dropWhile p = R := hrn
        have HRN := Lib.hid hrn'
        clear hrn hrn'
        go_wp2_with fail
        refine (CC _ hcell).mono ?_
        rintro e wA ⟨rfl, rfl⟩
        go_wp2
        go_roundg (gk - 1)
        case measure => omega
        case rel => exact ⟨i + 1, by omega, by omega, by rw [HDR.out], by rw [HDR.out]; exact HRN, rfl⟩
      | false =>
        have hrn' : c :: r = R := hrn
        subst hrn'
        clear hrn
        go_wp2_with fail
        refine (CC _ hcell).mono ?_
        rintro e wA ⟨rfl, rfl⟩
        go_wp2
        go_ret
        exact ⟨rfl, rfl⟩
    · have hie : l.drop i = [] := List.drop_eq_nil_of_le (by omega)
      have hrn := HR.out
      rw [hie] at hrn ⊢
      have hR : [] = R := hrn
      subst hR
      clear hrn HR
      go_wp2
      go_ret
      exact ⟨rfl, rfl⟩

set_option maxHeartbeats 4000000 in
theorem trim_any (l : Bs) (hl : l.length ≤ 100000) (w : World) :
    Calls Tryd.prog 34 #[str l, .string ⟨#[32, 9]⟩] w fun e w' => e = .returned (str (l.dropWhile fun c => c == 32 || c == 9)) ∧ Below w.heap.size w w' := by
  have hM := Tryd.strings_makeASCIISet (fun w => by kernel_rfl) ⟨#[32, 9]⟩ w (by decide) (by
    intro j b h
    match j, h with
    | 0, h => simp at h; subst h; decide
    | 1, h => simp at h; subst h; decide
    | (j + 2), h => simp at h)
  have hcs : (ByteArray.mk #[32, 9]).data.toList = [32, 9] := rfl
  rw [hcs] at hM
  have hat : ∀ x : UInt8, (Lib.setCells [32, 9])[x.toNat]? = some (.bool (x == 32 || x == 9)) := by
    intro x
    rw [Lib.setCells_at]
    simp only [List.contains_cons, List.contains_nil, Bool.or_false]
  have hC1 := Lib.setCells_one [32, 9]
  have hCs := Lib.setCells_size [32, 9]
  obtain ⟨C, hC⟩ : ∃ C, Lib.setCells [32, 9] = C := ⟨_, rfl⟩
  rw [hC] at hM hat hC1 hCs
  clear hC hcs
  have hsc : (storeCells ⟨w.heap.size + 1, 0, none⟩ C.toList 0).run Tryd.prog ((w.alloc (.cells C 74)).alloc (.cells (Array.replicate 256 (.bool false)) 74)) = .ok () ((w.alloc (.cells C 74)).alloc (.cells C 74)) := by
    have := run_storeCells_new (P := Tryd.prog) (w.alloc (.cells C 74)) 74 (Array.replicate 256 (.bool false)) C (by rw [hCs]; kernel_rfl) (by rw [hCs, Array.size_replicate]) hC1
    simpa using this
  have hcellAt : ∀ x : UInt8, ((w.alloc (.cells C 74)).alloc (.cells C 74)).cell? ⟨w.heap.size + 1, x.toNat, none⟩ = some (.bool (x == 32 || x == 9)) := fun x => by
    rw [World.cell?_alloc_at _ _ _ _ (by simp), hat]
  have mixed : Tryd.prog.follows .mixedOrders = true := by kernel_rfl
  cases l with
  | nil =>
    clear hM hsc hcellAt hat
    go_enter Tryd.func34, Tryd.ntmps34
    go_wp2
    go_ret
    exact ⟨rfl, Below.refl _ _⟩
  | cons c r =>
    have hT := trim_walk (c :: r) (by omega) (w.heap.size + 1) (fun c => c == 32 || c == 9) _ hcellAt
    clear hcellAt hat
    go_enter Tryd.func34, Tryd.ntmps34
    go_wp2_with (go_at_call 46; refine hM.mono ?_; rintro e w' ⟨rfl, hw⟩; rw [hw])
    rw [show Tryd.zeroCells74 = Array.replicate 256 (.bool false) by kernel_rfl, hsc]
    simp only [Result.andThen]
    rw [Oper.upon_skip]
    clear hM hsc
    go_wp2_with (go_at_call 47; refine hT.mono ?_; rintro e w' ⟨rfl, hw⟩; rw [hw])
    go_ret
    exact ⟨rfl, ((Below.refl _ w).alloc (Nat.le_refl _) _).alloc (by simp) _⟩

end Go.Proofs.YtgmgmjddadgkkaaDoor
