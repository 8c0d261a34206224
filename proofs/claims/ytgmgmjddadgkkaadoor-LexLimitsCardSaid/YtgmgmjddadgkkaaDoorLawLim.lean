/- LexLimits: braces, tokens, names, numbers and texts are taken up to their limits and not one more. -/
import Derived.Test.YtgmgmjddadgkkaaDoorLxS
import Derived.Test.YtgmgmjddadgkkaaDoorLexU
import Derived.OwnWalk
import Derived.Deep.Cut
namespace Go.Proofs.YtgmgmjddadgkkaaDoor
open Go.RowKit
set_option maxRecDepth 100000
attribute [local go_sem] str_size str_toList str_get

theorem scan_no {l : Bs} (h : errOf (scanP l) = none) (w : World) (hM : MaxW w) :
    Calls Tryd.prog 8 #[str l] w fun e w' => (∃ v, e = .returned (.tuple #[v, .pointer none])) ∧ Below w.heap.size w w' := by
  cases hs : scanP l with
  | error x => rw [hs] at h; cases h
  | ok ts =>
    refine (scan_ok hs w hM).mono ?_
    rintro e w' ⟨v, rfl, _, hb⟩
    exact ⟨⟨v, rfl⟩, hb⟩
theorem scan_yes {l : Bs} {c : Int} {a : Nat} (h : errOf (scanP l) = some (c, a)) (hl : l.length ≤ 9223372036854775807) (w : World) (hM : MaxW w) :
    Calls Tryd.prog 8 #[str l] w fun e w' => ∃ d, e = .returned (.tuple #[.slice none 0 0, .pointer (some ⟨d, 0, none⟩)]) ∧ (w.heap.size ≤ d ∧ d < w'.heap.size) ∧ w'.heap[d]? = some (.cells #[.int .i64 c, .string ⟨#[]⟩, .int .i64 a] 29 (0, 0)) ∧ Below w.heap.size w w' := by
  cases hs : scanP l with
  | ok ts => rw [hs] at h; cases h
  | error x =>
    rw [hs] at h
    have : x = (c, a) := Option.some.inj h
    subst this
    refine (scan_any l hl w hM).mono ?_
    rintro e w' ⟨hb, hp⟩
    rw [hs] at hp
    obtain ⟨d, hd, rfl, hc⟩ := hp
    exact ⟨d, rfl, ⟨hd, (Array.getElem?_eq_some_iff.1 hc).1⟩, hc, hb⟩
/-- A block of bytes. -/
def BlkB (w : World) (g : Nat) (l : Bs) : Prop := w.heap[g]? = some (.cells (l.map fun c => Value.int .u8 (c.toNat : Int)).toArray 5 (0, 0))
theorem BlkB.cell {w : World} {g : Nat} {l : Bs} (h : BlkB w g l) (i : Nat) (hi : i < l.length) : w.cell? ⟨g, i, none⟩ = some (.int .u8 ((l[i]'hi).toNat : Int)) := by
  have h' := h
  unfold BlkB at h'
  rw [Lib.cell_of_heap h']
  simp [hi]
theorem BlkB.frozen {w : World} {g : Nat} {l : Bs} (h : BlkB w g l) (i : Nat) : w.frozen? ⟨g, i, none⟩ = false := by
  have h' := h
  unfold BlkB at h'
  exact Lib.frozen_of_heap h' i
theorem BlkB.set {w : World} {g : Nat} {l : Bs} (h : BlkB w g l) (i : Nat) (c : UInt8) : BlkB (w.setCell ⟨g, i, none⟩ (.int .u8 (c.toNat : Int))) g (l.set i c) := by
  have h' := h
  unfold BlkB at h' ⊢
  rw [set_at h' i]
  simp
theorem BlkB.lt {w : World} {g : Nat} {l : Bs} (h : BlkB w g l) : g < w.heap.size := (Array.getElem?_eq_some_iff.1 h).1
theorem BlkB.mono {w w' : World} {g : Nat} {l : Bs} (h : BlkB w g l) (hb : Below w.heap.size w w') : BlkB w' g l := (hb.block g h.lt).trans h
/-- It as a text. -/
theorem BlkB.text {w : World} {g : Nat} {l : Bs} (h : BlkB w g l) (n cap : Nat) (hn : l.length = n) : (convert 35 9 (.slice (some ⟨g, 0, none⟩) n cap)).run Tryd.prog w = .ok (str l) w := by
  subst hn
  refine run_convert_bytes_back (P := Tryd.prog) w 35 9 5 ⟨g, 0, none⟩ cap l Tryd.underlying35 Tryd.underlying5 Tryd.underlying9 (fun j hj => ?_)
  have := h.cell j hj
  by_cases h0 : j = 0
  · subst h0; simpa [Addr.add] using this
  · simpa [Addr.add, h0] using this
theorem pick_40 (fr : Int) : ∃ f : Nat, f < 40 ∧ wrap64 ((IntKind.u64.wrap fr).tmod 40) = (f : Int) := by
  obtain ⟨x, hx⟩ := Int.eq_ofNat_of_zero_le (show 0 ≤ IntKind.u64.wrap fr by rw [IntKind.wrap_u64]; omega)
  refine ⟨x % 40, Nat.mod_lt _ (by decide), ?_⟩
  have e : ((x : Int)).tmod 40 = ((x % 40 : Nat) : Int) := by rw [Int.tmod_eq_emod_of_nonneg (by omega)]; simp
  have := Nat.mod_lt x (show 0 < 40 by decide)
  rw [hx, e]
  unfold wrap64
  omega
/-- The tokens' text behind i rounds. -/
def limI (i : Nat) : Bs := (List.range 16384).map fun j => if j < i then (if j < 8192 ∧ j % 2 = 0 then 43 else 32) else 0
theorem limI_len (i : Nat) : (limI i).length = 16384 := by unfold limI; rw [List.length_map, List.length_range]
theorem limI_end : limI 16384 = limT := by
  unfold limI limT
  apply List.map_congr_left
  intro j hj
  rw [if_pos (List.mem_range.1 hj)]
theorem limI_step (i : Nat) (hi : i < 16384) : (limI i).set i (if i < 8192 ∧ i % 2 = 0 then 43 else 32) = limI (i + 1) := by
  apply List.ext_getElem?
  intro j
  rw [List.getElem?_set, limI_len]
  unfold limI
  by_cases hj : i = j
  · subst hj
    rw [if_pos rfl, if_pos hi, List.getElem?_map, List.getElem?_range hi]
    simp
  · rw [if_neg hj, List.getElem?_map, List.getElem?_map]
    by_cases hjl : j < 16384
    · rw [List.getElem?_range hjl]
      simp only [Option.map_some]
      by_cases h1 : j < i
      · simp only [h1, if_true, show j < i + 1 by omega]
      · simp only [h1, if_false, show ¬ j < i + 1 by omega]
    · rw [List.getElem?_eq_none (by rw [List.length_range]; omega)]
      rfl

theorem own_block {w : World} {base e size g n : Nat} {xs : List Value} (h : w.ownsRow base e size (.slice (some ⟨g, 0, none⟩) n n) n xs) : w.heap[g]? = some (.cells xs.toArray e (0, 0)) := by
  obtain ⟨_, h2⟩ := h
  rcases h2 with ⟨h0, _⟩ | ⟨g', cap, cur, hv, _, hh, _, _, hs, ht⟩
  · cases h0
  · cases hv
    rw [hh]
    congr 2
    rw [← ht, ← hs, ← Array.length_toList, List.take_length]
theorem limI_made : (madeCells #[Value.int IntKind.u8 0] 16384).toList = (limI 0).map fun c => Value.int .u8 (c.toNat : Int) := by
  unfold limI
  apply List.ext_getElem?
  intro i
  rw [List.getElem?_map, List.getElem?_map]
  by_cases hi : i < 16384
  · rw [List.getElem?_range hi]
    simp [madeCells, hi, Nat.mod_one]
  · rw [List.getElem?_eq_none (by simp [madeCells]; omega), List.getElem?_eq_none (by rw [List.length_range]; omega)]
    rfl
/-- What Scan answers at braces in one another. -/
def BraceV (n : Nat) (w : World) (p : Option Addr) : Prop :=
  (n ≤ 24 ∧ p = none) ∨ (24 < n ∧ ∃ d, p = some ⟨d, 0, none⟩ ∧ w.heap[d]? = some (.cells #[.int .i64 7, .string ⟨#[]⟩, .int .i64 (0 : Nat)] 29 (0, 0)))
theorem scan_brace (n : Nat) (l : Bs) (hE : errOf (scanP l) = if n ≤ 24 then none else some (7, 0)) (hl : l.length ≤ 100) (w : World) (hM : MaxW w) :
    Calls Tryd.prog 8 #[str l] w fun e w' => ∃ v p, e = .returned (.tuple #[v, .pointer p]) ∧ BraceV n w' p ∧ Below w.heap.size w w' := by
  by_cases hn : n ≤ 24
  · rw [if_pos hn] at hE
    refine (scan_no hE w hM).mono ?_
    rintro e w' ⟨⟨v, rfl⟩, hb⟩
    exact ⟨v, none, rfl, .inl ⟨hn, rfl⟩, hb⟩
  · rw [if_neg hn] at hE
    refine (scan_yes hE (by omega) w hM).mono ?_
    rintro e w' ⟨d, rfl, _, hd, hb⟩
    exact ⟨_, some ⟨d, 0, none⟩, rfl, .inr ⟨by omega, d, rfl, hd⟩, hb⟩

set_option maxHeartbeats 8000000 in
theorem lim_true (fr : Int) (w : World) (hM : MaxW w) : Calls Tryd.prog 5 #[.int .i64 fr] w fun e w' => e = .returned (.bool true) ∧ Below w.heap.size w w' := by
  have mixed : Tryd.prog.follows .mixedOrders = true := by kernel_rfl
  have HM := Lib.hid hM
  clear hM
  obtain ⟨n, hn, hnw⟩ := pick_40 fr
  go_enter Tryd.func5, Tryd.ntmps5
  go_wp2_with fail
  refine (awake04 w HM.out).mono ?_
  rintro e w1 ⟨rfl, hb1⟩
  go_upto_region 4 with fail
  rw [hnw]
  clear hnw
  go_wp2
  go_loopg [3, 4, 5] 40 (fun gg v3 v4 v5 wr => ∃ i : Nat, 1 ≤ i ∧ (i ≤ n ∨ i = 1) ∧ n - i < gg ∧ v3 = str (36 :: List.replicate i 123) ∧ v4 = str (List.replicate i 125) ∧ v5 = .int .i64 i ∧ wr = w1)
  case atStart => exact ⟨1, Nat.le_refl _, .inr rfl, by omega, rfl, rfl, rfl, rfl⟩
  case round =>
    obtain ⟨i, h1, hi, hgk, rfl, rfl, rfl, hwr⟩ := hrel
    have hwr := hwr.symm
    subst hwr
    by_cases hin : i < n
    · have hini : (i : Int) < (n : Int) := by omega
      have hwi : IntKind.i64.wrap ((i : Int) + 1) = (i : Int) + 1 := by rw [IntKind.wrap_i64]; omega
      obtain ⟨O, hO⟩ : ∃ O : Bs, 36 :: List.replicate i 123 = O := ⟨_, rfl⟩
      obtain ⟨S, hS⟩ : ∃ S : Bs, List.replicate i 125 = S := ⟨_, rfl⟩
      have ha1 : ∀ W, (Op.stringOp .add (ByteArray.mk O.toArray) (ByteArray.mk ([123] : Bs).toArray)).run Tryd.prog W = .ok (str (O ++ [123])) W := fun W =>
        str_add _ _ (by rw [← hO]; simp only [List.length_cons, List.length_replicate, List.length_nil]; omega)
      have ha2 : ∀ W, (Op.stringOp .add (ByteArray.mk S.toArray) (ByteArray.mk ([125] : Bs).toArray)).run Tryd.prog W = .ok (str (S ++ [125])) W := fun W =>
        str_add _ _ (by rw [← hS]; simp only [List.length_cons, List.length_replicate, List.length_nil]; omega)
      have hO2 : O ++ [123] = 36 :: List.replicate (i + 1) 123 := by rw [← hO, List.replicate_succ', List.cons_append]
      have hS2 : S ++ [125] = List.replicate (i + 1) 125 := by rw [← hS, List.replicate_succ']
      have HO := Lib.hid hO2
      have HS := Lib.hid hS2
      rw [hO, hS]
      clear hO hS hO2 hS2
      go_wp2
      go_roundg (gk - 1)
      case rel => exact ⟨i + 1, by omega, by omega, by omega, by rw [HO.out], by rw [HS.out], by simp, rfl⟩
      case measure => omega
    · have hini : ¬ (i : Int) < (n : Int) := by omega
      obtain ⟨O, hO⟩ : ∃ O : Bs, 36 :: List.replicate i 123 = O := ⟨_, rfl⟩
      obtain ⟨S, hS⟩ : ∃ S : Bs, List.replicate i 125 = S := ⟨_, rfl⟩
      rw [hO, hS]
      go_upto_if 41 with fail
      go_cut [3, 4] from 40 to 41 (fun s3 s4 wx => ∃ O' S' : Bs, s3 = str O' ∧ s4 = str S' ∧ 34 :: O' ++ S' ++ [34] = braceT n ∧ wx = w1)
      case first =>
        by_cases h0 : n = 0
        · have h0i : ((n : Int) == 0) = true := by simpa using h0
          have H0 := Lib.hid h0
          clear hO hS h0 hi h1
          go_wp2
          go_meet
          exact ⟨[], [], rfl, rfl, by rw [H0.out]; rfl, rfl⟩
        · have h0i : ((n : Int) == 0) = false := by simpa using h0
          have hi' : i = n := by omega
          have hB : 34 :: O ++ S ++ [34] = braceT n := by
            rw [← hO, ← hS, hi']
            unfold braceT
            rw [if_neg h0]
            simp
          have HB := Lib.hid hB
          clear hO hS hB hi' h0
          go_wp2
          go_meet
          exact ⟨O, S, rfl, rfl, HB.out, rfl⟩
      case rest =>
        obtain ⟨O', S', rfl, rfl, hB, hwx⟩ := hcut
        have hwx := hwx.symm
        subst hwx
        have hBl : (braceT n).length = O'.length + S'.length + 2 := by rw [← hB]; simp only [List.length_append, List.length_cons, List.length_nil]; omega
        have hBn : (braceT n).length ≤ 100 := by
          unfold braceT
          split <;> simp only [List.length_append, List.length_cons, List.length_nil, List.length_replicate] <;> omega
        have a1 : ∀ W, (Op.stringOp .add (ByteArray.mk ([34] : Bs).toArray) (ByteArray.mk O'.toArray)).run Tryd.prog W = .ok (str ([34] ++ O')) W := fun W =>
          str_add _ _ (by simp only [List.length_cons, List.length_nil]; omega)
        obtain ⟨X1, hX1⟩ : ∃ X : Bs, [34] ++ O' = X := ⟨_, rfl⟩
        have l1 : X1.length = O'.length + 1 := by rw [← hX1]; simp only [List.length_append, List.length_cons, List.length_nil]; omega
        have a2 : ∀ W, (Op.stringOp .add (ByteArray.mk X1.toArray) (ByteArray.mk S'.toArray)).run Tryd.prog W = .ok (str (X1 ++ S')) W := fun W => str_add _ _ (by omega)
        obtain ⟨X2, hX2⟩ : ∃ X : Bs, X1 ++ S' = X := ⟨_, rfl⟩
        have l2 : X2.length = X1.length + S'.length := by rw [← hX2, List.length_append]
        have a3 : ∀ W, (Op.stringOp .add (ByteArray.mk X2.toArray) (ByteArray.mk ([34] : Bs).toArray)).run Tryd.prog W = .ok (str (X2 ++ [34])) W := fun W => str_add _ _ (by simp only [List.length_cons, List.length_nil]; omega)
        have hX3 : X2 ++ [34] = braceT n := by rw [← hX2, ← hX1, ← hB]; simp
        rw [hX1] at a1
        rw [hX2] at a2
        rw [hX3] at a3
        have hE := lim_e n hn
        obtain ⟨BT, hBT⟩ : ∃ BT, braceT n = BT := ⟨_, rfl⟩
        rw [hBT] at a3 hE hBn
        clear hB hBl hX1 hX2 hX3 l1 l2 hBT hO hS hi h1 hini
        go_wp2_with fail
        refine (scan_brace n BT hE hBn w1 (HM.out.mono hb1)).mono ?_
        rintro e w2 ⟨v2, p2, rfl, hbv, hb2⟩
        have hb12 := hb1.trans (hb2.mono hb1.size)
        clear hE hBn a1 a2 a3
        go_upto_region 12 with fail
        go_cut [65] from 51 to 64 (fun s65 wx => s65 = .bool false ∧ wx = w2)
        case first =>
          rcases hbv with ⟨h24, rfl⟩ | ⟨h24, d, rfl, hd⟩
          · have h24i : (n : Int) ≤ 24 := by omega
            have h24j : ¬ (24 : Int) < (n : Int) := by omega
            go_wp2
            go_meet
            exact ⟨rfl, rfl⟩
          · have h24i : ¬ (n : Int) ≤ 24 := by omega
            have h24j : (24 : Int) < (n : Int) := by omega
            have IS := is_true d 7 (0 : Nat) (by decide) w2 hd
            go_wp2_with fail
            refine IS.mono ?_
            rintro e w4 ⟨rfl, hw4⟩
            rw [hw4]
            go_wp2
            go_meet
            exact ⟨rfl, rfl⟩
        case rest =>
          obtain ⟨rfl, hw2⟩ := hcut
          have hw2 := hw2.symm
          subst hw2
          have HM2 := Lib.hid (HM.out.mono hb12)
          clear hbv hb2
          obtain ⟨i8, hi8, hz8, hs8, hy8⟩ := info_parts (P := Tryd.prog) (e := 5) (z := .int .u8 0) (size := 1) (bytes := 1) (by kernel_rfl)
          go_wp2_with (at_make; refine wpList_make_full _ rfl _ _ 35 rfl w2.heap.size 5 i8 (.int .u8 0) 1 Tryd.underlying35 hi8 hz8 hs8 _ _ _ _ 16384 rfl rfl rfl rfl (by rw [hy8]; omega) (by unfold maxLen; omega) (Nat.le_refl _) ?_)
          intro w3 hown hgrow
          have hb3 : Below w2.heap.size w2 w3 := (Below.refl w2.heap.size w2).grown hgrow (Nat.le_refl _) (fun k hk => by cases hk)
          have hB0 : BlkB w3 w2.heap.size (limI 0) := by
            have := own_block hown
            rw [limI_made] at this
            exact this
          obtain ⟨G, hG⟩ : ∃ G, G = w2.heap.size := ⟨_, rfl⟩
          rw [← hG] at hB0 hb3
          have hGs : w.heap.size ≤ G := by rw [hG]; exact hb12.size
          have hbw : Below w.heap.size w w3 := hb12.trans (hb3.mono hGs)
          have HM3 := Lib.hid (HM2.out.mono (by rw [hG] at hb3; exact hb3))
          have HB0 := Lib.hid hB0
          clear hown hgrow hB0
          rw [← hG]
          clear hG HM2 hb12 hb3
          go_wp2
          go_loopg [9, 69] 16385 (fun gg v9 v69 wr => ∃ i : Nat, v69 = .int .i64 i ∧ i ≤ 16384 ∧ 16384 - i < gg ∧ Hid (BlkB wr G (limI i)) ∧ Below G w3 wr)
          case atStart => exact ⟨0, rfl, by omega, by omega, HB0.out, Below.refl _ _⟩
          case round =>
            obtain ⟨i, rfl, hi, hgk, HBr, hbr⟩ := hrel
            by_cases hin : i < 16384
            · have hini : (i : Int) < 16384 := by omega
              have hwi : IntKind.i64.wrap ((i : Int) + 1) = (i : Int) + 1 := by rw [IntKind.wrap_i64]; omega
              have c0 := HBr.out.cell i (by rw [limI_len]; exact hin)
              have f0 := HBr.out.frozen i
              obtain ⟨W1, hW1⟩ : ∃ W1, W1 = wr.setCell ⟨G, i, none⟩ (.int .u8 32) := ⟨_, rfl⟩
              have hB1 : BlkB W1 G ((limI i).set i 32) := by rw [hW1]; exact HBr.out.set i 32
              have hbr1 : Below G w3 W1 := by rw [hW1]; exact hbr.setCell (p := ⟨G, i, none⟩) (Nat.le_refl _) _
              have c1 := hB1.cell i (by rw [List.length_set, limI_len]; exact hin)
              have f1 := hB1.frozen i
              have hst := limI_step i hin
              have HB1 := Lib.hid hB1
              have HST := Lib.hid hst
              clear hst hB1
              go_upto_region 19 with fail
              rw [← hW1]
              clear hW1 c0 f0
              by_cases h8 : i < 8192
              · have h8i : (i : Int) < 8192 := by omega
                by_cases hq0 : i % 2 = 0
                · have hq0i : ((i : Int) % 2 == 0) = true := by simp; omega
                  have HQ := Lib.hid hq0
                  clear hq0
                  go_wp2
                  go_roundg (gk - 1)
                  case rel =>
                    refine ⟨i + 1, by simp, by omega, by omega, ?_, hbr1.setCell (p := ⟨G, i, none⟩) (Nat.le_refl _) _⟩
                    have h := HB1.out.set i 43
                    rw [List.set_set] at h
                    have e := HST.out
                    rw [if_pos ⟨h8, HQ.out⟩] at e
                    rw [e] at h
                    exact h
                  case measure => omega
                · have hq0i : ((i : Int) % 2 == 0) = false := by simp; omega
                  have HQ := Lib.hid hq0
                  clear hq0
                  go_wp2
                  go_roundg (gk - 1)
                  case rel =>
                    refine ⟨i + 1, by simp, by omega, by omega, ?_, hbr1⟩
                    have e := HST.out
                    rw [if_neg (fun h => HQ.out h.2)] at e
                    rw [← e]
                    exact HB1.out
                  case measure => omega
              · have h8i : ¬ (i : Int) < 8192 := by omega
                go_wp2
                go_roundg (gk - 1)
                case rel =>
                  refine ⟨i + 1, by simp, by omega, by omega, ?_, hbr1⟩
                  have e := HST.out
                  rw [if_neg (fun h => h8 h.1)] at e
                  rw [← e]
                  exact HB1.out
                case measure => omega
            · have hie : i = 16384 := by omega
              subst hie
              have hB4 : BlkB wr G limT := by
                have := HBr.out
                rw [limI_end] at this
                exact this
              have hGl : w3.heap.size ≤ wr.heap.size := hbr.size
              have hbw4 : Below w.heap.size w wr := hbw.trans (hbr.mono hGs)
              have ll : limT.length = 16384 := limT_len
              have e1 := lim_a
              have e2 := lim_b
              have e3 := lim_c n hn
              have e4 := lim_d ((limT.set 16383 44).set (2 * n) 32) (by rw [List.length_set, List.length_set, ll])
              obtain ⟨m, hm⟩ : ∃ m, 2 * n = m := ⟨_, rfl⟩
              have hm8 : m < 16384 := by omega
              have hmi : (m : Int) < 16384 := by omega
              have hwm : IntKind.i64.wrap (2 * (n : Int)) = (m : Int) := by rw [IntKind.wrap_i64]; omega
              obtain ⟨L2, hL2⟩ : ∃ L, limT.set 16383 44 = L := ⟨_, rfl⟩
              rw [hm, hL2] at e3 e4
              rw [hL2] at e2
              have l2 : L2.length = 16384 := by rw [← hL2, List.length_set, ll]
              obtain ⟨L3, hL3⟩ : ∃ L, L2.set m 32 = L := ⟨_, rfl⟩
              rw [hL3] at e3 e4
              have l3 : L3.length = 16384 := by rw [← hL3, List.length_set, l2]
              have hcv1 := hB4.text 16384 16384 ll
              have HB4 := Lib.hid hB4
              have E2 := Lib.hid e2
              have E3 := Lib.hid e3
              have E4 := Lib.hid e4
              have HL2 := Lib.hid hL2
              have HL3 := Lib.hid hL3
              have LL := Lib.hid ll
              have LL2 := Lib.hid l2
              have LL3 := Lib.hid l3
              clear HB0 HBr hbr hB4 HM3 hbw hb1 hm hL2 hL3 e2 e3 e4 ll l2 l3
              go_wp2_with fail
              refine (scan_no e1 wr (HM.out.mono hbw4)).mono ?_
              rintro e W5 ⟨⟨v5, rfl⟩, hb5⟩
              have hbw5 := hbw4.trans (hb5.mono hbw4.size)
              have hB5 := HB4.out.mono hb5
              have c5 := hB5.cell 16383 (by rw [LL.out]; omega)
              have f5 := hB5.frozen 16383
              obtain ⟨W6, hW6⟩ : ∃ W6, W6 = W5.setCell ⟨G, 16383, none⟩ (.int .u8 44) := ⟨_, rfl⟩
              have hB6 : BlkB W6 G L2 := by rw [hW6, ← HL2.out]; exact hB5.set 16383 44
              have hbw6 : Below w.heap.size w W6 := by rw [hW6]; exact hbw5.setCell (p := ⟨G, 16383, none⟩) hGs _
              have hcv6 := hB6.text 16384 16384 LL2.out
              have HB6 := Lib.hid hB6
              clear hcv1 HB4 hB5 hb5 hbw4 hB6
              go_upto_region 24 with fail
              rw [← hW6]
              clear hW6 c5 f5
              go_wp2_with fail
              refine (scan_yes E2.out (by rw [LL2.out]; omega) W6 (HM.out.mono hbw6)).mono ?_
              rintro e W7 ⟨d7, rfl, hd7, hc7, hb7⟩
              have hbw7 := hbw6.trans (hb7.mono hbw6.size)
              have hB7 := HB6.out.mono hb7
              have hGd : G < W6.heap.size := HB6.out.lt
              have c7 := hB7.cell m (by rw [LL2.out]; omega)
              have f7 := hB7.frozen m
              obtain ⟨W8, hW8⟩ : ∃ W8, W8 = W7.setCell ⟨G, m, none⟩ (.int .u8 32) := ⟨_, rfl⟩
              have hB8 : BlkB W8 G L3 := by rw [hW8, ← HL3.out]; exact hB7.set m 32
              have hbw8 : Below w.heap.size w W8 := by rw [hW8]; exact hbw7.setCell (p := ⟨G, m, none⟩) hGs _
              have hs8 : W8.heap.size = W7.heap.size := by rw [hW8]; exact set_size _ _ _
              have hc8 : W8.heap[d7]? = some (.cells #[.int .i64 3, .string ⟨#[]⟩, .int .i64 (16383 : Nat)] 29 (0, 0)) := by
                rw [hW8, Below.heap_setCell _ _ _ _ (by show d7 ≠ G; omega)]
                exact hc7
              have hcv8 := hB8.text 16384 16384 LL3.out
              have HC8 := Lib.hid hc8
              have HB8 := Lib.hid hB8
              clear hcv6 HB6 hB7 hb7 hbw6 hB8 hc8 hc7 hbw5
              go_upto_region 26 with fail
              rw [← hW8]
              clear hW8 c7 f7
              go_wp2_with fail
              refine (scan_no E3.out W8 (HM.out.mono hbw8)).mono ?_
              rintro e W9 ⟨⟨v9, rfl⟩, hb9⟩
              have hbw9 := hbw8.trans (hb9.mono hbw8.size)
              have hB9 := HB8.out.mono hb9
              have hs9 := hb9.size
              have hc9 := (hb9.block d7 (by omega)).trans HC8.out
              have hcv9 := hB9.text 16384 16384 LL3.out
              have ad9 : ∀ W, (Op.stringOp .add (ByteArray.mk L3.toArray) (ByteArray.mk ([32] : Bs).toArray)).run Tryd.prog W = .ok (str (L3 ++ [32])) W := fun W => str_add _ _ (by rw [LL3.out]; decide)
              obtain ⟨L4, hL4⟩ : ∃ L, L3 ++ [32] = L := ⟨_, rfl⟩
              have e4 := E4.out
              rw [hL4] at ad9 e4
              have l4 : L4.length = 16385 := by rw [← hL4, List.length_append, LL3.out]; rfl
              have E4' := Lib.hid e4
              have LL4 := Lib.hid l4
              have HC9 := Lib.hid hc9
              clear hcv8 HB8 HC8 hb9 hbw8 hL4 e4 l4 E4 E3 E2 hB9 hc9
              go_wp2_with fail
              refine (scan_yes E4'.out (by rw [LL4.out]; omega) W9 (HM.out.mono hbw9)).mono ?_
              rintro e W10 ⟨d10, rfl, hd10, hc10, hb10⟩
              have hbw10 := hbw9.trans (hb10.mono hbw9.size)
              have hs10 := hb10.size
              have hx10 := (hb10.block d7 (by omega)).trans HC9.out
              have HX10 := Lib.hid hx10
              have HC10 := Lib.hid hc10
              clear hcv9 hb10 hbw9 HC9 hx10 hc10 ad9 hGl HL2 HL3 LL LL2 LL3 e1
              go_wp2
              go_loopg [17, 18] 101 (fun gg v17 v18 wr => ∃ k : Nat, v17 = str (List.replicate k 57) ∧ v18 = .int .i64 k ∧ k ≤ 100 ∧ 100 - k < gg ∧ wr = W10)
              case atStart => exact ⟨0, rfl, rfl, by omega, by omega, rfl⟩
              case round =>
                obtain ⟨k, rfl, rfl, hk, hgk, hwr⟩ := hrel
                have hwr := hwr.symm
                subst hwr
                by_cases hk1 : k < 100
                · have hki : (k : Int) < 100 := by omega
                  have hwk : IntKind.i64.wrap ((k : Int) + 1) = (k : Int) + 1 := by rw [IntKind.wrap_i64]; omega
                  obtain ⟨O, hO⟩ : ∃ O : Bs, List.replicate k 57 = O := ⟨_, rfl⟩
                  have ha1 : ∀ W, (Op.stringOp .add (ByteArray.mk O.toArray) (ByteArray.mk ([57] : Bs).toArray)).run Tryd.prog W = .ok (str (O ++ [57])) W := fun W =>
                    str_add _ _ (by rw [← hO]; simp only [List.length_cons, List.length_replicate, List.length_nil]; omega)
                  have hO2 : O ++ [57] = List.replicate (k + 1) 57 := by rw [← hO, List.replicate_succ']
                  have HO := Lib.hid hO2
                  rw [hO]
                  clear hO hO2
                  go_wp2
                  go_roundg (gk - 1)
                  case rel => exact ⟨k + 1, by rw [HO.out], by simp, by omega, by omega, rfl⟩
                  case measure => omega
                · have hk100 : k = 100 := by omega
                  subst hk100
                  have hNI : List.replicate 100 57 = ninesT := rfl
                  rw [hNI]
                  obtain ⟨NI, hni⟩ : ∃ N, ninesT = N := ⟨_, rfl⟩
                  have lN : NI.length = 100 := by rw [← hni]; rfl
                  have b1 : ∀ W, (Op.stringOp .add (ByteArray.mk nameT.toArray) (ByteArray.mk ([32] : Bs).toArray)).run Tryd.prog W = .ok (str (nameT ++ [32])) W := fun W => str_add _ _ (by decide)
                  obtain ⟨X1', hX1'⟩ : ∃ X, nameT ++ [32] = X := ⟨_, rfl⟩
                  have lX : X1'.length = 33 := by rw [← hX1']; rfl
                  have b2 : ∀ W, (Op.stringOp .add (ByteArray.mk X1'.toArray) (ByteArray.mk NI.toArray)).run Tryd.prog W = .ok (str (X1' ++ NI)) W := fun W => str_add _ _ (by omega)
                  obtain ⟨X2', hX2'⟩ : ∃ X, X1' ++ NI = X := ⟨_, rfl⟩
                  have g1 : errOf (scanP X2') = none := by rw [← hX2', ← hX1', ← hni]; exact lim_f
                  have b3 : ∀ W, (Op.stringOp .add (ByteArray.mk nameT.toArray) (ByteArray.mk ([103] : Bs).toArray)).run Tryd.prog W = .ok (str (nameT ++ [103])) W := fun W => str_add _ _ (by decide)
                  obtain ⟨X3', hX3'⟩ : ∃ X, nameT ++ [103] = X := ⟨_, rfl⟩
                  have g2 : errOf (scanP X3') = some (3, 0) := by rw [← hX3']; exact lim_g
                  have lX3 : X3'.length = 33 := by rw [← hX3']; rfl
                  have b4 : ∀ W, (Op.stringOp .add (ByteArray.mk ([49, 32] : Bs).toArray) (ByteArray.mk NI.toArray)).run Tryd.prog W = .ok (str ([49, 32] ++ NI)) W := fun W => str_add _ _ (by simp only [List.length_cons, List.length_nil]; omega)
                  obtain ⟨Y1, hY1⟩ : ∃ X : Bs, [49, 32] ++ NI = X := ⟨_, rfl⟩
                  have lY : Y1.length = 102 := by rw [← hY1, List.length_append, lN]; rfl
                  have b5 : ∀ W, (Op.stringOp .add (ByteArray.mk Y1.toArray) (ByteArray.mk ([57] : Bs).toArray)).run Tryd.prog W = .ok (str (Y1 ++ [57])) W := fun W => str_add _ _ (by simp only [List.length_cons, List.length_nil]; omega)
                  obtain ⟨Y2, hY2⟩ : ∃ X : Bs, Y1 ++ [57] = X := ⟨_, rfl⟩
                  have g3 : errOf (scanP Y2) = some (3, 2) := by rw [← hY2, ← hY1, ← hni, List.append_assoc]; exact lim_h
                  have lY2 : Y2.length = 103 := by rw [← hY2, List.length_append, lY]; rfl
                  rw [hX1'] at b1
                  rw [hX2'] at b2
                  rw [hX3'] at b3
                  rw [hY1] at b4
                  rw [hY2] at b5
                  unfold nameT at b1 b3
                  rw [hni]
                  clear hNI hX1' hX2' hX3' hY1 hY2 lN lX lY hni hk hgk hk1
                  go_wp2_with fail
                  refine (scan_no g1 W10 (HM.out.mono hbw10)).mono ?_
                  rintro e W11 ⟨⟨v11, rfl⟩, hb11⟩
                  have hbw11 := hbw10.trans (hb11.mono hbw10.size)
                  have hs11 := hb11.size
                  go_wp2_with fail
                  refine (scan_yes g2 (by omega) W11 (HM.out.mono hbw11)).mono ?_
                  rintro e W12 ⟨d12, rfl, hd12, hc12, hb12⟩
                  have hbw12 := hbw11.trans (hb12.mono hbw11.size)
                  have hs12 := hb12.size
                  go_wp2_with fail
                  refine (scan_yes g3 (by omega) W12 (HM.out.mono hbw12)).mono ?_
                  rintro e W13 ⟨d13, rfl, hd13, hc13, hb13⟩
                  have hbw13 := hbw12.trans (hb13.mono hbw12.size)
                  have q7 := (hb13.block d7 (by omega)).trans ((hb12.block d7 (by omega)).trans ((hb11.block d7 (by omega)).trans HX10.out))
                  have q10 := (hb13.block d10 (by omega)).trans ((hb12.block d10 (by omega)).trans ((hb11.block d10 (by omega)).trans HC10.out))
                  have q12 := (hb13.block d12 (by omega)).trans hc12
                  have I1 := is_true d7 3 (16383 : Nat) (by decide) W13 q7
                  have I2 := is_true d10 3 (0 : Nat) (by decide) W13 q10
                  have I3 := is_true d12 3 (0 : Nat) (by decide) W13 q12
                  have I4 := is_true d13 3 (2 : Nat) (by decide) W13 hc13
                  clear q7 q10 q12 hc13 hc12 hb11 hb12 hb13 b1 b2 b3 b4 b5
                  go_wp2_with fail
                  refine I1.mono ?_
                  rintro e W14 ⟨rfl, hw14⟩
                  rw [hw14]
                  clear hw14 I1
                  go_wp2_with fail
                  refine I2.mono ?_
                  rintro e W14 ⟨rfl, hw14⟩
                  rw [hw14]
                  clear hw14 I2
                  go_wp2_with fail
                  refine I3.mono ?_
                  rintro e W14 ⟨rfl, hw14⟩
                  rw [hw14]
                  clear hw14 I3
                  go_wp2_with fail
                  refine I4.mono ?_
                  rintro e W14 ⟨rfl, hw14⟩
                  rw [hw14]
                  clear hw14 I4
                  go_wp2
                  go_ret
                  exact ⟨rfl, hbw13⟩

end Go.Proofs.YtgmgmjddadgkkaaDoor
