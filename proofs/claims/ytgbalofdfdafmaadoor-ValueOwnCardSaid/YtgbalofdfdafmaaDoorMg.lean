/- The walk of Good: is a text a number? num.Of. The walk of read: a number's limbs. Reading and turning good numbers. The walk of Cmp. -/
import Derived.Test.YtgbalofdfdafmaaDoorShelf
import Derived.Test.YtgbalofdfdafmaaDoorRefF
import Derived.Test.YtgbalofdfdafmaaDoorMn
import Derived.Test.YtgbalofdfdafmaaDoorMp
namespace Go.Proofs.YtgbalofdfdafmaaDoor
open Go.RowKit
set_option maxRecDepth 100000
attribute [local go_sem] str_size str_toList str_get

theorem bytes_below (w : World) (e : TypeId) (s : ByteArray) : Below w.heap.size w (Lib.bytesWorld w e s) :=
  ⟨rfl, rfl, rfl, by rw [Lib.bytesWorld_size]; omega, fun k hk => Lib.bytesWorld_at_old w e s k hk⟩
theorem trim_size (a : List UInt8) : Lib.trimPrefix a [45] = sizeS a := by
  cases a with
  | nil => rfl
  | cons c l =>
    unfold Lib.trimPrefix Lib.hasPrefix sizeS
    by_cases h : c = 45
    · subst h; simp [List.isPrefixOf]
    · have h' : ¬ (45 : UInt8) = c := fun e => h e.symm
      simp [List.isPrefixOf, h, h']
theorem has_below (a : List UInt8) : Lib.hasPrefix a [45] = belowS a := by
  cases a with
  | nil => rfl
  | cons c l =>
    unfold Lib.hasPrefix belowS
    by_cases h : c = 45
    · subst h; simp [List.isPrefixOf]
    · have h1 : (c == 45) = false := by simpa using h
      have h2 : ((45 : UInt8) == c) = false := by simpa using fun e => h e.symm
      simp [List.isPrefixOf, h1, h2]

set_option maxHeartbeats 4000000 in
theorem good_any (a : List UInt8) (w : World) : Calls Tryd.prog 59 #[str a] w fun e w' => e = .returned (.bool (goodS a)) ∧ Below w.heap.size w w' := by
  obtain ⟨d, hd⟩ : ∃ d, d = sizeS a := ⟨_, rfl⟩
  have TP := Tryd.strings_TrimPrefix ⟨a.toArray⟩ ⟨#[45]⟩ w
  simp only [trim_size] at TP
  rw [← hd] at TP
  have HD := Lib.hid hd
  have hg : goodS a = (!d.isEmpty && decide (d.length ≤ 100) && (!(d.head? == some 48) || a == [48]) && allD d) := by rw [hd]; rfl
  obtain ⟨G, hG⟩ : ∃ G, G = goodS a := ⟨_, rfl⟩
  rw [← hG] at hg ⊢
  have HG := Lib.hid hg
  clear hg hG hd
  go_enter Tryd.func59, Tryd.ntmps59
  go_upto_region 2 with (refine TP.mono ?_; rintro e wA ⟨rfl, rfl⟩)
  cases d with
  | nil =>
    have hF : G = false := by rw [HG.out]; rfl
    have HF := Lib.hid hF
    clear hF
    go_wp2
    go_ret
    exact ⟨by rw [HF.out]; rfl, Below.refl _ _⟩
  | cons c0 d' =>
    by_cases h1 : 100 < (c0 :: d').length
    · have hF : G = false := by rw [HG.out, decide_eq_false (show ¬ (c0 :: d').length ≤ 100 by omega)]; simp
      have HF := Lib.hid hF
      have h1' : (99 : Int) < (d'.length : Int) := by simp at h1; omega
      have h1'' : (100 : Int) < (d'.length : Int) + 1 := by omega
      clear hF h1
      go_wp2
      go_ret
      exact ⟨by rw [HF.out]; rfl, Below.refl _ _⟩
    · have h1' : ¬ (99 : Int) < (d'.length : Int) := by simp at h1; omega
      have h1'' : ¬ (100 : Int) < (d'.length : Int) + 1 := by omega
      have hle : (c0 :: d').length ≤ 100 := by omega
      have h1n : d'.length < 100 := by omega
      clear h1
      by_cases h2 : c0 = 48 ∧ ¬ a = [48]
      · obtain ⟨h20, h2⟩ := h2
        have hc48 : ((c0.toNat : Int) == 48) = true := by rw [h20]; rfl
        have h6 : (a == [48]) = false := by simpa using h2
        have hF : G = false := by
          rw [HG.out, h6, h20]
          simp
        have HF := Lib.hid hF
        clear hF h2 h20
        go_wp2
        go_ret
        exact ⟨by rw [HF.out]; rfl, Below.refl _ _⟩
      · have hG2 : G = allD (c0 :: d') := by
          rw [HG.out, decide_eq_true hle]
          by_cases h5 : c0 = 48
          · have h6 : a = [48] := Classical.byContradiction fun h => h2 ⟨h5, h⟩
            simp [h6]
          · simp [h5]
        have HG2 := Lib.hid hG2
        clear hG2
        obtain ⟨D, hD⟩ : ∃ D, D = c0 :: d' := ⟨_, rfl⟩
        have hcv := Lib.run_convert_string_bytes (P := Tryd.prog) wA 9 87 5 ⟨(c0 :: d').toArray⟩ Tryd.underlying9 Tryd.underlying87 Tryd.underlying5
        rw [str_size, ← hD] at hcv
        have hb1 := bytes_below wA 5 ⟨D.toArray⟩
        have hcell : ∀ i, i < D.length → (Lib.bytesWorld wA 5 ⟨D.toArray⟩).cell? ⟨wA.heap.size, i, none⟩ = some (.int .u8 ((D[i]?.getD 0).toNat : Int)) := fun i hi => by
          have := Lib.bytesWorld_cell wA 5 ⟨D.toArray⟩ i (by rw [str_size]; exact hi)
          simpa [List.getD] using this
        rw [hD] at hcv
        generalize grownCap wA (c0 :: d').length 0 5 = cap at hcv
        obtain ⟨w1, hw1⟩ : ∃ w1, w1 = Lib.bytesWorld wA 5 ⟨D.toArray⟩ := ⟨_, rfl⟩
        rw [← hw1] at hb1 hcell
        rw [← hD, ← hw1] at hcv
        have HC := Lib.hid hcell
        have HB1 := Lib.hid hb1
        by_cases h5 : c0 = 48
        · have h6 : (a == [48]) = true := by
            have : a = [48] := Classical.byContradiction fun h => h2 ⟨h5, h⟩
            simpa using this
          have hc48 : ((c0.toNat : Int) == 48) = true := by rw [h5]; rfl
          clear h2 h5 hw1 hb1 hcell
          go_upto_region 4 with fail
          rw [← hD] at HG2 hle ⊢
          have HDD := Lib.hid hD
          clear hc48 hD
          go_wp2
          go_loopg [28] D.length (fun g v28 wr => ∃ i : Nat, i + g = D.length ∧ v28 = .int .i64 i ∧ (∀ j, j < i → isD (D[j]?.getD 0) = true) ∧ wr = w1)
          case atStart => exact ⟨0, by omega, rfl, fun j hj => by omega, rfl⟩
          case round =>
            obtain ⟨i, hig, rfl, hall, rfl⟩ := hrel
            cases gk with
            | zero =>
              have hie : ¬ (i : Int) < (D.length : Int) := by omega
              have hF : G = true := by rw [HG2.out]; exact allD_all fun j hj => hall j (by omega)
              have HF := Lib.hid hF
              clear hF hall
              go_wp2
              go_ret
              exact ⟨by rw [HF.out]; rfl, HB1.out⟩
            | succ g =>
              have hie : (i : Int) < (D.length : Int) := by omega
              have hce := HC.out i (by omega)
              have HALL := Lib.hid hall
              clear hall
              by_cases hd0 : isD (D[i]?.getD 0) = true
              · have hnx : ∀ j, j < i + 1 → isD (D[j]?.getD 0) = true := fun j hj => by
                  by_cases e : j = i
                  · rw [e]; exact hd0
                  · exact HALL.out j (by omega)
                have HNX := Lib.hid hnx
                obtain ⟨C, hC⟩ : ∃ C, D[i]?.getD 0 = C := ⟨_, rfl⟩
                rw [hC] at hce
                rw [hC, isD_iff] at hd0
                have hc1 : ¬ (C.toNat : Int) < 48 := by omega
                have hc2 : ¬ (57 : Int) < (C.toNat : Int) := by omega
                have hc3 := hd0.1
                have hc4 := hd0.2
                clear hnx hd0 hC
                go_wp2
                go_roundg g
                case measure => omega
                case rel => exact ⟨i + 1, by omega, by go_num, HNX.out, rfl⟩
              · have hF : G = false := by rw [HG2.out]; exact allD_not (i := i) (by omega) (by simpa using hd0)
                have HF := Lib.hid hF
                obtain ⟨C, hC⟩ : ∃ C, D[i]?.getD 0 = C := ⟨_, rfl⟩
                rw [hC] at hce
                rw [hC, isD_iff] at hd0
                by_cases hc1 : C.toNat < 48
                · have hc1' : (C.toNat : Int) < 48 := by omega
                  clear hd0 hF hC
                  go_wp2
                  go_ret
                  exact ⟨by rw [HF.out]; rfl, HB1.out⟩
                · have hc1' : ¬ (C.toNat : Int) < 48 := by omega
                  have hc2 : 57 < C.toNat := by omega
                  have hc2' : (57 : Int) < (C.toNat : Int) := by omega
                  clear hd0 hF hC
                  go_wp2
                  go_ret
                  exact ⟨by rw [HF.out]; rfl, HB1.out⟩
        · have hcn : ((c0.toNat : Int) == 48) = false := (u8_eq c0 48).trans (by simpa using h5)
          clear h2 h5 hw1 hb1 hcell
          go_upto_region 4 with fail
          rw [← hD] at HG2 hle ⊢
          have HDD := Lib.hid hD
          clear hcn hD
          go_wp2
          go_loopg [28] D.length (fun g v28 wr => ∃ i : Nat, i + g = D.length ∧ v28 = .int .i64 i ∧ (∀ j, j < i → isD (D[j]?.getD 0) = true) ∧ wr = w1)
          case atStart => exact ⟨0, by omega, rfl, fun j hj => by omega, rfl⟩
          case round =>
            obtain ⟨i, hig, rfl, hall, rfl⟩ := hrel
            cases gk with
            | zero =>
              have hie : ¬ (i : Int) < (D.length : Int) := by omega
              have hF : G = true := by rw [HG2.out]; exact allD_all fun j hj => hall j (by omega)
              have HF := Lib.hid hF
              clear hF hall
              go_wp2
              go_ret
              exact ⟨by rw [HF.out]; rfl, HB1.out⟩
            | succ g =>
              have hie : (i : Int) < (D.length : Int) := by omega
              have hce := HC.out i (by omega)
              have HALL := Lib.hid hall
              clear hall
              by_cases hd0 : isD (D[i]?.getD 0) = true
              · have hnx : ∀ j, j < i + 1 → isD (D[j]?.getD 0) = true := fun j hj => by
                  by_cases e : j = i
                  · rw [e]; exact hd0
                  · exact HALL.out j (by omega)
                have HNX := Lib.hid hnx
                obtain ⟨C, hC⟩ : ∃ C, D[i]?.getD 0 = C := ⟨_, rfl⟩
                rw [hC] at hce
                rw [hC, isD_iff] at hd0
                have hc1 : ¬ (C.toNat : Int) < 48 := by omega
                have hc2 : ¬ (57 : Int) < (C.toNat : Int) := by omega
                have hc3 := hd0.1
                have hc4 := hd0.2
                clear hnx hd0 hC
                go_wp2
                go_roundg g
                case measure => omega
                case rel => exact ⟨i + 1, by omega, by go_num, HNX.out, rfl⟩
              · have hF : G = false := by rw [HG2.out]; exact allD_not (i := i) (by omega) (by simpa using hd0)
                have HF := Lib.hid hF
                obtain ⟨C, hC⟩ : ∃ C, D[i]?.getD 0 = C := ⟨_, rfl⟩
                rw [hC] at hce
                rw [hC, isD_iff] at hd0
                by_cases hc1 : C.toNat < 48
                · have hc1' : (C.toNat : Int) < 48 := by omega
                  clear hd0 hF hC
                  go_wp2
                  go_ret
                  exact ⟨by rw [HF.out]; rfl, HB1.out⟩
                · have hc1' : ¬ (C.toNat : Int) < 48 := by omega
                  have hc2 : 57 < C.toNat := by omega
                  have hc2' : (57 : Int) < (C.toNat : Int) := by omega
                  clear hd0 hF hC
                  go_wp2
                  go_ret
                  exact ⟨by rw [HF.out]; rfl, HB1.out⟩

end Go.Proofs.YtgbalofdfdafmaaDoor
namespace Go.Proofs.YtgbalofdfdafmaaDoor
open Go.RowKit Go.Sort
set_option maxRecDepth 100000
attribute [local go_sem] str_size str_toList str_get

theorem below_grow (w : World) (os : Array Obj) : Below w.heap.size w (grow w os) :=
  ⟨rfl, rfl, rfl, by simp [grow], fun k hk => by simp only [grow]; rw [Array.getElem?_append_left hk]⟩
theorem of_any (n : Int) (h0 : -9223372036854775808 ≤ n) (h1 : n ≤ 9223372036854775807) (w : World) (hT : TabW w) : Calls Tryd.prog 44 #[.int .i64 n] w fun e w' => e = .returned (str (Lib.itoa n)) ∧ Below w.heap.size w w' := by
  have IT := Tryd.strconv_Itoa n h0 h1 w hT
  go_enter Tryd.func44, Tryd.ntmps44
  go_wp2_with fail
  refine IT.mono ?_
  rintro e w' ⟨rfl, k, os, rfl⟩
  go_wp2
  go_ret
  exact ⟨rfl, by have := below_drewN (below_grow (w.drewN k) os) 0; exact ⟨this.os, this.tape, this.output, this.size, this.block⟩⟩


end Go.Proofs.YtgbalofdfdafmaaDoor
namespace Go.Proofs.YtgbalofdfdafmaaDoor
open Go.RowKit
set_option maxRecDepth 100000
attribute [local go_sem] str_size str_toList str_get

theorem parseM_ok {M : Nat} (hM : 10 ^ 18 ≤ M) : ∀ (l : List UInt8) (acc : Nat), allD l = true → acc * 10 ^ l.length + valD l < 10 ^ 18 → Lib.parseUintM M acc l = .ok (acc * 10 ^ l.length + valD l)
  | [], acc, _, _ => by simp [Lib.parseUintM, valD]
  | c :: l, acc, h, hb => by
    simp only [allD, List.all_cons, Bool.and_eq_true] at h
    have hc := isD_iff.1 h.1
    rw [valD_cons, List.length_cons, Nat.pow_succ] at hb ⊢
    have e : acc * (10 ^ l.length * 10) + (dv c * 10 ^ l.length + valD l) = (acc * 10 + dv c) * 10 ^ l.length + valD l := by
      rw [Nat.add_mul, Nat.mul_comm (10 ^ l.length) 10, ← Nat.mul_assoc]
      omega
    rw [e] at hb ⊢
    have h1 : 1 ≤ 10 ^ l.length := Nat.pow_pos (by decide)
    have h2 : acc * 10 + dv c ≤ (acc * 10 + dv c) * 10 ^ l.length := Nat.le_mul_of_pos_right _ h1
    have h3 : dv c = c.toNat - 48 := rfl
    unfold Lib.parseUintM
    rw [if_pos hc, if_neg (by omega), if_neg (by omega), ← h3]
    exact parseM_ok hM l _ h.2 hb
theorem parse_ok {l : List UInt8} (h : allD l = true) (hn : l ≠ []) (hl : l.length ≤ 9) : Lib.parseUintB 64 l = .ok (valD l) := by
  unfold Lib.parseUintB
  rw [if_neg hn, parseM_ok (by decide) l 0 h]
  · simp
  · have := valD_lt h
    have h2 : 10 ^ l.length ≤ 10 ^ 9 := Nat.pow_le_pow_right (by decide) hl
    omega

theorem own_succ {W : World} {base : Nat} {e : TypeId} {size : Nat} {v : Value} {k : Nat} {xs : List Value} (h : W.ownsRow base e size v (k + 1) xs) : ∃ g cap, v = .slice (some ⟨g, 0, none⟩) (k + 1) cap := by
  rcases h.2 with ⟨_, h0⟩ | ⟨g, cap, _, rfl, _⟩
  · omega
  · exact ⟨g, cap, rfl⟩
def numVal (b : Bool) (n : Nat) : Int := if b = true then -(n : Int) else (n : Int)

set_option maxHeartbeats 4000000 in
theorem read_any (a : List UInt8) (ha : allD (sizeS a) = true) (hl : a.length ≤ 300) (w : World) : Calls Tryd.prog 65 #[str a] w (NumPost (valS a) (sizeS a).length w) := by
  obtain ⟨i53, hi53, hz53, hs53, hy53⟩ := info_parts Tryd.info92
  have hl' : (sizeS a).length ≤ 300 := by
    unfold sizeS
    split
    · rw [List.length_tail]; omega
    · exact hl
  have hv : valS a = numVal (belowS a) (valD (sizeS a)) := rfl
  have CP := fun W => Tryd.strings_CutPrefix ⟨a.toArray⟩ ⟨#[45]⟩ W
  simp only [trim_size, has_below] at CP
  rw [hv]
  generalize sizeS a = d at ha hl' CP ⊢
  generalize belowS a = below at CP ⊢
  clear hv hl
  have HA := Lib.hid ha
  clear ha
  go_enter Tryd.func65, Tryd.ntmps65
  go_upto_region 3 with (refine (CP _).mono ?_; rintro e wA ⟨rfl, rfl⟩)
  obtain ⟨w0, hw0⟩ : ∃ w0, w0 = (w.alloc (.cells #[.bool false, .slice none 0 0] 78)).alloc (.cells #[.bool below, .slice none 0 0] 78) := ⟨_, rfl⟩
  have hs0 : w0.heap.size = w.heap.size + 2 := by rw [hw0]; simp
  have hb0 : Below w.heap.size w w0 := by rw [hw0]; exact ((Below.refl _ w).alloc (Nat.le_refl _) _).alloc (by simp) _
  have hr0 : w0.heap[w.heap.size]? = some (.cells #[.bool false, .slice none 0 0] 78 (0, 0)) := by
    rw [hw0]; exact (Below.heap_alloc _ _ _ (by simp)).trans (heap_alloc_new _ _)
  have hx0 : w0.heap[w.heap.size + 1]? = some (.cells #[.bool below, .slice none 0 0] 78 (0, 0)) := by
    have := heap_alloc_new (w.alloc (.cells #[.bool false, .slice none 0 0] 78)) (.cells #[.bool below, .slice none 0 0] 78)
    rw [hw0]
    rwa [show (w.alloc (.cells #[.bool false, .slice none 0 0] 78)).heap.size = w.heap.size + 1 by simp] at this
  rw [← hw0]
  have HR0 := Lib.hid hr0
  have HX0 := Lib.hid hx0
  have HS0 := Lib.hid hs0
  have hBs : w.heap.size + 2 ≤ w0.heap.size := by omega
  clear hw0 hr0 hx0 CP hs0
  go_wp2
  go_loopg [6] ((d.length + 8) / 9) (fun g v6 wr => ∃ (k : Nat) (z : Int) (ls : List Nat) (v : Value), k + g = (d.length + 8) / 9 ∧ v6 = .int .i64 z ∧ z = (d.length : Int) - 9 * (k : Int) ∧ ls.length = k ∧ okL ls ∧ valL ls = valD (d.drop (d.length - 9 * k)) ∧ wr.heap[w.heap.size]? = some (.cells #[.bool false, .slice none 0 0] 78 (0, 0)) ∧ wr.heap[w.heap.size + 1]? = some (.cells #[.bool below, v] 78 (0, 0)) ∧ wr.ownsRow w0.heap.size 92 1 v ls.length (limbs ls) ∧ w0.heap.size ≤ wr.heap.size ∧ Below w.heap.size w wr)
  case atStart => exact ⟨0, _, [], .slice none 0 0, by omega, rfl, by omega, rfl, okL_nil, by rw [Nat.mul_zero, Nat.sub_zero, List.drop_length]; rfl, HR0.out, HX0.out, World.ownsRow_nil _ _ _ _, Nat.le_refl _, hb0⟩
  case round =>
    obtain ⟨k, z, ls, v, hkg, rfl, hz, hll, hok, hvl, hr, hx, hown, hws, hbl⟩ := hrel
    cases gk with
    | zero =>
      have hz0 : ¬ (0 : Int) < z := by omega
      rw [show d.length - 9 * k = 0 by omega, List.drop_zero] at hvl
      have hls : ls.length ≤ d.length := by omega
      have hLA := limbs_of_own hown (by omega)
      obtain ⟨av, cv, rfl, _, _, _⟩ := hLA.val
      have TR := trim_any below av cv ls wr hLA
      obtain ⟨x0, x1, _, _⟩ := cell_box2 hx
      have HR := Lib.hid hr
      have HOK := Lib.hid hok
      have HVL := Lib.hid hvl
      clear hr hx hown hLA hok hvl hz hll
      go_wp2_with fail
      refine TR.mono ?_
      rintro e w2 ⟨v2, rfl, ⟨u2, rfl, hu2⟩, hb2⟩
      obtain ⟨a2, c2, rfl, _, _, _⟩ := hu2.val
      have hzr := hbl.size
      have hrr2 := (hb2.block w.heap.size (by omega)).trans HR.out
      obtain ⟨w3, hw3, hr3, hz3, hk3, hB3⟩ := set_box2' hrr2 (.bool (below && !(trimL ls).isEmpty))
      obtain ⟨w4, hw4, hr4, hz4, hk4, hB4⟩ := set_box2 hr3 (.slice a2 (trimL ls).length c2)
      have hb12 : Below w.heap.size w w2 := hbl.trans (hb2.mono hzr)
      have hb4 := hB4 _ _ (by omega) (hB3 _ _ (by omega) hb12)
      have HU : Hid (LimbsAt w4 (.slice a2 (trimL ls).length c2) (trimL ls)) := hu2.box hrr2 (by omega) (fun k hk => (hk4 k hk).trans (hk3 k hk))
      obtain ⟨q0, q1, _, _⟩ := cell_box2 hr4
      obtain ⟨r0, r1, f0, f1⟩ := cell_box2 hrr2
      have hfin : bigOk (below && !(trimL ls).isEmpty) (trimL ls) ∧ numV (below && !(trimL ls).isEmpty) (trimL ls) = numVal below (valD d) ∧ (trimL ls).length ≤ d.length := by
        refine ⟨big_trim _ HOK.out, ?_, Nat.le_trans (trimL_len ls) hls⟩
        rw [num_trim]
        unfold numV numVal
        rw [HVL.out]
      have HFIN := Lib.hid hfin
      have HW3 := Lib.hid hw3
      have HW4 := Lib.hid hw4
      clear hfin hw3 hw4 hr3 hr4 hk3 hk4 hB3 hB4 hu2 hb12 TR hrr2
      go_wp2
      rw [← HW3.out, ← HW4.out]
      refine bodyPost_ret (v := .agg #[.bool (below && !(trimL ls).isEmpty), .slice a2 (trimL ls).length c2]) (by simp [results, go_sem, q0, q1]) rfl ?_
      exact ⟨_, _, trimL ls, rfl, ⟨_, rfl, HU.out⟩, HFIN.out.1, HFIN.out.2.1, HFIN.out.2.2, hb4⟩
    | succ g =>
      obtain ⟨e, he⟩ : ∃ e : Nat, z = (e : Int) := ⟨d.length - 9 * k, by omega⟩
      have he1 : e = d.length - 9 * k := by omega
      have he0 : 0 < e := by omega
      have hed : e ≤ d.length := by omega
      have hrs := read_step HA.out hed he0 (by omega) hok (by rw [hvl, he1])
      have hseg : allD ((d.take e).drop (e - 9)) = true := by
        have h := HA.out
        unfold allD at h ⊢
        rw [List.all_eq_true] at h ⊢
        exact fun c hc => h c (List.mem_of_mem_take (List.mem_of_mem_drop hc))
      have hsl : ((d.take e).drop (e - 9)).length = e - (e - 9) := by rw [List.length_drop, List.length_take, Nat.min_eq_left hed]
      have hex : (ByteArray.mk d.toArray).extract (e - 9) e = ⟨((d.take e).drop (e - 9)).toArray⟩ := by
        rw [ByteArray.extract_mk, List.drop_take]
      have hpr := parse_ok hseg (by intro h0; rw [h0] at hsl; simp at hsl; omega) (by omega)
      have PU := fun W => Tryd.strconv_ParseUint_10_at64_ok ⟨((d.take e).drop (e - 9)).toArray⟩ (by rw [str_size]; omega) _ hpr W
      subst he
      have hE' : (e : Int) - 9 = (d.length : Int) - 9 * ((k + 1 : Nat) : Int) := by omega
      have hnx : d.length - 9 * (k + 1) = e - 9 := by omega
      rw [← hnx] at hrs
      have HE := Lib.hid hE'
      have HR := Lib.hid hr
      have HX := Lib.hid hx
      have HOW := Lib.hid hown
      have HLL := Lib.hid hll
      have hlk9 : 9 * ls.length ≤ 300 := by omega
      generalize hseg2 : (d.take e).drop (e - 9) = seg at hex PU hpr hsl hseg
      have hrs' : okL (ls ++ [valD seg]) ∧ valL (ls ++ [valD seg]) = valD (d.drop (d.length - 9 * (k + 1))) := by
        rw [← hseg2, ← hnx]; exact hrs
      obtain ⟨r, hr'⟩ : ∃ r, valD seg = r := ⟨_, rfl⟩
      rw [hr'] at PU hrs'
      have HRS := Lib.hid hrs'
      have he0' : (0 : Int) < (e : Int) := by omega
      have hed' : (e : Int) ≤ (d.length : Int) := by omega
      clear hrs hrs' hr hx hown hll hok hvl hz he1 hE' hnx hpr hseg hsl hseg2 hr'
      have hmx : (max 0 ((e : Int) - 9)).toNat = e - 9 := by omega
      go_wp2_with fail
      refine (PU _).mono ?_
      rintro e1 w1 ⟨rfl, hw1⟩
      have hb1 : Below wr.heap.size wr w1 := by
        rcases hw1 with rfl | rfl
        · exact Below.refl _ _
        · exact bytes_below _ _ _
      have hz1 := hb1.size
      have hzr := hbl.size
      have hx1 := (hb1.block _ (by omega)).trans HX.out
      have hr1 := (hb1.block _ (by omega)).trans HR.out
      have hown1 := own_below HOW.out hb1
      obtain ⟨x0, x1, _, _⟩ := cell_box2 hx1
      have HR1 := Lib.hid hr1
      have HX1 := Lib.hid hx1
      clear hw1 hx1 hr1 PU
      go_wp2_with (at_builtin; refine wpList_append_fresh _ rfl (.tmp 33) (.tmp 35) 76 rfl w0.heap.size 92 i53 _ 1 8 Tryd.underlying76 hi53 hz53 hs53 hy53 rfl (by decide) _ _ _ rfl (hown1.alloc _) ⟨w1.heap.size, 0, none⟩ 1 1 [.int .u64 (r : Int)] rfl rfl (cell_one_new _ _ _) ?a2 ?a3 ?a4 ?a5 ?_)
      case a2 => first | rfl | (intro u hu; simp at hu; subst hu; rfl)
      case a3 => unfold maxLen; omega
      case a4 => omega
      case a5 => simp; omega
      intro v' w5 hown5 hgrow5 _
      have hown6 : w5.ownsRow w0.heap.size 92 1 v' (ls ++ [r]).length (limbs (ls ++ [r])) := by
        rw [limbs_snoc, List.length_append]; exact hown5
      have hb5 : Below w0.heap.size wr w5 := ((hb1.mono hws).alloc (by omega) _).grown hgrow5 (by simp; omega) (fun k e => (hown1.lt _ e).1)
      obtain ⟨g5, c5, rfl⟩ := own_succ hown5
      have hz5 := hb5.size
      have hx5 := (hb5.block (w.heap.size + 1) (by omega)).trans HX.out
      have hr5 := (hb5.block w.heap.size (by omega)).trans HR.out
      obtain ⟨y0, y1, f0, f1⟩ := cell_box2 hx5
      obtain ⟨w6, hw6, hx6, hz6, hk6, hB6⟩ := set_box2 hx5 (.slice (some ⟨g5, 0, none⟩) (ls.length + 1) c5)
      have hr6 := (hk6 w.heap.size (by omega)).trans hr5
      have hown7 := own_keep hown6 (w' := w6) (fun q hq _ => hk6 q (by omega))
      have hb6 := hB6 _ _ (by omega) (hbl.trans (hb5.mono (by omega)))
      have HW6 := Lib.hid hw6
      have HX6 := Lib.hid hx6
      have HR6 := Lib.hid hr6
      have HO7 := Lib.hid hown7
      clear hown5 hgrow5 hown1 hown6 hx5 hr5 hw6 hx6 hr6 hk6 hB6 hown7
      go_wp2
      rw [← HW6.out]
      go_roundg g
      case measure => omega
      case rel => exact ⟨k + 1, (e : Int) - 9, ls ++ [r], _, by omega, by go_num, HE.out, by rw [List.length_append, HLL.out]; rfl, HRS.out.1, HRS.out.2, HR6.out, HX6.out, HO7.out, by omega, hb6⟩

end Go.Proofs.YtgbalofdfdafmaaDoor
namespace Go.Proofs.YtgbalofdfdafmaaDoor
open Go.RowKit
set_option maxRecDepth 100000
attribute [local go_sem] str_size str_toList str_get

theorem good_parts {a : List UInt8} (h : goodS a = true) : allD (sizeS a) = true ∧ (sizeS a).length ≤ 100 ∧ a.length ≤ 101 := by
  unfold goodS at h
  simp only [Bool.and_eq_true, decide_eq_true_eq] at h
  refine ⟨h.2, h.1.1.2, ?_⟩
  have h1 := h.1.1.2
  unfold sizeS at h1
  split at h1
  · rw [List.length_tail] at h1; omega
  · omega
theorem good_is {a : List UInt8} {g : Bool} (h : goodS a = g) (w : World) : Calls Tryd.prog 59 #[str a] w fun e w' => e = .returned (.bool g) ∧ Below w.heap.size w w' := by
  rw [← h]; exact good_any a w
theorem read_good {a : List UInt8} (h : goodS a = true) (w : World) : Calls Tryd.prog 65 #[str a] w (NumPost (valS a) 100 w) := by
  obtain ⟨h1, h2, h3⟩ := good_parts h
  refine (read_any a h1 (by omega) w).mono ?_
  rintro e w' ⟨v, b, zs, r1, r2, r3, r4, r5, r6⟩
  exact ⟨v, b, zs, r1, r2, r3, r4, by omega, r6⟩
theorem turned_big (b : Bool) (v : Value) (xs : List Nat) (w : World) (h : LimbsAt w v xs) (ok : bigOk b xs) : Calls Tryd.prog 66 #[.agg #[.bool b, v]] w (NumPost (-numV b xs) xs.length w) := by
  refine (turned_any b v xs w h).mono ?_
  rintro e w' ⟨v, rfl, hv, hb⟩
  refine ⟨v, _, _, rfl, hv, big_trim _ ok.1, ?_, trimL_len xs, hb⟩
  rw [num_trim]
  unfold numV
  cases b <;> simp


end Go.Proofs.YtgbalofdfdafmaaDoor
namespace Go.Proofs.YtgbalofdfdafmaaDoor
open Go.RowKit
set_option maxRecDepth 100000
attribute [local go_sem] str_size str_toList str_get

theorem sgn_num {b : Bool} {zs : List Nat} (ok : bigOk b zs) : (zs.length = 0 → sgn (numV b zs) = 0) ∧ (¬ zs.length = 0 → b = true → sgn (numV b zs) = -1) ∧ (¬ zs.length = 0 → b = false → sgn (numV b zs) = 1) := by
  have hp : ¬ zs.length = 0 → 0 < valL zs := fun h => Nat.pos_of_ne_zero fun e => h (by rw [(trim_nil ok.2.1).2 e]; rfl)
  refine ⟨fun h => ?_, fun h hb => ?_, fun h hb => ?_⟩
  · have : zs = [] := List.eq_nil_of_length_eq_zero h
    subst this
    cases b <;> rfl
  · have := hp h
    unfold numV sgn
    rw [if_pos hb, if_pos (by omega)]
  · have := hp h
    unfold numV sgn
    rw [hb]
    simp
    omega

set_option maxHeartbeats 4000000 in
theorem cmp_any (a b : List UInt8) (w : World) (hT : TabW w) : Calls Tryd.prog 48 #[str a, str b] w fun e w' => e = .returned (.int .i64 (cmpR a b)) ∧ Below w.heap.size w w' := by
  by_cases hga : goodS a = true
  · by_cases hgb : goodS b = true
    · have GA := good_is hga w
      have GB := fun W => good_is hgb W
      have RA := fun W => read_good hga W
      have RB := fun W => read_good hgb W
      have HR : Hid (cmpR a b = sgn (valS a - valS b)) := by rw [Hid]; unfold cmpR; rw [if_pos ⟨hga, hgb⟩]
      generalize valS a = za at RA HR
      generalize valS b = zb at RB HR
      have HT := Lib.hid hT
      clear hga hgb hT
      go_enter Tryd.func48, Tryd.ntmps48
      go_wp2_with fail
      refine GA.mono ?_
      rintro e w1 ⟨rfl, hb1⟩
      go_wp2_with fail
      refine (GB _).mono ?_
      rintro e w2 ⟨rfl, hb2⟩
      go_wp2_with fail
      refine (RA _).mono ?_
      rintro e w3 ⟨_, ba, xs, rfl, ⟨u3, rfl, hx3⟩, okx, hvx, hlx, hb3⟩
      go_wp2_with fail
      refine (RB _).mono ?_
      rintro e w4 ⟨_, bb, ys, rfl, ⟨u4, rfl, hy4⟩, oky, hvy, hly, hb4⟩
      have hx4 := hx3.mono hb4
      have hB4 : Below w.heap.size w w4 := ((hb1.trans (hb2.mono hb1.size)).trans (hb3.mono (by have := hb1.size; have := hb2.size; omega))).trans (hb4.mono (by have := hb1.size; have := hb2.size; have := hb3.size; omega))
      clear GA GB RA RB hb1 hb2 hb3 hb4 hx3
      go_wp2_with fail
      refine (turned_big bb _ ys _ hy4 oky).mono ?_
      rintro e w5 ⟨_, bt, ts, rfl, ⟨ut, rfl, ht5⟩, okt, hvt, hlt, hb5⟩
      have hx5 := hx4.mono hb5
      have hB5 : Below w.heap.size w w5 := hB4.trans (hb5.mono hB4.size)
      rw [hvy] at hvt
      clear hx4 hy4 oky hvy hB4 hb5
      go_wp2_with fail
      refine (sum_any _ _ _ _ _ _ _ hx5 ht5 okx okt (by omega) (by omega)).mono ?_
      rintro e w6 ⟨_, bz, zs, rfl, ⟨uz, rfl, hz6⟩, okz, hvz, hlz, hb6⟩
      rw [hvx, hvt, ← Int.sub_eq_add_neg] at hvz
      have HZ := Lib.hid hz6
      have OKZ := Lib.hid okz
      have HVZ := Lib.hid hvz
      have HBZ : Hid (Below w.heap.size w w6) := hB5.trans (hb6.mono hB5.size)
      have hlz' : zs.length ≤ 300 := by omega
      clear hz6 okz hvz hb6 hlz hx5 ht5 okx okt hvx hvt hB5
      obtain ⟨az, cz, rfl, _, _, _⟩ := HZ.out.val
      obtain ⟨w7, hw7⟩ : ∃ w7, w7 = w6.alloc (.cells #[.bool bz, .slice az zs.length cz] 78) := ⟨_, rfl⟩
      have hd7 : w7.heap[w6.heap.size]? = some (.cells #[.bool bz, .slice az zs.length cz] 78 (0, 0)) := by rw [hw7]; exact heap_alloc_new _ _
      have HB7 : Hid (Below w.heap.size w w7) := by rw [Hid, hw7]; exact HBZ.out.alloc HBZ.out.size _
      obtain ⟨y0, y1, _, _⟩ := cell_box2 hd7
      have hsg := sgn_num OKZ.out
      rw [HVZ.out] at hsg
      have HW7 := Lib.hid hw7
      clear hd7 hw7
      by_cases hz0 : zs.length = 0
      · have hz0' : (zs.length : Int) = 0 := by omega
        have HS := Lib.hid (hsg.1 hz0)
        rw [hz0] at y1 HW7 ⊢
        clear hz0 hz0' hsg
        go_upto_region 4 with fail
        rw [show _ = w7 from HW7.out.symm]
        go_wp2
        go_ret
        exact ⟨by rw [HR.out, HS.out]; rfl, HB7.out⟩
      · have hz0' : ¬ (zs.length : Int) = 0 := by omega
        cases bz with
        | true =>
          have HS := Lib.hid (hsg.2.1 hz0 rfl)
          clear hz0 hsg
          go_upto_region 4 with fail
          rw [show _ = w7 from HW7.out.symm]
          go_wp2
          go_ret
          exact ⟨by rw [HR.out, HS.out]; rfl, HB7.out⟩
        | false =>
          have HS := Lib.hid (hsg.2.2 hz0 rfl)
          clear hz0 hsg
          go_upto_region 4 with fail
          rw [show _ = w7 from HW7.out.symm]
          go_wp2
          go_ret
          exact ⟨by rw [HR.out, HS.out]; rfl, HB7.out⟩
    · have hgb' : goodS b = false := by simpa using hgb
      have GA := good_is hga w
      have GB := fun W => good_is hgb' W
      have HR : Hid (cmpR a b = 0) := by rw [Hid]; unfold cmpR; rw [if_neg (fun h => hgb h.2)]
      clear hga hgb hgb'
      go_enter Tryd.func48, Tryd.ntmps48
      go_wp2_with fail
      refine GA.mono ?_
      rintro e w1 ⟨rfl, hb1⟩
      go_wp2_with fail
      refine (GB _).mono ?_
      rintro e w2 ⟨rfl, hb2⟩
      go_wp2
      go_ret
      exact ⟨by rw [HR.out]; rfl, hb1.trans (hb2.mono hb1.size)⟩
  · have hga' : goodS a = false := by simpa using hga
    have GA := good_is hga' w
    have HR : Hid (cmpR a b = 0) := by rw [Hid]; unfold cmpR; rw [if_neg (fun h => hga h.1)]
    clear hga hga'
    go_enter Tryd.func48, Tryd.ntmps48
    go_wp2_with fail
    refine GA.mono ?_
    rintro e w1 ⟨rfl, hb1⟩
    go_wp2
    go_ret
    exact ⟨by rw [HR.out]; rfl, hb1⟩

end Go.Proofs.YtgbalofdfdafmaaDoor
