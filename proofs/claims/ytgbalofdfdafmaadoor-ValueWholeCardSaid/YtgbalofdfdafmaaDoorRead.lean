/- The walk of read: a number's limbs. -/
import Derived.Test.YtgbalofdfdafmaaDoorOwnL
import Derived.Test.YtgbalofdfdafmaaDoorGood
namespace Go.Proofs.YtgbalofdfdafmaaDoor
open Go.RowKit
set_option maxRecDepth 100000
attribute [local go_sem] str_size str_toList str_get

theorem parseM_ok {M : Nat} (hM : 10 ^ 18 ≤ M) : ∀ (l : List UInt8) (acc : Nat), allD l = true → acc * 10 ^ l.length + valD l < 10 ^ 18 → Lib.parseUintM M acc l = .ok (acc * 10 ^ l.length + valD l)
  | [], acc, _, _ => by simp [Lib.parseUintM, valD]
  | c :: l, acc, h, hb => by
    simp only [allD, List.all_cons, Bool.and_eq_true] at h
    have hc := isD_iff.1 h.1
    rw [valD_cons, List.length_cons, Nat.pow_succ] at hb ⊢
    have e : acc * (10 ^ l.length * 10) + (dv c * 10 ^ l.length + valD l) = (acc * 10 + dv c) * 10 ^ l.length + valD l := by
      rw [Nat.add_mul, Nat.mul_comm (10 ^ l.length) 10, ← Nat.mul_assoc]
      omega
    rw [e] at hb ⊢
    have h1 : 1 ≤ 10 ^ l.length := Nat.pow_pos (by decide)
    have h2 : acc * 10 + dv c ≤ (acc * 10 + dv c) * 10 ^ l.length := Nat.le_mul_of_pos_right _ h1
    have h3 : dv c = c.toNat - 48 := rfl
    unfold Lib.parseUintM
    rw [if_pos hc, if_neg (by omega), if_neg (by omega), ← h3]
    exact parseM_ok hM l _ h.2 hb
theorem parse_ok {l : List UInt8} (h : allD l = true) (hn : l ≠ []) (hl : l.length ≤ 9) : Lib.parseUintB 64 l = .ok (valD l) := by
  unfold Lib.parseUintB
  rw [if_neg hn, parseM_ok (by decide) l 0 h]
  · simp
  · have := valD_lt h
    have h2 : 10 ^ l.length ≤ 10 ^ 9 := Nat.pow_le_pow_right (by decide) hl
    omega

theorem own_succ {W : World} {base : Nat} {e : TypeId} {size : Nat} {v : Value} {k : Nat} {xs : List Value} (h : W.ownsRow base e size v (k + 1) xs) : ∃ g cap, v = .slice (some ⟨g, 0, none⟩) (k + 1) cap := by
  rcases h.2 with ⟨_, h0⟩ | ⟨g, cap, _, rfl, _⟩
  · omega
  · exact ⟨g, cap, rfl⟩
def numVal (b : Bool) (n : Nat) : Int := if b = true then -(n : Int) else (n : Int)

set_option maxHeartbeats 4000000 in
theorem read_any (a : List UInt8) (ha : allD (sizeS a) = true) (hl : a.length ≤ 300) (w : World) : Calls Tryd.prog 65 #[str a] w (NumPost (valS a) (sizeS a).length w) := by
  obtain ⟨i53, hi53, hz53, hs53, hy53⟩ := info_parts Tryd.info92
  have hl' : (sizeS a).length ≤ 300 := by
    unfold sizeS
    split
    · rw [List.length_tail]; omega
    · exact hl
  have hv : valS a = numVal (belowS a) (valD (sizeS a)) := rfl
  have CP := fun W => Tryd.strings_CutPrefix ⟨a.toArray⟩ ⟨#[45]⟩ W
  simp only [trim_size, has_below] at CP
  rw [hv]
  generalize sizeS a = d at ha hl' CP ⊢
  generalize belowS a = below at CP ⊢
  clear hv hl
  have HA := Lib.hid ha
  clear ha
  go_enter Tryd.func65, Tryd.ntmps65
  go_upto_region 3 with (refine (CP _).mono ?_; rintro e wA ⟨rfl, rfl⟩)
  obtain ⟨w0, hw0⟩ : ∃ w0, w0 = (w.alloc (.cells #[.bool false, .slice none 0 0] 78)).alloc (.cells #[.bool below, .slice none 0 0] 78) := ⟨_, rfl⟩
  have hs0 : w0.heap.size = w.heap.size + 2 := by rw [hw0]; simp
  have hb0 : Below w.heap.size w w0 := by rw [hw0]; exact ((Below.refl _ w).alloc (Nat.le_refl _) _).alloc (by simp) _
  have hr0 : w0.heap[w.heap.size]? = some (.cells #[.bool false, .slice none 0 0] 78 (0, 0)) := by
    rw [hw0]; exact (Below.heap_alloc _ _ _ (by simp)).trans (heap_alloc_new _ _)
  have hx0 : w0.heap[w.heap.size + 1]? = some (.cells #[.bool below, .slice none 0 0] 78 (0, 0)) := by
    have := heap_alloc_new (w.alloc (.cells #[.bool false, .slice none 0 0] 78)) (.cells #[.bool below, .slice none 0 0] 78)
    rw [hw0]
    rwa [show (w.alloc (.cells #[.bool false, .slice none 0 0] 78)).heap.size = w.heap.size + 1 by simp] at this
  rw [← hw0]
  have HR0 := Lib.hid hr0
  have HX0 := Lib.hid hx0
  have HS0 := Lib.hid hs0
  have hBs : w.heap.size + 2 ≤ w0.heap.size := by omega
  clear hw0 hr0 hx0 CP hs0
  go_wp2
  go_loopg [6] ((d.length + 8) / 9) (fun g v6 wr => ∃ (k : Nat) (z : Int) (ls : List Nat) (v : Value), k + g = (d.length + 8) / 9 ∧ v6 = .int .i64 z ∧ z = (d.length : Int) - 9 * (k : Int) ∧ ls.length = k ∧ okL ls ∧ valL ls = valD (d.drop (d.length - 9 * k)) ∧ wr.heap[w.heap.size]? = some (.cells #[.bool false, .slice none 0 0] 78 (0, 0)) ∧ wr.heap[w.heap.size + 1]? = some (.cells #[.bool below, v] 78 (0, 0)) ∧ wr.ownsRow w0.heap.size 92 1 v ls.length (limbs ls) ∧ w0.heap.size ≤ wr.heap.size ∧ Below w.heap.size w wr)
  case atStart => exact ⟨0, _, [], .slice none 0 0, by omega, rfl, by omega, rfl, okL_nil, by rw [Nat.mul_zero, Nat.sub_zero, List.drop_length]; rfl, HR0.out, HX0.out, World.ownsRow_nil _ _ _ _, Nat.le_refl _, hb0⟩
  case round =>
    obtain ⟨k, z, ls, v, hkg, rfl, hz, hll, hok, hvl, hr, hx, hown, hws, hbl⟩ := hrel
    cases gk with
    | zero =>
      have hz0 : ¬ (0 : Int) < z := by omega
      rw [show d.length - 9 * k = 0 by omega, List.drop_zero] at hvl
      have hls : ls.length ≤ d.length := by omega
      have hLA := limbs_of_own hown (by omega)
      obtain ⟨av, cv, rfl, _, _, _⟩ := hLA.val
      have TR := trim_any below av cv ls wr hLA
      obtain ⟨x0, x1, _, _⟩ := cell_box2 hx
      have HR := Lib.hid hr
      have HOK := Lib.hid hok
      have HVL := Lib.hid hvl
      clear hr hx hown hLA hok hvl hz hll
      go_wp2_with fail
      refine TR.mono ?_
      rintro e w2 ⟨v2, rfl, ⟨u2, rfl, hu2⟩, hb2⟩
      obtain ⟨a2, c2, rfl, _, _, _⟩ := hu2.val
      have hzr := hbl.size
      have hrr2 := (hb2.block w.heap.size (by omega)).trans HR.out
      obtain ⟨w3, hw3, hr3, hz3, hk3, hB3⟩ := set_box2' hrr2 (.bool (below && !(trimL ls).isEmpty))
      obtain ⟨w4, hw4, hr4, hz4, hk4, hB4⟩ := set_box2 hr3 (.slice a2 (trimL ls).length c2)
      have hb12 : Below w.heap.size w w2 := hbl.trans (hb2.mono hzr)
      have hb4 := hB4 _ _ (by omega) (hB3 _ _ (by omega) hb12)
      have HU : Hid (LimbsAt w4 (.slice a2 (trimL ls).length c2) (trimL ls)) := hu2.box hrr2 (by omega) (fun k hk => (hk4 k hk).trans (hk3 k hk))
      obtain ⟨q0, q1, _, _⟩ := cell_box2 hr4
      obtain ⟨r0, r1, f0, f1⟩ := cell_box2 hrr2
      have hfin : bigOk (below && !(trimL ls).isEmpty) (trimL ls) ∧ numV (below && !(trimL ls).isEmpty) (trimL ls) = numVal below (valD d) ∧ (trimL ls).length ≤ d.length := by
        refine ⟨big_trim _ HOK.out, ?_, Nat.le_trans (trimL_len ls) hls⟩
        rw [num_trim]
        unfold numV numVal
        rw [HVL.out]
      have HFIN := Lib.hid hfin
      have HW3 := Lib.hid hw3
      have HW4 := Lib.hid hw4
      clear hfin hw3 hw4 hr3 hr4 hk3 hk4 hB3 hB4 hu2 hb12 TR hrr2
      go_wp2
      rw [← HW3.out, ← HW4.out]
      refine bodyPost_ret (v := .agg #[.bool (below && !(trimL ls).isEmpty), .slice a2 (trimL ls).length c2]) (by simp [results, go_sem, q0, q1]) rfl ?_
      exact ⟨_, _, trimL ls, rfl, ⟨_, rfl, HU.out⟩, HFIN.out.1, HFIN.out.2.1, HFIN.out.2.2, hb4⟩
    | succ g =>
      obtain ⟨e, he⟩ : ∃ e : Nat, z = (e : Int) := ⟨d.length - 9 * k, by omega⟩
      have he1 : e = d.length - 9 * k := by omega
      have he0 : 0 < e := by omega
      have hed : e ≤ d.length := by omega
      have hrs := read_step HA.out hed he0 (by omega) hok (by rw [hvl, he1])
      have hseg : allD ((d.take e).drop (e - 9)) = true := by
        have h := HA.out
        unfold allD at h ⊢
        rw [List.all_eq_true] at h ⊢
        exact fun c hc => h c (List.mem_of_mem_take (List.mem_of_mem_drop hc))
      have hsl : ((d.take e).drop (e - 9)).length = e - (e - 9) := by rw [List.length_drop, List.length_take, Nat.min_eq_left hed]
      have hex : (ByteArray.mk d.toArray).extract (e - 9) e = ⟨((d.take e).drop (e - 9)).toArray⟩ := by
        rw [ByteArray.extract_mk, List.drop_take]
      have hpr := parse_ok hseg (by intro h0; rw [h0] at hsl; simp at hsl; omega) (by omega)
      have PU := fun W => Tryd.strconv_ParseUint_10_at64_ok ⟨((d.take e).drop (e - 9)).toArray⟩ (by rw [str_size]; omega) _ hpr W
      subst he
      have hE' : (e : Int) - 9 = (d.length : Int) - 9 * ((k + 1 : Nat) : Int) := by omega
      have hnx : d.length - 9 * (k + 1) = e - 9 := by omega
      rw [← hnx] at hrs
      have HE := Lib.hid hE'
      have HR := Lib.hid hr
      have HX := Lib.hid hx
      have HOW := Lib.hid hown
      have HLL := Lib.hid hll
      have hlk9 : 9 * ls.length ≤ 300 := by omega
      generalize hseg2 : (d.take e).drop (e - 9) = seg at hex PU hpr hsl hseg
      have hrs' : okL (ls ++ [valD seg]) ∧ valL (ls ++ [valD seg]) = valD (d.drop (d.length - 9 * (k + 1))) := by
        rw [← hseg2, ← hnx]; exact hrs
      obtain ⟨r, hr'⟩ : ∃ r, valD seg = r := ⟨_, rfl⟩
      rw [hr'] at PU hrs'
      have HRS := Lib.hid hrs'
      have he0' : (0 : Int) < (e : Int) := by omega
      have hed' : (e : Int) ≤ (d.length : Int) := by omega
      clear hrs hrs' hr hx hown hll hok hvl hz he1 hE' hnx hpr hseg hsl hseg2 hr'
      have hmx : (max 0 ((e : Int) - 9)).toNat = e - 9 := by omega
      go_wp2_with fail
      refine (PU _).mono ?_
      rintro e1 w1 ⟨rfl, hw1⟩
      have hb1 : Below wr.heap.size wr w1 := by
        rcases hw1 with rfl | rfl
        · exact Below.refl _ _
        · exact bytes_below _ _ _
      have hz1 := hb1.size
      have hzr := hbl.size
      have hx1 := (hb1.block _ (by omega)).trans HX.out
      have hr1 := (hb1.block _ (by omega)).trans HR.out
      have hown1 := own_below HOW.out hb1
      obtain ⟨x0, x1, _, _⟩ := cell_box2 hx1
      have HR1 := Lib.hid hr1
      have HX1 := Lib.hid hx1
      clear hw1 hx1 hr1 PU
      go_wp2_with (at_builtin; refine wpList_append_fresh _ rfl (.tmp 33) (.tmp 35) 76 rfl w0.heap.size 92 i53 _ 1 8 Tryd.underlying76 hi53 hz53 hs53 hy53 rfl (by decide) _ _ _ rfl (hown1.alloc _) ⟨w1.heap.size, 0, none⟩ 1 1 [.int .u64 (r : Int)] rfl rfl (cell_one_new _ _ _) ?a2 ?a3 ?a4 ?a5 ?_)
      case a2 => first | rfl | (intro u hu; simp at hu; subst hu; rfl)
      case a3 => unfold maxLen; omega
      case a4 => omega
      case a5 => simp; omega
      intro v' w5 hown5 hgrow5 _
      have hown6 : w5.ownsRow w0.heap.size 92 1 v' (ls ++ [r]).length (limbs (ls ++ [r])) := by
        rw [limbs_snoc, List.length_append]; exact hown5
      have hb5 : Below w0.heap.size wr w5 := ((hb1.mono hws).alloc (by omega) _).grown hgrow5 (by simp; omega) (fun k e => (hown1.lt _ e).1)
      obtain ⟨g5, c5, rfl⟩ := own_succ hown5
      have hz5 := hb5.size
      have hx5 := (hb5.block (w.heap.size + 1) (by omega)).trans HX.out
      have hr5 := (hb5.block w.heap.size (by omega)).trans HR.out
      obtain ⟨y0, y1, f0, f1⟩ := cell_box2 hx5
      obtain ⟨w6, hw6, hx6, hz6, hk6, hB6⟩ := set_box2 hx5 (.slice (some ⟨g5, 0, none⟩) (ls.length + 1) c5)
      have hr6 := (hk6 w.heap.size (by omega)).trans hr5
      have hown7 := own_keep hown6 (w' := w6) (fun q hq _ => hk6 q (by omega))
      have hb6 := hB6 _ _ (by omega) (hbl.trans (hb5.mono (by omega)))
      have HW6 := Lib.hid hw6
      have HX6 := Lib.hid hx6
      have HR6 := Lib.hid hr6
      have HO7 := Lib.hid hown7
      clear hown5 hgrow5 hown1 hown6 hx5 hr5 hw6 hx6 hr6 hk6 hB6 hown7
      go_wp2
      rw [← HW6.out]
      go_roundg g
      case measure => omega
      case rel => exact ⟨k + 1, (e : Int) - 9, ls ++ [r], _, by omega, by go_num, HE.out, by rw [List.length_append, HLL.out]; rfl, HRS.out.1, HRS.out.2, HR6.out, HX6.out, HO7.out, by omega, hb6⟩

end Go.Proofs.YtgbalofdfdafmaaDoor
