/- WorldNumbers: IDs of one address rise from where they are asked for, and a freed one is given again. No condition. -/
import Derived.Test.YtpbipngnoklmcaaDoorWldAw
import Derived.Test.YtpbipngnoklmcaaDoorWldNm
import Derived.Test.YtpbipngnoklmcaaDoorDigW
namespace Go.Proofs.YtpbipngnoklmcaaDoor
open Go.RowKit
set_option maxRecDepth 100000
attribute [local go_sem] str_size str_toList str_get

theorem pick_20 (fr : Int) : ∃ f : Nat, f < 20 ∧ wrap64 ((IntKind.u64.wrap fr).tmod 20) = (f : Int) := by
  obtain ⟨x, hx⟩ := Int.eq_ofNat_of_zero_le (show 0 ≤ IntKind.u64.wrap fr by rw [IntKind.wrap_u64]; omega)
  refine ⟨x % 20, Nat.mod_lt _ (by decide), ?_⟩
  have e : ((x : Int)).tmod 20 = ((x % 20 : Nat) : Int) := by rw [Int.tmod_eq_emod_of_nonneg (by omega)]; simp
  have := Nat.mod_lt x (show 0 < 20 by decide)
  rw [hx, e]
  unfold wrap64
  omega
theorem pick_1000 (fr : Int) : ∃ f : Nat, f < 1000 ∧ wrap64 ((IntKind.u64.wrap fr).tmod 1000) = (f : Int) := by
  obtain ⟨x, hx⟩ := Int.eq_ofNat_of_zero_le (show 0 ≤ IntKind.u64.wrap fr by rw [IntKind.wrap_u64]; omega)
  refine ⟨x % 1000, Nat.mod_lt _ (by decide), ?_⟩
  have e : ((x : Int)).tmod 1000 = ((x % 1000 : Nat) : Int) := by rw [Int.tmod_eq_emod_of_nonneg (by omega)]; simp
  have := Nat.mod_lt x (show 0 < 1000 by decide)
  rw [hx, e]
  unfold wrap64
  omega
theorem itoa_short {k : Int} (h0 : 0 ≤ k) (h1 : k ≤ 100000) : (Lib.itoa k).length ≤ 101 := by
  have := (good_parts (good_itoa (n := k) (by
    have : k.natAbs ≤ 100000 := by omega
    exact Nat.lt_of_le_of_lt this (by decide)))).2.2
  omega
theorem id_cat (k : Int) : [97, 46, 98, 35] ++ Lib.itoa k = idN abN k := rfl
theorem newP_nil : newP [] [] = (some ⟨[], [], []⟩, 0) := rfl
theorem none_good : goodA noneV = true := by kernel_rfl

/-- A world of objects whose numbers rise, and no rules. -/
def NumW (f i : Nat) (B : Nat) (L : List Nat) (p : Nat) (w : World) : Prop := ∃ S, NumI S.objs f i ∧ S.fails = [] ∧ S.trace.length = i ∧ Has B L p S i w

theorem NumW.next {f i B : Nat} {L : List Nat} {p : Nat} {S : WS} {w' : World} (h : NumI S.objs f i) (hf : S.fails = []) (ht : S.trace.length = i) (x : VT) (h0 : 1 ≤ f) (h1 : f ≤ 1000) (a : S8) (e : Int)
    (hh : Has B L p (noteP (putP S ([97], newId S.objs abN [97] (idN abN f), x)) 1 a [97] (newId S.objs abN [97] (idN abN f)) e) (i + 1) w') : NumW f (i + 1) B L p w' := by
  refine ⟨_, ?_, ?_, ?_, hh⟩
  · rw [h.id h0 h1]
    exact h.next x
  · exact hf
  · show (S.trace ++ [_]).length = _
    rw [List.length_append, ht]
    rfl

set_option maxHeartbeats 8000000 in
theorem numbers_true (n f : Int) (w : World) (hE : ErrW w) (hT : TabW w) :
    Calls Tryd.prog 4 #[.int .i64 n, .int .i64 f] w fun e w' => e = .returned (.bool true) ∧ Below w.heap.size w w' := by
  have NW := new_h [] [] (.slice none 0 0) (.slice none 0 0) w (ObjsAt.nil w) (CellsAt.nil w) (by simp) (by simp) hE hT
  have HE := Lib.hid hE
  have HT := Lib.hid hT
  clear hE hT
  obtain ⟨N0, hN, hNw⟩ := pick_20 n
  obtain ⟨F0, hF, hFw⟩ := pick_1000 f
  go_enter Tryd.func4, Tryd.ntmps4
  go_wp2_with fail
  refine NW.mono ?_
  rintro e w1 ⟨hb1, hx⟩
  rw [newP_nil] at hx
  obtain ⟨p, rfl, hh⟩ := hx
  go_wp2_with fail
  refine (awake17 w1 (HE.out.mono hb1) (HT.out.mono hb1)).mono ?_
  rintro e w2 ⟨rfl, hb2⟩
  have h2 := hh.below hb2
  have hbw2 := hb1.trans (hb2.mono hb1.size)
  clear NW hh hb1 hb2
  go_upto_region 5 with fail
  obtain ⟨N, hNN⟩ : ∃ N : Nat, N = N0 + 1 := ⟨_, rfl⟩
  obtain ⟨F, hFF⟩ : ∃ F : Nat, F = F0 + 1 := ⟨_, rfl⟩
  have eN : (N0 : Int) + 1 = (N : Int) := by omega
  have eF : (F0 : Int) + 1 = (F : Int) := by omega
  have bN : 1 ≤ N ∧ N ≤ 20 := by omega
  have bF : 1 ≤ F ∧ F ≤ 1000 := by omega
  obtain ⟨bN0, bN1⟩ := bN
  obtain ⟨bF0, bF1⟩ := bF
  rw [eN, eF]
  clear eN eF hNw hFw hNN hFF hN hF
  obtain ⟨w3, hw3⟩ : ∃ w3, w3 = w2.alloc (.cells #[.int .i64 6, .bool false, .string ⟨#[]⟩, .slice none 0 0, .slice none 0 0] 27) := ⟨_, rfl⟩
  have hn3 : w3.heap[w2.heap.size]? = some (.cells #[.int .i64 6, .bool false, .string ⟨#[]⟩, .slice none 0 0, .slice none 0 0] 27 (0, 0)) := by rw [hw3]; exact heap_alloc_new _ _
  have hb3 : Below w2.heap.size w2 w3 := by rw [hw3]; exact (Below.refl _ w2).alloc (Nat.le_refl _) _
  have h3 := (h2.guard (Nat.le_refl _)).below hb3
  have hbw3 := hbw2.trans (hb3.mono hbw2.size)
  have DG := fun (k : Int) (h0 : 0 ≤ k) (h1 : k ≤ 100000) (W : World) => digits_ref k (by omega) (by omega) W
  have AD := fun (k : Int) (h0 : 0 ≤ k) (h1 : k ≤ 100000) (W : World) => str_add (P := Tryd.prog) (w := W) [97, 46, 98, 35] (Lib.itoa k) (by have := itoa_short h0 h1; simp only [List.length_cons, List.length_nil]; omega)
  have IL : ∀ (k : Int), 0 ≤ k → k ≤ 100000 → (idN abN k).length ≤ 100000 := fun k h0 h1 => by
    have := itoa_short h0 h1
    rw [← id_cat, List.length_append]
    simp only [List.length_cons, List.length_nil]
    omega
  simp only [id_cat] at AD
  have D1 := DG F (by omega) (by omega) w3
  have A1 := AD F (by omega) (by omega)
  have LF := IL F (by omega) (by omega)
  have EF := Lib.hid (fun (l : List O3) (i : Nat) (h : NumI l F i) => h.id bF0 bF1)
  have HN2 := Lib.hid (fun (l : List O3) (h : NumI l F N) => num_end h bF0 bF1 bN0 noneV)
  have HDG := Lib.hid DG
  have HAD := Lib.hid AD
  have HIL := Lib.hid IL
  have HNX := Lib.hid (fun (i : Nat) (S : WS) (B : Nat) (L : List Nat) (w' : World) (h : NumI S.objs F i) (hf : S.fails = []) (ht : S.trace.length = i) (hh) => NumW.next (f := F) (i := i) (B := B) (L := L) (p := p) (S := S) (w' := w') h hf ht noneV bF0 bF1 abN 0 hh)
  clear DG AD IL h2 hb3 hbw2
  obtain ⟨I, hI⟩ : ∃ I, Lib.itoa (F : Int) = I := ⟨_, rfl⟩
  rw [hI] at D1 A1
  obtain ⟨AF, hAF⟩ : ∃ AF, idN abN (F : Int) = AF := ⟨_, rfl⟩
  rw [hAF] at A1 LF
  have HAF := Lib.hid hAF
  obtain ⟨Q, hQ⟩ : ∃ Q, w2.heap.size = Q := ⟨_, rfl⟩
  rw [hQ] at hn3 h3
  have hQw : w.heap.size ≤ w.heap.size := Nat.le_refl _
  go_upto_region 6 with fail
  rw [← hw3]
  try rw [hQ]
  clear hw3 hQ hI hAF
  go_wp2_with fail
  refine D1.mono ?_
  rintro e w4 ⟨rfl, hb4⟩
  have h4 := h3.below hb4
  have hn4 := (hb4.block _ (heap_lt hn3)).trans hn3
  have hbw4 := hbw3.trans (hb4.mono hbw3.size)
  have H4 := Lib.hid (⟨⟨[], [], []⟩, NumI.nil F, rfl, rfl, h4⟩ : NumW F 0 w.heap.size [Q] p w4)
  have HB4 := Lib.hid (⟨hbw4, hn4⟩ : Below w.heap.size w w4 ∧ w4.heap[Q]? = some (.cells #[.int .i64 6, .bool false, .string ⟨#[]⟩, .slice none 0 0, .slice none 0 0] 27 (0, 0)))
  clear D1 h3 h4 hb4 hn3 hn4 hbw3 hbw4 hQw
  go_wp2
  go_loopg [9] N (fun gg v9 wr => ∃ i : Nat, v9 = .int .i64 i ∧ i + gg = N ∧ Hid (NumW F i w.heap.size [Q] p wr) ∧ Hid (Below w.heap.size w wr ∧ wr.heap[Q]? = some (.cells #[.int .i64 6, .bool false, .string ⟨#[]⟩, .slice none 0 0, .slice none 0 0] 27 (0, 0))))
  case atStart => exact ⟨0, rfl, by omega, H4, HB4⟩
  case round =>
    clear H4 HB4
    obtain ⟨i, rfl, hig, HW, HB⟩ := hrel
    obtain ⟨S, hI, hf, ht, hh⟩ := HW.out
    obtain ⟨hbr, hnr⟩ := HB.out
    obtain ⟨c0, c1, c2, c3, c4⟩ := val_box hnr
    have hQ1 : ∀ q ∈ [Q], q < wr.heap.size := fun q hq => by
      have : q = Q := by simpa using hq
      rw [this]
      exact heap_lt hnr
    have hol : S.objs.length = i := hI.len
    cases gk with
    | zero =>
      obtain rfl : i = N := by omega
      obtain ⟨e1, e2, e3, e4⟩ := HN2.out S.objs hI
      rw [HAF.out] at e2 e3
      have C1 := create_h hh hQ1 abN [97] [] noneV _ (none_at wr) (by decide) (by simp) (fit_of (by simp)) (by omega) (by omega) (by omega) (HE.out.mono hbr) (HT.out.mono hbr)
      rw [createP_ok none_good hf, e1, show idN abN 1 = [97, 46, 98, 35, 49] by kernel_rfl] at C1
      rw [show idN abN 1 = [97, 46, 98, 35, 49] by kernel_rfl] at e2 e3 e4
      obtain ⟨S1, hS1⟩ : ∃ S1, noteP (putP S ([97], [97, 46, 98, 35, 49], noneV)) 1 abN [97] [97, 46, 98, 35, 49] 0 = S1 := ⟨_, rfl⟩
      have o1 : withO S.objs ([97], [97, 46, 98, 35, 49], noneV) = S1.objs := by rw [← hS1]; rfl
      have f1 : S1.fails = [] := by rw [← hS1]; exact hf
      have t1 : S1.trace.length = i + 1 := by rw [← hS1]; show (S.trace ++ [_]).length = _; rw [List.length_append, ht]; rfl
      have l1 : S1.objs.length ≤ i + 1 := by rw [← o1, ← hol]; exact len_with_le _ _
      rw [o1] at e2 e3 e4
      dsimp only at C1
      rw [hS1] at C1
      clear hS1 o1 e1
      have D2 := HDG.out ((F : Int) + i) (by omega) (by omega)
      have A2 := HAD.out ((F : Int) + i) (by omega) (by omega)
      have L2 := HIL.out ((F : Int) + i) (by omega) (by omega)
      have D3 := HDG.out ((F : Int) + 1) (by omega) (by omega)
      have A3 := HAD.out ((F : Int) + 1) (by omega) (by omega)
      obtain ⟨GN, hGN⟩ : ∃ GN, idN abN ((F : Int) + i) = GN := ⟨_, rfl⟩
      obtain ⟨GI, hGI⟩ : ∃ GI, Lib.itoa ((F : Int) + i) = GI := ⟨_, rfl⟩
      obtain ⟨ON, hON⟩ : ∃ ON, idN abN ((F : Int) + 1) = ON := ⟨_, rfl⟩
      obtain ⟨OI, hOI⟩ : ∃ OI, Lib.itoa ((F : Int) + 1) = OI := ⟨_, rfl⟩
      rw [hGI] at D2 A2
      rw [hGN] at A2 L2 e2 e3 e4
      rw [hOI] at D3 A3
      rw [hON] at A3 e3 e4
      clear hGN hGI hON hOI
      obtain ⟨S2, hS2⟩ : ∃ S2, noteP (delP S1 [97] GN) 5 abN [97] GN 0 = S2 := ⟨_, rfl⟩
      have o2 : outO S1.objs [97] GN = S2.objs := by rw [← hS2]; rfl
      have f2 : S2.fails = [] := by rw [← hS2]; exact f1
      have t2 : S2.trace.length = i + 2 := by rw [← hS2]; show (S1.trace ++ [_]).length = _; rw [List.length_append, t1]; rfl
      have l2 : S2.objs.length ≤ i + 1 := by rw [← o2]; exact Nat.le_trans (len_out_le _ _ _) l1
      rw [o2] at e2 e3 e4
      obtain ⟨S3, hS3⟩ : ∃ S3, noteP (putP S2 ([97], GN, noneV)) 1 abN [97] GN 0 = S3 := ⟨_, rfl⟩
      have o3 : withO S2.objs ([97], GN, noneV) = S3.objs := by rw [← hS3]; rfl
      have f3 : S3.fails = [] := by rw [← hS3]; exact f2
      have t3 : S3.trace.length = i + 3 := by rw [← hS3]; show (S2.trace ++ [_]).length = _; rw [List.length_append, t2]; rfl
      have l3 : S3.objs.length ≤ i + 2 := by rw [← o3]; exact Nat.le_trans (len_with_le _ _) (by omega)
      rw [o3] at e3 e4
      obtain ⟨S4, hS4⟩ : ∃ S4, noteP (putP S3 ([99], ON, noneV)) 1 abN [99] ON 0 = S4 := ⟨_, rfl⟩
      have o4 : withO S3.objs ([99], ON, noneV) = S4.objs := by rw [← hS4]; rfl
      rw [o4] at e4
      have HQ := Lib.hid (fun (W : World) (h : W.heap[Q]? = some (.cells #[.int .i64 6, .bool false, .string ⟨#[]⟩, .slice none 0 0, .slice none 0 0] 27 (0, 0))) (q : Nat) (hq : q ∈ [Q]) => (by
        have : q = Q := by simpa using hq
        rw [this]
        exact heap_lt h : q < W.heap.size))
      have HDL := Lib.hid (fun (W : World) (h : Has w.heap.size [Q] p S1 (i + 1) W) (hq : ∀ q ∈ [Q], q < W.heap.size) => delete_h h hq abN [97] GN (fit_of (by simp)) (fit_of L2) (by omega))
      rw [deleteP_ok f1, hS2] at HDL
      have HC3 := Lib.hid (fun (W : World) (h : Has w.heap.size [Q] p S2 (i + 1) W) (hq : ∀ q ∈ [Q], q < W.heap.size) (hbW : Below w.heap.size w W) => create_h h hq abN [97] AF noneV _ (none_at W) (by decide) (by omega) (fit_of (by simp)) (by omega) (by omega) (by omega) (HE.out.mono hbW) (HT.out.mono hbW))
      rw [createP_ok none_good f2, e2, hS3] at HC3
      have HC4 := Lib.hid (fun (W : World) (h : Has w.heap.size [Q] p S3 (i + 2) W) (hq : ∀ q ∈ [Q], q < W.heap.size) (hbW : Below w.heap.size w W) => create_h h hq abN [99] AF noneV _ (none_at W) (by decide) (by omega) (fit_of (by simp)) (by omega) (by omega) (by omega) (HE.out.mono hbW) (HT.out.mono hbW))
      rw [createP_ok none_good f3, e3, hS4] at HC4
      have HBR := Lib.hid hbr
      have HNR := Lib.hid hnr
      have HE4 := Lib.hid e4
      have e4l : S4.objs.length ≤ 100000 := by rw [HE4.out]; omega
      clear hS2 hS3 hS4 o2 o3 o4 f1 f2 f3 t1 t2 t3 l1 l2 l3 e2 e3 e4 hI hf ht hh hol hnr hbr L2 LF HN2 HNX HDG HAD HIL EF HW HB
      go_wp2_with fail
      refine C1.mono ?_
      rintro e w5 ⟨rfl, h5, hk5⟩
      have hbw5 := HBR.out.trans hk5.1
      have hn5 := (hk5.2 Q (by simp) (heap_lt HNR.out)).trans HNR.out
      clear C1 hk5 c0 c1 c2 c3 c4
      go_wp2_with fail
      refine (D2 w5).mono ?_
      rintro e w6 ⟨rfl, hb6⟩
      have h6 := h5.below hb6
      have hbw6 := hbw5.trans (hb6.mono hbw5.size)
      have hn6 := (hb6.block _ (heap_lt hn5)).trans hn5
      have DL := HDL.out w6 h6 (HQ.out w6 hn6)
      clear h5 hb6 hn5 hbw5 D2 h6
      go_wp2_with fail
      refine DL.mono ?_
      rintro e w7 ⟨rfl, h7, hk7⟩
      have hbw7 := hbw6.trans hk7.1
      have hn7 := (hk7.2 Q (by simp) (heap_lt hn6)).trans hn6
      obtain ⟨c0, c1, c2, c3, c4⟩ := val_box hn7
      have C3 := HC3.out w7 h7 (HQ.out w7 hn7) hbw7
      have HN7 := Lib.hid hn7
      clear hk7 DL hn6 hbw6 hn7 h7
      go_wp2_with fail
      refine C3.mono ?_
      rintro e w8 ⟨rfl, h8, hk8⟩
      have hbw8 := hbw7.trans hk8.1
      have hn8 := (hk8.2 Q (by simp) (heap_lt HN7.out)).trans HN7.out
      obtain ⟨d0, d1, d2, d3, d4⟩ := val_box hn8
      have C4 := HC4.out w8 h8 (HQ.out w8 hn8) hbw8
      clear hk8 C3 hn8 h8 c0 c1 c2 c3 c4
      go_wp2_with fail
      refine C4.mono ?_
      rintro e w9 ⟨rfl, h9, hk9⟩
      have hbw9 := hbw8.trans hk9.1
      clear hk9 C4 d0 d1 d2 d3 d4
      go_wp2_with fail
      refine (D3 w9).mono ?_
      rintro e w10 ⟨rfl, hb10⟩
      have OB := objects_h (h9.below hb10) e4l
      have hbw10 := hbw9.trans (hb10.mono hbw9.size)
      clear h9 hb10 D3
      go_wp2_with fail
      refine OB.mono ?_
      rintro e w11 ⟨v11, rfl, ho, hb11⟩
      obtain ⟨a11, c11, rfl, _⟩ := ho
      rw [HE4.out]
      have hbw11 := hbw10.trans (hb11.mono hbw10.size)
      clear hb11 OB
      go_wp2
      go_ret
      exact ⟨rfl, hbw11⟩
    | succ gg =>
      have hiN : i < N := by omega
      have hii : (i : Int) < (N : Int) := by omega
      have C := create_h hh hQ1 abN [97] AF noneV _ (none_at wr) (by decide) (by omega) (fit_of (by simp)) (by omega) (by omega) (by omega) (HE.out.mono hbr) (HT.out.mono hbr)
      rw [createP_ok none_good hf] at C
      have hid := EF.out S.objs i hI
      rw [HAF.out] at hid
      have hnx := fun w' hh => HNX.out i S w.heap.size [Q] w' hI hf ht hh
      have HH := Lib.hid hnx
      rw [HAF.out] at HH
      rw [hid] at C HH
      have D2 := HDG.out ((F : Int) + 1 + i) (by omega) (by omega)
      have A2 := HAD.out ((F : Int) + 1 + i) (by omega) (by omega)
      obtain ⟨ID, hID⟩ : ∃ ID, idN abN ((F : Int) + 1 + i) = ID := ⟨_, rfl⟩
      obtain ⟨IT, hIT⟩ : ∃ IT, Lib.itoa ((F : Int) + 1 + i) = IT := ⟨_, rfl⟩
      rw [hID] at A2 C HH
      rw [hIT] at D2 A2
      have HB2 := Lib.hid hbr
      have hnr2 := Lib.hid hnr
      clear hID hIT hid hnx hI hf ht hh hol
      go_wp2_with fail
      refine C.mono ?_
      rintro e w5 ⟨rfl, h5, hk5⟩
      have hbw5 := HB2.out.trans hk5.1
      have hn5 := (hk5.2 Q (by simp) (heap_lt hnr2.out)).trans hnr2.out
      have HW5 := Lib.hid (HH.out w5 h5)
      clear C h5 hk5 HH c0 c1 c2 c3 c4 hnr hbr
      go_wp2_with fail
      refine (D2 w5).mono ?_
      rintro e w6 ⟨rfl, hb6⟩
      have HB6 := Lib.hid (⟨hbw5.trans (hb6.mono hbw5.size), (hb6.block _ (heap_lt hn5)).trans hn5⟩ : Below w.heap.size w w6 ∧ w6.heap[Q]? = some (.cells #[.int .i64 6, .bool false, .string ⟨#[]⟩, .slice none 0 0, .slice none 0 0] 27 (0, 0)))
      have HW6 := Lib.hid (show NumW F (i + 1) w.heap.size [Q] p w6 by
        obtain ⟨S', g1, g2, g3, g4⟩ := HW5.out
        exact ⟨S', g1, g2, g3, g4.below hb6⟩)
      clear hn5 hbw5 hb6 HW5
      go_wp2
      go_roundg gg
      case measure => omega
      case rel => exact ⟨i + 1, by go_num, by omega, HW6, HB6⟩

end Go.Proofs.YtpbipngnoklmcaaDoor
