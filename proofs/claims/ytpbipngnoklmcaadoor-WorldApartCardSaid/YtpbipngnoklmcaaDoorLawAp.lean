/- WorldApart: calls for two addresses don't hang on one another. No condition. -/
import Derived.Test.YtpbipngnoklmcaaDoorWldH2
import Derived.Test.YtpbipngnoklmcaaDoorWldAw
import Derived.Test.YtpbipngnoklmcaaDoorWldNm
import Derived.Test.YtpbipngnoklmcaaDoorWldG
import Derived.Test.YtpbipngnoklmcaaDoorWldH
import Derived.Test.YtpbipngnoklmcaaDoorRowO
namespace Go.Proofs.YtpbipngnoklmcaaDoor
open Go.RowKit
set_option maxRecDepth 100000
attribute [local go_sem] str_size str_toList str_get

theorem newP_code (os : List O3) (fs : List F2) : (∃ c : Int, newP os fs = (none, c) ∧ (c == 0) = false ∧ (c != 0) = true) ∨ ∃ S, newP os fs = (some S, 0) ∧ S.fails = fs ∧ S.trace = [] := by
  unfold newP
  split
  · exact .inl ⟨1, rfl, rfl, rfl⟩
  · split
    · exact .inl ⟨2, rfl, rfl, rfl⟩
    · exact .inr ⟨_, rfl, rfl, rfl⟩
theorem loadP_len : ∀ (l m : List O3) {r : List O3}, loadP l m = some r → r.length ≤ l.length + m.length
  | [], m, r, h => by
    rw [loadP] at h
    cases h
    simp
  | o :: l, m, r, h => by
    rw [loadP] at h
    split at h
    · cases h
    · have := loadP_len l _ h
      have h2 : (withO m o).length ≤ m.length + 1 := by
        unfold withO
        have go : ∀ (q : List O3), (insO o q).length = q.length + 1 := by
          intro q
          induction q with
          | nil => rfl
          | cons x r ih =>
            rw [insO]
            split
            · rfl
            · rw [List.length_cons, ih, List.length_cons]
        rw [go]
        have : (outO m o.1 o.2.1).length ≤ m.length := List.length_filter_le _ _
        omega
      rw [List.length_cons]
      omega
theorem newP_len {os : List O3} {fs : List F2} {S : WS} {c : Int} (h : newP os fs = (some S, c)) : S.objs.length ≤ os.length := by
  unfold newP at h
  split at h
  · cases h
  · split at h
    · cases h
    · next l hl =>
      cases h
      have := loadP_len os [] hl
      simpa using this
theorem op_box {w : World} {g : Nat} {c0 c1 c2 c3 c4 c5 c6 c7 c8 c9 : Value} {T : TypeId} (h : w.heap[g]? = some (.cells #[c0, c1, c2, c3, c4, c5, c6, c7, c8, c9] T (0, 0))) : w.cell? ⟨g, 1, none⟩ = some c1 ∧ w.cell? ⟨g, 2, none⟩ = some c2 ∧ w.cell? ⟨g, 4, none⟩ = some c4 ∧ w.cell? ⟨g, 5, none⟩ = some c5 ∧ w.cell? ⟨g, 6, none⟩ = some c6 ∧ w.cell? ⟨g, 7, none⟩ = some c7 ∧ w.cell? ⟨g, 8, none⟩ = some c8 ∧ w.cell? ⟨g, 9, none⟩ = some c9 := by
  refine ⟨?_, ?_, ?_, ?_, ?_, ?_, ?_, ?_⟩ <;> (rw [Lib.cell_of_heap h]; rfl)

set_option maxHeartbeats 16000000 in
theorem apart_true (os : List O3) (v0 : Value) (a b : OpT) (ai : Option Addr) (ci : Nat) (ak : Option Addr) (ck : Nat) (bi : Option Addr) (di : Nat) (bk : Option Addr) (dk : Nat) (w : World) (h : ObjsAt w v0 os)
    (ha : ValAt w a.x (.agg #[.int .i64 a.x.kind, .bool a.x.flag, str a.x.text, .slice ai a.x.items.length ci, .slice ak a.x.keys.length ck]))
    (hb : ValAt w b.x (.agg #[.int .i64 b.x.kind, .bool b.x.flag, str b.x.text, .slice bi b.x.items.length di, .slice bk b.x.keys.length dk]))
    (la : a.addr.length ≤ 140737488351232 ∧ a.after.length ≤ 140737488351232 ∧ fitS a.typ) (lb : b.addr.length ≤ 140737488351232 ∧ b.after.length ≤ 140737488351232 ∧ fitS b.typ) (hE : ErrW w) (hT : TabW w) :
    Calls Tryd.prog 3 #[v0, opV a ai ci ak ck, opV b bi di bk dk] w fun e w' => e = .returned (.bool true) ∧ Below w.heap.size w w' := by
  obtain ⟨ao, cap, rfl, hm, _⟩ := id h
  have hm1 : os.length ≤ 9223372036854775807 := by omega
  clear hm
  unfold opV
  obtain ⟨wA, hwA⟩ : ∃ wA, wA = w.alloc (.cells #[.int .i64 a.kind, str a.addr, str a.typ, str a.id, str a.after, .int .i64 a.x.kind, .bool a.x.flag, str a.x.text, .slice ai a.x.items.length ci, .slice ak a.x.keys.length ck] 29) := ⟨_, rfl⟩
  obtain ⟨wB, hwB⟩ : ∃ wB, wB = wA.alloc (.cells #[.int .i64 b.kind, str b.addr, str b.typ, str b.id, str b.after, .int .i64 b.x.kind, .bool b.x.flag, str b.x.text, .slice bi b.x.items.length di, .slice bk b.x.keys.length dk] 29) := ⟨_, rfl⟩
  have nA := heap_alloc_new w (.cells #[.int .i64 a.kind, str a.addr, str a.typ, str a.id, str a.after, .int .i64 a.x.kind, .bool a.x.flag, str a.x.text, .slice ai a.x.items.length ci, .slice ak a.x.keys.length ck] 29)
  have nB := heap_alloc_new wA (.cells #[.int .i64 b.kind, str b.addr, str b.typ, str b.id, str b.after, .int .i64 b.x.kind, .bool b.x.flag, str b.x.text, .slice bi b.x.items.length di, .slice bk b.x.keys.length dk] 29)
  rw [← hwA] at nA
  rw [← hwB] at nB
  have sA : wA.heap.size = w.heap.size + 1 := by rw [hwA]; simp only [World.alloc, Array.size_push]
  have bA : Below w.heap.size w wA := by rw [hwA]; exact (Below.refl _ w).alloc (Nat.le_refl _) _
  have bB : Below wA.heap.size wA wB := by rw [hwB]; exact (Below.refl _ wA).alloc (Nat.le_refl _) _
  have mA := (bB.block _ (heap_lt nA)).trans nA
  rw [sA] at nB
  have hbB := bA.trans (bB.mono bA.size)
  have HBX : Hid (∀ W, Below wB.heap.size wB W → W.heap[w.heap.size]? = some (.cells #[.int .i64 a.kind, str a.addr, str a.typ, str a.id, str a.after, .int .i64 a.x.kind, .bool a.x.flag, str a.x.text, .slice ai a.x.items.length ci, .slice ak a.x.keys.length ck] 29 (0, 0)) ∧
      W.heap[w.heap.size + 1]? = some (.cells #[.int .i64 b.kind, str b.addr, str b.typ, str b.id, str b.after, .int .i64 b.x.kind, .bool b.x.flag, str b.x.text, .slice bi b.x.items.length di, .slice bk b.x.keys.length dk] 29 (0, 0))) := fun W hW =>
    ⟨(hW.block _ (heap_lt mA)).trans mA, (hW.block _ (heap_lt nB)).trans nB⟩
  have HE := Lib.hid hE
  have HT := Lib.hid hT
  have H := Lib.hid h
  have HVA := Lib.hid ha
  have HVB := Lib.hid hb
  have AW := fun W (hW : Below w.heap.size w W) => awake17 W (HE.out.mono hW) (HT.out.mono hW)
  have AW1 := AW wB hbB
  have HAW := Lib.hid AW
  have HLA := Lib.hid la
  have HLB := Lib.hid lb
  clear nA nB mA sA bA bB h ha hb hE hT AW la lb
  go_enter Tryd.func3, Tryd.ntmps3
  go_upto_region 1 with fail
  rw [← hwA, ← hwB]
  clear hwA hwB
  go_wp2_with fail
  refine AW1.mono ?_
  rintro e w1 ⟨rfl, hb1⟩
  have hbw1 := hbB.trans (hb1.mono hbB.size)
  clear AW1
  by_cases h40 : os.length ≤ 40
  · have n40 : ¬ (40 : Int) < (os.length : Int) := by omega
    have NX := new_h os [] _ (.slice none 0 0) w1 (H.out.mono hbw1) (CellsAt.nil w1) (by omega) (by simp) (HE.out.mono hbw1) (HT.out.mono hbw1)
    go_wp2_with fail
    refine NX.mono ?_
    rintro e w2 ⟨hb2, hx2⟩
    have hbw2 := hbw1.trans (hb2.mono hbw1.size)
    have NY := new_h os [] _ (.slice none 0 0) w2 (H.out.mono hbw2) (CellsAt.nil w2) (by omega) (by simp) (HE.out.mono hbw2) (HT.out.mono hbw2)
    rcases newP_code os [] with ⟨c, hc, hc0, hc1⟩ | ⟨S, hS, hSf, hSt⟩
    · rw [hc] at hx2
      obtain rfl := hx2
      clear NX hb2
      go_wp2_with fail
      refine NY.mono ?_
      rintro e w3 ⟨hb3, hx3⟩
      rw [hc] at hx3
      obtain rfl := hx3
      have hbw3 := hbw2.trans (hb3.mono hbw2.size)
      clear NY hb3 hc
      go_wp2
      go_ret
      exact ⟨rfl, hbw3⟩
    · rw [hS] at hx2
      obtain ⟨p, rfl, hp⟩ := hx2
      clear NX
      go_wp2_with fail
      refine NY.mono ?_
      rintro e w3 ⟨hb3, hx3⟩
      rw [hS] at hx3
      obtain ⟨q, rfl, hq⟩ := hx3
      have hbw3 := hbw2.trans (hb3.mono hbw2.size)
      have hbB3 := (hb1.mono (Nat.le_refl _)).trans ((hb2.mono hb1.size).trans (hb3.mono (Nat.le_trans hb1.size hb2.size)))
      have h3 := Has2.make hp hb3 hq (fun j hj => by cases hj)
      have hlen := newP_len hS
      have hG : w.heap.size ≤ w1.heap.size := hbw1.size
      have hGB : wB.heap.size ≤ w1.heap.size := hb1.size
      obtain ⟨G, hGe⟩ : ∃ G, w1.heap.size = G := ⟨_, rfl⟩
      rw [hGe] at h3 hG hGB
      have HS := Lib.hid (⟨hSf, hSt, hlen⟩ : S.fails = [] ∧ S.trace = [] ∧ S.objs.length ≤ os.length)
      obtain ⟨a1, a2, a4, a5, a6, a7, a8, a9⟩ := op_box (HBX.out w3 hbB3).1
      obtain ⟨b1, b2, b4, b5, b6, b7, b8, b9⟩ := op_box (HBX.out w3 hbB3).2
      have G1 := good17_w a.x _ w3 (HVA.out.mono hbw3)
      have HG2 := Lib.hid (fun W (hW : Below w.heap.size w W) => good17_w b.x _ W (HVB.out.mono hW))
      have H3 := Lib.hid h3
      have HW3 := Lib.hid hbw3
      have HB3 := Lib.hid hbB3
      obtain ⟨ga, hga⟩ : ∃ ga, goodA a.x = ga := ⟨_, rfl⟩
      obtain ⟨gb, hgb⟩ : ∃ gb, goodA b.x = gb := ⟨_, rfl⟩
      rw [hga] at G1
      rw [hgb] at HG2
      have HGA := Lib.hid hga
      have HGB := Lib.hid hgb
      clear NY hS hSf hSt hlen hb1 hb2 hb3 hp hq h3 hGe hga hgb hbw1 hbw2 hbw3 hbB3
      by_cases hab : a.addr = b.addr
      · have e1 : (a.addr == b.addr) = true := by simpa using hab
        clear hab
        go_wp2
        go_ret
        exact ⟨rfl, HW3.out⟩
      · have e1 : (a.addr == b.addr) = false := by simpa using hab
        go_wp2_with fail
        refine G1.mono ?_
        rintro e w4 ⟨rfl, hb4⟩
        have hbw4 := HW3.out.trans (hb4.mono HW3.out.size)
        have hbB4 := HB3.out.trans (hb4.mono HB3.out.size)
        have h4 := Lib.hid (H3.out.below hb4)
        obtain ⟨p1, p2, p4, p5, p6, p7, p8, p9⟩ := op_box (HBX.out w4 hbB4).1
        obtain ⟨q1, q2, q4, q5, q6, q7, q8, q9⟩ := op_box (HBX.out w4 hbB4).2
        clear G1 hb4 H3 HW3 HB3 a1 a2 a4 a5 a6 a7 a8 a9 b1 b2 b4 b5 b6 b7 b8 b9
        cases ga with
        | false =>
          go_wp2
          go_ret
          exact ⟨rfl, hbw4⟩
        | true =>
          have G2 := HG2.out w4 hbw4
          go_wp2_with fail
          refine G2.mono ?_
          rintro e w5 ⟨rfl, hb5⟩
          have hbw5 := hbw4.trans (hb5.mono hbw4.size)
          have hbB5 := hbB4.trans (hb5.mono hbB4.size)
          have h5 := Lib.hid (h4.out.below hb5)
          obtain ⟨a1, a2, a4, a5, a6, a7, a8, a9⟩ := op_box (HBX.out w5 hbB5).1
          obtain ⟨b1, b2, b4, b5, b6, b7, b8, b9⟩ := op_box (HBX.out w5 hbB5).2
          clear G2 HG2 hb5 h4 hbw4 hbB4 p1 p2 p4 p5 p6 p7 p8 p9 q1 q2 q4 q5 q6 q7 q8 q9
          cases gb with
          | false =>
            go_wp2
            go_ret
            exact ⟨rfl, hbw5⟩
          | true =>
            have ad1 : ∀ W, (Op.stringOp .add (ByteArray.mk a.addr.toArray) (ByteArray.mk ([35] : S8).toArray)).run Tryd.prog W = .ok (str (a.addr ++ [35])) W := fun W => str_add _ _ (by have := HLA.out.1; simp only [List.length_cons, List.length_nil]; omega)
            have ad2 : ∀ W, (Op.stringOp .add (ByteArray.mk b.addr.toArray) (ByteArray.mk ([35] : S8).toArray)).run Tryd.prog W = .ok (str (b.addr ++ [35])) W := fun W => str_add _ _ (by have := HLB.out.1; simp only [List.length_cons, List.length_nil]; omega)
            have hAl : (a.addr ++ [35]).length ≤ 140737488351233 := by rw [List.length_append]; have := HLA.out.1; simp only [List.length_cons, List.length_nil]; omega
            have hBl : (b.addr ++ [35]).length ≤ 140737488351233 := by rw [List.length_append]; have := HLB.out.1; simp only [List.length_cons, List.length_nil]; omega
            have hne : ¬ a.addr ++ [35] = b.addr ++ [35] := fun e => hab (List.append_cancel_right e)
            have HAP := Lib.hid (fun (l : List O3) (hr : risO l) (h1 : (a.addr ++ [35]).isPrefixOf (b.addr ++ [35]) = false) (h2 : (b.addr ++ [35]).isPrefixOf (a.addr ++ [35]) = false) => create_apart hr (a := a.addr) (b := b.addr) (ta := a.typ) (tb := b.typ) (fa := a.after) (fb := b.after) (xa := a.x) (xb := b.x) h1 h2)
            obtain ⟨A, hA⟩ : ∃ A, a.addr ++ [35] = A := ⟨_, rfl⟩
            obtain ⟨B, hB⟩ : ∃ B, b.addr ++ [35] = B := ⟨_, rfl⟩
            rw [hA] at ad1 hAl hne HAP
            rw [hB] at ad2 hBl hne HAP
            clear hA hB hab e1
            obtain ⟨w6, hw6⟩ : ∃ w6, w6 = w5.alloc (.cells #[str A, str B] 9) := ⟨_, rfl⟩
            obtain ⟨k0, k1⟩ := cells2_new w5 (str A) (str B) 9
            rw [← hw6] at k0 k1
            have hb6 : Below w5.heap.size w5 w6 := by rw [hw6]; exact (Below.refl _ w5).alloc (Nat.le_refl _) _
            obtain ⟨Q, hQ⟩ : ∃ Q, w5.heap.size = Q := ⟨_, rfl⟩
            have hQl : Q < w6.heap.size := by rw [← hQ, hw6]; simp only [World.alloc, Array.size_push]; omega
            have HB6 := Lib.hid hb6
            have hne2 : (A == B) = false := by simpa using hne
            have hne3 : (A != B) = true := by simpa using hne
            have hne4 : (B == A) = false := by simpa using fun e : B = A => hne e.symm
            have hne5 : (B != A) = true := by simpa using fun e : B = A => hne e.symm
            have heA : (A != A) = false := by simp
            have heB : (B != B) = false := by simp
            have cut : ∀ (P R : S8), R.length ≤ P.length → (ByteArray.mk P.toArray).extract 0 R.length = ByteArray.mk (P.take R.length).toArray := fun P R hl => by
              rw [ByteArray.extract_mk]
              simp
            have tk : ∀ (P R : S8), (P.take R.length == R) = R.isPrefixOf P := fun P R => by
              rw [Bool.eq_iff_iff, beq_iff_eq, List.isPrefixOf_iff_prefix]
              constructor
              · intro h
                rw [← h]
                exact List.take_prefix _ _
              · rintro ⟨t, rfl⟩
                simp
            have shorter : ∀ (P R : S8), ¬ R.length ≤ P.length → R.isPrefixOf P = false := fun P R hl => by
              cases hp : R.isPrefixOf P with
              | false => rfl
              | true => exact absurd (List.isPrefixOf_iff_prefix.1 hp).length_le hl
            have c1 := cut A B
            have c2 := cut B A
            have t1 := tk A B
            have t2 := tk B A
            have s1 := shorter A B
            have s2 := shorter B A
            obtain ⟨TB, hTB⟩ : ∃ TB, A.take B.length = TB := ⟨_, rfl⟩
            obtain ⟨TA, hTA⟩ : ∃ TA, B.take A.length = TA := ⟨_, rfl⟩
            obtain ⟨pb, hpb⟩ : ∃ pb, B.isPrefixOf A = pb := ⟨_, rfl⟩
            obtain ⟨pa, hpa⟩ : ∃ pa, A.isPrefixOf B = pa := ⟨_, rfl⟩
            rw [hTB] at c1 t1
            rw [hTA] at c2 t2
            rw [hpb] at t1 s1 HAP
            rw [hpa] at t2 s2 HAP
            have C1 := Lib.hid c1
            have C2 := Lib.hid c2
            have T1 := Lib.hid t1
            have T2 := Lib.hid t2
            have S1 := Lib.hid s1
            have S2 := Lib.hid s2
            have H5 := Lib.hid h5.out
            have HW5 := Lib.hid hbw5
            have HB5 := Lib.hid hbB5
            clear hne cut tk shorter c1 c2 t1 t2 s1 s2 hTB hTA hpb hpa h5 hbw5 hbB5
            go_upto_region 8 with fail
            rw [← hw6]
            try rw [hQ]
            clear hw6 a1 a2 a4 a5 a6 a7 a8 a9 b1 b2 b4 b5 b6 b7 b8 b9
            rw [hQ] at k0 k1
            go_loopg [78] 2 (fun gg v78 wr => ∃ i : Nat, v78 = .int .i64 i ∧ i + gg = 2 ∧ Hid (Below w6.heap.size w6 wr) ∧ Hid ((1 ≤ i → pb = false) ∧ (2 ≤ i → pa = false)))
            case atStart => exact ⟨0, rfl, by omega, Lib.hid (Below.refl _ _), Lib.hid ⟨fun h => by omega, fun h => by omega⟩⟩
            case round =>
              obtain ⟨gO, rfl⟩ : ∃ g, g = gk := ⟨_, rfl⟩
              obtain ⟨wO, rfl⟩ : ∃ w, w = wr := ⟨_, rfl⟩
              obtain ⟨i, rfl, hig, HR, HC⟩ := hrel
              have hbO : Below wB.heap.size wB wO := HB5.out.trans ((HB6.out.trans (HR.out.mono HB6.out.size)).mono HB5.out.size)
              have hwO : Below w.heap.size w wO := HW5.out.trans ((HB6.out.trans (HR.out.mono HB6.out.size)).mono HW5.out.size)
              have hO5 : Below w5.heap.size w5 wO := HB6.out.trans (HR.out.mono HB6.out.size)
              obtain ⟨a1, a2, a4, a5, a6, a7, a8, a9⟩ := op_box (HBX.out wO hbO).1
              obtain ⟨b1, b2, b4, b5, b6, b7, b8, b9⟩ := op_box (HBX.out wO hbO).2
              have hi3 : i = 0 ∨ i = 1 ∨ i = 2 := by omega
              have m0 : wO.cell? ⟨Q, 0, none⟩ = some (str A) := (HR.out.cell (p := ⟨Q, 0, none⟩) hQl).trans k0
              have m1 : wO.cell? ⟨Q, 1, none⟩ = some (str B) := (HR.out.cell (p := ⟨Q, 1, none⟩) hQl).trans k1
              obtain ⟨w7, hw7⟩ : ∃ w7, w7 = wO.alloc (.cells #[str A, str B] 9) := ⟨_, rfl⟩
              obtain ⟨l0, l1⟩ := cells2_new wO (str A) (str B) 9
              rw [← hw7] at l0 l1
              have hb7 : Below wO.heap.size wO w7 := by rw [hw7]; exact (Below.refl _ wO).alloc (Nat.le_refl _) _
              have hRl : wO.heap.size < w7.heap.size := by rw [hw7]; simp only [World.alloc, Array.size_push]; omega
              have hb67 : Below w6.heap.size w6 w7 := HR.out.trans (hb7.mono HR.out.size)
              have hw7w : Below w.heap.size w w7 := hwO.trans (hb7.mono hwO.size)
              obtain ⟨R, hR⟩ : ∃ R, wO.heap.size = R := ⟨_, rfl⟩
              rw [hR] at l0 l1 hRl
              have HR7 := Lib.hid hR
              clear hR
              rcases hi3 with rfl | rfl | rfl
              · obtain rfl : gO = 2 := by omega
                clear hig
                go_upto_region 11 with fail
                rw [← hw7]
                try rw [HR7.out]
                clear hw7 a1 a2 a4 a5 a6 a7 a8 a9 b1 b2 b4 b5 b6 b7 b8 b9 m0 m1 ad1 ad2
                go_loopg [90] 2 (fun gg v90 wr => ∃ j : Nat, v90 = .int .i64 j ∧ j + gg = 2 ∧ Hid (Below w7.heap.size w7 wr) ∧ Hid (2 ≤ j → pb = false))
                case atStart => exact ⟨0, rfl, by omega, Lib.hid (Below.refl _ _), Lib.hid (fun h => by omega)⟩
                case round =>
                  obtain ⟨j, rfl, hjg, HRi, HI⟩ := hrel
                  have r0 := (HRi.out.cell (p := ⟨R, 0, none⟩) hRl).trans l0
                  have r1 := (HRi.out.cell (p := ⟨R, 1, none⟩) hRl).trans l1
                  have hj3 : j = 0 ∨ j = 1 ∨ j = 2 := by omega
                  rcases hj3 with rfl | rfl | rfl
                  · obtain rfl : gk = 2 := by omega
                    clear hjg
                    go_wp2
                    go_roundg 1
                    case measure => omega
                    case rel => exact ⟨1, by go_num, by omega, HRi, Lib.hid (fun h => by omega)⟩
                  · obtain rfl : gk = 1 := by omega
                    clear hjg
                    by_cases hle : B.length ≤ A.length
                    · have hli : (B.length : Int) ≤ (A.length : Int) := by omega
                      have cE := C1.out hle
                      have tE := T1.out
                      cases hq : pb with
                      | true =>
                        rw [hq] at tE
                        clear hq
                        go_wp2
                        go_ret
                        exact ⟨rfl, hw7w.trans (HRi.out.mono hw7w.size)⟩
                      | false =>
                        have HQ := Lib.hid hq
                        rw [hq] at tE
                        clear hq
                        go_wp2
                        go_roundg 0
                        case measure => omega
                        case rel => exact ⟨2, by go_num, by omega, HRi, Lib.hid (fun _ => HQ.out)⟩
                    · have hli : ¬ (B.length : Int) ≤ (A.length : Int) := by omega
                      have HQ := Lib.hid (S1.out hle)
                      go_wp2
                      go_roundg 0
                      case measure => omega
                      case rel => exact ⟨2, by go_num, by omega, HRi, Lib.hid (fun _ => HQ.out)⟩
                  · obtain rfl : gk = 0 := by omega
                    clear hjg
                    have HOUT := Lib.hid (⟨fun _ => HI.out (by omega), fun h => by omega⟩ : (1 ≤ 1 → pb = false) ∧ (2 ≤ 1 → pa = false))
                    have HB67 := Lib.hid (hb67.trans (HRi.out.mono hb67.size))
                    go_wp2
                    go_roundg 1
                    case measure => omega
                    case rel => exact ⟨1, by go_num, by omega, HB67, HOUT⟩
              · obtain rfl : gO = 1 := by omega
                clear hig
                go_upto_region 11 with fail
                rw [← hw7]
                try rw [HR7.out]
                clear hw7 a1 a2 a4 a5 a6 a7 a8 a9 b1 b2 b4 b5 b6 b7 b8 b9 m0 m1 ad1 ad2
                go_loopg [90] 2 (fun gg v90 wr => ∃ j : Nat, v90 = .int .i64 j ∧ j + gg = 2 ∧ Hid (Below w7.heap.size w7 wr) ∧ Hid (1 ≤ j → pa = false))
                case atStart => exact ⟨0, rfl, by omega, Lib.hid (Below.refl _ _), Lib.hid (fun h => by omega)⟩
                case round =>
                  obtain ⟨j, rfl, hjg, HRi, HI⟩ := hrel
                  have r0 := (HRi.out.cell (p := ⟨R, 0, none⟩) hRl).trans l0
                  have r1 := (HRi.out.cell (p := ⟨R, 1, none⟩) hRl).trans l1
                  have hj3 : j = 0 ∨ j = 1 ∨ j = 2 := by omega
                  rcases hj3 with rfl | rfl | rfl
                  · obtain rfl : gk = 2 := by omega
                    clear hjg
                    by_cases hle : A.length ≤ B.length
                    · have hli : (A.length : Int) ≤ (B.length : Int) := by omega
                      have cE := C2.out hle
                      have tE := T2.out
                      cases hq : pa with
                      | true =>
                        rw [hq] at tE
                        clear hq
                        go_wp2
                        go_ret
                        exact ⟨rfl, hw7w.trans (HRi.out.mono hw7w.size)⟩
                      | false =>
                        have HQ := Lib.hid hq
                        rw [hq] at tE
                        clear hq
                        go_wp2
                        go_roundg 1
                        case measure => omega
                        case rel => exact ⟨1, by go_num, by omega, HRi, Lib.hid (fun _ => HQ.out)⟩
                    · have hli : ¬ (A.length : Int) ≤ (B.length : Int) := by omega
                      have HQ := Lib.hid (S2.out hle)
                      go_wp2
                      go_roundg 1
                      case measure => omega
                      case rel => exact ⟨1, by go_num, by omega, HRi, Lib.hid (fun _ => HQ.out)⟩
                  · obtain rfl : gk = 1 := by omega
                    clear hjg
                    go_wp2
                    go_roundg 0
                    case measure => omega
                    case rel => exact ⟨2, by go_num, by omega, HRi, Lib.hid (fun _ => HI.out (by omega))⟩
                  · obtain rfl : gk = 0 := by omega
                    clear hjg
                    have HOUT := Lib.hid (⟨fun _ => HC.out.1 (by omega), fun _ => HI.out (by omega)⟩ : (1 ≤ 2 → pb = false) ∧ (2 ≤ 2 → pa = false))
                    have HB67 := Lib.hid (hb67.trans (HRi.out.mono hb67.size))
                    go_wp2
                    go_roundg 0
                    case measure => omega
                    case rel => exact ⟨2, by go_num, by omega, HB67, HOUT⟩
              · obtain rfl : gO = 0 := by omega
                have hpb := HC.out.1 (by omega)
                have hpa := HC.out.2 (by omega)
                have hh := H5.out.below hO5
                have E := HAP.out S.objs hh.one.ris hpa hpb
                obtain ⟨hSf, hSt, hSl⟩ := HS.out
                obtain ⟨E1, E2, E3⟩ := E
                have cA := createP_ok (S := S) (addr := a.addr) (typ := a.typ) (after := a.after) HGA.out hSf
                have cB := createP_ok (S := S) (addr := b.addr) (typ := b.typ) (after := b.after) HGB.out hSf
                obtain ⟨I, hI⟩ : ∃ I, newId S.objs a.addr a.typ a.after = I := ⟨_, rfl⟩
                obtain ⟨J, hJ⟩ : ∃ J, newId S.objs b.addr b.typ b.after = J := ⟨_, rfl⟩
                rw [hI, hJ] at E1 E2 E3
                rw [hI] at cA
                rw [hJ] at cB
                clear hI hJ
                obtain ⟨S1', hS1⟩ : ∃ S1', noteP (putP S (a.typ, I, a.x)) 1 a.addr a.typ I 0 = S1' := ⟨_, rfl⟩
                have o1 : S1'.objs = withO S.objs (a.typ, I, a.x) := by rw [← hS1]; rfl
                have f1 : S1'.fails = [] := by rw [← hS1]; exact hSf
                have t1 : S1'.trace.length = 1 := by rw [← hS1]; show (S.trace ++ [_]).length = _; rw [hSt]; rfl
                have l1 : S1'.objs.length ≤ 41 := by rw [o1]; exact Nat.le_trans (len_with_le _ _) (by omega)
                obtain ⟨T1', hT1⟩ : ∃ T1', noteP (putP S (b.typ, J, b.x)) 1 b.addr b.typ J 0 = T1' := ⟨_, rfl⟩
                have o2 : T1'.objs = withO S.objs (b.typ, J, b.x) := by rw [← hT1]; rfl
                have f2 : T1'.fails = [] := by rw [← hT1]; exact hSf
                have t2 : T1'.trace.length = 1 := by rw [← hT1]; show (S.trace ++ [_]).length = _; rw [hSt]; rfl
                have l2 : T1'.objs.length ≤ 41 := by rw [o2]; exact Nat.le_trans (len_with_le _ _) (by omega)
                rw [hS1] at cA
                rw [hT1] at cB
                have cB1 := createP_ok (S := S1') (addr := b.addr) (typ := b.typ) (after := b.after) HGB.out f1
                have cA1 := createP_ok (S := T1') (addr := a.addr) (typ := a.typ) (after := a.after) HGA.out f2
                rw [o1, E2] at cB1
                rw [o2, E1] at cA1
                obtain ⟨S2', hS2⟩ : ∃ S2', noteP (putP S1' (b.typ, J, b.x)) 1 b.addr b.typ J 0 = S2' := ⟨_, rfl⟩
                obtain ⟨T2', hT2⟩ : ∃ T2', noteP (putP T1' (a.typ, I, a.x)) 1 a.addr a.typ I 0 = T2' := ⟨_, rfl⟩
                rw [hS2] at cB1
                rw [hT2] at cA1
                have o3 : S2'.objs = T2'.objs := by
                  rw [← hS2, ← hT2]
                  show withO S1'.objs _ = withO T1'.objs _
                  rw [o1, o2]
                  exact E3
                have l3 : T2'.objs.length ≤ 42 := by
                  rw [← hT2]
                  show (withO T1'.objs _).length ≤ 42
                  exact Nat.le_trans (len_with_le _ _) (by omega)
                have htS : S.trace.length = 0 := by rw [hSt]; rfl
                have hn : ∀ j : Nat, j ∈ ([] : List Nat) → ∀ W : World, j < W.heap.size := fun j hj => by cases hj
                have P1 := create_h2 hh (fun j hj => hn j hj _) a.addr a.typ a.after a.x _ (HVA.out.mono hwO) (by have := HLA.out.1; omega) (by have := HLA.out.2.1; omega) HLA.out.2.2 (by omega) (by omega) (by omega) (HE.out.mono hwO) (HT.out.mono hwO)
                rw [cA] at P1
                have HP2 := Lib.hid (fun (W : World) (h : Has2 G [] p S1' (os.length + 1) q S os.length W) (hW : Below w.heap.size w W) => create_h2 h (fun j hj => hn j hj _) b.addr b.typ b.after b.x _ (HVB.out.mono hW) (by have := HLB.out.1; omega) (by have := HLB.out.2.1; omega) HLB.out.2.2 (by omega) (by omega) (by omega) (HE.out.mono hW) (HT.out.mono hW))
                rw [cB1] at HP2
                have HP3 := Lib.hid (fun (W : World) (h : Has2 G [] q S os.length p S2' (os.length + 1 + 1) W) (hW : Below w.heap.size w W) => create_h2 h (fun j hj => hn j hj _) b.addr b.typ b.after b.x _ (HVB.out.mono hW) (by have := HLB.out.1; omega) (by have := HLB.out.2.1; omega) HLB.out.2.2 (by omega) (by omega) (by omega) (HE.out.mono hW) (HT.out.mono hW))
                rw [cB] at HP3
                have HP4 := Lib.hid (fun (W : World) (h : Has2 G [] q T1' (os.length + 1) p S2' (os.length + 1 + 1) W) (hW : Below w.heap.size w W) => create_h2 h (fun j hj => hn j hj _) a.addr a.typ a.after a.x _ (HVA.out.mono hW) (by have := HLA.out.1; omega) (by have := HLA.out.2.1; omega) HLA.out.2.2 (by omega) (by omega) (by omega) (HE.out.mono hW) (HT.out.mono hW))
                rw [cA1] at HP4
                have HO3 := Lib.hid o3
                have HWO := Lib.hid hwO
                have HBO := Lib.hid hbO
                try clear hw7
                try clear HR7
                try clear l0
                try clear l1
                try clear hRl
                try clear hb67
                try clear hw7w
                try clear hb7
                try clear cA
                try clear cB
                try clear cA1
                try clear cB1
                try clear hS1
                try clear hT1
                try clear hS2
                try clear hT2
                try clear o1
                try clear o2
                try clear o3
                try clear f1
                try clear f2
                try clear t1
                try clear t2
                try clear l1
                try clear l2
                try clear hSf
                try clear hSt
                try clear hSl
                try clear E1
                try clear E2
                try clear E3
                try clear hpa
                try clear hpb
                try clear HC
                try clear hig
                try clear HAP
                try clear ad1
                try clear ad2
                try clear hh
                try clear hwO
                try clear hbO
                try clear hO5
                try clear htS
                try clear hn
                try clear k0
                try clear k1
                try clear m0
                try clear m1
                try clear hQ
                try clear hQl
                try clear HB6
                try clear hb6
                try clear C1
                try clear C2
                try clear T1
                try clear T2
                try clear S1
                try clear S2
                try clear H5
                try clear HW5
                try clear HB5
                try clear hne2
                try clear hne3
                try clear hne4
                try clear hne5
                try clear heA
                try clear heB
                try clear hAl
                try clear hBl
                try clear HR
                go_wp2_with fail
                refine P1.mono ?_
                rintro e w8 ⟨rfl, h8, hk8⟩
                have hw8 := HWO.out.trans (hk8.1.mono hG)
                have hB8 := HBO.out.trans (hk8.1.mono hGB)
                have P2 := HP2.out w8 h8 hw8
                have h8' := (HBX.out w8 hB8)
                clear hk8 h8 P1 a1 a2 a4 a5 a6 a7 a8 a9 b1 b2 b4 b5 b6 b7 b8 b9
                obtain ⟨b1, b2, b4, b5, b6, b7, b8, b9⟩ := op_box h8'.2
                clear h8'
                go_wp2_with fail
                refine P2.mono ?_
                rintro e w9 ⟨rfl, h9, hk9⟩
                have hw9 := hw8.trans (hk9.1.mono hG)
                have hB9 := hB8.trans (hk9.1.mono hGB)
                have P3 := HP3.out w9 h9.swap hw9
                have h9' := (HBX.out w9 hB9)
                clear hk9 h9 P2 hw8 hB8 b1 b2 b4 b5 b6 b7 b8 b9
                obtain ⟨b1, b2, b4, b5, b6, b7, b8, b9⟩ := op_box h9'.2
                clear h9'
                go_wp2_with fail
                refine P3.mono ?_
                rintro e w10 ⟨rfl, h10, hk10⟩
                have hw10 := hw9.trans (hk10.1.mono hG)
                have hB10 := hB9.trans (hk10.1.mono hGB)
                have P4 := HP4.out w10 h10 hw10
                have h10' := (HBX.out w10 hB10)
                clear hk10 h10 P3 hw9 hB9 b1 b2 b4 b5 b6 b7 b8 b9
                obtain ⟨a1, a2, a4, a5, a6, a7, a8, a9⟩ := op_box h10'.1
                clear h10'
                go_wp2_with fail
                refine P4.mono ?_
                rintro e w11 ⟨rfl, h11, hk11⟩
                have hw11 := hw10.trans (hk11.1.mono hG)
                have OX := objects_h h11.two (by rw [HO3.out]; omega)
                have OY := Lib.hid (fun (W : World) (hW : Below w11.heap.size w11 W) => objects_h (h11.one.below hW) (by omega))
                clear hk11 P4 hw10 hB10 a1 a2 a4 a5 a6 a7 a8 a9
                go_wp2_with fail
                refine OX.mono ?_
                rintro e w12 ⟨v12, rfl, ho12, hb12⟩
                rw [HO3.out] at ho12
                have OY2 := OY.out w12 hb12
                have hw12 := hw11.trans (hb12.mono hw11.size)
                have HX := Lib.hid ho12
                clear ho12 OX OY hb12 hw11
                go_wp2_with fail
                refine OY2.mono ?_
                rintro e w13 ⟨v13, rfl, ho13, hb13⟩
                have hw13 := hw12.trans (hb13.mono hw12.size)
                have SO := sameobjs_true T2'.objs v12 v13 w13 (HX.out.mono hb13) ho13
                clear OY2 ho13 hb13 hw12
                go_wp2_with fail
                refine SO.mono ?_
                rintro e w14 ⟨rfl, hb14⟩
                have hw14 := hw13.trans (hb14.mono hw13.size)
                clear SO
                go_wp2
                go_ret
                exact ⟨rfl, hw14⟩
  · have n40 : (40 : Int) < (os.length : Int) := by omega
    have AW2 := HAW.out w1 hbw1
    go_wp2_with fail
    refine AW2.mono ?_
    rintro e w2 ⟨rfl, hb2⟩
    have hbw2 := hbw1.trans (hb2.mono hbw1.size)
    clear AW2
    go_wp2
    go_ret
    exact ⟨rfl, hbw2⟩

end Go.Proofs.YtpbipngnoklmcaaDoor
