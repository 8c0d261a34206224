/- ValueMakes: objects are made of any keys and items, in order, or it is told what is wrong; and scalars are what they say. Printed by genmakes.py. -/
import Derived.Test.YtgbalofdfdafmaaGreatDoorAwk
import Derived.Test.YtgbalofdfdafmaaGreatDoorGoodR
import Derived.Test.YtgbalofdfdafmaaGreatDoorDocO
import Derived.Test.YtgbalofdfdafmaaGreatDoorDigR
import Derived.Test.YtgbalofdfdafmaaGreatDoorIdxF
namespace Go.Proofs.YtgbalofdfdafmaaGreatDoor
open Go.RowKit
set_option maxRecDepth 100000
attribute [local go_sem] str_size str_toList str_get

theorem unknown_val (w : World) : Calls Tryz.prog 14 #[] w fun e w' => e = .returned (leafV 1 false []) ∧ Below w.heap.size w w' := by
  obtain ⟨wB, hwB⟩ : ∃ wB, wB = w.alloc (.cells #[.int .i64 1, .bool false, .string ⟨#[]⟩, .slice none 0 0, .slice none 0 0] 26) := ⟨_, rfl⟩
  obtain ⟨b0, b1, b2, b3, b4, hsB, hbB⟩ := box5 hwB
  go_enter Tryz.func14, Tryz.ntmps14
  go_wp2
  rw [← hwB]
  exact bodyPost_ret (v := .agg #[.int .i64 1, .bool false, .string ⟨#[]⟩, .slice none 0 0, .slice none 0 0]) (by simp [results, go_sem, b0, b1, b2, b3, b4]) rfl ⟨rfl, hbB⟩

/-- append([]string{}, keys...). -/
theorem run_append_strs (W : World) (ks : List (List UInt8)) (ao : Option Addr) (ck : Nat) (h : StrsAt W (.slice ao ks.length ck) ks) (hl : ks.length ≤ 1000000) (ty : TypeId) :
    ∃ v' w', (Builtin.append_ #[24, 24] ty #[.slice (some ⟨W.heap.size, 0, none⟩) 0 0, .slice ao ks.length ck]).run Tryz.prog (W.alloc (.cells #[] 9)) = .ok v' w' ∧ StrsAt w' v' ks ∧ Below W.heap.size W w' := by
  obtain ⟨i0, hi, hz0, hz1, hz2⟩ := info_parts infoS
  obtain ⟨ao', cap, hv, hm, hc⟩ := id h
  injection hv with e1 e2 e3
  subst e1; subst e3
  have hmade : (W.alloc (.cells #[] 9)).ownsRow W.heap.size 9 1 (.slice (some ⟨W.heap.size, 0, none⟩) 0 0) 0 [] := World.ownsRow_made W #[] 0 (Nat.le_refl _) (by unfold maxLen; omega) rfl
  have hb1 : Below W.heap.size W (W.alloc (.cells #[] 9)) := (Below.refl _ _).alloc (Nat.le_refl _) _
  cases ao with
  | none =>
    obtain rfl := hm.2.2 rfl
    have : ks = [] := List.eq_nil_of_length_eq_zero (by omega)
    subst this
    have ht := Tryz.underlying24
    refine ⟨.slice (some ⟨W.heap.size, 0, none⟩) 0 0, _, ?_, ⟨_, 0, rfl, ⟨Nat.le_refl _, by omega, fun e => by cases e⟩, fun h => absurd rfl h⟩, hb1⟩
    simp [Builtin.append_, run_underlying ht, sizeOf, typeInfo, hi, Builtin.lenOf, Builtin.firstCells, storeCells]
  | some ad =>
    have hsrc : ∃ b off, some ad = some ⟨b, off, none⟩ ∧ b < W.heap.size ∧ (ks ≠ [] → True) ∨ ks = [] := by
      by_cases he : ks = []
      · exact ⟨0, 0, .inr he⟩
      · obtain ⟨b, off, ha, hb, _⟩ := hc he
        exact ⟨b, off, .inl ⟨ha, hb, fun _ => trivial⟩⟩
    have hnews : ∀ j u, (strV ks)[j]? = some u → (W.alloc (.cells #[] 9)).cell? (ad.add j) = some u := by
      intro j u hu
      have hj : j < ks.length := by have := (List.getElem?_eq_some_iff.1 hu).1; simpa [strV] using this
      obtain ⟨b, off, ha, hb, hcell⟩ := hc (by intro e; simp [e] at hj)
      injection ha with ha
      subst ha
      rw [Addr.add_lit, hb1.cell (p := ⟨b, off + j, none⟩) hb, hcell j hj]
      simp [strV, hj] at hu
      simp [List.getD, hj, hu]
    obtain ⟨v', w', hr, h2, h3, _⟩ := run_append_fresh (P := Tryz.prog) (W.alloc (.cells #[] 9)) W.heap.size 24 ty 9 i0 _ 1 16 Tryz.underlying24 hi hz0 hz1 hz2 rfl (by decide) _ 0 [] hmade ad ks.length ck (strV ks) (by simp [strV]) hnews (strV_one ks) (by unfold maxLen; omega) (by omega) (by simp)
    refine ⟨v', w', hr, ?_, hb1.grown h3 (by simp) (fun k e => by have := Option.some.inj e; simp at this; omega)⟩
    have h2' : w'.ownsRow W.heap.size 9 1 v' ks.length (strV ks) := by simpa using h2
    exact OwnS.strs ⟨ownsRow_zero h2', rfl⟩
theorem wpList_append_strs (W : World) {ops : Array Oper} {rest : List Oper} {o : Oper} {a : Act} {Q : Exit → Act → World → Prop} (hgd : o.guard = none) (s x : Operand)
    (ho : o.op = .call { callee := .builtin .append, args := #[s, x], argTypes := #[24, 24] }) (ks : List (List UInt8)) (ao : Option Addr) (ck : Nat) (hS : StrsAt W (.slice ao ks.length ck) ks) (hl : ks.length ≤ 1000000)
    (hs : a.eval s = .slice (some ⟨W.heap.size, 0, none⟩) 0 0) (hx : a.eval x = .slice ao ks.length ck)
    (h : ∀ v' w', StrsAt w' v' ks → Below W.heap.size W w' → wpList Tryz.prog ops Q rest (a.put o.dst v') w') : wpList Tryz.prog ops Q (o :: rest) a (W.alloc (.cells #[] 9)) := by
  refine wpList_plain hgd fun K hK => ?_
  obtain ⟨v', w', hr, h2, h3⟩ := run_append_strs W ks ao ck hS hl o.type
  unfold Oper.wp execOp
  simp only [ho, resolve, invoke, builtin, Sem.run_bind, Sem.run_pure, Result.andThen_ok, List.map_toArray, List.map_cons, List.map_nil, hs, hx, hr]
  exact hK _ _ (h v' w' h2 h3)

theorem goodV_three {t : VT} (h : goodV t = true) : sizeV t ≤ 2000 ∧ deepV 24 t = true ∧ plainV t = true := by
  unfold goodV at h
  rw [Bool.and_eq_true, Bool.and_eq_true, decide_eq_true_eq] at h
  exact ⟨h.1.1, h.1.2, h.2⟩
theorem itoa_len {n : Int} (h0 : -9223372036854775808 ≤ n) (h1 : n ≤ 9223372036854775807) : (Lib.itoa n).length ≤ 21 := by
  have hd : ∀ u : Nat, u ≤ 9223372036854775808 → (Lib.decDigits u).length ≤ 20 := fun u hu => (dec_len_iff (by decide)).2 (Nat.lt_of_le_of_lt hu (by decide))
  by_cases h : n < 0
  · rw [itoa_neg h, List.length_cons]
    have := hd n.natAbs (by omega)
    omega
  · rw [itoa_pos h]
    have := hd n.toNat (by omega)
    omega
theorem sizeL_le {k : Nat} : ∀ {l : List VT}, (∀ x ∈ l, sizeV x ≤ k) → sizeL l ≤ l.length * k
  | [], _ => by simp [sizeL]
  | x :: r, h => by
    rw [sizeL, List.length_cons]
    have h1 := h x (by simp)
    have h2 := sizeL_le (l := r) fun y hy => h y (by simp [hy])
    rw [Nat.add_mul]
    omega
theorem objT_code : ∀ (ks : List (List UInt8)) (ts : List VT) (t : VT), (objT t ks ts).2 = 0 ∨ (objT t ks ts).2 = 2
  | [], ts, t => by rw [objT]; · exact .inl rfl
                    · intro _ _ _ _ h _; cases h
  | k :: ks, [], t => by rw [objT]; · exact .inl rfl
                         · intro _ _ _ _ _ h; cases h
  | k :: ks, x :: xs, t => by
    rw [objT]
    split
    · exact .inr rfl
    · exact objT_code ks xs _
theorem sameV_self (a : VT) : sameV a a = true := (sameV_iff a a).2 rfl
set_option maxHeartbeats 8000000 in
theorem vmakes_true (w : World) (hT : TabW w) (ks : List (List UInt8)) (ts : List VT) (vk vi : Value) (vs : Nat → Value) (n : Int) (hn0 : -9223372036854775808 ≤ n) (hn1 : n ≤ 9223372036854775807) (hks : StrsAt w vk ks) (hr : RowAt w vi ts.length vs) (hv : ValsAt w ts vs) :
    Calls Tryz.prog 4 #[vk, vi, .int .i64 n] w fun e w' => e = .returned (.bool true) ∧ Below w.heap.size w w' := by
  have CA := awake02 w hT
  have HT := Lib.hid hT
  have CA2 := fun W (hW : Below w.heap.size w W) => awake02 W (HT.out.mono hW)
  have hks0 := hks
  obtain ⟨ak, ck, rfl, _⟩ := hks
  have hr0 := hr
  obtain ⟨ao, cap, rfl, hm, _⟩ := hr
  have HKS := Lib.hid hks0
  have HR := Lib.hid hr0
  have HV := Lib.hid hv
  clear hT hks0 hr0 hv hm
  go_enter Tryz.func4, Tryz.ntmps4
  go_wp2_with fail
  refine CA.mono ?_
  rintro e w1 ⟨rfl, hb1⟩
  clear CA
  by_cases hk2 : 200 < ks.length
  · have hk2' : (200 : Int) < (ks.length : Int) := by omega
    go_wp2_with fail
    refine (CA2 _ hb1).mono ?_
    rintro e w2 ⟨rfl, hq⟩
    have hb2 := hb1.trans (hq.mono hb1.size)
    clear hq CA2
    go_wp2
    go_ret
    exact ⟨rfl, hb2⟩
  by_cases ht2 : 200 < ts.length
  · have hk2' : ¬ (200 : Int) < (ks.length : Int) := by omega
    have ht2' : (200 : Int) < (ts.length : Int) := by omega
    go_wp2_with fail
    refine (CA2 _ hb1).mono ?_
    rintro e w2 ⟨rfl, hq⟩
    have hb2 := hb1.trans (hq.mono hb1.size)
    clear hq CA2
    go_wp2
    go_ret
    exact ⟨rfl, hb2⟩
  have hk2' : ¬ (200 : Int) < (ks.length : Int) := by omega
  have ht2' : ¬ (200 : Int) < (ts.length : Int) := by omega
  clear CA2
  go_wp2
  go_loopg [30] ts.length (fun g v30 wr => ∃ i : Nat, i + g = ts.length ∧ v30 = .int .i64 i ∧ Hid (∀ j (h : j < ts.length), j < i → goodV ts[j] = true) ∧ Below w.heap.size w wr)
  case atStart => exact ⟨0, by omega, rfl, Lib.hid fun j _ h => absurd h (by omega), hb1⟩
  case round =>
    clear hb1
    obtain ⟨i, hig, rfl, HG, hbl⟩ := hrel
    cases gk with
    | succ g =>
      have hit : i < ts.length := by omega
      have hie : (i : Int) < (ts.length : Int) := by omega
      obtain ⟨bi, off, xi, xc, xk, xd, rfl, lx, hxv, q0, q1, q2, q3, q4⟩ := RowAt.at HR.out HV.out hbl hit
      have CG := good_rval ts[i] _ wr hxv
      have HGN : Hid (goodV ts[i] = true → ∀ j (h : j < ts.length), j < i + 1 → goodV ts[j] = true) := Lib.hid fun hg j hj hlt => by
        by_cases hji : j = i
        · subst hji; exact hg
        · exact HG.out j hj (by omega)
      obtain ⟨x, hxe⟩ : ∃ x, ts[i] = x := ⟨_, rfl⟩
      rw [hxe] at q0 q1 q2 q3 q4 CG HGN
      obtain ⟨G, hG⟩ : ∃ G, goodV x = G := ⟨_, rfl⟩
      rw [hG] at CG HGN
      clear hxe hxv HG hG
      go_wp2_with fail
      refine CG.mono ?_
      rintro e w2 ⟨rfl, hq⟩
      have hb2 := hbl.trans (hq.mono hbl.size)
      clear hq CG q0 q1 q2 q3 q4
      cases G with
      | false =>
        clear HGN
        go_wp2
        go_ret
        exact ⟨rfl, hb2⟩
      | true =>
        have HG2 := Lib.hid (HGN.out rfl)
        clear HGN
        go_wp2
        go_roundg g
        case measure => omega
        case rel => exact ⟨i + 1, by omega, by go_num, HG2, hb2⟩
    | zero =>
      obtain rfl : i = ts.length := by omega
      have hall : ∀ x ∈ ts, goodV x = true := fun x hx => by
        obtain ⟨j, hj, rfl⟩ := List.getElem_of_mem hx
        exact HG.out j hj hj
      have hfit : ∀ x ∈ ts, fitV x = true := fun x hx => plain_fit x (goodV_three (hall x hx)).2.2
      have hsz : sizeL ts ≤ ts.length * 2000 := sizeL_le fun x hx => (goodV_three (hall x hx)).1
      have HALL := Lib.hid hall
      clear HG hall
      have hkw := HKS.out.mono hbl
      have hb0 : Below w.heap.size w wr := hbl
      go_wp2_with (at_builtin; refine wpList_append_strs wr rfl (.tmp 41) (.tmp 42) rfl ks ak ck hkw (by omega) rfl rfl ?_)
      intro vA wA hsA hbA
      obtain ⟨aA, cA, rfl, _⟩ := id hsA
      have hb3 := hb0.trans (hbA.mono hb0.size)
      have hvA := ValsAt.mono hb3 HV.out
      have CO := object_val ks ts _ _ vs wA hsA (HR.out.mono hb3) hvA (by omega) (by omega) hfit
      have CD := fun W (hW : Below w.heap.size w W) => object_rval ks ts _ _ vs W (HKS.out.mono hW) (HR.out.mono hW) (ValsAt.mono hW HV.out) (by omega) hfit
      obtain ⟨RES, hRES⟩ : ∃ RES, (if ks.length = ts.length then objT (.mk 6 false [] [] []) ks ts else (VT.none, 1)) = RES := ⟨_, rfl⟩
      have hcode : -9223372036854775808 ≤ RES.2 ∧ RES.2 ≤ 9223372036854775807 := by
        rw [← hRES]
        split
        · have := objT_code ks ts (.mk 6 false [] [] [])
          omega
        · decide
      rw [hRES] at CO CD
      obtain ⟨R, cd⟩ := RES
      clear hRES hsA hvA hkw hfit hsz HALL
      go_wp2_with fail
      refine CO.mono ?_
      rintro e w2 ⟨v2, F2, rfl, hv2, _, _, hq⟩
      have hb4 := hb3.trans (hq.mono hb3.size)
      have hv2 := hv2.at
      obtain ⟨a2, c2, d2, e2, rfl⟩ := hv2.form
      obtain ⟨wB, hwB⟩ : ∃ wB, wB = w2.alloc (.cells #[.int .i64 R.kind, .bool R.flag, str R.text, .slice a2 R.items.length c2, .slice d2 R.keys.length e2] 26) := ⟨_, rfl⟩
      obtain ⟨m0, m1, m2, m3, m4, hsB, hbB⟩ := box5 hwB
      have hb5 := hb4.trans (hbB.mono hb4.size)
      have CDD := CD wB hb5
      have HV2 := Lib.hid hv2
      clear CO CD hq hb3 hb4 hbA hv2
      go_upto_region 10 with fail
      rw [← hwB]
      clear hwB
      go_wp2_with fail
      refine CDD.mono ?_
      rintro e w3 ⟨⟨v3, rfl, hv3⟩, hq⟩
      obtain ⟨a3, c3, d3, e3, rfl⟩ := hv3.form
      obtain ⟨wC, hwC⟩ : ∃ wC, wC = w3.alloc (.cells #[.int .i64 R.kind, .bool R.flag, str R.text, .slice a3 R.items.length c3, .slice d3 R.keys.length e3] 26) := ⟨_, rfl⟩
      obtain ⟨n0, n1, n2, n3, n4, hsC, hbC⟩ := box5 hwC
      have hq2 : Below wB.heap.size wB wC := hq.trans (hbC.mono hq.size)
      have hb6 := hb5.trans (hq2.mono hb5.size)
      have m0 := box_at m0 hsB hq2
      have m1 := box_at m1 hsB hq2
      have m2 := box_at m2 hsB hq2
      have m3 := box_at m3 hsB hq2
      have m4 := box_at m4 hsB hq2
      have CS := same_rval R R _ _ wC (HV2.out.mono (hbB.trans (hq2.mono (by omega)))) (hv3.mono hbC)
      rw [sameV_self] at CS
      clear CDD hq hv3 HV2 hb5
      go_upto_region 11 with fail
      rw [← hwC]
      clear hwC
      go_wp2_with fail
      refine CS.mono ?_
      rintro e w4 ⟨rfl, hq⟩
      have hb7 := hb6.trans (hq.mono hb6.size)
      have CI := int_val n hn0 hn1 w4 (HT.out.mono hb7)
      have CU := unknown_val
      have CB := bool_val
      obtain ⟨tx, htx⟩ : ∃ tx, Lib.itoa n = tx := ⟨_, rfl⟩
      have CDG := fun W => digits_ref n hn0 hn1 W
      have htl : tx.length ≤ 9223372036854775807 := by rw [← htx]; have := itoa_len hn0 hn1; omega
      rw [htx] at CI CDG
      unfold leafV at CI CU CB
      clear CS hq hb6 m0 m1 m2 m3 m4 n0 n1 n2 n3 n4 htx hsB hbB hsC hbC hq2
      obtain ⟨pos, hpos⟩ : ∃ pos, decide (0 < n) = pos := ⟨_, rfl⟩
      go_wp2_with fail
      refine CI.mono ?_
      rintro e w5 ⟨rfl, hq⟩
      have hb8 := hb7.trans (hq.mono hb7.size)
      clear hq hb7 CI
      go_wp2_with fail
      refine (CU _).mono ?_
      rintro e w6 ⟨rfl, hq⟩
      have hb9 := hb8.trans (hq.mono hb8.size)
      clear hq hb8 CU
      go_wp2_with fail
      refine (CB pos _).mono ?_
      rintro e w7 ⟨rfl, hq⟩
      have hb10 := hb9.trans (hq.mono hb9.size)
      clear hq hb9 CB
      obtain ⟨wX, hwX⟩ : ∃ wX, wX = w7.alloc (.cells #[.int .i64 3, .bool false, str tx, .slice none 0 0, .slice none 0 0] 26) := ⟨_, rfl⟩
      obtain ⟨wY, hwY⟩ : ∃ wY, wY = wX.alloc (.cells #[.int .i64 1, .bool false, .string ⟨#[]⟩, .slice none 0 0, .slice none 0 0] 26) := ⟨_, rfl⟩
      obtain ⟨wZ, hwZ⟩ : ∃ wZ, wZ = wY.alloc (.cells #[.int .i64 2, .bool pos, .string ⟨#[]⟩, .slice none 0 0, .slice none 0 0] 26) := ⟨_, rfl⟩
      obtain ⟨x0, x1, x2, x3, x4, hsX, hbX⟩ := box5 hwX
      obtain ⟨y0, y1, y2, y3, y4, hsY, hbY⟩ := box5 hwY
      obtain ⟨z0, z1, z2, z3, z4, hsZ, hbZ⟩ := box5 hwZ
      have hYZ : Below wX.heap.size wX wZ := hbY.trans (hbZ.mono (by omega))
      have hb11 : Below w.heap.size w wZ := (hb10.trans (hbX.mono hb10.size)).trans (hYZ.mono (by have := hb10.size; omega))
      have hS : ∀ W, Below wZ.heap.size wZ W → W.cell? ⟨w7.heap.size, 0, none⟩ = some (.int .i64 3) ∧ W.cell? ⟨w7.heap.size, 1, none⟩ = some (.bool false) ∧ W.cell? ⟨w7.heap.size, 2, none⟩ = some (str tx) ∧ W.cell? ⟨w7.heap.size, 3, none⟩ = some (.slice none 0 0) ∧ W.cell? ⟨w7.heap.size, 4, none⟩ = some (.slice none 0 0) ∧ W.cell? ⟨w7.heap.size + 1, 0, none⟩ = some (.int .i64 1) ∧ W.cell? ⟨w7.heap.size + 1, 1, none⟩ = some (.bool false) ∧ W.cell? ⟨w7.heap.size + 1, 2, none⟩ = some (.string ⟨#[]⟩) ∧ W.cell? ⟨w7.heap.size + 1, 3, none⟩ = some (.slice none 0 0) ∧ W.cell? ⟨w7.heap.size + 1, 4, none⟩ = some (.slice none 0 0) ∧ W.cell? ⟨w7.heap.size + 1 + 1, 0, none⟩ = some (.int .i64 2) ∧ W.cell? ⟨w7.heap.size + 1 + 1, 1, none⟩ = some (.bool pos) ∧ W.cell? ⟨w7.heap.size + 1 + 1, 2, none⟩ = some (.string ⟨#[]⟩) ∧ W.cell? ⟨w7.heap.size + 1 + 1, 3, none⟩ = some (.slice none 0 0) ∧ W.cell? ⟨w7.heap.size + 1 + 1, 4, none⟩ = some (.slice none 0 0) := fun W hW => by
        have g := fun (q j : Nat) (hq : q < wZ.heap.size) => hW.cell (p := ⟨q, j, none⟩) hq
        have g1 := fun (j : Nat) => hYZ.cell (p := ⟨w7.heap.size, j, none⟩) (by show w7.heap.size < wX.heap.size; omega)
        have g2 := fun (j : Nat) => hbZ.cell (p := ⟨w7.heap.size + 1, j, none⟩) (by show w7.heap.size + 1 < wY.heap.size; omega)
        rw [hsX] at y0 y1 y2 y3 y4
        rw [hsY, hsX] at z0 z1 z2 z3 z4
        exact ⟨((g _ _ (by omega)).trans (g1 0)).trans x0, ((g _ _ (by omega)).trans (g1 1)).trans x1, ((g _ _ (by omega)).trans (g1 2)).trans x2, ((g _ _ (by omega)).trans (g1 3)).trans x3, ((g _ _ (by omega)).trans (g1 4)).trans x4,
          ((g _ _ (by omega)).trans (g2 0)).trans y0, ((g _ _ (by omega)).trans (g2 1)).trans y1, ((g _ _ (by omega)).trans (g2 2)).trans y2, ((g _ _ (by omega)).trans (g2 3)).trans y3, ((g _ _ (by omega)).trans (g2 4)).trans y4,
          (g _ _ (by omega)).trans z0, (g _ _ (by omega)).trans z1, (g _ _ (by omega)).trans z2, (g _ _ (by omega)).trans z3, (g _ _ (by omega)).trans z4⟩
      have HS := Lib.hid hS
      have hsZ3 : w7.heap.size + 1 + 1 < wZ.heap.size := by omega
      clear x0 x1 x2 x3 x4 y0 y1 y2 y3 y4 z0 z1 z2 z3 z4 hS hYZ hb10
      have CK : ∀ (k : Int) (t : List UInt8) (W : World), -9223372036854775808 ≤ k ∧ k ≤ 9223372036854775807 ∧ t.length ≤ 9223372036854775807 → Calls Tryz.prog 17 #[.agg #[.int .i64 k, .bool false, .string ⟨t.toArray⟩, .slice none 0 0, .slice none 0 0]] W fun e w' => e = .returned (.bool (!(k == 1))) ∧ Below W.heap.size W w' := fun k t W hk => by
        have := known_val (.mk k false t [] []) (leafV k false t) W ((leaf_own W k false t hk).at)
        have e : knownV (.mk k false t [] []) = !(k == 1) := by
          unfold knownV
          simp [knownL]
        rw [e] at this
        exact this
      have CKK := Lib.hid CK
      clear CK
      have hd : Below wZ.heap.size wZ wZ.drew := (Below.refl _ wZ).drew
      go_upto_region 14 with fail
      rw [← hwX, ← hwY, ← hwZ]
      clear hwX hwY hwZ hbX hbY hbZ
      obtain ⟨x0, x1, x2, x3, x4, y0, y1, y2, y3, y4, z0, z1, z2, z3, z4⟩ := HS.out wZ (Below.refl _ _)
      have hKS0 := HS.out wZ (Below.refl _ _)
      go_region_held3 (fun W => W.cell? ⟨w7.heap.size, 0, none⟩ = some (.int .i64 3) ∧ W.cell? ⟨w7.heap.size, 1, none⟩ = some (.bool false) ∧ W.cell? ⟨w7.heap.size, 2, none⟩ = some (str tx) ∧ W.cell? ⟨w7.heap.size, 3, none⟩ = some (.slice none 0 0) ∧ W.cell? ⟨w7.heap.size, 4, none⟩ = some (.slice none 0 0) ∧ W.cell? ⟨w7.heap.size + 1, 0, none⟩ = some (.int .i64 1) ∧ W.cell? ⟨w7.heap.size + 1, 1, none⟩ = some (.bool false) ∧ W.cell? ⟨w7.heap.size + 1, 2, none⟩ = some (.string ⟨#[]⟩) ∧ W.cell? ⟨w7.heap.size + 1, 3, none⟩ = some (.slice none 0 0) ∧ W.cell? ⟨w7.heap.size + 1, 4, none⟩ = some (.slice none 0 0) ∧ W.cell? ⟨w7.heap.size + 1 + 1, 0, none⟩ = some (.int .i64 2) ∧ W.cell? ⟨w7.heap.size + 1 + 1, 1, none⟩ = some (.bool pos) ∧ W.cell? ⟨w7.heap.size + 1 + 1, 2, none⟩ = some (.string ⟨#[]⟩) ∧ W.cell? ⟨w7.heap.size + 1 + 1, 3, none⟩ = some (.slice none 0 0) ∧ W.cell? ⟨w7.heap.size + 1 + 1, 4, none⟩ = some (.slice none 0 0))
        (first | exact hKS0 | exact HS.out _ ((Below.refl _ wZ).drew) | exact KS)
        (first
          | (go_at_call 16; refine (CDG _).mono ?_; rintro e wq ⟨rfl, hq⟩; have hd := hd.trans (hq.mono hd.size); have KS := HS.out _ hd)
          | (go_at_call 17; refine (CKK.out _ _ _ ⟨by omega, by omega, by first | exact htl | decide⟩).mono ?_; rintro e wq ⟨rfl, hq⟩; have hd := hd.trans (hq.mono hd.size); have KS := HS.out _ hd))
      have hb12 := hb11.trans (hd.mono hb11.size)
      obtain ⟨wq3, hwq3⟩ : ∃ wq3, wq3 = wq := ⟨_, rfl⟩
      rw [← hwq3] at hb12 ⊢
      clear hd hwq3
      clear CDG CKK x0 x1 x2 x3 x4 y0 y1 y2 y3 y4 z0 z1 z2 z3 z4 hKS0 KS
      by_cases hk0 : ks.length = 0
      · have hk0' : ((ks.length : Int) == 0) = true := by simp [hk0]
        clear HS
        go_upto_region 16 with fail
        go_quiet (fail)
        go_wp2
        go_ret
        exact ⟨rfl, below_drawn hb12 _⟩
      · obtain ⟨b1, o1, rfl, l1, h1⟩ := StrsAt.get HKS.out (i := 0) (by omega)
        rw [Nat.add_zero] at h1
        have h1 := (hb12.cell (p := ⟨b1, o1, none⟩) l1).trans h1
        have hk0' : ((ks.length : Int) == 0) = false := by simp [hk0]
        have hk0p : (0 : Int) < (ks.length : Int) := by omega
        have hk0n : 0 < ks.length := by omega
        obtain ⟨x, hxe⟩ : ∃ x, ks.getD 0 [] = x := ⟨_, rfl⟩
        rw [hxe] at h1
        have CT := fun W => text_val x W
        unfold leafV at CT
        have hfd : ∀ W : World, (Instr.field 26 (.agg #[.int .i64 4, .bool false, str x, .slice none 0 0, .slice none 0 0]) 2).run Tryz.prog W = .ok (str x) W := fun _ => by kernel_rfl
        have hl1 : b1 < wq3.heap.size := Nat.lt_of_lt_of_le l1 hb12.size
        clear HS hxe
        go_upto_region 16 with fail
        go_region_held3 (fun W => W.cell? ⟨b1, o1, none⟩ = some (str x))
          (first | exact h1 | exact K1)
          (first
            | (go_at_call 18; refine (CT _).mono ?_; rintro e wq4 ⟨rfl, hq4⟩; have hd4 : Below wq3.heap.size wq3 wq4 := (Below.refl _ wq3).drew.trans (hq4.mono (by simp)); have K1 := (hd4.cell (p := ⟨b1, o1, none⟩) hl1).trans h1))
        have hb13 : Below w.heap.size w wq4 := hb12.trans (hd4.mono hb12.size)
        go_wp2
        go_ret
        exact ⟨rfl, hb13⟩

end Go.Proofs.YtgbalofdfdafmaaGreatDoor
