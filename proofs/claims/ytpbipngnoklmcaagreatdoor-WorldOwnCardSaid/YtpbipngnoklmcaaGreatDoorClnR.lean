/- The walk of the document's Clone. -/
import Derived.Test.YtpbipngnoklmcaaGreatDoorMOwP
import Derived.Test.YtpbipngnoklmcaaGreatDoorMWldAw
namespace Go.Proofs.YtpbipngnoklmcaaGreatDoor
open Go.RowKit
set_option maxRecDepth 100000
attribute [local go_sem] str_size str_toList str_get

/-- append([]string{}, keys...), told as a row of one's own. -/
theorem run_append_own_strs (W : World) (ks : List (List UInt8)) (ao : Option Addr) (ck : Nat) (h : StrsAt W (.slice ao ks.length ck) ks) (hl : ks.length ≤ 1000000) (ty : TypeId) :
    ∃ v' w', (Builtin.append_ #[39, 39] ty #[.slice (some ⟨W.heap.size, 0, none⟩) 0 0, .slice ao ks.length ck]).run Tryz.prog (W.alloc (.cells #[] 9)) = .ok v' w' ∧ w'.ownsRow W.heap.size 9 1 v' ks.length (strV ks) ∧ Below W.heap.size W w' := by
  obtain ⟨i0, hi, hz0, hz1, hz2⟩ := info_parts infoS
  obtain ⟨ao', cap, hv, hm, hc⟩ := id h
  injection hv with e1 e2 e3
  subst e1; subst e3
  have hmade : (W.alloc (.cells #[] 9)).ownsRow W.heap.size 9 1 (.slice (some ⟨W.heap.size, 0, none⟩) 0 0) 0 [] := World.ownsRow_made W #[] 0 (Nat.le_refl _) (by unfold maxLen; omega) rfl
  have hb1 : Below W.heap.size W (W.alloc (.cells #[] 9)) := (Below.refl _ _).alloc (Nat.le_refl _) _
  cases ao with
  | none =>
    obtain rfl := hm.2.2 rfl
    have : ks = [] := List.eq_nil_of_length_eq_zero (by omega)
    subst this
    have ht := Tryz.underlying39
    refine ⟨.slice (some ⟨W.heap.size, 0, none⟩) 0 0, _, ?_, hmade, hb1⟩
    simp [Builtin.append_, run_underlying ht, sizeOf, typeInfo, hi, Builtin.lenOf, Builtin.firstCells, storeCells]
  | some ad =>
    have hnews : ∀ j u, (strV ks)[j]? = some u → (W.alloc (.cells #[] 9)).cell? (ad.add j) = some u := by
      intro j u hu
      have hj : j < ks.length := by have := (List.getElem?_eq_some_iff.1 hu).1; simpa [strV] using this
      obtain ⟨b, off, ha, hb, hcell⟩ := hc (by intro e; simp [e] at hj)
      injection ha with ha
      subst ha
      rw [Addr.add_lit, hb1.cell (p := ⟨b, off + j, none⟩) hb, hcell j hj]
      simp [strV, hj] at hu
      simp [List.getD, hj, hu]
    obtain ⟨v', w', hr, h2, h3, _⟩ := run_append_fresh (P := Tryz.prog) (W.alloc (.cells #[] 9)) W.heap.size 39 ty 9 i0 _ 1 16 Tryz.underlying39 hi hz0 hz1 hz2 rfl (by decide) _ 0 [] hmade ad ks.length ck (strV ks) (by simp [strV]) hnews (strV_one ks) (by unfold maxLen; omega) (by omega) (by simp)
    refine ⟨v', w', hr, by simpa using h2, hb1.grown h3 (by simp) (fun k e => by have := Option.some.inj e; simp at this; omega)⟩
theorem wpList_append_own_strs (W : World) {ops : Array Oper} {rest : List Oper} {o : Oper} {a : Act} {Q : Exit → Act → World → Prop} (hgd : o.guard = none) (s x : Operand)
    (ho : o.op = .call { callee := .builtin .append, args := #[s, x], argTypes := #[39, 39] }) (ks : List (List UInt8)) (ao : Option Addr) (ck : Nat) (hS : StrsAt W (.slice ao ks.length ck) ks) (hl : ks.length ≤ 1000000)
    (hs : a.eval s = .slice (some ⟨W.heap.size, 0, none⟩) 0 0) (hx : a.eval x = .slice ao ks.length ck)
    (h : ∀ v' w', w'.ownsRow W.heap.size 9 1 v' ks.length (strV ks) → Below W.heap.size W w' → wpList Tryz.prog ops Q rest (a.put o.dst v') w') : wpList Tryz.prog ops Q (o :: rest) a (W.alloc (.cells #[] 9)) := by
  refine wpList_plain hgd fun K hK => ?_
  obtain ⟨v', w', hr, h2, h3⟩ := run_append_own_strs W ks ao ck hS hl o.type
  unfold Oper.wp execOp
  simp only [ho, resolve, invoke, builtin, Sem.run_bind, Sem.run_pure, Result.andThen_ok, List.map_toArray, List.map_cons, List.map_nil, hs, hx, hr]
  exact hK _ _ (h v' w' h2 h3)

/-- The world with its first blocks alone. -/
def cutW (B : Nat) (w : World) : World := { w with heap := w.heap.extract 0 B }
theorem cutW_size {B : Nat} {w : World} (h : B ≤ w.heap.size) : (cutW B w).heap.size = B := by simp [cutW]; omega
theorem cutW_below {B : Nat} {w : World} (h : B ≤ w.heap.size) : Below (cutW B w).heap.size (cutW B w) w := by
  rw [cutW_size h]
  refine ⟨rfl, rfl, rfl, by rw [cutW_size h]; exact h, fun k hk => ?_⟩
  simp [cutW, Array.getElem?_extract]
  omega

theorem grown_box {w1 w3 : World} {o : Obj} {blk : Option Nat} {q : Nat} {X : Obj} (h : w1.heap[q]? = some X) (hg : (w1.alloc o).grownBy w3 blk) (hn : blk = some q → False) : w3.heap[q]? = some X := by
  have hq := (Array.getElem?_eq_some_iff.1 h).1
  have hsz : (w1.alloc o).heap.size = w1.heap.size + 1 := by simp only [World.alloc, Array.size_push]
  rw [hg.block q (by omega) (fun e => hn e.symm)]
  simp only [World.alloc, Array.getElem?_push, if_neg (show ¬ q = w1.heap.size by omega)]
  exact h
/-- The clone under way, in its box. -/
def CloR (k : Int) (b : Bool) (tx : List UInt8) (ks : List (List UInt8)) (w : World) (B : Nat) (ts : List VT) (vi vk : Value) (Fk : List Nat) (wr : World) : Prop :=
  wr.heap[w.heap.size]? = some (.cells #[.int .i64 k, .bool b, str tx, vi, vk] 41 (0, 0)) ∧ wr.heap[w.heap.size + 1]? = some (.cells #[.int .i64 0, .bool false, .string ⟨#[]⟩, .slice none 0 0, .slice none 0 0] 41 (0, 0)) ∧
    OwnS wr 9 1 vk ks.length (strV ks) Fk ∧ Below w.heap.size w wr ∧ B ≤ wr.heap.size ∧ ∃ xs Fi Fs, OwnS wr 41 5 vi ts.length (cellsV xs) Fi ∧ OwnVals wr ts xs Fs ∧ (Fi ++ Fs).Nodup ∧ ∀ b ∈ Fi ++ Fs, B ≤ b

theorem CloR.push {k : Int} {b : Bool} {tx : List UInt8} {ks : List (List UInt8)} {w : World} {B : Nat} {ts : List VT} {vi vk : Value} {Fk : List Nat} {wr w1 w3 : World} (hB : w.heap.size + 2 ≤ B) (hFk : ∀ b ∈ Fk, w.heap.size + 2 ≤ b ∧ b < B)
    {xs : List Value} {Fi Fs : List Nat} (hq : wr.heap[w.heap.size]? = some (.cells #[.int .i64 k, .bool b, str tx, vi, vk] 41 (0, 0))) (hz : wr.heap[w.heap.size + 1]? = some (.cells #[.int .i64 0, .bool false, .string ⟨#[]⟩, .slice none 0 0, .slice none 0 0] 41 (0, 0)))
    (hk : OwnS wr 9 1 vk ks.length (strV ks) Fk) (hbw : Below w.heap.size w wr) (hBr : B ≤ wr.heap.size) (h1 : OwnS wr 41 5 vi ts.length (cellsV xs) Fi) (h2 : OwnVals wr ts xs Fs) (hn : (Fi ++ Fs).Nodup) (hge : ∀ b ∈ Fi ++ Fs, B ≤ b)
    {t : VT} {x v' : Value} {Fx : List Nat} {o : Obj} (hx : OwnVal w1 t x Fx) (hd : Fx.Nodup) (hF : ∀ b ∈ Fx, wr.heap.size ≤ b) (hb : Below wr.heap.size wr w1)
    (hown : w3.ownsRow 0 41 5 v' (ts.length + 1) (cellsV xs ++ x.cells.toList)) (hg : (w1.alloc o).grownBy w3 vi.ownBlock) (hv : v'.ownBlock = vi.ownBlock ∨ v'.ownBlock = some (w1.alloc o).heap.size) :
    CloR k b tx ks w B (ts ++ [t]) v' vk Fk (w3.setCell ⟨w.heap.size, 3, none⟩ v') := by
  rw [show (w1.alloc o).heap.size = w1.heap.size + 1 by simp only [World.alloc, Array.size_push]] at hv
  have hcl := ClL.push (w := cutW B wr) h1 h2 hn (fun b hb => by rw [cutW_size hBr]; exact hge b hb) (cutW_below hBr) hx hd hF hb hown hg hv
  obtain ⟨ys, Gi, Gs, g1, g2, g3, g4, _⟩ := hcl
  rw [cutW_size hBr] at g4
  have hs1 := hb.size
  have hsz : (w1.alloc o).heap.size = w1.heap.size + 1 := by simp only [World.alloc, Array.size_push]
  have hvi : ∀ b, vi.ownBlock = some b → B ≤ b := fun b hb' => hge b (by rw [h1.2, hb']; simp)
  have hlow : ∀ b, b < B → w3.heap[b]? = wr.heap[b]? := fun b hb1 => by
    rw [hg.block b (by omega) (fun e => by have := hvi b e.symm; omega)]
    simp only [World.alloc, Array.getElem?_push, if_neg (show ¬ b = w1.heap.size by omega)]
    exact hb.block b (by omega)
  have hkk : ∀ b, b ≠ w.heap.size → (w3.setCell ⟨w.heap.size, 3, none⟩ v').heap[b]? = w3.heap[b]? := fun b hb => by simp [World.setCell, Array.getElem?_modify, Ne.symm hb]
  have hw3 : w1.heap.size + 1 ≤ w3.heap.size := by have := hg.size; omega
  have hbw3 : Below w.heap.size w w3 := ⟨hg.os.trans (hb.os.trans hbw.os), hg.tape.trans (hb.tape.trans hbw.tape), hg.output.trans (hb.output.trans hbw.output), by have := hbw.size; omega, fun k hk => (hlow k (by omega)).trans (hbw.block k hk)⟩
  refine ⟨?_, (hkk _ (by omega)).trans ((hlow _ (by omega)).trans hz), hk.keep (fun b hb' => (hkk b (by have := hFk b hb'; omega)).trans (hlow b (hFk b hb').2)), hbw3.setCell (Nat.le_refl _) _, by simp [World.setCell]; omega, ys, Gi, Gs, g1.keep (fun b hb' => hkk b ?_), g2.keep (fun b hb' => hkk b ?_), g3, g4⟩
  · simp [World.setCell, Array.getElem?_modify, hlow w.heap.size (by omega), hq]
  · have := g4 b (by simp [hb']); omega
  · have := g4 b (by simp [hb']); omega

set_option maxHeartbeats 4000000 in
theorem clone_rval (t : VT) : ∀ (v : Value) (w : World), ValAt w t v → fitV t = true → sizeV t ≤ 1000000 → Calls Tryz.prog 12 #[v] w (ClV t w) := by
  induction t using VT.ind with
  | h k b tx its ks ih =>
    intro v w h hp hs
    obtain ⟨i2, hi2, hz2, hzs2, hzb2⟩ := info_parts infoVal
    rw [ValAt] at h
    obtain ⟨vi, vk, rfl, hk, hks, vs, hr, hv⟩ := h
    rw [sizeV] at hs
    rw [fitV_mk] at hp
    have hilen := sizeL_len its
    have hks0 := hks
    obtain ⟨ak, ck, rfl, _⟩ := hks
    have hr0 := hr
    obtain ⟨ao, cap, rfl, hm, _⟩ := hr
    obtain ⟨wP, hwP⟩ : ∃ wP, wP = w.alloc (.cells #[.int .i64 k, .bool b, str tx, .slice ao its.length cap, .slice ak ks.length ck] 41) := ⟨_, rfl⟩
    obtain ⟨_, _, _, _, _, hsP, hbP⟩ := box5 hwP
    obtain ⟨wQ, hwQ⟩ : ∃ wQ, wQ = wP.alloc (.cells #[.int .i64 0, .bool false, .string ⟨#[]⟩, .slice none 0 0, .slice none 0 0] 41) := ⟨_, rfl⟩
    have hbq : wQ.heap[w.heap.size]? = some (.cells #[.int .i64 k, .bool b, str tx, .slice ao its.length cap, .slice ak ks.length ck] 41 (0, 0)) := by
      rw [hwQ, Below.heap_alloc _ _ _ (by omega), hwP]; exact heap_alloc_new _ _
    have hbr : wQ.heap[w.heap.size + 1]? = some (.cells #[.int .i64 0, .bool false, .string ⟨#[]⟩, .slice none 0 0, .slice none 0 0] 41 (0, 0)) := by
      rw [hwQ, ← hsP]; exact heap_alloc_new _ _
    obtain ⟨_, _, _, _, _, hsQ, hbQ⟩ := box5 hwQ
    have hb0 : Below w.heap.size w wQ := hbP.trans (hbQ.mono (by omega))
    have hsz : wQ.heap.size = w.heap.size + 2 := by omega
    obtain ⟨u0, u1, u2, u3, u4, f3, f4⟩ := cell_box5 hbq
    have hks1 := hks0.mono hb0
    have hKL : ks.length ≤ 1000000 := by omega
    have v4 : (wQ.alloc (.cells #[] 9)).cell? ⟨w.heap.size, 4, none⟩ = some (.slice ak ks.length ck) := (((Below.refl wQ.heap.size wQ).alloc (Nat.le_refl _) (.cells #[] 9)).cell (p := ⟨w.heap.size, 4, none⟩) (by show w.heap.size < wQ.heap.size; omega)).trans u4
    have HQ := Lib.hid hbq
    have HR := Lib.hid hbr
    have HZ := Lib.hid hsz
    have HB0 := Lib.hid hb0
    clear hbq hbr hsz hbP hbQ hsP hsQ hb0
    go_enter Tryz.func12, Tryz.ntmps12
    go_upto_region 1 with fail
    rw [← hwP, ← hwQ]
    clear hwP hwQ
    go_wp2_with (at_builtin; refine wpList_append_own_strs wQ rfl (.tmp 5) (.tmp 7) rfl ks ak ck hks1 hKL rfl rfl ?_)
    intro vK wA hown hbA
    obtain ⟨aA, cA, rfl⟩ := slice_of hown
    have hzA := hbA.size
    have hz0 := HZ.out
    have hqA := (hbA.block w.heap.size (by omega)).trans HQ.out
    have hrA := (hbA.block (w.heap.size + 1) (by omega)).trans HR.out
    obtain ⟨w4, hw4, hr4, hz4, hk4, hB4⟩ := set_box5 hqA (.slice none 0 0) (.slice aA ks.length cA)
    obtain ⟨_, _, _, _, _, g3, g4⟩ := cell_box5 hqA
    obtain ⟨a0, a1, a2, a3, a4, _, _⟩ := cell_box5 hqA
    have hFk : ∀ b ∈ (Value.slice aA ks.length cA).ownBlock.toList, w.heap.size + 2 ≤ b ∧ b < w4.heap.size := fun b hb => by
      have := hown.lt b (by simpa using hb)
      omega
    obtain ⟨Fk, hFke⟩ : ∃ Fk, (Value.slice aA ks.length cA).ownBlock.toList = Fk := ⟨_, rfl⟩
    rw [hFke] at hFk
    have hC0 : CloR k b tx ks w w4.heap.size [] (.slice none 0 0) (.slice aA ks.length cA) Fk w4 :=
      ⟨hr4, (hk4 _ (by omega)).trans hrA, (show OwnS wA 9 1 _ _ _ Fk from ⟨ownsRow_zero hown, hFke.symm⟩).keep (fun b hb => hk4 b (by have := hFk b hb; omega)), hB4 _ _ (Nat.le_refl _) (HB0.out.trans (hbA.mono (by omega))), Nat.le_refl _, [], [], [], OwnS.nil _ _ _, by rw [OwnVals]; exact ⟨rfl, rfl⟩, by simp, by simp⟩
    have HC0 : Hid (CloR k b tx ks w w4.heap.size (its.take 0) (.slice none 0 0) (.slice aA ks.length cA) Fk w4) := hC0
    have hB2 : w.heap.size + 2 ≤ w4.heap.size := by omega
    have HFK := Lib.hid hFk
    have h3c : (wA.setCell ⟨w.heap.size, 4, none⟩ (.slice aA ks.length cA)).cell? ⟨w.heap.size, 3, none⟩ = some (.slice ao its.length cap) ∧ (wA.setCell ⟨w.heap.size, 4, none⟩ (.slice aA ks.length cA)).frozen? ⟨w.heap.size, 3, none⟩ = false := by
      have : (wA.setCell ⟨w.heap.size, 4, none⟩ (.slice aA ks.length cA)).heap[w.heap.size]? = some (.cells #[.int .i64 k, .bool b, str tx, .slice ao its.length cap, .slice aA ks.length cA] 41 (0, 0)) := by
        simp [World.setCell, Array.getElem?_modify, hqA]
      obtain ⟨_, _, _, e3, _, e4, _⟩ := cell_box5 this
      exact ⟨e3, e4⟩
    obtain ⟨e3, e4⟩ := h3c
    have HW4 := Lib.hid hw4
    have HS4 := Lib.hid (show w4.heap.size = wA.heap.size from hz4)
    clear hC0 hFk hown hbA hqA hrA hr4 hk4 hB4 hw4 hFke hz4 hz0
    go_upto_region 4 with fail
    rw [← HW4.out]
    clear HW4 v4 e3 e4 g3 g4 a0 a1 a2 a3 a4 u0 u1 u2 u3 u4
    go_wp2
    go_loopg [15] its.length (fun g v15 wr => ∃ (i : Nat) (vi : Value), i + g = its.length ∧ v15 = .int .i64 i ∧ Hid (CloR k b tx ks w w4.heap.size (its.take i) vi (.slice aA ks.length cA) Fk wr))
    case atStart => exact ⟨0, _, by omega, rfl, HC0⟩
    case round =>
      clear HC0
      obtain ⟨i, vi, hig, rfl, HC⟩ := hrel
      obtain ⟨hq, hz, hkk, hbw, hBr, xs, Fi, Fs, o1, o2, o3, o4⟩ := HC.out
      cases gk with
      | zero =>
        obtain rfl : i = its.length := by omega
        rw [List.take_length] at o1 o2
        obtain ⟨ai1, ci1, rfl, _, _, _⟩ := o1.form
        obtain ⟨c0, c1, c2, c3, c4, _, _⟩ := cell_box5 hq
        obtain ⟨z0, z1, z2, z3, z4, y0, y1, y2, y3, y4⟩ := free5 hz
        obtain ⟨w5, hw5, hr5, hz5, hk5, hB5⟩ := put_box5 hz (.int .i64 k) (.bool b) (.string ⟨tx.toArray⟩) (.slice ai1 its.length ci1) (.slice aA ks.length cA)
        obtain ⟨p0, p1, p2, p3, p4, _, _⟩ := cell_box5 hr5
        have hfin : ClV (.mk k b tx its ks) w (.returned (.agg #[.int .i64 k, .bool b, str tx, .slice ai1 its.length ci1, .slice aA ks.length cA])) w5 := by
          have hFk := HFK.out
          refine ⟨_, Fk ++ (Fi ++ Fs), rfl, ?_, ?_, fun b hb => ?_, hB5 _ _ (by omega) hbw⟩
          · rw [OwnVal]
            exact ⟨_, _, xs, Fk, Fi, Fs, rfl, hk, hkk.keep (fun b hb => hk5 b (by have := hFk b hb; omega)), o1.keep (fun b hb => hk5 b (by have := o4 b (by simp [hb]); omega)), o2.len, rfl, o2.keep (fun b hb => hk5 b (by have := o4 b (by simp [hb]); omega))⟩
          · rw [List.nodup_append]
            exact ⟨hkk.nodup, o3, fun a ha b hb e => by have := hFk a ha; have := o4 b hb; omega⟩
          · rcases List.mem_append.1 hb with hb | hb
            · have := hFk b hb; omega
            · have := o4 b hb; omega
        have HF := Lib.hid hfin
        have HW := Lib.hid hw5
        clear hfin hw5 hr5 hk5 hB5 hq hz hkk hbw hBr o1 o2 o3 o4 HC
        go_wp2
        rw [← HW.out]
        exact bodyPost_ret (v := .agg #[.int .i64 k, .bool b, str tx, .slice ai1 its.length ci1, .slice aA ks.length cA]) (by simp [results, go_sem, p0, p1, p2, p3, p4]) rfl HF.out
      | succ g =>
        have hil : i < its.length := by omega
        have hie : (i : Int) < (its.length : Int) := by omega
        obtain ⟨b', off, xi, xc, xk, xd, rfl, hlt, hxv, q0, q1, q2, q3, q4⟩ := RowAt.at hr0 hv hbw hil
        have hmem := List.getElem_mem hil
        have CC := fun W (hW : Below wr.heap.size wr W) => ih its[i] hmem _ W (hxv.mono hW) (hp.2 _ hmem) (by have := sizeL_take_succ hil; have := sizeL_take_le its (i + 1); omega)
        have hnext : its.take (i + 1) = its.take i ++ [its[i]] := List.take_succ_eq_append_getElem hil
        have hlen : (its.take i).length = i := by rw [List.length_take]; omega
        obtain ⟨x, hxe⟩ : ∃ x, its[i] = x := ⟨_, rfl⟩
        rw [hxe] at q0 q1 q2 q3 q4 hnext CC
        have HN := Lib.hid hnext
        have hpush := fun w1 w3 v' y Fx o hx hd hF hb => CloR.push (w1 := w1) (w3 := w3) (t := x) (x := y) (v' := v') (Fx := Fx) (o := o) hB2 HFK.out hq hz hkk hbw hBr o1 o2 o3 o4 hx hd hF hb
        rw [hlen] at o1 hpush
        obtain ⟨ai1, ci1, rfl, _, _, _⟩ := o1.form
        have HO := Lib.hid (fun W (hb : Below wr.heap.size wr W) => own_below o1.1 hb)
        have HP := Lib.hid hpush
        have HBX := Lib.hid hq
        have HNB := Lib.hid (fun bb (hb : (Value.slice ai1 i ci1).ownBlock = some bb) => (by have := o4 bb (by rw [o1.2, hb]; simp); omega : w.heap.size + 2 ≤ bb))
        obtain ⟨c0, c1, c2, c3, c4, f3, f4⟩ := cell_box5 hq
        have hwq : w.heap.size < wr.heap.size := by omega
        have HCC := Lib.hid CC
        clear hq hz hkk o1 o2 o3 o4 hpush hxv hxe hnext HC CC hmem hv hr0 HFK HQ HR HB0 HZ hks0 hks1
        have mixed : Tryz.prog.follows .mixedOrders = true := by kernel_rfl
        go_upto_region 7 with fail
        go_region_law_o (first
          | (refine step_append_fresh rfl (.tmp 19) (.tmp 25) 38 rfl 0 41 i2 _ 5 80 Tryz.underlying38 hi2 hz2 hzs2 hzb2 rfl (by decide) (.slice ai1 i ci1) i (cellsV xs) (by simp [Act.eval]) (HO1.out _) ⟨w1.heap.size, 0, none⟩ 1 1 [.int .i64 x.kind, .bool x.flag, str x.text, .slice si x.items.length sc, .slice sk x.keys.length sd] (by simp [Act.eval]) rfl (cells_new w1 _ _) (by intro y hy; simp at hy; rcases hy with rfl | rfl | rfl | rfl | rfl <;> rfl) (by unfold maxLen; omega) (by omega) (by simp) ?_; intro v' w3 hown hgrow hv'; have hFR := HQ1.out w3 v' _ hown hgrow hv'; obtain ⟨a', c', rfl⟩ := slice_of hown; obtain ⟨d0, d1, d2, d3, d4, e3, e4⟩ := HFRZ.out w3 _ hgrow)
          | (go_simp; go_at_call 12; refine (HCC.out _ (Below.refl _ wr).drew).mono ?_; rintro e w1 ⟨v1, F1, rfl, hov, hnd, hge, hb1⟩; obtain ⟨si, sc, sk, sd, rfl⟩ := hov.at.form; have hb2 : Below wr.heap.size wr w1 := (Below.refl _ wr).drew.trans (hb1.mono (Nat.le_refl _)); have hs2 := hb2.size; have HQ1 := Lib.hid (fun w3 v' o => HP.out w1 w3 v' _ F1 o hov hnd hge hb2); have HO1 := Lib.hid (fun o => HO.out _ (hb2.alloc (o := o) hs2)); have hbx1 := (hb2.block w.heap.size hwq).trans HBX.out; obtain ⟨j0, j1, j2, j3, j4, _, _⟩ := cell_box5 hbx1; have j3a : ∀ o, (w1.alloc o).cell? ⟨w.heap.size, 3, none⟩ = some (.slice ai1 i ci1) := fun o => (((Below.refl w1.heap.size w1).alloc (Nat.le_refl _) o).cell (p := ⟨w.heap.size, 3, none⟩) (Nat.lt_of_lt_of_le hwq hs2)).trans j3; have HFRZ := Lib.hid (fun w3 o (hg : (w1.alloc o).grownBy w3 (Value.slice ai1 i ci1).ownBlock) => cell_box5 (grown_box hbx1 hg (fun e => by have := HNB.out _ e; omega))); clear hov hnd hge hb1))
        all_goals
          rw [← HN.out] at hFR
          have HFR := Lib.hid hFR
          clear hFR hown hgrow hv' d0 d1 d2 d3 d4 e3 e4 j0 j1 j2 j3 j4 j3a c0 c1 c2 c3 c4 f3 f4 q0 q1 q2 q3 q4 HQ1 HO1 HFRZ hb2 hbx1 HP HO HBX HCC
          go_wp2
          go_roundg g
          case measure => omega
          case rel => exact ⟨i + 1, _, by omega, by go_num, HFR⟩

end Go.Proofs.YtpbipngnoklmcaaGreatDoor
