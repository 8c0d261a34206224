/- The law's play at every kind of operation. The document's SameTrace at the same calls. The walk of the document's SameObjects at the same objects. The law's Tells: the two worlds say the same. -/
import Derived.Test.YtpbipngnoklmcaaGreatDoorMWldPl
import Derived.Test.YtpbipngnoklmcaaGreatDoorMPlD
import Derived.Test.YtpbipngnoklmcaaGreatDoorMPlC
import Derived.Test.YtpbipngnoklmcaaGreatDoorPlR
import Derived.Test.YtpbipngnoklmcaaGreatDoorMWldRe
import Derived.Test.YtpbipngnoklmcaaGreatDoorMWldF
import Derived.Test.YtpbipngnoklmcaaGreatDoorValE
import Derived.Test.YtpbipngnoklmcaaGreatDoorWldS
import Derived.Test.YtpbipngnoklmcaaGreatDoorMWldU
import Derived.Deep.RegionHeld3
namespace Go.Proofs.YtpbipngnoklmcaaGreatDoor
open Go.RowKit
variable {p b n : Nat} {S : WS} {val : S8 → S8 → Value} {vf vt : Value} {D : DataW Value}

theorem play_any {G : List Nat} {w : World} {m : Value} {rs : List R3} (h : WAt w p b n S val vf vt D) (r : RAt (wF p b vt ++ G) w m rs S) (hG : ∀ q ∈ G, q < w.heap.size) (o : OpT) (ai : Option Addr) (ci : Nat) (ak : Option Addr) (ck : Nat)
    (hv : Kept (wF p b vt ++ G) w fun W => ValAt W o.x (.agg #[.int .i64 o.x.kind, .bool o.x.flag, str o.x.text, .slice ai o.x.items.length ci, .slice ak o.x.keys.length ck])) (ha : o.addr.length ≤ 281474976710656) (haf : o.after.length ≤ 281474976710656) (ft : fitS o.typ) (fi : fitS o.id) (hl : S.trace.length ≤ 10000) (hn : n ≤ 10000) (ho : S.objs.length ≤ 10000) (hE : ErrW w) (hT : TabW w) :
    Calls Tryz.prog 9 #[.pointer (some ⟨p, 0, none⟩), m, opV o ai ci ak ck] w (Played G p b n S vf vt w) := by
  obtain ⟨kd, addr, typ, i, after, x⟩ := o
  unfold opV
  by_cases k1 : kd = 1
  · subst k1; exact play_create h r hG addr typ i after x ai ci ak ck hv ha haf ft fi hl hn ho hE hT
  by_cases k2 : kd = 2
  · subst k2; exact play_update h r hG addr typ i after x ai ci ak ck hv ha haf ft fi hl hn ho hE hT
  by_cases k3 : kd = 3
  · subst k3; exact play_delete h r hG addr typ i after x ai ci ak ck hv ha haf ft fi hl hn ho hE hT
  by_cases k4 : kd = 4
  · subst k4; exact play_set h r hG addr typ i after x ai ci ak ck hv ha haf ft fi hl hn ho hE hT
  by_cases k5 : kd = 5
  · subst k5; exact play_kill h r hG addr typ i after x ai ci ak ck hv ha haf ft fi hl hn ho hE hT
  exact play_read h r hG kd k1 k2 k3 k4 k5 addr typ i after x ai ci ak ck ft fi

end Go.Proofs.YtpbipngnoklmcaaGreatDoor
namespace Go.Proofs.YtpbipngnoklmcaaGreatDoor
open Go.RowKit
set_option maxRecDepth 100000
attribute [local go_sem] str_size str_toList str_get

theorem callCells_get : ∀ (ts : List T5) (i : Nat) (t : T5) (j : Nat), ts[i]? = some t → j < 5 → (callCells ts)[i * 5 + j]? = ([.int .i64 t.1, str t.2.1, str t.2.2.1, str t.2.2.2.1, .int .i64 t.2.2.2.2] : List Value)[j]?
  | [], _, _, _, h, _ => by cases h
  | x :: ts, 0, t, j, h, hj => by
    cases h
    show ([.int .i64 x.1, str x.2.1, str x.2.2.1, str x.2.2.2.1, .int .i64 x.2.2.2.2] ++ callCells ts)[0 * 5 + j]? = _
    rw [Nat.zero_mul, Nat.zero_add, List.getElem?_append_left (by simp only [List.length_cons, List.length_nil]; omega)]
  | x :: ts, i + 1, t, j, h, hj => by
    have ih := callCells_get ts i t j h hj
    show ([.int .i64 x.1, str x.2.1, str x.2.2.1, str x.2.2.2.1, .int .i64 x.2.2.2.2] ++ callCells ts)[(i + 1) * 5 + j]? = _
    rw [List.getElem?_append_right (by simp only [List.length_cons, List.length_nil]; omega), ← ih]
    congr 1
    simp only [List.length_cons, List.length_nil]
    omega
theorem CellsAt.call {w : World} {ao : Option Addr} {m cap : Nat} {ts : List T5} (h : CellsAt w (.slice ao m cap) ts.length (callCells ts)) {i : Nat} {t : T5} (hi : ts[i]? = some t) :
    ∃ b off, ao = some ⟨b, off, none⟩ ∧ b < w.heap.size ∧ w.cell? ⟨b, off + i * 5, none⟩ = some (.int .i64 t.1) ∧ w.cell? ⟨b, off + i * 5 + 1, none⟩ = some (str t.2.1) ∧ w.cell? ⟨b, off + i * 5 + 2, none⟩ = some (str t.2.2.1) ∧ w.cell? ⟨b, off + i * 5 + 3, none⟩ = some (str t.2.2.2.1) ∧ w.cell? ⟨b, off + i * 5 + 4, none⟩ = some (.int .i64 t.2.2.2.2) := by
  obtain ⟨_, _, hv, _, hk⟩ := h
  cases hv
  have hil : i < ts.length := (List.getElem?_eq_some_iff.1 hi).1
  obtain ⟨b, off, rfl, hl, hk⟩ := hk (by omega)
  have q : ∀ j u, j < 5 → ([.int .i64 t.1, str t.2.1, str t.2.2.1, str t.2.2.2.1, .int .i64 t.2.2.2.2] : List Value)[j]? = some u → w.cell? ⟨b, off + i * 5 + j, none⟩ = some u := fun j u hj hu => by
    have := hk (i * 5 + j) u (by rw [callCells_get ts i t j hi hj]; exact hu)
    rw [Addr.add_lit] at this
    rw [Nat.add_assoc]
    exact this
  exact ⟨b, off, rfl, hl, q 0 _ (by omega) rfl, q 1 _ (by omega) rfl, q 2 _ (by omega) rfl, q 3 _ (by omega) rfl, q 4 _ (by omega) rfl⟩

set_option maxHeartbeats 2000000 in
theorem sametrace_true (ts : List T5) (a a' : Option Addr) (c c' : Nat) (w : World) (h : CellsAt w (.slice a ts.length c) ts.length (callCells ts)) (h' : CellsAt w (.slice a' ts.length c') ts.length (callCells ts)) :
    Calls Tryz.prog 40 #[.slice a ts.length c, .slice a' ts.length c'] w fun e w' => e = .returned (.bool true) ∧ Below w.heap.size w w' := by
  have mixed : Tryz.prog.follows .mixedOrders = true := by kernel_rfl
  have H := Lib.hid h
  have H' := Lib.hid h'
  obtain ⟨_, _, e1, hm, _⟩ := h
  cases e1
  obtain ⟨_, _, e2, hm', _⟩ := h'
  cases e2
  have hm1 : ts.length ≤ 9223372036854775807 := by omega
  have hne : (ts.length != ts.length) = false := by simp
  clear hm hm'
  go_enter Tryz.func40, Tryz.ntmps40
  go_wp2
  go_loopg [13] ts.length (fun gg v13 wr => ∃ i : Nat, i + gg = ts.length ∧ v13 = .int .i64 i ∧ Below w.heap.size w wr)
  case atStart => exact ⟨0, by omega, rfl, Below.refl _ _⟩
  case round =>
    obtain ⟨i, hig, rfl, hbr⟩ := hrel
    cases gk with
    | zero =>
      obtain rfl : i = ts.length := by omega
      go_wp2
      go_ret
      exact ⟨rfl, hbr⟩
    | succ gg =>
      have hin : i < ts.length := by omega
      have hie : (i : Int) < (ts.length : Int) := by omega
      have hil : i < 9223372036854775807 := by omega
      obtain ⟨⟨o, a1, a2, a3, e⟩, ht⟩ : ∃ t, ts[i]? = some t := ⟨_, List.getElem?_eq_getElem hin⟩
      obtain ⟨b, off, rfl, hlt, k0, k1, k2, k3, k4⟩ := (H.out.mono hbr).call ht
      obtain ⟨b', off', rfl, hlt', l0, l1, l2, l3, l4⟩ := (H'.out.mono hbr).call ht
      have q0 : (o == o) = true := by simp
      have q1 : (a1 == a1) = true := by simp
      have q2 : (a2 == a2) = true := by simp
      have q3 : (a3 == a3) = true := by simp
      have q4 : (e == e) = true := by simp
      clear ht
      go_upto_region 6 with fail
      go_quiet (fail)
      have hb2 := below_drawn hbr nq
      clear k0 k1 k2 k3 k4 l0 l1 l2 l3 l4
      go_wp2
      go_roundg gg
      case measure => omega
      case rel => exact ⟨i + 1, by omega, by go_num, hb2⟩

end Go.Proofs.YtpbipngnoklmcaaGreatDoor
namespace Go.Proofs.YtpbipngnoklmcaaGreatDoor
open Go.RowKit
set_option maxRecDepth 100000
attribute [local go_sem] str_size str_toList str_get

theorem ObjsAt.get {w wr : World} {ao : Option Addr} {n cap : Nat} {os : List O3} (h : ObjsAt w (.slice ao n cap) os) (hb : Below w.heap.size w wr) {i : Nat} {t j : S8} {x : VT} (hi : os[i]? = some (t, j, x)) : ∃ b off ai ci ak ck, ao = some ⟨b, off, none⟩ ∧ b < wr.heap.size ∧
      ValAt wr x (.agg #[.int .i64 x.kind, .bool x.flag, str x.text, .slice ai x.items.length ci, .slice ak x.keys.length ck]) ∧
      wr.cell? ⟨b, off + i * 7, none⟩ = some (str t) ∧ wr.cell? ⟨b, off + i * 7 + 1, none⟩ = some (str j) ∧ wr.cell? ⟨b, off + i * 7 + 2, none⟩ = some (.int .i64 x.kind) ∧ wr.cell? ⟨b, off + i * 7 + 3, none⟩ = some (.bool x.flag) ∧
      wr.cell? ⟨b, off + i * 7 + 4, none⟩ = some (str x.text) ∧ wr.cell? ⟨b, off + i * 7 + 5, none⟩ = some (.slice ai x.items.length ci) ∧ wr.cell? ⟨b, off + i * 7 + 6, none⟩ = some (.slice ak x.keys.length ck) := by
  obtain ⟨_, _, hv, _, _, hk⟩ := h.mono hb
  cases hv
  obtain ⟨b, off, rfl, hl, hk⟩ := hk (by rintro rfl; simp at hi)
  obtain ⟨ai, ci, ak, ck, r⟩ := hk i t j x hi
  exact ⟨b, off, ai, ci, ak, ck, rfl, hl, r⟩

set_option maxHeartbeats 2000000 in
theorem sameobjs_true (os : List O3) (v v' : Value) (w : World) (h : ObjsAt w v os) (h' : ObjsAt w v' os) :
    Calls Tryz.prog 20 #[v, v'] w fun e w' => e = .returned (.bool true) ∧ Below w.heap.size w w' := by
  have mixed : Tryz.prog.follows .mixedOrders = true := by kernel_rfl
  have H := Lib.hid h
  have H' := Lib.hid h'
  obtain ⟨ao, cap, rfl, hm, _⟩ := h
  obtain ⟨ao', cap', rfl, hm', _⟩ := h'
  have hm1 : os.length ≤ 9223372036854775807 := by omega
  have hne : (os.length != os.length) = false := by simp
  rename_i q1 q2
  clear q1 q2
  go_enter Tryz.func20, Tryz.ntmps20
  go_wp2
  go_loopg [13] os.length (fun gg v13 wr => ∃ i : Nat, i + gg = os.length ∧ v13 = .int .i64 i ∧ Below w.heap.size w wr)
  case atStart => exact ⟨0, by omega, rfl, Below.refl _ _⟩
  case round =>
    obtain ⟨i, hig, rfl, hbr⟩ := hrel
    cases gk with
    | zero =>
      obtain rfl : i = os.length := by omega
      go_wp2
      go_ret
      exact ⟨rfl, hbr⟩
    | succ gg =>
      have hin : i < os.length := by omega
      have hie : (i : Int) < (os.length : Int) := by omega
      obtain ⟨t, j, x, hox⟩ : ∃ t j x, os[i] = (t, j, x) := ⟨_, _, _, rfl⟩
      have hgi : os[i]? = some (t, j, x) := by rw [List.getElem?_eq_getElem hin, hox]
      obtain ⟨b, off, ai, ci, ak, ck, rfl, hlt, hx, k0, k1, k2, k3, k4, k5, k6⟩ := H.out.get hbr hgi
      obtain ⟨b', off', ai', ci', ak', ck', rfl, hlt', hx', l0, l1, l2, l3, l4, l5, l6⟩ := H'.out.get hbr hgi
      have SM := fun W (hW : Below wr.heap.size wr W) => same_rval x x _ _ W (hx.mono hW) (hx'.mono hW)
      rw [(sameV_iff x x).2 rfl] at SM
      have e1 : (t != t) = false := by simp
      have e2 : (j != j) = false := by simp
      clear hox hgi hx hx'
      go_upto_region 6 with fail
      go_region_held3 (fun w' => w'.cell? ⟨b, off + i * 7, none⟩ = some (str t) ∧ w'.cell? ⟨b, off + i * 7 + 1, none⟩ = some (str j) ∧ w'.cell? ⟨b, off + i * 7 + 2, none⟩ = some (.int .i64 x.kind) ∧ w'.cell? ⟨b, off + i * 7 + 3, none⟩ = some (.bool x.flag) ∧ w'.cell? ⟨b, off + i * 7 + 4, none⟩ = some (str x.text) ∧ w'.cell? ⟨b, off + i * 7 + 5, none⟩ = some (.slice ai x.items.length ci) ∧ w'.cell? ⟨b, off + i * 7 + 6, none⟩ = some (.slice ak x.keys.length ck) ∧ w'.cell? ⟨b', off' + i * 7, none⟩ = some (str t) ∧ w'.cell? ⟨b', off' + i * 7 + 1, none⟩ = some (str j) ∧ w'.cell? ⟨b', off' + i * 7 + 2, none⟩ = some (.int .i64 x.kind) ∧ w'.cell? ⟨b', off' + i * 7 + 3, none⟩ = some (.bool x.flag) ∧ w'.cell? ⟨b', off' + i * 7 + 4, none⟩ = some (str x.text) ∧ w'.cell? ⟨b', off' + i * 7 + 5, none⟩ = some (.slice ai' x.items.length ci') ∧ w'.cell? ⟨b', off' + i * 7 + 6, none⟩ = some (.slice ak' x.keys.length ck'))
        (first | exact ⟨k0, k1, k2, k3, k4, k5, k6, l0, l1, l2, l3, l4, l5, l6⟩ | exact KS)
        (first
          | (go_at_call 23; refine (SM _ (Below.refl _ wr).drew).mono ?_; rintro e w2 ⟨rfl, hq2⟩; have hd2 : Below wr.heap.size wr w2 := (Below.refl _ wr).drew.trans (hq2.mono (by simp)); have KS := (⟨(hd2.cell (p := ⟨b, off + i * 7, none⟩) hlt).trans k0, (hd2.cell (p := ⟨b, off + i * 7 + 1, none⟩) hlt).trans k1, (hd2.cell (p := ⟨b, off + i * 7 + 2, none⟩) hlt).trans k2, (hd2.cell (p := ⟨b, off + i * 7 + 3, none⟩) hlt).trans k3, (hd2.cell (p := ⟨b, off + i * 7 + 4, none⟩) hlt).trans k4, (hd2.cell (p := ⟨b, off + i * 7 + 5, none⟩) hlt).trans k5, (hd2.cell (p := ⟨b, off + i * 7 + 6, none⟩) hlt).trans k6, (hd2.cell (p := ⟨b', off' + i * 7, none⟩) hlt').trans l0, (hd2.cell (p := ⟨b', off' + i * 7 + 1, none⟩) hlt').trans l1, (hd2.cell (p := ⟨b', off' + i * 7 + 2, none⟩) hlt').trans l2, (hd2.cell (p := ⟨b', off' + i * 7 + 3, none⟩) hlt').trans l3, (hd2.cell (p := ⟨b', off' + i * 7 + 4, none⟩) hlt').trans l4, (hd2.cell (p := ⟨b', off' + i * 7 + 5, none⟩) hlt').trans l5, (hd2.cell (p := ⟨b', off' + i * 7 + 6, none⟩) hlt').trans l6⟩ : (fun w' : World => w'.cell? ⟨b, off + i * 7, none⟩ = some (str t) ∧ w'.cell? ⟨b, off + i * 7 + 1, none⟩ = some (str j) ∧ w'.cell? ⟨b, off + i * 7 + 2, none⟩ = some (.int .i64 x.kind) ∧ w'.cell? ⟨b, off + i * 7 + 3, none⟩ = some (.bool x.flag) ∧ w'.cell? ⟨b, off + i * 7 + 4, none⟩ = some (str x.text) ∧ w'.cell? ⟨b, off + i * 7 + 5, none⟩ = some (.slice ai x.items.length ci) ∧ w'.cell? ⟨b, off + i * 7 + 6, none⟩ = some (.slice ak x.keys.length ck) ∧ w'.cell? ⟨b', off' + i * 7, none⟩ = some (str t) ∧ w'.cell? ⟨b', off' + i * 7 + 1, none⟩ = some (str j) ∧ w'.cell? ⟨b', off' + i * 7 + 2, none⟩ = some (.int .i64 x.kind) ∧ w'.cell? ⟨b', off' + i * 7 + 3, none⟩ = some (.bool x.flag) ∧ w'.cell? ⟨b', off' + i * 7 + 4, none⟩ = some (str x.text) ∧ w'.cell? ⟨b', off' + i * 7 + 5, none⟩ = some (.slice ai' x.items.length ci') ∧ w'.cell? ⟨b', off' + i * 7 + 6, none⟩ = some (.slice ak' x.keys.length ck')) w2)))
      have hb2 := hbr.trans (hd2.mono hbr.size)
      clear KS k0 k1 k2 k3 k4 k5 k6 l0 l1 l2 l3 l4 l5 l6 SM
      go_wp2
      go_roundg gg
      case measure => omega
      case rel => exact ⟨i + 1, by omega, by go_num, hb2⟩

end Go.Proofs.YtpbipngnoklmcaaGreatDoor
namespace Go.Proofs.YtpbipngnoklmcaaGreatDoor
open Go.RowKit
set_option maxRecDepth 100000
attribute [local go_sem] str_size str_toList str_get undef

variable {w : World} {p b n : Nat} {S : WS} {val : S8 → S8 → Value} {vf vt : Value} {D : DataW Value}

set_option maxHeartbeats 8000000 in
theorem tells {F : List Nat} {m : Value} {rs : List R3} (h : WAt w p b n S val vf vt D) (r : RAt F w m rs S) (hl : S.objs.length ≤ 100000) (ht : S.trace.length ≤ 1000000) :
    Calls Tryz.prog 10 #[.pointer (some ⟨p, 0, none⟩), m] w fun e w' => e = .returned (.bool true) ∧ Below w.heap.size w w' := by
  have mixed : Tryz.prog.follows .mixedOrders = true := by kernel_rfl
  obtain ⟨ao, co, af, cf, at', ct, rfl, _⟩ := r.form
  obtain ⟨wA, hwA⟩ : ∃ wA, wA = w.alloc (.cells #[.slice ao rs.length co, .slice af S.fails.length cf, .slice at' S.trace.length ct] 32) := ⟨_, rfl⟩
  have nA := heap_alloc_new w (.cells #[.slice ao rs.length co, .slice af S.fails.length cf, .slice at' S.trace.length ct] 32)
  rw [← hwA] at nA
  have hbA : Below w.heap.size w wA := by rw [hwA]; exact (Below.refl _ w).alloc (Nat.le_refl _) _
  have hlt := heap_lt nA
  have HN := Lib.hid nA
  have HBA := Lib.hid hbA
  have HH := Lib.hid h
  have HR := Lib.hid r
  have HOB := Lib.hid (fun (W : World) (hW : Below wA.heap.size wA W) => objects_w ((HH.out.below HBA.out).below hW) hl)
  have HTR := Lib.hid (fun (W : World) (hW : Below wA.heap.size wA W) => trace_w ((HH.out.below HBA.out).below hW) ht)
  have HRO := Lib.hid (fun (W : World) (hW : Below wA.heap.size wA W) => ((HR.out.below HBA.out).below hW).objs)
  have HRT := Lib.hid (fun (W : World) (hW : Below wA.heap.size wA W) => show CellsAt W (.slice at' S.trace.length ct) S.trace.length (callCells S.trace) from by
    obtain ⟨_, _, _, _, _, _, e, _, _, k⟩ := ((HR.out.below HBA.out).below hW).form
    cases e
    exact k.now)
  have hd : Below wA.heap.size wA wA.drew := (Below.refl _ wA).drew
  obtain ⟨x0, x1, x2⟩ := box3 nA
  clear nA h r hbA hl ht
  go_enter Tryz.func10, Tryz.ntmps10
  go_upto_region 1 with fail
  rw [← hwA]
  clear hwA
  go_region_held3 (fun W => W.cell? ⟨w.heap.size, 0, none⟩ = some (.slice ao rs.length co) ∧ W.cell? ⟨w.heap.size, 1, none⟩ = some (.slice af S.fails.length cf) ∧ W.cell? ⟨w.heap.size, 2, none⟩ = some (.slice at' S.trace.length ct))
    (first | with_reducible exact ⟨x0, x1, x2⟩ | (obtain ⟨q0, q1, q2⟩ := box3 ((hd.block _ hlt).trans HN.out); with_reducible exact ⟨q0, q1, q2⟩))
    (first
      | (go_at_call 15; refine (HOB.out _ hd).mono ?_; rintro e q1 ⟨rs1, v1, F1, rfl, ho1, hL1⟩; have hO1 := Lib.hid (hL1.objs (by rw [ho1]; exact HR.out.fit)); rw [ho1] at hO1; have hd := hd.trans (hL1.2.2.2.2.mono hd.size); clear hL1)
      | (go_at_call 20; refine (sameobjs_true S.objs _ _ _ hO1.out (HRO.out _ hd)).mono ?_; rintro e q2 ⟨rfl, hq⟩; have hd := hd.trans (hq.mono hd.size); clear hq)
      | (go_at_call 16; refine (HTR.out _ hd).mono ?_; rintro e q3 ⟨v3, rfl, hown, hb3⟩; obtain ⟨a3, c3, rfl⟩ := slice_form hown; have hT3 := Lib.hid (CellsAt.row hown); have hd := hd.trans (hb3.mono hd.size); clear hown hb3)
      | (go_at_call 40; refine (sametrace_true S.trace _ _ _ _ _ hT3.out (HRT.out _ hd)).mono ?_; rintro e q4 ⟨rfl, hq⟩; have hd := hd.trans (hq.mono hd.size); clear hq))
  all_goals go_wp2
  all_goals go_ret
  all_goals exact ⟨rfl, HBA.out.trans (hd.mono HBA.out.size)⟩

end Go.Proofs.YtpbipngnoklmcaaGreatDoor
