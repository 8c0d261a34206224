/- The walk of the document's SameObjects at the same objects. -/
import Derived.Test.YtpbipngnoklmcaaDoorWldN
import Derived.Test.YtpbipngnoklmcaaDoorValE
namespace Go.Proofs.YtpbipngnoklmcaaDoor
open Go.RowKit
set_option maxRecDepth 100000
attribute [local go_sem] str_size str_toList str_get

theorem ObjsAt.get {w wr : World} {ao : Option Addr} {n cap : Nat} {os : List O3} (h : ObjsAt w (.slice ao n cap) os) (hb : Below w.heap.size w wr) {i : Nat} {t j : S8} {x : VT} (hi : os[i]? = some (t, j, x)) : ∃ b off ai ci ak ck, ao = some ⟨b, off, none⟩ ∧ b < wr.heap.size ∧
      ValAt wr x (.agg #[.int .i64 x.kind, .bool x.flag, str x.text, .slice ai x.items.length ci, .slice ak x.keys.length ck]) ∧
      wr.cell? ⟨b, off + i * 7, none⟩ = some (str t) ∧ wr.cell? ⟨b, off + i * 7 + 1, none⟩ = some (str j) ∧ wr.cell? ⟨b, off + i * 7 + 2, none⟩ = some (.int .i64 x.kind) ∧ wr.cell? ⟨b, off + i * 7 + 3, none⟩ = some (.bool x.flag) ∧
      wr.cell? ⟨b, off + i * 7 + 4, none⟩ = some (str x.text) ∧ wr.cell? ⟨b, off + i * 7 + 5, none⟩ = some (.slice ai x.items.length ci) ∧ wr.cell? ⟨b, off + i * 7 + 6, none⟩ = some (.slice ak x.keys.length ck) := by
  obtain ⟨_, _, hv, _, _, hk⟩ := h.mono hb
  cases hv
  obtain ⟨b, off, rfl, hl, hk⟩ := hk (by rintro rfl; simp at hi)
  obtain ⟨ai, ci, ak, ck, r⟩ := hk i t j x hi
  exact ⟨b, off, ai, ci, ak, ck, rfl, hl, r⟩

set_option maxHeartbeats 2000000 in
theorem sameobjs_true (os : List O3) (v v' : Value) (w : World) (h : ObjsAt w v os) (h' : ObjsAt w v' os) :
    Calls Tryd.prog 9 #[v, v'] w fun e w' => e = .returned (.bool true) ∧ Below w.heap.size w w' := by
  have mixed : Tryd.prog.follows .mixedOrders = true := by kernel_rfl
  have H := Lib.hid h
  have H' := Lib.hid h'
  obtain ⟨ao, cap, rfl, hm, _⟩ := h
  obtain ⟨ao', cap', rfl, hm', _⟩ := h'
  have hm1 : os.length ≤ 9223372036854775807 := by omega
  have hne : (os.length != os.length) = false := by simp
  rename_i q1 q2
  clear q1 q2
  go_enter Tryd.func9, Tryd.ntmps9
  go_wp2
  go_loopg [13] os.length (fun gg v13 wr => ∃ i : Nat, i + gg = os.length ∧ v13 = .int .i64 i ∧ Below w.heap.size w wr)
  case atStart => exact ⟨0, by omega, rfl, Below.refl _ _⟩
  case round =>
    obtain ⟨i, hig, rfl, hbr⟩ := hrel
    cases gk with
    | zero =>
      obtain rfl : i = os.length := by omega
      go_wp2
      go_ret
      exact ⟨rfl, hbr⟩
    | succ gg =>
      have hin : i < os.length := by omega
      have hie : (i : Int) < (os.length : Int) := by omega
      obtain ⟨t, j, x, hox⟩ : ∃ t j x, os[i] = (t, j, x) := ⟨_, _, _, rfl⟩
      have hgi : os[i]? = some (t, j, x) := by rw [List.getElem?_eq_getElem hin, hox]
      obtain ⟨b, off, ai, ci, ak, ck, rfl, hlt, hx, k0, k1, k2, k3, k4, k5, k6⟩ := H.out.get hbr hgi
      obtain ⟨b', off', ai', ci', ak', ck', rfl, hlt', hx', l0, l1, l2, l3, l4, l5, l6⟩ := H'.out.get hbr hgi
      have SM := fun W (hW : Below wr.heap.size wr W) => same_rval x x _ _ W (hx.mono hW) (hx'.mono hW)
      rw [(sameV_iff x x).2 rfl] at SM
      have e1 : (t != t) = false := by simp
      have e2 : (j != j) = false := by simp
      clear hox hgi hx hx'
      go_upto_region 6 with fail
      go_region_held3 (fun w' => w'.cell? ⟨b, off + i * 7, none⟩ = some (str t) ∧ w'.cell? ⟨b, off + i * 7 + 1, none⟩ = some (str j) ∧ w'.cell? ⟨b, off + i * 7 + 2, none⟩ = some (.int .i64 x.kind) ∧ w'.cell? ⟨b, off + i * 7 + 3, none⟩ = some (.bool x.flag) ∧ w'.cell? ⟨b, off + i * 7 + 4, none⟩ = some (str x.text) ∧ w'.cell? ⟨b, off + i * 7 + 5, none⟩ = some (.slice ai x.items.length ci) ∧ w'.cell? ⟨b, off + i * 7 + 6, none⟩ = some (.slice ak x.keys.length ck) ∧ w'.cell? ⟨b', off' + i * 7, none⟩ = some (str t) ∧ w'.cell? ⟨b', off' + i * 7 + 1, none⟩ = some (str j) ∧ w'.cell? ⟨b', off' + i * 7 + 2, none⟩ = some (.int .i64 x.kind) ∧ w'.cell? ⟨b', off' + i * 7 + 3, none⟩ = some (.bool x.flag) ∧ w'.cell? ⟨b', off' + i * 7 + 4, none⟩ = some (str x.text) ∧ w'.cell? ⟨b', off' + i * 7 + 5, none⟩ = some (.slice ai' x.items.length ci') ∧ w'.cell? ⟨b', off' + i * 7 + 6, none⟩ = some (.slice ak' x.keys.length ck'))
        (first | exact ⟨k0, k1, k2, k3, k4, k5, k6, l0, l1, l2, l3, l4, l5, l6⟩ | exact KS)
        (first
          | (go_at_call 25; refine (SM _ (Below.refl _ wr).drew).mono ?_; rintro e w2 ⟨rfl, hq2⟩; have hd2 : Below wr.heap.size wr w2 := (Below.refl _ wr).drew.trans (hq2.mono (by simp)); have KS := (⟨(hd2.cell (p := ⟨b, off + i * 7, none⟩) hlt).trans k0, (hd2.cell (p := ⟨b, off + i * 7 + 1, none⟩) hlt).trans k1, (hd2.cell (p := ⟨b, off + i * 7 + 2, none⟩) hlt).trans k2, (hd2.cell (p := ⟨b, off + i * 7 + 3, none⟩) hlt).trans k3, (hd2.cell (p := ⟨b, off + i * 7 + 4, none⟩) hlt).trans k4, (hd2.cell (p := ⟨b, off + i * 7 + 5, none⟩) hlt).trans k5, (hd2.cell (p := ⟨b, off + i * 7 + 6, none⟩) hlt).trans k6, (hd2.cell (p := ⟨b', off' + i * 7, none⟩) hlt').trans l0, (hd2.cell (p := ⟨b', off' + i * 7 + 1, none⟩) hlt').trans l1, (hd2.cell (p := ⟨b', off' + i * 7 + 2, none⟩) hlt').trans l2, (hd2.cell (p := ⟨b', off' + i * 7 + 3, none⟩) hlt').trans l3, (hd2.cell (p := ⟨b', off' + i * 7 + 4, none⟩) hlt').trans l4, (hd2.cell (p := ⟨b', off' + i * 7 + 5, none⟩) hlt').trans l5, (hd2.cell (p := ⟨b', off' + i * 7 + 6, none⟩) hlt').trans l6⟩ : (fun w' : World => w'.cell? ⟨b, off + i * 7, none⟩ = some (str t) ∧ w'.cell? ⟨b, off + i * 7 + 1, none⟩ = some (str j) ∧ w'.cell? ⟨b, off + i * 7 + 2, none⟩ = some (.int .i64 x.kind) ∧ w'.cell? ⟨b, off + i * 7 + 3, none⟩ = some (.bool x.flag) ∧ w'.cell? ⟨b, off + i * 7 + 4, none⟩ = some (str x.text) ∧ w'.cell? ⟨b, off + i * 7 + 5, none⟩ = some (.slice ai x.items.length ci) ∧ w'.cell? ⟨b, off + i * 7 + 6, none⟩ = some (.slice ak x.keys.length ck) ∧ w'.cell? ⟨b', off' + i * 7, none⟩ = some (str t) ∧ w'.cell? ⟨b', off' + i * 7 + 1, none⟩ = some (str j) ∧ w'.cell? ⟨b', off' + i * 7 + 2, none⟩ = some (.int .i64 x.kind) ∧ w'.cell? ⟨b', off' + i * 7 + 3, none⟩ = some (.bool x.flag) ∧ w'.cell? ⟨b', off' + i * 7 + 4, none⟩ = some (str x.text) ∧ w'.cell? ⟨b', off' + i * 7 + 5, none⟩ = some (.slice ai' x.items.length ci') ∧ w'.cell? ⟨b', off' + i * 7 + 6, none⟩ = some (.slice ak' x.keys.length ck')) w2)))
      have hb2 := hbr.trans (hd2.mono hbr.size)
      clear KS k0 k1 k2 k3 k4 k5 k6 l0 l1 l2 l3 l4 l5 l6 SM
      go_wp2
      go_roundg gg
      case measure => omega
      case rel => exact ⟨i + 1, by omega, by go_num, hb2⟩

end Go.Proofs.YtpbipngnoklmcaaDoor
