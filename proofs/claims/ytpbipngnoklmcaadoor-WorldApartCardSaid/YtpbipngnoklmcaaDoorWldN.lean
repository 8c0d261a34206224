/- Rows of objects that come in; slices.ContainsFunc over them; what New asks of each. -/
import Derived.Test.YtpbipngnoklmcaaDoorWldF
import Derived.Test.YtpbipngnoklmcaaDoorIdxF
namespace Go.Proofs.YtpbipngnoklmcaaDoor
open Go.RowKit
set_option maxRecDepth 100000
attribute [local go_sem] str_size str_toList str_get

/-- v is a slice (perhaps nil) of these objects. -/
def ObjsAt (w : World) (v : Value) (os : List O3) : Prop :=
  ∃ (ao : Option Addr) (cap : Nat), v = .slice ao os.length cap ∧ (os.length ≤ cap ∧ cap ≤ 9223372036854775807 ∧ (ao = none → cap = 0)) ∧ (∀ o ∈ os, fitS o.1 ∧ fitS o.2.1) ∧
    (os ≠ [] → ∃ b off, ao = some ⟨b, off, none⟩ ∧ b < w.heap.size ∧ ∀ (i : Nat) (t j : S8) (x : VT), os[i]? = some (t, j, x) → ∃ ai ci ak ck,
      ValAt w x (.agg #[.int .i64 x.kind, .bool x.flag, str x.text, .slice ai x.items.length ci, .slice ak x.keys.length ck]) ∧
      w.cell? ⟨b, off + i * 7, none⟩ = some (str t) ∧ w.cell? ⟨b, off + i * 7 + 1, none⟩ = some (str j) ∧ w.cell? ⟨b, off + i * 7 + 2, none⟩ = some (.int .i64 x.kind) ∧ w.cell? ⟨b, off + i * 7 + 3, none⟩ = some (.bool x.flag) ∧
      w.cell? ⟨b, off + i * 7 + 4, none⟩ = some (str x.text) ∧ w.cell? ⟨b, off + i * 7 + 5, none⟩ = some (.slice ai x.items.length ci) ∧ w.cell? ⟨b, off + i * 7 + 6, none⟩ = some (.slice ak x.keys.length ck))
theorem ObjsAt.mono {w w' : World} {v : Value} {os : List O3} (h : ObjsAt w v os) (hb : Below w.heap.size w w') : ObjsAt w' v os := by
  obtain ⟨ao, cap, hv, hm, hf, hc⟩ := h
  refine ⟨ao, cap, hv, hm, hf, fun hne => ?_⟩
  obtain ⟨b, off, ha, hlt, hk⟩ := hc hne
  refine ⟨b, off, ha, Nat.lt_of_lt_of_le hlt hb.size, fun i t j x hi => ?_⟩
  obtain ⟨ai, ci, ak, ck, hx, h0, h1, h2, h3, h4, h5, h6⟩ := hk i t j x hi
  have k : ∀ {o : Nat} {u : Value}, w.cell? ⟨b, o, none⟩ = some u → w'.cell? ⟨b, o, none⟩ = some u := fun {o u} hu => (hb.cell (p := ⟨b, o, none⟩) hlt).trans hu
  exact ⟨ai, ci, ak, ck, hx.mono hb, k h0, k h1, k h2, k h3, k h4, k h5, k h6⟩
theorem ObjsAt.nil (w : World) : ObjsAt w (.slice none 0 0) [] := ⟨none, 0, rfl, by simp, by simp, fun h => absurd rfl h⟩

def objV (t j : S8) (x : VT) (ai : Option Addr) (ci : Nat) (ak : Option Addr) (ck : Nat) : Value := .agg #[str t, str j, .int .i64 x.kind, .bool x.flag, str x.text, .slice ai x.items.length ci, .slice ak x.keys.length ck]
set_option maxHeartbeats 1600000 in
/-- What New asks of an object. -/
theorem ask_obj (t j : S8) (x : VT) (ai : Option Addr) (ci : Nat) (ak : Option Addr) (ck : Nat) (w : World) (h : ValAt w x (.agg #[.int .i64 x.kind, .bool x.flag, str x.text, .slice ai x.items.length ci, .slice ak x.keys.length ck])) :
    Calls Tryd.prog 16 #[objV t j x ai ci ak ck] w fun e w' => e = .returned (.bool (!goodA x)) ∧ Below w.heap.size w w' := by
  have GD := fun o => good_w x _ (w.alloc o) (h.mono ((Below.refl _ w).alloc (Nat.le_refl _) o))
  generalize goodA x = g at GD ⊢
  have HG := Lib.hid GD
  clear GD h
  unfold objV
  go_enter Tryd.func16, Tryd.ntmps16
  go_wp2_with fail
  refine (HG.out _).mono ?_
  rintro e w1 ⟨rfl, hb⟩
  have hbw := ((Below.refl _ w).alloc (Nat.le_refl _) _).trans (hb.mono (by simp))
  clear hb HG
  go_wp2
  go_ret
  exact ⟨rfl, hbw⟩

set_option maxHeartbeats 2000000 in
theorem index_objs (os : List O3) (v : Value) (w : World) (h : ObjsAt w v os) :
    Calls Tryd.prog 32 #[v, .func (.func 16) #[] #[]] w fun e w' =>
      ∃ z : Int, e = .returned (.int .i64 z) ∧ decide (0 ≤ z) = !(os.all fun o => goodA o.2.2) ∧ Below w.heap.size w w' := by
  obtain ⟨ao, cap, rfl, hm, hf, hc⟩ := h
  have HC := Lib.hid hc
  have hm1 : os.length ≤ 9223372036854775807 := by omega
  clear hc hf
  go_enter Tryd.func32, Tryd.ntmps32
  go_wp2
  go_loopg [5, 8] os.length (fun gg _ s8 wr => ∃ i : Nat, i + gg = os.length ∧ s8 = .int .i64 i ∧ Hid ((os.take i).all (fun o => goodA o.2.2) = true) ∧ Below w.heap.size w wr)
  case atStart => exact ⟨0, by omega, rfl, rfl, Below.refl _ _⟩
  case round =>
    obtain ⟨i, hig, rfl, HA, hbr⟩ := hrel
    cases gk with
    | zero =>
      obtain rfl : i = os.length := by omega
      have := HA.out
      rw [List.take_length] at this
      have HF := Lib.hid this
      clear this
      go_wp2
      go_ret
      exact ⟨-1, rfl, by rw [HF.out]; rfl, hbr⟩
    | succ gg =>
      have hin : i < os.length := by omega
      have hie : (i : Int) < (os.length : Int) := by omega
      obtain ⟨b, off, rfl, hlt, hk⟩ := HC.out (by rintro rfl; simp at hin)
      obtain ⟨t, j, x, hox⟩ : ∃ t j x, os[i] = (t, j, x) := ⟨_, _, _, rfl⟩
      obtain ⟨ai, ci, ak, ck, hx, k0, k1, k2, k3, k4, k5, k6⟩ := hk i t j x (by rw [List.getElem?_eq_getElem hin, hox])
      have q : ∀ {o : Nat} {u : Value}, w.cell? ⟨b, o, none⟩ = some u → wr.cell? ⟨b, o, none⟩ = some u := fun {o u} hu => (hbr.cell (p := ⟨b, o, none⟩) hlt).trans hu
      have k0 := q k0
      have k1 := q k1
      have k2 := q k2
      have k3 := q k3
      have k4 := q k4
      have k5 := q k5
      have k6 := q k6
      have AO := ask_obj t j x ai ci ak ck wr (hx.mono hbr)
      unfold objV at AO
      have HT : Hid (goodA x = true → (os.take (i + 1)).all (fun o => goodA o.2.2) = true) := fun hg => by
        rw [List.take_succ_eq_append_getElem hin, List.all_append, HA.out, hox]
        simp [hg]
      have HF : Hid (goodA x = false → os.all (fun o => goodA o.2.2) = false) := fun hg => by
        rw [List.all_eq_false]
        exact ⟨(t, j, x), by rw [← hox]; exact List.getElem_mem hin, by simp [hg]⟩
      generalize goodA x = g at AO HT HF
      clear q hk hox hx
      go_wp2_with fail
      refine AO.mono ?_
      rintro e w1 ⟨rfl, hb1⟩
      have hb2 := hbr.trans (hb1.mono hbr.size)
      cases g with
      | true =>
        have HT' := Lib.hid (HT.out rfl)
        clear HT HF
        go_wp2
        go_roundg gg
        case measure => omega
        case rel => exact ⟨i + 1, by omega, by go_num, HT', hb2⟩
      | false =>
        have HF' := Lib.hid (HF.out rfl)
        clear HT HF
        go_wp2
        go_ret
        exact ⟨i, rfl, by rw [HF'.out]; simp, hb2⟩

set_option maxHeartbeats 1600000 in
theorem contains_objs (os : List O3) (v : Value) (w : World) (h : ObjsAt w v os) :
    Calls Tryd.prog 15 #[v, .func (.func 16) #[] #[]] w fun e w' =>
      e = .returned (.bool (!(os.all fun o => goodA o.2.2))) ∧ Below w.heap.size w w' := by
  have C := index_objs os v w h
  obtain ⟨ao, cap, rfl, _⟩ := h
  generalize (!(os.all fun o => goodA o.2.2)) = B at C ⊢
  generalize os.length = m at C ⊢
  go_enter Tryd.func15, Tryd.ntmps15
  go_wp2_with fail
  refine C.mono ?_
  rintro e w1 ⟨z, rfl, hz, hb⟩
  have HZ := Lib.hid hz
  clear hz C
  go_wp2
  go_ret
  exact ⟨by rw [← HZ.out]; rfl, hb⟩

end Go.Proofs.YtpbipngnoklmcaaDoor
