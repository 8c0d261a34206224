/- The walks of the sizes of values. -/
import Derived.Test.YtgbalofdfdafmaaDoorValM
namespace Go.Proofs.YtgbalofdfdafmaaDoor
open Go.RowKit
set_option maxRecDepth 100000
attribute [local go_sem] str_size str_toList str_get

/-- A value as it is passed: its slices written out. -/
theorem ValAt.form {w : World} {t : VT} {v : Value} (h : ValAt w t v) : ∃ ai ci ak ck, v = .agg #[.int .i64 t.kind, .bool t.flag, str t.text, .slice ai t.items.length ci, .slice ak t.keys.length ck] := by
  obtain ⟨vi, vk, vs, rfl, _, ⟨ak, ck, rfl, _⟩, ⟨ai, ci, rfl, _⟩, _⟩ := h.agg
  exact ⟨ai, ci, ak, ck, rfl⟩
/-- An element of a row, in a world that has only grown. -/
theorem RowAt.at {w w' : World} {ao : Option Addr} {n cap : Nat} {vs : Nat → Value} {l : List VT} (h : RowAt w (.slice ao n cap) l.length vs) (hv : ValsAt w l vs) (hb : Below w.heap.size w w') {i : Nat} (hi : i < l.length) :
    ∃ b off ai ci ak ck, ao = some ⟨b, off, none⟩ ∧ b < w'.heap.size ∧ ValAt w' l[i] (.agg #[.int .i64 l[i].kind, .bool l[i].flag, str l[i].text, .slice ai l[i].items.length ci, .slice ak l[i].keys.length ck]) ∧
      w'.cell? ⟨b, off + i * 5, none⟩ = some (.int .i64 l[i].kind) ∧ w'.cell? ⟨b, off + i * 5 + 1, none⟩ = some (.bool l[i].flag) ∧ w'.cell? ⟨b, off + i * 5 + 2, none⟩ = some (str l[i].text) ∧ w'.cell? ⟨b, off + i * 5 + 3, none⟩ = some (.slice ai l[i].items.length ci) ∧ w'.cell? ⟨b, off + i * 5 + 4, none⟩ = some (.slice ak l[i].keys.length ck) := by
  obtain ⟨b, off, vi, vk, ha, hlt, he, hx, h0, h1, h2, h3, h4⟩ := RowAt.get h rfl hv hi
  obtain ⟨ai, ci, ak, ck, hf⟩ := hx.form
  rw [he] at hf hx
  injection hf with hf
  injection hf with hf
  simp only [List.cons.injEq, and_true, true_and] at hf
  obtain ⟨rfl, rfl⟩ := hf
  exact ⟨b, off, ai, ci, ak, ck, ha, Nat.lt_of_lt_of_le hlt hb.size, hx.mono hb, (hb.cell (p := ⟨b, off + i * 5, none⟩) hlt).trans h0, (hb.cell (p := ⟨b, off + i * 5 + 1, none⟩) hlt).trans h1, (hb.cell (p := ⟨b, off + i * 5 + 2, none⟩) hlt).trans h2, (hb.cell (p := ⟨b, off + i * 5 + 3, none⟩) hlt).trans h3, (hb.cell (p := ⟨b, off + i * 5 + 4, none⟩) hlt).trans h4⟩

set_option maxHeartbeats 1600000 in
theorem size_val (t : VT) : ∀ (v : Value) (w : World), ValAt w t v → sizeV t ≤ 1000000 → Calls Tryd.prog 10 #[v] w fun e w' => e = .returned (.int .i64 (sizeV t)) ∧ Below w.heap.size w w' := by
  induction t using VT.ind with
  | h k b tx its ks ih =>
    intro v w h hs
    rw [ValAt] at h
    obtain ⟨vi, vk, rfl, hk, hks, vs, hr, hv⟩ := h
    have hr0 := hr
    obtain ⟨ao, cap, rfl, hm, _⟩ := hr
    rw [sizeV] at hs ⊢
    have hll := sizeL_len its
    go_enter Tryd.func10, Tryd.ntmps10
    go_wp2
    go_loopg [3, 9] its.length (fun g v3 v9 wr => ∃ i : Nat, i + g = its.length ∧ v9 = .int .i64 i ∧ v3 = .int .i64 ((1 + sizeL (its.take i) : Nat) : Int) ∧ Below w.heap.size w wr)
    case atStart => exact ⟨0, by omega, rfl, by simp [sizeL], (Below.refl _ _).alloc (Nat.le_refl _) _⟩
    case round =>
      obtain ⟨i, hig, rfl, rfl, hbl⟩ := hrel
      cases gk with
      | zero =>
        obtain rfl : i = its.length := by omega
        rw [List.take_length]
        go_wp2
        go_ret
        exact ⟨rfl, hbl⟩
      | succ g =>
        have hil : i < its.length := by omega
        have hie : (i : Int) < (its.length : Int) := by omega
        obtain ⟨b, off, ai, ci, ak, ck, rfl, hlt, hx, h0, h1, h2, h3, h4⟩ := RowAt.at hr0 hv hbl hil
        have hsx := sizeL_take_succ hil
        have hle := sizeL_take_le its (i + 1)
        have C := fun W hb => ih its[i] (List.getElem_mem hil) _ W (hx.mono hb) (by omega)
        obtain ⟨x, hxe⟩ : ∃ x, its[i] = x := ⟨_, rfl⟩
        rw [hxe] at h0 h1 h2 h3 h4 hsx C
        have HN : Hid (1 + sizeL (its.take i) + sizeV x = 1 + sizeL (its.take (i + 1))) := by rw [Hid]; omega
        have hsm : 1 + sizeL (its.take i) + sizeV x ≤ 1000000 := by omega
        obtain ⟨n1, hn1⟩ : ∃ n1, 1 + sizeL (its.take i) = n1 := ⟨_, rfl⟩
        rw [hn1] at HN hsm ⊢
        clear hx hsx hle hxe hn1
        go_wp2_with fail
        refine (C _ ((Below.refl _ wr).alloc (Nat.le_refl _) _)).mono ?_
        rintro e w' ⟨rfl, hq⟩
        have hb' := (hbl.alloc hbl.size _).trans (hq.mono (by have := hbl.size; simp; omega))
        go_wp2
        go_roundg g
        case measure => omega
        case rel => exact ⟨i + 1, by omega, by go_num, by rw [← HN.out]; go_num, hb'⟩

end Go.Proofs.YtgbalofdfdafmaaDoor
