/- The walk of value.Equal. -/
import Derived.Test.YtgbalofdfdafmaaGreatDoorCmpW
namespace Go.Proofs.YtgbalofdfdafmaaGreatDoor
open Go.RowKit
set_option maxRecDepth 100000
attribute [local go_sem] str_size str_toList str_get

theorem equal_val (t u : VT) (v v' : Value) (w : World) (h : ValAt w t v) (h' : ValAt w u v') (hT : TabW w) : Calls Tryz.prog 9 #[v, v'] w fun e w' => e = .returned (.bool (cmpV t u == 0)) ∧ Below w.heap.size w w' := by
  obtain ⟨ai, ci, ak, ck, rfl⟩ := h.form
  obtain ⟨bi, di, bk, dk, rfl⟩ := h'.form
  obtain ⟨wP, hwP⟩ : ∃ wP, wP = w.alloc (.cells #[.int .i64 t.kind, .bool t.flag, str t.text, .slice ai t.items.length ci, .slice ak t.keys.length ck] 26) := ⟨_, rfl⟩
  obtain ⟨m0, m1, m2, m3, m4, hsP, hbP⟩ := box5 hwP
  obtain ⟨wQ, hwQ⟩ : ∃ wQ, wQ = wP.alloc (.cells #[.int .i64 u.kind, .bool u.flag, str u.text, .slice bi u.items.length di, .slice bk u.keys.length dk] 26) := ⟨_, rfl⟩
  obtain ⟨n0, n1, n2, n3, n4, hsQ, hbQ⟩ := box5 hwQ
  have k0 := box_at m0 hsP hbQ
  have k1 := box_at m1 hsP hbQ
  have k2 := box_at m2 hsP hbQ
  have k3 := box_at m3 hsP hbQ
  have k4 := box_at m4 hsP hbQ
  have hbPQ : Below w.heap.size w wQ := hbP.trans (hbQ.mono (by omega))
  rw [hsP] at n0 n1 n2 n3 n4
  have C := cmp_val t u _ _ wQ (h.mono hbPQ) (h'.mono hbPQ) (hT.mono hbPQ)
  obtain ⟨r, hr⟩ : ∃ r, cmpV t u = r := ⟨_, rfl⟩
  rw [hr] at C ⊢
  clear hr h h' hT m0 m1 m2 m3 m4
  go_enter Tryz.func9, Tryz.ntmps9
  go_upto_region 1 with fail
  rw [← hwP, ← hwQ]
  clear hwP hwQ
  go_wp2_with fail
  refine C.mono ?_
  rintro e w' ⟨rfl, hq⟩
  go_wp2
  go_ret
  exact ⟨rfl, hbPQ.trans (hq.mono hbPQ.size)⟩

end Go.Proofs.YtgbalofdfdafmaaGreatDoor
