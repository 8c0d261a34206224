/- The walk of slices.Compact at edges of which no two neighbours are alike. The library's sort at the planner's edges. -/
import Derived.Test.YtnjbdedmalpccaaDoorPnK
namespace Go.Proofs.YtnjbdedmalpccaaDoor
open Go.RowKit
set_option maxRecDepth 100000
attribute [local go_sem] str_size str_toList str_get

set_option maxHeartbeats 4000000 in
theorem compact_same (ts : List (Int × Int)) (v : Value) (w : World) (h : PairsAt w v ts) (hd : ∀ i (h : i + 1 < ts.length), ts[i + 1] ≠ ts[i]) :
    Calls Tryd.prog 19 #[v] w fun e w' => e = .returned v ∧ Below w.heap.size w w' := by
  have mixed : Tryd.prog.follows .mixedOrders = true := by kernel_rfl
  obtain ⟨ao, cap, rfl, hl, hm, hc⟩ := h
  have HD := Lib.hid hd
  have l1 : ts.length ≤ 9223372036854775807 := by omega
  clear hd
  by_cases h2 : ts.length < 2
  · have h2i : (ts.length : Int) < 2 := by omega
    clear hc
    go_enter Tryd.func19, Tryd.ntmps19
    go_wp2
    go_ret
    exact ⟨rfl, Below.refl _ _⟩
  · have h2i : ¬ (ts.length : Int) < 2 := by omega
    obtain ⟨b, off, rfl, hlt, hcell⟩ := hc (by rintro rfl; simp at h2)
    have HC := Lib.hid hcell
    clear hc hcell
    go_enter Tryd.func19, Tryd.ntmps19
    go_wp2
    go_loopg [3] (ts.length - 1) (fun gg v3 wr => ∃ k : Nat, v3 = .int .i64 k ∧ 1 ≤ k ∧ k + gg = ts.length ∧ Below w.heap.size w wr)
    case atStart => exact ⟨1, rfl, by omega, by omega, Below.refl _ _⟩
    case round =>
      obtain ⟨k, rfl, hk1, hkg, hb⟩ := hrel
      cases gk with
      | zero =>
        obtain rfl : k = ts.length := by omega
        go_wp2
        go_ret
        exact ⟨rfl, hb⟩
      | succ gg =>
        obtain ⟨i, rfl⟩ : ∃ i, k = i + 1 := ⟨k - 1, by omega⟩
        have hil : i + 1 < ts.length := by omega
        have c1 := (hb.cell (p := ⟨b, off + (i + 1) * 2, none⟩) hlt).trans (HC.out (i + 1) hil).1
        have c2 := (hb.cell (p := ⟨b, off + (i + 1) * 2 + 1, none⟩) hlt).trans (HC.out (i + 1) hil).2
        have c3 := (hb.cell (p := ⟨b, off + i * 2, none⟩) hlt).trans (HC.out i (by omega)).1
        have c4 := (hb.cell (p := ⟨b, off + i * 2 + 1, none⟩) hlt).trans (HC.out i (by omega)).2
        have hne := HD.out i hil
        rw [getD_at ts _ hil] at c1 c2
        rw [getD_at ts _ (by omega)] at c3 c4
        obtain ⟨⟨x, y⟩, hx⟩ : ∃ p, ts[i + 1] = p := ⟨_, rfl⟩
        obtain ⟨⟨x', y'⟩, hx'⟩ : ∃ p, ts[i]'(by omega) = p := ⟨_, rfl⟩
        rw [hx] at c1 c2 hne
        rw [hx'] at c3 c4 hne
        have hf : (x == x' && y == y') = false := by
          rw [Bool.and_eq_false_iff]
          by_cases e : x = x'
          · refine .inr (by simpa using fun e2 => hne (by rw [e, e2]))
          · exact .inl (by simpa using e)
        have e1 : ((i : Int) + 1) - 1 = (i : Int) := by omega
        have hie : ((i : Int) + 1) < (ts.length : Int) := by omega
        clear hne hx hx'
        go_wp2
        go_quiet (fail)
        go_wp2
        go_roundg gg
        case measure => omega
        case rel => exact ⟨i + 2, by go_num, by omega, by omega, below_drawn hb _⟩

end Go.Proofs.YtnjbdedmalpccaaDoor
namespace Go.Proofs.YtnjbdedmalpccaaDoor
open Go.RowKit Go.Sort
set_option maxRecDepth 100000

theorem sort_edges {B N : Nat} {w : World} {p : Nat} {S : PS} {a r m v : Nat} {vs ve : Value} (h : PnIn B N w p S a r m v vs ve) (hl : S.edges.length ≤ 100000) :
    Calls Tryd.prog 16 #[ve, .func (.func 17) #[] #[]] w fun e w' => e = .returned (.tuple #[]) ∧ ∃ ts, ts.Perm S.edges ∧ PnIn B N w' p { S with edges := ts } a r m v vs ve ∧ Go.RowKit.Below B w w' ∧ Aside2 w w' := by
  have h0 := h
  obtain ⟨h1, h2, h3, h4, h5, h6, h7, h8, h9⟩ := h
  have h90 := h9
  rcases h9.2 with ⟨hv, hn0⟩ | ⟨g, cap, cur, rfl, hge, hh, hcl, _⟩
  · subst hv
    have he : S.edges = [] := List.eq_nil_of_length_eq_zero hn0
    refine (Tryd.slices_SortFunc_none (α := Int × Int) none 0 _ w).mono ?_
    rintro e w' ⟨rfl, hw⟩
    rw [hw]
    refine ⟨rfl, S.edges, List.Perm.refl _, h0, Go.RowKit.Below.refl _ _, Aside2.refl _⟩
  · have hgl := heap_lt hh
    have eg : ∀ args w, (callFunc 17 args).run Tryd.prog w = .ok (.enter 17 args) w := enters_of Tryd.func17 (by kernel_rfl) rfl
    have hcmp : CmpLays Tryd.prog 17 #[] pairC 2 cmp2 g 0 S.edges.toArray.size w := fun m os dk hs x y => cmp_pairs x y _
    have hcon := Tryd.slices_SortFunc (α := Int × Int) 2 (fun w => by kernel_rfl) (fun w => by kernel_rfl) pairC (fun _ => rfl) (fun x u hu => by simp [pairC] at hu; rcases hu with rfl | rfl <;> rfl) cmp2 swoE 17 #[] g 0 cap S.edges.toArray w eg hcmp (holds_row h9) hgl (by simp; omega)
    have hsz : S.edges.toArray.size = S.edges.length := by simp
    rw [hsz] at hcon
    refine hcon.mono ?_
    rintro e w' ⟨rfl, d', q, os, hp, _, hw⟩
    have hp2 := perm_in (by rw [hsz]; exact hp)
    have hp3 : d'.toList.Perm S.edges := by simpa using hp2
    have ho : OnlyM g w w' := by rw [hw]; exact sorted_spares _
    have hgm : ∀ {b n : Nat} {f : S8 → Option Value}, MapF w b n f → MapF w' b n f := fun {b n f} hm => by
      obtain ⟨es, clock, hb⟩ := hm.block
      exact hm.keep (ho.block b (heap_lt hb) fun e => by rw [e, hh] at hb; cases hb)
    refine ⟨rfl, d'.toList, hp3, ⟨(ho.block p (heap_lt h1) fun e => ?_).trans h1, h2, h3, hgm h4, hgm h5, hgm h6, hgm h7, row_keep h8 fun k hk => ?_, ?_⟩, ho.below hge (Nat.le_trans hge (Nat.le_of_lt hgl)), fun k cs T fz hk _ _ t3 => ho.block k (heap_lt hk) fun e => ?_⟩
    · rw [e, hh] at h1
      injection h1 with h1
      injection h1 with _ e2 _
      exact pairNe e2
    · obtain ⟨_, hk2⟩ := row_block h8 hk
      refine ho.block k (heap_lt hk2) fun e => ?_
      rw [e, hh] at hk2
      injection hk2 with hk2
      injection hk2 with _ e2 _
      exact stepNeP e2.symm
    · have := row_sorted (m := q) (os := os) h90 (ts := d'.toList) hp3.length_eq
      rw [show d'.toList.toArray = d' by simp, ← hw] at this
      show w'.ownsRow B _ 2 _ d'.toList.length (pairCells d'.toList)
      rw [hp3.length_eq]
      exact this
    · rw [e, hh] at hk
      injection hk with hk
      injection hk with _ e2 _
      exact t3 e2.symm

end Go.Proofs.YtnjbdedmalpccaaDoor
