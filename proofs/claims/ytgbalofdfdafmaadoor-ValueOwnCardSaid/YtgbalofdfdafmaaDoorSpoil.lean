/- The walk of the law's spoil: all within a value of one's own is written over; nothing else changes. -/
import Derived.Test.YtgbalofdfdafmaaDoorPut
namespace Go.Proofs.YtgbalofdfdafmaaDoor
open Go.RowKit
set_option maxRecDepth 100000
attribute [local go_sem] str_size str_toList str_get

/-- Behind i keys. -/
def SpK (w : World) (F Fr : List Nat) (box : Array Value) (ak : Option Addr) (m : Nat) (wr : World) : Prop :=
  Spares F w wr ∧ w.heap.size + 1 ≤ wr.heap.size ∧ wr.heap[w.heap.size]? = some (.cells box 26 (0, 0)) ∧ (m ≠ 0 → ∃ g cur, ak = some ⟨g, 0, none⟩ ∧ g ∈ F ∧ g ∉ Fr ∧ wr.heap[g]? = some (.cells cur 9 (0, 0)) ∧ m ≤ cur.size) ∧ (∀ b ∈ Fr, wr.heap[b]? = w.heap[b]?)
/-- Behind i items. -/
def SpI (w : World) (F : List Nat) (box : Array Value) (ao : Option Addr) (ts : List VT) (xs : List Value) (n i : Nat) (wr : World) : Prop :=
  Spares F w wr ∧ w.heap.size + 1 ≤ wr.heap.size ∧ wr.heap[w.heap.size]? = some (.cells box 26 (0, 0)) ∧
    ∃ H, OwnVals wr (ts.drop i) (xs.drop i) H ∧ H.Nodup ∧ (∀ b ∈ H, b ∈ F ∧ b < w.heap.size) ∧ (n ≠ 0 → ∃ g cur, ao = some ⟨g, 0, none⟩ ∧ g ∈ F ∧ g < w.heap.size ∧ g ∉ H ∧ wr.heap[g]? = some (.cells cur 26 (0, 0)) ∧ n * 5 ≤ cur.size ∧ ∀ j, i * 5 ≤ j → j < n * 5 → cur[j]? = (cellsV xs)[j]?)

theorem cur_take {cur : Array Value} {n : Nat} {xs : List Value} (h : cur.toList.take n = xs) {j : Nat} (hj : j < n) : cur[j]? = xs[j]? := by
  rw [← h, List.getElem?_take, if_pos hj, Array.getElem?_toList]

set_option maxHeartbeats 8000000 in
theorem spoil_own (t : VT) : ∀ (v : Value) (F : List Nat) (w : World), OwnVal w t v F → F.Nodup → Calls Tryd.prog 24 #[v] w fun e w' => e = .returned (.tuple #[]) ∧ Spares F w w' := by
  induction t using VT.ind with
  | h k b tx its ks ih =>
    intro v F w h hn
    have hlt := h.lt
    rw [OwnVal] at h
    obtain ⟨vi, vk, xs, Fk, Fi, Fs, rfl, hk, hO1, hO2, hxl, rfl, hOs⟩ := h
    obtain ⟨ak, ck, rfl, hmk, hck, _⟩ := hO1.form
    obtain ⟨ao, cap, rfl, hmi, hci, _⟩ := hO2.form
    have h5 := hOs.cells
    rw [List.nodup_append, List.nodup_append] at hn
    obtain ⟨hn1, ⟨hn2, hn3, hn4⟩, hn5⟩ := hn
    obtain ⟨wB, hwB⟩ : ∃ wB, wB = w.alloc (.cells #[.int .i64 k, .bool b, str tx, .slice ao its.length cap, .slice ak ks.length ck] 26) := ⟨_, rfl⟩
    obtain ⟨b0, b1, b2, b3, b4, hsB, hbB⟩ := box5 hwB
    have hxB : wB.heap[w.heap.size]? = some (.cells #[.int .i64 k, .bool b, str tx, .slice ao its.length cap, .slice ak ks.length ck] 26 (0, 0)) := by rw [hwB]; exact heap_alloc_new _ _
    have hK0 : SpK w (Fk ++ (Fi ++ Fs)) (Fi ++ Fs) #[.int .i64 k, .bool b, str tx, .slice ao its.length cap, .slice ak ks.length ck] ak ks.length wB := by
      refine ⟨Spares.of_below hbB, by omega, hxB, fun hne => ?_, fun q hq => hbB.block q (hlt q (by simp only [List.mem_append] at hq ⊢; exact .inr hq))⟩
      rcases hO1.1.2 with ⟨_, h0⟩ | ⟨g, c, cur, hv, _, hg, g1, g2, g3, g4⟩
      · exact absurd h0 hne
      · injection hv with hv1 hv2 hv3
        have hgF : g ∈ Fk := by rw [hO1.2, hv1]; simp [Value.ownBlock]
        exact ⟨g, cur, hv1, by simp [hgF], fun hm => hn5 g hgF g hm rfl, (hbB.block g (hlt g (by simp [hgF]))).trans hg, by omega⟩
    have HK0 := Lib.hid hK0
    have HO2 := Lib.hid hO2
    have HOs := Lib.hid hOs
    have HLT := Lib.hid hlt
    have HN2 := Lib.hid hn2
    have HN3 := Lib.hid hn3
    have HN4 := Lib.hid hn4
    have H5 := Lib.hid h5
    have HIH := Lib.hid ih
    have HXL := Lib.hid hxl
    clear hK0 hO1 hO2 hOs hlt hn1 hn2 hn3 hn4 hn5 h5 ih hxl hxB b0 b1 b2 b3 b4
    go_enter Tryd.func24, Tryd.ntmps24
    go_upto_region 1 with fail
    rw [← hwB]
    clear hwB
    obtain ⟨_, _, hx0, _, _⟩ := HK0.out
    obtain ⟨_, _, _, b3, b4, _, _⟩ := cell_box5 hx0
    clear hx0
    go_wp2
    go_loopg [7] ks.length (fun g v7 wr => ∃ i : Nat, i + g = ks.length ∧ v7 = .int .i64 i ∧ Hid (SpK w (Fk ++ (Fi ++ Fs)) (Fi ++ Fs) #[.int .i64 k, .bool b, str tx, .slice ao its.length cap, .slice ak ks.length ck] ak ks.length wr))
    case atStart => exact ⟨0, by omega, rfl, HK0⟩
    case round =>
      clear b3 b4 HK0
      obtain ⟨i, hig, rfl, HK⟩ := hrel
      obtain ⟨s1, s2, s3, s4, s5⟩ := HK.out
      obtain ⟨_, _, _, b3, b4, _, _⟩ := cell_box5 s3
      cases gk with
      | zero =>
        obtain rfl : i = ks.length := by omega
        have hI0 : SpI w (Fk ++ (Fi ++ Fs)) #[.int .i64 k, .bool b, str tx, .slice ao its.length cap, .slice ak ks.length ck] ao its xs its.length 0 wr := by
          refine ⟨s1, s2, s3, Fs, by simpa using HOs.out.keep fun q hq => s5 q (by simp [hq]), HN3.out, fun q hq => ⟨by simp [hq], HLT.out q (by simp [hq])⟩, fun hne => ?_⟩
          rcases HO2.out.1.2 with ⟨_, h0⟩ | ⟨g, c, cur, hv, _, hg, g1, g2, g3, g4⟩
          · exact absurd h0 hne
          · injection hv with hv1 hv2 hv3
            have hgF : g ∈ Fi := by rw [HO2.out.2, hv1]; simp [Value.ownBlock]
            exact ⟨g, cur, hv1, by simp [hgF], HLT.out g (by simp [hgF]), fun hm => HN4.out g hgF g hm rfl, (s5 g (by simp [hgF])).trans hg, by omega, fun j _ hj => cur_take g4 hj⟩
        have HI0 := Lib.hid hI0
        clear hI0 s1 s2 s3 s4 s5 HK
        go_wp2
        go_loopg [18] its.length (fun g v18 wr => ∃ i : Nat, i + g = its.length ∧ v18 = .int .i64 i ∧ Hid (SpI w (Fk ++ (Fi ++ Fs)) #[.int .i64 k, .bool b, str tx, .slice ao its.length cap, .slice ak ks.length ck] ao its xs its.length i wr))
        case atStart => exact ⟨0, by omega, rfl, HI0⟩
        case round =>
          clear b3 b4 HI0 hig
          obtain ⟨i, hig, rfl, HI⟩ := hrel
          obtain ⟨s1, s2, s3, H, q1, q2, q3, q4⟩ := HI.out
          obtain ⟨_, _, _, b3, b4, _, _⟩ := cell_box5 s3
          cases gk with
          | zero =>
            have HS := Lib.hid s1
            clear s1 s3 q1 q2 q3 q4 HI
            go_wp2
            first | refine bodyPost_end (results_none rfl _ _ _) rfl ?_ | refine bodyPost_ret (results_none rfl _ _ _) rfl ?_
            exact ⟨rfl, HS.out⟩
          | succ g =>
            have hil : i < its.length := by omega
            have hie : (i : Int) < (its.length : Int) := by omega
            have hix : i < xs.length := by rw [HXL.out]; exact hil
            obtain ⟨gi, cur, rfl, c1, c2, c3, c4, c5, c6⟩ := q4 (by omega)
            rw [List.drop_eq_getElem_cons hil] at q1
            obtain ⟨x, ys, Fx, Fr, e1, rfl, o1, o2⟩ := q1.head
            rw [List.drop_eq_getElem_cons hix] at e1
            injection e1 with e1 e2
            obtain ⟨xi, xc, xj, xd, hxe⟩ := o1.at.form
            have hcell : ∀ j, j < 5 → wr.cell? ⟨gi, i * 5 + j, none⟩ = x.cells[j]? := fun j hj => by
              have h1 := c6 (i * 5 + j) (by omega) (by omega)
              have h2 : i * 5 + j < cur.size := by omega
              rw [cellsV_get H5.out hix hj, e1, Array.getElem?_eq_getElem h2] at h1
              rw [(row_cells c4 h2).1, h1]
            rw [hxe] at hcell
            have p0 := hcell 0 (by omega)
            have p1 := hcell 1 (by omega)
            have p2 := hcell 2 (by omega)
            have p3 := hcell 3 (by omega)
            have p4 := hcell 4 (by omega)
            rw [Nat.add_zero] at p0
            rw [List.nodup_append] at q2
            obtain ⟨d1, d2, d3⟩ := q2
            have C := HIH.out its[i] (List.getElem_mem hil) x Fx wr o1 d1
            rw [hxe] at C
            have hp0 : wr.cell? ⟨gi, i * 5, none⟩ = some (.int .i64 its[i].kind) := p0
            have hp1 : wr.cell? ⟨gi, i * 5 + 1, none⟩ = some (.bool its[i].flag) := p1
            have hp2 : wr.cell? ⟨gi, i * 5 + 2, none⟩ = some (str its[i].text) := p2
            have hp3 : wr.cell? ⟨gi, i * 5 + 3, none⟩ = some (.slice xi its[i].items.length xc) := p3
            have hp4 : wr.cell? ⟨gi, i * 5 + 4, none⟩ = some (.slice xj its[i].keys.length xd) := p4
            clear p0 p1 p2 p3 p4 hcell
            go_wp2_with fail
            refine C.mono ?_
            rintro e w2 ⟨rfl, hs⟩
            have hgx : gi ∉ Fx := fun hm => c3 (by simp [hm])
            have hss := hs.size
            have hgi2 := (hs.block gi (by omega) hgx).trans c4
            have hx2 := (hs.block w.heap.size (by omega) (fun hm => by have := (q3 w.heap.size (by simp [hm])).2; omega)).trans s3
            obtain ⟨_, _, _, b3, b4, _, _⟩ := cell_box5 hx2
            obtain ⟨r0, f0⟩ := row_cells hgi2 (o := i * 5) (by omega)
            obtain ⟨r1, f1⟩ := row_cells hgi2 (o := i * 5 + 1) (by omega)
            obtain ⟨r2, f2⟩ := row_cells hgi2 (o := i * 5 + 2) (by omega)
            obtain ⟨r3, f3⟩ := row_cells hgi2 (o := i * 5 + 3) (by omega)
            obtain ⟨r4, f4⟩ := row_cells hgi2 (o := i * 5 + 4) (by omega)
            obtain ⟨w3, cur', hw3, hg3, hc3, hsc3, hsz3, hk3, o3, t3, u3⟩ := over_row hgi2 (i * 5) (.int .i64 99) (.bool false) (.string ⟨#[]⟩) (.slice none 0 0) (.slice none 0 0) (by omega)
            have hs2 : Spares (Fk ++ (Fi ++ Fs)) w w3 := by
              have a1 := s1.trans (hs.sub (G := Fk ++ (Fi ++ Fs)) fun q hq _ => (q3 q (by simp [hq])).1)
              exact ⟨o3.trans a1.os, t3.trans a1.tape, u3.trans a1.output, by have := a1.size; omega, fun q hq hqn => (hk3 q (fun e => hqn (by rw [e]; exact c1))).trans (a1.block q hq hqn)⟩
            have hnext : SpI w (Fk ++ (Fi ++ Fs)) #[.int .i64 k, .bool b, str tx, .slice (some ⟨gi, 0, none⟩) its.length cap, .slice ak ks.length ck] (some ⟨gi, 0, none⟩) its xs its.length (i + 1) w3 := by
              refine ⟨hs2, by omega, (hk3 _ (by omega)).trans hx2, Fr, ?_, d2, fun q hq => q3 q (by simp [hq]), fun _ => ⟨gi, cur', rfl, c1, c2, fun hm => c3 (by simp [hm]), hg3, by omega, fun j hj1 hj2 => ?_⟩⟩
              · rw [e2]
                refine o2.keep fun q hq => (hk3 q (fun e => c3 (by rw [← e]; simp [hq]))).trans (hs.block q (o2.lt q hq) (fun hm => d3 q hm q hq rfl))
              · rw [← c6 j (by omega) hj2, ← Array.getElem?_toList, hc3, List.getElem?_append_right (by simp; omega)]
                simp only [List.length_append, List.length_take, List.length_cons, List.length_nil, Array.length_toList, List.getElem?_drop]
                rw [← Array.getElem?_toList]
                congr 1
                omega
            have HNX := Lib.hid hnext
            clear hnext hs2 hs s1 s3 q1 q3 o1 o2 e1 e2 hxe c4 c6 hg3 hc3 hsc3 hk3 o3 t3 u3 hgi2 hx2 d1 d2 d3 C q4 HI hp0 hp1 hp2 hp3 hp4
            go_upto_region 11 with fail
            rw [← hw3]
            clear hw3 r0 r1 r2 r3 r4 f0 f1 f2 f3 f4 b3 b4
            go_wp2
            go_roundg g
            case measure => omega
            case rel => exact ⟨i + 1, by omega, by go_num, HNX⟩
      | succ g =>
        have hil : i < ks.length := by omega
        have hie : (i : Int) < (ks.length : Int) := by omega
        obtain ⟨gi, cur, rfl, c1, c2, c3, c4⟩ := s4 (by omega)
        obtain ⟨r0, f0⟩ := row_cells c3 (o := i) (by omega)
        have hnext : SpK w (Fk ++ (Fi ++ Fs)) (Fi ++ Fs) #[.int .i64 k, .bool b, str tx, .slice ao its.length cap, .slice (some ⟨gi, 0, none⟩) ks.length ck] (some ⟨gi, 0, none⟩) ks.length (wr.setCell ⟨gi, i, none⟩ (.string ⟨#[63]⟩)) := by
          have hk : ∀ q, q ≠ gi → (wr.setCell ⟨gi, i, none⟩ (.string ⟨#[63]⟩)).heap[q]? = wr.heap[q]? := fun q hq => by simp [World.setCell, Array.getElem?_modify, Ne.symm hq]
          have hglt : gi < w.heap.size := HLT.out gi c1
          refine ⟨⟨s1.os, s1.tape, s1.output, by simpa [World.setCell] using s1.size, fun q hq hqn => (hk q (fun e => hqn (by rw [e]; exact c1))).trans (s1.block q hq hqn)⟩, by simpa [World.setCell] using s2, (hk _ (by omega)).trans s3, fun _ => ⟨gi, cur.set! i (.string ⟨#[63]⟩), rfl, c1, c2, ?_, by simpa using c4⟩, fun q hq => (hk q (fun e => c2 (by rw [← e]; exact hq))).trans (s5 q hq)⟩
          simp [World.setCell, Array.getElem?_modify, c3]
        have HNX := Lib.hid hnext
        clear hnext s1 s3 s4 s5 c3 HK
        go_wp2
        go_roundg g
        case measure => omega
        case rel => exact ⟨i + 1, by omega, by go_num, HNX⟩

end Go.Proofs.YtgbalofdfdafmaaDoor
