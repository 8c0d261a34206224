/- The walk of the law's spoil: all within a value of one's own is written over; nothing else changes. Two worlds side by side: a call to one leaves the other. By the contracts alone. -/
import Derived.Test.YtpbipngnoklmcaaGreatDoorMWldAw
import Derived.Test.YtpbipngnoklmcaaGreatDoorValE
import Derived.Test.YtpbipngnoklmcaaGreatDoorMWldHs
namespace Go.Proofs.YtpbipngnoklmcaaGreatDoor
open Go.RowKit
set_option maxRecDepth 100000
attribute [local go_sem] str_size str_toList str_get

theorem row_cells {W : World} {g ty : Nat} {cur : Array Value} (hg : W.heap[g]? = some (.cells cur ty (0, 0))) {o : Nat} (hl : o < cur.size) : W.cell? ⟨g, o, none⟩ = some cur[o] ∧ W.frozen? ⟨g, o, none⟩ = false := by
  simp [World.cell?, World.frozen?, hg, hl]
theorem list_over {α : Type} (l : List α) (o : Nat) (c0 c1 c2 c3 c4 : α) (h : o + 5 ≤ l.length) : ((((l.set o c0).set (o + 1) c1).set (o + 2) c2).set (o + 3) c3).set (o + 4) c4 = l.take o ++ [c0, c1, c2, c3, c4] ++ l.drop (o + 5) := by
  have hA : (l.take o).length = o := by rw [List.length_take]; omega
  have e : l = l.take o ++ l.drop o := (List.take_append_drop o l).symm
  have hd : l.drop (o + 5) = (l.drop o).drop 5 := by rw [List.drop_drop]
  have hl : (l.drop o).length = l.length - o := by simp
  rw [hd]
  generalize l.take o = A at hA e
  generalize l.drop o = D at e hl
  match D, hl with
  | a0 :: a1 :: a2 :: a3 :: a4 :: D', _ =>
    rw [e]
    subst hA
    simp
  | [], hl => simp at hl; omega
  | [_], hl => simp at hl; omega
  | [_, _], hl => simp at hl; omega
  | [_, _, _], hl => simp at hl; omega
  | [_, _, _, _], hl => simp at hl; omega
theorem over_row {W : World} {g ty : Nat} {cur : Array Value} (hg : W.heap[g]? = some (.cells cur ty (0, 0))) (o : Nat) (c0 c1 c2 c3 c4 : Value) (hl : o + 5 ≤ cur.size) :
    ∃ W' cur', W' = ((((W.setCell ⟨g, o, none⟩ c0).setCell ⟨g, o + 1, none⟩ c1).setCell ⟨g, o + 2, none⟩ c2).setCell ⟨g, o + 3, none⟩ c3).setCell ⟨g, o + 4, none⟩ c4 ∧ W'.heap[g]? = some (.cells cur' ty (0, 0)) ∧
      cur'.toList = cur.toList.take o ++ [c0, c1, c2, c3, c4] ++ cur.toList.drop (o + 5) ∧ cur'.size = cur.size ∧ W'.heap.size = W.heap.size ∧ (∀ k, k ≠ g → W'.heap[k]? = W.heap[k]?) ∧ W'.os = W.os ∧ W'.tape = W.tape ∧ W'.output = W.output := by
  refine ⟨_, ((((cur.set! o c0).set! (o + 1) c1).set! (o + 2) c2).set! (o + 3) c3).set! (o + 4) c4, rfl, ?_, ?_, by simp, by simp [World.setCell], fun k hk => by simp [World.setCell, Array.getElem?_modify, Ne.symm hk], by simp [World.setCell], by simp [World.setCell], by simp [World.setCell]⟩
  · simp [World.setCell, Array.getElem?_modify, hg]
  · simpa using list_over cur.toList o c0 c1 c2 c3 c4 (by simpa using hl)
/-- Behind i keys. -/
def SpK (w : World) (F Fr : List Nat) (box : Array Value) (ak : Option Addr) (m : Nat) (wr : World) : Prop :=
  Spares F w wr ∧ w.heap.size + 1 ≤ wr.heap.size ∧ wr.heap[w.heap.size]? = some (.cells box 41 (0, 0)) ∧ (m ≠ 0 → ∃ g cur, ak = some ⟨g, 0, none⟩ ∧ g ∈ F ∧ g ∉ Fr ∧ wr.heap[g]? = some (.cells cur 9 (0, 0)) ∧ m ≤ cur.size) ∧ (∀ b ∈ Fr, wr.heap[b]? = w.heap[b]?)
/-- Behind i items. -/
def SpI (w : World) (F : List Nat) (box : Array Value) (ao : Option Addr) (ts : List VT) (xs : List Value) (n i : Nat) (wr : World) : Prop :=
  Spares F w wr ∧ w.heap.size + 1 ≤ wr.heap.size ∧ wr.heap[w.heap.size]? = some (.cells box 41 (0, 0)) ∧
    ∃ H, OwnVals wr (ts.drop i) (xs.drop i) H ∧ H.Nodup ∧ (∀ b ∈ H, b ∈ F ∧ b < w.heap.size) ∧ (n ≠ 0 → ∃ g cur, ao = some ⟨g, 0, none⟩ ∧ g ∈ F ∧ g < w.heap.size ∧ g ∉ H ∧ wr.heap[g]? = some (.cells cur 41 (0, 0)) ∧ n * 5 ≤ cur.size ∧ ∀ j, i * 5 ≤ j → j < n * 5 → cur[j]? = (cellsV xs)[j]?)

theorem cur_take {cur : Array Value} {n : Nat} {xs : List Value} (h : cur.toList.take n = xs) {j : Nat} (hj : j < n) : cur[j]? = xs[j]? := by
  rw [← h, List.getElem?_take, if_pos hj, Array.getElem?_toList]

set_option maxHeartbeats 8000000 in
theorem spoil_own (t : VT) : ∀ (v : Value) (F : List Nat) (w : World), OwnVal w t v F → F.Nodup → Calls Tryz.prog 13 #[v] w fun e w' => e = .returned (.tuple #[]) ∧ Spares F w w' := by
  induction t using VT.ind with
  | h k b tx its ks ih =>
    intro v F w h hn
    have hlt := h.lt
    rw [OwnVal] at h
    obtain ⟨vi, vk, xs, Fk, Fi, Fs, rfl, hk, hO1, hO2, hxl, rfl, hOs⟩ := h
    obtain ⟨ak, ck, rfl, hmk, hck, _⟩ := hO1.form
    obtain ⟨ao, cap, rfl, hmi, hci, _⟩ := hO2.form
    have h5 := hOs.cells
    rw [List.nodup_append, List.nodup_append] at hn
    obtain ⟨hn1, ⟨hn2, hn3, hn4⟩, hn5⟩ := hn
    obtain ⟨wB, hwB⟩ : ∃ wB, wB = w.alloc (.cells #[.int .i64 k, .bool b, str tx, .slice ao its.length cap, .slice ak ks.length ck] 41) := ⟨_, rfl⟩
    obtain ⟨b0, b1, b2, b3, b4, hsB, hbB⟩ := box5 hwB
    have hxB : wB.heap[w.heap.size]? = some (.cells #[.int .i64 k, .bool b, str tx, .slice ao its.length cap, .slice ak ks.length ck] 41 (0, 0)) := by rw [hwB]; exact heap_alloc_new _ _
    have hK0 : SpK w (Fk ++ (Fi ++ Fs)) (Fi ++ Fs) #[.int .i64 k, .bool b, str tx, .slice ao its.length cap, .slice ak ks.length ck] ak ks.length wB := by
      refine ⟨Spares.of_below hbB, by omega, hxB, fun hne => ?_, fun q hq => hbB.block q (hlt q (by simp only [List.mem_append] at hq ⊢; exact .inr hq))⟩
      rcases hO1.1.2 with ⟨_, h0⟩ | ⟨g, c, cur, hv, _, hg, g1, g2, g3, g4⟩
      · exact absurd h0 hne
      · injection hv with hv1 hv2 hv3
        have hgF : g ∈ Fk := by rw [hO1.2, hv1]; simp [Value.ownBlock]
        exact ⟨g, cur, hv1, by simp [hgF], fun hm => hn5 g hgF g hm rfl, (hbB.block g (hlt g (by simp [hgF]))).trans hg, by omega⟩
    have HK0 := Lib.hid hK0
    have HO2 := Lib.hid hO2
    have HOs := Lib.hid hOs
    have HLT := Lib.hid hlt
    have HN2 := Lib.hid hn2
    have HN3 := Lib.hid hn3
    have HN4 := Lib.hid hn4
    have H5 := Lib.hid h5
    have HIH := Lib.hid ih
    have HXL := Lib.hid hxl
    clear hK0 hO1 hO2 hOs hlt hn1 hn2 hn3 hn4 hn5 h5 ih hxl hxB b0 b1 b2 b3 b4
    go_enter Tryz.func13, Tryz.ntmps13
    go_upto_region 1 with fail
    rw [← hwB]
    clear hwB
    obtain ⟨_, _, hx0, _, _⟩ := HK0.out
    obtain ⟨_, _, _, b3, b4, _, _⟩ := cell_box5 hx0
    clear hx0
    go_wp2
    go_loopg [7] ks.length (fun g v7 wr => ∃ i : Nat, i + g = ks.length ∧ v7 = .int .i64 i ∧ Hid (SpK w (Fk ++ (Fi ++ Fs)) (Fi ++ Fs) #[.int .i64 k, .bool b, str tx, .slice ao its.length cap, .slice ak ks.length ck] ak ks.length wr))
    case atStart => exact ⟨0, by omega, rfl, HK0⟩
    case round =>
      clear b3 b4 HK0
      obtain ⟨i, hig, rfl, HK⟩ := hrel
      obtain ⟨s1, s2, s3, s4, s5⟩ := HK.out
      obtain ⟨_, _, _, b3, b4, _, _⟩ := cell_box5 s3
      cases gk with
      | zero =>
        obtain rfl : i = ks.length := by omega
        have hI0 : SpI w (Fk ++ (Fi ++ Fs)) #[.int .i64 k, .bool b, str tx, .slice ao its.length cap, .slice ak ks.length ck] ao its xs its.length 0 wr := by
          refine ⟨s1, s2, s3, Fs, by simpa using HOs.out.keep fun q hq => s5 q (by simp [hq]), HN3.out, fun q hq => ⟨by simp [hq], HLT.out q (by simp [hq])⟩, fun hne => ?_⟩
          rcases HO2.out.1.2 with ⟨_, h0⟩ | ⟨g, c, cur, hv, _, hg, g1, g2, g3, g4⟩
          · exact absurd h0 hne
          · injection hv with hv1 hv2 hv3
            have hgF : g ∈ Fi := by rw [HO2.out.2, hv1]; simp [Value.ownBlock]
            exact ⟨g, cur, hv1, by simp [hgF], HLT.out g (by simp [hgF]), fun hm => HN4.out g hgF g hm rfl, (s5 g (by simp [hgF])).trans hg, by omega, fun j _ hj => cur_take g4 hj⟩
        have HI0 := Lib.hid hI0
        clear hI0 s1 s2 s3 s4 s5 HK
        go_wp2
        go_loopg [18] its.length (fun g v18 wr => ∃ i : Nat, i + g = its.length ∧ v18 = .int .i64 i ∧ Hid (SpI w (Fk ++ (Fi ++ Fs)) #[.int .i64 k, .bool b, str tx, .slice ao its.length cap, .slice ak ks.length ck] ao its xs its.length i wr))
        case atStart => exact ⟨0, by omega, rfl, HI0⟩
        case round =>
          clear b3 b4 HI0 hig
          obtain ⟨i, hig, rfl, HI⟩ := hrel
          obtain ⟨s1, s2, s3, H, q1, q2, q3, q4⟩ := HI.out
          obtain ⟨_, _, _, b3, b4, _, _⟩ := cell_box5 s3
          cases gk with
          | zero =>
            have HS := Lib.hid s1
            clear s1 s3 q1 q2 q3 q4 HI
            go_wp2
            first | refine bodyPost_end (results_none rfl _ _ _) rfl ?_ | refine bodyPost_ret (results_none rfl _ _ _) rfl ?_
            exact ⟨rfl, HS.out⟩
          | succ g =>
            have hil : i < its.length := by omega
            have hie : (i : Int) < (its.length : Int) := by omega
            have hix : i < xs.length := by rw [HXL.out]; exact hil
            obtain ⟨gi, cur, rfl, c1, c2, c3, c4, c5, c6⟩ := q4 (by omega)
            rw [List.drop_eq_getElem_cons hil] at q1
            obtain ⟨x, ys, Fx, Fr, e1, rfl, o1, o2⟩ := q1.head
            rw [List.drop_eq_getElem_cons hix] at e1
            injection e1 with e1 e2
            obtain ⟨xi, xc, xj, xd, hxe⟩ := o1.at.form
            have hcell : ∀ j, j < 5 → wr.cell? ⟨gi, i * 5 + j, none⟩ = x.cells[j]? := fun j hj => by
              have h1 := c6 (i * 5 + j) (by omega) (by omega)
              have h2 : i * 5 + j < cur.size := by omega
              rw [cellsV_get H5.out hix hj, e1, Array.getElem?_eq_getElem h2] at h1
              rw [(row_cells c4 h2).1, h1]
            rw [hxe] at hcell
            have p0 := hcell 0 (by omega)
            have p1 := hcell 1 (by omega)
            have p2 := hcell 2 (by omega)
            have p3 := hcell 3 (by omega)
            have p4 := hcell 4 (by omega)
            rw [Nat.add_zero] at p0
            rw [List.nodup_append] at q2
            obtain ⟨d1, d2, d3⟩ := q2
            have C := HIH.out its[i] (List.getElem_mem hil) x Fx wr o1 d1
            rw [hxe] at C
            have hp0 : wr.cell? ⟨gi, i * 5, none⟩ = some (.int .i64 its[i].kind) := p0
            have hp1 : wr.cell? ⟨gi, i * 5 + 1, none⟩ = some (.bool its[i].flag) := p1
            have hp2 : wr.cell? ⟨gi, i * 5 + 2, none⟩ = some (str its[i].text) := p2
            have hp3 : wr.cell? ⟨gi, i * 5 + 3, none⟩ = some (.slice xi its[i].items.length xc) := p3
            have hp4 : wr.cell? ⟨gi, i * 5 + 4, none⟩ = some (.slice xj its[i].keys.length xd) := p4
            clear p0 p1 p2 p3 p4 hcell
            go_wp2_with fail
            refine C.mono ?_
            rintro e w2 ⟨rfl, hs⟩
            have hgx : gi ∉ Fx := fun hm => c3 (by simp [hm])
            have hss := hs.size
            have hgi2 := (hs.block gi (by omega) hgx).trans c4
            have hx2 := (hs.block w.heap.size (by omega) (fun hm => by have := (q3 w.heap.size (by simp [hm])).2; omega)).trans s3
            obtain ⟨_, _, _, b3, b4, _, _⟩ := cell_box5 hx2
            obtain ⟨r0, f0⟩ := row_cells hgi2 (o := i * 5) (by omega)
            obtain ⟨r1, f1⟩ := row_cells hgi2 (o := i * 5 + 1) (by omega)
            obtain ⟨r2, f2⟩ := row_cells hgi2 (o := i * 5 + 2) (by omega)
            obtain ⟨r3, f3⟩ := row_cells hgi2 (o := i * 5 + 3) (by omega)
            obtain ⟨r4, f4⟩ := row_cells hgi2 (o := i * 5 + 4) (by omega)
            obtain ⟨w3, cur', hw3, hg3, hc3, hsc3, hsz3, hk3, o3, t3, u3⟩ := over_row hgi2 (i * 5) (.int .i64 99) (.bool false) (.string ⟨#[]⟩) (.slice none 0 0) (.slice none 0 0) (by omega)
            have hs2 : Spares (Fk ++ (Fi ++ Fs)) w w3 := by
              have a1 := s1.trans (hs.sub (G := Fk ++ (Fi ++ Fs)) fun q hq _ => (q3 q (by simp [hq])).1)
              exact ⟨o3.trans a1.os, t3.trans a1.tape, u3.trans a1.output, by have := a1.size; omega, fun q hq hqn => (hk3 q (fun e => hqn (by rw [e]; exact c1))).trans (a1.block q hq hqn)⟩
            have hnext : SpI w (Fk ++ (Fi ++ Fs)) #[.int .i64 k, .bool b, str tx, .slice (some ⟨gi, 0, none⟩) its.length cap, .slice ak ks.length ck] (some ⟨gi, 0, none⟩) its xs its.length (i + 1) w3 := by
              refine ⟨hs2, by omega, (hk3 _ (by omega)).trans hx2, Fr, ?_, d2, fun q hq => q3 q (by simp [hq]), fun _ => ⟨gi, cur', rfl, c1, c2, fun hm => c3 (by simp [hm]), hg3, by omega, fun j hj1 hj2 => ?_⟩⟩
              · rw [e2]
                refine o2.keep fun q hq => (hk3 q (fun e => c3 (by rw [← e]; simp [hq]))).trans (hs.block q (o2.lt q hq) (fun hm => d3 q hm q hq rfl))
              · rw [← c6 j (by omega) hj2, ← Array.getElem?_toList, hc3, List.getElem?_append_right (by simp; omega)]
                simp only [List.length_append, List.length_take, List.length_cons, List.length_nil, Array.length_toList, List.getElem?_drop]
                rw [← Array.getElem?_toList]
                congr 1
                omega
            have HNX := Lib.hid hnext
            clear hnext hs2 hs s1 s3 q1 q3 o1 o2 e1 e2 hxe c4 c6 hg3 hc3 hsc3 hk3 o3 t3 u3 hgi2 hx2 d1 d2 d3 C q4 HI hp0 hp1 hp2 hp3 hp4
            go_upto_region 11 with fail
            rw [← hw3]
            clear hw3 r0 r1 r2 r3 r4 f0 f1 f2 f3 f4 b3 b4
            go_wp2
            go_roundg g
            case measure => omega
            case rel => exact ⟨i + 1, by omega, by go_num, HNX⟩
      | succ g =>
        have hil : i < ks.length := by omega
        have hie : (i : Int) < (ks.length : Int) := by omega
        obtain ⟨gi, cur, rfl, c1, c2, c3, c4⟩ := s4 (by omega)
        obtain ⟨r0, f0⟩ := row_cells c3 (o := i) (by omega)
        have hnext : SpK w (Fk ++ (Fi ++ Fs)) (Fi ++ Fs) #[.int .i64 k, .bool b, str tx, .slice ao its.length cap, .slice (some ⟨gi, 0, none⟩) ks.length ck] (some ⟨gi, 0, none⟩) ks.length (wr.setCell ⟨gi, i, none⟩ (.string ⟨#[63]⟩)) := by
          have hk : ∀ q, q ≠ gi → (wr.setCell ⟨gi, i, none⟩ (.string ⟨#[63]⟩)).heap[q]? = wr.heap[q]? := fun q hq => by simp [World.setCell, Array.getElem?_modify, Ne.symm hq]
          have hglt : gi < w.heap.size := HLT.out gi c1
          refine ⟨⟨s1.os, s1.tape, s1.output, by simpa [World.setCell] using s1.size, fun q hq hqn => (hk q (fun e => hqn (by rw [e]; exact c1))).trans (s1.block q hq hqn)⟩, by simpa [World.setCell] using s2, (hk _ (by omega)).trans s3, fun _ => ⟨gi, cur.set! i (.string ⟨#[63]⟩), rfl, c1, c2, ?_, by simpa using c4⟩, fun q hq => (hk q (fun e => c2 (by rw [← e]; exact hq))).trans (s5 q hq)⟩
          simp [World.setCell, Array.getElem?_modify, c3]
        have HNX := Lib.hid hnext
        clear hnext s1 s3 s4 s5 c3 HK
        go_wp2
        go_roundg g
        case measure => omega
        case rel => exact ⟨i + 1, by omega, by go_num, HNX⟩

end Go.Proofs.YtpbipngnoklmcaaGreatDoor
namespace Go.Proofs.YtpbipngnoklmcaaGreatDoor
open Go.RowKit
set_option maxRecDepth 100000
variable {w w' : World} {p b n : Nat} {S : WS} {val : S8 → S8 → Value} {vf vt : Value} {D : DataW Value} {G : Nat} {L : List Nat} {N M : Nat} {q : Nat} {T : WS}

/-- A world whose own blocks stay, stays: its values' blocks and its rules' are none of another world's. -/
theorem WAt.other {p' b' n' : Nat} {S' : WS} {val' : S8 → S8 → Value} {vf' vt' : Value} {D' : DataW Value} (h : WAt w p b n S val vf vt D) (k : WAt w p' b' n' S' val' vf' vt' D') (hd : ∀ j ∈ wF p' b' vt', j ∉ wF p b vt) (hs : Spares (wF p b vt) w w') : WAt w' p' b' n' S' val' vf' vt' D' := by
  have kinds : ∀ {j : Nat} {cs : Array Value} {T : TypeId} {fz : Nat × Nat}, w.heap[j]? = some (.cells cs T fz) → T ≠ 74 → T ≠ 58 → j ∉ wF p b vt := by
    intro j cs T fz hj h1 h2 hm
    simp only [wF, List.mem_cons, Option.mem_toList] at hm
    rcases hm with rfl | rfl | hm
    · rw [h.box] at hj
      injection hj with hj
      injection hj with _ e _
      exact h1 e.symm
    · obtain ⟨es, clock, hb⟩ := map_block h.map
      rw [hb] at hj
      cases hj
    · obtain ⟨cs', hb⟩ := row_block h.trace hm
      rw [hb] at hj
      injection hj with hj
      injection hj with _ e _
      exact h2 e.symm
  refine ⟨(hs.block p' (heap_lt k.box) (hd p' (by simp [wF]))).trans k.box, map_keep k.map (hs.block b' k.map.lt (hd b' (by simp [wF]))), k.rel, k.ris, k.fit, k.vals.keep fun o _ F hF j hj => ?_, row_keep k.fails fun j hj => ?_, row_keep k.trace fun j hj => ?_⟩
  · obtain ⟨cs, fz, hh⟩ := own_kinds hF j hj
    refine hs.block j (hF.lt j hj) ?_
    rcases hh with hh | hh
    · exact kinds hh strNeW strNeWC
    · exact kinds hh valNeW valNeWC
  · obtain ⟨cs, hh⟩ := row_block k.fails hj
    exact hs.block j (heap_lt hh) (kinds hh failNeW failNeWC)
  · obtain ⟨cs, hh⟩ := row_block k.trace hj
    exact hs.block j (heap_lt hh) (hd j (by simp [wF, hj]))

/-- Two worlds, in blocks behind G, none of which is in L. -/
def Has2 (G : Nat) (L : List Nat) (p : Nat) (S : WS) (N : Nat) (q : Nat) (T : WS) (M : Nat) (w : World) : Prop :=
  ∃ b n val vf vt D b' n' val' vf' vt' D', n ≤ N ∧ n' ≤ M ∧ WAt w p b n S val vf vt D ∧ WAt w q b' n' T val' vf' vt' D' ∧ (∀ k ∈ wF p b vt, G ≤ k ∧ k ∉ L) ∧ (∀ k ∈ wF q b' vt', G ≤ k ∧ k ∉ L) ∧ ∀ k ∈ wF q b' vt', k ∉ wF p b vt
theorem Has2.swap (h : Has2 G L p S N q T M w) : Has2 G L q T M p S N w := by
  obtain ⟨b, n, val, vf, vt, D, b', n', val', vf', vt', D', h1, h2, h3, h4, h5, h6, h7⟩ := h
  exact ⟨b', n', val', vf', vt', D', b, n, val, vf, vt, D, h2, h1, h4, h3, h6, h5, fun k hk hm => h7 k hm hk⟩
theorem Has2.one (h : Has2 G L p S N q T M w) : Has G L p S N w := by
  obtain ⟨b, n, val, vf, vt, D, b', n', val', vf', vt', D', h1, h2, h3, h4, h5, h6, h7⟩ := h
  exact ⟨b, n, val, vf, vt, D, h1, h3, h5⟩
theorem Has2.two (h : Has2 G L p S N q T M w) : Has G L q T M w := h.swap.one
theorem Has2.below (h : Has2 G L p S N q T M w) (hb : Below w.heap.size w w') : Has2 G L p S N q T M w' := by
  obtain ⟨b, n, val, vf, vt, D, b', n', val', vf', vt', D', h1, h2, h3, h4, h5, h6, h7⟩ := h
  exact ⟨b, n, val, vf, vt, D, b', n', val', vf', vt', D', h1, h2, h3.below hb, h4.below hb, h5, h6, h7⟩
theorem Has2.guard (h : Has2 G L p S N q T M w) {j : Nat} (hj : w.heap.size ≤ j) : Has2 G (j :: L) p S N q T M w := by
  obtain ⟨b, n, val, vf, vt, D, b', n', val', vf', vt', D', h1, h2, h3, h4, h5, h6, h7⟩ := h
  refine ⟨b, n, val, vf, vt, D, b', n', val', vf', vt', D', h1, h2, h3, h4, fun k hk => ⟨(h5 k hk).1, ?_⟩, fun k hk => ⟨(h6 k hk).1, ?_⟩, h7⟩
  · have := h3.lt k hk
    rw [List.mem_cons, not_or]
    exact ⟨by omega, (h5 k hk).2⟩
  · have := h4.lt k hk
    rw [List.mem_cons, not_or]
    exact ⟨by omega, (h6 k hk).2⟩
/-- The second, made behind the first. -/
theorem Has2.make {w1 w2 : World} (h : Has G L p S N w1) (hb : Below w1.heap.size w1 w2) (k : Has w1.heap.size [] q T M w2) (hL : ∀ j ∈ L, j < w1.heap.size) : Has2 G L p S N q T M w2 := by
  have hG := h.base
  obtain ⟨b, n, val, vf, vt, D, h1, h3, h5⟩ := h
  obtain ⟨b', n', val', vf', vt', D', h2, h4, h6⟩ := k
  refine ⟨b, n, val, vf, vt, D, b', n', val', vf', vt', D', h1, h2, h3.below hb, h4, h5, fun k hk => ⟨?_, fun hm => ?_⟩, fun k hk hm => ?_⟩
  · have := (h6 k hk).1
    omega
  · have := (h6 k hk).1
    have := hL k hm
    omega
  · have := (h6 k hk).1
    have := h3.lt k hm
    omega
theorem WStep.has2 {S' : WS} {n' N' : Nat} {b2 n2 : Nat} {val2 : S8 → S8 → Value} {vf2 vt2 : Value} {D2 : DataW Value} (hx : WAt w p b n S val vf vt D) (hy : WAt w q b2 n2 T val2 vf2 vt2 D2) (h1 : ∀ k ∈ wF p b vt, G ≤ k ∧ k ∉ L) (h2 : ∀ k ∈ wF q b2 vt2, G ≤ k ∧ k ∉ L) (hd : ∀ k ∈ wF q b2 vt2, k ∉ wF p b vt) (hn : n' ≤ N') (hm : n2 ≤ M)
    (h : WStep w p b n' S' vf vt w') (hL : ∀ j ∈ L, j < w.heap.size) : Has2 G L p S' N' q T M w' ∧ Keeps G L w w' := by
  obtain ⟨val', vt', D', hW, hs, hF⟩ := h
  have hGp := (h1 p (by simp [wF])).1
  have hp := heap_lt hx.box
  refine ⟨⟨b, n', val', vf, vt', D', b2, n2, val2, vf2, vt2, D2, hn, hm, hW, hx.other hy hd hs, fun k hk => ?_, h2, fun k hk hm => ?_⟩, hs.below (by omega) (fun k hk => (h1 k hk).1), fun j hj hl => hs.block j hl fun hf => (h1 j hf).2 hj⟩
  · rcases hF k hk with h | h
    · exact h1 k h
    · exact ⟨by omega, fun hq => by have := hL k hq; omega⟩
  · rcases hF k hm with h | h
    · exact hd k hk h
    · have := hy.lt k hk
      omega
theorem create_h2 (h : Has2 G L p S N q T M w) (hL : ∀ j ∈ L, j < w.heap.size) (addr typ after : S8) (x : VT) (v : Value) (hv : ValAt w x v) (ha : addr.length ≤ 281474976710656) (haf : after.length ≤ 281474976710656) (ft : fitS typ)
    (hl : S.trace.length ≤ 100000) (hN : N ≤ 100000) (ho : S.objs.length ≤ 100000) (hE : ErrW w) (hT : TabW w) :
    Calls Tryz.prog 18 #[.pointer (some ⟨p, 0, none⟩), str addr, str typ, str after, v] w fun e w' =>
      e = .returned (.tuple #[str (createP S addr typ after x).2.1, .int .i64 (createP S addr typ after x).2.2]) ∧ Has2 G L p (createP S addr typ after x).1 (N + 1) q T M w' ∧ Keeps G L w w' := by
  obtain ⟨b, n, val, vf, vt, D, b', n', val', vf', vt', D', h1, h2, h3, h4, h5, h6, h7⟩ := h
  refine (create_w h3 addr typ after x v hv ha haf ft hl (by omega) ho hE hT).mono ?_
  rintro e w' ⟨rfl, n2, hn2, hs⟩
  exact ⟨rfl, WStep.has2 h3 h4 h5 h6 h7 (by omega) h2 hs hL⟩

end Go.Proofs.YtpbipngnoklmcaaGreatDoor
