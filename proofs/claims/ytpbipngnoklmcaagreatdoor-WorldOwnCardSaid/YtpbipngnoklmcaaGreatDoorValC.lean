/- Copies of values: slices.Clone of texts, value.clones, value.Clone. -/
import Derived.Test.YtpbipngnoklmcaaGreatDoorMWldK
import Derived.Laws.AppendOwnNone
import Derived.Lib.SliceRun
import Derived.Deep.RegionHeld3
namespace Go.Proofs.YtpbipngnoklmcaaGreatDoor
open Go.RowKit
set_option maxRecDepth 100000
attribute [local go_sem] str_size str_toList str_get

theorem strs_cells {w : World} {b off : Nat} {ss : List (List UInt8)} (h : ∀ i, i < ss.length → w.cell? ⟨b, off + i, none⟩ = some (str (ss.getD i []))) :
    ∀ j u, (strV ss)[j]? = some u → w.cell? ((⟨b, off, none⟩ : Addr).add j) = some u := by
  intro j u hu
  have hj : j < ss.length := by have := (List.getElem?_eq_some_iff.1 hu).1; simpa [strV] using this
  rw [Addr.add_lit, h j hj]
  simp [strV, List.getD, hj] at hu ⊢
  exact hu
theorem strV_one (ss : List (List UInt8)) : ∀ u ∈ strV ss, u.oneCell' = true := by
  intro u hu
  obtain ⟨p, _, rfl⟩ := List.mem_map.1 hu
  rfl
theorem strV_len (ss : List (List UInt8)) : (strV ss).length = ss.length := by simp [strV]

/-- What a copy of texts leaves: a new row of the same texts. -/
def ClS (ss : List (List UInt8)) (w : World) (e : Ending) (w' : World) : Prop :=
  ∃ v' F, e = .returned v' ∧ OwnS w' 9 1 v' ss.length (strV ss) F ∧ (∀ b ∈ F, w.heap.size ≤ b) ∧ Below w.heap.size w w'

set_option maxHeartbeats 800000 in
theorem clone_strs (v : Value) (ss : List (List UInt8)) (w : World) (h : StrsAt w v ss) (hl : ss.length ≤ 1000000) :
    Calls Tryz.prog 61 #[v] w (ClS ss w) := by
  obtain ⟨i0, hi, hz0, hz1, hz2⟩ := info_parts infoS
  obtain ⟨ao, cap, rfl, hm, hc⟩ := h
  have hend : ∀ w' v', w'.ownsRow w.heap.size 9 1 v' ss.length (strV ss) → Below w.heap.size w w' → ClS ss w (.returned v') w' := fun w' v' h1 h2 => by
    obtain ⟨F, hF, hb, _⟩ := OwnS.row h1
    exact ⟨v', F, rfl, hF, fun b hb' => (hb b hb').1, h2⟩
  have HE := Lib.hid hend
  clear hend
  have hmade : (w.alloc (.cells #[] 9)).ownsRow w.heap.size 9 1 (.slice (some ⟨w.heap.size, 0, none⟩) 0 0) 0 [] := World.ownsRow_made w #[] 0 (Nat.le_refl _) (by unfold maxLen; omega) rfl
  have HM := Lib.hid hmade
  clear hmade
  have qT : ∀ (w : World) (a : Option Addr) (n c n' c' : Nat), (binOp .eql 39 (.slice a n c) (.slice none n' c')).run Tryz.prog w = .ok (.bool a.isNone) w := fun w a n c n' c' => Lib.run_eql_slice_nil w _ _ a n c n' c' Tryz.underlying39
  cases ao with
  | none =>
    obtain rfl := hm.2.2 rfl
    have : ss = [] := List.eq_nil_of_length_eq_zero (by omega)
    subst this
    clear hc
    go_enter Tryz.func61, Tryz.ntmps61
    go_wp2
    go_ret
    exact HE.out _ _ (World.ownsRow_nil _ _ _ _) (Below.refl _ _)
  | some ad =>
    by_cases he : ss = []
    · subst he
      clear hc
      go_enter Tryz.func61, Tryz.ntmps61
      go_wp2_with (at_builtin; refine wpList_append_fresh _ rfl (.tmp 5) (.tmp 6) 39 rfl w.heap.size 9 i0 _ 1 16 Tryz.underlying39 hi hz0 hz1 hz2 rfl (by decide) _ 0 [] rfl HM.out ad 0 cap [] rfl rfl ?c1 ?c2 ?c3 ?c4 ?c5 ?_)
      case c1 => intro j u hu; simp at hu
      case c2 => intro u hu; cases hu
      case c3 => unfold maxLen; omega
      case c4 => omega
      case c5 => simp
      intro v' w1 hown hgrow _
      go_wp2
      go_ret
      exact HE.out _ _ hown (((Below.refl _ _).alloc (Nat.le_refl _) _).grown hgrow (by simp) (fun k e => by have := Option.some.inj e; simp at this; omega))
    · obtain ⟨b, off, had, hbl, hcell⟩ := hc he
      cases had
      have hcell' := fun o => strs_cells (w := w.alloc o) (fun i hi => (((Below.refl w.heap.size w).alloc (Nat.le_refl _) o).cell (p := ⟨b, off + i, none⟩) hbl).trans (hcell i hi))
      have HC := Lib.hid hcell'
      clear hc hcell hcell'
      go_enter Tryz.func61, Tryz.ntmps61
      go_wp2_with (at_builtin; refine wpList_append_fresh _ rfl (.tmp 5) (.tmp 6) 39 rfl w.heap.size 9 i0 _ 1 16 Tryz.underlying39 hi hz0 hz1 hz2 rfl (by decide) _ 0 [] rfl HM.out ⟨b, off, none⟩ ss.length cap (strV ss) rfl (by simp [strV]) (HC.out _) (strV_one ss) ?d3 ?d4 ?d5 ?_)
      case d3 => unfold maxLen; omega
      case d4 => omega
      case d5 => simp
      intro v' w1 hown hgrow _
      go_wp2
      go_ret
      exact HE.out _ _ hown (((Below.refl _ _).alloc (Nat.le_refl _) _).grown hgrow (by simp) (fun k e => by have := Option.some.inj e; simp at this; omega))

/-- What a copy of a value leaves: the same value in new memory. -/
def ClV (t : VT) (w : World) (e : Ending) (w' : World) : Prop :=
  ∃ v' F, e = .returned v' ∧ OwnVal w' t v' F ∧ F.Nodup ∧ (∀ b ∈ F, w.heap.size ≤ b) ∧ Below w.heap.size w w'
/-- What copies of values leave. -/
def ClL (ts : List VT) (w : World) (v' : Value) (w' : World) : Prop :=
  ∃ xs Fi Fs, OwnS w' 41 5 v' ts.length (cellsV xs) Fi ∧ OwnVals w' ts xs Fs ∧ (Fi ++ Fs).Nodup ∧ (∀ b ∈ Fi ++ Fs, w.heap.size ≤ b) ∧ Below w.heap.size w w'
theorem ClL.nil (w w' : World) (hb : Below w.heap.size w w') : ClL [] w (.slice none 0 0) w' := ⟨[], [], [], OwnS.nil _ _ _, by rw [OwnVals]; exact ⟨rfl, rfl⟩, by simp, by simp, hb⟩
theorem ClL.below {ts : List VT} {w w' : World} {v : Value} (h : ClL ts w v w') : Below w.heap.size w w' := h.elim fun _ h => h.elim fun _ h => h.elim fun _ h => h.2.2.2.2
theorem ClL.form {ts : List VT} {w w' : World} {v : Value} (h : ClL ts w v w') : ∃ a c, v = .slice a ts.length c := by
  obtain ⟨xs, Fi, Fs, h1, _⟩ := h
  obtain ⟨a, c, rfl, _⟩ := h1.form
  exact ⟨a, c, rfl⟩
/-- One more. -/
theorem ClL.push {ts : List VT} {t : VT} {w wr w1 w3 : World} {vo v' x : Value} {Fx : List Nat} {o : Obj} {xs : List Value} {Fi Fs : List Nat} (h1 : OwnS wr 41 5 vo ts.length (cellsV xs) Fi) (h2 : OwnVals wr ts xs Fs) (hn : (Fi ++ Fs).Nodup) (hge : ∀ b ∈ Fi ++ Fs, w.heap.size ≤ b) (hw : Below w.heap.size w wr)
    (hx : OwnVal w1 t x Fx) (hd : Fx.Nodup) (hF : ∀ b ∈ Fx, wr.heap.size ≤ b) (hb : Below wr.heap.size wr w1)
    (hown : w3.ownsRow 0 41 5 v' (ts.length + 1) (cellsV xs ++ x.cells.toList)) (hg : (w1.alloc o).grownBy w3 vo.ownBlock)
    (hv : v'.ownBlock = vo.ownBlock ∨ v'.ownBlock = some (w1.heap.size + 1)) : ClL (ts ++ [t]) w v' w3 := by
  obtain ⟨h1o, rfl⟩ := h1
  have hlt1 : ∀ b ∈ vo.ownBlock.toList, b < wr.heap.size := fun b hb' => (h1o.lt b (by simpa using hb')).2
  have hlt2 := h2.lt
  have hltx := hx.lt
  have hs1 := hb.size
  have hwr := hw.size
  rw [List.nodup_append] at hn
  have hsz : (w1.alloc o).heap.size = w1.heap.size + 1 := by simp only [World.alloc, Array.size_push]
  have hk : ∀ b, b < w1.heap.size → b ∉ vo.ownBlock.toList → w3.heap[b]? = w1.heap[b]? := fun b hb1 hb2 => by
    rw [hg.block b (by omega) (fun e => hb2 (by rw [← e]; simp))]
    simp only [World.alloc, Array.getElem?_push, if_neg (show ¬ b = w1.heap.size by omega)]
  have hx3 : OwnVal w3 t x Fx := hx.keep fun b hb' => hk b (hltx b hb') (fun hm => by have := hlt1 b hm; have := hF b hb'; omega)
  have h23 : OwnVals w3 ts xs Fs := (h2.keep fun b hb' => hb.block b (hlt2 b hb')).keep fun b hb' => hk b (Nat.lt_of_lt_of_le (hlt2 b hb') hs1) (fun hm => hn.2.2 b hm b hb' rfl)
  have hfi : ∀ b ∈ v'.ownBlock.toList, b ∈ vo.ownBlock.toList ∨ b = w1.heap.size + 1 := fun b hb' => by
    rcases hv with hv | hv
    · left; rw [hv] at hb'; exact hb'
    · right; rw [hv] at hb'; simpa using hb'
  refine ⟨xs ++ [x], v'.ownBlock.toList, Fs ++ Fx, ⟨?_, rfl⟩, h23.append (OwnVals.one hx3), ?_, ?_, ?_⟩
  · rw [cellsV_append, List.length_append]
    simpa [cellsV] using hown
  · rw [List.nodup_append, List.nodup_append]
    refine ⟨by cases v'.ownBlock <;> simp, ⟨hn.2.1, hd, fun a ha b hb' e => by have := hlt2 a ha; have := hF b hb'; omega⟩, fun a ha b hb' e => ?_⟩
    subst e
    rcases List.mem_append.1 hb' with hb' | hb' <;> rcases hfi a ha with ha | ha
    · exact hn.2.2 a ha a hb' rfl
    · have := hlt2 a hb'; omega
    · have := hlt1 a ha; have := hF a hb'; omega
    · have := hltx a hb'; omega
  · intro b hb'
    rcases List.mem_append.1 hb' with hb' | hb'
    · rcases hfi b hb' with hb' | hb'
      · exact hge b (by simp [hb'])
      · omega
    · rcases List.mem_append.1 hb' with hb' | hb'
      · exact hge b (by simp [hb'])
      · have := hF b hb'; omega
  · have hb1 : Below w.heap.size w (w1.alloc o) := (hw.trans (hb.mono hwr)).alloc (by omega) _
    exact hb1.grown hg (by simp; omega) (fun k e => hge k (by rw [e]; simp))

theorem cells_new (w : World) (cs : List Value) (T : TypeId) : ∀ j u, cs[j]? = some u → (w.alloc (.cells cs.toArray T)).cell? ((⟨w.heap.size, 0, none⟩ : Addr).add j) = some u := by
  intro j u hu
  have hn := heap_alloc_new w (.cells cs.toArray T)
  rw [Addr.add_lit, Nat.zero_add]
  simp only [World.cell?, hn]
  simpa using hu

set_option maxHeartbeats 2000000 in
theorem clones_of (ts : List VT) (hT : ∀ t ∈ ts, ∀ (v : Value) (w : World), ValAt w t v → Calls Tryz.prog 30 #[v] w (ClV t w)) (hl : ts.length ≤ 1000000)
    (v : Value) (vs : Nat → Value) (w : World) (hr : RowAt w v ts.length vs) (hv : ValsAt w ts vs) : Calls Tryz.prog 62 #[v] w fun e w' => ∃ v', e = .returned v' ∧ ClL ts w v' w' := by
  obtain ⟨i0, hi0, hz0, hz1, hz2⟩ := info_parts infoVal
  have hr0 := hr
  obtain ⟨ao, cap, rfl, hm, _⟩ := hr
  go_enter Tryz.func62, Tryz.ntmps62
  go_wp2
  go_loopg [3, 8] ts.length (fun g v3 v8 wr => ∃ i : Nat, i + g = ts.length ∧ v8 = .int .i64 i ∧ ClL (ts.take i) w v3 wr)
  case atStart => exact ⟨0, by omega, rfl, by rw [List.take_zero]; exact ClL.nil _ _ (Below.refl _ _)⟩
  case round =>
    obtain ⟨i, hig, rfl, hcl⟩ := hrel
    cases gk with
    | zero =>
      obtain rfl : i = ts.length := by omega
      rw [List.take_length] at hcl
      go_wp2
      go_ret
      exact ⟨_, rfl, hcl⟩
    | succ g =>
      have hil : i < ts.length := by omega
      have hie : (i : Int) < (ts.length : Int) := by omega
      obtain ⟨xs, Fi, Fs, hk1, hk2, hk3, hk4, hbl⟩ := hcl
      obtain ⟨b, off, ai, ci, ak, ck, rfl, hlt, hx, h0, h1, h2, h3, h4⟩ := RowAt.at hr0 hv hbl hil
      have hlen : (ts.take i).length = i := by rw [List.length_take]; omega
      have hown0 := hk1.1
      have C := fun W hb => hT ts[i] (List.getElem_mem hil) _ W (hx.mono hb)
      have hnext : ts.take (i + 1) = ts.take i ++ [ts[i]] := List.take_succ_eq_append_getElem hil
      obtain ⟨x, hxe⟩ : ∃ x, ts[i] = x := ⟨_, rfl⟩
      rw [hxe] at h0 h1 h2 h3 h4 hnext C
      have HN := Lib.hid hnext
      rw [hlen] at hown0
      have hpush := fun w1 w3 v' y Fx o hx hd hF hb => ClL.push (w := w) (wr := wr) (t := x) (w1 := w1) (w3 := w3) (v' := v') (x := y) (Fx := Fx) (o := o) hk1 hk2 hk3 hk4 hbl hx hd hF hb
      rw [hlen] at hpush
      have HO := Lib.hid hown0
      have HP := Lib.hid hpush
      have hwr := hbl.size
      clear hx hxe hnext hk1 hk2 hk3 hk4 hown0 hr0 hv hT hpush
      go_wp2_with fail
      refine (C _ ((Below.refl _ wr).alloc (Nat.le_refl _) _)).mono ?_
      rintro e w1 ⟨v', F, rfl, hov, hnd, hge, hb1⟩
      obtain ⟨ai', ci', ak', ck', rfl⟩ := hov.at.form
      have hb2 := ((Below.refl _ wr).alloc (Nat.le_refl _) _).trans (hb1.mono (by simp))
      have hge2 : ∀ b ∈ F, wr.heap.size ≤ b := fun b hb => by have := hge b hb; simp at this; omega
      have hs2 := hb2.size
      have HQ := Lib.hid (fun w3 v' o => HP.out w1 w3 v' _ F o hov hnd hge2 hb2)
      have hown1 := fun o => own_below HO.out (hb2.alloc (o := o) hs2)
      have HO1 := Lib.hid hown1
      clear hov hnd hge hge2 hb1 HP HO hown1
      go_wp2_with (at_builtin; refine wpList_append_fresh _ rfl (.tmp 12) (.tmp 15) 38 rfl 0 41 i0 _ 5 80 Tryz.underlying38 hi0 hz0 hz1 hz2 rfl (by decide) _ i (cellsV xs) rfl (HO1.out _) ⟨w1.heap.size, 0, none⟩ 1 1 [.int .i64 x.kind, .bool x.flag, str x.text, .slice ai' x.items.length ci', .slice ak' x.keys.length ck'] rfl rfl ?c1 ?c2 ?c3 ?c4 ?c5 ?_)
      case c1 => exact cells_new w1 _ _
      case c2 => intro u hu; simp at hu; rcases hu with rfl | rfl | rfl | rfl | rfl <;> rfl
      case c3 => unfold maxLen; omega
      case c4 => omega
      case c5 => simp
      intro v' w3 hown hgrow hv'
      go_wp2
      go_roundg g
      case measure => omega
      case rel =>
        refine ⟨i + 1, by omega, by go_num, ?_⟩
        rw [HN.out]
        exact HQ.out _ _ _ hown hgrow hv'

/-- A value made of a copy of texts and of copies of values. -/
theorem ClL.val {k : Int} {b : Bool} {tx : List UInt8} {its : List VT} {ks : List (List UInt8)} {w w1 w2 : World} {vk vi : Value} {Fk : List Nat} (hk : -9223372036854775808 ≤ k ∧ k ≤ 9223372036854775807 ∧ tx.length ≤ 9223372036854775807)
    (h1 : OwnS w1 9 1 vk ks.length (strV ks) Fk) (hge : ∀ b ∈ Fk, w.heap.size ≤ b) (hb : Below w.heap.size w w1) (h2 : ClL its w1 vi w2) : ClV (.mk k b tx its ks) w (.returned (.agg #[.int .i64 k, .bool b, str tx, vi, vk])) w2 := by
  obtain ⟨xs, Fi, Fs, h3, h4, h5, h6, h7⟩ := h2
  have hlt := h1.lt
  have hs := hb.size
  refine ⟨_, Fk ++ (Fi ++ Fs), rfl, ?_, ?_, ?_, hb.trans (h7.mono hs)⟩
  · rw [OwnVal]
    exact ⟨vi, vk, xs, Fk, Fi, Fs, rfl, hk, h1.keep fun b hb' => h7.block b (hlt b hb'), h3, h4.len, rfl, h4⟩
  · rw [List.nodup_append]
    exact ⟨h1.nodup, h5, fun a ha b hb' e => by have := hlt a ha; have := h6 b hb'; omega⟩
  · intro b hb'
    rcases List.mem_append.1 hb' with hb' | hb'
    · exact hge b hb'
    · have := h6 b hb'; omega

theorem cell_box5 {w : World} {ty q : Nat} {x0 x1 x2 x3 x4 : Value} (h : w.heap[q]? = some (.cells #[x0, x1, x2, x3, x4] ty (0, 0))) :
    w.cell? ⟨q, 0, none⟩ = some x0 ∧ w.cell? ⟨q, 1, none⟩ = some x1 ∧ w.cell? ⟨q, 2, none⟩ = some x2 ∧ w.cell? ⟨q, 3, none⟩ = some x3 ∧ w.cell? ⟨q, 4, none⟩ = some x4 ∧ w.frozen? ⟨q, 3, none⟩ = false ∧ w.frozen? ⟨q, 4, none⟩ = false := by
  simp [World.cell?, World.frozen?, h]
theorem set_box5 {w : World} {ty q : Nat} {x0 x1 x2 x3 x4 : Value} (h : w.heap[q]? = some (.cells #[x0, x1, x2, x3, x4] ty (0, 0))) (v3 v4 : Value) : ∃ w', w' = (w.setCell ⟨q, 4, none⟩ v4).setCell ⟨q, 3, none⟩ v3 ∧ w'.heap[q]? = some (.cells #[x0, x1, x2, v3, v4] ty (0, 0)) ∧ w'.heap.size = w.heap.size ∧ (∀ k, k ≠ q → w'.heap[k]? = w.heap[k]?) ∧
    ∀ B w0, B ≤ q → Below B w0 w → Below B w0 w' := by
  have hk : ∀ k, k ≠ q → ((w.setCell ⟨q, 4, none⟩ v4).setCell ⟨q, 3, none⟩ v3).heap[k]? = w.heap[k]? := fun k hk => by simp [World.setCell, Array.getElem?_modify, Ne.symm hk]
  refine ⟨_, rfl, ?_, ?_, hk, fun B w0 hB hb => ⟨hb.os, hb.tape, hb.output, ?_, fun k hkB => ?_⟩⟩
  · simp [World.setCell, Array.getElem?_modify, h]
  · simp [World.setCell]
  · have := hb.size; simpa [World.setCell] using this
  · rw [hk k (by omega)]; exact hb.block k hkB
theorem put_box5 {w : World} {ty q : Nat} {z0 z1 z2 z3 z4 : Value} (h : w.heap[q]? = some (.cells #[z0, z1, z2, z3, z4] ty (0, 0))) (x0 x1 x2 x3 x4 : Value) : ∃ w', w' = ((((w.setCell ⟨q, 0, none⟩ x0).setCell ⟨q, 1, none⟩ x1).setCell ⟨q, 2, none⟩ x2).setCell ⟨q, 3, none⟩ x3).setCell ⟨q, 4, none⟩ x4 ∧ w'.heap[q]? = some (.cells #[x0, x1, x2, x3, x4] ty (0, 0)) ∧ w'.heap.size = w.heap.size ∧ (∀ k, k ≠ q → w'.heap[k]? = w.heap[k]?) ∧
    ∀ B w0, B ≤ q → Below B w0 w → Below B w0 w' := by
  refine ⟨_, rfl, ?_, ?_, fun k hk => by simp [World.setCell, Array.getElem?_modify, Ne.symm hk], fun B w0 hB hb => ((((hb.setCell hB _).setCell hB _).setCell hB _).setCell hB _).setCell hB _⟩
  · simp [World.setCell, Array.getElem?_modify, h]
  · simp [World.setCell]
theorem free5 {w : World} {ty q : Nat} {z0 z1 z2 z3 z4 : Value} (h : w.heap[q]? = some (.cells #[z0, z1, z2, z3, z4] ty (0, 0))) :
    w.cell? ⟨q, 0, none⟩ = some z0 ∧ w.cell? ⟨q, 1, none⟩ = some z1 ∧ w.cell? ⟨q, 2, none⟩ = some z2 ∧ w.cell? ⟨q, 3, none⟩ = some z3 ∧ w.cell? ⟨q, 4, none⟩ = some z4 ∧ w.frozen? ⟨q, 0, none⟩ = false ∧ w.frozen? ⟨q, 1, none⟩ = false ∧ w.frozen? ⟨q, 2, none⟩ = false ∧ w.frozen? ⟨q, 3, none⟩ = false ∧ w.frozen? ⟨q, 4, none⟩ = false := by
  simp [World.cell?, World.frozen?, h]
theorem ClV.box {t : VT} {w w0 w2 w4 : World} {e : Ending} (h : ClV t w0 e w2) (hb0 : Below w.heap.size w w0) (hk : ∀ k, w0.heap.size ≤ k → w4.heap[k]? = w2.heap[k]?) (hb4 : Below w.heap.size w w4) : ClV t w e w4 := by
  obtain ⟨v', F, he, h1, h2, h3, _⟩ := h
  exact ⟨v', F, he, h1.keep fun b hb => hk b (h3 b hb), h2, fun b hb => Nat.le_trans hb0.size (h3 b hb), hb4⟩

set_option maxHeartbeats 2000000 in
theorem clone_val (t : VT) : ∀ (v : Value) (w : World), ValAt w t v → fitV t = true → sizeV t ≤ 1000000 → Calls Tryz.prog 30 #[v] w (ClV t w) := by
  induction t using VT.ind with
  | h k b tx its ks ih =>
    intro v w h hp hs
    rw [ValAt] at h
    obtain ⟨vi, vk, rfl, hk, hks, vs, hr, hv⟩ := h
    rw [sizeV] at hs
    have hll := sizeL_len its
    rw [fitV_mk] at hp
    have hkl : ks.length ≤ 1000000 := by
      have := hp.1
      omega
    have CS := fun W hb => clone_strs vk ks W (hks.mono hb) hkl
    have CL := fun W hb => clones_of its (fun t ht v w hv => ih t ht v w hv (hp.2 t ht) (by have := sizeL_mem ht; omega)) (by omega) vi vs W (hr.mono hb) (hv.mono hb)
    obtain ⟨ak, ck, hvk, -⟩ := id hks
    obtain ⟨ai, ci, hvi, -⟩ := id hr
    subst hvk hvi
    obtain ⟨w0, hw0⟩ : ∃ w0, w0 = (w.alloc (.cells #[.int .i64 k, .bool b, str tx, .slice ai its.length ci, .slice ak ks.length ck] 41)).alloc (.cells #[.int .i64 0, .bool false, .string ⟨#[]⟩, .slice none 0 0, .slice none 0 0] 41) := ⟨_, rfl⟩
    have hs0 : w0.heap.size = w.heap.size + 2 := by rw [hw0]; simp only [World.alloc, Array.size_push]
    have hb0 : Below w.heap.size w w0 := by rw [hw0]; exact ((Below.refl _ w).alloc (Nat.le_refl _) _).alloc (by simp) _
    have hx0 : w0.heap[w.heap.size]? = some (.cells #[.int .i64 k, .bool b, str tx, .slice ai its.length ci, .slice ak ks.length ck] 41 (0, 0)) := by
      rw [hw0]; exact (Below.heap_alloc _ _ _ (by simp <;> omega)).trans (heap_alloc_new _ _)
    have hr0 : w0.heap[w.heap.size + 1]? = some (.cells #[.int .i64 0, .bool false, .string ⟨#[]⟩, .slice none 0 0, .slice none 0 0] 41 (0, 0)) := by
      have := heap_alloc_new (w.alloc (.cells #[.int .i64 k, .bool b, str tx, .slice ai its.length ci, .slice ak ks.length ck] 41)) (.cells #[.int .i64 0, .bool false, .string ⟨#[]⟩, .slice none 0 0, .slice none 0 0] 41)
      rw [show (w.alloc (.cells #[.int .i64 k, .bool b, str tx, .slice ai its.length ci, .slice ak ks.length ck] 41)).heap.size = w.heap.size + 1 by simp only [World.alloc, Array.size_push]] at this
      rw [hw0]; exact this
    obtain ⟨_, _, _, a3, a4, _, _⟩ := cell_box5 hx0
    have HR0 := Lib.hid hr0
    have CS0 := CS w0.drew hb0.drew
    have CL1 := fun w1 (hb : Below w0.drew.heap.size w0.drew w1) => CL w1 (hb0.drew.trans (hb.mono (by have := hb0.size; simpa using this)))
    have HV := fun w1 w2 vk' vi' Fk => ClL.val (b := b) (ks := ks) (its := its) (w := w0) (w1 := w1) (w2 := w2) (vk := vk') (vi := vi') (Fk := Fk) hk
    have HH := Lib.hid HV
    have HX := Lib.hid hx0
    clear ih hks hr hv hp HV hkl hll hs hx0 hr0 CS CL
    go_enter Tryz.func30, Tryz.ntmps30
    go_upto_region 1 with (rw [← hw0])
    clear hw0
    go_region_with
      (first
        | (go_at_call 61; refine CS0.mono ?_; rintro e w1 ⟨vk', Fk, rfl, hOk, hgek, hb1⟩; obtain ⟨ak', ck', rfl, _⟩ := hOk.form; have k3 := (hb1.cell (p := ⟨w.heap.size, 3, none⟩) (by show w.heap.size < w0.drew.heap.size; simp; omega)).trans a3; have k4 := (hb1.cell (p := ⟨w.heap.size, 4, none⟩) (by show w.heap.size < w0.drew.heap.size; simp; omega)).trans a4)
        | (go_at_call 62; refine (CL1 _ hb1).mono ?_; rintro e w2 ⟨vi', rfl, hcl⟩; have hz1 := hb1.size; have hb2 := hcl.below; obtain ⟨ai', ci', rfl⟩ := hcl.form; have m3 := (hb2.cell (p := ⟨w.heap.size, 3, none⟩) (by simp at hz1 ⊢; omega)).trans k3; have m4 := (hb2.cell (p := ⟨w.heap.size, 4, none⟩) (by simp at hz1 ⊢; omega)).trans k4; have hx2 := ((hb2.block w.heap.size (by simp at hz1 ⊢; omega)).trans (hb1.block w.heap.size (by simp; omega))).trans HX.out; obtain ⟨_, _, _, _, _, g3, g4⟩ := cell_box5 hx2; have HX2 := Lib.hid hx2; clear hx2))
    all_goals
      have hb12 : Below w0.heap.size w0 w1 := (Below.refl _ w0).drew.trans (hb1.mono (by simp))
      have hb13 : Below w0.heap.size w0 w2 := hb12.trans (hb2.mono hz1)
      obtain ⟨w4, hw4, hr4, hz4, hk4, hB4⟩ := set_box5 HX2.out (.slice ai' its.length ci') (.slice ak' ks.length ck')
      obtain ⟨q0, q1, q2, q3, q4, _, _⟩ := cell_box5 hr4
      have hr2 := (hk4 (w.heap.size + 1) (by omega)).trans ((hb13.block (w.heap.size + 1) (by omega)).trans HR0.out)
      obtain ⟨z0, z1, z2, z3, z4, y0, y1, y2, y3, y4⟩ := free5 hr2
      obtain ⟨w5, hw5, hr5, hz5, hk5, hB5⟩ := put_box5 hr2 (.int .i64 k) (.bool b) (.string ⟨tx.toArray⟩) (.slice ai' its.length ci') (.slice ak' ks.length ck')
      obtain ⟨p0, p1, p2, p3, p4, _, _⟩ := cell_box5 hr5
      have hfin : ClV (.mk k b tx its ks) w _ w5 := (HH.out w1 w2 _ _ Fk hOk (fun b hb => hgek b hb) hb12 hcl).box hb0 (fun k hk => (hk5 k (by omega)).trans (hk4 k (by omega))) (hB5 _ _ (by omega) (hB4 _ _ (Nat.le_refl _) (hb0.trans (hb13.mono hb0.size))))
      have HF := Lib.hid hfin
      rw [← hw4]
      clear hfin hw4 hr4 hk4 hB4 hOk hcl k3 k4 m3 m4 g3 g4 a3 a4 CS0 CL1 HH hr2 hr5 hk5 hB5
      have HW := Lib.hid hw5
      clear hw5
      go_wp2
      rw [← HW.out]
      refine bodyPost_ret (v := .agg #[.int .i64 k, .bool b, str tx, .slice ai' its.length ci', .slice ak' ks.length ck']) (by simp [results, go_sem, p0, p1, p2, p3, p4]) rfl ?_
      exact HF.out

end Go.Proofs.YtpbipngnoklmcaaGreatDoor
