/- An append to a row of the call's own, in place or new, as a step of a region that draws. The walk of note. strconv.Atoi at any text. The walk of behind: the number from which on an ID is looked for. -/
import Derived.Test.YtpbipngnoklmcaaGreatDoorMWldK
import Derived.Deep.RegionLaw
import Derived.Shelf.RegionOpenPlain
import Derived.Test.YtpbipngnoklmcaaGreatDoorMGoods
import Derived.Test.YtpbipngnoklmcaaGreatDoorMValK
import Derived.Test.YtpbipngnoklmcaaGreatDoorMLimbP
import Derived.Test.YtpbipngnoklmcaaGreatDoorShelf
import Derived.Lib.SmallJoins
import Derived.Test.YtpbipngnoklmcaaGreatDoorMWldM
namespace Go.Proofs.YtpbipngnoklmcaaGreatDoor
open Go.RowKit
set_option maxRecDepth 100000

theorem step_append_fresh {P : Program} {ops : Array Oper} {o : Oper} {a : Act} {w : World} {K : Act → World → Prop} {Q : Exit → Act → World → Prop} {E : Prop}
    (hgd : o.guard = none) (s x : Operand) (t : TypeId) (ho : o.op = .call { callee := .builtin .append, args := #[s, x], argTypes := #[t, t] })
    (base : Nat) (e : TypeId) (i : TypeInfo) (z : Value) (size bytes : Nat) (ht : P.underlying t = some (.slice e)) (hi : P.info? e = some i) (hz : i.zero = some z)
    (hsize : i.size = size) (hby : i.bytes = bytes) (hzs : z.cells.size = size) (hsz : 0 < size)
    (v : Value) (n : Nat) (xs : List Value) (hs : a.eval s = v) (hown : w.ownsRow base e size v n xs)
    (ad : Addr) (m c : Nat) (news : List Value) (hx : a.eval x = .slice (some ad) m c) (hl : news.length = m * size) (hnews : ∀ j u, news[j]? = some u → w.cell? (ad.add j) = some u) (h1 : ∀ u ∈ news, u.oneCell' = true)
    (h63 : n + m ≤ maxLen) (hbytes : (n + m) * bytes ≤ 140737488355328) (hbase : base ≤ w.heap.size)
    (h : ∀ v' w', w'.ownsRow base e size v' (n + m) (xs ++ news) → w.grownBy w' v.ownBlock → (v'.ownBlock = v.ownBlock ∨ v'.ownBlock = some w.heap.size) → K (a.put o.dst v') w') :
    if Region.wanted o (yielded ops a.tmps) = true then Oper.wp P o a w K Q else E := by
  have hw : Region.wanted o (yielded ops a.tmps) = true := by simp [Region.wanted, hgd]
  rw [if_pos hw]
  obtain ⟨v', w', hr, h2, h3, h4⟩ := run_append_fresh (P := P) w base t o.type e i z size bytes ht hi hz hsize hby hzs hsz v n xs hown ad m c news hl hnews h1 h63 hbytes hbase
  unfold Oper.wp execOp
  simp only [ho, resolve, invoke, builtin, Sem.run_bind, Sem.run_pure, Result.andThen_ok, List.map_toArray, List.map_cons, List.map_nil, hs, hx, hr]
  exact h v' w' h2 h3 h4

end Go.Proofs.YtpbipngnoklmcaaGreatDoor
namespace Go.Proofs.YtpbipngnoklmcaaGreatDoor
open Go.RowKit
set_option maxRecDepth 100000
attribute [local go_sem] str_size str_toList str_get

theorem setC {w : World} {b : Nat} {cs : Array Value} {T : TypeId} {fz : Nat × Nat} (h : w.heap[b]? = some (.cells cs T fz)) (o : Nat) (u : Value) : (w.setCell ⟨b, o, none⟩ u).heap[b]? = some (.cells (cs.setIfInBounds o u) T fz) := by
  show (w.heap.modify b _)[b]? = _
  rw [Array.getElem?_modify, if_pos rfl, h]
  rfl
theorem setC_size (w : World) (a : Addr) (u : Value) : (w.setCell a u).heap.size = w.heap.size := by simp [World.setCell]
theorem setC_spares (w : World) (b o : Nat) (u : Value) : Spares [b] w (w.setCell ⟨b, o, none⟩ u) :=
  ⟨rfl, rfl, rfl, by rw [setC_size]; exact Nat.le_refl _, fun k _ hk => Below.heap_setCell _ _ _ _ (by simpa using hk)⟩
theorem call_snoc (ts : List T5) (t : T5) : callCells (ts ++ [t]) = callCells ts ++ [.int .i64 t.1, str t.2.1, str t.2.2.1, str t.2.2.2.1, .int .i64 t.2.2.2.2] := by
  unfold callCells
  rw [List.flatMap_append]
  rfl
theorem slice_form {w : World} {base e size n : Nat} {v : Value} {xs : List Value} (h : w.ownsRow base e size v n xs) : ∃ P cap, v = .slice P n cap := by
  rcases h.2 with ⟨h1, h2⟩ | ⟨g, cap, _, h1, _⟩
  · exact ⟨none, 0, by rw [h1, h2]⟩
  · exact ⟨_, _, h1⟩

/-- What a call leaves of the world: what it may write lies in the same blocks, or in new ones. -/
def WStep (w : World) (p b n : Nat) (S : WS) (vf vt : Value) (w' : World) : Prop :=
  ∃ val' vt' D', WAt w' p b n S val' vf vt' D' ∧ Spares (wF p b vt) w w' ∧ (∀ q ∈ wF p b vt', q ∈ wF p b vt ∨ w.heap.size ≤ q)
variable {w : World} {p b n : Nat} {S : WS} {val : S8 → S8 → Value} {vf vt : Value} {D : DataW Value}

theorem WStep.spares {w : World} {p b n : Nat} {S : WS} {vf vt : Value} {w' : World} (h : WStep w p b n S vf vt w') : Spares (wF p b vt) w w' := h.elim fun _ h => h.elim fun _ h => h.elim fun _ h => h.2.1
theorem WAt.noted (h : WAt w p b n S val vf vt D) {w3 : World} {v' : Value} (t : T5) (hs : Spares vt.ownBlock.toList w w3)
    (hown : w3.ownsRow 0 58 5 v' (S.trace.length + 1) (callCells S.trace ++ [.int .i64 t.1, str t.2.1, str t.2.2.1, str t.2.2.2.1, .int .i64 t.2.2.2.2]))
    (hv' : v'.ownBlock = vt.ownBlock ∨ ∃ g, v'.ownBlock = some g ∧ w.heap.size ≤ g) :
    WStep w p b n ⟨S.objs, S.fails, S.trace ++ [t]⟩ vf vt (w3.setCell ⟨p, 2, none⟩ v') := by
  have hp : p ∉ vt.ownBlock.toList := fun hm => by
    rw [Option.mem_toList] at hm
    exact (h.trace_apart hm).1 rfl
  have hsp : Spares (wF p b vt) w (w3.setCell ⟨p, 2, none⟩ v') :=
    (hs.sub fun k hk _ => by unfold wF; simp [hk]).trans ((setC_spares w3 p 2 v').sub fun k hk _ => by unfold wF; simp at hk; simp [hk])
  have hbox3 := (hs.block p (heap_lt h.box) hp).trans h.box
  have hkeep : ∀ {q : Nat} {o : Obj}, w.heap[q]? = some o → q ∉ wF p b vt → (w3.setCell ⟨p, 2, none⟩ v').heap[q]? = w.heap[q]? := fun hq hn => hsp.block _ (heap_lt hq) hn
  refine ⟨val, v', D, ⟨?_, ?_, h.rel, h.ris, h.fit, ?_, ?_, ?_⟩, hsp, ?_⟩
  · exact setC hbox3 2 v'
  · refine map_keep h.map ?_
    obtain ⟨es, clock, hb⟩ := map_block h.map
    have hb3 : b ∉ vt.ownBlock.toList := fun hm => by
      rw [Option.mem_toList] at hm
      exact (h.trace_apart hm).2 rfl
    rw [Below.heap_setCell _ _ _ _ (by exact fun e => h.p_ne_b e.symm)]
    exact hs.block b (heap_lt hb) hb3
  · exact h.vals.keep fun o ho F hF q hq => by
      exact hsp.block q (hF.lt q hq) (h.vals_apart hF hq)
  · refine row_keep h.fails fun q hq => ?_
    obtain ⟨_, hh⟩ := row_block h.fails hq
    exact hkeep hh (h.fails_apart hq)
  · show (w3.setCell ⟨p, 2, none⟩ v').ownsRow 0 _ 5 v' (S.trace ++ [t]).length (callCells (S.trace ++ [t]))
    rw [call_snoc, List.length_append]
    refine row_keep hown fun q hq => Below.heap_setCell _ _ _ _ ?_
    rintro rfl
    rcases hv' with e | ⟨g, e, hg⟩
    · rw [e] at hq
      exact (h.trace_apart hq).1 rfl
    · rw [e] at hq
      cases hq
      have := heap_lt h.box
      omega
  · intro q hq
    simp only [wF, List.mem_cons, Option.mem_toList] at hq ⊢
    rcases hq with rfl | rfl | hq
    · exact .inl (.inl rfl)
    · exact .inl (.inr (.inl rfl))
    · rcases hv' with e | ⟨g, e, hg⟩
      · rw [e] at hq
        exact .inl (.inr (.inr hq))
      · rw [e] at hq
        cases hq
        exact .inr hg

set_option maxHeartbeats 4000000 in
theorem note_w (h : WAt w p b n S val vf vt D) (op : Int) (addr typ i : S8) (er : Int) (hl : S.trace.length ≤ 100000) :
    Calls Tryz.prog 51 #[.pointer (some ⟨p, 0, none⟩), .int .i64 op, str addr, nameV typ i, .int .i64 er] w fun e w' => e = .returned (.int .i64 er) ∧ WStep w p b n (noteP S op addr typ i er) vf vt w' := by
  have mixed : Tryz.prog.follows .mixedOrders = true := by kernel_rfl
  obtain ⟨w0, hw0⟩ : ∃ w0, w0 = w.alloc (.cells #[str typ, str i] 78) := ⟨_, rfl⟩
  have hn0 : w0.heap[w.heap.size]? = some (.cells #[str typ, str i] 78 (0, 0)) := by rw [hw0]; exact heap_alloc_new _ _
  have hb0 : Below w.heap.size w w0 := by rw [hw0]; exact (Below.refl _ w).alloc (Nat.le_refl _) _
  have e0 : w0.cell? ⟨w.heap.size, 0, none⟩ = some (str typ) := by rw [Lib.cell_of_heap hn0]; rfl
  have e1 : w0.cell? ⟨w.heap.size, 1, none⟩ = some (str i) := by rw [Lib.cell_of_heap hn0]; rfl
  have h0 := h.below hb0
  have c2 : w0.cell? ⟨p, 2, none⟩ = some vt := by rw [Lib.cell_of_heap h0.box]; rfl
  have hpl : p < w0.heap.size := heap_lt h0.box
  have hpn : ¬ w0.heap.size = p := by omega
  have hpn2 : ¬ p = w0.heap.size := by omega
  have hwl : w.heap.size < w0.heap.size := heap_lt hn0
  have hwn : ¬ w0.heap.size = w.heap.size := by omega
  have hwn2 : ¬ w.heap.size = w0.heap.size := by omega
  obtain ⟨P, cap, hvt⟩ := slice_form h.trace
  subst hvt
  have H := Lib.hid h
  have H0 := Lib.hid h0
  obtain ⟨i1, hi1, hz1, hzs1, hzb1⟩ := info_parts (P := Tryz.prog) (e := 58) (z := .agg #[.int .i64 0, .string ⟨#[]⟩, .string ⟨#[]⟩, .string ⟨#[]⟩, .int .i64 0]) (size := 5) (bytes := 64) (by kernel_rfl)
  have hO : ∀ W, Below w0.heap.size w0 W → W.ownsRow 0 58 5 (.slice P S.trace.length cap) S.trace.length (callCells S.trace) := fun W hW => (h0.below hW).trace
  have HO := Lib.hid hO
  have hB : ∀ W W3, Below w0.heap.size w0 W → W.grownBy W3 (Value.slice P S.trace.length cap).ownBlock → W3.cell? ⟨p, 2, none⟩ = some (.slice P S.trace.length cap) ∧ W3.frozen? ⟨p, 2, none⟩ = false := fun W W3 hW hg => by
    have hw := h0.below hW
    have hp : some p ≠ (Value.slice P S.trace.length cap).ownBlock := fun e => (hw.trace_apart e.symm).1 rfl
    have hh := (hg.block p (heap_lt hw.box) hp).trans hw.box
    exact ⟨by rw [Lib.cell_of_heap hh]; rfl, Lib.frozen_of_heap hh 2⟩
  have HB := Lib.hid hB
  have hK : ∀ W W3 v', Below w0.heap.size w0 W → W.grownBy W3 (Value.slice P S.trace.length cap).ownBlock → W3.ownsRow 0 58 5 v' (S.trace.length + 1) (callCells S.trace ++ [.int .i64 op, str addr, str typ, str i, .int .i64 er]) →
      (v'.ownBlock = (Value.slice P S.trace.length cap).ownBlock ∨ v'.ownBlock = some W.heap.size) → WStep w p b n (noteP S op addr typ i er) vf (.slice P S.trace.length cap) (W3.setCell ⟨p, 2, none⟩ v') := fun W W3 v' hW hg ho hv => by
    refine h.noted (op, addr, typ, i, er) ?_ ho ?_
    · have s1 : Spares (Value.slice P S.trace.length cap).ownBlock.toList w W := Spares.of_below (hb0.trans (hW.mono hb0.size))
      exact s1.trans (Spares.grown hg fun k hk => by rw [hk]; simp)
    · rcases hv with e | e
      · exact .inl e
      · exact .inr ⟨_, e, Nat.le_trans hb0.size hW.size⟩
  have HKK := Lib.hid hK
  clear hn0 h h0 hO hB hK
  have hnv : nameV typ i = .agg #[str typ, str i] := rfl
  rw [hnv]
  clear hnv
  go_enter Tryz.func51, Tryz.ntmps51
  go_upto_region 1 with fail
  rw [← hw0]
  clear hw0
  go_region_law_o (refine step_append_fresh rfl (.tmp 15) (.tmp 24) 30 rfl 0 58 i1 _ 5 64 Tryz.underlying30 hi1 hz1 hzs1 hzb1 rfl (by decide) (.slice P S.trace.length cap) S.trace.length (callCells S.trace) (by simp [Act.eval]) (HO.out _ (((Below.refl _ w0).drew).alloc (Nat.le_refl _) _)) ⟨w0.heap.size, 0, none⟩ 1 1 [.int .i64 op, str addr, str typ, str i, .int .i64 er] (by simp [Act.eval]) rfl (cells_new _ _ _) (by intro u hu; simp at hu; rcases hu with rfl | rfl | rfl | rfl | rfl <;> rfl) (by unfold maxLen; omega) (by omega) (by simp) ?_; intro v' w3 hown hgrow hv'; obtain ⟨d2, f2⟩ := HB.out _ w3 (((Below.refl _ w0).drew).alloc (Nat.le_refl _) _) hgrow; obtain ⟨a', c', rfl⟩ := slice_form hown)
  all_goals have HR := Lib.hid (HKK.out _ w3 _ (((Below.refl _ w0).drew).alloc (Nat.le_refl _) _) hgrow hown hv')
  all_goals clear hown hgrow hv' HKK HB HO H H0 d2 f2 e0 e1 c2
  all_goals go_wp2
  all_goals go_ret
  all_goals exact ⟨rfl, HR.out⟩

end Go.Proofs.YtpbipngnoklmcaaGreatDoor
namespace Go.Proofs.YtpbipngnoklmcaaGreatDoor
open Go.RowKit
set_option maxRecDepth 100000
attribute [local go_sem] str_size str_toList str_get

theorem var_mono {w w' : World} {n : String} {cs : Array Value} (h : w.var? Tryz.prog n = some cs) (hb : Below w.heap.size w w') : w'.var? Tryz.prog n = some cs := by
  unfold World.var? at h ⊢
  cases hg : Tryz.prog.globalNamed n with
  | none => simp [hg] at h
  | some g =>
    simp only [hg, Option.bind_some] at h ⊢
    have hlt : g < w.heap.size := by
      rcases Nat.lt_or_ge g w.heap.size with h' | h'
      · exact h'
      · simp [Array.getElem?_eq_none h'] at h
    rw [hb.block g hlt]
    exact h
/-- The two errors of strconv, whatever they are. -/
def ErrW (w : World) : Prop := (∃ tp p, w.var? Tryz.prog "strconv.ErrSyntax" = some #[.iface tp p]) ∧ (∃ tp p, w.var? Tryz.prog "strconv.ErrRange" = some #[.iface tp p])
theorem ErrW.mono {w w' : World} (h : ErrW w) (hb : Below w.heap.size w w') : ErrW w' := by
  obtain ⟨⟨t1, p1, h1⟩, t2, p2, h2⟩ := h
  exact ⟨⟨t1, p1, var_mono h1 hb⟩, t2, p2, var_mono h2 hb⟩

/-- What Atoi answers: a number and no error, or some number and an error. -/
def AtoiPost (a : List UInt8) (w : World) (e : Ending) (w' : World) : Prop := Below w.heap.size w w' ∧
  ((∃ v, Lib.atoiAll a = .ok v ∧ e = .returned (.tuple #[.int .i64 v, .nilIface])) ∨
   ((∀ v, Lib.atoiAll a ≠ .ok v) ∧ ∃ v tp p, e = .returned (.tuple #[.int .i64 v, .iface tp (.pointer p)])))
theorem atoi_any (a : List UInt8) (hl : a.length ≤ 281474976710656) (w : World) (hE : ErrW w) : Calls Tryz.prog 74 #[str a] w (AtoiPost a w) := by
  obtain ⟨⟨t1, p1, h1⟩, t2, p2, h2⟩ := hE
  cases h : Lib.atoiAll a with
  | ok v =>
    refine (Tryz.strconv_Atoi_ok ⟨a.toArray⟩ (by rw [str_size]; omega) v h w).mono ?_
    rintro e w' ⟨rfl, hw⟩
    refine ⟨?_, Or.inl ⟨v, h, rfl⟩⟩
    rcases hw with rfl | ⟨t, rfl⟩
    · exact Below.refl _ _
    · exact Lib.bytesWorld_below _ _ _
  | range =>
    refine (Tryz.strconv_Atoi_range_var ⟨a.toArray⟩ (by rw [str_size]; omega) h t2 p2 w h2).mono ?_
    rintro e w' ⟨N, rfl, _, _, hb⟩
    exact ⟨hb, Or.inr ⟨fun v => by rw [h]; simp, _, _, _, rfl⟩⟩
  | _ =>
    refine (Tryz.strconv_Atoi_syntax_var ⟨a.toArray⟩ (by rw [str_size]; omega) h t1 p1 w h1).mono ?_
    rintro e w' ⟨N, rfl, _, _, hb⟩
    exact ⟨hb, Or.inr ⟨fun v => by rw [h]; simp, _, _, _, rfl⟩⟩


end Go.Proofs.YtpbipngnoklmcaaGreatDoor
namespace Go.Proofs.YtpbipngnoklmcaaGreatDoor
open Go.RowKit
set_option maxRecDepth 100000
attribute [local go_sem] str_size str_toList str_get

theorem behind_no {addr after : S8} (h : (addr ++ [35]).isPrefixOf after = false) : behindP addr after = 1 := by
  unfold behindP
  rw [if_neg]
  rintro ⟨h', _⟩
  rw [h] at h'
  cases h'
theorem behind_ok {addr after : S8} (h : (addr ++ [35]).isPrefixOf after = true) {v : Int} (hv : Lib.atoiAll (after.drop (addr.length + 1)) = .ok v) :
    behindP addr after = if (1 ≤ v ∧ v ≤ 1000000000) ∧ Lib.itoa v = after.drop (addr.length + 1) then v + 1 else 1 := by
  unfold behindP
  generalize after.drop (addr.length + 1) = s at *
  by_cases hc : (1 ≤ v ∧ v ≤ 1000000000) ∧ Lib.itoa v = s
  · rw [if_pos hc]
    obtain ⟨⟨h1, h2⟩, rfl⟩ := hc
    have hg : goodS (Lib.itoa v) = true := good_itoa (by
      have : v.natAbs ≤ 1000000000 := by omega
      exact Nat.lt_of_le_of_lt this (by decide))
    have hi : intR (Lib.itoa v) = (v, true) := by
      unfold intR
      rw [valS_itoa, if_pos ⟨hg, by omega, by omega⟩]
    rw [hi, if_pos ⟨h, rfl, h1, h2⟩]
  · rw [if_neg hc, if_neg]
    rintro ⟨_, h2, h3, h4⟩
    unfold intR at h2 h3 h4
    by_cases hg : goodS s = true ∧ -9223372036854775808 ≤ valS s ∧ valS s ≤ 9223372036854775807
    · rw [if_pos hg] at h3 h4
      have := atoi_good hg.1
      rw [if_pos hg.2, hv] at this
      injection this with this
      subst this
      exact hc ⟨⟨h3, h4⟩, good_text hg.1⟩
    · rw [if_neg hg] at h2
      cases h2
theorem behind_err {addr after : S8} (hv : ∀ v, Lib.atoiAll (after.drop (addr.length + 1)) ≠ .ok v) : behindP addr after = 1 := by
  unfold behindP
  generalize after.drop (addr.length + 1) = s at *
  rw [if_neg]
  rintro ⟨_, h2, _⟩
  unfold intR at h2
  by_cases hg : goodS s = true ∧ -9223372036854775808 ≤ valS s ∧ valS s ≤ 9223372036854775807
  · have := atoi_good hg.1
    rw [if_pos hg.2] at this
    exact hv _ this
  · rw [if_neg hg] at h2
    cases h2
theorem behind_bd (addr after : S8) : 1 ≤ behindP addr after ∧ behindP addr after ≤ 1000000001 := by
  unfold behindP
  split
  · next h => omega
  · omega

theorem grow_below (w : World) (k : Nat) (os : Array Obj) : Below w.heap.size w (Sort.grow (w.drewN k) os) :=
  ⟨rfl, rfl, rfl, by simp [Sort.grow], fun j hj => by simp only [Sort.grow]; rw [Array.getElem?_append_left (show j < (w.drewN k).heap.size from hj)]; rfl⟩
theorem cut_lite (s p : S8) (w : World) : Calls Tryz.prog 92 #[str s, str p] w fun e w' => e = .returned (.tuple #[str (if p.isPrefixOf s = true then s.drop p.length else s), .bool (p.isPrefixOf s)]) ∧ w' = w := by
  have HP := fun W => Tryz.stringslite_HasPrefix ⟨s.toArray⟩ ⟨p.toArray⟩ W
  have hpe : Lib.hasPrefix s p = p.isPrefixOf s := rfl
  simp only [hpe] at HP
  cases hq : p.isPrefixOf s with
  | false =>
    rw [if_neg (by simp)]
    simp only [hq] at HP
    go_enter Tryz.func92, Tryz.ntmps92
    go_wp2_with fail
    refine (HP _).mono ?_
    rintro e w1 ⟨rfl, hw1⟩
    rw [hw1]
    go_wp2
    go_ret2
    exact ⟨rfl, rfl⟩
  | true =>
    rw [if_pos rfl]
    simp only [hq] at HP
    have hl : p.length ≤ s.length := (List.isPrefixOf_iff_prefix.1 hq).length_le
    have hli : (p.length : Int) ≤ (s.length : Int) := by omega
    have hcut : (ByteArray.mk s.toArray).extract p.length s.length = ByteArray.mk (s.drop p.length).toArray := by
      rw [ByteArray.extract_mk]
      simp
      rw [List.take_of_length_le (by rw [List.length_drop]; omega)]
    obtain ⟨T, hT⟩ : ∃ T, s.drop p.length = T := ⟨_, rfl⟩
    rw [hT] at hcut ⊢
    clear hq hT hpe
    go_enter Tryz.func92, Tryz.ntmps92
    go_wp2_with fail
    refine (HP _).mono ?_
    rintro e w1 ⟨rfl, hw1⟩
    rw [hw1]
    go_wp2
    go_ret2
    exact ⟨rfl, rfl⟩
theorem cut_prefix (s p : S8) (w : World) : Calls Tryz.prog 73 #[str s, str p] w fun e w' => e = .returned (.tuple #[str (if p.isPrefixOf s = true then s.drop p.length else s), .bool (p.isPrefixOf s)]) ∧ w' = w := by
  have C := fun W => cut_lite s p W
  generalize (if p.isPrefixOf s = true then s.drop p.length else s) = T at C ⊢
  generalize p.isPrefixOf s = B at C ⊢
  go_enter Tryz.func73, Tryz.ntmps73
  go_wp2_with fail
  refine (C _).mono ?_
  rintro e w1 ⟨rfl, hw1⟩
  rw [hw1]
  go_wp2
  go_ret2
  exact ⟨rfl, rfl⟩

set_option maxHeartbeats 2000000 in
theorem behind_w (addr after : S8) (ha : addr.length ≤ 281474976710656) (hl : after.length ≤ 281474976710656) (w : World) (hE : ErrW w) (hT : TabW w) :
    Calls Tryz.prog 52 #[str addr, str after] w fun e w' => e = .returned (.int .i64 (behindP addr after)) ∧ Below w.heap.size w w' := by
  have ad : ∀ W, (Op.stringOp .add (ByteArray.mk addr.toArray) (ByteArray.mk ([35] : S8).toArray)).run Tryz.prog W = .ok (str (addr ++ [35])) W := fun W => str_add _ _ (by simp only [List.length_cons, List.length_nil]; omega)
  have CP := fun W => cut_prefix after (addr ++ [35]) W
  have hpl : (addr ++ [35]).length = addr.length + 1 := by rw [List.length_append]; rfl
  rw [hpl] at CP
  obtain ⟨AP, hAP⟩ : ∃ x, addr ++ [35] = x := ⟨_, rfl⟩
  cases hq : (addr ++ [35]).isPrefixOf after with
  | false =>
    rw [behind_no hq]
    rw [hq, if_neg (by simp)] at CP
    rw [hAP] at CP ad
    have AT := fun W (hW : ErrW W) => atoi_any after hl W hW
    clear hq hAP hpl
    go_enter Tryz.func52, Tryz.ntmps52
    go_wp2_with fail
    refine (CP _).mono ?_
    rintro e w1 ⟨rfl, hw1⟩
    rw [hw1]
    go_wp2_with fail
    refine (AT w hE).mono ?_
    rintro e w2 ⟨hb2, ha2⟩
    rcases ha2 with ⟨v, _, rfl⟩ | ⟨_, v, tp, pp, rfl⟩
    · go_wp2
      go_ret
      exact ⟨rfl, hb2⟩
    · go_wp2
      go_ret
      exact ⟨rfl, hb2⟩
  | true =>
    rw [hq, if_pos rfl] at CP
    have hdl : (after.drop (addr.length + 1)).length ≤ 281474976710656 := by rw [List.length_drop]; omega
    have AT := fun W (hW : ErrW W) => atoi_any (after.drop (addr.length + 1)) hdl W hW
    have BO := fun v hv => behind_ok (addr := addr) (after := after) hq (v := v) hv
    have BE := fun hv => behind_err (addr := addr) (after := after) hv
    obtain ⟨R, hR⟩ : ∃ R, behindP addr after = R := ⟨_, rfl⟩
    rw [hR] at BO BE ⊢
    generalize after.drop (addr.length + 1) = s at CP AT BO BE
    rw [hAP] at CP ad
    have HBO := Lib.hid BO
    have HBE := Lib.hid BE
    clear hq hAP hpl hdl hR BO BE
    go_enter Tryz.func52, Tryz.ntmps52
    go_wp2_with fail
    refine (CP _).mono ?_
    rintro e w1 ⟨rfl, hw1⟩
    rw [hw1]
    go_wp2_with fail
    refine (AT w hE).mono ?_
    rintro e w2 ⟨hb2, ha2⟩
    rcases ha2 with ⟨v, hv, rfl⟩ | ⟨hv, v, tp, pp, rfl⟩
    · have hr := HBO.out v hv
      have HR := Lib.hid hr
      clear hr hv HBO HBE
      by_cases h1 : 1 ≤ v
      · have n1 : ¬ v < 1 := by omega
        by_cases h2 : v ≤ 1000000000
        · have n2 : ¬ 1000000000 < v := by omega
          have IT := Tryz.strconv_Itoa v (by omega) (by omega) w2 (hT.mono hb2)
          obtain ⟨I, hI⟩ : ∃ I, Lib.itoa v = I := ⟨_, rfl⟩
          rw [hI] at IT
          have HI := Lib.hid hI
          clear hI
          have hwv : IntKind.i64.wrap (v + 1) = v + 1 := by rw [IntKind.wrap_i64]; omega
          cases hs : (I == s) with
          | true =>
            have hs2 : (I != s) = false := by simp [bne, hs]
            have HS := Lib.hid hs
            go_wp2_with fail
            refine IT.mono ?_
            rintro e w3 ⟨rfl, kk, os, rfl⟩
            go_wp2
            go_ret
            refine ⟨?_, hb2.trans ((grow_below w2 kk os).mono hb2.size)⟩
            rw [HR.out, if_pos ⟨⟨h1, h2⟩, by rw [HI.out]; simpa using HS.out⟩]
            rfl
          | false =>
            have hs2 : (I != s) = true := by simp [bne, hs]
            have HS := Lib.hid hs
            go_wp2_with fail
            refine IT.mono ?_
            rintro e w3 ⟨rfl, kk, os, rfl⟩
            go_wp2
            go_ret
            refine ⟨?_, hb2.trans ((grow_below w2 kk os).mono hb2.size)⟩
            rw [HR.out, if_neg (fun h => by
              have := h.2
              rw [HI.out] at this
              have hh := HS.out
              rw [this] at hh
              simp at hh)]
            rfl
        · have n2 : 1000000000 < v := by omega
          go_wp2
          go_ret
          refine ⟨?_, hb2⟩
          rw [HR.out, if_neg (fun h => absurd h.1.2 (by omega))]
          rfl
      · have n1 : v < 1 := by omega
        go_wp2
        go_ret
        refine ⟨?_, hb2⟩
        rw [HR.out, if_neg (fun h => absurd h.1.1 (by omega))]
        rfl
    · have hr := HBE.out hv
      have HR := Lib.hid hr
      clear hr hv HBO HBE
      go_wp2
      go_ret
      refine ⟨?_, hb2⟩
      rw [HR.out]
      rfl

end Go.Proofs.YtpbipngnoklmcaaGreatDoor
