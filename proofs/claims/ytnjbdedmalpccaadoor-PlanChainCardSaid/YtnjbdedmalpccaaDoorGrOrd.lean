/- Walk of the program's order: the document's. -/
import Derived.Test.YtnjbdedmalpccaaDoorGrOMem
namespace Go.Proofs.YtnjbdedmalpccaaDoor
open Go.RowKit

theorem assert_one (x : Int) (w : World) : (Instr.typeAssert (.iface 3 (.int .i64 x)) 20 3 false).run Tryd.prog w = .ok (.int .i64 x) w := by kernel_rfl

/-- The new heap. -/
theorem heap_new (w : World) : HeapAt ((w.alloc (.cells #[] 3)).alloc (.cells #[.slice (some ⟨w.heap.size, 0, none⟩) 0 0] 95)) (w.heap.size + 1) w.heap.size 0 [] := by
  refine ⟨?_, #[], ?_, by simp, by simp, by simp, by simp⟩
  · have e : w.heap.size + 1 = (w.alloc (.cells #[] 3)).heap.size := by simp
    rw [e, heap_alloc_new]; rfl
  · rw [Below.heap_alloc _ _ _ (by simp), heap_alloc_new]

/-- What order leaves. -/
def OrdPost (n : Nat) (es : List (Int × Int)) (w : World) (e : Ending) (w' : World) : Prop :=
  ∃ v', e = .returned v' ∧ IntsAt w' v' ((kahn n es).map fun i : Nat => (i : Int)) ∧ Below w.heap.size w w' ∧ (∀ k, v'.ownBlock = some k → w.heap.size ≤ k)

set_option maxRecDepth 100000 in
set_option maxHeartbeats 4000000 in
theorem order_any (v : Value) (es : List (Int × Int)) (n : Nat) (w : World) (hT : Tab w) (h : PairsAt w v es) (hn : n ≤ 512) (hes : ∀ e ∈ es, 0 ≤ e.1 ∧ e.1 < n ∧ 0 ≤ e.2 ∧ e.2 < n) :
    Calls Tryd.prog 22 #[.int .i64 n, v] w (OrdPost n es w) := by
  obtain ⟨i0, hi, hz0, hz1, hz2⟩ := info_parts Tryd.info3
  have HES := Lib.hid hes
  have hT0 := hT.1
  clear hes
  go_enter Tryd.func22, Tryd.ntmps22
  go_wp2_with (first | (at_make; refine wpList_make_full _ rfl _ _ 49 rfl w.heap.size 3 i0 _ 1 Tryd.underlying49 hi hz0 hz1 _ _ _ _ n rfl rfl rfl rfl (by rw [hz2]; omega) (by unfold maxLen; omega) (Nat.le_refl _) ?_))
  intro w1 hown hgrow
  have hb1 : Below w.heap.size w w1 := (Below.refl _ _).grown hgrow (Nat.le_refl _) (fun k hk => by cases hk)
  have hA : OwnInts w1 w.heap.size (cnts n (fun k => cntOf es (List.range 0) k)) := by
    have := ownsRow_block hown
    rw [made_ints] at this
    have e : cnts n (fun k => cntOf es (List.range 0) k) = List.replicate n 0 := by
      simp [cnts, cntOf, List.map_const']
    rw [e]; exact this
  have NX := nexts_any v es n w1 (h.mono hb1) hn HES.out
  clear hown hgrow
  go_wp2_with fail
  refine NX.mono ?_
  rintro e w2 ⟨rfl, hR, hb2⟩
  have hO : OMem w w2 w.heap.size w1.heap.size n es (cnts n (fun k => cntOf es (List.range 0) k)) :=
    ⟨(hT.mono hb1).mono hb2, hb1.trans (hb2.mono hb1.size), hA.kept (hb2.block _ hA.lt), hR, Nat.le_refl _, hA.lt⟩
  clear NX hA hR hb1 hb2 h hT
  obtain ⟨A, hAe⟩ : ∃ A, A = w.heap.size := ⟨_, rfl⟩
  obtain ⟨N, hNe⟩ : ∃ N, N = w1.heap.size := ⟨_, rfl⟩
  rw [← hAe, ← hNe] at hO
  rw [← hAe, ← hNe]
  clear hAe hNe
  go_wp2
  go_loopw [24] (fun v24 wr => ∃ i : Nat, i ≤ n ∧ v24 = .int .i64 i ∧ OMem w wr A N n es (cnts n (fun k => cntOf es (List.range i) k))) (fun v24 _ => n - (intOf v24).toNat)
  case atStart => exact ⟨0, by omega, rfl, hO⟩
  case round =>
    obtain ⟨i, hin, rfl, hM⟩ := hrel
    clear hO
    by_cases hlt : i < n
    · have hdi : decide ((i : Int) < (n : Int)) = true := by simp; omega
      have LI := list_any N (i * 8) (succS es i) wr hM.tab hM.nx.lt (fun j hj => hM.nx.cell hlt hj)
      go_wp2_with fail
      refine LI.mono ?_
      rintro e w2 ⟨lv, rfl, hli, hb2, hfr⟩
      have hM2 := hM.below hb2
      have hfr2 : ∀ k, lv.ownBlock = some k → k ≠ A := fun k e => by have := hfr k e; have := hM.ah.lt; omega
      clear LI hM hb2 hfr
      have hbits := mem_nodes (succS es i)
      have hnd : (nodes (succS es i)).Nodup := List.Pairwise.filter _ List.nodup_range
      have hbd : ∀ m ∈ nodes (succS es i), m < n := fun m hm => by
        have := (hbits m).1 hm
        have hmem := (succS_bit es i m (fun e he => (HES.out e he).2.2.1)).1 this.2
        have := HES.out _ hmem
        simp only at this; omega
      generalize hl : nodes (succS es i) = l at hli hbits hnd hbd
      clear hl
      obtain ⟨ao, cap, hv, hll, hlc⟩ := hli.val
      rw [List.length_map] at hv hll hlc
      have HND := Lib.hid hnd
      have HBD := Lib.hid hbd
      have HBITS := Lib.hid hbits
      clear hnd hbd hbits
      subst hv
      have HFR := Lib.hid hfr2
      clear hfr2
      go_wp2
      go_loopw [32] (fun v32 wr => ∃ t : Nat, t ≤ l.length ∧ v32 = .int .i64 t ∧ OMem w wr A N n es (cnts n (fun k => cntOf es (List.range i) k + if k ∈ l.take t then 1 else 0)) ∧ IntsAt wr (.slice ao l.length cap) (l.map fun i : Nat => (i : Int))) (fun v32 _ => l.length - (intOf v32).toNat)
      case atStart => exact ⟨0, by omega, rfl, by simpa using hM2, hli⟩
      case round =>
        obtain ⟨t, htl, rfl, hM3, hli3⟩ := hrel
        clear hM2 hli
        by_cases hlt2 : t < l.length
        · obtain ⟨b, off, rfl, hbl, hcell⟩ := hli3.get (i := t) (by simpa using hlt2)
          have hlm : l.getD t 0 ∈ l := by simp [List.getD, hlt2]
          have hts := take_next l t 0 hlt2
          have hkn := HBD.out _ hlm
          have hnot : l.getD t 0 ∉ l.take t := by
            have hnd := HND.out
            rw [← List.take_append_drop (t + 1) l, hts, List.append_assoc, List.nodup_append] at hnd
            intro hm
            exact hnd.2.2 _ hm _ (by simp) rfl
          have hgk : (l.map fun i : Nat => (i : Int)).getD t 0 = ((l.getD t 0 : Nat) : Int) := by simp [List.getD, hlt2]
          rw [hgk] at hcell
          generalize hq : l.getD t 0 = q at hcell hts hkn hnot
          clear hgk hlm hq
          have hac := hM3.ah.cell (i := q) (by rw [cnts_len]; exact hkn)
          have haf := hM3.ah.free q
          rw [cnts_get _ _ _ hkn] at hac
          simp only [hnot, if_false, Nat.add_zero] at hac
          have hcle : cntOf es (List.range i) q ≤ 512 := by have := cntOf_range_le es i q; omega
          have HM4 : Hid (OMem w (wr.setCell ⟨A, q, none⟩ (.int .i64 ((cntOf es (List.range i) q + 1 : Nat) : Int))) A N n es (cnts n (fun k => cntOf es (List.range i) k + if k ∈ l.take (t + 1) then 1 else 0))) := by
            have := hM3.set hT0 q ((cntOf es (List.range i) q + 1 : Nat) : Int)
            rw [cnts_set] at this
            refine cast (congrArg (OMem w _ A N n es) (cnts_congr n _ _ fun k hk => ?_)) this
            rw [hts]
            by_cases e : k = q
            · subst e; simp
            · simp [e]
          have HL4 : Hid (IntsAt (wr.setCell ⟨A, q, none⟩ (.int .i64 ((cntOf es (List.range i) q + 1 : Nat) : Int))) (.slice (some ⟨b, off, none⟩) l.length cap) (l.map fun i : Nat => (i : Int))) :=
            hli3.keep (by simp [World.setCell]) (fun k e _ => Below.heap_setCell _ _ _ _ (HFR.out k e))
          generalize cntOf es (List.range i) q = c at hac hcle HM4 HL4
          clear hM3 hli3 hnot hts
          go_wp2
          go_roundw
          case rel => exact ⟨t + 1, by omega, by go_num, by simpa using HM4.out, by simpa using HL4.out⟩
          case measure => simp [intOf]; omega
        · have htl2 : t = l.length := by omega
          have hM4 : OMem w wr A N n es (cnts n (fun k => cntOf es (List.range (i + 1)) k)) := by
            refine cast (congrArg (OMem w _ A N n es) (cnts_congr n _ _ fun k hk => ?_)) hM3
            rw [htl2, List.take_length, List.range_succ, cntOf_snoc]
            have := HBITS.out k
            by_cases e : k ∈ l
            · simp [e, (this.1 e).2]
            · have e2 : ¬ (succS es i).testBit k = true := fun hb => e (this.2 ⟨by omega, hb⟩)
              simp [e, e2]
          clear hM3 hli3 htl2
          go_wp2
          go_roundw
          case rel => exact ⟨i + 1, by omega, by go_num, hM4⟩
          case measure => simp [intOf]; omega
    · have hi' : i = n := by omega
      rw [hi'] at hM
      clear hi'
      have hbN : N < wr.heap.size := hM.nx.lt
      have hP : PMem w ((wr.alloc (.cells #[] 3)).alloc (.cells #[.slice (some ⟨wr.heap.size, 0, none⟩) 0 0] 95)) A N (wr.heap.size + 1) n es (cnts n (fun k => cntOf es (List.range n) k)) wr.heap.size 0 [] (.slice none 0 0) [] :=
        ⟨hM.below (((Below.refl _ _).alloc (Nat.le_refl _) _).alloc (by simp) _), heap_new wr, fun k h0 hk => by simp at hk, World.ownsRow_nil _ _ _ _, by simp [Value.ownBlock], by omega, hbN⟩
      have hdn : decide ((i : Int) < (n : Int)) = false := by simp; omega
      clear hM
      obtain ⟨wo, hwo⟩ : ∃ wo : World, wo = wr := ⟨_, rfl⟩
      obtain ⟨hb, hhb⟩ : ∃ hb, hb = wr.heap.size + 1 := ⟨_, rfl⟩
      go_wp2_with fail
      rw [← hhb] at hP ⊢
      clear hwo hhb hbN
      go_loopw [48] (fun v48 wr => ∃ (i : Nat) (g cap : Nat) (xs : List Int), i ≤ n ∧ v48 = .int .i64 i ∧ PMem w wr A N hb n es (cnts n (fun k => cntOf es (List.range n) k)) g cap xs (.slice none 0 0) [] ∧ HSet xs (fun k => k < i ∧ cntOf es (List.range n) k = 0)) (fun v48 _ => n - (intOf v48).toNat)
      case atStart => exact ⟨0, _, _, _, by omega, rfl, hP, ⟨by simp, fun y => by simp⟩⟩
      case round =>
        obtain ⟨i2, g, cap, xs, hi2, rfl, hQ, hS⟩ := hrel
        clear hP
        by_cases hlt2 : i2 < n
        · have hac := hQ.m.ah.cell (i := i2) (by rw [cnts_len]; exact hlt2)
          rw [cnts_get _ _ _ hlt2] at hac
          have hxl : xs.length ≤ 512 := by have := hS.len (n := n) (fun k hk => by omega); omega
          by_cases hc0 : cntOf es (List.range n) i2 = 0
          · rw [hc0] at hac
            have PU := heapPush_any hb g cap xs (i2 : Int) wr hQ.hp hxl hQ.heap
            go_wp2_with fail
            refine PU.mono ?_
            rintro e w3 ⟨rfl, g', cap', xs', q1, q2, q3, q4, q5⟩
            have hQ2 := hQ.push q1 q3 q4 q5
            have hS2 : HSet xs' (fun k => k < i2 + 1 ∧ cntOf es (List.range n) k = 0) := (hS.push (k := i2) (fun h => by omega) q2).congr (fun k => by
              constructor
              · rintro (rfl | ⟨h1, h2⟩)
                · exact ⟨by omega, hc0⟩
                · exact ⟨by omega, h2⟩
              · rintro ⟨h1, h2⟩
                by_cases e : k = i2
                · exact Or.inl e
                · exact Or.inr ⟨by omega, h2⟩)
            clear PU hQ hS q1 q2 q3 q4 q5 hc0 hac
            go_wp2
            go_roundw
            case rel => exact ⟨i2 + 1, g', cap', xs', by omega, by go_num, hQ2, hS2⟩
            case measure => simp [intOf]; omega
          · have hS2 : HSet xs (fun k => k < i2 + 1 ∧ cntOf es (List.range n) k = 0) := hS.congr (fun k => by
              constructor
              · rintro ⟨h1, h2⟩; exact ⟨by omega, h2⟩
              · rintro ⟨h1, h2⟩
                refine ⟨?_, h2⟩
                by_cases e : k = i2
                · subst e; exact absurd h2 hc0
                · omega)
            have hne : ((cntOf es (List.range n) i2 : Int) == 0) = false := by simp; omega
            generalize cntOf es (List.range n) i2 = c at hac hne
            clear hS hc0
            go_wp2
            go_roundw
            case rel => exact ⟨i2 + 1, g, cap, xs, by omega, by go_num, hQ, hS2⟩
            case measure => simp [intOf]; omega
        · have hi2' : i2 = n := by omega
          rw [hi2'] at hS
          have hS2 : HSet xs (fun k => k < n ∧ rdy es [] k = true) := hS.congr (fun k => by rw [cntN_zero n es [] k HES.out, cntN_nil]; simp)
          have hQ2 : PMem w wr A N hb n es (cnts n (fun k => cntN n es [] k)) g cap xs (.slice none 0 0) [] := by
            refine cast ?_ hQ
            rw [cnts_congr n (fun k => cntOf es (List.range n) k) (fun k => cntN n es [] k) (fun k _ => (cntN_nil n es k).symm)]
          clear hS hQ hi2'
          go_wp2_with fail
          go_loopw [13] (fun v13 wr => ∃ (o : List Nat) (g cap : Nat) (xs : List Int), PMem w wr A N hb n es (cnts n (fun k => cntN n es o k)) g cap xs v13 o ∧ HSet xs (fun k => k < n ∧ rdy es o k = true) ∧ Ok n o ∧ Closed n es o ∧ Hid (kahnF n es (n - o.length) o = kahn n es)) (fun v13 _ => n - lenOf v13)
          case atStart => exact ⟨[], g, cap, xs, hQ2, hS2, Ok.nil n, Closed.nil n es, rfl⟩
          case round =>
            obtain ⟨o, g2, cap2, ys, hR, hT2, hok, hcl, hk⟩ := hrel
            clear hQ2 hS2
            have hcd := hR.hp.head
            have hyl : ys.length ≤ n := hT2.len (fun k hk => hk.1)
            go_wp2_with fail
            refine (hlen_any _ _ _ wr).mono ?_
            rintro e w3 ⟨rfl, rfl⟩
            cases hys : ys.length with
            | zero =>
              have hy0 : ys = [] := List.eq_nil_of_length_eq_zero hys
              have HR : Hid (kahn n es = o) := by rw [hy0] at hT2; rw [Hid, ← hk.out]; exact kahnF_none _ (next_none hT2)
              have hol := hok.len
              have hout := hR.out
              have hold := hR.m.old
              rw [show o.length = (o.map fun i : Nat => (i : Int)).length by simp, show (o.map fun i : Nat => Value.int .i64 i) = (o.map fun i : Nat => (i : Int)).map (Value.int .i64) by simp] at hout
              have hend : OrdPost n es w (.returned u13) wr := ⟨_, rfl, by rw [HR.out]; exact ints_of_own hout (by simp; omega), hold, fun k e => by have h1 := (hout.lt _ e).1; have h2 := hR.m.ge; have h3 := hR.m.lt; have h4 := hR.lt; omega⟩
              have HE := Lib.hid hend
              clear hend hout hold hol HR hy0 hk hok hcl hT2 hR
              go_wp2_with fail
              go_ret
              exact HE.out
            | succ m =>
              have PO := heapPop_any hb g2 cap2 ys wr m hR.hp hys (by omega) hR.heap
              go_wp2_with fail
              refine PO.mono ?_
              rintro e w3 ⟨x, xs', rfl, p1, p2, p3, p4, p5⟩
              obtain ⟨q, rfl, ⟨hqn, hqr⟩, hT3⟩ := hT2.pop p2
              have hnx := next_least hT2 ⟨hqn, hqr⟩ p4
              have hR3 := hR.pop p1 p3 p5
              have hol := (hok.snoc hqn (rdy_notin hqr)).len
              simp only [List.length_append, List.length_singleton] at hol
              have HK : Hid (kahnF n es (n - (o ++ [q]).length) (o ++ [q]) = kahn n es) := by
                rw [Hid, ← hk.out]
                have : n - o.length = (n - (o ++ [q]).length) + 1 := by simp; omega
                rw [this]
                exact (kahnF_some _ hnx).symm
              have hok' := hok.snoc hqn (rdy_notin hqr)
              have hcl' := hcl.snoc HES.out hqr
              have hrs := rdy_snoc hcl HES.out hqn hqr
              have hcs := fun k => cntN_snoc n es o q k hqn (rdy_notin hqr)
              have hpr : ∀ k, (succS es q).testBit k = true → ¬ rdy es o k = true := fun k hb hr => rdy_notin hqr (rdy_preds HES.out hr q hb)
              have hlv6 : lenOf u13 = o.length := by
                rcases hR.out.2 with ⟨e, h0⟩ | ⟨_, _, _, e, _⟩
                · rw [e]; exact h0.symm
                · rw [e]; rfl
              have HLV6 := Lib.hid hlv6
              have HRS := Lib.hid hrs
              have HCS := Lib.hid hcs
              have HPR := Lib.hid hpr
              have HNR := Lib.hid (rdy_notin hqr)
              have hys2 : ys.length ≤ 512 := by omega
              clear PO hT2 hR p1 p2 p3 p4 p5 hnx hk hok hcl hrs hcs hpr hlv6 hys hqr hyl hcd
              have ha := fun w => assert_one (q : Int) w
              go_wp2_with (at_builtin; refine wpList_append_fresh _ rfl (.tmp 70) (.tmp 72) 49 rfl (hb + 1) 3 i0 (.int .i64 0) 1 8 Tryd.underlying49 hi hz0 hz1 hz2 rfl (by decide) _ _ _ rfl (hR3.out.alloc _) ⟨w3.heap.size, 0, none⟩ 1 1 [.int .i64 q] rfl rfl ?c1 ?c2 ?c3 ?c4 ?c5 ?_)
              case c1 => exact cell_one_new _ _ _
              case c2 => intro u hu; simp at hu; subst hu; rfl
              case c3 => unfold maxLen; omega
              case c4 => omega
              case c5 => have := (Array.getElem?_eq_some_iff.1 hR3.hp.1).1; simp; omega
              intro v' w4 hown4 hgrow4 hfr4
              have hR4 : PMem w w4 A N hb n es (cnts n (fun k => cntN n es o k)) g2 cap2 xs' v' (o ++ [q]) :=
                (hR3.below ((Below.refl _ _).alloc (Nat.le_refl _) _)).append hown4 hgrow4 (hfr4.imp id (fun e => ⟨_, e, by simp⟩))
              have hlv : lenOf v' = o.length + 1 := by
                rcases hown4.2 with ⟨_, h0⟩ | ⟨_, _, _, e, _⟩
                · omega
                · rw [e]; rfl
              have HLV := Lib.hid hlv
              have LI := list_any N (q * 8) (succS es q) w4 hR4.m.tab hR4.m.nx.lt (fun j hj => hR4.m.nx.cell hqn hj)
              clear hown4 hgrow4 hfr4 hR3 hlv
              go_wp2_with fail
              refine LI.mono ?_
              rintro e w5 ⟨lv, rfl, hli, hb5, hfr⟩
              have hR5 := hR4.below hb5
              have hfrA : ∀ k, lv.ownBlock = some k → k ≠ A ∧ k ≠ hb ∧ k ≠ g2 := fun k e => by
                have h1 := hfr k e
                have h2 := hR4.m.ah.lt
                have h3 := (Array.getElem?_eq_some_iff.1 hR4.hp.1).1
                obtain ⟨cur, h4, _⟩ := hR4.hp.2
                have h5 := (Array.getElem?_eq_some_iff.1 h4).1
                exact ⟨by omega, by omega, by omega⟩
              clear LI hR4 hb5 hfr
              have hbits := mem_nodes (succS es q)
              have hnd : (nodes (succS es q)).Nodup := List.Pairwise.filter _ List.nodup_range
              have hbd : ∀ m ∈ nodes (succS es q), m < n := fun m hm => by
                have := (hbits m).1 hm
                have hmem := (succS_bit es q m (fun e he => (HES.out e he).2.2.1)).1 this.2
                have := HES.out _ hmem
                simp only at this; omega
              generalize hl : nodes (succS es q) = l at hli hbits hnd hbd
              clear hl
              obtain ⟨ao, cap, hv, hll, hlc⟩ := hli.val
              rw [List.length_map] at hv hll hlc
              have HND := Lib.hid hnd
              have HBD := Lib.hid hbd
              have HBITS := Lib.hid hbits
              clear hnd hbd hbits
              subst hv
              have HFR := Lib.hid hfrA
              have hneg : (Value.slice ao l.length cap).ownBlock ≠ some g2 := fun e => (HFR.out _ e).2.2 rfl
              clear hfrA
              have hli0 : PMem w w5 A N hb n es (cnts n (fun k => if k ∈ l.take 0 then cntN n es (o ++ [q]) k else cntN n es o k)) g2 cap2 xs' v' (o ++ [q]) := by simpa using hR5
              have hT4 : HSet xs' (fun k => k < n ∧ ((rdy es o k = true ∧ k ≠ q) ∨ (k ∈ l.take 0 ∧ cntN n es (o ++ [q]) k = 0))) := hT3.congr (fun k => by simp [and_assoc])
              clear hR5 hT3
              go_wp2
              go_loopw [79] (fun v79 wr => ∃ (t g cap' : Nat) (zs : List Int), t ≤ l.length ∧ v79 = .int .i64 t ∧ PMem w wr A N hb n es (cnts n (fun k => if k ∈ l.take t then cntN n es (o ++ [q]) k else cntN n es o k)) g cap' zs v' (o ++ [q]) ∧
                  HSet zs (fun k => k < n ∧ ((rdy es o k = true ∧ k ≠ q) ∨ (k ∈ l.take t ∧ cntN n es (o ++ [q]) k = 0))) ∧ IntsAt wr (.slice ao l.length cap) (l.map fun i : Nat => (i : Int)) ∧ (Value.slice ao l.length cap).ownBlock ≠ some g) (fun v79 _ => l.length - (intOf v79).toNat)
              case atStart => exact ⟨0, g2, cap2, xs', by omega, rfl, hli0, hT4, hli, hneg⟩
              case round =>
                obtain ⟨t, g3, cap3, zs, htl, rfl, hR6, hT6, hli6, hneg6⟩ := hrel
                clear hli0 hT4 hli hneg
                by_cases hlt3 : t < l.length
                · obtain ⟨b, off, rfl, hbl, hcell⟩ := hli6.get (i := t) (by simpa using hlt3)
                  have hlm : l.getD t 0 ∈ l := by simp [List.getD, hlt3]
                  have hts := take_next l t 0 hlt3
                  have hkn := HBD.out _ hlm
                  have hbit := ((HBITS.out _).1 hlm).2
                  have hnot : l.getD t 0 ∉ l.take t := by
                    have hnd := HND.out
                    rw [← List.take_append_drop (t + 1) l, hts, List.append_assoc, List.nodup_append] at hnd
                    intro hm
                    exact hnd.2.2 _ hm _ (by simp) rfl
                  have hgk : (l.map fun i : Nat => (i : Int)).getD t 0 = ((l.getD t 0 : Nat) : Int) := by simp [List.getD, hlt3]
                  rw [hgk] at hcell
                  generalize hk2 : l.getD t 0 = k2 at hcell hts hkn hnot hbit
                  clear hgk hlm hk2
                  have hac := hR6.m.ah.cell (i := k2) (by rw [cnts_len]; exact hkn)
                  have haf := hR6.m.ah.free k2
                  rw [cnts_get _ _ _ hkn, if_neg hnot, HCS.out k2, if_pos hbit] at hac
                  have hcle : cntN n es (o ++ [q]) k2 ≤ 512 := by have := cntN_le n es (o ++ [q]) k2; omega
                  have hR7 : PMem w (wr.setCell ⟨A, k2, none⟩ (.int .i64 ((cntN n es (o ++ [q]) k2 : Nat) : Int))) A N hb n es (cnts n (fun k => if k ∈ l.take (t + 1) then cntN n es (o ++ [q]) k else cntN n es o k)) g3 cap3 zs v' (o ++ [q]) := by
                    have := hR6.set hT0 k2 ((cntN n es (o ++ [q]) k2 : Nat) : Int)
                    rw [cnts_set] at this
                    refine cast (congrArg (fun a => PMem w _ A N hb n es a g3 cap3 zs v' (o ++ [q])) (cnts_congr n _ _ fun k hk => ?_)) this
                    rw [hts]
                    by_cases e : k = k2
                    · subst e; simp
                    · simp [e]
                  have hli7 : IntsAt (wr.setCell ⟨A, k2, none⟩ (.int .i64 ((cntN n es (o ++ [q]) k2 : Nat) : Int))) (.slice (some ⟨b, off, none⟩) l.length cap) (l.map fun i : Nat => (i : Int)) :=
                    hli6.keep (by simp [World.setCell]) (fun k e _ => Below.heap_setCell _ _ _ _ (HFR.out k e).1)
                  have hac2 := hR7.m.ah.cell (i := k2) (by rw [cnts_len]; exact hkn)
                  rw [cnts_get _ _ _ hkn, if_pos (by rw [hts]; simp)] at hac2
                  have hzl : zs.length ≤ 512 := by have := hT6.len (fun k hk => hk.1); omega
                  by_cases hz : cntN n es (o ++ [q]) k2 = 0
                  · have hnP : ¬ (k2 < n ∧ ((rdy es o k2 = true ∧ k2 ≠ q) ∨ (k2 ∈ l.take t ∧ cntN n es (o ++ [q]) k2 = 0))) := by
                      rintro ⟨_, ⟨h1, _⟩ | ⟨h1, _⟩⟩
                      · exact HPR.out k2 hbit h1
                      · exact hnot h1
                    rw [hz] at hac hR7 hli7 hac2
                    have PU := heapPush_any hb g3 cap3 zs (k2 : Int) _ hR7.hp hzl hR7.heap
                    have hbsz : b < (wr.setCell ⟨A, k2, none⟩ (.int .i64 ((0 : Nat) : Int))).heap.size := by simp [World.setCell]; exact hbl
                    clear hR6 hli6
                    have H7 := Lib.hid hR7
                    have HL7 := Lib.hid hli7
                    clear hR7 hli7 hcle
                    go_wp2_with fail
                    refine PU.mono ?_
                    rintro e w7 ⟨rfl, g', cap', zs', q1, q2, q3, q4, q5⟩
                    have hR8 := H7.out.push q1 q3 q4 q5
                    have hli8 : IntsAt w7 (.slice (some ⟨b, off, none⟩) l.length cap) (l.map fun i : Nat => (i : Int)) :=
                      HL7.out.keep q5.size (fun k e h1 => q5.block k h1 (HFR.out k e).2.1 (fun e2 => hneg6 (by rw [e, e2])))
                    have hneg8 : (Value.slice (some ⟨b, off, none⟩) l.length cap).ownBlock ≠ some g' := by
                      intro e
                      have e2 : b = g' := Option.some.inj e
                      rcases q4 with e3 | e3
                      · rw [e3] at e; exact hneg6 e
                      · omega
                    have hT8 : HSet zs' (fun k => k < n ∧ ((rdy es o k = true ∧ k ≠ q) ∨ (k ∈ l.take (t + 1) ∧ cntN n es (o ++ [q]) k = 0))) := (hT6.push hnP q2).congr (fun k => by
                      rw [hts]
                      constructor
                      · rintro (rfl | ⟨h1, h2 | ⟨h2, h3⟩⟩)
                        · exact ⟨hkn, Or.inr ⟨by simp, hz⟩⟩
                        · exact ⟨h1, Or.inl h2⟩
                        · exact ⟨h1, Or.inr ⟨by simp [h2], h3⟩⟩
                      · rintro ⟨h1, h2 | ⟨h2, h3⟩⟩
                        · exact Or.inr ⟨h1, Or.inl h2⟩
                        · rcases List.mem_append.1 h2 with h4 | h4
                          · exact Or.inr ⟨h1, Or.inr ⟨h4, h3⟩⟩
                          · simp at h4; exact Or.inl h4)
                    clear PU hT6 hneg6 H7 HL7 q1 q2 q3 q4 q5 hnP hbsz hts hnot hz hac hac2 haf hcell
                    go_wp2
                    go_roundw
                    case rel => exact ⟨t + 1, g', cap', zs', by omega, by go_num, hR8, hT8, hli8, hneg8⟩
                    case measure => simp [intOf]; omega
                  · have hne : ((cntN n es (o ++ [q]) k2 : Int) == 0) = false := by simp; omega
                    have hT8 : HSet zs (fun k => k < n ∧ ((rdy es o k = true ∧ k ≠ q) ∨ (k ∈ l.take (t + 1) ∧ cntN n es (o ++ [q]) k = 0))) := hT6.congr (fun k => by
                      rw [hts]
                      constructor
                      · rintro ⟨h1, h2 | ⟨h2, h3⟩⟩
                        · exact ⟨h1, Or.inl h2⟩
                        · exact ⟨h1, Or.inr ⟨by simp [h2], h3⟩⟩
                      · rintro ⟨h1, h2 | ⟨h2, h3⟩⟩
                        · exact ⟨h1, Or.inl h2⟩
                        · rcases List.mem_append.1 h2 with h4 | h4
                          · exact ⟨h1, Or.inr ⟨h4, h3⟩⟩
                          · simp at h4; subst h4; exact absurd h3 hz)
                    have H7 := Lib.hid hR7
                    have HL7 := Lib.hid hli7
                    generalize cntN n es (o ++ [q]) k2 = c at hac hne H7 HL7 hcle hac2
                    clear hR7 hli7 hR6 hT6 hli6 hts hnot hz
                    go_wp2
                    go_roundw
                    case rel => exact ⟨t + 1, g3, cap3, zs, by omega, by go_num, H7.out, hT8, HL7.out, hneg6⟩
                    case measure => simp [intOf]; omega
                · have htl3 : t = l.length := by omega
                  have hlk : ∀ k, k ∈ l.take t ↔ (k < 512 ∧ (succS es q).testBit k = true) := fun k => by rw [htl3, List.take_length]; exact HBITS.out k
                  have hR9 : PMem w wr A N hb n es (cnts n (fun k => cntN n es (o ++ [q]) k)) g3 cap3 zs v' (o ++ [q]) := by
                    refine cast (congrArg (fun a => PMem w _ A N hb n es a g3 cap3 zs v' (o ++ [q])) (cnts_congr n _ _ fun k hk => ?_)) hR6
                    by_cases e : k ∈ l.take t
                    · rw [if_pos e]
                    · have hb2 : ¬ (succS es q).testBit k = true := fun hb => e ((hlk k).2 ⟨by omega, hb⟩)
                      rw [if_neg e, HCS.out k, if_neg hb2]; rfl
                  have hT9 : HSet zs (fun k => k < n ∧ rdy es (o ++ [q]) k = true) := hT6.congr (fun k => by
                    rw [HRS.out k, hlk]
                    constructor
                    · rintro ⟨h1, h2 | ⟨⟨_, h2⟩, h3⟩⟩
                      · exact ⟨h1, Or.inl h2⟩
                      · exact ⟨h1, Or.inr ⟨h2, h3⟩⟩
                    · rintro ⟨h1, h2 | ⟨h2, h3⟩⟩
                      · exact ⟨h1, Or.inl h2⟩
                      · exact ⟨h1, Or.inr ⟨⟨by omega, h2⟩, h3⟩⟩)
                  clear hR6 hT6 hli6 hneg6 hlk htl3
                  go_wp2
                  go_roundw
                  case rel => exact ⟨o ++ [q], g3, cap3, zs, hR9, hT9, hok', hcl', HK⟩
                  case measure => simp only [HLV.out, HLV6.out]; omega

end Go.Proofs.YtnjbdedmalpccaaDoor
