/- The walk of Objects: all objects, rising, in new memory. -/
import Derived.Test.YtpbipngnoklmcaaGreatDoorMWldQ
import Derived.Test.YtpbipngnoklmcaaGreatDoorSort
import Derived.Sort.OwnSorted
namespace Go.Proofs.YtpbipngnoklmcaaGreatDoor
open Go.RowKit
set_option maxRecDepth 100000
attribute [local go_sem] str_size str_toList str_get
variable {w : World} {p b n : Nat} {S : WS} {val : S8 → S8 → Value} {vf vt : Value} {D : DataW Value}

theorem ObjL.turned {w0 w w' : World} {rs : List R3} {v : Value} {F : List Nat} {b r n cnt : Nat} {D : DataW Value} {left : Lit → Bool} (h : ObjL w0 rs v F w) (hg : w.grownBy w' (some r)) (hr : w.ranges Tryz.prog 78 heldR b r n D left cnt) (hge : w0.heap.size ≤ r) : ObjL w0 rs v F w' := by
  obtain ⟨h1, h2, h3, h4, h5⟩ := h
  have hne := row_ne_iter h1 hr
  have hs : Spares [r] w w' := Spares.grown hg fun k hk => by simp_all
  refine ⟨row_keep h1 fun q hq => ?_, h2.keep fun q hq => hs.block q (h2.lt q hq) fun hm => ?_, h3, h4, Below.spared h5 hs h5.size fun k hk => ?_⟩
  · obtain ⟨_, hh⟩ := row_block h1 hq
    refine hs.block q (heap_lt hh) fun hm => hne ?_
    have : q = r := by simpa using hm
    rw [hq, this]
  · obtain rfl : q = r := by simpa using hm
    obtain ⟨cs, fz, hk⟩ := owns_kinds h2 q hq
    obtain ⟨_, _, _, _, _, _, _, _, _, hit, _⟩ := hr
    rcases hk with hk | hk <;> (rw [hit] at hk; cases hk)
  · have : k = r := by simpa using hk
    omega
/-- The range under way. -/
def ObjRel (S : WS) (b n : Nat) (D : DataW Value) (w : World) (v3 : Value) (wr : World) : Prop := ∃ (left : Lit → Bool) (cnt : Nat) (rs : List R3) (F : List Nat), wr.ranges Tryz.prog 78 heldR b w.heap.size n D left cnt ∧ Hid (ObjL w rs v3 F wr ∧ ColR left S.objs (osR rs) ∧ apartO (osR rs))
set_option maxHeartbeats 8000000 in
theorem objects_w (h : WAt w p b n S val vf vt D) (hl : S.objs.length ≤ 100000) :
    Calls Tryz.prog 15 #[.pointer (some ⟨p, 0, none⟩)] w (ObjPost S w) := by
  have mixed : Tryz.prog.follows .mixedOrders = true := by kernel_rfl
  obtain ⟨i1, hi1, hz1, hzs1, hzb1⟩ := info_parts (P := Tryz.prog) (e := 47) (z := .agg #[.string ⟨#[]⟩, .string ⟨#[]⟩, .int .i64 0, .bool false, .string ⟨#[]⟩, .slice none 0 0, .slice none 0 0]) (size := 7) (bytes := 112) (by kernel_rfl)
  have H := Lib.hid h
  have c0 : w.cell? ⟨p, 0, none⟩ = some (.map (some b)) := by rw [Lib.cell_of_heap h.box]; rfl
  have hown := h.map
  clear h
  go_enter Tryz.func15, Tryz.ntmps15
  go_wp2_with (first
    | (at_range; refine wpList_range_own _ rfl _ 71 rfl 78 41 keyK Tryz.underlying71 heldR b n D rfl hown ?_; intro w0 hrg0 hg0 hs0)
    | go_in)
  go_frame
  go_loopw [3] (fun v3 wr => ObjRel S b n D w v3 wr)
    (fun _ wr => wr.rangeLeft b w.heap.size)
  case atStart => exact ⟨_, _, [], [], hrg0, Lib.hid ⟨(ObjL.nil w).stays ((Below.refl _ w).grown hg0 (Nat.le_refl _) fun k e => by cases e), ColR.start H.out.rel, List.Pairwise.nil⟩⟩
  case round =>
    obtain ⟨left, cnt, rs, F, hrg, HL⟩ := hrel
    have hv3 := slice_form HL.out.1.1
    obtain ⟨P3, cap3, rfl⟩ := hv3
    have hlen : rs.length ≤ 100000 := by
      have := apart_len HL.out.2.2 HL.out.2.1.mem
      rw [osR_len] at this
      omega
    go_wp2_with (first
      | (at_next; refine wpList_next_ranges _ rfl _ rfl 78 keyK heldR (fun q : S8 × S8 => nameV q.1 q.2) (fun v : Value => v) (fun key kl h => by obtain ⟨t, i, _, _, rfl, _⟩ := keyOf_inv h; exact ⟨(t, i), rfl⟩) (fun v y _ => ⟨v, rfl⟩) b w.heap.size n D left cnt rfl hrg ?_ ?_)
      | go_in)
    · intro hc0 hl0
      have HL0 := Lib.hid hl0
      have HRG := Lib.hid hrg
      clear hl0 hrg hc0
      rcases HL.out.1.1.2 with ⟨hv, hn0⟩ | ⟨g, cap, cur, hv, hge, hh, _⟩
      · injection hv with hv1 hv2 hv3
        subst hv1 hv3
        clear hv2
        obtain rfl : rs = [] := List.eq_nil_of_length_eq_zero hn0
        have NN := AnyF.slices_SortFunc_none (P := Tryz.prog) Tryz.sortObj none 0 (.func (.func 47) #[] #[]) wr
        change Calls Tryz.prog 46 _ _ _ at NN
        go_wp2_with fail
        refine NN.mono ?_
        rintro e w2 ⟨rfl, hw2⟩
        rw [hw2]
        clear hw2 NN
        go_wp2
        go_ret
        exact ObjPost.done HL.out.2.1 HL0.out H.out.fit H.out.ris (List.Perm.refl _) List.Pairwise.nil HL.out.1
      · cases hv
        have hgl := heap_lt hh
        have eg : ∀ args w, (callFunc 47 args).run Tryz.prog w = .ok (.enter 47 args) w := enters_of Tryz.func47 (by kernel_rfl) rfl
        have hcmp : CmpLays Tryz.prog 47 #[] rcells 7 (fun x y : R3 => ordO x.1 y.1) g 0 rs.toArray.size wr := fun m os dk hs x y => cmp_objs x.1.1 x.1.2.1 y.1.1 y.1.2.1 _ _ _ _ _ _ _ _ _ _ _
        have hcon := AnyQ.slices_SortFunc (P := Tryz.prog) Tryz.sortObj 7 Tryz.isAgg47 Tryz.sizeOf47 rcells (fun _ => rfl) (fun r v hv => rowC_one [r] v (by simpa [rowC] using hv)) (fun x y : R3 => ordO x.1 y.1) swoO 47 #[] g 0 cap3 rs.toArray wr eg hcmp (holds_row HL.out.1.1) hgl (by simp; omega)
        change Calls Tryz.prog 46 #[.slice (some ⟨g, 0, none⟩) rs.length cap3, .func (.func 47) #[] #[]] wr _ at hcon
        have HCON := Lib.hid hcon
        clear hcon hcmp eg hh
        go_wp2_with fail
        refine HCON.out.mono ?_
        rintro e w2 ⟨rfl, d', m, os, hp, hs, hw2⟩
        have hp2 := perm_in hp
        have hpost : ObjPost S w (.returned (.slice (some ⟨g, 0, none⟩) rs.length cap3)) w2 := by
          obtain ⟨G, hG⟩ := HL.out.1.sorted (m := m) (os := os) hp2.symm
          rw [show d'.toList.toArray = d' by simp, ← hw2] at hG
          have hlen2 : d'.toList.length = rs.length := by simpa using hp2.length_eq
          rw [hlen2] at hG
          refine ObjPost.done HL.out.2.1 HL0.out H.out.fit H.out.ris (ts := d'.toList) (by simpa using hp2) ?_ hG
          exact sorted_ris (by simpa using hs) (by simpa using hp2) HL.out.2.2
        have HP := Lib.hid hpost
        clear hpost hp hs hw2 hp2 HCON
        go_wp2
        go_ret
        exact HP.out
    · intro x1 x2 c kl y1 y2 w1 cnt1 hkey hlk hv hat hrg1 hlt hg1 hs1 hen
      obtain ⟨t, i, ft, fi, hxe, rfl⟩ := keyOf_inv hkey
      unfold nameV at hxe
      have hxe : x1 = t ∧ x2 = i := by simpa using hxe
      obtain ⟨rfl, rfl⟩ := hxe
      obtain ⟨xv, hxm, hno, hcol⟩ := HL.out.2.1.step ft fi hlk
      obtain rfl : c = val x1 x2 := by
        have h1 := (H.out.rel x1 x2 ft fi).2 (hasO_iff.2 ⟨xv, hxm⟩) (.held c)
        have h2 := hat (.held c)
        unfold heldR at hv
        have hv : (DataW.held c, ([] : List MemPlace)) = (y1, y2) := Option.some.inj hv
        have hv := congrArg Prod.fst hv
        dsimp only at hv
        rw [← hv] at h2
        rw [h2] at h1
        injection h1
      obtain ⟨hgx, Fv, hF⟩ := H.out.vals _ hxm
      have hF : OwnVal w xv (val x1 x2) Fv := hF
      obtain ⟨hfv, hsz⟩ := goodA_facts hgx
      obtain ⟨ai, ci, ak, ck, hva⟩ := val_cells hF
      have hobj1 := HL.out.1.turned hg1 hrg (Nat.le_refl _)
      have hap1 := apart_snoc (x := xv) HL.out.2.2 hno
      rw [hva] at hF
      have hen2 : (Instr.entry (.pointer (some ⟨w.heap.size, 0, none⟩))).run Tryz.prog w1 = .ok (.tuple #[.agg #[str x1, str x2], .agg #[.int .i64 xv.kind, .bool xv.flag, str xv.text, .slice ai xv.items.length ci, .slice ak xv.keys.length ck]]) w1 := by
        have := hen
        rw [hva] at this
        exact this
      clear hen
      rw [hva, show nameV x1 x2 = .agg #[str x1, str x2] from rfl]
      clear hva hv hat hkey hgx hs1
      obtain ⟨wD, hwD⟩ : ∃ wD, wD = w1.alloc (.cells #[str x1, str x2] 78) := ⟨_, rfl⟩
      obtain ⟨wE, hwE⟩ : ∃ wE, wE = wD.alloc (.cells #[.int .i64 xv.kind, .bool xv.flag, str xv.text, .slice ai xv.items.length ci, .slice ak xv.keys.length ck] 41) := ⟨_, rfl⟩
      have n4 : wD.heap[w1.heap.size]? = some (.cells #[str x1, str x2] 78 (0, 0)) := by rw [hwD]; exact heap_alloc_new _ _
      have s4 : wD.heap.size = w1.heap.size + 1 := by rw [hwD]; simp only [World.alloc, Array.size_push]
      have n5 : wE.heap[wD.heap.size]? = some (.cells #[.int .i64 xv.kind, .bool xv.flag, str xv.text, .slice ai xv.items.length ci, .slice ak xv.keys.length ck] 41 (0, 0)) := by rw [hwE]; exact heap_alloc_new _ _
      have b4 : Below w1.heap.size w1 wD := by rw [hwD]; exact (Below.refl _ w1).alloc (Nat.le_refl _) _
      have b5 : Below wD.heap.size wD wE := by rw [hwE]; exact (Below.refl _ wD).alloc (Nat.le_refl _) _
      have b1E : Below w1.heap.size w1 wE := b4.trans (b5.mono b4.size)
      have m4 := (b5.block _ (heap_lt n4)).trans n4
      rw [s4] at n5
      have g0 : wE.cell? ⟨w1.heap.size, 0, none⟩ = some (str x1) := by rw [Lib.cell_of_heap m4]; rfl
      have g1 : wE.cell? ⟨w1.heap.size, 1, none⟩ = some (str x2) := by rw [Lib.cell_of_heap m4]; rfl
      have h0 : wE.cell? ⟨w1.heap.size + 1, 0, none⟩ = some (.int .i64 xv.kind) := by rw [Lib.cell_of_heap n5]; rfl
      have h1 : wE.cell? ⟨w1.heap.size + 1, 1, none⟩ = some (.bool xv.flag) := by rw [Lib.cell_of_heap n5]; rfl
      have h2 : wE.cell? ⟨w1.heap.size + 1, 2, none⟩ = some (str xv.text) := by rw [Lib.cell_of_heap n5]; rfl
      have h3 : wE.cell? ⟨w1.heap.size + 1, 3, none⟩ = some (.slice ai xv.items.length ci) := by rw [Lib.cell_of_heap n5]; rfl
      have h4 : wE.cell? ⟨w1.heap.size + 1, 4, none⟩ = some (.slice ak xv.keys.length ck) := by rw [Lib.cell_of_heap n5]; rfl
      have hobjE := hobj1.stays b1E
      have hbwE := hobjE.2.2.2.2
      have hrE := hrg1.kept (row := none) ⟨b1E.os, b1E.tape, b1E.output, b1E.size, fun i hi _ => b1E.block i hi⟩ (by simp) (by simp)
      have hEND : ∀ (w2 w3 : World) (v' : Value) (F1 : List Nat) (si : Option Addr) (sc : Nat) (sk : Option Addr) (sd : Nat) (o : Obj), Below wE.heap.size wE w2 → OwnVal w2 xv (.agg #[.int .i64 xv.kind, .bool xv.flag, str xv.text, .slice si xv.items.length sc, .slice sk xv.keys.length sd]) F1 → F1.Nodup → (∀ q ∈ F1, wE.heap.size ≤ q) →
          w3.ownsRow w.heap.size 47 7 v' (rs.length + 1) (rowC rs ++ [str x1, str x2, .int .i64 xv.kind, .bool xv.flag, str xv.text, .slice si xv.items.length sc, .slice sk xv.keys.length sd]) → (w2.alloc o).grownBy w3 (Value.slice P3 rs.length cap3).ownBlock →
          w3.ranges Tryz.prog 78 heldR b w.heap.size n D (fun z => left z && !z.sameKey (klW x1 x2)) cnt1 ∧ ObjL w (rs ++ [((x1, x2, xv), (si, sc, sk, sd))]) v' (F ++ F1) w3 := fun w2 w3 v' F1 si sc sk sd o hb hx hd hF hown hg => by
        refine ⟨?_, ObjL.push (r := ((x1, x2, xv), (si, sc, sk, sd))) hobjE hb hx hd hF hown hg⟩
        have r2 := (hrE.kept (row := none) ⟨hb.os, hb.tape, hb.output, hb.size, fun i hi _ => hb.block i hi⟩ (by simp) (by simp)).alloc o
        have hrow := ((hobjE.stays hb).stays ((Below.refl _ w2).alloc (Nat.le_refl _) o)).1
        refine r2.kept hg (fun e => ?_) (row_ne_iter hrow r2)
        obtain ⟨_, hh⟩ := row_block hrow e.symm
        obtain ⟨es, clock, hm⟩ := map_block r2.owns
        rw [hm] at hh
        cases hh
      have HEND := Lib.hid hEND
      have HROW := Lib.hid (fun W (hW : Below wE.heap.size wE W) => (hobjE.stays hW).1)
      have HN4 := Lib.hid ((b1E.mono (Nat.le_refl _)).size)
      have hm4E : wE.heap[w1.heap.size]? = some (.cells #[str x1, str x2] 78 (0, 0)) := m4
      have HM4 := Lib.hid hm4E
      have HCL := Lib.hid (fun W (hW : Below wE.heap.size wE W) => clone_val xv _ W (hF.at.mono (hbwE.trans (hW.mono hbwE.size))) hfv (Nat.le_trans hsz (by decide)))
      have HCOL := Lib.hid hcol
      have HAP := Lib.hid hap1
      have hwE0 := hbwE.size
      clear hcol hap1 hobj1 hF hEND hobjE hbwE hrE n4 n5 b4 b5 b1E m4 hm4E s4
      go_upto_region 5 with fail
      rw [← hwD, ← hwE]
      clear hwD hwE
      go_region_law_o (first
        | (go_simp; go_at_call 30; refine (HCL.out _ (Below.refl _ wE).drew).mono ?_; rintro e w2 ⟨v1, F1, rfl, hov, hnd, hge, hb1⟩; obtain ⟨si, sc, sk, sd, rfl⟩ := hov.at.form; have hb2 : Below wE.heap.size wE w2 := (Below.refl _ wE).drew.trans (hb1.mono (Nat.le_refl _)); have hs2 := hb2.size; have HQ1 := Lib.hid (fun w3 v' o => HEND.out w2 w3 v' F1 si sc sk sd o hb2 hov hnd hge); have HO1 := Lib.hid (fun o => HROW.out _ (hb2.alloc (o := o) hs2)); have hm2 := (hb2.block _ (heap_lt HM4.out)).trans HM4.out; have d0 : w2.cell? ⟨w1.heap.size, 0, none⟩ = some (str x1) := (by rw [Lib.cell_of_heap hm2]; rfl); have d1 : w2.cell? ⟨w1.heap.size, 1, none⟩ = some (str x2) := (by rw [Lib.cell_of_heap hm2]; rfl); clear hov hnd hge hb1 hb2 hm2)
        | (refine step_append_fresh rfl (.tmp 16) (.tmp 24) 22 rfl w.heap.size 47 i1 _ 7 112 Tryz.underlying22 hi1 hz1 hzs1 hzb1 rfl (by decide) (.slice P3 rs.length cap3) rs.length (rowC rs) (by simp [Act.eval]) (HO1.out _) ⟨w2.heap.size, 0, none⟩ 1 1 [str x1, str x2, .int .i64 xv.kind, .bool xv.flag, str xv.text, .slice si xv.items.length sc, .slice sk xv.keys.length sd] (by simp [Act.eval]) rfl (cells_new w2 _ _) (by intro y hy; simp at hy; rcases hy with rfl | rfl | rfl | rfl | rfl | rfl | rfl <;> rfl) (by unfold maxLen; omega) (by omega) (by simp; omega) ?_; intro v' w3 hown hgrow hv'; have HR := Lib.hid (HQ1.out w3 v' _ hown hgrow); obtain ⟨a', c', rfl⟩ := slice_form hown; clear hown hgrow hv'))
      all_goals
        clear d0 d1 g0 g1 h0 h1 h2 h3 h4 HQ1 HO1 HCL HROW HM4 HEND
        go_wp2
        go_roundw
        case rel =>
          refine ⟨_, cnt1, _, _, HR.out.1, Lib.hid ⟨HR.out.2, ?_, ?_⟩⟩
          · rw [osR_snoc]
            exact HCOL.out
          · rw [osR_snoc]
            exact HAP.out
        case measure => rw [HR.out.1.left_eq, hrg.left_eq]; exact hlt

end Go.Proofs.YtpbipngnoklmcaaGreatDoor
