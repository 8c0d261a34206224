/- The walk of Objects: all objects, rising, in new memory. The walk of New. -/
import Derived.Test.YtpbipngnoklmcaaGreatDoorMWldN
import Derived.Test.YtpbipngnoklmcaaGreatDoorMWldT
import Derived.Test.YtpbipngnoklmcaaGreatDoorSort
import Derived.Sort.OwnSorted
import Derived.Carry
namespace Go.Proofs.YtpbipngnoklmcaaGreatDoor
open Go.RowKit
set_option maxRecDepth 100000
attribute [local go_sem] str_size str_toList str_get
variable {w : World} {p b n : Nat} {S : WS} {val : S8 → S8 → Value} {vf vt : Value} {D : DataW Value}

theorem ObjL.turned {w0 w w' : World} {rs : List R3} {v : Value} {F : List Nat} {b r n cnt : Nat} {D : DataW Value} {left : Lit → Bool} (h : ObjL w0 rs v F w) (hg : w.grownBy w' (some r)) (hr : w.ranges Tryz.prog 78 heldR b r n D left cnt) (hge : w0.heap.size ≤ r) : ObjL w0 rs v F w' := by
  obtain ⟨h1, h2, h3, h4, h5⟩ := h
  have hne := row_ne_iter h1 hr
  have hs : Spares [r] w w' := Spares.grown hg fun k hk => by simp_all
  refine ⟨row_keep h1 fun q hq => ?_, h2.keep fun q hq => hs.block q (h2.lt q hq) fun hm => ?_, h3, h4, Below.spared h5 hs h5.size fun k hk => ?_⟩
  · obtain ⟨_, hh⟩ := row_block h1 hq
    refine hs.block q (heap_lt hh) fun hm => hne ?_
    have : q = r := by simpa using hm
    rw [hq, this]
  · obtain rfl : q = r := by simpa using hm
    obtain ⟨cs, fz, hk⟩ := owns_kinds h2 q hq
    obtain ⟨_, _, _, _, _, _, _, _, _, hit, _⟩ := hr
    rcases hk with hk | hk <;> (rw [hit] at hk; cases hk)
  · have : k = r := by simpa using hk
    omega
/-- The range under way. -/
def ObjRel (S : WS) (b n : Nat) (D : DataW Value) (w : World) (v3 : Value) (wr : World) : Prop := ∃ (left : Lit → Bool) (cnt : Nat) (rs : List R3) (F : List Nat), wr.ranges Tryz.prog 78 heldR b w.heap.size n D left cnt ∧ Hid (ObjL w rs v3 F wr ∧ ColR left S.objs (osR rs) ∧ apartO (osR rs))
set_option maxHeartbeats 8000000 in
theorem objects_w (h : WAt w p b n S val vf vt D) (hl : S.objs.length ≤ 100000) :
    Calls Tryz.prog 15 #[.pointer (some ⟨p, 0, none⟩)] w (ObjPost S w) := by
  have mixed : Tryz.prog.follows .mixedOrders = true := by kernel_rfl
  obtain ⟨i1, hi1, hz1, hzs1, hzb1⟩ := info_parts (P := Tryz.prog) (e := 47) (z := .agg #[.string ⟨#[]⟩, .string ⟨#[]⟩, .int .i64 0, .bool false, .string ⟨#[]⟩, .slice none 0 0, .slice none 0 0]) (size := 7) (bytes := 112) (by kernel_rfl)
  have H := Lib.hid h
  have c0 : w.cell? ⟨p, 0, none⟩ = some (.map (some b)) := by rw [Lib.cell_of_heap h.box]; rfl
  have hown := h.map
  clear h
  go_enter Tryz.func15, Tryz.ntmps15
  go_wp2_with (first
    | (at_range; refine wpList_range_own _ rfl _ 71 rfl 78 41 keyK Tryz.underlying71 heldR b n D rfl hown ?_; intro w0 hrg0 hg0 hs0)
    | go_in)
  go_frame
  go_loopw [3] (fun v3 wr => ObjRel S b n D w v3 wr)
    (fun _ wr => wr.rangeLeft b w.heap.size)
  case atStart => exact ⟨_, _, [], [], hrg0, Lib.hid ⟨(ObjL.nil w).stays ((Below.refl _ w).grown hg0 (Nat.le_refl _) fun k e => by cases e), ColR.start H.out.rel, List.Pairwise.nil⟩⟩
  case round =>
    obtain ⟨left, cnt, rs, F, hrg, HL⟩ := hrel
    have hv3 := slice_form HL.out.1.1
    obtain ⟨P3, cap3, rfl⟩ := hv3
    have hlen : rs.length ≤ 100000 := by
      have := apart_len HL.out.2.2 HL.out.2.1.mem
      rw [osR_len] at this
      omega
    go_wp2_with (first
      | (at_next; refine wpList_next_ranges _ rfl _ rfl 78 keyK heldR (fun q : S8 × S8 => nameV q.1 q.2) (fun v : Value => v) (fun key kl h => by obtain ⟨t, i, _, _, rfl, _⟩ := keyOf_inv h; exact ⟨(t, i), rfl⟩) (fun v y _ => ⟨v, rfl⟩) b w.heap.size n D left cnt rfl hrg ?_ ?_)
      | go_in)
    · intro hc0 hl0
      have HL0 := Lib.hid hl0
      have HRG := Lib.hid hrg
      clear hl0 hrg hc0
      rcases HL.out.1.1.2 with ⟨hv, hn0⟩ | ⟨g, cap, cur, hv, hge, hh, _⟩
      · injection hv with hv1 hv2 hv3
        subst hv1 hv3
        clear hv2
        obtain rfl : rs = [] := List.eq_nil_of_length_eq_zero hn0
        have NN := AnyF.slices_SortFunc_none (P := Tryz.prog) Tryz.sortObj none 0 (.func (.func 47) #[] #[]) wr
        change Calls Tryz.prog 46 _ _ _ at NN
        go_wp2_with fail
        refine NN.mono ?_
        rintro e w2 ⟨rfl, hw2⟩
        rw [hw2]
        clear hw2 NN
        go_wp2
        go_ret
        exact ObjPost.done HL.out.2.1 HL0.out H.out.fit H.out.ris (List.Perm.refl _) List.Pairwise.nil HL.out.1
      · cases hv
        have hgl := heap_lt hh
        have eg : ∀ args w, (callFunc 47 args).run Tryz.prog w = .ok (.enter 47 args) w := enters_of Tryz.func47 (by kernel_rfl) rfl
        have hcmp : CmpLays Tryz.prog 47 #[] rcells 7 (fun x y : R3 => ordO x.1 y.1) g 0 rs.toArray.size wr := fun m os dk hs x y => cmp_objs x.1.1 x.1.2.1 y.1.1 y.1.2.1 _ _ _ _ _ _ _ _ _ _ _
        have hcon := AnyQ.slices_SortFunc (P := Tryz.prog) Tryz.sortObj 7 Tryz.isAgg47 Tryz.sizeOf47 rcells (fun _ => rfl) (fun r v hv => rowC_one [r] v (by simpa [rowC] using hv)) (fun x y : R3 => ordO x.1 y.1) swoO 47 #[] g 0 cap3 rs.toArray wr eg hcmp (holds_row HL.out.1.1) hgl (by simp; omega)
        change Calls Tryz.prog 46 #[.slice (some ⟨g, 0, none⟩) rs.length cap3, .func (.func 47) #[] #[]] wr _ at hcon
        have HCON := Lib.hid hcon
        clear hcon hcmp eg hh
        go_wp2_with fail
        refine HCON.out.mono ?_
        rintro e w2 ⟨rfl, d', m, os, hp, hs, hw2⟩
        have hp2 := perm_in hp
        have hpost : ObjPost S w (.returned (.slice (some ⟨g, 0, none⟩) rs.length cap3)) w2 := by
          obtain ⟨G, hG⟩ := HL.out.1.sorted (m := m) (os := os) hp2.symm
          rw [show d'.toList.toArray = d' by simp, ← hw2] at hG
          have hlen2 : d'.toList.length = rs.length := by simpa using hp2.length_eq
          rw [hlen2] at hG
          refine ObjPost.done HL.out.2.1 HL0.out H.out.fit H.out.ris (ts := d'.toList) (by simpa using hp2) ?_ hG
          exact sorted_ris (by simpa using hs) (by simpa using hp2) HL.out.2.2
        have HP := Lib.hid hpost
        clear hpost hp hs hw2 hp2 HCON
        go_wp2
        go_ret
        exact HP.out
    · intro x1 x2 c kl y1 y2 w1 cnt1 hkey hlk hv hat hrg1 hlt hg1 hs1 hen
      obtain ⟨t, i, ft, fi, hxe, rfl⟩ := keyOf_inv hkey
      unfold nameV at hxe
      have hxe : x1 = t ∧ x2 = i := by simpa using hxe
      obtain ⟨rfl, rfl⟩ := hxe
      obtain ⟨xv, hxm, hno, hcol⟩ := HL.out.2.1.step ft fi hlk
      obtain rfl : c = val x1 x2 := by
        have h1 := (H.out.rel x1 x2 ft fi).2 (hasO_iff.2 ⟨xv, hxm⟩) (.held c)
        have h2 := hat (.held c)
        unfold heldR at hv
        have hv : (DataW.held c, ([] : List MemPlace)) = (y1, y2) := Option.some.inj hv
        have hv := congrArg Prod.fst hv
        dsimp only at hv
        rw [← hv] at h2
        rw [h2] at h1
        injection h1
      obtain ⟨hgx, Fv, hF⟩ := H.out.vals _ hxm
      have hF : OwnVal w xv (val x1 x2) Fv := hF
      obtain ⟨hfv, hsz⟩ := goodA_facts hgx
      obtain ⟨ai, ci, ak, ck, hva⟩ := val_cells hF
      have hobj1 := HL.out.1.turned hg1 hrg (Nat.le_refl _)
      have hap1 := apart_snoc (x := xv) HL.out.2.2 hno
      rw [hva] at hF
      have hen2 : (Instr.entry (.pointer (some ⟨w.heap.size, 0, none⟩))).run Tryz.prog w1 = .ok (.tuple #[.agg #[str x1, str x2], .agg #[.int .i64 xv.kind, .bool xv.flag, str xv.text, .slice ai xv.items.length ci, .slice ak xv.keys.length ck]]) w1 := by
        have := hen
        rw [hva] at this
        exact this
      clear hen
      rw [hva, show nameV x1 x2 = .agg #[str x1, str x2] from rfl]
      clear hva hv hat hkey hgx hs1
      obtain ⟨wD, hwD⟩ : ∃ wD, wD = w1.alloc (.cells #[str x1, str x2] 78) := ⟨_, rfl⟩
      obtain ⟨wE, hwE⟩ : ∃ wE, wE = wD.alloc (.cells #[.int .i64 xv.kind, .bool xv.flag, str xv.text, .slice ai xv.items.length ci, .slice ak xv.keys.length ck] 41) := ⟨_, rfl⟩
      have n4 : wD.heap[w1.heap.size]? = some (.cells #[str x1, str x2] 78 (0, 0)) := by rw [hwD]; exact heap_alloc_new _ _
      have s4 : wD.heap.size = w1.heap.size + 1 := by rw [hwD]; simp only [World.alloc, Array.size_push]
      have n5 : wE.heap[wD.heap.size]? = some (.cells #[.int .i64 xv.kind, .bool xv.flag, str xv.text, .slice ai xv.items.length ci, .slice ak xv.keys.length ck] 41 (0, 0)) := by rw [hwE]; exact heap_alloc_new _ _
      have b4 : Below w1.heap.size w1 wD := by rw [hwD]; exact (Below.refl _ w1).alloc (Nat.le_refl _) _
      have b5 : Below wD.heap.size wD wE := by rw [hwE]; exact (Below.refl _ wD).alloc (Nat.le_refl _) _
      have b1E : Below w1.heap.size w1 wE := b4.trans (b5.mono b4.size)
      have m4 := (b5.block _ (heap_lt n4)).trans n4
      rw [s4] at n5
      have g0 : wE.cell? ⟨w1.heap.size, 0, none⟩ = some (str x1) := by rw [Lib.cell_of_heap m4]; rfl
      have g1 : wE.cell? ⟨w1.heap.size, 1, none⟩ = some (str x2) := by rw [Lib.cell_of_heap m4]; rfl
      have h0 : wE.cell? ⟨w1.heap.size + 1, 0, none⟩ = some (.int .i64 xv.kind) := by rw [Lib.cell_of_heap n5]; rfl
      have h1 : wE.cell? ⟨w1.heap.size + 1, 1, none⟩ = some (.bool xv.flag) := by rw [Lib.cell_of_heap n5]; rfl
      have h2 : wE.cell? ⟨w1.heap.size + 1, 2, none⟩ = some (str xv.text) := by rw [Lib.cell_of_heap n5]; rfl
      have h3 : wE.cell? ⟨w1.heap.size + 1, 3, none⟩ = some (.slice ai xv.items.length ci) := by rw [Lib.cell_of_heap n5]; rfl
      have h4 : wE.cell? ⟨w1.heap.size + 1, 4, none⟩ = some (.slice ak xv.keys.length ck) := by rw [Lib.cell_of_heap n5]; rfl
      have hobjE := hobj1.stays b1E
      have hbwE := hobjE.2.2.2.2
      have hrE := hrg1.kept (row := none) ⟨b1E.os, b1E.tape, b1E.output, b1E.size, fun i hi _ => b1E.block i hi⟩ (by simp) (by simp)
      have hEND : ∀ (w2 w3 : World) (v' : Value) (F1 : List Nat) (si : Option Addr) (sc : Nat) (sk : Option Addr) (sd : Nat) (o : Obj), Below wE.heap.size wE w2 → OwnVal w2 xv (.agg #[.int .i64 xv.kind, .bool xv.flag, str xv.text, .slice si xv.items.length sc, .slice sk xv.keys.length sd]) F1 → F1.Nodup → (∀ q ∈ F1, wE.heap.size ≤ q) →
          w3.ownsRow w.heap.size 47 7 v' (rs.length + 1) (rowC rs ++ [str x1, str x2, .int .i64 xv.kind, .bool xv.flag, str xv.text, .slice si xv.items.length sc, .slice sk xv.keys.length sd]) → (w2.alloc o).grownBy w3 (Value.slice P3 rs.length cap3).ownBlock →
          w3.ranges Tryz.prog 78 heldR b w.heap.size n D (fun z => left z && !z.sameKey (klW x1 x2)) cnt1 ∧ ObjL w (rs ++ [((x1, x2, xv), (si, sc, sk, sd))]) v' (F ++ F1) w3 := fun w2 w3 v' F1 si sc sk sd o hb hx hd hF hown hg => by
        refine ⟨?_, ObjL.push (r := ((x1, x2, xv), (si, sc, sk, sd))) hobjE hb hx hd hF hown hg⟩
        have r2 := (hrE.kept (row := none) ⟨hb.os, hb.tape, hb.output, hb.size, fun i hi _ => hb.block i hi⟩ (by simp) (by simp)).alloc o
        have hrow := ((hobjE.stays hb).stays ((Below.refl _ w2).alloc (Nat.le_refl _) o)).1
        refine r2.kept hg (fun e => ?_) (row_ne_iter hrow r2)
        obtain ⟨_, hh⟩ := row_block hrow e.symm
        obtain ⟨es, clock, hm⟩ := map_block r2.owns
        rw [hm] at hh
        cases hh
      have HEND := Lib.hid hEND
      have HROW := Lib.hid (fun W (hW : Below wE.heap.size wE W) => (hobjE.stays hW).1)
      have HN4 := Lib.hid ((b1E.mono (Nat.le_refl _)).size)
      have hm4E : wE.heap[w1.heap.size]? = some (.cells #[str x1, str x2] 78 (0, 0)) := m4
      have HM4 := Lib.hid hm4E
      have HCL := Lib.hid (fun W (hW : Below wE.heap.size wE W) => clone_val xv _ W (hF.at.mono (hbwE.trans (hW.mono hbwE.size))) hfv (Nat.le_trans hsz (by decide)))
      have HCOL := Lib.hid hcol
      have HAP := Lib.hid hap1
      have hwE0 := hbwE.size
      clear hcol hap1 hobj1 hF hEND hobjE hbwE hrE n4 n5 b4 b5 b1E m4 hm4E s4
      go_upto_region 5 with fail
      rw [← hwD, ← hwE]
      clear hwD hwE
      go_region_law_o (first
        | (go_simp; go_at_call 30; refine (HCL.out _ (Below.refl _ wE).drew).mono ?_; rintro e w2 ⟨v1, F1, rfl, hov, hnd, hge, hb1⟩; obtain ⟨si, sc, sk, sd, rfl⟩ := hov.at.form; have hb2 : Below wE.heap.size wE w2 := (Below.refl _ wE).drew.trans (hb1.mono (Nat.le_refl _)); have hs2 := hb2.size; have HQ1 := Lib.hid (fun w3 v' o => HEND.out w2 w3 v' F1 si sc sk sd o hb2 hov hnd hge); have HO1 := Lib.hid (fun o => HROW.out _ (hb2.alloc (o := o) hs2)); have hm2 := (hb2.block _ (heap_lt HM4.out)).trans HM4.out; have d0 : w2.cell? ⟨w1.heap.size, 0, none⟩ = some (str x1) := (by rw [Lib.cell_of_heap hm2]; rfl); have d1 : w2.cell? ⟨w1.heap.size, 1, none⟩ = some (str x2) := (by rw [Lib.cell_of_heap hm2]; rfl); clear hov hnd hge hb1 hb2 hm2)
        | (refine step_append_fresh rfl (.tmp 16) (.tmp 24) 22 rfl w.heap.size 47 i1 _ 7 112 Tryz.underlying22 hi1 hz1 hzs1 hzb1 rfl (by decide) (.slice P3 rs.length cap3) rs.length (rowC rs) (by simp [Act.eval]) (HO1.out _) ⟨w2.heap.size, 0, none⟩ 1 1 [str x1, str x2, .int .i64 xv.kind, .bool xv.flag, str xv.text, .slice si xv.items.length sc, .slice sk xv.keys.length sd] (by simp [Act.eval]) rfl (cells_new w2 _ _) (by intro y hy; simp at hy; rcases hy with rfl | rfl | rfl | rfl | rfl | rfl | rfl <;> rfl) (by unfold maxLen; omega) (by omega) (by simp; omega) ?_; intro v' w3 hown hgrow hv'; have HR := Lib.hid (HQ1.out w3 v' _ hown hgrow); obtain ⟨a', c', rfl⟩ := slice_form hown; clear hown hgrow hv'))
      all_goals
        clear d0 d1 g0 g1 h0 h1 h2 h3 h4 HQ1 HO1 HCL HROW HM4 HEND
        go_wp2
        go_roundw
        case rel =>
          refine ⟨_, cnt1, _, _, HR.out.1, Lib.hid ⟨HR.out.2, ?_, ?_⟩⟩
          · rw [osR_snoc]
            exact HCOL.out
          · rw [osR_snoc]
            exact HAP.out
        case measure => rw [HR.out.1.left_eq, hrg.left_eq]; exact hlt

end Go.Proofs.YtpbipngnoklmcaaGreatDoor
namespace Go.Proofs.YtpbipngnoklmcaaGreatDoor
open Go.RowKit
set_option maxRecDepth 100000
attribute [local go_sem] str_size str_toList str_get

def NewPost (os : List O3) (fs : List F2) (w : World) (e : Ending) (w' : World) : Prop :=
  Below w.heap.size w w' ∧ match newP os fs with
  | (none, c) => e = .returned (.tuple #[.pointer none, .int .i64 c])
  | (some S, c) => ∃ p b n val vf vt D, e = .returned (.tuple #[.pointer (some ⟨p, 0, none⟩), .int .i64 c]) ∧ n ≤ os.length ∧ WAt w' p b n S val vf vt D ∧ ∀ q ∈ wF p b vt, w.heap.size ≤ q
theorem NewPost.bad {os : List O3} {fs : List F2} {w w' : World} (hb : Below w.heap.size w w') (h : (os.all fun o => goodA o.2.2) = false) : NewPost os fs w (.returned (.tuple #[.pointer none, .int .i64 1])) w' := by
  refine ⟨hb, ?_⟩
  unfold newP
  rw [if_pos h]
theorem NewPost.twice {os : List O3} {fs : List F2} {w w' : World} (hb : Below w.heap.size w w') (h : (os.all fun o => goodA o.2.2) = true) (hl : loadP os [] = none) : NewPost os fs w (.returned (.tuple #[.pointer none, .int .i64 2])) w' := by
  refine ⟨hb, ?_⟩
  unfold newP
  rw [if_neg (by simp [h]), hl]
theorem NewPost.good {os : List O3} {fs : List F2} {w w' : World} {l : List O3} {p b n : Nat} {val : S8 → S8 → Value} {vf vt : Value} {D : DataW Value} (hb : Below w.heap.size w w') (h : (os.all fun o => goodA o.2.2) = true) (hl : loadP os [] = some l)
    (hn : n ≤ os.length) (hW : WAt w' p b n ⟨l, fs, []⟩ val vf vt D) (hF : ∀ q ∈ wF p b vt, w.heap.size ≤ q) : NewPost os fs w (.returned (.tuple #[.pointer (some ⟨p, 0, none⟩), .int .i64 0])) w' := by
  refine ⟨hb, ?_⟩
  unfold newP
  rw [if_neg (by simp [h]), hl]
  exact ⟨p, b, n, val, vf, vt, D, rfl, hn, hW, hF⟩

theorem row_zero {w : World} {base e size n : Nat} {v : Value} {xs : List Value} (h : w.ownsRow base e size v n xs) : w.ownsRow 0 e size v n xs := by
  refine ⟨h.1, ?_⟩
  rcases h.2 with h2 | ⟨g, cap, cur, h1, hg, r⟩
  · exact .inl h2
  · exact .inr ⟨g, cap, cur, h1, Nat.zero_le _, r⟩
theorem row_ge {w : World} {base e size n : Nat} {v : Value} {xs : List Value} (h : w.ownsRow base e size v n xs) {q : Nat} (hq : v.ownBlock = some q) : base ≤ q := by
  rcases h.2 with ⟨rfl, _⟩ | ⟨g, cap, cur, rfl, hg, _⟩
  · cases hq
  · cases hq
    exact hg
/-- A new world, empty yet. -/
theorem WAt.made {w1 : World} {B0 base : Nat} {fs : List F2} {vf : Value} (val : S8 → S8 → Value) (hown : w1.ownsRow base 52 2 vf fs.length (failCells fs)) (hm : w1.ownsMap Tryz.prog 78 heldR B0 0 (.map [])) :
    WAt (w1.alloc (.cells #[.map (some B0), vf, .slice none 0 0] 74)) w1.heap.size B0 0 ⟨[], fs, []⟩ val vf (.slice none 0 0) (.map []) := by
  have hb := (Below.refl w1.heap.size w1).alloc (Nat.le_refl _) (.cells #[.map (some B0), vf, .slice none 0 0] 74)
  refine ⟨heap_alloc_new _ _, map_keep hm (hb.block _ hm.lt), MapRel.nil val, List.Pairwise.nil, (fun o ho => by cases ho), (fun o ho => by cases ho), row_zero (row_keep hown fun q hq => ?_), World.ownsRow_nil _ _ _ _⟩
  obtain ⟨_, hh⟩ := row_block hown hq
  exact hb.block _ (heap_lt hh)

set_option maxHeartbeats 8000000 in
theorem new_w (os : List O3) (fs : List F2) (v vf : Value) (w : World) (h : ObjsAt w v os) (hf : CellsAt w vf fs.length (failCells fs)) (hl : os.length ≤ 100000) (hfl : fs.length ≤ 1000000) (_hE : ErrW w) (_hT : TabW w) :
    Calls Tryz.prog 7 #[v, vf] w (NewPost os fs w) := by
  have mixed : Tryz.prog.follows .mixedOrders = true := by kernel_rfl
  have H := Lib.hid h
  obtain ⟨ao, cap, rfl, hm, _⟩ := h
  have HF := Lib.hid hf
  obtain ⟨aof, capf, rfl, _⟩ := hf
  obtain ⟨w0, hw0⟩ : ∃ w0, w0 = w.alloc (.map #[] 0) := ⟨_, rfl⟩
  have hb0 : Below w.heap.size w w0 := by rw [hw0]; exact (Below.refl _ w).alloc (Nat.le_refl _) _
  have CF := clone_fails _ fs.length (failCells fs) w0 (HF.out.mono hb0) (fail_len fs) (fail_one fs) hfl
  have CB := fun W (hW : Below w.heap.size w W) => contains_objs os _ W (H.out.mono hW)
  have mk := run_makeMap (P := Tryz.prog) 71 w
  rw [← hw0] at mk
  have hmap0 : w0.ownsMap Tryz.prog 78 heldR w.heap.size 0 (.map []) := by rw [hw0]; exact World.ownsMap_made w _ _ _
  have hB0 : w.heap.size ≤ w.heap.size := Nat.le_refl _
  obtain ⟨B0, hB0e⟩ : ∃ B0, w.heap.size = B0 := ⟨_, rfl⟩
  rw [hB0e] at mk hmap0
  rename_i hx1 hx2
  clear hx1 hx2 hw0
  go_enter Tryz.func7, Tryz.ntmps7
  go_wp2_with fail
  refine CF.mono ?_
  rintro e w1 ⟨v1, rfl, hown, hb1⟩
  obtain ⟨a1, c1, rfl⟩ := slice_form hown
  have hmap1 := map_keep hmap0 (hb1.block _ hmap0.lt)
  have hW2 := WAt.made (fun _ _ => undef) hown hmap1
  have hb2 := (hb0.trans (hb1.mono hb0.size)).trans (((Below.refl w1.heap.size w1).alloc (Nat.le_refl _) (.cells #[.map (some B0), .slice a1 fs.length c1, .slice none 0 0] 74)).mono (Nat.le_trans hb0.size hb1.size))
  have hfr : ∀ q ∈ wF w1.heap.size B0 (.slice none 0 0), w.heap.size ≤ q := by
    intro q hq
    simp [wF, Value.ownBlock] at hq
    have := hb0.size
    have := hb1.size
    rcases hq with rfl | rfl <;> omega
  obtain ⟨w2, hw2⟩ : ∃ w2, w2 = w1.alloc (.cells #[.map (some B0), .slice a1 fs.length c1, .slice none 0 0] 74) := ⟨_, rfl⟩
  obtain ⟨p, hp⟩ : ∃ p, w1.heap.size = p := ⟨_, rfl⟩
  rw [hp] at hW2 hfr
  rw [← hw2] at hW2 hb2
  have HW2 := Lib.hid hW2
  have HFR := Lib.hid hfr
  have CB2 := CB w2 hb2
  obtain ⟨g, hg⟩ : ∃ g, (os.all fun o => goodA o.2.2) = g := ⟨_, rfl⟩
  rw [hg] at CB2
  have HG := Lib.hid hg
  clear hW2 hfr hmap1 hmap0 hown hb1 CF CB mk hg hB0
  go_wp2_with fail
  rw [← hw2]
  clear hw2 hp
  refine CB2.mono ?_
  rintro e w3 ⟨rfl, hb3⟩
  have hb3w := hb2.trans (hb3.mono hb2.size)
  have HW3 := Lib.hid (HW2.out.below hb3)
  clear CB2 hb3 hb2 HW2
  cases g with
  | false =>
    go_wp2
    go_ret2
    exact NewPost.bad hb3w HG.out
  | true =>
    go_wp2
    go_loopg [21] os.length (fun gg v21 wr => ∃ (i : Nat) (l : List O3) (val : S8 → S8 → Value) (D : DataW Value), v21 = .int .i64 i ∧ i + gg = os.length ∧ Hid (loadP (os.drop i) l = loadP os []) ∧ Hid (WAt wr p B0 i ⟨l, fs, []⟩ val (.slice a1 fs.length c1) (.slice none 0 0) D) ∧ Below w.heap.size w wr)
    case atStart => exact ⟨0, [], _, _, rfl, by omega, rfl, HW3, hb3w⟩
    case round =>
      obtain ⟨i, l, val, D, rfl, hig, HL, HW, hbr⟩ := hrel
      cases gk with
      | zero =>
        obtain rfl : i = os.length := by omega
        have hlo := HL.out
        rw [List.drop_length] at hlo
        have HLO := Lib.hid hlo
        clear hlo
        go_wp2
        go_ret2
        exact NewPost.good hbr HG.out HLO.out.symm (Nat.le_refl _) HW.out HFR.out
      | succ gg =>
        have hin : i < os.length := by omega
        have hie : (i : Int) < (os.length : Int) := by omega
        obtain ⟨_, _, hv0, _, hfit, hk⟩ := H.out
        cases hv0
        obtain ⟨b, off, rfl, hlt, hk⟩ := hk (by rintro rfl; simp at hin)
        obtain ⟨t, j, x, hox⟩ : ∃ t j x, os[i] = (t, j, x) := ⟨_, _, _, rfl⟩
        have hmem : (t, j, x) ∈ os := by rw [← hox]; exact List.getElem_mem hin
        obtain ⟨ft, fj⟩ := hfit _ hmem
        have hgx : goodA x = true := List.all_eq_true.1 HG.out _ hmem
        obtain ⟨ai, ci, ak, ck, hx, k0, k1, k2, k3, k4, k5, k6⟩ := hk i t j x (by rw [List.getElem?_eq_getElem hin, hox])
        have q : ∀ {o : Nat} {u : Value}, w.cell? ⟨b, o, none⟩ = some u → wr.cell? ⟨b, o, none⟩ = some u := fun {o u} hu => (hbr.cell (p := ⟨b, o, none⟩) hlt).trans hu
        have k0 := q k0
        have k1 := q k1
        have k2 := q k2
        have k3 := q k3
        have k4 := q k4
        have k5 := q k5
        have k6 := q k6
        have hld : loadP (os.drop i) l = if hasO l t j = true then none else loadP (os.drop (i + 1)) (withO l (t, j, x)) := by
          rw [List.drop_eq_getElem_cons hin, hox]
          rfl
        rw [HL.out] at hld
        obtain ⟨V, hlk, _, _, vk0, vf0, vt0, va0, vn0, vc0, va1, vn1, vc1, rfl⟩ := HW.out.look ft fj
        simp only [show nameV t j = .agg #[str t, str j] from rfl] at hlk
        have HLK := Lib.hid hlk
        have HLD := Lib.hid hld
        have HX := Lib.hid hx
        obtain ⟨w5, hw5⟩ : ∃ w5, w5 = wr.alloc (.cells #[.string ⟨t.toArray⟩, .string ⟨j.toArray⟩, .int .i64 x.kind, .bool x.flag, .string ⟨x.text.toArray⟩, .slice ai x.items.length ci, .slice ak x.keys.length ck] 47) := ⟨_, rfl⟩
        obtain ⟨w6, hw6⟩ : ∃ w6, w6 = w5.alloc (.cells #[.string ⟨t.toArray⟩, .string ⟨j.toArray⟩] 78) := ⟨_, rfl⟩
        have n5 : w5.heap[wr.heap.size]? = some (.cells #[str t, str j, .int .i64 x.kind, .bool x.flag, str x.text, .slice ai x.items.length ci, .slice ak x.keys.length ck] 47 (0, 0)) := by rw [hw5]; exact heap_alloc_new _ _
        have s5 : w5.heap.size = wr.heap.size + 1 := by rw [hw5]; simp only [World.alloc, Array.size_push]
        have n6 : w6.heap[w5.heap.size]? = some (.cells #[str t, str j] 78 (0, 0)) := by rw [hw6]; exact heap_alloc_new _ _
        have b5 : Below wr.heap.size wr w5 := by rw [hw5]; exact (Below.refl _ wr).alloc (Nat.le_refl _) _
        have b6 : Below w5.heap.size w5 w6 := by rw [hw6]; exact (Below.refl _ w5).alloc (Nat.le_refl _) _
        have o6 := (b6.block _ (heap_lt n5)).trans n5
        have br6 := b5.trans (b6.mono b5.size)
        have bw6 := hbr.trans (br6.mono hbr.size)
        obtain ⟨O, hO⟩ : ∃ O, wr.heap.size = O := ⟨_, rfl⟩
        rw [s5] at n6
        have hOw : w.heap.size ≤ O := by rw [← hO]; exact hbr.size
        have hOl : O + 1 < w6.heap.size := by rw [← hO]; exact heap_lt n6
        rw [hO] at n6 o6
        have H6 := Lib.hid (HW.out.below br6)
        have HN6 := Lib.hid n6
        have HO6 := Lib.hid o6
        have HB6 := Lib.hid bw6
        clear q hk hox hx hfit hmem HL hlk hld n5 s5 b5 b6 br6 bw6 HW
        go_upto_region 8 with fail
        rw [← hw5]
        try rw [← hw6]
        try rw [hO]
        have g0 : w6.cell? ⟨O + 1, 0, none⟩ = some (str t) := by rw [Lib.cell_of_heap n6]; rfl
        have g1 : w6.cell? ⟨O + 1, 1, none⟩ = some (str j) := by rw [Lib.cell_of_heap n6]; rfl
        have c6 : w6.cell? ⟨p, 0, none⟩ = some (.map (some B0)) := by rw [Lib.cell_of_heap H6.out.box]; rfl
        have hp6 := heap_lt H6.out.box
        have hp6n : ¬ w6.heap.size = p := by omega
        have hp6m : ¬ p = w6.heap.size := by omega
        have hN6n : ¬ w6.heap.size = O + 1 := by omega
        have hN6m : ¬ O + 1 = w6.heap.size := by omega
        obtain ⟨B, hB⟩ : ∃ B, hasO l t j = B := ⟨_, rfl⟩
        rw [hB] at HLK HLD
        have HMO := Lib.hid (fun W (hW : Below w6.heap.size w6 W) => (H6.out.below hW).map)
        clear hw5 hw6 hO n6 o6 k0 k1 k2 k3 k4 k5 k6 hB
        go_cut [10, 11] from 30 to 39 (fun s10 s11 wx => s11 = .bool B ∧ Hid (Below w6.heap.size w6 wx))
        case first =>
          have T1 := HLK.out _ (HMO.out _ ((Below.refl _ w6).drew))
          have T2 := fun o => HLK.out _ (HMO.out _ (((Below.refl _ w6).alloc (Nat.le_refl _) o).drew))
          obtain ⟨z0, z1, z2, z3, z4, y0, y1, y2, y3, y4⟩ := free5 (heap_alloc_new w6 (.cells #[.int .i64 0, .bool false, .string ⟨#[]⟩, .slice none 0 0, .slice none 0 0] 41))
          go_region_law_o fail
          all_goals (try go_wp2)
          all_goals go_meet
          all_goals exact ⟨rfl, ((Below.refl _ w6).alloc (Nat.le_refl _) _).drew⟩
        case rest =>
          obtain ⟨rfl, HW⟩ := hcut
          clear g0 g1 c6 HMO hp6 hp6n hp6m hN6n hN6m HLK
          have hbc := HB6.out.trans (HW.out.mono HB6.out.size)
          cases B with
          | true =>
            have hlo := HLD.out
            rw [if_pos rfl] at hlo
            have HLO := Lib.hid hlo
            clear hlo HLD
            go_wp2
            go_ret2
            exact NewPost.twice hbc HG.out HLO.out
          | false =>
            have hlo := HLD.out
            rw [if_neg (by simp)] at hlo
            have HLO := Lib.hid hlo.symm
            clear hlo HLD
            obtain ⟨hfv, hsz⟩ := goodA_facts hgx
            have h6c := HW.out
            have qn : ∀ {q o : Nat} {u : Value}, q < w6.heap.size → w6.cell? ⟨q, o, none⟩ = some u → wc.cell? ⟨q, o, none⟩ = some u := fun {q o u} hq hu => (h6c.cell (p := ⟨q, o, none⟩) hq).trans hu
            have g0 : wc.cell? ⟨O + 1, 0, none⟩ = some (str t) := qn (heap_lt HN6.out) (by rw [Lib.cell_of_heap HN6.out]; rfl)
            have g1 : wc.cell? ⟨O + 1, 1, none⟩ = some (str j) := qn (heap_lt HN6.out) (by rw [Lib.cell_of_heap HN6.out]; rfl)
            have o2 : wc.cell? ⟨O, 2, none⟩ = some (.int .i64 x.kind) := qn (heap_lt HO6.out) (by rw [Lib.cell_of_heap HO6.out]; rfl)
            have o3 : wc.cell? ⟨O, 3, none⟩ = some (.bool x.flag) := qn (heap_lt HO6.out) (by rw [Lib.cell_of_heap HO6.out]; rfl)
            have o4 : wc.cell? ⟨O, 4, none⟩ = some (str x.text) := qn (heap_lt HO6.out) (by rw [Lib.cell_of_heap HO6.out]; rfl)
            have o5 : wc.cell? ⟨O, 5, none⟩ = some (.slice ai x.items.length ci) := qn (heap_lt HO6.out) (by rw [Lib.cell_of_heap HO6.out]; rfl)
            have o6 : wc.cell? ⟨O, 6, none⟩ = some (.slice ak x.keys.length ck) := qn (heap_lt HO6.out) (by rw [Lib.cell_of_heap HO6.out]; rfl)
            have hWc := H6.out.below h6c
            have c6 : wc.cell? ⟨p, 0, none⟩ = some (.map (some B0)) := by rw [Lib.cell_of_heap hWc.box]; rfl
            have HWC := Lib.hid hWc
            have HBC := Lib.hid hbc
            have hnc : wc.heap[O + 1]? = some (.cells #[str t, str j] 78 (0, 0)) := (h6c.block _ (heap_lt HN6.out)).trans HN6.out
            have HCL := Lib.hid (fun W (hW : Below wc.heap.size wc W) => clone_val x _ W (HX.out.mono (hbc.trans (hW.mono hbc.size))) hfv (by omega : sizeV x ≤ 1000000))
            have HAF := Lib.hid (fun W (hW : Below wc.heap.size wc W) => (⟨hWc.below hW, hbc.trans (hW.mono hbc.size), (hW.block _ (heap_lt hnc)).trans hnc⟩ : WAt W p B0 i ⟨l, fs, []⟩ val (.slice a1 fs.length c1) (.slice none 0 0) D ∧ Below w.heap.size w W ∧ W.heap[O + 1]? = some (.cells #[str t, str j] 78 (0, 0))))
            have hst : ∀ W v F, WAt W p B0 i ⟨l, fs, []⟩ val (.slice a1 fs.length c1) (.slice none 0 0) D → OwnVal W x v F → ∃ w', (Instr.mapUpdate 71 (.map (some B0)) (.agg #[str t, str j]) v).run Tryz.prog W = .ok () w' ∧ (WAt w' p B0 (i + 1) ⟨withO l (t, j, x), fs, []⟩ (putVal val t j v) (.slice a1 fs.length c1) (.slice none 0 0) (D.put (klW t j) (.held v)) ∧ Spares [B0] W w') := fun W v F h1 h2 => h1.store (by unfold maxLen; omega) ft fj hgx h2
            have HST := Lib.hid hst
            have hB0w : w.heap.size ≤ B0 := HFR.out B0 (by simp [wF])
            clear hst qn h6c hWc hbc hnc HX H6 HB6 HN6 HO6 HW hfv hsz
            go_upto_region 11 with fail
            go_region_law_o (go_simp; go_at_call 30; refine (HCL.out _ (Below.refl _ wc).drew).mono ?_; rintro e w1 ⟨v1, F1, rfl, hov, hnd, hge, hb1⟩; obtain ⟨si, sc, sk, sd, rfl⟩ := hov.at.form; have hb2 : Below wc.heap.size wc w1 := (Below.refl _ wc).drew.trans (hb1.mono (Nat.le_refl _)); obtain ⟨a1, a2, a3⟩ := HAF.out _ hb2; have d0 : w1.cell? ⟨O + 1, 0, none⟩ = some (str t) := (by rw [Lib.cell_of_heap a3]; rfl); have d1 : w1.cell? ⟨O + 1, 1, none⟩ = some (str j) := (by rw [Lib.cell_of_heap a3]; rfl); have d6 : w1.cell? ⟨p, 0, none⟩ = some (.map (some B0)) := (by rw [Lib.cell_of_heap a1.box]; rfl); obtain ⟨w5, hr5, hW5', hs5'⟩ := HST.out _ _ _ a1 hov; have hW5 := Lib.hid hW5'; have hs5 := Lib.hid hs5'; have HA1 := Lib.hid a2; clear hov hnd hge hb1 hb2 a1 a2 a3 hW5' hs5')
            all_goals
              have HY := Lib.hid (⟨hW5.out, Below.spared HA1.out hs5.out HA1.out.size (fun k hk => by simp at hk; omega)⟩ : WAt w5 p B0 (i + 1) ⟨withO l (t, j, x), fs, []⟩ _ (.slice a1 fs.length c1) (.slice none 0 0) _ ∧ Below w.heap.size w w5)
              clear hW5 hs5 hr5 HA1 HST HAF HCL d0 d1 d6 g0 g1 c6 o2 o3 o4 o5 o6
              go_wp2
              go_roundg gg
              case measure => omega
              case rel => exact ⟨i + 1, withO l (t, j, x), _, _, by go_num, by omega, HLO, Lib.hid HY.out.1, HY.out.2⟩

end Go.Proofs.YtpbipngnoklmcaaGreatDoor
