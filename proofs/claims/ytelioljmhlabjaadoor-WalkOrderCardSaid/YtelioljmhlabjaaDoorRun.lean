/- The walk of Run: a walk to its end by picks. -/
import Derived.Test.YtelioljmhlabjaaDoorEndP
import Derived.Test.YtelioljmhlabjaaDoorWk4
import Derived.Test.YtelioljmhlabjaaDoorNew
import Derived.Test.YtelioljmhlabjaaDoorPlay0
import Derived.Deep.CutRange
namespace Go.Proofs.YtelioljmhlabjaaDoor
open Go.RowKit
set_option maxRecDepth 100000

/-- A struct of three cells in a variable. -/
theorem box3r {w : World} {ty q : Nat} {x0 x1 x2 : Value} (h : w.heap[q]? = some (.cells #[x0, x1, x2] ty (0, 0))) :
    w.cell? ⟨q, 0, none⟩ = some x0 ∧ w.cell? ⟨q, 1, none⟩ = some x1 ∧ w.cell? ⟨q, 2, none⟩ = some x2 := by
  simp [World.cell?, h]
/-- v is a slice (perhaps nil) of bools. -/
def BoolsAt (w : World) (v : Value) (xs : List Bool) : Prop :=
  ∃ (ao : Option Addr) (cap : Nat), v = .slice ao xs.length cap ∧ xs.length ≤ 140737488355328 ∧ (xs.length ≤ cap ∧ cap ≤ 9223372036854775807 ∧ (ao = none → cap = 0)) ∧
    (xs ≠ [] → ∃ b off, ao = some ⟨b, off, none⟩ ∧ b < w.heap.size ∧ ∀ i, i < xs.length → w.cell? ⟨b, off + i, none⟩ = some (.bool (xs.getD i false)))
theorem BoolsAt.nil (w : World) : BoolsAt w (.slice none 0 0) [] := ⟨none, 0, rfl, by simp, by simp, fun h => absurd rfl h⟩
theorem BoolsAt.mono {w w' : World} {v : Value} {xs : List Bool} (h : BoolsAt w v xs) (hb : Below w.heap.size w w') : BoolsAt w' v xs := by
  obtain ⟨ao, cap, hv, hl, hm, hc⟩ := h
  refine ⟨ao, cap, hv, hl, hm, fun hne => ?_⟩
  obtain ⟨b, off, ha, hlt, hcell⟩ := hc hne
  exact ⟨b, off, ha, Nat.lt_of_lt_of_le hlt hb.size, fun i hi => (hb.cell (p := ⟨b, off + i, none⟩) hlt).trans (hcell i hi)⟩

def okF (fl : List Bool) (i : Nat) : Bool := !(decide (i < fl.length) && fl.getD i false)
def pickF (pks : List Int) (k : Nat) : Int := if pks.length = 0 then 0 else pks.getD (k % pks.length) 0
def pkF (pks : List Int) (k : Nat) : Nat := (IntKind.u64.wrap (pickF pks k)).toNat
theorem pkF_eq (pks : List Int) (k : Nat) : IntKind.u64.wrap (pickF pks k) = (pkF pks k : Int) := by
  unfold pkF
  have : 0 ≤ IntKind.u64.wrap (pickF pks k) := by
    simp only [IntKind.wrap]
    exact Int.emod_nonneg _ (by decide)
  omega

/-- What Run answers. -/
def RunPost (n : Nat) (es : List (Int × Int)) (lim : Int) (r : RunS) (w : World) (e : Ending) (w' : World) : Prop :=
  ∃ (b S A N : Nat) (ev : Value) (rows : List Value) (ov : Value), e = .returned (.tuple #[.pointer (some ⟨b, 0, none⟩), ov, .int .i64 r.m, .bool true]) ∧ WkM w' b S A N n ev rows es lim r.st (cnts n (aheadN es r.st)) ∧ IntsAt w' ov (ints r.o) ∧ Below w.heap.size w w'

structure RunM (w w4 wr : World) (b S A N m : Nat) (ev : Value) (rows : List Value) (es : List (Int × Int)) (lim : Int) (ag : Option Addr) (cg : Nat) (ov : Value) (st : List Int) (o : List Nat) : Prop where
  wk : WkM wr b S A N m ev rows es lim st (cnts m (aheadN es st))
  bx : wr.heap[w.heap.size]? = some (.cells #[.int .i64 m, .slice ag es.length cg, .int .i64 lim] 54 (0, 0))
  ow : wr.ownsRow w4.heap.size 3 1 ov o.length ((ints o).map (Value.int .i64))
  old : w.heap.size < S ∧ w.heap.size < A ∧ S < w4.heap.size ∧ A < w4.heap.size
  ob : b < w4.heap.size ∧ N < w4.heap.size
  oe : ∀ k, ev.ownBlock = some k → k < w4.heap.size
  orw : ∀ i, i < m → ∀ k, (rows.getD i (.slice none 0 0)).ownBlock = some k → k < w4.heap.size
  bel : Below w.heap.size w wr
  sz : w4.heap.size ≤ wr.heap.size
  wsz : w.heap.size < w4.heap.size

section
variable {w w4 wr w' : World} {b S A N m : Nat} {ev : Value} {rows : List Value} {es : List (Int × Int)} {lim : Int} {ag : Option Addr} {cg : Nat} {ov : Value} {st : List Int} {o : List Nat}
theorem RunM.below (h : RunM w w4 wr b S A N m ev rows es lim ag cg ov st o) (hb : Below wr.heap.size wr w') : RunM w w4 w' b S A N m ev rows es lim ag cg ov st o :=
  ⟨h.wk.below hb, (hb.block _ (by have := h.sz; have := h.wsz; omega)).trans h.bx, own_below h.ow hb, h.old, h.ob, h.oe, h.orw, h.bel.trans (hb.mono h.bel.size), by have := h.sz; have := hb.size; omega, h.wsz⟩
theorem RunM.act {st' : List Int} (h : RunM w w4 wr b S A N m ev rows es lim ag cg ov st o) (hw : WkM w' b S A N m ev rows es lim st' (cnts m (aheadN es st'))) (hc : ChSA S A wr w') : RunM w w4 w' b S A N m ev rows es lim ag cg ov st' o := by
  obtain ⟨o1, o2, o3, o4⟩ := h.old
  have hz := h.sz
  have hwz := h.wsz
  exact ⟨hw, (hc.block _ (by omega) (by omega) (by omega)).trans h.bx, own_keep h.ow fun k h1 h2 => hc.block k h2 (by omega) (by omega), h.old, h.ob, h.oe, h.orw, below_ch h.bel hc h.bel.size (by omega) (by omega), by have := hc.size; omega, hwz⟩
theorem RunM.push {ov' : Value} {o' : List Nat} {wx : World} (h : RunM w w4 wr b S A N m ev rows es lim ag cg ov st o) (hx : Below wr.heap.size wr wx) (hg : wx.grownBy w' ov.ownBlock) (hown : w'.ownsRow w4.heap.size 3 1 ov' o'.length ((ints o').map (Value.int .i64))) :
    RunM w w4 w' b S A N m ev rows es lim ag cg ov' st o' := by
  have hbx := h.below hx
  obtain ⟨o1, o2, o3, o4⟩ := h.old
  obtain ⟨o5, o6⟩ := h.ob
  have hlt : ∀ k, ov.ownBlock = some k → w4.heap.size ≤ k := fun k e => (h.ow.lt _ e).1
  have hne : ∀ k, k < w4.heap.size → ¬ ov.ownBlock = some k := fun k hk e => by have := hlt k e; omega
  have hz := hbx.sz
  have hwz := h.wsz
  refine ⟨hbx.wk.kept (fun k => ov.ownBlock = some k) ⟨hne _ o5, hne _ o3, hne _ o4, hne _ o6⟩ (fun k hk => hne _ (h.oe k hk)) (fun i hi k hk => hne _ (h.orw i hi k hk)) hg.size fun k hk hlt => hg.block k hlt (fun e => hk e.symm),
    (hg.block _ (by omega) (fun e => hne _ hwz e.symm)).trans hbx.bx, hown, h.old, h.ob, h.oe, h.orw, hbx.bel.grown hg hbx.bel.size (fun k e => by have := hlt k e; omega), by have := hg.size; omega, hwz⟩
end

theorem run_start {n : Nat} {es : List (Int × Int)} {lim : Int} {ok : Nat → Bool} {pk : Nat → Nat} {k i : Nat} {st : List Int} {o : List Nat} {mm : Nat} (hr : runR n es lim ok pk k = ⟨st, o, mm⟩) (ho : overR n es st = false) (hc : chooseR n es lim st (pk k) = ((i : Int), true))
    (hs : startR n es lim st i = (st.set i 1, 0)) : runR n es lim ok pk (k + 1) = ⟨st.set i 1, o ++ [i], max mm (withL n es (st.set i 1) 1).length⟩ := by
  rw [runR, hr, if_neg (by simp [ho])]
  unfold stepR
  simp only
  rw [hc, if_pos rfl, hs, Int.toNat_natCast]
theorem run_finish {n : Nat} {es : List (Int × Int)} {lim : Int} {ok : Nat → Bool} {pk : Nat → Nat} {k i : Nat} {st : List Int} {o : List Nat} {mm : Nat} (hr : runR n es lim ok pk k = ⟨st, o, mm⟩) (ho : overR n es st = false) (hc : chooseR n es lim st (pk k) = ((i : Int), false)) :
    runR n es lim ok pk (k + 1) = ⟨(finishR n es st i (ok i)).1, o, max mm (withL n es (finishR n es st i (ok i)).1 1).length⟩ := by
  rw [runR, hr, if_neg (by simp [ho])]
  unfold stepR
  simp only
  rw [hc, if_neg (by simp), Int.toNat_natCast]
theorem finish_ok {n : Nat} {es : List (Int × Int)} {st : List Int} {i : Nat} {ok : Bool} (hi : i < n) (h : st.getD i 0 = 1) : (finishR n es st i ok).2 = 0 := by
  rw [finish_zero hi h]
  split <;> rfl

set_option maxHeartbeats 4000000 in
theorem run_any (m : Nat) (lim : Int) (ag : Option Addr) (cg : Nat) (es : List (Int × Int)) (pv : Value) (pks : List Int) (fv : Value) (fl : List Bool) (w : World) (hT : Tab w) (h : PairsAt w (.slice ag es.length cg) es) (hp : IntsAt w pv pks) (hf : BoolsAt w fv fl) (hE : newE m es lim = 0) (hesl : es.length ≤ 4096) :
    Calls Tryd.prog 42 #[.agg #[.int .i64 m, .slice ag es.length cg, .int .i64 lim], pv, fv] w (RunPost m es lim (endR m es lim (okF fl) (pkF pks)) w) := by
  obtain ⟨i3, hi3, hz3, hs3, hy3⟩ := info_parts Tryd.info3
  have ho : (orderR m es).2 = 0 := by
    apply Classical.byContradiction
    intro hh
    unfold newE at hE
    rw [if_pos hh] at hE
    exact hh hE
  have hl : 1 ≤ lim ∧ lim ≤ 16 := by
    unfold newE at hE
    rw [if_neg (by rw [ho]; simp)] at hE
    apply Classical.byContradiction
    intro hh
    rw [if_pos (by omega)] at hE
    exact absurd hE (by decide)
  obtain ⟨m', hm', hm512, hes, _, _⟩ := orderR_zero ho
  obtain rfl : m = m' := by omega
  have hb0 : Below w.heap.size w (w.alloc (.cells #[.int .i64 m, .slice ag es.length cg, .int .i64 lim] 54)) := (Below.refl _ _).alloc (Nat.le_refl _) _
  have hgx : (w.alloc (.cells #[.int .i64 m, .slice ag es.length cg, .int .i64 lim] 54)).heap[w.heap.size]? = some (.cells #[.int .i64 m, .slice ag es.length cg, .int .i64 lim] 54 (0, 0)) := heap_alloc_new _ _
  obtain ⟨w0, hw0⟩ : ∃ w0, w0 = w.alloc (.cells #[.int .i64 m, .slice ag es.length cg, .int .i64 lim] 54) := ⟨_, rfl⟩
  have hs0 : w0.heap.size = w.heap.size + 1 := by rw [hw0]; simp
  rw [← hw0] at hb0 hgx
  have NB := new_fresh (.slice ag es.length cg) es m lim w0 (hT.mono hb0) (h.mono hb0) ho hl.1 hl.2 hesl
  obtain ⟨ap, cp, hpv, hpl, _⟩ := id hp
  obtain ⟨af, cf, hfv, hfl, _⟩ := id hf
  subst hpv hfv
  have HP := Lib.hid hp
  have HF := Lib.hid hf
  have HES := Lib.hid hes
  have HL := Lib.hid hl.1
  clear hE ho h hp hf hes hm'
  obtain ⟨y0, y1, y2⟩ := box3r hgx
  go_enter Tryd.func42, Tryd.ntmps42
  go_wp2_with (simp only [← hw0])
  refine NB.mono ?_
  rintro e w4 ⟨b, S, A, N, ev, rows, rfl, hW4, hb4, gb, gS, gA, gN, gev, grw⟩
  have hM4 : RunM w w4 w4 b S A N m ev rows es lim ag cg (.slice none 0 0) (List.replicate m 0) [] :=
    ⟨hW4, (hb4.block _ (by omega)).trans hgx, World.ownsRow_nil _ _ _ _, ⟨by omega, by omega, hW4.sst.lt, hW4.sah.lt⟩, ⟨hW4.blt, hW4.nlt⟩, fun k hk => (gev k hk).2, fun i hi k hk => (grw i hi k hk).2, hb0.trans (hb4.mono hb0.size), Nat.le_refl _, by have := hb4.size; omega⟩
  clear NB hW4 hb4 gev grw y0 y1 y2 hgx hw0 hb0
  go_wp2
  go_loopg [12, 13, 14] (2 * m) (fun g v12 v13 v14 wr => ∃ k : Nat, k + g = 2 * m ∧ v14 = .int .i64 k ∧ v13 = .int .i64 ((runR m es lim (okF fl) (pkF pks) k).m : Nat) ∧ RunM w w4 wr b S A N m ev rows es lim ag cg v12 (runR m es lim (okF fl) (pkF pks) k).st (runR m es lim (okF fl) (pkF pks) k).o)
  case atStart => exact ⟨0, by omega, rfl, rfl, hM4⟩
  case round =>
    obtain ⟨k, hkg, rfl, rfl, hM⟩ := hrel
    clear hM4
    have hinv := (run_inv (ok := okF fl) (pk := pkF pks) HL.out HES.out k).1
    obtain ⟨y0, y1, y2⟩ := box3r hM.bx
    have OV := over_any b S A N m ev rows es lim _ wr hM.wk
    have hk2 : (k : Int) ≤ 2 * (m : Int) := by omega
    by_cases hov : overR m es (runR m es lim (okF fl) (pkF pks) k).st = true
    · have hend := endR_of (show k ≤ 2 * m by omega) hov
      have HEND := Lib.hid hend
      clear hend
      have OV2 := fun w' hb => over_any b S A N m ev rows es lim _ w' (hM.wk.below hb)
      have hol : (runR m es lim (okF fl) (pkF pks) k).o.length ≤ m := Ok.len (n := m) ⟨fun i hi => ((hinv.mem i).1 hi).1, hinv.nod⟩
      unfold overR at hov
      rw [hov] at OV OV2
      generalize runR m es lim (okF fl) (pkF pks) k = s at hM OV OV2 hol HEND ⊢
      have HM := Lib.hid hM
      clear hM hov hinv
      go_wp2_with fail
      refine OV.mono ?_
      rintro e w5 ⟨rfl, hb5⟩
      have OV5 := OV2 w5 hb5
      clear OV OV2
      go_wp2_with fail
      refine OV5.mono ?_
      rintro e w6 ⟨rfl, hb6⟩
      have hM6 := (HM.out.below hb5).below hb6
      clear OV5
      go_wp2
      refine bodyPost_ret (v := .tuple #[.pointer (some ⟨b, 0, none⟩), _, .int .i64 s.m, .bool true]) (by simp [results, go_sem]; rfl) rfl ?_
      rw [HEND.out]
      exact ⟨b, S, A, N, ev, rows, _, rfl, hM6.wk, ints_of_own (by rw [ints_len]; exact hM6.ow) (by rw [ints_len]; omega), hM6.bel⟩
    · have hov' : overR m es (runR m es lim (okF fl) (pkF pks) k).st = false := by simpa using hov
      cases gk with
      | zero =>
        have : k = 2 * m := by omega
        subst this
        exact absurd (run_over HL.out HES.out) hov
      | succ g =>
        clear hov
        have hol : (runR m es lim (okF fl) (pkF pks) k).o.length ≤ m := Ok.len (n := m) ⟨fun i hi => ((hinv.mem i).1 hi).1, hinv.nod⟩
        have CC := choose_cases (pkF pks k) HL.out hov'
        have hwi := hinv.inv
        have CH := fun w' hb => choose_any b S A N m ev rows es lim _ (pickF pks k) (pkF pks k) w' (hM.wk.below hb) (pkF_eq pks k)
        obtain ⟨⟨st, o, mm⟩, hr⟩ : ∃ s, runR m es lim (okF fl) (pkF pks) k = s := ⟨_, rfl⟩
        rw [hr] at hM OV hov' hol CC hwi CH ⊢
        simp only at hM OV hov' hol CC hwi CH ⊢
        have hov2 := hov'
        unfold overR at hov'
        rw [hov'] at OV
        have HM := Lib.hid hM
        have HR := Lib.hid hr
        have HOV := Lib.hid hov2
        have HWI := Lib.hid hwi
        clear hM hinv hr hov' hov2 hwi
        go_wp2_with fail
        refine OV.mono ?_
        rintro e w5 ⟨rfl, hb5⟩
        have CH5 := CH w5 hb5
        have HM5 := Lib.hid (HM.out.below hb5)
        clear OV CH HM y0 y1 y2
        have hpf : Hid (pickF pks k = if pks.length = 0 then 0 else pks.getD (k % pks.length) 0) := rfl
        obtain ⟨x, hx⟩ : ∃ x, x = pickF pks k := ⟨_, rfl⟩
        rw [← hx] at CH5
        go_upto_if 48 with fail
        go_cut [15] from 34 to 97 (fun s15 wx => s15 = .int .i64 x ∧ wx = w5)
        case first =>
          by_cases hp0 : pks.length = 0
          · have hx0 : x = 0 := by rw [hx, hpf.out, if_pos hp0]
            have hg0 : ¬ (0 : Int) < (pks.length : Int) := by omega
            clear hx hpf CH5 hp0
            go_wp2
            go_meet
            exact ⟨by rw [hx0], rfl⟩
          · have hx0 : x = pks.getD (k % pks.length) 0 := by rw [hx, hpf.out, if_neg hp0]
            have hg0 : (0 : Int) < (pks.length : Int) := by omega
            have hlt := Nat.mod_lt k (show 0 < pks.length by omega)
            have hrem : wrap64 ((k : Int).tmod (pks.length : Int)) = ((k % pks.length : Nat) : Int) := by
              have e : ((k : Int)).tmod (pks.length : Int) = ((k % pks.length : Nat) : Int) := by rw [Int.tmod_eq_emod_of_nonneg (by omega)]; simp
              rw [e]
              unfold wrap64
              omega
            obtain ⟨bp, op, hap, hbp, hcp⟩ := HP.out.get hlt
            rw [← hx0] at hcp
            have hcp5 := (HM5.out.bel.cell (p := ⟨bp, op + k % pks.length, none⟩) hbp).trans hcp
            clear hx hpf CH5 hcp hx0
            subst hap
            have hp0' : ((pks.length : Int) == 0) = false := by simpa using (by omega : ¬ (pks.length : Int) = 0)
            obtain ⟨q, hq⟩ : ∃ q, k % pks.length = q := ⟨_, rfl⟩
            rw [hq] at hlt hrem hcp5
            go_wp2_with (simp only [hq])
            go_meet
            exact ⟨rfl, rfl⟩
        case rest =>
          obtain ⟨rfl, rfl⟩ := hcut
          rcases CC with ⟨i, hi, hc, h0, ha, hm⟩ | ⟨i, hi, hc, h1⟩
          · have hst := start_zero hi h0 ha (show ¬ lim ≤ ((withL m es st 1).length : Int) by omega)
            have hnext := run_start HR.out HOV.out hc hst
            rw [hc] at CH5
            simp only at CH5
            have SR := fun w' hb => start_any b S A N m ev rows es lim st (i : Int) w' (HM5.out.below hb).wk
            rw [hst] at SR
            clear hst hm ha h0 hc hpf hx HR HOV HWI
            go_wp2_with fail
            refine CH5.mono ?_
            rintro e w6 ⟨rfl, hb6⟩
            have SR6 := SR w6 hb6
            have HM6 := Lib.hid (HM5.out.below hb6)
            clear SR CH5 HM5
            go_wp2_with fail
            refine SR6.mono ?_
            rintro e w7 ⟨rfl, hW7, hc7⟩
            simp only at hW7
            have hM7 := HM6.out.act hW7 hc7
            have HM7 := Lib.hid hM7
            have how7 := hM7.ow
            have hsz7 := hM7.sz
            clear SR6 HM6 hW7 hc7 hM7
            go_wp2_with (at_builtin; refine wpList_append_fresh _ rfl (.tmp 66) (.tmp 68) 26 rfl w4.heap.size 3 i3 _ 1 8 Tryd.underlying26 hi3 hz3 hs3 hy3 rfl (by decide) _ _ _ rfl (how7.alloc _) ⟨w7.heap.size, 0, none⟩ 1 1 [.int .i64 i] rfl rfl ?a1 ?a2 ?a3 ?a4 ?a5 ?_)
            case a1 => exact cell_one_new _ _ _
            case a2 => intro u hu; simp at hu; subst hu; rfl
            case a3 => unfold maxLen; omega
            case a4 => omega
            case a5 => simp; omega
            intro ov' w8 hown8 hgrow8 _
            have hown8' : w8.ownsRow w4.heap.size 3 1 ov' (o ++ [i]).length ((ints (o ++ [i])).map (Value.int .i64)) := by simpa [ints] using hown8
            have hM8 := HM7.out.push ((Below.refl _ _).alloc (Nat.le_refl _) _) hgrow8 hown8'
            have RU := running_any b S A N m ev rows es lim (st.set i 1) w8 hM8.wk
            have hlen := withL_len m es (st.set i 1) 1
            have HM8 := Lib.hid hM8
            have HNX := Lib.hid hnext
            clear hnext hM8 hown8 hown8' hgrow8 HM7 how7
            generalize withL m es ((st.set i 1)) 1 = l at RU hlen HNX
            go_wp2_with fail
            refine RU.mono ?_
            rintro e w9 ⟨rv, rfl, hrv, hb9⟩
            obtain ⟨ar, cr, hrve, _, _⟩ := hrv.val
            rw [ints_len] at hrve
            subst hrve
            have hM9 := HM8.out.below hb9
            clear RU hrv HM8
            by_cases hmx : mm < l.length
            · go_wp2
              go_roundg g
              case measure => omega
              case rel => exact ⟨k + 1, by omega, by go_num, by rw [HNX.out]; simp only; rw [Nat.max_eq_right (Nat.le_of_lt hmx)], by rw [HNX.out]; exact hM9⟩
            · go_wp2
              go_roundg g
              case measure => omega
              case rel => exact ⟨k + 1, by omega, by go_num, by rw [HNX.out]; simp only; rw [Nat.max_eq_left (Nat.le_of_not_lt hmx)], by rw [HNX.out]; exact hM9⟩
          · have hnext := run_finish HR.out HOV.out hc
            rw [hc] at CH5
            simp only at CH5
            have h0S : 0 < S := by have := HM5.out.old; omega
            have h0A : 0 < A := by have := HM5.out.old; omega
            clear hc hpf hx
            by_cases hif : fl.length ≤ i
            · have hok : okF fl i = true := by unfold okF; rw [decide_eq_false (show ¬ i < fl.length by omega)]; rfl
              rw [hok] at hnext
              have hge : (fl.length : Int) ≤ (i : Int) := by omega
              have hfz := finish_ok (es := es) (ok := true) hi h1
              have FI := fun w' hb hT' => finish_any b S A N m ev rows es lim st (i : Int) (true) w' hT' h0S h0A (HM5.out.below hb).wk HES.out HWI.out
              generalize finishR m es st (i : Int) (true) = r at FI hfz hnext
              obtain ⟨st', c⟩ := r
              simp only at FI hfz hnext
              subst hfz
              clear h1 HWI HR HOV
              go_wp2_with fail
              refine CH5.mono ?_
              rintro e w6 ⟨rfl, hb6⟩
              have hM6 := HM5.out.below hb6
              have FI6 := FI w6 hb6 (hT.mono hM6.bel)
              have HM6 := Lib.hid hM6
              clear FI CH5 HM5 hM6
              go_wp2_with fail
              refine FI6.mono ?_
              rintro e w7 ⟨rfl, hW7, hc7⟩
              simp only at hW7
              have hM8 := HM6.out.act hW7 hc7
              have RU := running_any b S A N m ev rows es lim st' w7 hM8.wk
              have hlen := withL_len m es st' 1
              have HM8 := Lib.hid hM8
              have HNX := Lib.hid hnext
              clear hnext hM8 HM6 FI6 hW7 hc7
              generalize withL m es (st') 1 = l at RU hlen HNX
              go_wp2_with fail
              refine RU.mono ?_
              rintro e w9 ⟨rv, rfl, hrv, hb9⟩
              obtain ⟨ar, cr, hrve, _, _⟩ := hrv.val
              rw [ints_len] at hrve
              subst hrve
              have hM9 := HM8.out.below hb9
              clear RU hrv HM8
              by_cases hmx : mm < l.length
              · go_wp2
                go_roundg g
                case measure => omega
                case rel => exact ⟨k + 1, by omega, by go_num, by rw [HNX.out]; simp only; rw [Nat.max_eq_right (Nat.le_of_lt hmx)], by rw [HNX.out]; exact hM9⟩
              · go_wp2
                go_roundg g
                case measure => omega
                case rel => exact ⟨k + 1, by omega, by go_num, by rw [HNX.out]; simp only; rw [Nat.max_eq_left (Nat.le_of_not_lt hmx)], by rw [HNX.out]; exact hM9⟩
            · have hok : okF fl i = !(fl.getD i false) := by
                unfold okF
                rw [decide_eq_true (show i < fl.length by omega), Bool.true_and]
              rw [hok] at hnext
              have hge : ¬ (fl.length : Int) ≤ (i : Int) := by omega
              have hfn : fl ≠ [] := fun e => by rw [e] at hif; simp at hif
              obtain ⟨bf, off, haf, hbf, hcf⟩ : ∃ bf off, af = some ⟨bf, off, none⟩ ∧ bf < w.heap.size ∧ w.cell? ⟨bf, off + i, none⟩ = some (.bool (fl.getD i false)) := by
                obtain ⟨_, _, hv3, _, _, hc3⟩ := HF.out
                cases hv3
                obtain ⟨bf, off, h1, h2, h3⟩ := hc3 hfn
                exact ⟨bf, off, h1, h2, h3 i (by omega)⟩
              subst haf
              generalize fl.getD i false = fx at hnext hcf
              have hi0 : ¬ (i : Int) < 0 := by omega
              have hfz := finish_ok (es := es) (ok := !fx) hi h1
              have FI := fun w' hb hT' => finish_any b S A N m ev rows es lim st (i : Int) (!fx) w' hT' h0S h0A (HM5.out.below hb).wk HES.out HWI.out
              generalize finishR m es st (i : Int) (!fx) = r at FI hfz hnext
              obtain ⟨st', c⟩ := r
              simp only at FI hfz hnext
              subst hfz
              clear h1 HWI HR HOV
              go_wp2_with fail
              refine CH5.mono ?_
              rintro e w6 ⟨rfl, hb6⟩
              have hM6 := HM5.out.below hb6
              have FI6 := FI w6 hb6 (hT.mono hM6.bel)
              have HM6 := Lib.hid hM6
              have hcf6 := (hM6.bel.cell (p := ⟨bf, off + i, none⟩) hbf).trans hcf
              clear FI CH5 HM5 hM6
              go_wp2_with fail
              refine FI6.mono ?_
              rintro e w7 ⟨rfl, hW7, hc7⟩
              simp only at hW7
              have hM8 := HM6.out.act hW7 hc7
              have RU := running_any b S A N m ev rows es lim st' w7 hM8.wk
              have hlen := withL_len m es st' 1
              have HM8 := Lib.hid hM8
              have HNX := Lib.hid hnext
              clear hnext hM8 HM6 FI6 hW7 hc7
              generalize withL m es (st') 1 = l at RU hlen HNX
              go_wp2_with fail
              refine RU.mono ?_
              rintro e w9 ⟨rv, rfl, hrv, hb9⟩
              obtain ⟨ar, cr, hrve, _, _⟩ := hrv.val
              rw [ints_len] at hrve
              subst hrve
              have hM9 := HM8.out.below hb9
              clear RU hrv HM8
              by_cases hmx : mm < l.length
              · go_wp2
                go_roundg g
                case measure => omega
                case rel => exact ⟨k + 1, by omega, by go_num, by rw [HNX.out]; simp only; rw [Nat.max_eq_right (Nat.le_of_lt hmx)], by rw [HNX.out]; exact hM9⟩
              · go_wp2
                go_roundg g
                case measure => omega
                case rel => exact ⟨k + 1, by omega, by go_num, by rw [HNX.out]; simp only; rw [Nat.max_eq_left (Nat.le_of_not_lt hmx)], by rw [HNX.out]; exact hM9⟩

end Go.Proofs.YtelioljmhlabjaaDoor
