/- Walk of the program's Cycle. -/
import Derived.Test.YtelioljmhlabjaaDoorCyc
import Derived.Test.YtelioljmhlabjaaDoorOrder
namespace Go.Proofs.YtelioljmhlabjaaDoor
open Go.RowKit
set_option maxRecDepth 100000

def CyclePost (n : Int) (es : List (Int × Int)) (w : World) (e : Ending) (w' : World) : Prop :=
  ∃ v', e = .returned (.tuple #[v', .int .i64 (cycR n es).2]) ∧ IntsAt w' v' (ints (cycR n es).1) ∧ Below w.heap.size w w'

/-- A row of numbers of the call's own, and what was there stays. -/
structure LMem (w wr : World) (L n : Nat) (f : Nat → Nat) : Prop where
  row : OwnInts wr L (cnts n f)
  bel : Below w.heap.size w wr
  lo : w.heap.size ≤ L

theorem LMem.set {w wr : World} {L n : Nat} {f f' : Nat → Nat} (h : LMem w wr L n f) (i x : Nat) (hf : ∀ j, j < n → f' j = if j = i then x else f j) : LMem w (wr.setCell ⟨L, i, none⟩ (.int .i64 (x : Int))) L n f' :=
  ⟨by rw [cnts_congr n f' _ hf, ← cnts_set]; exact h.row.set i x, h.bel.setCell h.lo _, h.lo⟩
theorem LMem.below {w wr w' : World} {L n : Nat} {f : Nat → Nat} (h : LMem w wr L n f) (hb : Below wr.heap.size wr w') : LMem w w' L n f :=
  ⟨h.row.kept (hb.block L h.row.lt), h.bel.trans (hb.mono h.bel.size), h.lo⟩
theorem LMem.congr {w wr : World} {L n : Nat} {f f' : Nat → Nat} (h : LMem w wr L n f) (hf : ∀ j, j < n → f j = f' j) : LMem w wr L n f' :=
  ⟨by rw [← cnts_congr n f f' hf]; exact h.row, h.bel, h.lo⟩

theorem find_congr {p q : Nat → Bool} {l : List Nat} (h : ∀ x ∈ l, p x = q x) : l.find? p = l.find? q := by
  induction l with
  | nil => rfl
  | cons a l ih =>
    rw [List.find?_cons, List.find?_cons, h a (by simp), ih (fun x hx => h x (List.mem_cons_of_mem _ hx))]

set_option maxHeartbeats 3200000 in
theorem Cycle_any (v : Value) (es : List (Int × Int)) (n : Int) (w : World) (hT : Tab w) (h : PairsAt w v es) :
    Calls Tryd.prog 25 #[.int .i64 n, v] w (CyclePost n es w) := by
  have LK := look_any v (.slice none 0 0) es [] n w h (IntsAt.nil w)
  obtain ⟨i0, hi, hz0, hz1, hz2⟩ := info_parts Tryd.info3
  by_cases h0 : lookE n es [] = 0
  · obtain ⟨hn0, hn1, _, hes, _⟩ := lookE_zero h0
    obtain ⟨m, rfl⟩ := Int.eq_ofNat_of_zero_le hn0
    rw [h0] at LK
    have HP : Hid (∀ l, (cycR m es).1 = l → (cycR m es).2 = 0 → ∀ w' v', IntsAt w' v' (ints l) → Below w.heap.size w w' → CyclePost m es w (.returned (.tuple #[v', .int .i64 0])) w') := fun l h1 h2 w' v' h3 h4 =>
      ⟨v', by rw [h2], by rw [h1]; exact h3, h4⟩
    have HR : Hid (cycR (m : Int) es = match (List.range m).find? (fun k => !(kahn m es).contains k) with
      | none => ([], 0)
      | some a => (cycL (backOf es (kahn m es)) (per (backOf es (kahn m es)) m (iter (backOf es (kahn m es)) m a)) (iter (backOf es (kahn m es)) m a), 0)) := by
      unfold cycR; rw [Hid, if_pos h0]; rfl
    have HES := Lib.hid hes
    clear h0 hes
    go_enter Tryd.func25, Tryd.ntmps25
    go_wp2_with fail
    refine LK.mono ?_
    rintro e w1 ⟨rfl, hb1⟩
    have hT1 := hT.mono hb1
    have h1 := h.mono hb1
    clear LK
    go_wp2_with (at_make; refine wpList_make_full _ rfl _ _ 26 rfl w1.heap.size 3 i0 (.int .i64 0) 1 Tryd.underlying26 hi hz0 hz1 _ _ _ _ m rfl rfl rfl rfl (by rw [hz2]; omega) (by unfold maxLen; omega) (Nat.le_refl _) ?_)
    intro w2 hown hgrow
    obtain ⟨L, hL⟩ : ∃ L, L = w1.heap.size := ⟨_, rfl⟩
    have hM : LMem w w2 L m (fun _ => 0) := by
      refine ⟨?_, hb1.grown hgrow hb1.size (fun k hk => by cases hk), by rw [hL]; exact hb1.size⟩
      unfold OwnInts
      have : cnts m (fun _ => 0) = List.replicate m 0 := by simp [cnts, List.map_const']
      rw [this, ← made_ints, hL]
      exact ownsRow_block hown
    rw [← hL]
    clear hown hgrow hb1 hL h1 hT1
    go_wp2
    go_loopw [27] (fun v27 wr => ∃ i : Nat, i ≤ m ∧ v27 = .int .i64 i ∧ LMem w wr L m (fun k => if k < i then 1 else 0)) (fun v27 _ => m - (intOf v27).toNat)
    case atStart => exact ⟨0, Nat.zero_le _, rfl, hM.congr (fun j _ => by simp)⟩
    case round =>
      obtain ⟨i, hi', rfl, hm⟩ := hrel
      clear hM
      by_cases hlt : i < m
      · have c := hm.row.cell (i := i) (by rw [cnts_len]; exact hlt)
        have fz := hm.row.free i
        have HM := Lib.hid (hm.set i 1 (f' := fun k => if k < i + 1 then 1 else 0) (fun j _ => by
          by_cases e : j = i
          · subst e; simp
          · have : j < i + 1 ↔ j < i := by omega
            simp [e, this]))
        obtain ⟨z, hz⟩ : ∃ z, z = (cnts m (fun k => if k < i then 1 else 0)).getD i 0 := ⟨_, rfl⟩
        rw [← hz] at c
        clear hm hz
        go_wp2
        go_roundw
        case rel => exact ⟨i + 1, by omega, by go_num, HM.out⟩
        case measure => simp [intOf]; omega
      · have hm1 := hm.congr (f' := fun _ => 1) (fun j hj => if_pos (by omega))
        have OR := order_any v es m wr (hT.mono hm.bel) (h.mono hm.bel) (by omega) HES.out
        clear hm
        go_wp2_with fail
        refine OR.mono ?_
        rintro e w3 ⟨lv, rfl, hli, hb3, hfr⟩
        have hm3 := hm1.below hb3
        have hLlt := hm1.row.lt
        have hok := kahn_ok m es
        obtain ⟨o, ho⟩ : ∃ o, o = kahn m es := ⟨_, rfl⟩
        have hli2 : IntsAt w3 lv (ints o) := by rw [ho]; exact hli
        rw [← ho] at hok
        have HO := Lib.hid ho
        have hol := hok.len
        obtain ⟨ao, cap, hv, _, hcap⟩ := hli2.val
        rw [ints_len] at hv hcap
        subst hv
        clear hli OR hm1 ho
        go_wp2
        go_loopw [38] (fun v38 wr => ∃ i : Nat, i ≤ o.length ∧ v38 = .int .i64 i ∧ LMem w wr L m (fun k => if (o.take i).contains k then 0 else 1) ∧ OnlyB L w3 wr) (fun v38 _ => o.length - (intOf v38).toNat)
        case atStart => exact ⟨0, Nat.zero_le _, rfl, hm3.congr (fun j _ => by simp), OnlyB.refl _ _⟩
        case round =>
          obtain ⟨i, hi', rfl, hm, hob⟩ := hrel
          clear hm3
          by_cases hlt : i < o.length
          · obtain ⟨b, off, hao, hbl, hc⟩ := hli2.get (i := i) (by rw [ints_len]; exact hlt)
            subst hao
            rw [ints_take] at hc
            have hbL : b ≠ L := fun e => by have := hfr b rfl; omega
            have c1 : wr.cell? ⟨b, off + i, none⟩ = some (.int .i64 (o.getD i 0 : Nat)) := (World.cell?_of_block (hob.block b hbL)).trans hc
            obtain ⟨k, hk⟩ : ∃ k, k = o.getD i 0 := ⟨_, rfl⟩
            have hkm : k < m := by
              apply hok.lt
              rw [hk]
              simp [List.getD, hlt]
            have hts := take_next o i 0 hlt
            rw [← hk] at c1 hts
            have c := hm.row.cell (i := k) (by rw [cnts_len]; exact hkm)
            have fz := hm.row.free k
            have HM := Lib.hid (hm.set k 0 (f' := fun j => if (o.take (i + 1)).contains j then 0 else 1) (fun j _ => by
              rw [hts]
              by_cases e : j = k
              · subst e; simp
              · simp [e]))
            have HB := Lib.hid (hob.setCell k none (.int .i64 ((0 : Nat) : Int)))
            obtain ⟨z, hz⟩ : ∃ z, z = (cnts m (fun k => if (o.take i).contains k then 0 else 1)).getD k 0 := ⟨_, rfl⟩
            rw [← hz] at c
            clear hm hz hk hts hc hob
            go_wp2
            go_roundw
            case rel => exact ⟨i + 1, by omega, by go_num, HM.out, HB.out⟩
            case measure => simp [intOf]; omega
          · have hio : i = o.length := by omega
            have hm2 := hm.congr (f' := fun k => if o.contains k then 0 else 1) (fun j _ => by rw [hio, List.take_length])
            have IX := index_any (.slice (some ⟨L, 0, none⟩) m m) (cnts m (fun k => if o.contains k then 0 else 1)) 1 wr (by
              have := hm2.row.at (by rw [cnts_len]; omega)
              rw [cnts_len] at this
              exact this)
            have hfind : (List.range (cnts m (fun k => if o.contains k then 0 else 1)).length).find? (fun i => (cnts m (fun k => if o.contains k then 0 else 1)).getD i 0 == 1) = (List.range m).find? (fun k => !o.contains k) := by
              rw [cnts_len]
              apply find_congr
              intro k hk
              rw [cnts_get _ _ _ (by simpa using hk)]
              by_cases e : k ∈ o <;> simp [e]
            rw [hfind] at IX
            clear hfind hm hob hli2 hfr hio
            rw [← HO.out] at HR
            have hh := h.mono hm2.bel
            clear hT h
            go_wp2_with fail
            refine IX.mono ?_
            rintro e w4 ⟨rfl, rfl⟩
            obtain ⟨w4, rfl⟩ : ∃ w4 : World, w4 = wr := ⟨_, rfl⟩
            cases hfd : (List.range m).find? (fun k => !o.contains k) with
            | none =>
              have HF := Lib.hid (HP.out [] (by rw [HR.out, hfd]) (by rw [HR.out, hfd]) w4 (.slice none 0 0) (IntsAt.nil _) hm2.bel)
              simp only [optI]
              clear HR HP hm2 IX HO hfd hh
              go_wp2
              go_ret2
              exact HF.out
            | some a =>
              have hao : a < m ∧ a ∉ o := by rw [HO.out] at hfd ⊢; exact find_out_some hfd
              obtain ⟨B, hB⟩ : ∃ B, B = backOf es o := ⟨_, rfl⟩
              have hbi : ∀ k, k < m ∧ k ∉ o → B k < m ∧ B k ∉ o := fun k hk => by
                rw [hB]; rw [HO.out] at hk ⊢; exact (back_in HES.out k hk).1
              have HB := Lib.hid hB
              have HBI := Lib.hid hbi
              have HR2 : Hid (cycR (m : Int) es = (cycL B (per B m (iter B m a)) (iter B m a), 0)) := by
                rw [Hid, HR.out, hfd, hB]
              simp only [optI]
              clear HR IX hfd hB hbi
              go_wp2_with (at_make; refine wpList_make_full _ rfl _ _ 26 rfl w4.heap.size 3 i0 (.int .i64 0) 1 Tryd.underlying26 hi hz0 hz1 _ _ _ _ m rfl rfl rfl rfl (by rw [hz2]; omega) (by unfold maxLen; omega) (Nat.le_refl _) ?_)
              intro w5 hown hgrow
              obtain ⟨K, hK⟩ : ∃ K, K = w4.heap.size := ⟨_, rfl⟩
              have hM : LMem w4 w5 K m (backOf (es.take 0) o) := by
                refine ⟨?_, (Below.refl _ _).grown hgrow (Nat.le_refl _) (fun k hk => by cases hk), by rw [hK]; exact Nat.le_refl _⟩
                unfold OwnInts
                have : cnts m (backOf (es.take 0) o) = List.replicate m 0 := by simp [cnts, backOf, List.map_const']
                rw [this, ← made_ints, hK]
                exact ownsRow_block hown
              rw [← hK]
              clear hown hgrow
              have hLK : L < K := by rw [hK]; exact hm2.row.lt
              clear hK
              obtain ⟨ao2, cap2, rfl, hel, hcap2, hc2⟩ := hh
              have HC2 := Lib.hid hc2
              clear hc2
              go_wp2
              go_loopw [54] (fun v54 wr => ∃ i : Nat, i ≤ es.length ∧ v54 = .int .i64 i ∧ LMem w4 wr K m (backOf (es.take i) o)) (fun v54 _ => es.length - (intOf v54).toNat)
              case atStart => exact ⟨0, Nat.zero_le _, rfl, hM⟩
              case round =>
                obtain ⟨i, hi', rfl, hm⟩ := hrel
                clear hM
                by_cases hlt : i < es.length
                · obtain ⟨b, off, had, hbl, hcell⟩ := HC2.out (by intro h; simp [h] at hlt)
                  subst had
                  have c1 := (hm.bel.cell (p := ⟨b, off + i * 2, none⟩) hbl).trans (hcell i hlt).1
                  have c2 := (hm.bel.cell (p := ⟨b, off + i * 2 + 1, none⟩) hbl).trans (hcell i hlt).2
                  have hts := take_next es i (0, 0) hlt
                  have hmem : es.getD i (0, 0) ∈ es := by simp [List.getD, hlt]
                  obtain ⟨⟨p', q'⟩, hx⟩ : ∃ p, p = es.getD i (0, 0) := ⟨_, rfl⟩
                  rw [← hx] at c1 c2 hts hmem
                  obtain ⟨hx0, hx1, hy0, hy1⟩ := HES.out _ hmem
                  simp only at hx0 hx1 hy0 hy1
                  obtain ⟨p, rfl⟩ := Int.eq_ofNat_of_zero_le hx0
                  obtain ⟨q, rfl⟩ := Int.eq_ofNat_of_zero_le hy0
                  have dl := hm2.row.cell (i := p) (by rw [cnts_len]; omega)
                  rw [cnts_get _ _ _ (by omega)] at dl
                  have hLs : L < w4.heap.size := hm2.row.lt
                  have d1 := (hm.bel.cell (p := ⟨L, p, none⟩) hLs).trans dl
                  have d2 := hm.row.cell (i := q) (by rw [cnts_len]; omega)
                  have df := hm.row.free q
                  obtain ⟨z, hz⟩ : ∃ z, z = (cnts m (backOf (es.take i) o)).getD q 0 := ⟨_, rfl⟩
                  rw [← hz] at d2
                  have hKs := hm.row.lt
                  have hLs2 : L < wr.heap.size := Nat.lt_of_lt_of_le hLs hm.bel.size
                  have hal : ∀ (u : Array Value) (wz : World), Below wz.heap.size wz (wz.alloc (.cells u 34)) := fun u wz => (Below.refl _ _).alloc (Nat.le_refl _) _
                  by_cases hpo : p ∈ o
                  · have hbk : ∀ k, backOf (es.take (i + 1)) o k = backOf (es.take i) o k := fun k => by
                      rw [hts, backOf_snoc, if_neg (by simp [hpo])]
                    have HM : Hid (∀ u : Array Value, LMem w4 (wr.alloc (.cells u 34)) K m (backOf (es.take (i + 1)) o)) := fun u => (hm.congr (fun j _ => (hbk j).symm)).below (hal u _)
                    have hcp : (if o.contains p = true then 0 else 1) = 0 := by simp [hpo]
                    rw [hcp] at d1
                    clear hm hz hx hcell hmem hts hbk hcp dl hal hm2 HC2 hcap2
                    go_wp2
                    go_roundw
                    case rel => exact ⟨i + 1, by omega, by go_num, HM.out _⟩
                    case measure => simp [intOf]; omega
                  · have hbk : ∀ k, backOf (es.take (i + 1)) o k = if k = q then p else backOf (es.take i) o k := fun k => by
                      rw [hts, backOf_snoc]
                      by_cases e : k = q
                      · subst e; simp [hpo]
                      · have : ¬ ((q : Int) = (k : Int)) := by omega
                        simp [e, this]
                    have HM : Hid (∀ u : Array Value, LMem w4 ((wr.setCell ⟨K, q, none⟩ (.int .i64 (p : Int))).alloc (.cells u 34)) K m (backOf (es.take (i + 1)) o)) := fun u => (hm.set q p (fun j _ => hbk j)).below (hal u _)
                    have hcp : (if o.contains p = true then 0 else 1) = 1 := by simp [hpo]
                    rw [hcp] at d1
                    clear hm hz hx hcell hmem hts hbk hcp dl hal hm2 HC2 hcap2
                    go_wp2
                    go_roundw
                    case rel => exact ⟨i + 1, by omega, by go_num, HM.out _⟩
                    case measure => simp [intOf]; omega
                · have hie : i = es.length := by omega
                  rw [hie, List.take_length, ← HB.out] at hm
                  have hcl : ∀ x, x < m → wr.cell? ⟨K, x, none⟩ = some (.int .i64 (B x : Nat)) := fun x hx => by
                    rw [hm.row.cell (i := x) (by rw [cnts_len]; exact hx), cnts_get _ _ _ hx]
                  have HCL := Lib.hid hcl
                  have hKrow := hm.row
                  unfold OwnInts at hKrow
                  have hKw0 : K < wr.heap.size := hm.row.lt
                  clear hKrow
                  have hbw : Below w.heap.size w wr := hm2.bel.trans (hm.bel.mono hm2.bel.size)
                  have hitP : ∀ i, iter B i a < m ∧ iter B i a ∉ o := iter_in (P := fun k => k < m ∧ k ∉ o) HBI.out hao
                  have hitm : ∀ i, iter B i a < m := fun i => (hitP i).1
                  have HIM := Lib.hid hitm
                  have hper := per_spec (round_per (P := fun k => k < m ∧ k ∉ o) HBI.out (fun k hk => hk.1) hao)
                  have HITX : Hid (∀ i, iter B i (iter B m a) < m) := fun i => by rw [← iter_add]; exact hitm _
                  clear hm hm2 hcl hie hitP hitm HC2 hcap2 HBI HB
                  go_wp2
                  go_loop [11, 72] (fun v11 v72 => ∃ j : Nat, j ≤ m ∧ v72 = .int .i64 j ∧ v11 = .int .i64 (iter B j a : Nat)) (fun _ v72 => m - (intOf v72).toNat)
                  case atStart => exact ⟨0, Nat.zero_le _, rfl, rfl⟩
                  case round =>
                    obtain ⟨j, hj, rfl, rfl⟩ := hrel
                    by_cases hjm : j < m
                    · have c := HCL.out _ (HIM.out j)
                      have hx := HIM.out j
                      have hs : iter B (j + 1) a = B (iter B j a) := rfl
                      have HS := Lib.hid hs
                      clear hs
                      generalize iter B j a = x at c hx HS
                      generalize B x = y at c HS
                      clear hper
                      go_wp2
                      go_round
                      case rel => exact ⟨j + 1, by omega, by go_num, by rw [HS.out]⟩
                      case measure => simp [intOf]; omega
                    · have hjm2 : j = m := by omega
                      rw [hjm2]
                      have hxm := HIM.out m
                      obtain ⟨x, hx⟩ : ∃ x, x = iter B m a := ⟨_, rfl⟩
                      rw [← hx] at hper hxm HITX HR2 ⊢
                      obtain ⟨p, hp⟩ : ∃ p, p = per B m x := ⟨_, rfl⟩
                      rw [← hp] at hper HR2
                      obtain ⟨hp1, hpm, hpx, hpl⟩ := hper
                      have HPX := Lib.hid hpx
                      have HPL := Lib.hid hpl
                      obtain ⟨w6, rfl⟩ : ∃ w6 : World, w6 = wr := ⟨_, rfl⟩
                      have cx := HCL.out x hxm
                      have hrow0 : (w6.alloc (.cells #[.int .i64 (x : Int)] 3)).ownsRow w6.heap.size 3 1 (.slice (some ⟨w6.heap.size, 0, none⟩) 1 1) 1 ((ints ((List.range 1).map fun j => iter B j x)).map (Value.int .i64)) :=
                        World.ownsRow_lit w6 #[.int .i64 (x : Int)] 1 (Nat.le_refl _) (by unfold maxLen; omega) rfl
                      have hKw : K < w6.heap.size := hKw0
                      have hb6 : Below w6.heap.size w6 (w6.alloc (.cells #[.int .i64 (x : Int)] 3)) := (Below.refl _ _).alloc (Nat.le_refl _) _
                      have hB1 : iter B 1 x = B x := rfl
                      rw [← hB1] at cx
                      have HB6 := Lib.hid hb6
                      have HR0 := Lib.hid hrow0
                      have hdd : decide ((j : Int) < (m : Int)) = false := by simp; omega
                      rw [hjm2] at hdd
                      clear hx hp hpx hpl hB1 hb6 hrow0 hj hjm hjm2 HIM
                      generalize hy1 : iter B 1 x = y1 at cx
                      have HY1 := Lib.hid hy1
                      clear hy1
                      go_wp2
                      go_loopw [15, 16] (fun v15 v16 wr => ∃ i : Nat, 1 ≤ i ∧ i ≤ p ∧ v16 = .int .i64 (iter B i x : Nat) ∧ wr.ownsRow w6.heap.size 3 1 v15 i ((ints ((List.range i).map fun j => iter B j x)).map (Value.int .i64)) ∧ Below w6.heap.size w6 wr) (fun v15 _ _ => p - lenOf v15)
                      case atStart => exact ⟨1, Nat.le_refl _, hp1, by rw [HY1.out], HR0.out, HB6.out⟩
                      case round =>
                        obtain ⟨i, hi1, hip, rfl, hown, hb⟩ := hrel
                        have hrow : ∀ k, u15.ownBlock = some k → w6.heap.size ≤ k := fun k e => (hown.lt _ e).1
                        by_cases hlt : i < p
                        · have hne0 : iter B i x ≠ x := HPL.out i hi1 hlt
                          have hym := HITX.out i
                          have HS : Hid ((List.range (i + 1)).map (fun j => iter B j x) = (List.range i).map (fun j => iter B j x) ++ [iter B i x]) := by
                            rw [Hid, List.range_succ, List.map_append]; rfl
                          have cy := (hb.cell (p := ⟨K, iter B i x, none⟩) hKw).trans (HCL.out _ hym)
                          have HN : Hid (iter B (i + 1) x = B (iter B i x)) := rfl
                          have hll : ((List.range i).map (fun j => iter B j x)).length = i := by simp
                          obtain ⟨l, hl⟩ : ∃ l, l = (List.range i).map (fun j => iter B j x) := ⟨_, rfl⟩
                          rw [← hl] at hown HS hll
                          obtain ⟨y, hy⟩ : ∃ y, y = iter B i x := ⟨_, rfl⟩
                          rw [← hy] at hne0 hym HS cy HN ⊢
                          obtain ⟨z, hz⟩ : ∃ z, z = B y := ⟨_, rfl⟩
                          rw [← hz] at cy HN
                          have hne : ((y : Int) != (x : Int)) = true := by simp; omega
                          have hl15 : lenOf u15 = i := by
                            rcases hown.2 with ⟨rfl, h0⟩ | ⟨_, _, _, rfl, _⟩
                            · omega
                            · rfl
                          have HL15 := Lib.hid hl15
                          clear hl hy hz hne0 hl15
                          have hbs := hb.size
                          go_wp2_with (at_builtin; refine wpList_append_own _ rfl (.tmp 92) (.tmp 94) 26 rfl w6.heap.size 3 i0 (.int .i64 0) 1 8 Tryd.underlying26 hi hz0 hz1 hz2 rfl (by decide) _ _ _ rfl (hown.alloc _) ⟨wr.heap.size, 0, none⟩ 1 1 [.int .i64 (y : Int)] rfl rfl ?c1 ?c2 ?c3 ?c4 ?c5 ?_)
                          case c1 => exact cell_one_new _ _ _
                          case c2 => first | rfl | exact ⟨rfl, rfl⟩ | (intro u hu; simp at hu; subst hu; rfl)
                          case c3 => unfold maxLen; omega
                          case c4 => omega
                          case c5 => first | omega | (simp; omega)
                          intro v' w7 hown7 hgrow _
                          have hb7 : Below w6.heap.size w6 w7 := (hb.alloc hb.size _).grown hgrow (by simp; omega) hrow
                          have cy7 := (hb7.cell (p := ⟨K, y, none⟩) hKw).trans ((hb.cell (p := ⟨K, y, none⟩) hKw).symm.trans cy)
                          have hown8 : w7.ownsRow w6.heap.size 3 1 v' (i + 1) ((ints (l ++ [y])).map (Value.int .i64)) := by
                            simpa [ints] using hown7
                          have hl7 : lenOf v' = i + 1 := by
                            rcases hown8.2 with ⟨rfl, h0⟩ | ⟨_, _, _, rfl, _⟩
                            · omega
                            · rfl
                          have HL7 := Lib.hid hl7
                          clear hown hown7 hgrow hb cy hl7 hrow
                          go_wp2
                          go_roundw
                          case rel => exact ⟨i + 1, by omega, by omega, by rw [HN.out], by rw [HS.out]; exact hown8, hb7⟩
                          case measure => rw [HL7.out, HL15.out]; omega
                        · have hie : i = p := by omega
                          subst hie
                          rw [HPX.out]
                          have hne : ((x : Int) != (x : Int)) = false := by simp
                          have hv : ∃ g cap, u15 = .slice (some ⟨g, 0, none⟩) i cap ∧ w6.heap.size ≤ g := by
                            rcases hown.2 with ⟨_, h0⟩ | ⟨g, cap, cur, h1, h2, _⟩
                            · omega
                            · exact ⟨g, cap, h1, h2⟩
                          obtain ⟨g, cap, rfl, hg⟩ := hv
                          obtain ⟨l, hl⟩ : ∃ l, l = (List.range i).map (fun j => iter B j x) := ⟨_, rfl⟩
                          have hll : l.length = i := by rw [hl]; simp
                          have hlr : l.reverse = cycL B i x := by rw [hl]; rfl
                          rw [← hl] at hown
                          clear hl
                          have RV := reverse_any g cap w6.heap.size l wr (by rw [hll]; exact hown) (by omega) (by omega)
                          rw [hll, hlr] at RV
                          have HF : Hid (∀ w8, w8.ownsRow w6.heap.size 3 1 (.slice (some ⟨g, 0, none⟩) i cap) i ((ints (cycL B i x)).map (Value.int .i64)) → OnlyB g wr w8 → CyclePost m es w (.returned (.tuple #[.slice (some ⟨g, 0, none⟩) i cap, .int .i64 0])) w8) := fun w8 h1 h2 => by
                            refine HP.out (cycL B i x) (by rw [HR2.out]) (by rw [HR2.out]) w8 _ ?_ ?_
                            · exact ints_of_own (by rw [ints_len, cycL_len]; exact h1) (by rw [ints_len, cycL_len]; omega)
                            · exact Below.only (hbw.trans (hb.mono hbw.size)) h2 (by have := hbw.size; omega)
                          clear HP HR2 hown hb hll hlr HPX HPL HITX HCL hrow
                          go_wp2_with fail
                          refine RV.mono ?_
                          rintro e w8 ⟨rfl, h8, ho8⟩
                          go_wp2_with fail
                          go_ret2
                          exact HF.out _ h8 ho8
  · have HP : Hid (∀ w' v', IntsAt w' v' (ints []) → Below w.heap.size w w' → CyclePost n es w (.returned (.tuple #[v', .int .i64 (lookE n es [])])) w') := fun w' v' h1 h2 => by
      have : cycR n es = ([], lookE n es []) := by unfold cycR; rw [if_neg h0]
      exact ⟨v', by rw [this], by rw [this]; exact h1, h2⟩
    have hne : (lookE n es [] != 0) = true := by simpa using h0
    generalize lookE n es [] = c at LK HP hne
    clear h0 hT h
    go_enter Tryd.func25, Tryd.ntmps25
    go_wp2_with fail
    refine LK.mono ?_
    rintro e w1 ⟨rfl, hb1⟩
    go_wp2_with fail
    go_ret2
    exact HP.out _ _ (IntsAt.nil _) hb1

end Go.Proofs.YtelioljmhlabjaaDoor
