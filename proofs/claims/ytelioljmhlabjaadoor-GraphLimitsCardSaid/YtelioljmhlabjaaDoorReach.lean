/- Walk of the program's Reach. -/
import Derived.Test.YtelioljmhlabjaaDoorReachP
import Derived.Test.YtelioljmhlabjaaDoorApp2
import Derived.Test.YtelioljmhlabjaaDoorG4
import Derived.Test.YtelioljmhlabjaaDoorS2
import Derived.Test.YtelioljmhlabjaaDoorS3
import Derived.WalkSmall
namespace Go.Proofs.YtelioljmhlabjaaDoor
open Go.RowKit
set_option maxRecDepth 100000

def ints (l : List Nat) : List Int := l.map fun i : Nat => (i : Int)
theorem ints_len (l : List Nat) : (ints l).length = l.length := by simp [ints]
theorem ints_take (l : List Nat) (k : Nat) : (ints l).getD k 0 = ((l.getD k 0 : Nat) : Int) := by
  unfold ints
  simp only [List.getD, List.getElem?_map]
  cases l[k]? <;> rfl


theorem set_new (w : World) : WRow (w.alloc (.cells #[.int .u64 0, .int .u64 0, .int .u64 0, .int .u64 0, .int .u64 0, .int .u64 0, .int .u64 0, .int .u64 0] 82)) w.heap.size 82 1 (fun _ j => wd 0 j) := by
  refine ⟨#[.int .u64 0, .int .u64 0, .int .u64 0, .int .u64 0, .int .u64 0, .int .u64 0, .int .u64 0, .int .u64 0], ?_, rfl, fun k j hk hj => ?_⟩
  · unfold World.alloc; simp only [Array.getElem?_push, if_true]
  · have hk0 : k = 0 := by omega
    subst hk0
    simp only [wd_zero]
    have : j = 0 ∨ j = 1 ∨ j = 2 ∨ j = 3 ∨ j = 4 ∨ j = 5 ∨ j = 6 ∨ j = 7 := by omega
    rcases this with rfl | rfl | rfl | rfl | rfl | rfl | rfl | rfl <;> rfl

/-- The nodes of the set that lies in a block. -/
def setOf (w : World) (b : Nat) : List Nat := (List.range 512).filter fun i => match w.cell? ⟨b, i / 64, none⟩ with
  | some (.int _ x) => x.toNat.testBit (i % 64)
  | _ => false
theorem setOf_row {w : World} {b F : Nat} (h : WRow w b 82 1 (fun _ j => wd F j)) : setOf w b = nodes F := by
  unfold setOf nodes below
  apply List.filter_congr
  intro i hi
  have hi' : i < 512 := by simpa using hi
  have hc := h.cell (k := 0) (j := i / 64) (by decide) (by omega)
  rw [Nat.zero_mul, Nat.zero_add] at hc
  rw [hc]
  simp only [Int.toNat_natCast]
  rw [wd_bit _ _ _ (Nat.mod_lt _ (by decide))]
  congr 1
  omega

/-- What Reach answers. -/
noncomputable def reachR (n : Int) (es : List (Int × Int)) (fr : List Int) : List Int × Int :=
  if lookE n es fr = 0 then (ints (allL n.toNat es (fr.map Int.toNat)), 0) else ([], lookE n es fr)

def ReachPost (n : Int) (es : List (Int × Int)) (fr : List Int) (w : World) (e : Ending) (w' : World) : Prop :=
  ∃ v', e = .returned (.tuple #[v', .int .i64 (reachR n es fr).2]) ∧ IntsAt w' v' (reachR n es fr).1 ∧ Below w.heap.size w w'

/-- The same with word that what is told lies in new memory. -/
def ReachPostF (n : Int) (es : List (Int × Int)) (fr : List Int) (w : World) (e : Ending) (w' : World) : Prop :=
  ∃ v', e = .returned (.tuple #[v', .int .i64 (reachR n es fr).2]) ∧ IntsAt w' v' (reachR n es fr).1 ∧ Below w.heap.size w w' ∧ (∀ k, v'.ownBlock = some k → w.heap.size ≤ k)

/-- Reach's memory: N the sets of the nodes behind, N2 the found ones, v the list to be looked at. -/
structure SMem (w wr : World) (N Fb n : Nat) (es : List (Int × Int)) (F : Nat) (v : Value) (t : List Nat) : Prop where
  nx : WRow wr N 82 n (fun k j => wd (succS es k) j)
  fd : WRow wr Fb 82 1 (fun _ j => wd F j)
  own : wr.ownsRow (Fb + 1) 3 1 v t.length ((ints t).map (Value.int .i64))
  bel : Below w.heap.size w wr
  lo : w.heap.size ≤ N
  lt : N < Fb

set_option maxHeartbeats 1600000 in
theorem Reach_fresh (v u : Value) (es : List (Int × Int)) (fr : List Int) (n : Int) (w : World) (hT : Tab w) (h : PairsAt w v es) (hf : IntsAt w u fr) (hfl : fr.length ≤ 5000) :
    Calls Tryd.prog 23 #[.int .i64 n, v, u] w (ReachPostF n es fr w) := by
  have LK := look_any v u es fr n w h hf
  obtain ⟨i0, hi, hz0, hz1, hz2⟩ := info_parts Tryd.info3
  by_cases h0 : lookE n es fr = 0
  · obtain ⟨hn0, hn1, _, hes, hfr⟩ := lookE_zero h0
    obtain ⟨m, rfl⟩ := Int.eq_ofNat_of_zero_le hn0
    rw [h0] at LK
    have HR : Hid (∀ w' v', IntsAt w' v' (ints (allL m es (fr.map Int.toNat))) → Below w.heap.size w w' → (∀ k, v'.ownBlock = some k → w.heap.size ≤ k) → ReachPostF m es fr w (.returned (.tuple #[v', .int .i64 0])) w') := fun w' v' h1 h2 h3 => by
      have : reachR m es fr = (ints (allL m es (fr.map Int.toNat)), 0) := by unfold reachR; rw [if_pos h0, Int.toNat_natCast]
      exact ⟨v', by rw [this], by rw [this]; exact h1, h2, h3⟩
    obtain ⟨fl, hfl2⟩ : ∃ fl, fl = fr.map Int.toNat := ⟨_, rfl⟩
    have hfi : fr = ints fl := by
      rw [hfl2]; unfold ints; rw [List.map_map]
      conv => lhs; rw [← List.map_id fr]
      apply List.map_congr_left
      intro x hx
      have := hfr x hx
      simp; omega
    have hlf : ∀ f ∈ fl, f < m := by
      intro f hf
      rw [hfl2] at hf
      obtain ⟨x, hx, rfl⟩ := List.mem_map.1 hf
      have := hfr x hx
      omega
    rw [← hfl2] at HR
    subst hfi
    rw [ints_len] at hfl
    clear h0 hfl2 hfr hn0
    have HES := Lib.hid hes
    have HLF := Lib.hid hlf
    clear hes hlf
    go_enter Tryd.func23, Tryd.ntmps23
    go_wp2_with fail
    refine LK.mono ?_
    rintro e w1 ⟨rfl, hb1⟩
    have NX := nexts_any v es m w1 (h.mono hb1) (by omega) HES.out
    have hf1 := hf.mono hb1
    clear LK h hf
    go_wp2_with fail
    refine NX.mono ?_
    rintro e w2 ⟨rfl, hr2, hb2⟩
    have hf2 := hf1.mono hb2
    have hb12 : Below w.heap.size w w2 := hb1.trans (hb2.mono hb1.size)
    have hlt2 := hr2.lt
    have hlo : w.heap.size ≤ w1.heap.size := hb1.size
    clear NX hf1 hb2
    go_wp2_with fail
    generalize hwa : World.alloc w2 _ = wa
    have hra : WRow wa w1.heap.size 82 m (fun k j => wd (succS es k) j) := by rw [← hwa]; exact hr2.alloc _
    have hfa : WRow wa w2.heap.size 82 1 (fun _ j => wd 0 j) := by
      rw [← hwa]
      exact set_new _
    have hba : Below w2.heap.size w2 wa := by rw [← hwa]; exact (Below.refl _ _).alloc (Nat.le_refl _) _
    have hsa : wa.heap.size = w2.heap.size + 1 := by rw [← hwa]; simp
    have CL := clone_any u (ints fl) wa (hf2.mono hba) (by rw [ints_len]; exact hfl)
    have hb1a : Below w.heap.size w wa := hb12.trans (hba.mono hb12.size)
    clear hwa hf2 hb12 hr2 hba
    refine CL.mono ?_
    rintro e w3 ⟨v3, rfl, hown, hb3⟩
    have hS : SMem w w3 w1.heap.size w2.heap.size m es 0 v3 fl := by
      refine ⟨hra.kept (hb3.block _ hra.lt), hfa.kept (hb3.block _ hfa.lt), ?_, hb1a.trans (hb3.mono hb1a.size), hlo, hlt2⟩
      rw [hsa, ints_len] at hown
      exact hown
    have HI := Lib.hid (RInv.start (n := m) (es := es) HLF.out)
    clear CL hra hfa hsa hb1a hown hb3
    clear hb1
    generalize w1.heap.size = N at hS hlo hlt2 ⊢
    generalize w2.heap.size = Fb at hS hlt2 ⊢
    go_wp2
    go_loopw [11] (fun v11 wr => ∃ (F : Nat) (t : List Nat), SMem w wr N Fb m es F v11 t ∧ Hid (RInv m es fl F t) ∧ t.length ≤ 5000 + 512 * (nodes F).length) (fun v11 wr => (512 - (setOf wr Fb).length) * 513 + lenOf v11)
    case atStart => exact ⟨0, fl, hS, HI, by omega⟩
    case round =>
      obtain ⟨F, t, hs, hinv, htl⟩ := hrel
      clear hS HI
      have hnF := nodes_le F
      have hTw := hT.mono hs.bel
      rcases List.eq_nil_or_concat t with rfl | ⟨t', i, rfl⟩
      · have HD := Lib.hid (hinv.out.done (by omega))
        have LS := list_any Fb 0 F wr hTw hs.fd.lt (fun j hj => by have := hs.fd.cell (k := 0) (by decide) hj; simpa using this)
        have hv : ∃ ao cap, u11 = .slice ao 0 cap := by
          rcases hs.own.2 with ⟨h1, _⟩ | ⟨g, cap, cur, h1, _⟩
          · exact ⟨_, _, h1⟩
          · exact ⟨_, _, h1⟩
        obtain ⟨ao, cap, rfl⟩ := hv
        have hbw := hs.bel
        clear hinv hs hTw hT
        go_wp2_with fail
        refine LS.mono ?_
        rintro e w4 ⟨v', rfl, hli, hb4, hfr4⟩
        have HF := Lib.hid (HR.out w4 v' (by rw [← HD.out]; exact hli) (hbw.trans (hb4.mono hbw.size)) (fun k e => Nat.le_trans hbw.size (hfr4 k e)))
        clear hli hbw hb4 hfr4 LS
        go_wp2_with fail
        go_ret2
        exact HF.out
      · rw [List.concat_eq_append] at hinv htl hs
        have hown := hs.own
        have hji := hinv.out.just i (Or.inr (by simp))
        have hcell : ∃ g cap, u11 = .slice (some ⟨g, 0, none⟩) (t'.length + 1) cap ∧ t'.length + 1 ≤ cap ∧ Fb + 1 ≤ g ∧ wr.cell? ⟨g, t'.length, none⟩ = some (.int .i64 i) ∧ cap ≤ maxLen := by
          rcases hown.2 with ⟨_, h1⟩ | ⟨g, cap, cur, h1, h2, h3, h4, h5, h6, h7⟩
          · simp at h1
          · refine ⟨g, cap, by simpa using h1, by simpa using h4, h2, ?_, h5⟩
            have := hown.cells (g := g) (by rw [h1]; rfl) t'.length (.int .i64 i) (by simp [ints])
            rw [Addr.add_lit] at this
            simpa using this
        obtain ⟨g, cap, rfl, hcap, hgF, hc, hcm⟩ := hcell
        have hpop : wr.ownsRow (Fb + 1) 3 1 (.slice (some ⟨g, 0, none⟩) t'.length cap) t'.length ((ints t').map (Value.int .i64)) := by
          refine ownsRow_pop (last := [.int .i64 (i : Int)]) (by simp [ints]) ?_
          simpa [ints] using hown
        have HA : Calls Tryd.prog 49 #[.pointer (some ⟨Fb, 0, none⟩), .int .i64 i] wr fun e w' => e = .returned (.bool (F.testBit i)) ∧ wr = w' := by
          have := has_any' Fb 82 1 0 i (fun _ => F) wr hs.fd (by decide) (by omega)
          simpa using this
        have htl' : t'.length + 1 ≤ 5000 + 512 * (nodes F).length := by simpa using htl
        have hsz := setOf_row hs.fd
        unfold maxLen at hcm
        by_cases hbit : F.testBit i = true
        · rw [hbit] at HA
          have HREL : Hid (∃ (F : Nat) (t : List Nat), SMem w wr N Fb m es F (.slice (some ⟨g, 0, none⟩) t'.length cap) t ∧ Hid (RInv m es fl F t) ∧ t.length ≤ 5000 + 512 * (nodes F).length) :=
            ⟨F, t', ⟨hs.nx, hs.fd, hpop, hs.bel, hs.lo, hs.lt⟩, hinv.out.skip hbit, by omega⟩
          clear hinv hs hTw hT hown hpop hsz htl htl' HES HLF HR
          go_wp2_with fail
          refine HA.mono ?_
          rintro e w4 ⟨rfl, rfl⟩
          go_wp2
          go_roundw
          case rel => exact HREL.out
          case measure => simp [lenOf]
        · have hbf : F.testBit i = false := by simpa using hbit
          rw [hbf] at HA
          have hiM : i < m := hji.1
          have PU : Calls Tryd.prog 50 #[.pointer (some ⟨Fb, 0, none⟩), .int .i64 i] wr fun e w' => e = .returned (.tuple #[]) ∧ WRow w' Fb 82 1 (fun _ j => wd (F ||| 2 ^ i) j) ∧ OnlyB Fb wr w' := by
            have := put_any Fb 82 1 0 i (fun _ => F) wr hs.fd (by decide) (by omega)
            simp only [Nat.zero_mul] at this
            refine this.mono ?_
            rintro e w' ⟨h1, h2, h3⟩
            exact ⟨h1, h2.congr (fun k j hk _ => by have : k = 0 := by omega
                                                    simp [this]), h3⟩
          have HI2 := Lib.hid (hinv.out.take (by omega) HES.out)
          have hcnt := nodes_put (F := F) (i := i) (by omega) hbf
          have HSZ := Lib.hid hsz
          clear hinv hTw hown hbit hbf hji htl hsz HLF
          go_wp2_with fail
          refine HA.mono ?_
          rintro e w4 ⟨rfl, rfl⟩
          go_wp2_with fail
          refine PU.mono ?_
          rintro e w5 ⟨rfl, hfd5, ho5⟩
          have hs5 : SMem w w5 N Fb m es (F ||| 2 ^ i) (.slice (some ⟨g, 0, none⟩) t'.length cap) t' :=
            ⟨hs.nx.kept (ho5.block N (by omega)), hfd5, own_only hpop ho5 (by omega), Below.only hs.bel ho5 (by omega), hs.lo, hs.lt⟩
          have LS := list_any N (i * 8) (succS es i) w5 (hT.mono hs5.bel) hs5.nx.lt (fun j hj => hs5.nx.cell hiM hj)
          clear hs hpop hfd5 ho5 HA PU
          go_wp2_with fail
          refine LS.mono ?_
          rintro e w6 ⟨vl, rfl, hli, hb6, _⟩
          have hs6 : SMem w w6 N Fb m es (F ||| 2 ^ i) (.slice (some ⟨g, 0, none⟩) t'.length cap) t' :=
            ⟨hs5.nx.kept (hb6.block N hs5.nx.lt), hs5.fd.kept (hb6.block Fb hs5.fd.lt), own_below hs5.own hb6, hs5.bel.trans (hb6.mono hs5.bel.size), hs5.lo, hs5.lt⟩
          clear hs5 LS hb6
          have hln := nodes_le (succS es i)
          have hln2 := nodes_le (F ||| 2 ^ i)
          have hown6 := hs6.own
          have hF6 := hs6.fd.lt
          go_wp2_with (at_builtin; refine wpList_append_ints _ rfl (.tmp 43) (.tmp 47) rfl (Fb + 1) _ _ _ rfl hown6 _ _ rfl hli ?b1 ?b2 ?_)
          case b1 => simp only [List.length_map]; omega
          case b2 => omega
          intro v7 w7 hown7 hgrow _
          have hrow : ∀ k, k < Fb + 1 → some k ≠ (Value.slice (some ⟨g, 0, none⟩) t'.length cap).ownBlock := fun k hk e => by
            have := Option.some.inj e; simp at this; omega
          have hs7 : SMem w w7 N Fb m es (F ||| 2 ^ i) v7 (t' ++ nodes (succS es i)) := by
            refine ⟨hs6.nx.kept (hgrow.block N hs6.nx.lt (hrow _ (by omega))), hs6.fd.kept (hgrow.block Fb hF6 (hrow _ (by omega))), ?_, hs6.bel.grown hgrow hs6.bel.size (fun k e => by have := Option.some.inj e; simp at this; omega), hs6.lo, hs6.lt⟩
            simpa [ints] using hown7
          have hl7 : lenOf v7 = t'.length + (nodes (succS es i)).length := by
            rcases hs7.own.2 with ⟨h1, h2⟩ | ⟨_, _, _, h1, _⟩
            · rw [h1]; simp only [List.length_append] at h2; exact h2.symm
            · rw [h1]; simp [lenOf]
          have hsz7 := setOf_row hs7.fd
          have HL7 := Lib.hid hl7
          have HSZ7 := Lib.hid hsz7
          clear hs6 hown6 hown7 hgrow hrow hli hl7 hsz7
          go_wp2
          go_roundw
          case rel => exact ⟨_, _, hs7, HI2, by simp only [List.length_append]; omega⟩
          case measure => rw [HSZ7.out, HSZ.out, HL7.out]; simp only [lenOf]; omega
  · have HR : Hid (∀ w' v', IntsAt w' v' [] → Below w.heap.size w w' → (∀ k, v'.ownBlock = some k → w.heap.size ≤ k) → ReachPostF n es fr w (.returned (.tuple #[v', .int .i64 (lookE n es fr)])) w') := fun w' v' h1 h2 h3 => by
      have : reachR n es fr = ([], lookE n es fr) := by unfold reachR; rw [if_neg h0]
      exact ⟨v', by rw [this], by rw [this]; exact h1, h2, h3⟩
    have hne : (lookE n es fr != 0) = true := by simpa using h0
    generalize lookE n es fr = c at LK HR hne
    clear h0 hT h hf
    go_enter Tryd.func23, Tryd.ntmps23
    go_wp2_with fail
    refine LK.mono ?_
    rintro e w1 ⟨rfl, hb1⟩
    go_wp2_with fail
    go_ret2
    exact HR.out _ _ (IntsAt.nil _) hb1 (fun k e => by cases e)

theorem Reach_any (v u : Value) (es : List (Int × Int)) (fr : List Int) (n : Int) (w : World) (hT : Tab w) (h : PairsAt w v es) (hf : IntsAt w u fr) (hfl : fr.length ≤ 5000) :
    Calls Tryd.prog 23 #[.int .i64 n, v, u] w (ReachPost n es fr w) :=
  (Reach_fresh v u es fr n w hT h hf hfl).mono fun _ _ ⟨v', h1, h2, h3, _⟩ => ⟨v', h1, h2, h3⟩

end Go.Proofs.YtelioljmhlabjaaDoor
