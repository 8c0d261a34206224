/- A world that a law holds: what each call leaves of it, and of all else. By the contracts alone. The walk of Update. Plain: what stays true whatever a world's calls write; the document's world in memory. No walk. -/
import Derived.Test.YtpbipngnoklmcaaGreatDoorMWldS
import Derived.Test.YtpbipngnoklmcaaGreatDoorMWldE
import Derived.Test.YtpbipngnoklmcaaGreatDoorMWldN
namespace Go.Proofs.YtpbipngnoklmcaaGreatDoor
open Go.RowKit
set_option maxRecDepth 100000
variable {w w' : World} {p b n : Nat} {S : WS} {val : S8 → S8 → Value} {vf vt : Value} {D : DataW Value} {G : Nat} {L : List Nat} {N : Nat}

theorem WAt.lt (h : WAt w p b n S val vf vt D) : ∀ q ∈ wF p b vt, q < w.heap.size := by
  intro q hq
  simp only [wF, List.mem_cons, Option.mem_toList] at hq
  rcases hq with rfl | rfl | hq
  · exact heap_lt h.box
  · exact h.map.lt
  · obtain ⟨_, hh⟩ := row_block h.trace hq
    exact heap_lt hh
/-- The world that p points to, in blocks behind G, none of which is in L. -/
def Has (G : Nat) (L : List Nat) (p : Nat) (S : WS) (N : Nat) (w : World) : Prop := ∃ b n val vf vt D, n ≤ N ∧ WAt w p b n S val vf vt D ∧ ∀ q ∈ wF p b vt, G ≤ q ∧ q ∉ L
/-- What a call leaves: all below G, and the blocks of L. -/
def Keeps (G : Nat) (L : List Nat) (w w' : World) : Prop := Below G w w' ∧ ∀ q ∈ L, q < w.heap.size → w'.heap[q]? = w.heap[q]?
theorem Keeps.refl (G : Nat) (L : List Nat) (w : World) : Keeps G L w w := ⟨Below.refl _ _, fun _ _ _ => rfl⟩
theorem Keeps.trans {w1 w2 w3 : World} (h : Keeps G L w1 w2) (k : Keeps G L w2 w3) : Keeps G L w1 w3 := ⟨h.1.trans k.1, fun q hq hl => (k.2 q hq (Nat.lt_of_lt_of_le hl h.1.size)).trans (h.2 q hq hl)⟩
theorem Keeps.of_below (hb : Below w.heap.size w w') (hG : G ≤ w.heap.size) : Keeps G L w w' := ⟨hb.mono hG, fun q _ hl => hb.block q hl⟩
theorem Keeps.sub {M : List Nat} (h : Keeps G L w w') (hM : ∀ q ∈ M, q ∈ L) : Keeps G M w w' := ⟨h.1, fun q hq hl => h.2 q (hM q hq) hl⟩
theorem Has.base (h : Has G L p S N w) : G ≤ w.heap.size := by
  obtain ⟨b, n, val, vf, vt, D, hn, hW, hF⟩ := h
  have := (hF p (by simp [wF])).1
  have := heap_lt hW.box
  omega
theorem Has.below (h : Has G L p S N w) (hb : Below w.heap.size w w') : Has G L p S N w' := by
  obtain ⟨b, n, val, vf, vt, D, hn, hW, hF⟩ := h
  exact ⟨b, n, val, vf, vt, D, hn, hW.below hb, hF⟩
theorem Has.guard (h : Has G L p S N w) {q : Nat} (hq : w.heap.size ≤ q) : Has G (q :: L) p S N w := by
  obtain ⟨b, n, val, vf, vt, D, hn, hW, hF⟩ := h
  refine ⟨b, n, val, vf, vt, D, hn, hW, fun k hk => ⟨(hF k hk).1, ?_⟩⟩
  have := hW.lt k hk
  rw [List.mem_cons, not_or]
  exact ⟨by omega, (hF k hk).2⟩
theorem Has.more {N' : Nat} (h : Has G L p S N w) (hN : N ≤ N') : Has G L p S N' w := by
  obtain ⟨b, n, val, vf, vt, D, hn, hW, hF⟩ := h
  exact ⟨b, n, val, vf, vt, D, Nat.le_trans hn hN, hW, hF⟩
theorem Has.fit (h : Has G L p S N w) : fitO S.objs := by obtain ⟨b, n, val, vf, vt, D, hn, hW, hF⟩ := h; exact hW.fit
theorem Has.ris (h : Has G L p S N w) : risO S.objs := by obtain ⟨b, n, val, vf, vt, D, hn, hW, hF⟩ := h; exact hW.ris
theorem WStep.has {S' : WS} {n' N' : Nat} (hG : ∀ q ∈ wF p b vt, G ≤ q ∧ q ∉ L) (hn : n' ≤ N') (hp : p < w.heap.size) (h : WStep w p b n' S' vf vt w') (hL : ∀ q ∈ L, q < w.heap.size) : Has G L p S' N' w' ∧ Keeps G L w w' := by
  obtain ⟨val', vt', D', hW, hs, hF⟩ := h
  have hGp := (hG p (by simp [wF])).1
  refine ⟨⟨b, n', val', vf, vt', D', hn, hW, fun q hq => ?_⟩, hs.below (by omega) (fun k hk => (hG k hk).1), fun q hq hl => hs.block q hl fun hf => (hG q hf).2 hq⟩
  rcases hF q hq with h | h
  · exact hG q h
  · exact ⟨by omega, fun hq => by have := hL q hq; omega⟩

theorem create_h (h : Has G L p S N w) (hL : ∀ q ∈ L, q < w.heap.size) (addr typ after : S8) (x : VT) (v : Value) (hv : ValAt w x v) (ha : addr.length ≤ 281474976710656) (haf : after.length ≤ 281474976710656) (ft : fitS typ)
    (hl : S.trace.length ≤ 100000) (hN : N ≤ 100000) (ho : S.objs.length ≤ 100000) (hE : ErrW w) (hT : TabW w) :
    Calls Tryz.prog 18 #[.pointer (some ⟨p, 0, none⟩), str addr, str typ, str after, v] w fun e w' =>
      e = .returned (.tuple #[str (createP S addr typ after x).2.1, .int .i64 (createP S addr typ after x).2.2]) ∧ Has G L p (createP S addr typ after x).1 (N + 1) w' ∧ Keeps G L w w' := by
  obtain ⟨b, n, val, vf, vt, D, hn, hW, hF⟩ := h
  refine (create_w hW addr typ after x v hv ha haf ft hl (by omega) ho hE hT).mono ?_
  rintro e w' ⟨rfl, n', hn', hs⟩
  exact ⟨rfl, hs.has hF (by omega) (heap_lt hW.box) hL⟩
theorem delete_h (h : Has G L p S N w) (hL : ∀ q ∈ L, q < w.heap.size) (addr typ i : S8) (ft : fitS typ) (fi : fitS i) (hl : S.trace.length ≤ 100000) :
    Calls Tryz.prog 22 #[.pointer (some ⟨p, 0, none⟩), str addr, str typ, str i] w fun e w' => e = .returned (.int .i64 (deleteP S addr typ i).2) ∧ Has G L p (deleteP S addr typ i).1 N w' ∧ Keeps G L w w' := by
  obtain ⟨b, n, val, vf, vt, D, hn, hW, hF⟩ := h
  refine (delete_w hW addr typ i ft fi hl).mono ?_
  rintro e w' ⟨rfl, hs⟩
  exact ⟨rfl, hs.has hF hn (heap_lt hW.box) hL⟩
theorem objects_h (h : Has G L p S N w) (hl : S.objs.length ≤ 100000) : Calls Tryz.prog 15 #[.pointer (some ⟨p, 0, none⟩)] w fun e w' => ∃ v, e = .returned v ∧ ObjsAt w' v S.objs ∧ Below w.heap.size w w' := by
  obtain ⟨b, n, val, vf, vt, D, hn, hW, hF⟩ := h
  refine (objects_w hW hl).mono ?_
  rintro e w' ⟨rs, v, F, rfl, ho, hb⟩
  refine ⟨v, rfl, ?_, hb.2.2.2.2⟩
  rw [← ho]
  exact hb.objs (by rw [ho]; exact hW.fit)
theorem trace_h (h : Has G L p S N w) (hl : S.trace.length ≤ 1000000) : Calls Tryz.prog 16 #[.pointer (some ⟨p, 0, none⟩)] w (ClC 58 5 S.trace.length (callCells S.trace) w) := by
  obtain ⟨b, n, val, vf, vt, D, hn, hW, hF⟩ := h
  exact trace_w hW hl
/-- What New leaves. -/
def NewH (os : List O3) (fs : List F2) (w : World) (e : Ending) (w' : World) : Prop :=
  Below w.heap.size w w' ∧ match newP os fs with
  | (none, c) => e = .returned (.tuple #[.pointer none, .int .i64 c])
  | (some S, c) => ∃ p, e = .returned (.tuple #[.pointer (some ⟨p, 0, none⟩), .int .i64 c]) ∧ Has w.heap.size [] p S os.length w'
theorem new_h (os : List O3) (fs : List F2) (v vf : Value) (w : World) (h : ObjsAt w v os) (hf : CellsAt w vf fs.length (failCells fs)) (hl : os.length ≤ 100000) (hfl : fs.length ≤ 1000000) (hE : ErrW w) (hT : TabW w) :
    Calls Tryz.prog 7 #[v, vf] w (NewH os fs w) := by
  refine (new_w os fs v vf w h hf hl hfl hE hT).mono ?_
  rintro e w' ⟨hb, hx⟩
  refine ⟨hb, ?_⟩
  revert hx
  rcases newP os fs with ⟨_ | S, c⟩
  · exact id
  · rintro ⟨p, b, n, val, vf, vt, D, rfl, hn, hW, hF⟩
    exact ⟨p, rfl, b, n, val, vf, vt, D, hn, hW, fun q hq => ⟨hF q hq, by simp⟩⟩

/-- A value box, as a law makes it. -/
theorem val_box {w : World} {g : Nat} {c0 c1 c2 c3 c4 : Value} {T : TypeId} (h : w.heap[g]? = some (.cells #[c0, c1, c2, c3, c4] T (0, 0))) : w.cell? ⟨g, 0, none⟩ = some c0 ∧ w.cell? ⟨g, 1, none⟩ = some c1 ∧ w.cell? ⟨g, 2, none⟩ = some c2 ∧ w.cell? ⟨g, 3, none⟩ = some c3 ∧ w.cell? ⟨g, 4, none⟩ = some c4 := by
  refine ⟨?_, ?_, ?_, ?_, ?_⟩ <;> (rw [Lib.cell_of_heap h]; rfl)
/-- An object with no keys. -/
def noneV : VT := .mk 6 false [] [] []
theorem none_at (w : World) : ValAt w noneV (.agg #[.int .i64 6, .bool false, .string ⟨#[]⟩, .slice none 0 0, .slice none 0 0]) := by
  unfold noneV
  rw [ValAt]
  exact ⟨_, _, rfl, by simp, StrsAt.nil w, fun _ => .bool false, RowAt.nil w _, by rw [ValsAt]; trivial⟩

end Go.Proofs.YtpbipngnoklmcaaGreatDoor
namespace Go.Proofs.YtpbipngnoklmcaaGreatDoor
open Go.RowKit
set_option maxRecDepth 100000
attribute [local go_sem] str_size str_toList str_get

variable {w : World} {p b n : Nat} {S : WS} {val : S8 → S8 → Value} {vf vt : Value} {D : DataW Value}

set_option maxHeartbeats 8000000 in
theorem update_w (h : WAt w p b n S val vf vt D) (addr typ i : S8) (x : VT) (v : Value) (hv : ValAt w x v) (ft : fitS typ) (fi : fitS i) (hl : S.trace.length ≤ 100000) (hn : n ≤ 100000) :
    Calls Tryz.prog 21 #[.pointer (some ⟨p, 0, none⟩), str addr, str typ, str i, v] w fun e w' =>
      e = .returned (.int .i64 (updateP S addr typ i x).2) ∧ ∃ n', n' ≤ n + 1 ∧ WStep w p b n' (updateP S addr typ i x).1 vf vt w' := by
  have mixed : Tryz.prog.follows .mixedOrders = true := by kernel_rfl
  have HV := Lib.hid hv
  obtain ⟨ai, ci, ak, ck, rfl⟩ := hv.form
  obtain ⟨wB, hwB⟩ : ∃ wB, wB = w.alloc (.cells #[.int .i64 x.kind, .bool x.flag, str x.text, .slice ai x.items.length ci, .slice ak x.keys.length ck] 41) := ⟨_, rfl⟩
  obtain ⟨b0, b1, b2, b3, b4, hsB, hbB⟩ := box5 hwB
  obtain ⟨wN, hwN⟩ : ∃ wN, wN = wB.alloc (.cells #[str typ, str i] 78) := ⟨_, rfl⟩
  have nN : wN.heap[wB.heap.size]? = some (.cells #[str typ, str i] 78 (0, 0)) := by rw [hwN]; exact heap_alloc_new _ _
  have sB : wB.heap.size = w.heap.size + 1 := by rw [hwB]; simp only [World.alloc, Array.size_push]
  rw [sB] at nN
  have bN : Below wB.heap.size wB wN := by rw [hwN]; exact (Below.refl _ wB).alloc (Nat.le_refl _) _
  have hbwN := hbB.trans (bN.mono hbB.size)
  have H := Lib.hid h
  have hur : updateP S addr typ i x = if goodA x = false then (S, 1) else if failsP S.fails 2 addr = true then (noteP S 2 addr typ i 160, 160)
    else if hasO S.objs typ i = false then (noteP S 2 addr typ i 4, 4) else (noteP (putP S (typ, i, x)) 2 addr typ i 0, 0) := rfl
  obtain ⟨R, hR⟩ : ∃ R, updateP S addr typ i x = R := ⟨_, rfl⟩
  rw [hR] at hur ⊢
  obtain ⟨V, hlk, _, _, vk0, vf0, vt0, va0, vn0, vc0, va1, vn1, vc1, rfl⟩ := h.look ft fi
  obtain ⟨B, hB⟩ : ∃ B, hasO S.objs typ i = B := ⟨_, rfl⟩
  rw [hB] at hlk hur
  simp only [show nameV typ i = .agg #[str typ, str i] from rfl] at hlk
  have HLK := Lib.hid hlk
  have HUR := Lib.hid hur
  have hN := h.below hbwN
  have HMO := Lib.hid (fun W (hW : Below wN.heap.size wN W) => (hN.below hW).map)
  have g0 : wN.cell? ⟨w.heap.size + 1, 0, none⟩ = some (str typ) := by rw [Lib.cell_of_heap nN]; rfl
  have g1 : wN.cell? ⟨w.heap.size + 1, 1, none⟩ = some (str i) := by rw [Lib.cell_of_heap nN]; rfl
  have c6 : wN.cell? ⟨p, 0, none⟩ = some (.map (some b)) := by rw [Lib.cell_of_heap hN.box]; rfl
  have hp6 := heap_lt hN.box
  have hN6 := heap_lt nN
  have hp6n : ¬ wN.heap.size = p := by omega
  have hp6m : ¬ p = wN.heap.size := by omega
  have hN6n : ¬ wN.heap.size = w.heap.size + 1 := by omega
  have hN6m : ¬ w.heap.size + 1 = wN.heap.size := by omega
  have HNN := Lib.hid nN
  have HBN := Lib.hid bN
  have HBW := Lib.hid hbwN
  clear hR hur hlk hB h hv hN nN bN hbwN sB
  go_enter Tryz.func21, Tryz.ntmps21
  go_upto_region 2 with fail
  rw [← hwB, ← hwN]
  clear hwB hwN
  go_cut [12, 13] from 17 to 25 (fun s12 s13 wx => s13 = .bool B ∧ Hid (Below wN.heap.size wN wx))
  case first =>
    have T1 := HLK.out _ (HMO.out _ ((Below.refl _ wN).drew))
    have T2 := fun o => HLK.out _ (HMO.out _ (((Below.refl _ wN).alloc (Nat.le_refl _) o).drew))
    obtain ⟨z0, z1, z2, z3, z4, y0, y1, y2, y3, y4⟩ := free5 (heap_alloc_new wN (.cells #[.int .i64 0, .bool false, .string ⟨#[]⟩, .slice none 0 0, .slice none 0 0] 41))
    go_region_law_o fail
    all_goals (try go_wp2)
    all_goals go_meet
    all_goals exact ⟨rfl, ((Below.refl _ wN).alloc (Nat.le_refl _) _).drew⟩
  case rest =>
    obtain ⟨rfl, HW⟩ := hcut
    clear g0 g1 c6 HLK HMO hp6 hp6n hp6m hN6n hN6m
    have hbc := HBW.out.trans (HW.out.mono HBW.out.size)
    have hBc := HBN.out.trans (HW.out.mono HBN.out.size)
    have c0 := box_at b0 hsB hBc
    have c1 := box_at b1 hsB hBc
    have c2 := box_at b2 hsB hBc
    have c3 := box_at b3 hsB hBc
    have c4 := box_at b4 hsB hBc
    have nC := (HW.out.block _ (heap_lt HNN.out)).trans HNN.out
    have GD := good_w x _ wc (HV.out.mono hbc)
    have HCC := Lib.hid (⟨hbc, hBc, nC⟩ : Below w.heap.size w wc ∧ Below wB.heap.size wB wc ∧ wc.heap[w.heap.size + 1]? = some (.cells #[str typ, str i] 78 (0, 0)))
    obtain ⟨g, hg⟩ : ∃ g, goodA x = g := ⟨_, rfl⟩
    rw [hg] at GD HUR
    have HG := Lib.hid hg
    clear hbc hBc nC HW HBN HNN hg
    go_wp2_with fail
    refine GD.mono ?_
    rintro e w1 ⟨rfl, hq1⟩
    have hb1 := HCC.out.1.trans (hq1.mono HCC.out.1.size)
    have hB1 := HCC.out.2.1.trans (hq1.mono HCC.out.2.1.size)
    have n1 := (hq1.block _ (heap_lt HCC.out.2.2)).trans HCC.out.2.2
    have H1 := Lib.hid (⟨hb1, hB1, n1⟩ : Below w.heap.size w w1 ∧ Below wB.heap.size wB w1 ∧ w1.heap[w.heap.size + 1]? = some (.cells #[str typ, str i] 78 (0, 0)))
    clear GD hq1 hb1 hB1 n1 c0 c1 c2 c3 c4 HCC
    cases g with
    | false =>
      have hr := HUR.out
      rw [if_pos rfl] at hr
      have HR := Lib.hid hr
      clear hr HUR
      go_wp2
      go_ret
      refine ⟨by rw [HR.out]; rfl, n, by omega, ?_⟩
      rw [HR.out]
      exact ⟨val, vt, D, H.out.below H1.out.1, Spares.of_below H1.out.1, fun q hq => .inl hq⟩
    | true =>
      have hr := HUR.out
      rw [if_neg (by simp)] at hr
      have FL := fail_w (H.out.below H1.out.1) 2 addr
      generalize failsP S.fails 2 addr = C at FL hr
      have HC2 := Lib.hid hr
      clear hr HUR
      go_wp2_with fail
      refine FL.mono ?_
      rintro e w2 ⟨rfl, hq2⟩
      have hb2 := H1.out.1.trans (hq2.mono H1.out.1.size)
      have hB2 := H1.out.2.1.trans (hq2.mono H1.out.2.1.size)
      have n2 := (hq2.block _ (heap_lt H1.out.2.2)).trans H1.out.2.2
      have d0 : w2.cell? ⟨w.heap.size + 1, 0, none⟩ = some (str typ) := by rw [Lib.cell_of_heap n2]; rfl
      have d1 : w2.cell? ⟨w.heap.size + 1, 1, none⟩ = some (str i) := by rw [Lib.cell_of_heap n2]; rfl
      have H2 := Lib.hid (⟨hb2, hB2, n2⟩ : Below w.heap.size w w2 ∧ Below wB.heap.size wB w2 ∧ w2.heap[w.heap.size + 1]? = some (.cells #[str typ, str i] 78 (0, 0)))
      have hsp2 := Lib.hid (Spares.of_below (F := wF p b vt) hb2)
      clear FL hq2 hb2 hB2 n2 H1
      cases C with
      | true =>
        have hr := HC2.out
        rw [if_pos rfl] at hr
        have HR := Lib.hid hr
        have NT := note_w (H.out.below H2.out.1) 2 addr typ i 160 hl
        rw [show nameV typ i = .agg #[str typ, str i] from rfl] at NT
        clear hr HC2
        go_wp2_with fail
        refine NT.mono ?_
        rintro e w3 ⟨rfl, hs3⟩
        have HS := Lib.hid (WStep.after hsp2.out hs3)
        clear hs3 NT d0 d1
        go_wp2
        go_ret
        refine ⟨by rw [HR.out]; rfl, n, by omega, ?_⟩
        rw [HR.out]
        exact HS.out
      | false =>
        have hr := HC2.out
        rw [if_neg (by simp)] at hr
        cases B with
        | false =>
          rw [if_pos rfl] at hr
          have HR := Lib.hid hr
          have NT := note_w (H.out.below H2.out.1) 2 addr typ i 4 hl
          rw [show nameV typ i = .agg #[str typ, str i] from rfl] at NT
          clear hr HC2
          go_wp2_with fail
          refine NT.mono ?_
          rintro e w3 ⟨rfl, hs3⟩
          have HS := Lib.hid (WStep.after hsp2.out hs3)
          clear hs3 NT d0 d1
          go_wp2
          go_ret
          refine ⟨by rw [HR.out]; rfl, n, by omega, ?_⟩
          rw [HR.out]
          exact HS.out
        | true =>
          rw [if_neg (by simp)] at hr
          have HR := Lib.hid hr
          obtain ⟨hfv, hsz⟩ := goodA_facts HG.out
          have c0 := box_at b0 hsB H2.out.2.1
          have c1 := box_at b1 hsB H2.out.2.1
          have c2 := box_at b2 hsB H2.out.2.1
          have c3 := box_at b3 hsB H2.out.2.1
          have c4 := box_at b4 hsB H2.out.2.1
          have c6 : w2.cell? ⟨p, 0, none⟩ = some (.map (some b)) := by rw [Lib.cell_of_heap (H.out.below H2.out.1).box]; rfl
          have HCL := Lib.hid (fun W (hW : Below w2.heap.size w2 W) => clone_val x _ W (HV.out.mono (H2.out.1.trans (hW.mono H2.out.1.size))) hfv (Nat.le_trans hsz (by decide)))
          have HAF := Lib.hid (fun W (hW : Below w2.heap.size w2 W) => (⟨H.out.below (H2.out.1.trans (hW.mono H2.out.1.size)), H2.out.1.trans (hW.mono H2.out.1.size), (hW.block _ (heap_lt H2.out.2.2)).trans H2.out.2.2⟩ : WAt W p b n S val vf vt D ∧ Below w.heap.size w W ∧ W.heap[w.heap.size + 1]? = some (.cells #[str typ, str i] 78 (0, 0))))
          have hNb : w.heap.size + 1 ≠ b := by
            have := H.out.map.lt
            omega
          have hst : ∀ W v F, WAt W p b n S val vf vt D → OwnVal W x v F → ∃ w', (Instr.mapUpdate 71 (.map (some b)) (.agg #[str typ, str i]) v).run Tryz.prog W = .ok () w' ∧ (WAt w' p b (n + 1) (putP S (typ, i, x)) (putVal val typ i v) vf vt (D.put (klW typ i) (.held v)) ∧ Spares [b] W w') := fun W v F h1 h2 => h1.store (by unfold maxLen; omega) ft fi HG.out h2
          have HST := Lib.hid hst
          clear hst hr HC2 b0 b1 b2 b3 b4 hfv hsz
          go_upto_region 9 with fail
          go_cut [] from 45 to 52 (fun wx => ∃ val' D', Hid (WAt wx p b (n + 1) (putP S (typ, i, x)) val' vf vt D' ∧ Spares (wF p b vt) w wx ∧ wx.heap[w.heap.size + 1]? = some (.cells #[str typ, str i] 78 (0, 0))))
          case first =>
            go_region_law_o (first
              | (go_simp; go_at_call 30; refine (HCL.out _ (Below.refl _ w2).drew).mono ?_; rintro e w3 ⟨v1, F1, rfl, hov, hnd, hge, hb1⟩; obtain ⟨si, sc, sk, sd, rfl⟩ := hov.at.form; have hb3 : Below w2.heap.size w2 w3 := (Below.refl _ w2).drew.trans (hb1.mono (Nat.le_refl _)); obtain ⟨a1, a2, a3⟩ := HAF.out _ hb3; have e0 : w3.cell? ⟨w.heap.size + 1, 0, none⟩ = some (str typ) := (by rw [Lib.cell_of_heap a3]; rfl); have e1 : w3.cell? ⟨w.heap.size + 1, 1, none⟩ = some (str i) := (by rw [Lib.cell_of_heap a3]; rfl); have e6 : w3.cell? ⟨p, 0, none⟩ = some (.map (some b)) := (by rw [Lib.cell_of_heap a1.box]; rfl); obtain ⟨w5, hr5, hW5', hs5'⟩ := HST.out _ _ _ a1 hov; have hW5 := Lib.hid hW5'; have hs5 := Lib.hid hs5'; have HA1 := Lib.hid a2; have HA3 := Lib.hid a3; clear hov hnd hge hb1 hb3 a1 a2 a3 hW5' hs5'))
            all_goals
              have hcut : ∃ val' D', Hid (WAt w5 p b (n + 1) (putP S (typ, i, x)) val' vf vt D' ∧ Spares (wF p b vt) w w5 ∧ w5.heap[w.heap.size + 1]? = some (.cells #[str typ, str i] 78 (0, 0))) := ⟨_, _, Lib.hid ⟨hW5.out, (Spares.of_below HA1.out).trans (hs5.out.sub fun k hk _ => by unfold wF; simp at hk; simp [hk]), (hs5.out.block _ (heap_lt HA3.out) (by simpa using hNb)).trans HA3.out⟩⟩
              clear hW5 hs5 hr5 HA1 HA3 HST HAF HCL e0 e1 e6 c0 c1 c2 c3 c4 d0 d1 c6
              try go_wp2
              go_meet
              exact hcut
          case rest =>
            obtain ⟨val', D', HX⟩ := hcut
            clear c0 c1 c2 c3 c4 d0 d1 c6 HCL HAF HST hNb
            have d0 : wc.cell? ⟨w.heap.size + 1, 0, none⟩ = some (str typ) := by rw [Lib.cell_of_heap HX.out.2.2]; rfl
            have d1 : wc.cell? ⟨w.heap.size + 1, 1, none⟩ = some (str i) := by rw [Lib.cell_of_heap HX.out.2.2]; rfl
            have NT := note_w HX.out.1 2 addr typ i 0 hl
            rw [show nameV typ i = .agg #[str typ, str i] from rfl] at NT
            go_wp2_with fail
            refine NT.mono ?_
            rintro e w3 ⟨rfl, hs3⟩
            have HS := Lib.hid (WStep.after HX.out.2.1 hs3)
            clear hs3 NT d0 d1
            go_wp2
            go_ret
            refine ⟨by rw [HR.out]; rfl, n + 1, Nat.le_refl _, ?_⟩
            rw [HR.out]
            exact HS.out

end Go.Proofs.YtpbipngnoklmcaaGreatDoor
namespace Go.Proofs.YtpbipngnoklmcaaGreatDoor
open Go.RowKit
set_option maxRecDepth 100000

/-- True, and true still whatever is written into these blocks. -/
def Kept (F : List Nat) (w : World) (A : World → Prop) : Prop := ∀ w', Spares F w w' → A w'
theorem Kept.now {F : List Nat} {w : World} {A : World → Prop} (h : Kept F w A) : A w := h w (Spares.refl F w)
theorem Kept.step {F F' : List Nat} {w w' : World} {A : World → Prop} (h : Kept F w A) (hs : Spares F w w') (hF : ∀ q ∈ F', q ∈ F ∨ w.heap.size ≤ q) : Kept F' w' A := fun w2 h2 =>
  h w2 ⟨h2.os.trans hs.os, h2.tape.trans hs.tape, h2.output.trans hs.output, Nat.le_trans hs.size h2.size, fun k hk hn =>
    (h2.block k (Nat.lt_of_lt_of_le hk hs.size) fun hf => by rcases hF k hf with h | h; exact hn h; omega).trans (hs.block k hk hn)⟩
theorem Kept.below {F : List Nat} {w w' : World} {A : World → Prop} (h : Kept F w A) (hb : Below w.heap.size w w') : Kept F w' A := h.step (Spares.of_below hb) fun _ hq => .inl hq
/-- What only grows with memory is kept from blocks that are newer. -/
theorem Kept.old {F : List Nat} {w0 w : World} {A : World → Prop} (hA : ∀ w', Below w0.heap.size w0 w' → A w') (hb : Below w0.heap.size w0 w) (hF : ∀ q ∈ F, w0.heap.size ≤ q) : Kept F w A := fun _ hs => hA _ (Below.spared hb hs hb.size hF)
/-- A row of one's own that lies elsewhere. -/
theorem Kept.row {F : List Nat} {w : World} {base e size n : Nat} {v : Value} {cs : List Value} (h : w.ownsRow base e size v n cs) (hF : ∀ q ∈ F, q < base) : Kept F w fun w' => CellsAt w' v n cs := fun w' hs => by
  refine CellsAt.row (base := base) (e := e) (size := size) (row_keep h fun q hq => ?_)
  obtain ⟨_, hh⟩ := row_block h hq
  exact hs.block q (heap_lt hh) fun hf => by have := hF q hf; have := (h.lt q hq).1; omega

/-- The document's world: its objects (each with its addresses), its rules, its trace; kept. -/
structure RAt (F : List Nat) (w : World) (m : Value) (rs : List R3) (S : WS) : Prop where
  form : ∃ ao co af cf at' ct, m = .agg #[.slice ao rs.length co, .slice af S.fails.length cf, .slice at' S.trace.length ct] ∧
    (Kept F w fun w' => CellsAt w' (.slice ao rs.length co) rs.length (rowC rs)) ∧ (Kept F w fun w' => CellsAt w' (.slice af S.fails.length cf) S.fails.length (failCells S.fails)) ∧
    (Kept F w fun w' => CellsAt w' (.slice at' S.trace.length ct) S.trace.length (callCells S.trace))
  vals : ∀ r ∈ rs, Kept F w fun w' => ValAt w' r.1.2.2 (rV r)
  os : osR rs = S.objs
  fit : fitO S.objs
  ris : risO S.objs
theorem RAt.step {F F' : List Nat} {w w' : World} {m : Value} {rs : List R3} {S : WS} (h : RAt F w m rs S) (hs : Spares F w w') (hF : ∀ q ∈ F', q ∈ F ∨ w.heap.size ≤ q) : RAt F' w' m rs S := by
  obtain ⟨ao, co, af, cf, at', ct, hm, h1, h2, h3⟩ := h.form
  exact ⟨⟨ao, co, af, cf, at', ct, hm, h1.step hs hF, h2.step hs hF, h3.step hs hF⟩, fun r hr => (h.vals r hr).step hs hF, h.os, h.fit, h.ris⟩
theorem RAt.below {F : List Nat} {w w' : World} {m : Value} {rs : List R3} {S : WS} (h : RAt F w m rs S) (hb : Below w.heap.size w w') : RAt F w' m rs S := h.step (Spares.of_below hb) fun _ hq => .inl hq
theorem RAt.len {F : List Nat} {w : World} {m : Value} {rs : List R3} {S : WS} (h : RAt F w m rs S) : rs.length = S.objs.length := by rw [← h.os, osR_len]
theorem RAt.objs {F : List Nat} {w : World} {ao : Option Addr} {co : Nat} {x y : Value} {rs : List R3} {S : WS} {k : Nat} (h : RAt F w (.agg #[.slice ao k co, x, y]) rs S) : ObjsAt w (.slice ao k co) S.objs := by
  obtain ⟨_, _, _, _, _, _, hm, h1, _, _⟩ := h.form
  cases hm
  rw [← h.os]
  exact objs_of_rows h1.now (fun r hr => (h.vals r hr).now) (by rw [h.os]; exact h.fit)

end Go.Proofs.YtpbipngnoklmcaaGreatDoor
