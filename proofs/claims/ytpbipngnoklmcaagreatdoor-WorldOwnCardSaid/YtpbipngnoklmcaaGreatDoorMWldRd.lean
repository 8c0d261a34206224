/- The document's world: Delete. The document's world: Kill. -/
import Derived.Test.YtpbipngnoklmcaaGreatDoorMWldX
namespace Go.Proofs.YtpbipngnoklmcaaGreatDoor
open Go.RowKit
set_option maxRecDepth 100000
attribute [local go_sem] str_size str_toList str_get

/-- What a call leaves of the document's world. -/
def RPost (F : List Nat) (S : WS) (c : Int) (w : World) (e : Ending) (w' : World) : Prop := ∃ m' rs', e = .returned (.tuple #[m', .int .i64 c]) ∧ RAt F w' m' rs' S ∧ Below w.heap.size w w'

set_option maxHeartbeats 8000000 in
theorem delete_r {F : List Nat} {w : World} {m : Value} {rs : List R3} {S : WS} (h : RAt F w m rs S) (hF : ∀ q ∈ F, q < w.heap.size) (addr typ i : S8) (hl : S.trace.length ≤ 100000) (ho : S.objs.length ≤ 100000) :
    Calls Tryz.prog 35 #[m, str addr, str typ, str i] w (RPost F (deleteP S addr typ i).1 (deleteP S addr typ i).2 w) := by
  obtain ⟨ao, co, af, cf, at', ct, rfl, k1, k2, k3⟩ := h.form
  have hrl : rs.length ≤ 100000 := by rw [h.len]; exact ho
  obtain ⟨wA, hwA⟩ : ∃ wA, wA = (w.alloc (.cells #[.slice ao rs.length co, .slice af S.fails.length cf, .slice at' S.trace.length ct] 32)).alloc (.cells #[.slice none 0 0, .slice none 0 0, .slice none 0 0] 32) := ⟨_, rfl⟩
  have BX := Box2.made w #[.slice ao rs.length co, .slice af S.fails.length cf, .slice at' S.trace.length ct] #[.slice none 0 0, .slice none 0 0, .slice none 0 0] 32
  have hbA := Box2.made_below w #[.slice ao rs.length co, .slice af S.fails.length cf, .slice at' S.trace.length ct] #[.slice none 0 0, .slice none 0 0, .slice none 0 0] 32
  rw [← hwA] at BX hbA
  have FL := fails_r S.fails af cf (.slice ao rs.length co) (.slice at' S.trace.length ct) 5 addr wA (k2.below hbA).now
  have hdl : deleteP S addr typ i = if failsP S.fails 5 addr = true then (noteP S 5 addr typ i 160, 160) else (noteP (delP S typ i) 5 addr typ i 0, 0) := rfl
  obtain ⟨R, hR⟩ : ∃ R, deleteP S addr typ i = R := ⟨_, rfl⟩
  rw [hR] at hdl ⊢
  generalize failsP S.fails 5 addr = B at FL hdl
  have HDL := Lib.hid hdl
  have H := Lib.hid h
  have HBA := Lib.hid hbA
  have HBX := Lib.hid BX
  have HF := Lib.hid hF
  have K1 := Lib.hid k1
  have K3 := Lib.hid k3
  obtain ⟨e0, e1, e2, e3, _⟩ := BX.cells
  clear hdl hR h k1 k2 k3 hbA BX hF
  go_enter Tryz.func35, Tryz.ntmps35
  go_upto_region 1 with fail
  rw [← hwA]
  clear hwA
  go_wp2_with fail
  refine FL.mono ?_
  rintro e w2 ⟨rfl, hb2⟩
  have hbw2 := HBA.out.trans (hb2.mono HBA.out.size)
  have BX2 := HBX.out.below hb2
  obtain ⟨f0, f1, f2, f3, _⟩ := BX2.cells
  have hs2 := hbw2.size
  have HB2 := Lib.hid hbw2
  have HX2 := Lib.hid BX2
  clear FL e0 e1 e2 e3 hb2 BX2 hbw2
  cases B with
  | true =>
    have hdl := HDL.out
    rw [if_pos rfl] at hdl
    have HR := Lib.hid hdl
    have NT := noted_r S.trace ao rs.length co af S.fails.length cf at' ct 5 addr typ i 160 w2 (K3.out.below HB2.out).now hl (by omega)
    clear hdl HDL
    go_wp2_with fail
    refine NT.mono ?_
    rintro e w3 ⟨a2, c2, rfl, hown, hb3⟩
    have BX3 := HX2.out.below hb3
    obtain ⟨x0, x1, x2, x3, z0, z1, z2, z3, z4, z5⟩ := BX3.cells
    obtain ⟨wR, hwR, xR, _, _⟩ := put_box3 BX3.two (.slice ao rs.length co) (.slice af S.fails.length cf) (.slice a2 (S.trace.length + 1) c2)
    have hsR := put3_spares w3 (w.heap.size + 1) (.slice ao rs.length co) (.slice af S.fails.length cf) (.slice a2 (S.trace.length + 1) c2)
    rw [← hwR] at hsR
    have hbw3 := HB2.out.trans (hb3.mono HB2.out.size)
    have hb2R : Below w.heap.size w wR := Below.spared hbw3 hsR hbw3.size (fun k hk => by simp at hk; omega)
    have hgE := heap_lt HX2.out.two
    have hownR := row_away hown hsR (fun q hq => by simp at hq; omega)
    have hpost : RPost F R.1 R.2 w (.returned (.tuple #[.agg #[.slice ao rs.length co, .slice af S.fails.length cf, .slice a2 (S.trace.length + 1) c2], .int .i64 160])) wR := by
      rw [HR.out]
      refine ⟨_, rs, rfl, ?_, hb2R⟩
      have := H.out.told (ts' := S.trace ++ [(5, addr, typ, i, 160)]) (a3 := a2) (c3 := c2) hb2R (by
        rw [List.length_append]
        have := Kept.row (F := F) (row_base hownR hs2) HF.out
        rw [List.length_append] at this
        exact this)
      rw [List.length_append] at this
      exact this
    have HP := Lib.hid hpost
    have HXR := Lib.hid xR
    clear BX3 hsR hbw3 hb2R hown hownR hpost hb3 xR HR NT f0 f1 f2 f3
    go_wp2
    rw [← hwR]
    (try simp only [Exit.inBlock, Exit.then]); refine bodyPost_ret (results_ct rfl _ _ (w.heap.size + 1) _ _ _ _ rfl HXR.out Tryz.underlying32 rfl (by kernel_rfl)) rfl ?_
    exact HP.out
  | false =>
    have hdl := HDL.out
    rw [if_neg (by simp)] at hdl
    have HR := Lib.hid hdl
    have WO := without_r rs ao co typ i w2 (K1.out.below HB2.out).now (by omega)
    have hol := len_outR rs typ i
    have HOS := Lib.hid (outR_os rs typ i)
    have HME := Lib.hid (fun r (hr : r ∈ outR rs typ i) => mem_outR hr)
    generalize outR rs typ i = os at WO hol HOS HME
    clear hdl HDL
    go_wp2_with fail
    refine WO.mono ?_
    rintro e w3 ⟨v', rfl, hN⟩
    obtain ⟨a1, c1, rfl⟩ := slice_form hN.1
    have hb3 := hN.2
    have BX3 := HX2.out.below hb3
    obtain ⟨x0, x1, x2, x3, _⟩ := BX3.cells
    obtain ⟨w4, hw4⟩ : ∃ w4, w4 = w3.setCell ⟨w.heap.size, 0, none⟩ (.slice a1 os.length c1) := ⟨_, rfl⟩
    have BX4 : Box2 w.heap.size (w.heap.size + 1) #[.slice a1 os.length c1, .slice af S.fails.length cf, .slice at' S.trace.length ct] #[.slice none 0 0, .slice none 0 0, .slice none 0 0] 32 w4 := by rw [hw4]; exact BX3.set (by omega) 0 _
    have hs4 : Spares [w.heap.size] w3 w4 := by rw [hw4]; exact setC_spares w3 w.heap.size 0 _
    have hbw3 := HB2.out.trans (hb3.mono HB2.out.size)
    have hbw4 : Below w.heap.size w w4 := Below.spared hbw3 hs4 hbw3.size (fun k hk => by simp at hk; omega)
    have NT := noted_r S.trace a1 os.length c1 af S.fails.length cf at' ct 5 addr typ i 0 w4 (K3.out.below hbw4).now hl (by omega)
    obtain ⟨y0, y1, y2, y3, _⟩ := BX4.cells
    have HX4 := Lib.hid BX4
    have HN := Lib.hid hN.1
    have HS4 := Lib.hid hs4
    have HBW3 := Lib.hid hbw3
    have HBW4 := Lib.hid hbw4
    clear BX4 hN hs4 hbw3 hbw4 BX3 hb3 WO f0 f1 f2 f3
    go_upto_region 4 with fail
    rw [← hw4]
    clear hw4 x0 x1 x2 x3
    go_wp2_with fail
    refine NT.mono ?_
    rintro e w5 ⟨a2, c2, rfl, hown, hb5⟩
    have BX5 := HX4.out.below hb5
    obtain ⟨x0, x1, x2, x3, z0, z1, z2, z3, z4, z5⟩ := BX5.cells
    obtain ⟨wR, hwR, xR, _, _⟩ := put_box3 BX5.two (.slice a1 os.length c1) (.slice af S.fails.length cf) (.slice a2 (S.trace.length + 1) c2)
    have hsR := put3_spares w5 (w.heap.size + 1) (.slice a1 os.length c1) (.slice af S.fails.length cf) (.slice a2 (S.trace.length + 1) c2)
    rw [← hwR] at hsR
    have hbw5 := HBW4.out.trans (hb5.mono HBW4.out.size)
    have hb2R : Below w.heap.size w wR := Below.spared hbw5 hsR hbw5.size (fun k hk => by simp at hk; omega)
    have hgE := heap_lt HX2.out.two
    have hg4 := HX4.out.two
    have hg4 := heap_lt hg4
    have hownR := row_away hown hsR (fun q hq => by simp at hq; omega)
    have hs35 : Spares [w.heap.size, w.heap.size + 1] w3 wR := ((HS4.out.sub (fun k hk _ => by simp at hk; simp [hk])).trans (Spares.of_below hb5)).trans (hsR.sub (fun k hk _ => by simp at hk; simp [hk]))
    have hobjR := row_away HN.out hs35 (fun q hq => by simp at hq; omega)
    have hpost : RPost F R.1 R.2 w (.returned (.tuple #[.agg #[.slice a1 os.length c1, .slice af S.fails.length cf, .slice a2 (S.trace.length + 1) c2], .int .i64 0])) wR := by
      rw [HR.out]
      refine ⟨_, os, rfl, ?_, hb2R⟩
      have := H.out.both (rs' := os) (os' := outO S.objs typ i) (ts' := S.trace ++ [(5, addr, typ, i, 0)]) (a1 := a1) (c1 := c1) (a3 := a2) (c3 := c2) hb2R (Kept.row (row_base hobjR hs2) HF.out) (by
        have := Kept.row (F := F) (row_base hownR HBW4.out.size) HF.out
        rw [List.length_append] at this ⊢
        exact this) (fun r hr => .inl (HME.out r hr)) (by rw [HOS.out, H.out.os]) (fun o ho => H.out.fit o (mem_outO.1 ho).1) (ris_out H.out.ris _ _)
      rw [List.length_append] at this
      exact this
    have HP := Lib.hid hpost
    have HXR := Lib.hid xR
    clear BX5 hsR hbw5 hb2R hown hownR hpost hb5 xR HR NT y0 y1 y2 y3 hs35 hobjR
    go_wp2
    rw [← hwR]
    (try simp only [Exit.inBlock, Exit.then]); refine bodyPost_ret (results_ct rfl _ _ (w.heap.size + 1) _ _ _ _ rfl HXR.out Tryz.underlying32 rfl (by kernel_rfl)) rfl ?_
    exact HP.out

end Go.Proofs.YtpbipngnoklmcaaGreatDoor
namespace Go.Proofs.YtpbipngnoklmcaaGreatDoor
open Go.RowKit
set_option maxRecDepth 100000
attribute [local go_sem] str_size str_toList str_get

set_option maxHeartbeats 8000000 in
theorem kill_r {F : List Nat} {w : World} {m : Value} {rs : List R3} {S : WS} (h : RAt F w m rs S) (hF : ∀ q ∈ F, q < w.heap.size) (typ i : S8) (ho : S.objs.length ≤ 100000) :
    Calls Tryz.prog 39 #[m, str typ, str i] w (RPost F (killP S typ i).1 (killP S typ i).2 w) := by
  obtain ⟨ao, co, af, cf, at', ct, rfl, k1, k2, k3⟩ := h.form
  have hrl : rs.length ≤ 100000 := by rw [h.len]; exact ho
  obtain ⟨wA, hwA⟩ : ∃ wA, wA = (w.alloc (.cells #[.slice ao rs.length co, .slice af S.fails.length cf, .slice at' S.trace.length ct] 32)).alloc (.cells #[.slice none 0 0, .slice none 0 0, .slice none 0 0] 32) := ⟨_, rfl⟩
  have BX := Box2.made w #[.slice ao rs.length co, .slice af S.fails.length cf, .slice at' S.trace.length ct] #[.slice none 0 0, .slice none 0 0, .slice none 0 0] 32
  have hbA := Box2.made_below w #[.slice ao rs.length co, .slice af S.fails.length cf, .slice at' S.trace.length ct] #[.slice none 0 0, .slice none 0 0, .slice none 0 0] 32
  rw [← hwA] at BX hbA
  have FL := at_r rs ao co (.slice af S.fails.length cf) (.slice at' S.trace.length ct) typ i wA (k1.below hbA).now
  have hdl : killP S typ i = if hasO S.objs typ i = false then (S, 4) else (delP S typ i, 0) := rfl
  obtain ⟨R, hR⟩ : ∃ R, killP S typ i = R := ⟨_, rfl⟩
  rw [hR] at hdl ⊢
  have HDL := Lib.hid hdl
  have H := Lib.hid h
  have HBA := Lib.hid hbA
  have HBX := Lib.hid BX
  have HF := Lib.hid hF
  have K1 := Lib.hid k1
  obtain ⟨e0, e1, e2, e3, _⟩ := BX.cells
  clear hdl hR h k1 k2 k3 hbA BX hF
  go_enter Tryz.func39, Tryz.ntmps39
  go_upto_region 1 with fail
  rw [← hwA]
  clear hwA
  go_wp2_with fail
  refine FL.mono ?_
  rintro e w2 ⟨z, rfl, hz, hb2⟩
  have hh := hz.has
  rw [H.out.os] at hh
  have hbw2 := HBA.out.trans (hb2.mono HBA.out.size)
  have BX2 := HBX.out.below hb2
  obtain ⟨f0, f1, f2, f3, z0, z1, z2, z3, z4, z5⟩ := BX2.cells
  have hs2 := hbw2.size
  have HB2 := Lib.hid hbw2
  have HX2 := Lib.hid BX2
  clear FL e0 e1 e2 e3 hb2 BX2 hbw2 hz
  by_cases hz0 : z < 0
  · have hhf : hasO S.objs typ i = false := by rw [← hh]; simp; omega
    have hdl := HDL.out
    rw [if_pos hhf] at hdl
    obtain ⟨wR, hwR, xR, _, _⟩ := put_box3 HX2.out.two (.slice ao rs.length co) (.slice af S.fails.length cf) (.slice at' S.trace.length ct)
    have hsR := put3_spares w2 (w.heap.size + 1) (.slice ao rs.length co) (.slice af S.fails.length cf) (.slice at' S.trace.length ct)
    rw [← hwR] at hsR
    have hb2R : Below w.heap.size w wR := Below.spared HB2.out hsR HB2.out.size (fun k hk => by simp at hk; omega)
    have HP := Lib.hid (show RPost F R.1 R.2 w (.returned (.tuple #[.agg #[.slice ao rs.length co, .slice af S.fails.length cf, .slice at' S.trace.length ct], .int .i64 4])) wR by
      rw [hdl]
      exact ⟨_, rs, rfl, H.out.below hb2R, hb2R⟩)
    have HXR := Lib.hid xR
    clear hsR hb2R xR hdl hh hhf HDL
    go_wp2
    rw [← hwR]
    (try simp only [Exit.inBlock, Exit.then]); refine bodyPost_ret (results_ct rfl _ _ (w.heap.size + 1) _ _ _ _ rfl HXR.out Tryz.underlying32 rfl (by kernel_rfl)) rfl ?_
    exact HP.out
  · have hhf : hasO S.objs typ i = true := by rw [← hh]; simp; omega
    have hdl := HDL.out
    rw [if_neg (by rw [hhf]; simp)] at hdl
    have HR := Lib.hid hdl
    have WO := without_r rs ao co typ i w2 (K1.out.below HB2.out).now (by omega)
    have hol := len_outR rs typ i
    have HOS := Lib.hid (outR_os rs typ i)
    have HME := Lib.hid (fun r (hr : r ∈ outR rs typ i) => mem_outR hr)
    generalize outR rs typ i = os at WO hol HOS HME
    clear hdl HDL hh hhf z0 z1 z2 z3 z4 z5
    go_wp2_with fail
    refine WO.mono ?_
    rintro e w3 ⟨v', rfl, hN⟩
    obtain ⟨a1, c1, rfl⟩ := slice_form hN.1
    have hb3 := hN.2
    have BX3 := HX2.out.below hb3
    obtain ⟨x0, x1, x2, x3, _⟩ := BX3.cells
    obtain ⟨w4, hw4⟩ : ∃ w4, w4 = w3.setCell ⟨w.heap.size, 0, none⟩ (.slice a1 os.length c1) := ⟨_, rfl⟩
    have BX4 : Box2 w.heap.size (w.heap.size + 1) #[.slice a1 os.length c1, .slice af S.fails.length cf, .slice at' S.trace.length ct] #[.slice none 0 0, .slice none 0 0, .slice none 0 0] 32 w4 := by rw [hw4]; exact BX3.set (by omega) 0 _
    have hs4 : Spares [w.heap.size] w3 w4 := by rw [hw4]; exact setC_spares w3 w.heap.size 0 _
    have hbw3 := HB2.out.trans (hb3.mono HB2.out.size)
    have hbw4 : Below w.heap.size w w4 := Below.spared hbw3 hs4 hbw3.size (fun k hk => by simp at hk; omega)
    obtain ⟨y0, y1, y2, y3, z0, z1, z2, z3, z4, z5⟩ := BX4.cells
    obtain ⟨wR, hwR, xR, _, _⟩ := put_box3 BX4.two (.slice a1 os.length c1) (.slice af S.fails.length cf) (.slice at' S.trace.length ct)
    have hsR := put3_spares w4 (w.heap.size + 1) (.slice a1 os.length c1) (.slice af S.fails.length cf) (.slice at' S.trace.length ct)
    rw [← hwR] at hsR
    have hb2R : Below w.heap.size w wR := Below.spared hbw4 hsR hbw4.size (fun k hk => by simp at hk; omega)
    have hgE := heap_lt HX2.out.two
    have hs35 : Spares [w.heap.size, w.heap.size + 1] w3 wR := (hs4.sub (fun k hk _ => by simp at hk; simp [hk])).trans (hsR.sub (fun k hk _ => by simp at hk; simp [hk]))
    have hobjR := row_away hN.1 hs35 (fun q hq => by simp at hq; omega)
    have hpost : RPost F R.1 R.2 w (.returned (.tuple #[.agg #[.slice a1 os.length c1, .slice af S.fails.length cf, .slice at' S.trace.length ct], .int .i64 0])) wR := by
      rw [HR.out]
      exact ⟨_, os, rfl, H.out.held (rs' := os) (os' := outO S.objs typ i) (a1 := a1) (c1 := c1) hb2R (Kept.row (row_base hobjR hs2) HF.out) (fun r hr => .inl (HME.out r hr)) (by rw [HOS.out, H.out.os]) (fun o ho => H.out.fit o (mem_outO.1 ho).1) (ris_out H.out.ris _ _), hb2R⟩
    have HP := Lib.hid hpost
    have HXR := Lib.hid xR
    have HW4 := Lib.hid hw4
    clear BX4 hN hs4 hbw3 hbw4 BX3 hb3 WO f0 f1 f2 f3 hsR hb2R hs35 hobjR hpost xR HR hw4
    go_upto_region 4 with fail
    rw [← HW4.out]
    clear x0 x1 x2 x3
    go_wp2
    rw [← hwR]
    (try simp only [Exit.inBlock, Exit.then]); refine bodyPost_ret (results_ct rfl _ _ (w.heap.size + 1) _ _ _ _ rfl HXR.out Tryz.underlying32 rfl (by kernel_rfl)) rfl ?_
    exact HP.out

end Go.Proofs.YtpbipngnoklmcaaGreatDoor
