/- LexHeredocs: a heredoc of any lines is the text that these are between quotes, each with its end. -/
import Derived.Test.YtgmgmjddadgkkaaDoorLxW
import Derived.Test.YtgmgmjddadgkkaaDoorLexX
namespace Go.Proofs.YtgmgmjddadgkkaaDoor
open Go.RowKit
set_option maxRecDepth 100000
attribute [local go_sem] str_size str_toList str_get

/-- v is a slice (perhaps nil) of these texts. -/
def StrsAt (w : World) (v : Value) (ss : List Bs) : Prop :=
  ∃ (ao : Option Addr) (cap : Nat), v = .slice ao ss.length cap ∧ ss.length ≤ 9223372036854775807 ∧ (∀ s ∈ ss, s.length ≤ 9223372036854775807) ∧
    (ss ≠ [] → ∃ b off, ao = some ⟨b, off, none⟩ ∧ b < w.heap.size ∧ ∀ i, i < ss.length → w.cell? ⟨b, off + i, none⟩ = some (str (ss.getD i [])))
theorem StrsAt.get {w : World} {ao : Option Addr} {n cap : Nat} {ss : List Bs} (h : StrsAt w (.slice ao n cap) ss) {i : Nat} (hi : i < ss.length) : ∃ b off, ao = some ⟨b, off, none⟩ ∧ b < w.heap.size ∧ w.cell? ⟨b, off + i, none⟩ = some (str (ss.getD i [])) := by
  obtain ⟨ao', cap', hv, _, _, hc⟩ := h
  cases hv
  obtain ⟨b, off, ha, hb, hcell⟩ := hc (by intro e; simp [e] at hi)
  exact ⟨b, off, ha, hb, hcell i hi⟩
/-- A block whose first cells are these bytes, to be written. -/
def BlkF (w : World) (g : Nat) (m : Bs) : Prop :=
  ∃ cs fz, w.heap[g]? = some (.cells cs 5 fz) ∧ m.length ≤ fz.1 ∧ ∀ j (hj : j < m.length), cs[j]? = some (.int .u8 ((m[j]'hj).toNat : Int))
theorem BlkF.lt {w : World} {g : Nat} {m : Bs} (h : BlkF w g m) : g < w.heap.size := by
  obtain ⟨_, _, h, _⟩ := h
  exact (Array.getElem?_eq_some_iff.1 h).1
theorem BlkF.cell {w : World} {g : Nat} {m : Bs} (h : BlkF w g m) (j : Nat) (hj : j < m.length) : w.cell? ⟨g, j, none⟩ = some (.int .u8 ((m[j]'hj).toNat : Int)) := by
  obtain ⟨cs, fz, hh, _, hc⟩ := h
  rw [Lib.cell_of_heap hh]
  exact hc j hj
theorem BlkF.frozen {w : World} {g : Nat} {m : Bs} (h : BlkF w g m) (j : Nat) (hj : j < m.length) : w.frozen? ⟨g, j, none⟩ = false := by
  obtain ⟨cs, fz, hh, hf, _⟩ := h
  unfold World.frozen?
  rw [hh]
  have : ¬ fz.1 ≤ j := by omega
  simp [this]
theorem BlkF.set {w : World} {g : Nat} {m : Bs} (h : BlkF w g m) (j : Nat) (c : UInt8) (hj : j < m.length) : BlkF (w.setCell ⟨g, j, none⟩ (.int .u8 (c.toNat : Int))) g (m.set j c) := by
  obtain ⟨cs, fz, hh, hf, hc⟩ := h
  refine ⟨_, fz, set_at hh j _, by rw [List.length_set]; exact hf, fun i hi => ?_⟩
  rw [List.length_set] at hi
  by_cases hij : j = i
  · subst hij
    have hlt := (Array.getElem?_eq_some_iff.1 (hc j hj)).1
    rw [Array.getElem?_setIfInBounds, if_pos rfl, if_pos hlt]
    simp
  · rw [Array.getElem?_setIfInBounds, if_neg hij, hc i hi]
    simp [hij]
theorem BlkF.bytes {w : World} {g : Nat} {m : Bs} (h : BlkF w g m) (cap : Nat) (hcap : m.length ≤ cap) : BytesAt w (.slice (some ⟨g, 0, none⟩) m.length cap) m :=
  ⟨g, cap, rfl, h.lt, hcap, fun j hj => h.cell j hj⟩
theorem BlkF.take {w : World} {g : Nat} {m : Bs} (h : BlkF w g m) (k : Nat) : BlkF w g (m.take k) := by
  obtain ⟨cs, fz, hh, hf, hc⟩ := h
  refine ⟨cs, fz, hh, by rw [List.length_take]; omega, fun j hj => ?_⟩
  rw [List.length_take] at hj
  rw [List.getElem_take]
  exact hc j (by omega)
theorem add_at (G q : Nat) : (⟨G, 0, none⟩ : Addr).add q = ⟨G, q, none⟩ := by
  by_cases h0 : q = 0
  · subst h0; simp [Addr.add]
  · simp [Addr.add, h0]
theorem blk_conv (w : World) (l : Bs) : BlkF (Lib.bytesWorld w 5 ⟨l.toArray⟩) w.heap.size l := by
  refine ⟨_, _, Lib.bytesWorld_at_new w 5 ⟨l.toArray⟩, ?_, fun j hj => ?_⟩
  · simp [Lib.bytesCells]
  · simp [Lib.bytesCells, Array.getElem?_append, hj]

set_option maxHeartbeats 8000000 in
theorem here_true (L : List Bs) (v : Value) (w : World) (hM : MaxW w) (hv : StrsAt w v L) : Calls Tryd.prog 4 #[v] w fun e w' => e = .returned (.bool true) ∧ Below w.heap.size w w' := by
  have mixed : Tryd.prog.follows .mixedOrders = true := by kernel_rfl
  have HM := Lib.hid hM
  have HV := Lib.hid hv
  obtain ⟨ao, cap, rfl, hlm, hls, _⟩ := hv
  have HLS := Lib.hid hls
  clear hM hls
  go_enter Tryd.func4, Tryd.ntmps4
  go_wp2_with fail
  refine (awake04 w HM.out).mono ?_
  rintro e w1 ⟨rfl, hb1⟩
  by_cases h40 : 40 < L.length
  · have h40i : (40 : Int) < (L.length : Int) := by omega
    go_wp2_with fail
    refine (awake04 w1 (HM.out.mono hb1)).mono ?_
    rintro e w2 ⟨rfl, hb2⟩
    go_wp2
    go_ret
    exact ⟨rfl, hb1.trans (hb2.mono hb1.size)⟩
  · have h40i : ¬ (40 : Int) < (L.length : Int) := by omega
    have h40n : L.length ≤ 40 := by omega
    clear h40
    go_wp2
    go_loopg [3, 4, 25] (L.length + 1) (fun gg v3 v4 v25 wr => ∃ i : Nat, v25 = .int .i64 i ∧ i ≤ L.length ∧ L.length - i < gg ∧ v3 = str ([60, 60, 69, 78, 68, 10] ++ bodyT ((L.take i).map lineT)) ∧ v4 = str ([34] ++ quotT ((L.take i).map lineT)) ∧ Below w.heap.size w wr)
    case atStart => exact ⟨0, rfl, by omega, by omega, rfl, rfl, hb1⟩
    case round =>
      clear hb1
      obtain ⟨i, rfl, hi, hgk, rfl, rfl, hbr⟩ := hrel
      obtain ⟨gO, rfl⟩ : ∃ g, g = gk := ⟨_, rfl⟩
      by_cases hin : i < L.length
      · have hini : (i : Int) < (L.length : Int) := by omega
        have hwi : IntKind.i64.wrap ((i : Int) + 1) = (i : Int) + 1 := by rw [IntKind.wrap_i64]; omega
        obtain ⟨SB, hSB⟩ : ∃ S, [60, 60, 69, 78, 68, 10] ++ bodyT ((L.take i).map lineT) = S := ⟨_, rfl⟩
        obtain ⟨SQ, hSQ⟩ : ∃ S, [34] ++ quotT ((L.take i).map lineT) = S := ⟨_, rfl⟩
        have HSB := Lib.hid hSB
        have HSQ := Lib.hid hSQ
        rw [hSB, hSQ]
        clear hSB hSQ
        obtain ⟨b, off, rfl, hbl, hcl⟩ := HV.out.get hin
        have hc2 := (hbr.cell (p := ⟨b, off + i, none⟩) hbl).trans hcl
        obtain ⟨l, hl⟩ : ∃ l, L.getD i [] = l := ⟨_, rfl⟩
        rw [hl] at hc2
        have hll : l.length ≤ 9223372036854775807 := HLS.out l (by rw [← hl, List.getD_eq_getElem?_getD, List.getElem?_eq_getElem hin]; exact List.getElem_mem _)
        have hcv := fun W : World => Lib.run_convert_string_bytes (P := Tryd.prog) W 9 35 5 ⟨l.toArray⟩ Tryd.underlying9 Tryd.underlying35 Tryd.underlying5
        simp only [str_size] at hcv
        have hbk := blk_conv wr l
        have hbb : Below w.heap.size w (Lib.bytesWorld wr 5 ⟨l.toArray⟩) := hbr.trans ((bytes_below wr 5 ⟨l.toArray⟩).mono hbr.size)
        have hwr := hbr.size
        obtain ⟨C, hC⟩ : ∃ C, grownCap wr l.length 0 5 = C := ⟨_, rfl⟩
        have hlC : l.length ≤ C := by rw [← hC]; exact grownCap_ge _ _ _ _
        obtain ⟨W1, hW1⟩ : ∃ W1, Lib.bytesWorld wr 5 ⟨l.toArray⟩ = W1 := ⟨_, rfl⟩
        have hcw := hcv wr
        rw [hC, hW1] at hcw
        rw [hW1] at hbk hbb
        obtain ⟨G, hG⟩ : ∃ G, wr.heap.size = G := ⟨_, rfl⟩
        rw [hG] at hcw hbk
        have hwG : w.heap.size ≤ G := by omega
        have HG := Lib.hid hG
        have hbM := hbk.take 100
        obtain ⟨k, hk⟩ : ∃ k, (l.take 100).length = k := ⟨_, rfl⟩
        have hkm : k = min 100 l.length := by rw [← hk, List.length_take]
        have hL := Lib.hid hl
        have HC := Lib.hid hC
        have HW1 := Lib.hid hW1
        have HBM := Lib.hid hbM
        have HK := Lib.hid hk
        clear hcv hbk hl hC hW1 hcl hbM hk hG hwr
        go_upto_region 7 with fail
        go_cut [7] from 29 to 34 (fun s7 wx => s7 = .slice (some ⟨G, 0, none⟩) k C ∧ wx = W1)
        case first =>
          by_cases hl1 : l.length ≤ 100
          · have hkk : k = l.length := by omega
            have hli : (l.length : Int) ≤ 100 := by omega
            have hli2 : (l.length : Int) ≤ (C : Int) := by omega
            have hlm2 : min (l.length : Int) 100 = (l.length : Int) := by omega
            have HKK := Lib.hid hkk
            clear hkk hkm hl1
            go_wp2
            go_meet
            exact ⟨by rw [HKK.out], rfl⟩
          · have hkk : k = 100 := by omega
            have hli : ¬ (l.length : Int) ≤ 100 := by omega
            have hli2 : (100 : Int) ≤ (C : Int) := by omega
            have hli3 : 100 ≤ C := by omega
            have hlm2 : min (l.length : Int) 100 = 100 := by omega
            have HKK := Lib.hid hkk
            clear hkk hkm hl1
            go_wp2
            go_meet
            exact ⟨by rw [HKK.out], rfl⟩
        case rest =>
          obtain ⟨rfl, hwx⟩ := hcut
          have hwx := hwx.symm
          subst hwx
          obtain ⟨M, hM⟩ : ∃ M, l.take 100 = M := ⟨_, rfl⟩
          have hMk : M.length = k := by rw [← hM]; exact HK.out
          have hbM := HBM.out
          rw [hM] at hbM
          have hkC : k ≤ C := by omega
          have hk100 : k ≤ 100 := by omega
          have HMM := Lib.hid hM
          have HMK := Lib.hid hMk
          have HB0 := Lib.hid hbM
          clear hM hMk hbM HBM HK hcw hlC hkm hll
          go_wp2
          go_loopg [8, 37] (k + 1) (fun gg v8 v37 wr => ∃ j : Nat, v37 = .int .i64 j ∧ j ≤ k ∧ k - j < gg ∧ Hid (BlkF wr G (mid M j)) ∧ Below w.heap.size w wr)
          case atStart => exact ⟨0, rfl, by omega, by omega, HB0.out, hbb⟩
          case round =>
            obtain ⟨j, rfl, hj, hgj, HBj, hbj⟩ := hrel
            by_cases hjk : j < k
            · have hjki : (j : Int) < (k : Int) := by omega
              have hwj : IntKind.i64.wrap ((j : Int) + 1) = (j : Int) + 1 := by rw [IntKind.wrap_i64]; omega
              have hjM : j < M.length := by rw [HMK.out]; exact hjk
              have hjm : j < (mid M j).length := by rw [mid_len]; exact hjM
              have c0 := HBj.out.cell j hjm
              have f0 := HBj.out.frozen j hjm
              have hms := mid_set M j hjM
              have hmk := mid_keep M j hjM
              have hset := HBj.out.set j 46 hjm
              rw [mid_here M j hjM] at c0
              obtain ⟨c, hc⟩ : ∃ c, M[j] = c := ⟨_, rfl⟩
              rw [hc] at c0 hms hmk
              by_cases h10 : c = 10
              · have t10 : ((c.toNat : Int) == 10) = true := (u8_eq c 10).trans (by simpa using h10)
                have HS := Lib.hid (hms (.inl h10))
                clear hms hmk hjM hjm h10 hc
                go_wp2
                go_roundg (gk - 1)
                case rel =>
                  refine ⟨j + 1, by simp, by omega, by omega, ?_, hbj.setCell (p := ⟨G, j, none⟩) hwG _⟩
                  rw [← HS.out]
                  exact hset
                case measure => omega
              · have t10 : ((c.toNat : Int) == 10) = false := (u8_eq c 10).trans (by simpa using h10)
                by_cases h128 : 128 ≤ c
                · have t128 : (128 : Int) ≤ (c.toNat : Int) := by have := UInt8.le_iff_toNat_le.1 h128; simp at this; omega
                  have HS := Lib.hid (hms (.inr h128))
                  clear hms hmk hjM hjm h10 h128 hc
                  go_wp2
                  go_roundg (gk - 1)
                  case rel =>
                    refine ⟨j + 1, by simp, by omega, by omega, ?_, hbj.setCell (p := ⟨G, j, none⟩) hwG _⟩
                    rw [← HS.out]
                    exact hset
                  case measure => omega
                · have t128 : ¬ (128 : Int) ≤ (c.toNat : Int) := by
                    intro h
                    apply h128
                    rw [UInt8.le_iff_toNat_le]
                    simp
                    omega
                  have HS := Lib.hid (hmk (by rintro (h | h); exact h10 h; exact h128 h))
                  clear hms hmk hjM hjm h10 h128 hc
                  go_wp2
                  go_roundg (gk - 1)
                  case rel =>
                    refine ⟨j + 1, by simp, by omega, by omega, ?_, hbj⟩
                    rw [← HS.out]
                    exact HBj.out
                  case measure => omega
            · have hje : j = k := by omega
              subst hje
              have hB1 := HBj.out
              have hme := mid_end M
              rw [HMK.out] at hme
              rw [hme] at hB1
              obtain ⟨Bn, hBn⟩ : ∃ B, M.map fixB = B := ⟨_, rfl⟩
              have lB : Bn.length = j := by rw [← hBn, List.length_map]; exact HMK.out
              rw [hBn] at hB1
              have hLT : lineT l = if wantB Bn = true then 46 :: Bn else Bn := by
                unfold lineT
                rw [HMM.out, hBn]
              have hby := hB1.bytes C (by omega)
              have htx := hby.text
              rw [lB] at htx hby
              have HLT := Lib.hid hLT
              have HBY := Lib.hid hby
              clear hme hBn hLT hby HBj hgj
              go_upto_region 14 with fail
              go_cut [76] from 56 to 75 (fun s76 wx => s76 = .bool (wantB Bn) ∧ wx = wr)
              case first =>
                cases Bn with
                | nil =>
                  clear hB1
                  go_wp2
                  go_meet
                  exact ⟨rfl, rfl⟩
                | cons c r =>
                  have hj0 : 0 < j := by rw [← lB]; simp
                  have hj0i : (0 : Int) < (j : Int) := by omega
                  have c00 := hB1.cell 0 (by simp)
                  have hne : ((c :: r : Bs) == []) = false := rfl
                  have hwb : wantB (c :: r) = (((c.toNat : Int) == 32) || (((c.toNat : Int) == 9) || ((c.toNat : Int) == 69))) := by
                    have e1 := u8_eq c 32
                    have e2 := u8_eq c 9
                    have e3 := u8_eq c 69
                    have e1 : ((c.toNat : Int) == 32) = (c == 32) := e1
                    have e2 : ((c.toNat : Int) == 9) = (c == 9) := e2
                    have e3 : ((c.toNat : Int) == 69) = (c == 69) := e3
                    rw [e1, e2, e3]
                    unfold wantB
                    rw [hne]
                    rfl
                  have c0 : wr.cell? ⟨G, 0, none⟩ = some (.int .u8 (c.toNat : Int)) := c00
                  have HWB := Lib.hid hwb
                  clear hB1 hwb c00
                  obtain ⟨x, hx⟩ : ∃ x : Int, (c.toNat : Int) = x := ⟨_, rfl⟩
                  rw [hx] at c0
                  have hwb := HWB.out
                  rw [hx] at hwb
                  have HWB := Lib.hid hwb
                  clear hwb hx
                  cases t32 : (x == 32) with
                  | true =>
                    go_wp2
                    go_meet
                    exact ⟨by rw [HWB.out, t32]; rfl, rfl⟩
                  | false =>
                    cases t9 : (x == 9) with
                    | true =>
                      go_wp2
                      go_meet
                      exact ⟨by rw [HWB.out, t32, t9]; rfl, rfl⟩
                    | false =>
                      cases t69 : (x == 69) with
                      | true =>
                        go_wp2
                        go_meet
                        exact ⟨by rw [HWB.out, t32, t9, t69]; rfl, rfl⟩
                      | false =>
                        go_wp2
                        go_meet
                        exact ⟨by rw [HWB.out, t32, t9, t69]; rfl, rfl⟩
              case rest =>
                obtain ⟨rfl, hwx⟩ := hcut
                have hwx := hwx.symm
                subst hwx
                obtain ⟨WB, hWB⟩ : ∃ b, wantB Bn = b := ⟨_, rfl⟩
                have hLT := HLT.out
                rw [hWB] at hLT ⊢
                have HLT2 := Lib.hid hLT
                clear hLT HLT hWB
                obtain ⟨i8, hi8, hz8, hs8, hy8⟩ := info_parts (P := Tryd.prog) (e := 5) (z := .int .u8 0) (size := 1) (bytes := 1) (by kernel_rfl)
                go_upto_if 76 with fail
                go_cut [7] from 77 to 79 (fun s7 wx => BytesAt wx s7 (lineT l) ∧ Below w.heap.size w wx)
                case first =>
                  cases WB with
                  | false =>
                    go_wp2
                    go_meet
                    refine ⟨?_, hbj⟩
                    rw [HLT2.out, if_neg (by decide)]
                    exact HBY.out
                  | true =>
                    have hwr := hbj.size
                    have hgr : G < wr.heap.size := hB1.lt
                    obtain ⟨W2, hW2⟩ : ∃ W2, W2 = wr.alloc (.cells #[.int .u8 46] 5) := ⟨_, rfl⟩
                    have hb2 : Below wr.heap.size wr W2 := by rw [hW2]; exact (Below.refl _ wr).alloc (Nat.le_refl _) _
                    have hn2 : W2.heap[wr.heap.size]? = some (.cells #[.int .u8 46] 5 (0, 0)) := by rw [hW2]; exact new_last _ _
                    have hown : W2.ownsRow w.heap.size 5 1 (.slice (some ⟨wr.heap.size, 0, none⟩) 1 1) 1 [.int .u8 46] :=
                      ⟨rfl, .inr ⟨wr.heap.size, 1, #[.int .u8 46], rfl, hwr, hn2, Nat.le_refl _, by unfold maxLen; omega, rfl, rfl⟩⟩
                    have hcs : ∀ (q : Nat) (hq : q < Bn.length), wr.cell? ⟨G, q, none⟩ = some (.int .u8 ((Bn[q]'hq).toNat : Int)) := fun q hq => hB1.cell q hq
                    have hbW2 := hbj.trans (hb2.mono hwr)
                    have HCS := Lib.hid hcs
                    have LBN := Lib.hid lB
                    have hownlt := hown.lt
                    clear hB1 htx HBY hcs hn2 lB
                    subst hW2
                    go_wp2_with ((at_builtin; refine wpList_append_own _ rfl _ _ 35 rfl w.heap.size 5 i8 (.int .u8 0) 1 1 Tryd.underlying35 hi8 hz8 hs8 hy8 rfl (by decide) _ _ _ rfl hown ⟨G, 0, none⟩ j C (bcells Bn) rfl ?c1 ?c2 ?c3 ?c4 ?c5 ?c6 ?_))
                    case c1 => unfold bcells; simp [LBN.out]
                    case c2 =>
                      intro q u hq
                      unfold bcells at hq
                      rw [List.getElem?_map] at hq
                      cases hx : Bn[q]? with
                      | none => rw [hx] at hq; cases hq
                      | some x =>
                        rw [hx] at hq
                        obtain rfl : Value.int .u8 (x.toNat : Int) = u := Option.some.inj hq
                        obtain ⟨hql, hqe⟩ := List.getElem?_eq_some_iff.1 hx
                        have h := HCS.out q hql
                        rw [hqe] at h
                        first | exact h | (rw [add_at]; exact h)
                    case c3 =>
                      intro u hu
                      unfold bcells at hu
                      obtain ⟨x, _, rfl⟩ := List.mem_map.1 hu
                      rfl
                    case c4 => unfold maxLen; omega
                    case c5 => omega
                    case c6 => have := hbj.size; omega
                    intro v' w7 hown' hgrow _
                    have hb7 : Below w.heap.size w w7 := hbW2.grown hgrow hbW2.size (fun k hk => (hownlt k hk).1)
                    have hby : BytesAt w7 v' (lineT l) := by
                      rw [HLT2.out]
                      simp only [if_true]
                      refine bytes_of_own (base := w.heap.size) ?_ (by simp)
                      rw [List.length_cons, LBN.out, Nat.add_comm]
                      exact hown'
                    have HBY7 := Lib.hid hby
                    clear hown' hgrow hownlt hown hby
                    go_wp2
                    go_meet
                    exact ⟨HBY7.out, hb7⟩
                case rest =>
                  obtain ⟨hby, hbx⟩ := hcut
                  have hok := line_ok l
                  have htk : (L.take (i + 1)).map lineT = (L.take i).map lineT ++ [lineT l] := by
                    rw [List.take_add_one, List.getElem?_eq_getElem hin, List.map_append]
                    have := hL.out
                    rw [List.getD_eq_getElem?_getD, List.getElem?_eq_getElem hin, Option.getD_some] at this
                    rw [this]
                    rfl
                  have hoks : ∀ b ∈ (L.take i).map lineT, LineOk b := fun b hb => by
                    obtain ⟨x, _, rfl⟩ := List.mem_map.1 hb
                    exact line_ok x
                  have hl1 := body_le _ hoks
                  have hl2 := quot_le _ hoks
                  rw [List.length_map, List.length_take] at hl1 hl2
                  obtain ⟨FL, hFL⟩ : ∃ F, (L.take i).map lineT = F := ⟨_, rfl⟩
                  rw [hFL] at htk hl1 hl2
                  obtain ⟨LT, hLT⟩ : ∃ x, lineT l = x := ⟨_, rfl⟩
                  rw [hLT] at hby hok htk
                  have hLl := hok.1
                  have hLne : LT ≠ [] := by
                    obtain ⟨_, _, _, _, rfl, _⟩ := hok
                    simp
                  have hpl := pln_le LT
                  have hSBe : [60, 60, 69, 78, 68, 10] ++ bodyT FL = SB := by rw [← hFL]; exact HSB.out
                  have hSQe : [34] ++ quotT FL = SQ := by rw [← hFL]; exact HSQ.out
                  have hSBl : SB.length = 6 + (bodyT FL).length := by rw [← hSBe, List.length_append]; rfl
                  have hSQl : SQ.length = 1 + (quotT FL).length := by rw [← hSQe, List.length_append]; rfl
                  have PL := fun W => plain_any LT hLne (by omega) W
                  obtain ⟨PT, hPT⟩ : ∃ x, plnT LT = x := ⟨_, rfl⟩
                  rw [hPT] at PL hpl
                  have a1 : ∀ W, (Op.stringOp .add (ByteArray.mk LT.toArray) (ByteArray.mk ([10] : Bs).toArray)).run Tryd.prog W = .ok (str (LT ++ [10])) W := fun W => str_add _ _ (by simp only [List.length_cons, List.length_nil]; omega)
                  obtain ⟨X1, hX1⟩ : ∃ x, LT ++ [10] = x := ⟨_, rfl⟩
                  have lX1 : X1.length = LT.length + 1 := by rw [← hX1, List.length_append]; rfl
                  have a2 : ∀ W, (Op.stringOp .add (ByteArray.mk SB.toArray) (ByteArray.mk X1.toArray)).run Tryd.prog W = .ok (str (SB ++ X1)) W := fun W => str_add _ _ (by omega)
                  have a3 : ∀ W, (Op.stringOp .add (ByteArray.mk PT.toArray) (ByteArray.mk ([92, 110] : Bs).toArray)).run Tryd.prog W = .ok (str (PT ++ [92, 110])) W := fun W => str_add _ _ (by simp only [List.length_cons, List.length_nil]; omega)
                  obtain ⟨X2, hX2⟩ : ∃ x, PT ++ [92, 110] = x := ⟨_, rfl⟩
                  have lX2 : X2.length = PT.length + 2 := by rw [← hX2, List.length_append]; rfl
                  have a4 : ∀ W, (Op.stringOp .add (ByteArray.mk SQ.toArray) (ByteArray.mk X2.toArray)).run Tryd.prog W = .ok (str (SQ ++ X2)) W := fun W => str_add _ _ (by omega)
                  have e1 : SB ++ X1 = [60, 60, 69, 78, 68, 10] ++ bodyT (FL ++ [LT]) := by rw [← hSBe, ← hX1, body_snoc, List.append_assoc]
                  have e2 : SQ ++ X2 = [34] ++ quotT (FL ++ [LT]) := by rw [← hSQe, ← hX2, ← hPT, quot_snoc, List.append_assoc]
                  obtain ⟨X3, hX3⟩ : ∃ x, SB ++ X1 = x := ⟨_, rfl⟩
                  obtain ⟨X4, hX4⟩ : ∃ x, SQ ++ X2 = x := ⟨_, rfl⟩
                  rw [hX1] at a1
                  rw [hX2] at a3
                  rw [hX3] at a2 e1
                  rw [hX4] at a4 e2
                  have E1 := Lib.hid e1
                  have E2 := Lib.hid e2
                  have HTK := Lib.hid htk
                  have htx := hby.text
                  have HBY2 := Lib.hid hby
                  obtain ⟨g2, cap2, rfl, _⟩ := id hby
                  clear hby e1 e2 htk hSBe hSQe hSBl hSQl hX1 hX2 hX3 hX4 lX1 lX2 hpl hPT hLT hFL hoks hl1 hl2 hok hLne
                  go_upto_region 17 with fail
                  have htx2 := htx
                  go_wp2_with fail
                  refine (PL _).mono ?_
                  rintro e w9 ⟨rfl, hb9⟩
                  have hb9w := hbx.trans (hb9.mono hbx.size)
                  go_wp2
                  go_roundg (gO - 1)
                  case rel =>
                    refine ⟨i + 1, by simp, by omega, by omega, ?_, ?_, hb9w⟩
                    · rw [HTK.out, E1.out]
                    · rw [HTK.out, E2.out]
                  case measure => omega
      · have hie : i = L.length := by omega
        subst hie
        have hoks : ∀ b ∈ (L.take L.length).map lineT, LineOk b := fun b hb => by
          obtain ⟨x, _, rfl⟩ := List.mem_map.1 hb
          exact line_ok x
        have hln : ((L.take L.length).map lineT).length ≤ 40 := by rw [List.length_map, List.length_take]; omega
        have hl1 := body_le _ hoks
        have hl2 := quot_le _ hoks
        obtain ⟨FL, hFL⟩ : ∃ F, (L.take L.length).map lineT = F := ⟨_, rfl⟩
        rw [hFL] at hoks hln hl1 hl2 ⊢
        have D1 := here_doc FL hoks hln
        have D2 := here_quot FL hoks hln
        have D3 := here_open FL hoks hln
        obtain ⟨SB, hSB⟩ : ∃ S, [60, 60, 69, 78, 68, 10] ++ bodyT FL = S := ⟨_, rfl⟩
        obtain ⟨SQ, hSQ⟩ : ∃ S, [34] ++ quotT FL = S := ⟨_, rfl⟩
        have lSB : SB.length = 6 + (bodyT FL).length := by rw [← hSB, List.length_append]; rfl
        have lSQ : SQ.length = 1 + (quotT FL).length := by rw [← hSQ, List.length_append]; rfl
        rw [hSB] at D1 D3 ⊢
        rw [hSQ] at D2 ⊢
        have a1 : ∀ W, (Op.stringOp .add (ByteArray.mk SB.toArray) (ByteArray.mk ([32, 9, 69, 78, 68] : Bs).toArray)).run Tryd.prog W = .ok (str (SB ++ [32, 9, 69, 78, 68])) W := fun W => str_add _ _ (by simp only [List.length_cons, List.length_nil]; omega)
        have a2 : ∀ W, (Op.stringOp .add (ByteArray.mk SQ.toArray) (ByteArray.mk ([34] : Bs).toArray)).run Tryd.prog W = .ok (str (SQ ++ [34])) W := fun W => str_add _ _ (by simp only [List.length_cons, List.length_nil]; omega)
        obtain ⟨X1, hX1⟩ : ∃ x, SB ++ [32, 9, 69, 78, 68] = x := ⟨_, rfl⟩
        obtain ⟨X2, hX2⟩ : ∃ x, SQ ++ [34] = x := ⟨_, rfl⟩
        rw [hX1] at a1 D1
        rw [hX2] at a2 D2
        have S1 := fun W hW => scan_ok D1 W hW
        have S2 := fun W hW => scan_ok D2 W hW
        have S3 := fun W hW => scan_er D3 (by omega) W hW
        clear D1 D2 D3 hX1 hX2 lSB lSQ hSB hSQ hoks hln hl1 hl2 hFL HV HLS hgk
        go_wp2_with fail
        refine (S1 wr (HM.out.mono hbr)).mono ?_
        rintro e w2 ⟨vx, rfl, htx, hb2⟩
        have hbw2 := hbr.trans (hb2.mono hbr.size)
        go_wp2_with fail
        refine (S2 w2 (HM.out.mono hbw2)).mono ?_
        rintro e w3 ⟨vy, rfl, hty, hb3⟩
        have hbw3 := hbw2.trans (hb3.mono hbw2.size)
        go_wp2_with fail
        refine (S3 w3 (HM.out.mono hbw3)).mono ?_
        rintro e w4 ⟨d, rfl, hd, hcd, hb4⟩
        have hbw4 := hbw3.trans (hb4.mono hbw3.size)
        obtain ⟨gx, cx, rfl, hgx, _, hkx⟩ := (htx.mono hb3).mono hb4
        obtain ⟨gy, cy, rfl, hgy, _, hky⟩ := hty.mono hb4
        obtain ⟨x0, x1, _⟩ := hkx 0 _ _ _ rfl
        obtain ⟨_, y1, _⟩ := hky 0 _ _ _ rfl
        have x0 : w4.cell? ⟨gx, 0, none⟩ = some (.int .i64 3) := x0
        have x1 : w4.cell? ⟨gx, 1, none⟩ = some (str (quotT FL)) := x1
        have y1 : w4.cell? ⟨gy, 1, none⟩ = some (str (quotT FL)) := y1
        have C := fun nq => is_true d 40 (0 : Nat) (by decide) (w4.drewN nq) (show (w4.drewN nq).heap[d]? = _ from hcd)
        obtain ⟨QT, hQT⟩ : ∃ q, quotT FL = q := ⟨_, rfl⟩
        rw [hQT] at x1 y1 ⊢
        have hq : (QT == QT) = true := by simp
        clear S1 S2 S3 hkx hky htx hty hb2 hb3 hb4 hcd hQT a1 a2
        go_wp2
        go_quiet ((go_at_call 10; refine Calls.quiet_of_same (C _)))
        go_wp2
        go_ret
        exact ⟨rfl, below_drawnL hbw4 _⟩

end Go.Proofs.YtgmgmjddadgkkaaDoor
