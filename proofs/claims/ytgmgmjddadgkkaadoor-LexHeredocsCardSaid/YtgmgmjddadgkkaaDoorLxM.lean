/- The walk of heredoc. -/
import Derived.Test.YtgmgmjddadgkkaaDoorLxL
namespace Go.Proofs.YtgmgmjddadgkkaaDoor
open Go.RowKit
set_option maxRecDepth 100000
attribute [local go_sem] str_size str_toList str_get

set_option maxHeartbeats 8000000 in
theorem here_any (s : Bs) (h2 : 2 ≤ s.length) (hl : s.length ≤ 16384) (w : World) (hM : MaxW w) :
    Calls Tryd.prog 26 #[str s] w fun e w' => e = .returned (.tuple (hereV (hereN s))) ∧ Below w.heap.size w w' := by
  obtain ⟨V, hV⟩ : ∃ V, hereV (hereN s) = V := ⟨_, rfl⟩
  rw [hV]
  have HV := Lib.hid hV
  clear hV
  have mixed : Tryd.prog.follows .mixedOrders = true := by kernel_rfl
  obtain ⟨m, hm⟩ := hM
  have HM := Lib.hid hm
  clear hm
  cases ht : s.drop 2 with
  | nil =>
    have hsl : s.length = 2 := by have := congrArg List.length ht; rw [List.length_drop, List.length_nil] at this; omega
    have hse : ¬ (2 : Int) < (s.length : Int) := by omega
    have hv := HV.out
    unfold hereN at hv
    rw [ht] at hv
    have hV : #[str [], .int .i64 0, .int .i64 40] = V := hv
    subst hV
    have hcut : (ByteArray.mk s.toArray).extract 2 2 = ByteArray.mk ([] : Bs).toArray := by rw [str_cut]; simp
    clear hv HV ht
    go_enter Tryd.func26, Tryd.ntmps26
    go_wp2
    go_ret3
    exact ⟨rfl, Below.refl _ _⟩
  | cons c r =>
    have hsl : s.length = r.length + 3 := by have := congrArg List.length ht; rw [List.length_drop, List.length_cons] at this; omega
    have hse : (2 : Int) < (s.length : Int) := by omega
    have hsn : 2 < s.length := by omega
    have hs2 : s[2] = c := by
      have : (s.drop 2)[0]? = some c := by rw [ht]; rfl
      rw [List.getElem?_drop, Nat.add_zero, List.getElem?_eq_getElem hsn] at this
      exact Option.some.inj this
    have L := fun W => letter_any c W
    obtain ⟨q, hq⟩ : ∃ q, letB c = q := ⟨_, rfl⟩
    rw [hq] at L
    cases q with
    | false =>
      have hv := HV.out
      have hn0 : nameN (c :: r) = 0 := by rw [nameN, if_neg (by rw [hq]; decide)]
      unfold hereN at hv
      rw [ht, hn0] at hv
      have hV : #[str [], .int .i64 0, .int .i64 40] = V := hv
      subst hV
      have hcut : (ByteArray.mk s.toArray).extract 2 2 = ByteArray.mk ([] : Bs).toArray := by rw [str_cut]; simp
      clear hv HV ht hq hn0 hsl
      go_enter Tryd.func26, Tryd.ntmps26
      go_wp2_with fail
      refine (L _).mono ?_
      rintro e wA ⟨rfl, rfl⟩
      go_wp2
      go_ret3
      exact ⟨rfl, Below.refl _ _⟩
    | true =>
      obtain ⟨N, hN⟩ : ∃ N, runN namB (c :: r) = N := ⟨_, rfl⟩
      have hN1 : 1 ≤ N := by rw [← hN]; exact runN_pos (by unfold namB; rw [hq]; rfl)
      have hNl : N ≤ r.length + 1 := by rw [← hN]; exact runN_le _ _
      have hnn : nameN (c :: r) = N := by rw [nameN, if_pos hq, hN]
      have RN := fun W => run_nameH (c :: r) (by rw [List.length_cons]; omega) W
      rw [hN] at RN
      have hcut := cut_from s 2
      rw [ht] at hcut
      obtain ⟨name, hname⟩ : ∃ name, (c :: r).take N = name := ⟨_, rfl⟩
      have hcutn : (ByteArray.mk s.toArray).extract 2 (2 + N) = ByteArray.mk name.toArray := by
        rw [str_cut, ht, ← hname]
        congr 3
        omega
      have hv := HV.out
      unfold hereN at hv
      rw [ht, hnn, if_neg (show ¬ N = 0 by omega), hname] at hv
      have hwn : IntKind.i64.wrap (2 + (N : Int)) = 2 + (N : Int) := by rw [IntKind.wrap_i64]; omega
      have hN0 : ((N : Int) == 0) = false := by simpa using (show ¬ (N : Int) = 0 by omega)
      have hNs : 2 + N ≤ s.length := by omega
      have hNsi : 2 + (N : Int) ≤ (s.length : Int) := by omega
      have HVV := Lib.hid hv
      clear hv HV hq hN hnn hname ht hsl
      go_enter Tryd.func26, Tryd.ntmps26
      go_wp2_with fail
      refine (L _).mono ?_
      rintro e wA ⟨rfl, rfl⟩
      go_wp2_with fail
      refine (RN _).mono ?_
      rintro e wA ⟨rfl, rfl⟩
      by_cases hge : s.length ≤ 2 + N
      · have hgei : (s.length : Int) ≤ 2 + (N : Int) := by omega
        have hd : s.drop (2 + N) = [] := List.drop_eq_nil_of_le hge
        have hv := HVV.out
        rw [hd] at hv
        have hV : #[str [], .int .i64 0, .int .i64 40] = V := hv
        subst hV
        clear hv HVV hd L RN hge
        go_wp2
        go_ret3
        exact ⟨rfl, Below.refl _ _⟩
      · have hgei : ¬ (s.length : Int) ≤ 2 + (N : Int) := by omega
        have hlti : 2 + (N : Int) < (s.length : Int) := by omega
        have hlt : 2 + N < s.length := by omega
        obtain ⟨d, hd⟩ : ∃ d, s[2 + N]?.getD 0 = d := ⟨_, rfl⟩
        obtain ⟨t, htt⟩ : ∃ t, s.drop (2 + N + 1) = t := ⟨_, rfl⟩
        have hdg := drop_get hlt
        rw [hd, htt] at hdg
        have hgd : s[2 + N] = d := by rw [← hd]; simp [hlt]
        have hv := HVV.out
        rw [hdg] at hv
        have hc10 : ((d.toNat : Int) == 10) = (d == 10) := u8_eq d 10
        by_cases h10 : d = 10
        · have hb : (d == 10) = true := by simpa using h10
          rw [hb] at hc10
          have hcn : ((d.toNat : Int) != 10) = false := by rw [bne, hc10]; rfl
          have hcp : (d.toNat : Int) = 10 := by simpa using hc10
          simp only [if_pos h10] at hv
          have HV2 := Lib.hid hv
          have HT := Lib.hid htt
          have htl : t.length + (2 + N + 1) = s.length := by rw [← htt, List.length_drop]; omega
          have hw2 : IntKind.i64.wrap (2 + (N : Int) + 1) = 2 + (N : Int) + 1 := by rw [IntKind.wrap_i64]; omega
          clear hv HVV hdg htt hd h10 hb L RN hge
          obtain ⟨B, hB⟩ : ∃ B, wA.heap.size = B := ⟨_, rfl⟩
          have hm0 : 0 < B := by rw [← hB]; exact World.block_lt_of_cell? wA ⟨0, 0, none⟩ HM.out
          go_wp2
          go_loopg [7] (t.length + 1) (fun gg v7 wr => ∃ (i : Nat) (acc : Bs), v7 = .int .i64 i ∧ i ≤ s.length ∧ s.length - i < gg ∧ Hid (hereV ((hdF name gg (s.drop i)).map fun x => (acc ++ x.1, x.2 + i)) = V) ∧ acc.length ≤ 5 * i ∧ Bld B B acc wr ∧ Below B wA wr)
          case atStart =>
            refine ⟨2 + N + 1, [], by go_num, by omega, by omega, ?_, by simp, ?_, ?_⟩
            · show _ = V
              rw [HT.out]
              exact HV2.out
            · rw [← hB]
              exact Lib.IsBuilderF.of (Lib.fresh_isBuilder 61 5 wA)
            · rw [← hB]
              exact (Below.refl _ wA).alloc (Nat.le_refl _) _
          case round =>
            clear HV2 HT hc10 hcn hcp hgd hgei hcut hcutn
            obtain ⟨i, acc, rfl, hil, hig, HVr, hal, hbl, hbw⟩ := hrel
            obtain ⟨w4, rfl⟩ : ∃ w4, w4 = wr := ⟨_, rfl⟩
            obtain ⟨g, rfl⟩ : ∃ g, gk = g + 1 := ⟨gk - 1, by omega⟩
            have hB4 : B ≤ w4.heap.size := by have := hbw.size; omega
            have hili : (i : Int) ≤ (s.length : Int) := by omega
            have hmr : w4.cell? ⟨0, 0, none⟩ = some (.int .i64 m) := (hbw.cell (p := ⟨0, 0, none⟩) hm0).trans HM.out
            have hcut := cut_from s i
            have hv := HVr.out
            have hdd : ∀ k, (s.drop i).drop k = s.drop (i + k) := fun k => by rw [List.drop_drop]
            have htl4 : (s.drop i).length + i = s.length := by rw [List.length_drop]; omega
            obtain ⟨T, hT⟩ : ∃ T, s.drop i = T := ⟨_, rfl⟩
            rw [hT] at hv hcut hdd htl4
            rw [hdF_cons] at hv
            have CU := Tryd.strings_Cut ⟨T.toArray⟩ ⟨#[10]⟩ m w4 (by rw [str_size]; omega) hmr
            have hc10a := (cut10 T).1
            have hc10b := (cut10 T).2
            have htw : (T.takeWhile (· != 10)).length ≤ T.length := (List.takeWhile_sublist _).length_le
            obtain ⟨line, hline⟩ : ∃ line, T.takeWhile (· != 10) = line := ⟨_, rfl⟩
            rw [hline] at hc10a hc10b htw hv
            obtain ⟨more, hmore⟩ : ∃ more, (!decide (line.length = T.length)) = more := ⟨_, rfl⟩
            rw [hmore] at hc10b
            have CU : Calls Tryd.prog 33 #[str T, .string ⟨#[10]⟩] w4 fun e w' => (∃ rest, e = .returned (.tuple #[str line, rest, .bool more])) ∧ ∃ n, w' = w4.drewN n := by
              refine CU.mono ?_
              rintro e w' ⟨he, hn⟩
              refine ⟨⟨str (Lib.cut T [10]).2.1, ?_⟩, hn⟩
              rw [he]
              have ea : Lib.cut (ByteArray.mk T.toArray).data.toList (ByteArray.mk #[10]).data.toList = Lib.cut T [10] := rfl
              rw [ea, hc10a, hc10b]
            have TR := fun W => trim_any line (by omega) W
            obtain ⟨X, hX⟩ : ∃ X, (line.dropWhile fun c => c == 32 || c == 9) = X := ⟨_, rfl⟩
            rw [hX] at TR hv
            have hDD := Lib.hid hdd
            have hVV := Lib.hid hv
            have hMO := Lib.hid hmore
            clear hc10a hc10b hline hX hT hv hmore hdd HVr
            go_wp2_with fail
            refine CU.mono ?_
            rintro e W1 ⟨⟨rest, rfl⟩, n, hn⟩
            have hb1 : Below w4.heap.size w4 W1 := by rw [hn]; exact below_drawnL (Below.refl _ _) _
            clear hn CU
            go_wp2_with fail
            refine (TR _).mono ?_
            rintro e W2 ⟨rfl, hb2⟩
            have hb12 := hb1.trans (hb2.mono hb1.size)
            have hbl2 := bld_below hbl hb12
            have hbw2 := hbw.trans (hb12.mono hB4)
            have hB2 : B ≤ W2.heap.size := by have := hb12.size; omega
            clear TR hb1 hb2 hb12 hbl hbw hmr
            by_cases hXn : X = name
            · have hXb : (X == name) = true := by simpa using hXn
              have hv := hVV.out
              rw [if_pos hXn] at hv
              have hV : #[str (acc ++ []), .int .i64 ((line.length + i : Nat) : Int), .int .i64 0] = V := hv
              have hcast : ((line.length + i : Nat) : Int) = (i : Int) + (line.length : Int) := by omega
              rw [List.append_nil, hcast] at hV
              subst hV
              have hws : IntKind.i64.wrap ((i : Int) + (line.length : Int)) = (i : Int) + (line.length : Int) := by rw [IntKind.wrap_i64]; omega
              clear hv hVV hXn hMO
              go_wp2_with fail
              refine (Tryd.Builder_String_any_k B B acc _ hbl2 hB2).mono ?_
              rintro e W3 ⟨rfl, -, b3, -⟩
              go_wp2
              go_ret3
              exact ⟨rfl, by rw [hB]; exact hbw2.trans b3⟩
            · have hXb : (X == name) = false := by simpa using hXn
              have hv := hVV.out
              rw [if_neg hXn] at hv
              have hVV2 := Lib.hid hv
              clear hv hVV hXn
              cases more with
              | false =>
                have hle : line.length = T.length := by have := hMO.out; simpa using this
                have hv := hVV2.out
                rw [if_pos hle] at hv
                have hV : #[str [], .int .i64 0, .int .i64 40] = V := hv
                subst hV
                clear hv hVV2 hMO hle
                go_wp2
                go_ret3
                exact ⟨rfl, by rw [hB]; exact hbw2⟩
              | true =>
                have hle : ¬ line.length = T.length := by have := hMO.out; simpa using this
                have hlt2 : line.length + 1 ≤ T.length := by omega
                have hv := hVV2.out
                rw [if_neg hle, hDD.out] at hv
                have hVV := Lib.hid hv
                clear hv hVV2 hMO hle hDD
                go_wp2
                obtain ⟨K, hK⟩ : ∃ K, W2.heap.size = K := ⟨_, rfl⟩
                have hKB : B ≤ K := by omega
                have hKb : K ≠ B := by
                  have : B < W2.heap.size := by
                    rcases hbl2 with h | h
                    · exact h.lt
                    · exact h.lt
                  omega
                obtain ⟨S, hS⟩ : ∃ S, ByteArray.mk line.toArray = S := ⟨_, rfl⟩
                have hSs : S.size = line.length := by rw [← hS]; exact str_size line
                have hE : escF S S.size 0 = escL line := by rw [← hS, str_size]; rfl
                rw [hK, hS]
                go_loopw [] (fun wr => InR B K wA S (acc ++ escL line) (acc.length + 5 * S.size) wr) (fun wr => S.size - wr.iterPos K)
                case atStart =>
                  refine ⟨0, S.size, acc, bld_below hbl2 ((Below.refl _ W2).alloc (Nat.le_refl _) _), ?_, hbw2.trans ((Below.refl _ W2).alloc hB2 _), ?_, by omega, by omega⟩
                  · have := World.iter_heap W2 S 0
                    rw [← hK]
                    simpa using this
                  · show _ = _
                    rw [hE]
                case round =>
                  obtain ⟨pos, fuel, acc2, hI, hit, hbw3, HA, hfu, hal2⟩ := hrel
                  have hsz : K < wr.heap.size := (Array.getElem?_eq_some_iff.1 hit).1
                  by_cases hp : pos < S.size
                  · obtain ⟨fuel, rfl⟩ : ∃ f, fuel = f + 1 := ⟨fuel - 1, by omega⟩
                    have hnx : ∀ ty, (Instr.next (.pointer (some ⟨K, 0, none⟩)) true ty).run Tryd.prog wr = _ := fun ty => Lib.run_next_any_at wr K S pos ty hit hp
                    have hd1 := decode_le S pos
                    have hI2 := hI.iterAt hit (pos + (Utf8.decode S pos).2)
                    have hit2 := Lib.iterAt_heap wr K S pos (pos + (Utf8.decode S pos).2) hit
                    have hbw4 := Lib.below_iterAt hbw3 hKB S (pos + (Utf8.decode S pos).2)
                    have hs3 : B ≤ (wr.iterAt K S (pos + (Utf8.decode S pos).2)).heap.size := by rw [Lib.iterAt_size]; omega
                    obtain ⟨W3, hW3⟩ : ∃ W3, wr.iterAt K S (pos + (Utf8.decode S pos).2) = W3 := ⟨_, rfl⟩
                    rw [hW3] at hnx hI2 hit2 hbw4 hs3
                    have FIN := fun W4 h k b => InR.next (W4 := W4) hKb hit hit2 hbw4 HA.out hp hfu hal2 h k b
                    obtain ⟨rr, hrr⟩ : ∃ rr, (Utf8.decode S pos).1 = rr := ⟨_, rfl⟩
                    rw [hrr] at hnx hd1
                    have HRR := Lib.hid hrr
                    clear hrr hW3 hit2 hbw4 HA
                    by_cases h92 : rr = 92
                    · subst h92
                      have he : escR (Utf8.decode S pos).1 = [92] ++ Lib.encodeRune ((92 : Nat) : Int) := by rw [HRR.out]; rfl
                      rw [he] at FIN
                      have FF := Lib.hid FIN
                      clear FIN he
                      go_wp2_with fail
                      refine (byte_any B B acc2 92 92 rfl _ hI2 (by omega) hs3).mono ?_
                      rintro e W4 ⟨rfl, h4, b4, k4⟩
                      have hs4 : B ≤ W4.heap.size := by have := b4.size; omega
                      go_wp2_with fail
                      refine (rune_any B B _ 92 _ rfl (by decide) _ h4 (by rw [List.length_append]; simp; omega) hs4).mono ?_
                      rintro e W5 ⟨⟨x, rfl⟩, h5, b5, k5⟩
                      rw [List.append_assoc] at h5
                      have FQ := FF.out W5 h5 (k4.trans k5) (b4.trans b5)
                      go_wp2
                      go_roundw
                      case rel => exact FQ.1
                      case measure => exact FQ.2
                    by_cases h34 : rr = 34
                    · subst h34
                      have he : escR (Utf8.decode S pos).1 = [92] ++ Lib.encodeRune ((34 : Nat) : Int) := by rw [HRR.out]; rfl
                      rw [he] at FIN
                      have FF := Lib.hid FIN
                      clear FIN he
                      go_wp2_with fail
                      refine (byte_any B B acc2 92 92 rfl _ hI2 (by omega) hs3).mono ?_
                      rintro e W4 ⟨rfl, h4, b4, k4⟩
                      have hs4 : B ≤ W4.heap.size := by have := b4.size; omega
                      go_wp2_with fail
                      refine (rune_any B B _ 34 _ rfl (by decide) _ h4 (by rw [List.length_append]; simp; omega) hs4).mono ?_
                      rintro e W5 ⟨⟨x, rfl⟩, h5, b5, k5⟩
                      rw [List.append_assoc] at h5
                      have FQ := FF.out W5 h5 (k4.trans k5) (b4.trans b5)
                      go_wp2
                      go_roundw
                      case rel => exact FQ.1
                      case measure => exact FQ.2
                    by_cases h36 : rr = 36
                    · subst h36
                      have he : escR (Utf8.decode S pos).1 = [92] ++ Lib.encodeRune ((36 : Nat) : Int) := by rw [HRR.out]; rfl
                      rw [he] at FIN
                      have FF := Lib.hid FIN
                      clear FIN he
                      go_wp2_with fail
                      refine (byte_any B B acc2 92 92 rfl _ hI2 (by omega) hs3).mono ?_
                      rintro e W4 ⟨rfl, h4, b4, k4⟩
                      have hs4 : B ≤ W4.heap.size := by have := b4.size; omega
                      go_wp2_with fail
                      refine (rune_any B B _ 36 _ rfl (by decide) _ h4 (by rw [List.length_append]; simp; omega) hs4).mono ?_
                      rintro e W5 ⟨⟨x, rfl⟩, h5, b5, k5⟩
                      rw [List.append_assoc] at h5
                      have FQ := FF.out W5 h5 (k4.trans k5) (b4.trans b5)
                      go_wp2
                      go_roundw
                      case rel => exact FQ.1
                      case measure => exact FQ.2
                    by_cases h9 : rr = 9
                    · subst h9
                      have he : escR (Utf8.decode S pos).1 = [92] ++ Lib.encodeRune ((116 : Nat) : Int) := by rw [HRR.out]; rfl
                      rw [he] at FIN
                      have FF := Lib.hid FIN
                      clear FIN he
                      go_wp2_with fail
                      refine (byte_any B B acc2 92 92 rfl _ hI2 (by omega) hs3).mono ?_
                      rintro e W4 ⟨rfl, h4, b4, k4⟩
                      have hs4 : B ≤ W4.heap.size := by have := b4.size; omega
                      go_wp2_with fail
                      refine (rune_any B B _ 116 _ rfl (by decide) _ h4 (by rw [List.length_append]; simp; omega) hs4).mono ?_
                      rintro e W5 ⟨⟨x, rfl⟩, h5, b5, k5⟩
                      rw [List.append_assoc] at h5
                      have FQ := FF.out W5 h5 (k4.trans k5) (b4.trans b5)
                      go_wp2
                      go_roundw
                      case rel => exact FQ.1
                      case measure => exact FQ.2
                    by_cases h13 : rr = 13
                    · subst h13
                      have he : escR (Utf8.decode S pos).1 = [92] ++ Lib.encodeRune ((114 : Nat) : Int) := by rw [HRR.out]; rfl
                      rw [he] at FIN
                      have FF := Lib.hid FIN
                      clear FIN he
                      go_wp2_with fail
                      refine (byte_any B B acc2 92 92 rfl _ hI2 (by omega) hs3).mono ?_
                      rintro e W4 ⟨rfl, h4, b4, k4⟩
                      have hs4 : B ≤ W4.heap.size := by have := b4.size; omega
                      go_wp2_with fail
                      refine (rune_any B B _ 114 _ rfl (by decide) _ h4 (by rw [List.length_append]; simp; omega) hs4).mono ?_
                      rintro e W5 ⟨⟨x, rfl⟩, h5, b5, k5⟩
                      rw [List.append_assoc] at h5
                      have FQ := FF.out W5 h5 (k4.trans k5) (b4.trans b5)
                      go_wp2
                      go_roundw
                      case rel => exact FQ.1
                      case measure => exact FQ.2
                    have q92 : ((rr : Int) == 92) = false := by simpa using (show ¬ (rr : Int) = 92 by omega)
                    have p92 : ¬ (rr : Int) = 92 := by omega
                    have q34 : ((rr : Int) == 34) = false := by simpa using (show ¬ (rr : Int) = 34 by omega)
                    have p34 : ¬ (rr : Int) = 34 := by omega
                    have q36 : ((rr : Int) == 36) = false := by simpa using (show ¬ (rr : Int) = 36 by omega)
                    have p36 : ¬ (rr : Int) = 36 := by omega
                    have q9 : ((rr : Int) == 9) = false := by simpa using (show ¬ (rr : Int) = 9 by omega)
                    have p9 : ¬ (rr : Int) = 9 := by omega
                    have q13 : ((rr : Int) == 13) = false := by simpa using (show ¬ (rr : Int) = 13 by omega)
                    have p13 : ¬ (rr : Int) = 13 := by omega
                    have he : escR (Utf8.decode S pos).1 = Lib.encodeRune ((rr : Nat) : Int) := by
                      rw [HRR.out, escR, if_neg (by omega), if_neg h9, if_neg h13]
                    rw [he] at FIN
                    have FF := Lib.hid FIN
                    clear FIN he h92 h34 h36 h9 h13
                    go_wp2_with fail
                    refine (rune_any B B _ rr _ rfl hd1 _ hI2 (by omega) hs3).mono ?_
                    rintro e W5 ⟨⟨x, rfl⟩, h5, b5, k5⟩
                    have FQ := FF.out W5 h5 k5 b5
                    go_wp2
                    go_roundw
                    case rel => exact FQ.1
                    case measure => exact FQ.2
                  · have hnx : ∀ ty, (Instr.next (.pointer (some ⟨K, 0, none⟩)) true ty).run Tryd.prog wr = _ := fun ty => Lib.run_next_end_at wr K S pos ty hit hp
                    have hae := HA.out
                    rw [escF_end S fuel pos hp, List.append_nil] at hae
                    have hs3 : B ≤ wr.heap.size := by omega
                    have WS : Calls Tryd.prog 38 #[.pointer (some ⟨B, 0, none⟩), .string ⟨#[92, 110]⟩] wr fun e w' => e = .returned (.tuple #[.int .i64 2, .nilIface]) ∧ Bld B B (acc2 ++ [92, 110]) w' ∧ Below B wr w' ∧ Oth B wr w' :=
                      string_any B B acc2 [92, 110] wr hI (by simp; omega) hs3
                    have hw1 : IntKind.i64.wrap ((line.length : Int) + 1) = (line.length : Int) + 1 := by rw [IntKind.wrap_i64]; omega
                    have hw3 : IntKind.i64.wrap ((i : Int) + ((line.length : Int) + 1)) = (i : Int) + ((line.length : Int) + 1) := by rw [IntKind.wrap_i64]; omega
                    have HAE := Lib.hid hae
                    clear hae HA
                    go_wp2_with fail
                    refine WS.mono ?_
                    rintro e W5 ⟨rfl, h5, b5, -⟩
                    go_wp2
                    go_roundg g
                    case measure => omega
                    case rel =>
                      have hall := congrArg List.length HAE.out
                      refine ⟨i + (line.length + 1), acc2 ++ [92, 110], by go_num, by omega, by omega, ?_, by rw [List.length_append]; simp; omega, h5, hbw3.trans b5⟩
                      show _ = V
                      rw [← hVV.out, HAE.out]
                      cases hdF name g (s.drop (i + (line.length + 1))) with
                      | none => rfl
                      | some x =>
                        simp only [Option.map_some, List.append_assoc]
                        congr 3
                        omega
        · have hb : (d == 10) = false := by simpa using h10
          rw [hb] at hc10
          have hcn : ((d.toNat : Int) != 10) = true := by rw [bne, hc10]; rfl
          have hcp : ¬ (d.toNat : Int) = 10 := by simpa using hc10
          simp only [if_neg h10] at hv
          have hV : #[str [], .int .i64 0, .int .i64 40] = V := hv
          subst hV
          clear hv HVV hdg htt hd h10 hb L RN hge
          go_wp2
          go_ret3
          exact ⟨rfl, Below.refl _ _⟩
end Go.Proofs.YtgmgmjddadgkkaaDoor
