/- The walks of text and insertion. -/
import Derived.Test.YtgmgmjddadgkkaaDoorLxD
import Derived.Test.YtgmgmjddadgkkaaDoorLexT
namespace Go.Proofs.YtgmgmjddadgkkaaDoor
open Go.RowKit
set_option maxRecDepth 100000
attribute [local go_sem] str_size str_toList str_get

theorem esc_eq (c : UInt8) : decide (Lib.indexByte [34, 92, 110, 116, 114, 36] c < 0) = !escB c := by
  have h := idx_mem [34, 92, 110, 116, 114, 36] c
  have : decide (Lib.indexByte [34, 92, 110, 116, 114, 36] c < 0) = !decide (0 ≤ Lib.indexByte [34, 92, 110, 116, 114, 36] c) := by
    rw [Bool.eq_iff_iff]
    simp
  rw [this, h]
  unfold escB
  simp only [List.contains_cons, List.contains_nil, Bool.or_false]
/-- What is cut off a text's front. -/
theorem cut_from (s : Bs) (i : Nat) : (ByteArray.mk s.toArray).extract i s.length = ByteArray.mk (s.drop i).toArray := by
  rw [str_cut]
  congr 2
  rw [List.take_of_length_le (by simp)]

/-- What the two of them answer of texts of at most n bytes. -/
def TxIns (n : Nat) : Prop :=
  (∀ (s : Bs) (d : Nat) (w : World), s.length ≤ n → s ≠ [] → d ≤ 24 → Calls Tryd.prog 25 #[str s, .int .i64 d] w fun e w' => e = .returned (.tuple #[.int .i64 (addN 1 (tx (s.drop 1) d)).1, .int .i64 (addN 1 (tx (s.drop 1) d)).2]) ∧ w' = w) ∧
  (∀ (s : Bs) (d : Nat) (w : World), s.length ≤ n → s ≠ [] → d ≤ 25 → Calls Tryd.prog 31 #[str s, .int .i64 d] w fun e w' => e = .returned (.tuple #[.int .i64 (ins s d).1, .int .i64 (ins s d).2]) ∧ w' = w)

set_option maxHeartbeats 4000000 in
theorem text_step (n : Nat) (hn : n ≤ 100000) (ih : TxIns n) (s : Bs) (d : Nat) (w : World) (hl : s.length ≤ n + 1) (hs : s ≠ []) (hd : d ≤ 24) :
    Calls Tryd.prog 25 #[str s, .int .i64 d] w fun e w' => e = .returned (.tuple #[.int .i64 (addN 1 (tx (s.drop 1) d)).1, .int .i64 (addN 1 (tx (s.drop 1) d)).2]) ∧ w' = w := by
  have hs1 : 1 ≤ s.length := by
    cases s with
    | nil => exact absurd rfl hs
    | cons _ _ => simp
  obtain ⟨R, hR⟩ : ∃ R, addN 1 (tx (s.drop 1) d) = R := ⟨_, rfl⟩
  rw [hR]
  have HR0 : Hid (R = addN 1 (tx (s.drop 1) d)) := hR.symm
  clear hR hs
  have IHI := Lib.hid ih.2
  clear ih
  have hwd : IntKind.i64.wrap ((d : Int) + 1) = (d : Int) + 1 := by rw [IntKind.wrap_i64]; omega
  go_enter Tryd.func25, Tryd.ntmps25
  go_wp2
  go_loopg [6] s.length (fun gg v6 wr => ∃ i : Nat, 1 ≤ i ∧ i ≤ s.length ∧ s.length - i ≤ gg ∧ v6 = .int .i64 i ∧ Hid (R = addN i (tx (s.drop i) d)) ∧ wr = w)
  case atStart => exact ⟨1, by omega, by omega, by omega, rfl, HR0, rfl⟩
  case round =>
    clear HR0
    obtain ⟨i, hi1, hil, hig, rfl, HR, rfl⟩ := hrel
    by_cases hi : i < s.length
    · have hie : (i : Int) < (s.length : Int) := by omega
      have hcut := cut_from s i
      have hcut1 := cut_from s (i + 1)
      obtain ⟨c, hc⟩ : ∃ c, s[i]?.getD 0 = c := ⟨_, rfl⟩
      have hci : s[i] = c := by rw [← hc]; simp [hi]
      have hdg := drop_get hi
      rw [hc] at hdg
      obtain ⟨r, hr⟩ : ∃ r, s.drop (i + 1) = r := ⟨_, rfl⟩
      rw [hr] at hdg hcut1
      have hrl : r.length + 1 + i = s.length := by
        have := congrArg List.length hr
        rw [List.length_drop] at this
        omega
      have hrn := HR.out
      rw [hdg, tx_cons] at hrn
      rw [hdg] at hcut
      have hdk : ∀ k, r.drop k = s.drop (i + 1 + k) := fun k => by rw [← hr, List.drop_drop]
      have HDK := Lib.hid hdk
      have hc34 : ((c.toNat : Int) == 34) = (c == 34) := u8_eq c 34
      have hc10 : ((c.toNat : Int) == 10) = (c == 10) := u8_eq c 10
      have hc92 : ((c.toNat : Int) == 92) = (c == 92) := u8_eq c 92
      have hgr : s[i + 1]?.getD 0 = r.headD 0 := by
        rw [← hr]
        cases hdd : s.drop (i + 1) with
        | nil =>
          have : s.length ≤ i + 1 := by simpa using hdd
          simp [List.getElem?_eq_none this]
        | cons x y =>
          have : (s.drop (i + 1))[0]? = some x := by rw [hdd]; rfl
          rw [List.getElem?_drop, Nat.add_zero] at this
          simp [this]
      have HRN := Lib.hid hrn
      clear hrn HR hdg hr hc hdk
      by_cases h34 : c = 34
      · have hb : (c == 34) = true := by simpa using h34
        rw [hb] at hc34
        have hRe : R = (i + 1, 0) := by rw [HRN.out, if_pos h34, addN_zero i rfl]; simp only; rw [Nat.add_comm]
        subst hRe
        clear HRN h34 hb
        go_wp2
        go_ret2
        exact ⟨rfl, rfl⟩
      have hb34 : (c == 34) = false := by simpa using h34
      rw [hb34] at hc34
      by_cases h10 : c = 10
      · have hb : (c == 10) = true := by simpa using h10
        rw [hb] at hc10
        have hRe : R = (0, 40) := by rw [HRN.out, if_neg h34, if_pos h10]; exact addN_lit i 40 (by decide)
        subst hRe
        clear HRN h34 h10 hb
        go_wp2
        go_ret2
        exact ⟨rfl, rfl⟩
      have hb10 : (c == 10) = false := by simpa using h10
      rw [hb10] at hc10
      by_cases h92 : c = 92
      · have hb : (c == 92) = true := by simpa using h92
        rw [hb] at hc92
        have hrn := HRN.out
        rw [if_neg h34, if_neg h10, if_pos h92] at hrn
        clear HRN h34 h10 h92 hb hb34 hb10
        by_cases hr0 : i + 1 < s.length
        · have hge : ¬ (s.length : Int) ≤ (i : Int) + 1 := by omega
          have hlt1 : ((i : Int) + 1) < (s.length : Int) := by omega
          obtain ⟨e, he⟩ : ∃ e, r.headD 0 = e := ⟨_, rfl⟩
          rw [he] at hrn hgr
          have hci1 : s[i + 1] = e := by rw [← hgr]; simp [hr0]
          have IB := fun W => Tryd.strings_IndexByte ⟨#[34, 92, 110, 116, 114, 36]⟩ (e.toNat : Int) W
          have e0 : ((e.toNat : Int)).toNat.toUInt8 = e := by simp
          rw [e0] at IB
          have hes := esc_eq e
          obtain ⟨X, hX⟩ : ∃ X, Lib.indexByte [34, 92, 110, 116, 114, 36] e = X := ⟨_, rfl⟩
          have IB : ∀ W, Calls Tryd.prog 17 #[.string ⟨#[34, 92, 110, 116, 114, 36]⟩, .int .u8 (e.toNat : Int)] W fun e w' => e = .returned (.int .i64 X) ∧ w' = W := fun W => by rw [← hX]; exact IB W
          rw [hX] at hes
          obtain ⟨b, hbb⟩ : ∃ b, escB e = b := ⟨_, rfl⟩
          rw [hbb] at hrn hes
          have hd2 : r.drop 1 = s.drop (i + 2) := HDK.out 1
          rw [hd2] at hrn
          have HRN := Lib.hid hrn
          have HES := Lib.hid hes
          clear hX hbb he hrn hes hd2 e0
          go_wp2_with fail
          refine (IB _).mono ?_
          rintro e w1 ⟨rfl, hw1⟩
          rw [hw1]
          clear hw1 w1 IB
          cases b with
          | true =>
            have hx : ¬ X < 0 := by simpa using HES.out
            have HR2 : Hid (R = addN (i + 2) (tx (s.drop (i + 2)) d)) := by
              show R = _
              rw [HRN.out, if_pos rfl, addN_addN]
            clear HRN HES
            go_wp2
            go_roundg (s.length - (i + 2))
            case measure => omega
            case rel => exact ⟨i + 2, by omega, by omega, by omega, by go_num, HR2, rfl⟩
          | false =>
            have hx : X < 0 := by simpa using HES.out
            have hRe : R = (0, 40) := by rw [HRN.out, if_neg Bool.false_ne_true]; exact addN_lit i 40 (by decide)
            subst hRe
            clear HRN HES
            go_wp2
            go_ret2
            exact ⟨rfl, rfl⟩
        · have hge : (s.length : Int) ≤ (i : Int) + 1 := by omega
          have : r = [] := List.eq_nil_of_length_eq_zero (by omega)
          subst this
          have hRe : R = (0, 40) := by rw [hrn, if_neg (by decide)]; exact addN_lit i 40 (by decide)
          subst hRe
          clear hrn
          go_wp2
          go_ret2
          exact ⟨rfl, rfl⟩
      have hb92 : (c == 92) = false := by simpa using h92
      rw [hb92] at hc92
      have hrn := HRN.out
      rw [if_neg h34, if_neg h10, if_neg h92] at hrn
      have H1 := fun W => Tryd.strings_HasPrefix ⟨(c :: r).toArray⟩ ⟨#[36, 123]⟩ W
      simp only [pre2_eq] at H1
      obtain ⟨q, hq⟩ : ∃ q, (c == 36 && r.head? == some 123) = q := ⟨_, rfl⟩
      rw [hq] at H1 hrn
      have hrne : q = true → r ≠ [] := fun h e => by subst e; rw [← hq] at h; simp at h
      have HRE := Lib.hid hrne
      have HRN2 := Lib.hid hrn
      clear hrn HRN hrne hq h34 h10 h92 hb34 hb10 hb92
      go_wp2_with fail
      refine (H1 _).mono ?_
      rintro e w1 ⟨rfl, hw1⟩
      rw [hw1]
      clear hw1 w1 H1
      cases q with
      | false =>
        have HR2 : Hid (R = addN (i + 1) (tx (s.drop (i + 1)) d)) := by
          show R = _
          have := HDK.out 0
          rw [List.drop_zero] at this
          rw [HRN2.out, if_neg Bool.false_ne_true, addN_addN, this]
        clear HRN2 HRE
        go_wp2
        go_roundg (s.length - (i + 1))
        case measure => omega
        case rel => exact ⟨i + 1, by omega, by omega, by omega, by go_num, HR2, rfl⟩
      | true =>
        have hr := HRE.out rfl
        have CI := fun W => IHI.out r (d + 1) W (by omega) hr (by omega)
        have hib := ins_bd hr (d + 1)
        have hrn := HRN2.out
        rw [if_pos rfl] at hrn
        have hd1 : ((d + 1 : Nat) : Int) = (d : Int) + 1 := by omega
        rw [hd1] at CI
        obtain ⟨⟨a, e⟩, hx⟩ : ∃ x, ins r (d + 1) = x := ⟨_, rfl⟩
        rw [hx] at CI hib hrn
        simp only at CI hib hrn
        have HRN3 := Lib.hid hrn
        have HIB := Lib.hid hib
        clear hx hrn hib HRN2 HRE hr hd1
        go_wp2_with fail
        refine (CI _).mono ?_
        rintro e1 w1 ⟨rfl, hw1⟩
        rw [hw1]
        clear hw1 w1 CI
        by_cases h0 : e = 0
        · subst h0
          have hab := HIB.out.1
          have HR2 : Hid (R = addN (i + (a + 1)) (tx (s.drop (i + (a + 1))) d)) := by
            show R = _
            rw [HRN3.out, if_pos rfl, addN_addN, HDK.out a, show i + 1 + a = i + (a + 1) by omega]
          clear HRN3 HIB
          go_wp2
          go_roundg (s.length - (i + (a + 1)))
          case measure => omega
          case rel => exact ⟨i + (a + 1), by omega, by omega, by omega, by go_num, HR2, rfl⟩
        · have hRe : R = (0, e) := by rw [HRN3.out, if_neg h0]; exact addN_lit i e h0
          have he0 : (e == 0) = false := by simpa using h0
          have he1 : (e != 0) = true := by simpa using h0
          subst hRe
          clear HRN3 HIB h0
          go_wp2
          go_ret2
          exact ⟨rfl, rfl⟩
    · obtain rfl : i = s.length := by omega
      have hie : ¬ (s.length : Int) < (s.length : Int) := by omega
      have hRe : R = (0, 40) := by
        rw [HR.out, List.drop_length, tx_nil]
        exact addN_lit _ 40 (by decide)
      subst hRe
      clear HR
      go_wp2
      go_ret2
      exact ⟨rfl, rfl⟩

end Go.Proofs.YtgmgmjddadgkkaaDoor
