/- Plain: what LexCounts asks: pieces with gaps between them. -/
import Derived.Test.YtgmgmjddadgkkaaDoorLexU
namespace Go.Proofs.YtgmgmjddadgkkaaDoor
open Go

/-- The gap of a dress. -/
def gapT (d : Nat) : Bs :=
  match d with
  | 0 => [32]
  | 1 => [9]
  | 2 => [13, 32]
  | 3 => [47, 42, 42, 47]
  | 4 => [32, 47, 42, 32, 34, 32, 42, 47]
  | 5 => [47, 42, 10, 42, 47]
  | 6 => [32, 32]
  | _ => [32, 47, 47, 120, 10]
/-- The line's end that the last dress puts behind a piece, of which the gap ends at a place. -/
def lineK (d e : Nat) : List Tok := if d = 7 then [(5, [10], e - 1)] else []
def appT (ts : List Tok) (x : Except (Int × Nat) (List Tok)) : Except (Int × Nat) (List Tok) := ts.foldr consT x
theorem appT_app (a b : List Tok) (x : Except (Int × Nat) (List Tok)) : appT (a ++ b) x = appT a (appT b x) := by unfold appT; rw [List.foldr_append]
theorem appT_ok (l : List Tok) : ∀ ts : List Tok, appT ts (.ok l) = .ok (ts ++ l)
  | [] => rfl
  | t :: ts => by
    show consT t (appT ts (.ok l)) = _
    rw [appT_ok l ts]
    rfl
theorem one_eol (s : Bs) : oneN 10 s = ⟨5, [10], 1, 0⟩ := rfl
theorem skip_bl {c : UInt8} (h : blankB c = true) (s : Bs) : skipN (c :: s) = ((skipN s).1 + 1, (skipN s).2) := by rw [skipN_cons, if_pos h]
theorem skip_star (s : Bs) : skipN (47 :: 42 :: s) = match endN s with
    | none => (0, 40)
    | some i => ((skipN ((47 :: 42 :: s).drop (i + 4))).1 + (i + 4), (skipN ((47 :: 42 :: s).drop (i + 4))).2) := by
  rw [skipN_cons, if_neg (show ¬ blankB 47 = true by decide), if_neg (show ¬ ((47 : UInt8) == 35 || ((47 : UInt8) == 47 && (42 :: s).head? == some 47)) = true by simp), if_pos (show ((47 : UInt8) == 47 && (42 :: s).head? == some 42) = true by simp)]
  rfl
theorem skip_sl (s : Bs) : skipN (47 :: 47 :: s) = ((skipN ((47 :: 47 :: s).drop (runN (· != 10) (47 :: 47 :: s)))).1 + runN (· != 10) (47 :: 47 :: s), (skipN ((47 :: 47 :: s).drop (runN (· != 10) (47 :: 47 :: s)))).2) := by
  rw [skipN_cons, if_neg (show ¬ blankB 47 = true by decide), if_pos (show ((47 : UInt8) == 35 || ((47 : UInt8) == 47 && (47 :: s).head? == some 47)) = true by simp)]
theorem scan_gapT : ∀ (d : Nat), d < 8 → ∀ (s : Bs) (a k : Nat), k < 4096 → scanN (gapT d ++ s) a k = appT (lineK d (a + (gapT d).length)) (scanN s (a + (gapT d).length) (k + (lineK d (a + (gapT d).length)).length))
  | 0, _, s, a, k, _ => scan_gap (g := [32]) (s := s) (by exact skip_bl rfl s) a k
  | 1, _, s, a, k, _ => scan_gap (g := [9]) (s := s) (by exact skip_bl rfl s) a k
  | 2, _, s, a, k, _ => scan_gap (g := [13, 32]) (s := s) (by show skipN (13 :: 32 :: s) = _; rw [skip_bl rfl, skip_bl rfl]; rfl) a k
  | 3, _, s, a, k, _ => scan_gap (g := [47, 42, 42, 47]) (s := s) (by
      show skipN (47 :: 42 :: 42 :: 47 :: s) = _
      rw [skip_star]
      rfl) a k
  | 4, _, s, a, k, _ => scan_gap (g := [32, 47, 42, 32, 34, 32, 42, 47]) (s := s) (by
      show skipN (32 :: 47 :: 42 :: 32 :: 34 :: 32 :: 42 :: 47 :: s) = _
      rw [skip_bl rfl, skip_star]
      rfl) a k
  | 5, _, s, a, k, _ => scan_gap (g := [47, 42, 10, 42, 47]) (s := s) (by
      show skipN (47 :: 42 :: 10 :: 42 :: 47 :: s) = _
      rw [skip_star]
      rfl) a k
  | 6, _, s, a, k, _ => scan_gap (g := [32, 32]) (s := s) (by show skipN (32 :: 32 :: s) = _; rw [skip_bl rfl, skip_bl rfl]; rfl) a k
  | 7, _, s, a, k, hk => by
    have h1 : scanN ([32, 47, 47, 120] ++ (10 :: s)) a k = scanN (10 :: s) (a + 4) k := scan_gap (g := [32, 47, 47, 120]) (s := 10 :: s) (by
      show skipN (32 :: 47 :: 47 :: 120 :: 10 :: s) = _
      rw [skip_bl rfl, skip_sl]
      rfl) a k
    have h2 : scanN (10 :: ([] ++ s)) (a + 4) k = consT (5, [10], a + 4) (scanN s (a + 4 + (([] : Bs).length + 1)) (k + 1)) :=
      scan_piece (skip_none rfl (by decide) (by decide) _) (one_eol _) _ _ hk
    show scanN ([32, 47, 47, 120] ++ (10 :: s)) a k = _
    rw [h1]
    exact h2
  | d + 8, h, _, _, _, _ => by omega
theorem gap_len (d : Nat) (h : d < 8) : 1 ≤ (gapT d).length ∧ (gapT d).length ≤ 8 := by
  match d, h with
  | 0, _ => decide
  | 1, _ => decide
  | 2, _ => decide
  | 3, _ => decide
  | 4, _ => decide
  | 5, _ => decide
  | 6, _ => decide
  | 7, _ => decide
def firstG (e : UInt8) : Prop := e = 32 ∨ e = 9 ∨ e = 13 ∨ e = 47
theorem gap_first (d : Nat) (h : d < 8) : ∃ e r, gapT d = e :: r ∧ firstG e := by
  match d, h with
  | 0, _ => exact ⟨_, _, rfl, .inl rfl⟩
  | 1, _ => exact ⟨_, _, rfl, .inr (.inl rfl)⟩
  | 2, _ => exact ⟨_, _, rfl, .inr (.inr (.inl rfl))⟩
  | 3, _ => exact ⟨_, _, rfl, .inr (.inr (.inr rfl))⟩
  | 4, _ => exact ⟨_, _, rfl, .inl rfl⟩
  | 5, _ => exact ⟨_, _, rfl, .inr (.inr (.inr rfl))⟩
  | 6, _ => exact ⟨_, _, rfl, .inl rfl⟩
  | 7, _ => exact ⟨_, _, rfl, .inl rfl⟩
theorem gap_ascii (d : Nat) (h : d < 8) : asciiB (gapT d) = true := by
  match d, h with
  | 0, _ => rfl
  | 1, _ => rfl
  | 2, _ => rfl
  | 3, _ => rfl
  | 4, _ => rfl
  | 5, _ => rfl
  | 6, _ => rfl
  | 7, _ => rfl
theorem lineK_len (d e : Nat) : (lineK d e).length ≤ 1 := by unfold lineK; split <;> simp

/-- A piece that stands for one token where a gap follows. -/
def PieceOk (kd : Int) (p : Bs) : Prop :=
  ∃ c p', p = c :: p' ∧ ∀ e s, firstG e → skipN (c :: (p' ++ e :: s)) = (0, 0) ∧ oneN c (p' ++ e :: s) = ⟨kd, p, p'.length + 1, 0⟩
def putT (d : Nat) (st : Bs × List Tok) (kd : Int) (p : Bs) : Bs × List Tok :=
  (st.1 ++ (p ++ gapT d), st.2 ++ (kd, p, st.1.length) :: lineK d (st.1.length + p.length + (gapT d).length))
def GoodC (st : Bs × List Tok) : Prop := ∀ s, scanN (st.1 ++ s) 0 0 = appT st.2 (scanN s st.1.length st.2.length)
theorem good_put {d : Nat} (hd : d < 8) {st : Bs × List Tok} (h : GoodC st) {kd : Int} {p : Bs} (hp : PieceOk kd p) (hl : st.2.length + 1 < 4096) : GoodC (putT d st kd p) := by
  intro s
  obtain ⟨c, p', rfl, hq⟩ := hp
  obtain ⟨e, g, hg, he⟩ := gap_first d hd
  obtain ⟨q1, q2⟩ := hq e (g ++ s) he
  show scanN ((st.1 ++ (c :: p' ++ gapT d)) ++ s) 0 0 = appT (st.2 ++ (kd, c :: p', st.1.length) :: lineK d (st.1.length + (c :: p').length + (gapT d).length)) (scanN s (st.1 ++ (c :: p' ++ gapT d)).length (st.2 ++ (kd, c :: p', st.1.length) :: lineK d (st.1.length + (c :: p').length + (gapT d).length)).length)
  rw [List.append_assoc, h, appT_app]
  have e1 : (c :: p' ++ gapT d) ++ s = c :: (p' ++ e :: (g ++ s)) := by rw [hg]; simp
  rw [e1, scan_piece q1 q2 _ _ (by omega), ← List.cons_append, ← hg, scan_gapT d hd _ _ _ (by omega)]
  show appT st.2 (appT ((kd, c :: p', st.1.length) :: lineK d _) _) = _
  simp only [List.length_append, List.length_cons]
  congr 3
  · omega
  · omega
theorem put_len (d : Nat) (hd : d < 8) (st : Bs × List Tok) (kd : Int) (p : Bs) : (putT d st kd p).2.length ≤ st.2.length + 2 ∧ (putT d st kd p).1.length ≤ st.1.length + p.length + 8 := by
  have h1 := lineK_len d (st.1.length + p.length + (gapT d).length)
  have h2 := gap_len d hd
  unfold putT
  simp only [List.length_append, List.length_cons]
  omega
theorem put_ascii (d : Nat) (hd : d < 8) {st : Bs × List Tok} (h : asciiB st.1 = true) (kd : Int) {p : Bs} (hp : asciiB p = true) : asciiB (putT d st kd p).1 = true := by
  unfold putT
  simp only [ascii_app, h, hp, gap_ascii d hd, Bool.and_self]

def pc1 (i : Nat) : Bs := [110, 45, UInt8.ofNat (97 + i % 26)]
def pc2 (i : Nat) : Bs := [UInt8.ofNat (49 + i % 9), UInt8.ofNat (48 + i / 10)]
def pc3 (i : Nat) : Bs :=
  match i % 5 with
  | 0 => [61, 61]
  | 1 => [61]
  | 2 => [60, 61]
  | 3 => [60]
  | _ => [33]
theorem c26 : ∀ j, j < 26 → letB (UInt8.ofNat (97 + j)) = true ∧ (decide (UInt8.ofNat (97 + j) < 128)) = true := by decide
theorem c9 : ∀ j, j < 9 → (UInt8.ofNat (49 + j) ≠ 10 ∧ letB (UInt8.ofNat (49 + j)) = false ∧ digB (UInt8.ofNat (49 + j)) = true ∧ UInt8.ofNat (49 + j) ≠ 48) ∧ (blankB (UInt8.ofNat (49 + j)) = false ∧ UInt8.ofNat (49 + j) ≠ 35 ∧ UInt8.ofNat (49 + j) ≠ 47) ∧ (decide (UInt8.ofNat (49 + j) < 128)) = true := by decide
theorem c10 : ∀ j, j < 10 → digB (UInt8.ofNat (48 + j)) = true ∧ (decide (UInt8.ofNat (48 + j) < 128)) = true := by decide
theorem ok1 (i : Nat) : PieceOk 1 (pc1 i) := by
  obtain ⟨h, _⟩ := c26 (i % 26) (Nat.mod_lt _ (by decide))
  refine ⟨110, [45, UInt8.ofNat (97 + i % 26)], rfl, fun e s he => ⟨skip_none rfl (by decide) (by decide) _, ?_⟩⟩
  unfold pc1
  generalize UInt8.ofNat (97 + i % 26) = x at h
  have hx : namB x = true := by unfold namB; rw [h]; rfl
  have hn : namB e = false := by rcases he with rfl | rfl | rfl | rfl <;> rfl
  have hr : runN namB (110 :: ([45, x] ++ e :: s)) = 3 := by
    show runN namB (110 :: 45 :: x :: e :: s) = 3
    rw [runN, if_pos (show namB 110 = true from rfl), runN, if_pos (show namB 45 = true from rfl), runN, if_pos hx, runN, if_neg (by rw [hn]; decide)]
  unfold oneN
  rw [if_neg (by decide), if_pos (show letB 110 = true from rfl), hr]
  rfl
theorem ok2 (i : Nat) (hi : i < 100) : PieceOk 2 (pc2 i) := by
  obtain ⟨⟨h1, h2, h3, h4⟩, ⟨h5, h6, h7⟩, _⟩ := c9 (i % 9) (Nat.mod_lt _ (by decide))
  obtain ⟨g1, _⟩ := c10 (i / 10) (by omega)
  refine ⟨UInt8.ofNat (49 + i % 9), [UInt8.ofNat (48 + i / 10)], rfl, fun e s he => ⟨skip_none h5 h6 h7 _, ?_⟩⟩
  unfold pc2
  generalize UInt8.ofNat (49 + i % 9) = x at *
  generalize UInt8.ofNat (48 + i / 10) = y at *
  have hn : digB e = false := by rcases he with rfl | rfl | rfl | rfl <;> rfl
  have hm : letB e = false := by rcases he with rfl | rfl | rfl | rfl <;> rfl
  have hr : runN digB (x :: ([y] ++ e :: s)) = 2 := by
    show runN digB (x :: y :: e :: s) = 2
    rw [runN, if_pos h3, runN, if_pos g1, runN, if_neg (by rw [hn]; decide)]
  unfold oneN
  rw [if_neg h1, if_neg (by rw [h2]; decide), if_pos h3, hr]
  have hc : ¬ (letB e = true ∨ (x = 48 ∧ 1 < 2)) := by
    rw [hm]
    rintro (h | h)
    · cases h
    · exact h4 h.1
  refine congrArg (Tk.mk 2 [x, y] 2) ?_
  refine Eq.trans (if_neg ?_) rfl
  exact hc
theorem ok3 (i : Nat) : PieceOk 4 (pc3 i) := by
  have h5 : i % 5 < 5 := Nat.mod_lt _ (by decide)
  unfold pc3
  generalize i % 5 = j at h5
  match j, h5 with
  | 0, _ =>
    refine ⟨61, [61], rfl, fun e s he => ⟨skip_none rfl (by decide) (by decide) _, ?_⟩⟩
    rfl
  | 1, _ =>
    refine ⟨61, [], rfl, fun e s he => ⟨skip_none rfl (by decide) (by decide) _, ?_⟩⟩
    rcases he with rfl | rfl | rfl | rfl <;> rfl
  | 2, _ =>
    refine ⟨60, [61], rfl, fun e s he => ⟨skip_none rfl (by decide) (by decide) _, ?_⟩⟩
    rfl
  | 3, _ =>
    refine ⟨60, [], rfl, fun e s he => ⟨skip_none rfl (by decide) (by decide) _, ?_⟩⟩
    rcases he with rfl | rfl | rfl | rfl <;> rfl
  | 4, _ =>
    refine ⟨33, [], rfl, fun e s he => ⟨skip_none rfl (by decide) (by decide) _, ?_⟩⟩
    rcases he with rfl | rfl | rfl | rfl <;> rfl

/-- The text and the tokens of LexCounts behind i rounds. -/
def stC (d : Nat) : Nat → Bs × List Tok
  | 0 => ([], [])
  | i + 1 => putT d (putT d (putT d (stC d i) 1 (pc1 i)) 2 (pc2 i)) 4 (pc3 i)
theorem pc3_len (i : Nat) : (pc3 i).length ≤ 2 := by unfold pc3; split <;> decide
theorem asc1 (i : Nat) : asciiB (pc1 i) = true := by
  have h := (c26 (i % 26) (Nat.mod_lt _ (by decide))).2
  unfold asciiB pc1
  rw [List.all_cons, List.all_cons, List.all_cons, h]
  rfl
theorem asc2 (i : Nat) (hi : i < 100) : asciiB (pc2 i) = true := by
  have h := (c9 (i % 9) (Nat.mod_lt _ (by decide))).2.2
  have g := (c10 (i / 10) (by omega)).2
  unfold asciiB pc2
  rw [List.all_cons, List.all_cons, h, g]
  rfl
theorem asc3 (i : Nat) : asciiB (pc3 i) = true := by unfold pc3; split <;> rfl
theorem stC_good (d : Nat) (hd : d < 8) : ∀ i, i ≤ 100 → GoodC (stC d i) ∧ (stC d i).2.length ≤ 6 * i ∧ (stC d i).1.length ≤ 31 * i ∧ asciiB (stC d i).1 = true
  | 0, _ => ⟨fun s => rfl, Nat.le_refl _, Nat.le_refl _, rfl⟩
  | i + 1, h => by
    obtain ⟨hg, h2, h1, ha⟩ := stC_good d hd i (by omega)
    obtain ⟨a2, a1⟩ := put_len d hd (stC d i) 1 (pc1 i)
    obtain ⟨b2, b1⟩ := put_len d hd (putT d (stC d i) 1 (pc1 i)) 2 (pc2 i)
    obtain ⟨c2, c1⟩ := put_len d hd (putT d (putT d (stC d i) 1 (pc1 i)) 2 (pc2 i)) 4 (pc3 i)
    have l1 : (pc1 i).length = 3 := rfl
    have l2 : (pc2 i).length = 2 := rfl
    have l3 := pc3_len i
    refine ⟨good_put hd (good_put hd (good_put hd hg (ok1 i) (by omega)) (ok2 i (by omega)) (by omega)) (ok3 i) (by omega), ?_, ?_, put_ascii d hd (put_ascii d hd (put_ascii d hd ha 1 (asc1 i)) 2 (asc2 i (by omega))) 4 (asc3 i)⟩
    · show (putT d _ 4 (pc3 i)).2.length ≤ _
      omega
    · show (putT d _ 4 (pc3 i)).1.length ≤ _
      omega
/-- What LexCounts asks. -/
theorem counts (d n : Nat) (hd : d < 8) (hn : n ≤ 100) : scanP (stC d n).1 = .ok ((stC d n).2 ++ [(0, [], (stC d n).1.length)]) := by
  obtain ⟨hg, _, h1, ha⟩ := stC_good d hd n hn
  rw [scanP_ascii ha (by omega)]
  have := hg []
  rw [List.append_nil] at this
  rw [this, scan_nil, appT_ok]

end Go.Proofs.YtgmgmjddadgkkaaDoor
