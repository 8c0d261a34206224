/- Plain: what LexHeredocs asks. -/
import Derived.Test.YtgmgmjddadgkkaaDoorLexU
namespace Go.Proofs.YtgmgmjddadgkkaaDoor
open Go

/-- A byte as it would stand between quotes. -/
def plnB (c : UInt8) : Bs :=
  if c = 92 ∨ c = 34 ∨ c = 36 then [92, c]
  else if c = 10 then [92, 110]
  else if c = 9 then [92, 116]
  else if c = 13 then [92, 114]
  else [c]
def plnT (l : Bs) : Bs := l.flatMap plnB
def LineOk (b : Bs) : Prop := b.length ≤ 101 ∧ (∀ c ∈ b, c ≠ 10 ∧ c < 128) ∧ ∃ c r, b = c :: r ∧ c ≠ 32 ∧ c ≠ 9 ∧ c ≠ 69
def bodyT (L : List Bs) : Bs := L.flatMap (· ++ [10])
def quotT (L : List Bs) : Bs := L.flatMap (fun b => plnT b ++ [92, 110])

theorem enc_ascii : ∀ c : UInt8, c < 128 → Lib.encodeRune c.toNat = [c] := by
  intro c h
  have : ∀ n : Fin 128, Lib.encodeRune n.val = [UInt8.ofNat n.val] := by decide
  have hn : c.toNat < 128 := by simpa [UInt8.lt_iff_toNat_lt] using h
  have := this ⟨c.toNat, hn⟩
  rw [this, UInt8.ofNat_toNat]
theorem esc_one (c : UInt8) (h : c < 128) (h10 : c ≠ 10) : escR c.toNat = plnB c := by
  have e : ∀ k : UInt8, (c.toNat = k.toNat ↔ c = k) := fun k => UInt8.toNat_inj
  unfold escR plnB
  rw [enc_ascii c h]
  have e1 := e 92
  have e2 := e 34
  have e3 := e 36
  have e4 := e 9
  have e5 := e 13
  simp only [show (92 : UInt8).toNat = 92 from rfl, show (34 : UInt8).toNat = 34 from rfl, show (36 : UInt8).toNat = 36 from rfl, show (9 : UInt8).toNat = 9 from rfl, show (13 : UInt8).toNat = 13 from rfl] at e1 e2 e3 e4 e5
  simp only [e1, e2, e3, e4, e5, h10, if_false]
theorem esc_from (l : Bs) (h : ∀ c ∈ l, c ≠ 10 ∧ c < 128) : ∀ (f pos : Nat), l.length ≤ pos + f → escF ⟨l.toArray⟩ f pos = plnT (l.drop pos)
  | 0, pos, hf => by
    rw [List.drop_eq_nil_of_le (by omega)]
    rfl
  | f + 1, pos, hf => by
    rw [escF]
    by_cases hp : pos < l.length
    · have hp' : pos < (ByteArray.mk l.toArray).size := by
        show pos < l.toArray.size
        simpa using hp
      have hg : (ByteArray.mk l.toArray)[pos]'hp' = l[pos] := by
        show l.toArray[pos] = _
        simp
      obtain ⟨h10, h128⟩ := h l[pos] (List.getElem_mem _)
      have hc : ((ByteArray.mk l.toArray)[pos]'hp').toNat < 128 := by
        rw [hg]
        simpa [UInt8.lt_iff_toNat_lt] using h128
      rw [if_pos hp', decode_ascii _ pos hp' hc, hg]
      simp only
      rw [esc_one _ h128 h10, esc_from l h f (pos + 1) (by omega), List.drop_eq_getElem_cons hp]
      rfl
    · have hp' : ¬ pos < (ByteArray.mk l.toArray).size := by
        show ¬ pos < l.toArray.size
        simpa using hp
      rw [if_neg hp', List.drop_eq_nil_of_le (by omega)]
      rfl
theorem esc_line {l : Bs} (h : ∀ c ∈ l, c ≠ 10 ∧ c < 128) : escL l = plnT l := by
  unfold escL
  rw [esc_from l h l.length 0 (by omega), List.drop_zero]

theorem tw_line (b s : Bs) (h : ∀ c ∈ b, c ≠ 10 ∧ c < 128) : (b ++ 10 :: s).takeWhile (· != 10) = b := by
  rw [List.takeWhile_append_of_pos (fun c hc => by simpa using (h c hc).1), List.takeWhile_cons]
  simp
theorem ltrim {b : Bs} (h : ∃ c r, b = c :: r ∧ c ≠ 32 ∧ c ≠ 9 ∧ c ≠ 69) : b.dropWhile (fun c => c == 32 || c == 9) = b := by
  obtain ⟨c, r, rfl, h1, h2, _⟩ := h
  rw [List.dropWhile_cons, if_neg (by simp [h1, h2])]
theorem hd_lines : ∀ (L : List Bs) (f : Nat), (∀ b ∈ L, LineOk b) → L.length < f → hdF [69, 78, 68] f (bodyT L ++ [32, 9, 69, 78, 68]) = some (quotT L, (bodyT L).length + 5)
  | _, 0, _, hf => by omega
  | [], f + 1, _, _ => rfl
  | b :: L, f + 1, h, hf => by
    obtain ⟨_, h1, h2⟩ := h b (by simp)
    have e : bodyT (b :: L) ++ [32, 9, 69, 78, 68] = b ++ 10 :: (bodyT L ++ [32, 9, 69, 78, 68]) := by
      unfold bodyT
      rw [List.flatMap_cons]
      simp
    have hn : b ≠ [69, 78, 68] := by
      obtain ⟨c, r, rfl, _, _, h3⟩ := h2
      intro hc
      injection hc with hc
      exact h3 hc
    rw [e, hdF, tw_line b _ h1, ltrim h2, if_neg hn, if_neg (by rw [List.length_append, List.length_cons]; omega)]
    have ed : (b ++ 10 :: (bodyT L ++ [32, 9, 69, 78, 68])).drop (b.length + 1) = bodyT L ++ [32, 9, 69, 78, 68] := by
      rw [← List.drop_drop, List.drop_left]
      rfl
    rw [ed]
    rw [hd_lines L f (fun b hb => h b (List.mem_cons_of_mem _ hb)) (by simp only [List.length_cons] at hf; omega)]
    simp only [esc_line h1]
    have e2 : quotT (b :: L) = plnT b ++ [92, 110] ++ quotT L := rfl
    have e3 : (bodyT (b :: L)).length = (bodyT L).length + (b.length + 1) := by
      unfold bodyT
      rw [List.flatMap_cons, List.length_append, List.length_append]
      simp only [List.length_cons, List.length_nil]
      omega
    rw [e2, e3]
    congr 2
    omega
theorem hd_none : ∀ (L : List Bs) (f : Nat), (∀ b ∈ L, LineOk b) → hdF [69, 78, 68] f (bodyT L) = none
  | _, 0, _ => rfl
  | [], f + 1, _ => rfl
  | b :: L, f + 1, h => by
    obtain ⟨_, h1, h2⟩ := h b (by simp)
    have e : bodyT (b :: L) = b ++ 10 :: bodyT L := by
      unfold bodyT
      rw [List.flatMap_cons]
      simp
    have hn : b ≠ [69, 78, 68] := by
      obtain ⟨c, r, rfl, _, _, h3⟩ := h2
      intro hc
      injection hc with hc
      exact h3 hc
    rw [e, hdF, tw_line b _ h1, ltrim h2, if_neg hn, if_neg (by rw [List.length_append, List.length_cons]; omega)]
    have ed : (b ++ 10 :: bodyT L).drop (b.length + 1) = bodyT L := by
      rw [← List.drop_drop, List.drop_left]
      rfl
    rw [ed]
    rw [hd_none L f (fun b hb => h b (List.mem_cons_of_mem _ hb))]
theorem body_ge : ∀ L : List Bs, L.length ≤ (bodyT L).length
  | [] => Nat.le_refl _
  | b :: L => by
    have := body_ge L
    unfold bodyT at this ⊢
    rw [List.flatMap_cons, List.length_append, List.length_append]
    simp only [List.length_cons, List.length_nil]
    omega
theorem body_le : ∀ L : List Bs, (∀ b ∈ L, LineOk b) → (bodyT L).length ≤ 102 * L.length
  | [], _ => Nat.le_refl _
  | b :: L, h => by
    have := body_le L (fun b hb => h b (List.mem_cons_of_mem _ hb))
    have hb := (h b (by simp)).1
    unfold bodyT at this ⊢
    rw [List.flatMap_cons, List.length_append, List.length_append]
    simp only [List.length_cons, List.length_nil]
    omega
theorem pln_le : ∀ l : Bs, (plnT l).length ≤ 2 * l.length
  | [] => Nat.le_refl _
  | c :: r => by
    have := pln_le r
    have hc : (plnB c).length ≤ 2 := by
      unfold plnB
      repeat' split
      all_goals simp
    unfold plnT at this ⊢
    rw [List.flatMap_cons, List.length_append, List.length_cons]
    omega
theorem quot_le : ∀ L : List Bs, (∀ b ∈ L, LineOk b) → (quotT L).length ≤ 204 * L.length
  | [], _ => Nat.le_refl _
  | b :: L, h => by
    have := quot_le L (fun b hb => h b (List.mem_cons_of_mem _ hb))
    have hb := (h b (by simp)).1
    have hp := pln_le b
    unfold quotT at this ⊢
    rw [List.flatMap_cons, List.length_append, List.length_append]
    simp only [List.length_cons, List.length_nil]
    omega
theorem asc_pln : ∀ l : Bs, (∀ c ∈ l, c ≠ 10 ∧ c < 128) → asciiB (plnT l) = true
  | [], _ => rfl
  | c :: r, h => by
    have hr := asc_pln r (fun x hx => h x (List.mem_cons_of_mem _ hx))
    have hc : asciiB (plnB c) = true := by
      have h1 := (h c (by simp)).2
      unfold plnB asciiB
      repeat' split
      all_goals simp [h1]
    have e : plnT (c :: r) = plnB c ++ plnT r := rfl
    rw [e, ascii_app, hc, hr]
    rfl
theorem asc_quot : ∀ L : List Bs, (∀ b ∈ L, LineOk b) → asciiB (quotT L) = true
  | [], _ => rfl
  | b :: L, h => by
    have := asc_quot L (fun b hb => h b (List.mem_cons_of_mem _ hb))
    have e : quotT (b :: L) = plnT b ++ [92, 110] ++ quotT L := rfl
    rw [e, ascii_app, ascii_app, asc_pln b (h b (by simp)).2.1, this]
    rfl
theorem asc_body : ∀ L : List Bs, (∀ b ∈ L, LineOk b) → asciiB (bodyT L) = true
  | [], _ => rfl
  | b :: L, h => by
    have := asc_body L (fun b hb => h b (List.mem_cons_of_mem _ hb))
    have e : bodyT (b :: L) = (b ++ [10]) ++ bodyT L := rfl
    have hb : asciiB b = true := by
      unfold asciiB
      rw [List.all_eq_true]
      intro c hc
      simpa using ((h b (by simp)).2.1 c hc).2
    rw [e, ascii_app, ascii_app, hb, this]
    rfl

theorem tx_plnB (c : UInt8) (s : Bs) (h10 : c ≠ 10) : tx (plnB c ++ s) 0 = addN (plnB c).length (tx s 0) := by
  unfold plnB
  split
  · next h =>
    show tx (92 :: c :: s) 0 = addN 2 (tx s 0)
    rw [tx_cons, if_neg (by decide), if_neg (by decide), if_pos rfl, if_pos (by rcases h with rfl | rfl | rfl <;> rfl)]
    rfl
  · next h =>
    split
    · show tx (92 :: 116 :: s) 0 = addN 2 (tx s 0)
      rw [tx_cons, if_neg (by decide), if_neg (by decide), if_pos rfl, if_pos (by rfl)]
      rfl
    split
    · show tx (92 :: 114 :: s) 0 = addN 2 (tx s 0)
      rw [tx_cons, if_neg (by decide), if_neg (by decide), if_pos rfl, if_pos (by rfl)]
      rfl
    · show tx (c :: s) 0 = addN 1 (tx s 0)
      rw [tx_cons, if_neg (fun e => h (.inr (.inl e))), if_neg h10, if_neg (fun e => h (.inl e)), if_neg]
      simp only [Bool.and_eq_true, beq_iff_eq]
      exact fun e => h (.inr (.inr e.1))
theorem tx_plnT (s : Bs) (m : Nat) (hs : tx s 0 = (m, 0)) : ∀ l : Bs, (∀ c ∈ l, c ≠ 10 ∧ c < 128) → tx (plnT l ++ s) 0 = (m + (plnT l).length, 0)
  | [], _ => hs
  | c :: r, h => by
    have e : plnT (c :: r) = plnB c ++ plnT r := rfl
    rw [e, List.append_assoc, tx_plnB _ _ (h c (by simp)).1, tx_plnT s m hs r (fun x hx => h x (List.mem_cons_of_mem _ hx)), addN_zero _ rfl, List.length_append]
    simp only
    congr 1
    omega
theorem tx_quot : ∀ L : List Bs, (∀ b ∈ L, LineOk b) → tx (quotT L ++ [34]) 0 = ((quotT L).length + 1, 0)
  | [], _ => rfl
  | b :: L, h => by
    have ih := tx_quot L (fun b hb => h b (List.mem_cons_of_mem _ hb))
    have e : quotT (b :: L) ++ [34] = plnT b ++ (92 :: 110 :: (quotT L ++ [34])) := by
      show (plnT b ++ [92, 110]) ++ quotT L ++ [34] = _
      simp
    have h2 : tx (92 :: 110 :: (quotT L ++ [34])) 0 = ((quotT L).length + 1 + 2, 0) := by
      rw [tx_cons, if_neg (by decide), if_neg (by decide), if_pos rfl, if_pos (by rfl)]
      show addN 2 (tx (quotT L ++ [34]) 0) = _
      rw [ih, addN_zero _ rfl]
    have e2 : (quotT (b :: L)).length = (plnT b).length + 2 + (quotT L).length := by
      show ((plnT b ++ [92, 110]) ++ quotT L).length = _
      rw [List.length_append, List.length_append]
      rfl
    rw [e, tx_plnT _ _ h2 b (h b (by simp)).2.1, e2]
    congr 1
    omega
theorem one_quot {q : Bs} (h : tx (q ++ [34]) 0 = (q.length + 1, 0)) : oneN 34 (q ++ [34]) = ⟨3, q, q.length + 2, 0⟩ := by
  unfold oneN
  rw [if_neg (by decide), if_neg (by decide), if_neg (by decide), if_pos rfl]
  show (if (tx (q ++ [34]) 0).2 = 0 then (⟨3, (q ++ [34]).take ((tx (q ++ [34]) 0).1 - 1), (tx (q ++ [34]) 0).1 + 1, 0⟩ : Tk) else ⟨0, [], 0, (tx (q ++ [34]) 0).2⟩) = _
  rw [h, if_pos rfl]
  simp only [Nat.add_sub_cancel, List.take_left]
theorem one_here0 {r : Bs} (x : Option (Bs × Nat)) (h : hdF [69, 78, 68] (r.length + 1) r = x) : oneN 60 (60 :: 69 :: 78 :: 68 :: 10 :: r) =
    match x with
    | none => ⟨3, [], 0, 40⟩
    | some x => ⟨3, x.1, x.2 + 6, 0⟩ := by
  have hn : nameN (69 :: 78 :: 68 :: 10 :: r) = 3 := by
    show (if letB 69 = true then runN namB (69 :: 78 :: 68 :: 10 :: r) else 0) = 3
    rw [if_pos (show letB 69 = true from rfl)]
    rw [runN, if_pos (show namB 69 = true from rfl), runN, if_pos (show namB 78 = true from rfl), runN, if_pos (show namB 68 = true from rfl), runN, if_neg (show ¬ namB 10 = true by decide)]
  have hh : hereN (60 :: 60 :: 69 :: 78 :: 68 :: 10 :: r) = x.map (fun x => (x.1, x.2 + 6)) := by
    unfold hereN
    show (if nameN (69 :: 78 :: 68 :: 10 :: r) = 0 then none else match (60 :: 60 :: 69 :: 78 :: 68 :: 10 :: r).drop (2 + nameN (69 :: 78 :: 68 :: 10 :: r)) with
      | [] => none
      | c :: r' => if c = 10 then (hdF ((69 :: 78 :: 68 :: 10 :: r).take (nameN (69 :: 78 :: 68 :: 10 :: r))) (r'.length + 1) r').map (fun x => (x.1, x.2 + (2 + nameN (69 :: 78 :: 68 :: 10 :: r) + 1))) else none) = _
    rw [hn, if_neg (by decide)]
    show (hdF [69, 78, 68] (r.length + 1) r).map (fun x => (x.1, x.2 + 6)) = _
    rw [h]
  unfold oneN
  rw [if_neg (by decide), if_neg (by decide), if_neg (by decide), if_neg (by decide), if_pos (by simp), hh]
  cases x <;> rfl

/-- What LexHeredocs asks. -/
theorem here_doc (L : List Bs) (h : ∀ b ∈ L, LineOk b) (hl : L.length ≤ 40) :
    scanP ([60, 60, 69, 78, 68, 10] ++ bodyT L ++ [32, 9, 69, 78, 68]) = .ok [(3, quotT L, 0), (0, [], (bodyT L).length + 11)] := by
  have hb := body_le L h
  have ha : asciiB ([60, 60, 69, 78, 68, 10] ++ bodyT L ++ [32, 9, 69, 78, 68]) = true := by
    rw [ascii_app, ascii_app, asc_body L h]
    rfl
  rw [scanP_ascii ha (by simp only [List.length_append, List.length_cons, List.length_nil]; omega)]
  have h1 := one_here0 _ (hd_lines L ((bodyT L ++ [32, 9, 69, 78, 68]).length + 1) h (by have := body_ge L; rw [List.length_append]; simp only [List.length_cons]; omega))
  have h2 : scanN (60 :: ((60 :: 69 :: 78 :: 68 :: 10 :: (bodyT L ++ [32, 9, 69, 78, 68])) ++ [])) 0 0 = consT (3, quotT L, 0) (scanN [] (0 + ((60 :: 69 :: 78 :: 68 :: 10 :: (bodyT L ++ [32, 9, 69, 78, 68])).length + 1)) (0 + 1)) := by
    refine scan_piece (skip_none rfl (by decide) (by decide) _) ?_ 0 0 (by decide)
    rw [List.append_nil, h1]
    simp only [List.length_cons, List.length_append]
    congr 1
  have e : [60, 60, 69, 78, 68, 10] ++ bodyT L ++ [32, 9, 69, 78, 68] = 60 :: ((60 :: 69 :: 78 :: 68 :: 10 :: (bodyT L ++ [32, 9, 69, 78, 68])) ++ []) := by simp
  rw [e, h2, scan_nil]
  simp only [consT, List.length_cons, List.length_append, List.length_nil]
  congr 5
  omega
theorem here_quot (L : List Bs) (h : ∀ b ∈ L, LineOk b) (hl : L.length ≤ 40) :
    scanP ([34] ++ quotT L ++ [34]) = .ok [(3, quotT L, 0), (0, [], (quotT L).length + 2)] := by
  have hb := quot_le L h
  have ha : asciiB ([34] ++ quotT L ++ [34]) = true := by
    rw [ascii_app, ascii_app, asc_quot L h]
    rfl
  rw [scanP_ascii ha (by simp only [List.length_append, List.length_cons, List.length_nil]; omega)]
  have h2 : scanN (34 :: ((quotT L ++ [34]) ++ [])) 0 0 = consT (3, quotT L, 0) (scanN [] (0 + ((quotT L ++ [34]).length + 1)) (0 + 1)) := by
    refine scan_piece (skip_none rfl (by decide) (by decide) _) ?_ 0 0 (by decide)
    rw [List.append_nil, one_quot (tx_quot L h), List.length_append]
    rfl
  have e : [34] ++ quotT L ++ [34] = 34 :: ((quotT L ++ [34]) ++ []) := by simp
  rw [e, h2, scan_nil]
  simp only [consT, List.length_cons, List.length_append, List.length_nil]
  congr 5
  omega
theorem here_open (L : List Bs) (h : ∀ b ∈ L, LineOk b) (hl : L.length ≤ 40) :
    scanP ([60, 60, 69, 78, 68, 10] ++ bodyT L) = .error (40, 0) := by
  have hb := body_le L h
  have ha : asciiB ([60, 60, 69, 78, 68, 10] ++ bodyT L) = true := by
    rw [ascii_app, asc_body L h]
    rfl
  rw [scanP_ascii ha (by simp only [List.length_append, List.length_cons, List.length_nil]; omega)]
  have h1 := one_here0 _ (hd_none L ((bodyT L).length + 1) h)
  show scanN (60 :: 60 :: 69 :: 78 :: 68 :: 10 :: bodyT L) 0 0 = _
  rw [scanN_eq, skip_none rfl (by decide) (by decide)]
  simp only [ne_eq, not_true, if_false, List.drop_zero, h1]
  rfl

end Go.Proofs.YtgmgmjddadgkkaaDoor
