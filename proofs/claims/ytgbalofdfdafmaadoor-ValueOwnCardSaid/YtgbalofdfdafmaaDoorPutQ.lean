/- What the document's Put builds: a key put ahead of the first greater one, or behind all. -/
import Derived.Test.YtgbalofdfdafmaaDoorDropP
namespace Go.Proofs.YtgbalofdfdafmaaDoor
open Go.RowKit

/-- Has the key been put, behind these? -/
def insP (key : List UInt8) (ks : List (List UInt8)) : Bool := ks.any fun k => ltS key k
def insA (key : List UInt8) : List (List UInt8) → List (List UInt8)
  | [] => []
  | k :: r => if ltS key k = true then key :: k :: r else k :: insA key r
def insT (key : List UInt8) (x : VT) : List (List UInt8) → List VT → List VT
  | k :: r, t :: s => if ltS key k = true then x :: t :: s else t :: insT key x r s
  | [], _ => []
  | _ :: _, [] => []
theorem insP_snoc (key k : List UInt8) (l : List (List UInt8)) : insP key (l ++ [k]) = (insP key l || ltS key k) := by simp [insP]
theorem insA_snoc (key k : List UInt8) : ∀ (l : List (List UInt8)), insA key (l ++ [k]) = if (!insP key l && ltS key k) = true then insA key l ++ [key] ++ [k] else insA key l ++ [k]
  | [] => by
    rw [List.nil_append, insA, insA]
    cases ltS key k <;> simp [insP, insA]
  | a :: r => by
    rw [List.cons_append, insA, insA, insA_snoc key k r]
    have e : insP key (a :: r) = (ltS key a || insP key r) := by simp [insP]
    rw [e]
    cases ltS key a <;> cases insP key r <;> cases ltS key k <;> simp
theorem insT_snoc (key k : List UInt8) (x t : VT) : ∀ (l : List (List UInt8)) (s : List VT), l.length = s.length → insT key x (l ++ [k]) (s ++ [t]) = if (!insP key l && ltS key k) = true then insT key x l s ++ [x] ++ [t] else insT key x l s ++ [t]
  | [], [], _ => by
    rw [List.nil_append, List.nil_append, insT, insT]
    cases ltS key k <;> simp [insP]
  | [], _ :: _, h => by simp at h
  | _ :: _, [], h => by simp at h
  | a :: r, b :: s, h => by
    rw [List.cons_append, List.cons_append, insT, insT, insT_snoc key k x t r s (by simpa using h)]
    have e : insP key (a :: r) = (ltS key a || insP key r) := by simp [insP]
    rw [e]
    cases ltS key a <;> cases insP key r <;> cases ltS key k <;> simp

/-- At the end. -/
def endA (key : List UInt8) (ks : List (List UInt8)) : List (List UInt8) := if insP key ks = true then insA key ks else insA key ks ++ [key]
def endT (key : List UInt8) (x : VT) (ks : List (List UInt8)) (ts : List VT) : List VT := if insP key ks = true then insT key x ks ts else insT key x ks ts ++ [x]
theorem end_rising {key : List UInt8} {x : VT} : ∀ {ks : List (List UInt8)} {ts : List VT}, rising ks = true → key ∉ ks → ks.length = ts.length →
    endA key ks = ks.take (posK ks key) ++ key :: ks.drop (posK ks key) ∧ endT key x ks ts = ts.take (posK ks key) ++ x :: ts.drop (posK ks key)
  | [], [], _, _, _ => by simp [endA, endT, insP, insA, insT]
  | [], _ :: _, _, _, h => by simp at h
  | _ :: _, [], _, _, h => by simp at h
  | a :: r, t :: s, hr, hn, hl => by
    have hr0 := hr
    rw [rising_cons] at hr
    have hl' : r.length = s.length := by simpa using hl
    have hne : ¬ a = key := fun e => hn (by simp [e])
    obtain ⟨i1, i2⟩ := end_rising (key := key) (x := x) hr.2 (fun hm => hn (by simp [hm])) hl'
    have e : insP key (a :: r) = (ltS key a || insP key r) := by simp [insP]
    unfold endA at i1 ⊢
    unfold endT at i2 ⊢
    rw [e, posK_cons, insA, insT]
    cases hc : ltS key a with
    | true =>
      have hb : ltS a key = false := by
        cases hd : ltS a key with
        | false => rfl
        | true => have := ltS_trans hc hd; rw [ltS_irr] at this; cases this
      simp [hb]
    | false =>
      have hb : ltS a key = true := by
        cases hd : ltS a key with
        | true => rfl
        | false => exact absurd (ltS_tri hd hc) hne
      rw [hb]
      cases hp : insP key r <;> rw [hp] at i1 i2 <;> simp at i1 i2 ⊢ <;> exact ⟨i1, i2⟩

theorem end_front {key : List UInt8} {x : VT} {r : List (List UInt8)} {s : List VT} (h : ∀ k ∈ r, ltS key k = true) (hl : r.length = s.length) : endA key r = key :: r ∧ endT key x r s = x :: s := by
  cases r with
  | nil =>
    cases s with
    | nil => simp [endA, endT, insP, insA, insT]
    | cons _ _ => simp at hl
  | cons b r =>
    cases s with
    | nil => simp at hl
    | cons c s =>
      have hb := h b (by simp)
      simp [endA, endT, insP, insA, insT, hb]
theorem end_back {key a : List UInt8} {x t : VT} {r : List (List UInt8)} {s : List VT} (h : ltS key a = false) : endA key (a :: r) = a :: endA key r ∧ endT key x (a :: r) (t :: s) = t :: endT key x r s := by
  have e : insP key (a :: r) = insP key r := by simp [insP, h]
  unfold endA endT
  rw [e, insA, insT, h]
  cases insP key r <;> simp
/-- Dropped and put. -/
theorem end_kept {key : List UInt8} {x : VT} : ∀ {ks : List (List UInt8)} {ts : List VT}, rising ks = true → ks.length = ts.length →
    endA key (keptK key ks) = (if hasK ks key = true then ks else ks.take (posK ks key) ++ key :: ks.drop (posK ks key)) ∧
    endT key x (keptK key ks) (keptT key ks ts) = (if hasK ks key = true then ts.set (posK ks key) x else ts.take (posK ks key) ++ x :: ts.drop (posK ks key))
  | [], [], _, _ => by simp [keptK, keptT, endA, endT, insP, insA, insT, hasK]
  | [], _ :: _, _, h => by simp at h
  | _ :: _, [], _, h => by simp at h
  | a :: r, t :: s, hr, hl => by
    have hr0 := hr
    rw [rising_cons] at hr
    have hl' : r.length = s.length := by simpa using hl
    by_cases he : a = key
    · subst he
      have hn : a ∉ r := fun hm => by have := hr.1 a hm; rw [ltS_irr] at this; cases this
      have hp : posK (a :: r) a = 0 := by rw [posK_cons, ltS_irr]; simp
      have hh : hasK (a :: r) a = true := by unfold hasK; rw [hp]; simp
      obtain ⟨f1, f2⟩ := end_front (x := x) hr.1 hl'
      have k1 : keptK a (a :: r) = r := by rw [keptK, if_pos rfl, keptK_out hn]
      have k2 : keptT a (a :: r) (t :: s) = s := by rw [keptT, if_pos rfl, keptT_out hn hl']
      rw [hh, hp, k1, k2, f1, f2]
      simp
    · cases hlt : ltS a key with
      | true =>
        have hgt : ltS key a = false := by
          cases hc : ltS key a with
          | false => rfl
          | true => have := ltS_trans hlt hc; rw [ltS_irr] at this; cases this
        obtain ⟨i1, i2⟩ := end_kept (key := key) (x := x) hr.2 hl'
        obtain ⟨f1, f2⟩ := end_back (a := a) (x := x) (t := t) (r := keptK key r) (s := keptT key r s) hgt
        have k1 : keptK key (a :: r) = a :: keptK key r := by rw [keptK, if_neg he]
        have k2 : keptT key (a :: r) (t :: s) = t :: keptT key r s := by rw [keptT, if_neg he]
        rw [hasK_cons_lt hlt, posK_cons, if_pos hlt, k1, k2, f1, f2, i1, i2]
        cases hasK r key <;> simp
      | false =>
        have hgt : ltS key a = true := by
          cases hc : ltS key a with
          | true => rfl
          | false => exact absurd (ltS_tri hlt hc) he
        have hn : key ∉ a :: r := fun hm => by
          rcases List.mem_cons.1 hm with e | hm
          · exact he e.symm
          · have := ltS_trans hgt (hr.1 key hm)
            rw [ltS_irr] at this
            cases this
        have hh : hasK (a :: r) key = false := by
          cases hc : hasK (a :: r) key with
          | false => rfl
          | true => exact absurd ((hasK_mem hr0).1 hc) hn
        have hall : ∀ k ∈ a :: r, ltS key k = true := fun k hk => by
          rcases List.mem_cons.1 hk with rfl | hk
          · exact hgt
          · exact ltS_trans hgt (hr.1 k hk)
        obtain ⟨f1, f2⟩ := end_front (x := x) (s := t :: s) hall hl
        rw [hh, keptK_out hn, keptT_out hn hl, f1, f2, posK_cons, hlt]
        simp

/-- What the document's Put leaves. -/
def putR (t : VT) (key : List UInt8) (x : VT) : VT := if t.kind = 6 then objOf (endA key (keptK key t.keys)) (endT key x (keptK key t.keys) (keptT key t.keys t.items)) else objOf [key] [x]
theorem putR_eq {t x : VT} {key : List UInt8} (hr : rising t.keys = true) (h : t.kind = 6 → t.flag = false ∧ t.text = [] ∧ t.keys.length = t.items.length) : putR t key x = putO t key x := by
  cases t with
  | mk k b tx its ks =>
    have e1 : putR (.mk k b tx its ks) key x = if k = 6 then objOf (endA key (keptK key ks)) (endT key x (keptK key ks) (keptT key ks its)) else objOf [key] [x] := rfl
    have e2 : putO (.mk k b tx its ks) key x = putT (if k = 6 then .mk k b tx its ks else .mk 6 false [] [] []) key x := rfl
    rw [e1, e2]
    replace hr : rising ks = true := hr
    replace h : k = 6 → b = false ∧ tx = [] ∧ ks.length = its.length := h
    by_cases h6 : k = 6
    · obtain ⟨rfl, rfl, hl⟩ := h h6
      subst h6
      obtain ⟨i1, i2⟩ := end_kept (key := key) (x := x) hr hl
      rw [if_pos rfl, if_pos rfl, i1, i2, putT]
      unfold objOf
      by_cases hh : hasK ks key = true <;> simp [hh]
    · rw [if_neg h6, if_neg h6, putT]
      simp [objOf, hasK]

end Go.Proofs.YtgbalofdfdafmaaDoor
