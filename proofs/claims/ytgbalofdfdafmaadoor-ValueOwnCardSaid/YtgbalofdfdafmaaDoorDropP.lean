/- What the document's Drop keeps, where keys rise. -/
import Derived.Test.YtgbalofdfdafmaaDoorDropR
namespace Go.Proofs.YtgbalofdfdafmaaDoor
open Go.RowKit

theorem keptK_out {key : List UInt8} : ∀ {ks : List (List UInt8)}, key ∉ ks → keptK key ks = ks
  | [], _ => rfl
  | a :: r, h => by
    have h1 : ¬ a = key := fun e => h (by simp [e])
    have h2 : key ∉ r := fun hm => h (by simp [hm])
    rw [keptK, if_neg h1, keptK_out h2]
theorem keptT_out {key : List UInt8} : ∀ {ks : List (List UInt8)} {ts : List VT}, key ∉ ks → ks.length = ts.length → keptT key ks ts = ts
  | [], [], _, _ => rfl
  | [], _ :: _, _, h => by simp at h
  | _ :: _, [], _, h => by simp at h
  | a :: r, t :: s, h, hl => by
    have h1 : ¬ a = key := fun e => h (by simp [e])
    have h2 : key ∉ r := fun hm => h (by simp [hm])
    rw [keptT, if_neg h1, keptT_out h2 (by simpa using hl)]
theorem posK_cons (a : List UInt8) (r : List (List UInt8)) (key : List UInt8) : posK (a :: r) key = if ltS a key = true then posK r key + 1 else 0 := by
  unfold posK
  rw [List.takeWhile_cons]
  split <;> simp
theorem hasK_cons_lt {a : List UInt8} {r : List (List UInt8)} {key : List UInt8} (h : ltS a key = true) : hasK (a :: r) key = hasK r key := by
  unfold hasK
  rw [posK_cons, if_pos h, List.getElem?_cons_succ]

theorem kept_rising {key : List UInt8} : ∀ {ks : List (List UInt8)} {ts : List VT}, rising ks = true → ks.length = ts.length →
    keptK key ks = (if hasK ks key = true then ks.take (posK ks key) ++ ks.drop (posK ks key + 1) else ks) ∧ keptT key ks ts = (if hasK ks key = true then ts.take (posK ks key) ++ ts.drop (posK ks key + 1) else ts)
  | [], [], _, _ => by simp [keptK, keptT, hasK]
  | [], _ :: _, _, h => by simp at h
  | _ :: _, [], _, h => by simp at h
  | a :: r, t :: s, hr, hl => by
    have hr0 := hr
    rw [rising_cons] at hr
    have hl' : r.length = s.length := by simpa using hl
    by_cases he : a = key
    · subst he
      have hn : a ∉ r := fun hm => by have := hr.1 a hm; rw [ltS_irr] at this; cases this
      have hp : posK (a :: r) a = 0 := by rw [posK_cons, ltS_irr]; simp
      have hh : hasK (a :: r) a = true := by unfold hasK; rw [hp]; simp
      rw [hh, hp, if_pos rfl, if_pos rfl, keptK, keptT, if_pos rfl, if_pos rfl, keptK_out hn, keptT_out hn hl']
      simp
    · cases hlt : ltS a key with
      | true =>
        obtain ⟨i1, i2⟩ := kept_rising (key := key) hr.2 hl'
        rw [hasK_cons_lt hlt, posK_cons, if_pos hlt, keptK, keptT, if_neg he, if_neg he, i1, i2]
        cases hasK r key <;> simp
      | false =>
        have hgt : ltS key a = true := by
          cases hc : ltS key a with
          | true => rfl
          | false => exact absurd (ltS_tri hlt hc) he
        have hn : key ∉ a :: r := fun hm => by
          rcases List.mem_cons.1 hm with e | hm
          · exact he e.symm
          · have := ltS_trans hgt (hr.1 key hm)
            rw [ltS_irr] at this
            cases this
        have hh : hasK (a :: r) key = false := by
          cases hc : hasK (a :: r) key with
          | false => rfl
          | true => exact absurd ((hasK_mem hr0).1 hc) hn
        rw [hh, keptK_out hn, keptT_out hn (by simpa using hl)]
        simp

/-- The document's Drop of a plain value. -/
theorem dropR_eq {t : VT} {key : List UInt8} (hr : rising t.keys = true) (h : t.kind = 6 → t.flag = false ∧ t.text = [] ∧ t.keys.length = t.items.length) : dropR t key = dropT t key := by
  cases t with
  | mk k b tx its ks =>
    have e1 : dropR (.mk k b tx its ks) key = if k = 6 then objOf (keptK key ks) (keptT key ks its) else .mk k b tx its ks := rfl
    rw [e1, dropT]
    replace hr : rising ks = true := hr
    replace h : k = 6 → b = false ∧ tx = [] ∧ ks.length = its.length := h
    by_cases h6 : k = 6
    · obtain ⟨rfl, rfl, hl⟩ := h h6
      obtain ⟨i1, i2⟩ := kept_rising (key := key) hr hl
      rw [if_pos h6, i1, i2]
      unfold objOf
      subst h6
      by_cases hh : hasK ks key = true
      · simp [hh]
      · simp [hh]
    · rw [if_neg h6, if_neg (fun hc => h6 hc.2)]

end Go.Proofs.YtgbalofdfdafmaaDoor
