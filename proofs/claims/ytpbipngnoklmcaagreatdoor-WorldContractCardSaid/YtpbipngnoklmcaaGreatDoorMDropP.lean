/- What the document's Drop keeps, where keys rise. What the document's Put builds: a key put ahead of the first greater one, or behind all. The walk of the document's Put. -/
import Derived.Test.YtpbipngnoklmcaaGreatDoorDropR
namespace Go.Proofs.YtpbipngnoklmcaaGreatDoor
open Go.RowKit

theorem keptK_out {key : List UInt8} : ∀ {ks : List (List UInt8)}, key ∉ ks → keptK key ks = ks
  | [], _ => rfl
  | a :: r, h => by
    have h1 : ¬ a = key := fun e => h (by simp [e])
    have h2 : key ∉ r := fun hm => h (by simp [hm])
    rw [keptK, if_neg h1, keptK_out h2]
theorem keptT_out {key : List UInt8} : ∀ {ks : List (List UInt8)} {ts : List VT}, key ∉ ks → ks.length = ts.length → keptT key ks ts = ts
  | [], [], _, _ => rfl
  | [], _ :: _, _, h => by simp at h
  | _ :: _, [], _, h => by simp at h
  | a :: r, t :: s, h, hl => by
    have h1 : ¬ a = key := fun e => h (by simp [e])
    have h2 : key ∉ r := fun hm => h (by simp [hm])
    rw [keptT, if_neg h1, keptT_out h2 (by simpa using hl)]
theorem posK_cons (a : List UInt8) (r : List (List UInt8)) (key : List UInt8) : posK (a :: r) key = if ltS a key = true then posK r key + 1 else 0 := by
  unfold posK
  rw [List.takeWhile_cons]
  split <;> simp
theorem hasK_cons_lt {a : List UInt8} {r : List (List UInt8)} {key : List UInt8} (h : ltS a key = true) : hasK (a :: r) key = hasK r key := by
  unfold hasK
  rw [posK_cons, if_pos h, List.getElem?_cons_succ]

theorem kept_rising {key : List UInt8} : ∀ {ks : List (List UInt8)} {ts : List VT}, rising ks = true → ks.length = ts.length →
    keptK key ks = (if hasK ks key = true then ks.take (posK ks key) ++ ks.drop (posK ks key + 1) else ks) ∧ keptT key ks ts = (if hasK ks key = true then ts.take (posK ks key) ++ ts.drop (posK ks key + 1) else ts)
  | [], [], _, _ => by simp [keptK, keptT, hasK]
  | [], _ :: _, _, h => by simp at h
  | _ :: _, [], _, h => by simp at h
  | a :: r, t :: s, hr, hl => by
    have hr0 := hr
    rw [rising_cons] at hr
    have hl' : r.length = s.length := by simpa using hl
    by_cases he : a = key
    · subst he
      have hn : a ∉ r := fun hm => by have := hr.1 a hm; rw [ltS_irr] at this; cases this
      have hp : posK (a :: r) a = 0 := by rw [posK_cons, ltS_irr]; simp
      have hh : hasK (a :: r) a = true := by unfold hasK; rw [hp]; simp
      rw [hh, hp, if_pos rfl, if_pos rfl, keptK, keptT, if_pos rfl, if_pos rfl, keptK_out hn, keptT_out hn hl']
      simp
    · cases hlt : ltS a key with
      | true =>
        obtain ⟨i1, i2⟩ := kept_rising (key := key) hr.2 hl'
        rw [hasK_cons_lt hlt, posK_cons, if_pos hlt, keptK, keptT, if_neg he, if_neg he, i1, i2]
        cases hasK r key <;> simp
      | false =>
        have hgt : ltS key a = true := by
          cases hc : ltS key a with
          | true => rfl
          | false => exact absurd (ltS_tri hlt hc) he
        have hn : key ∉ a :: r := fun hm => by
          rcases List.mem_cons.1 hm with e | hm
          · exact he e.symm
          · have := ltS_trans hgt (hr.1 key hm)
            rw [ltS_irr] at this
            cases this
        have hh : hasK (a :: r) key = false := by
          cases hc : hasK (a :: r) key with
          | false => rfl
          | true => exact absurd ((hasK_mem hr0).1 hc) hn
        rw [hh, keptK_out hn, keptT_out hn (by simpa using hl)]
        simp

/-- The document's Drop of a plain value. -/
theorem dropR_eq {t : VT} {key : List UInt8} (hr : rising t.keys = true) (h : t.kind = 6 → t.flag = false ∧ t.text = [] ∧ t.keys.length = t.items.length) : dropR t key = dropT t key := by
  cases t with
  | mk k b tx its ks =>
    have e1 : dropR (.mk k b tx its ks) key = if k = 6 then objOf (keptK key ks) (keptT key ks its) else .mk k b tx its ks := rfl
    rw [e1, dropT]
    replace hr : rising ks = true := hr
    replace h : k = 6 → b = false ∧ tx = [] ∧ ks.length = its.length := h
    by_cases h6 : k = 6
    · obtain ⟨rfl, rfl, hl⟩ := h h6
      obtain ⟨i1, i2⟩ := kept_rising (key := key) hr hl
      rw [if_pos h6, i1, i2]
      unfold objOf
      subst h6
      by_cases hh : hasK ks key = true
      · simp [hh]
      · simp [hh]
    · rw [if_neg h6, if_neg (fun hc => h6 hc.2)]

end Go.Proofs.YtpbipngnoklmcaaGreatDoor
namespace Go.Proofs.YtpbipngnoklmcaaGreatDoor
open Go.RowKit

/-- Has the key been put, behind these? -/
def insQ (key : List UInt8) (ks : List (List UInt8)) : Bool := ks.any fun k => ltS key k
def insA (key : List UInt8) : List (List UInt8) → List (List UInt8)
  | [] => []
  | k :: r => if ltS key k = true then key :: k :: r else k :: insA key r
def insT (key : List UInt8) (x : VT) : List (List UInt8) → List VT → List VT
  | k :: r, t :: s => if ltS key k = true then x :: t :: s else t :: insT key x r s
  | [], _ => []
  | _ :: _, [] => []
theorem insP_snoc (key k : List UInt8) (l : List (List UInt8)) : insQ key (l ++ [k]) = (insQ key l || ltS key k) := by simp [insQ]
theorem insA_snoc (key k : List UInt8) : ∀ (l : List (List UInt8)), insA key (l ++ [k]) = if (!insQ key l && ltS key k) = true then insA key l ++ [key] ++ [k] else insA key l ++ [k]
  | [] => by
    rw [List.nil_append, insA, insA]
    cases ltS key k <;> simp [insQ, insA]
  | a :: r => by
    rw [List.cons_append, insA, insA, insA_snoc key k r]
    have e : insQ key (a :: r) = (ltS key a || insQ key r) := by simp [insQ]
    rw [e]
    cases ltS key a <;> cases insQ key r <;> cases ltS key k <;> simp
theorem insT_snoc (key k : List UInt8) (x t : VT) : ∀ (l : List (List UInt8)) (s : List VT), l.length = s.length → insT key x (l ++ [k]) (s ++ [t]) = if (!insQ key l && ltS key k) = true then insT key x l s ++ [x] ++ [t] else insT key x l s ++ [t]
  | [], [], _ => by
    rw [List.nil_append, List.nil_append, insT, insT]
    cases ltS key k <;> simp [insQ]
  | [], _ :: _, h => by simp at h
  | _ :: _, [], h => by simp at h
  | a :: r, b :: s, h => by
    rw [List.cons_append, List.cons_append, insT, insT, insT_snoc key k x t r s (by simpa using h)]
    have e : insQ key (a :: r) = (ltS key a || insQ key r) := by simp [insQ]
    rw [e]
    cases ltS key a <;> cases insQ key r <;> cases ltS key k <;> simp

/-- At the end. -/
def endA (key : List UInt8) (ks : List (List UInt8)) : List (List UInt8) := if insQ key ks = true then insA key ks else insA key ks ++ [key]
def endT (key : List UInt8) (x : VT) (ks : List (List UInt8)) (ts : List VT) : List VT := if insQ key ks = true then insT key x ks ts else insT key x ks ts ++ [x]
theorem end_rising {key : List UInt8} {x : VT} : ∀ {ks : List (List UInt8)} {ts : List VT}, rising ks = true → key ∉ ks → ks.length = ts.length →
    endA key ks = ks.take (posK ks key) ++ key :: ks.drop (posK ks key) ∧ endT key x ks ts = ts.take (posK ks key) ++ x :: ts.drop (posK ks key)
  | [], [], _, _, _ => by simp [endA, endT, insQ, insA, insT]
  | [], _ :: _, _, _, h => by simp at h
  | _ :: _, [], _, _, h => by simp at h
  | a :: r, t :: s, hr, hn, hl => by
    have hr0 := hr
    rw [rising_cons] at hr
    have hl' : r.length = s.length := by simpa using hl
    have hne : ¬ a = key := fun e => hn (by simp [e])
    obtain ⟨i1, i2⟩ := end_rising (key := key) (x := x) hr.2 (fun hm => hn (by simp [hm])) hl'
    have e : insQ key (a :: r) = (ltS key a || insQ key r) := by simp [insQ]
    unfold endA at i1 ⊢
    unfold endT at i2 ⊢
    rw [e, posK_cons, insA, insT]
    cases hc : ltS key a with
    | true =>
      have hb : ltS a key = false := by
        cases hd : ltS a key with
        | false => rfl
        | true => have := ltS_trans hc hd; rw [ltS_irr] at this; cases this
      simp [hb]
    | false =>
      have hb : ltS a key = true := by
        cases hd : ltS a key with
        | true => rfl
        | false => exact absurd (ltS_tri hd hc) hne
      rw [hb]
      cases hp : insQ key r <;> rw [hp] at i1 i2 <;> simp at i1 i2 ⊢ <;> exact ⟨i1, i2⟩

theorem end_front {key : List UInt8} {x : VT} {r : List (List UInt8)} {s : List VT} (h : ∀ k ∈ r, ltS key k = true) (hl : r.length = s.length) : endA key r = key :: r ∧ endT key x r s = x :: s := by
  cases r with
  | nil =>
    cases s with
    | nil => simp [endA, endT, insQ, insA, insT]
    | cons _ _ => simp at hl
  | cons b r =>
    cases s with
    | nil => simp at hl
    | cons c s =>
      have hb := h b (by simp)
      simp [endA, endT, insQ, insA, insT, hb]
theorem end_back {key a : List UInt8} {x t : VT} {r : List (List UInt8)} {s : List VT} (h : ltS key a = false) : endA key (a :: r) = a :: endA key r ∧ endT key x (a :: r) (t :: s) = t :: endT key x r s := by
  have e : insQ key (a :: r) = insQ key r := by simp [insQ, h]
  unfold endA endT
  rw [e, insA, insT, h]
  cases insQ key r <;> simp
/-- Dropped and put. -/
theorem end_kept {key : List UInt8} {x : VT} : ∀ {ks : List (List UInt8)} {ts : List VT}, rising ks = true → ks.length = ts.length →
    endA key (keptK key ks) = (if hasK ks key = true then ks else ks.take (posK ks key) ++ key :: ks.drop (posK ks key)) ∧
    endT key x (keptK key ks) (keptT key ks ts) = (if hasK ks key = true then ts.set (posK ks key) x else ts.take (posK ks key) ++ x :: ts.drop (posK ks key))
  | [], [], _, _ => by simp [keptK, keptT, endA, endT, insQ, insA, insT, hasK]
  | [], _ :: _, _, h => by simp at h
  | _ :: _, [], _, h => by simp at h
  | a :: r, t :: s, hr, hl => by
    have hr0 := hr
    rw [rising_cons] at hr
    have hl' : r.length = s.length := by simpa using hl
    by_cases he : a = key
    · subst he
      have hn : a ∉ r := fun hm => by have := hr.1 a hm; rw [ltS_irr] at this; cases this
      have hp : posK (a :: r) a = 0 := by rw [posK_cons, ltS_irr]; simp
      have hh : hasK (a :: r) a = true := by unfold hasK; rw [hp]; simp
      obtain ⟨f1, f2⟩ := end_front (x := x) hr.1 hl'
      have k1 : keptK a (a :: r) = r := by rw [keptK, if_pos rfl, keptK_out hn]
      have k2 : keptT a (a :: r) (t :: s) = s := by rw [keptT, if_pos rfl, keptT_out hn hl']
      rw [hh, hp, k1, k2, f1, f2]
      simp
    · cases hlt : ltS a key with
      | true =>
        have hgt : ltS key a = false := by
          cases hc : ltS key a with
          | false => rfl
          | true => have := ltS_trans hlt hc; rw [ltS_irr] at this; cases this
        obtain ⟨i1, i2⟩ := end_kept (key := key) (x := x) hr.2 hl'
        obtain ⟨f1, f2⟩ := end_back (a := a) (x := x) (t := t) (r := keptK key r) (s := keptT key r s) hgt
        have k1 : keptK key (a :: r) = a :: keptK key r := by rw [keptK, if_neg he]
        have k2 : keptT key (a :: r) (t :: s) = t :: keptT key r s := by rw [keptT, if_neg he]
        rw [hasK_cons_lt hlt, posK_cons, if_pos hlt, k1, k2, f1, f2, i1, i2]
        cases hasK r key <;> simp
      | false =>
        have hgt : ltS key a = true := by
          cases hc : ltS key a with
          | true => rfl
          | false => exact absurd (ltS_tri hlt hc) he
        have hn : key ∉ a :: r := fun hm => by
          rcases List.mem_cons.1 hm with e | hm
          · exact he e.symm
          · have := ltS_trans hgt (hr.1 key hm)
            rw [ltS_irr] at this
            cases this
        have hh : hasK (a :: r) key = false := by
          cases hc : hasK (a :: r) key with
          | false => rfl
          | true => exact absurd ((hasK_mem hr0).1 hc) hn
        have hall : ∀ k ∈ a :: r, ltS key k = true := fun k hk => by
          rcases List.mem_cons.1 hk with rfl | hk
          · exact hgt
          · exact ltS_trans hgt (hr.1 k hk)
        obtain ⟨f1, f2⟩ := end_front (x := x) (s := t :: s) hall hl
        rw [hh, keptK_out hn, keptT_out hn hl, f1, f2, posK_cons, hlt]
        simp

/-- What the document's Put leaves. -/
def putR (t : VT) (key : List UInt8) (x : VT) : VT := if t.kind = 6 then objOf (endA key (keptK key t.keys)) (endT key x (keptK key t.keys) (keptT key t.keys t.items)) else objOf [key] [x]
theorem putR_eq {t x : VT} {key : List UInt8} (hr : rising t.keys = true) (h : t.kind = 6 → t.flag = false ∧ t.text = [] ∧ t.keys.length = t.items.length) : putR t key x = putO t key x := by
  cases t with
  | mk k b tx its ks =>
    have e1 : putR (.mk k b tx its ks) key x = if k = 6 then objOf (endA key (keptK key ks)) (endT key x (keptK key ks) (keptT key ks its)) else objOf [key] [x] := rfl
    have e2 : putO (.mk k b tx its ks) key x = putT (if k = 6 then .mk k b tx its ks else .mk 6 false [] [] []) key x := rfl
    rw [e1, e2]
    replace hr : rising ks = true := hr
    replace h : k = 6 → b = false ∧ tx = [] ∧ ks.length = its.length := h
    by_cases h6 : k = 6
    · obtain ⟨rfl, rfl, hl⟩ := h h6
      subst h6
      obtain ⟨i1, i2⟩ := end_kept (key := key) (x := x) hr hl
      rw [if_pos rfl, if_pos rfl, i1, i2, putT]
      unfold objOf
      by_cases hh : hasK ks key = true <;> simp [hh]
    · rw [if_neg h6, if_neg h6, putT]
      simp [objOf, hasK]

end Go.Proofs.YtpbipngnoklmcaaGreatDoor
namespace Go.Proofs.YtpbipngnoklmcaaGreatDoor
open Go.RowKit
set_option maxRecDepth 100000
attribute [local go_sem] str_size str_toList str_get

set_option maxHeartbeats 2000000 in
/-- Of what is no object. -/
theorem put_none (t x : VT) (v vx : Value) (key : List UInt8) (w : World) (h : ValAt w t v) (hx : ValAt w x vx) (h6 : ¬ t.kind = 6) :
    Calls Tryz.prog 24 #[v, str key, vx] w (DropOwn w [key] [x] w) := by
  obtain ⟨i1, hi1, hz1, hzs1, hzb1⟩ := info_parts infoS
  obtain ⟨i2, hi2, hz2, hzs2, hzb2⟩ := info_parts infoVal
  obtain ⟨ai, ci, ak, ck, rfl⟩ := h.form
  obtain ⟨xi, xc, xk, xd, hxe⟩ := hx.form
  subst hxe
  have hk6 : (t.kind == 6) = false := by simpa using h6
  obtain ⟨wP, hwP⟩ : ∃ wP, wP = w.alloc (.cells #[.int .i64 t.kind, .bool t.flag, str t.text, .slice ai t.items.length ci, .slice ak t.keys.length ck] 41) := ⟨_, rfl⟩
  obtain ⟨m0, m1, m2, m3, m4, hsP, hbP⟩ := box5 hwP
  obtain ⟨wQ, hwQ⟩ : ∃ wQ, wQ = wP.alloc (.cells #[.int .i64 x.kind, .bool x.flag, str x.text, .slice xi x.items.length xc, .slice xk x.keys.length xd] 41) := ⟨_, rfl⟩
  obtain ⟨n0, n1, n2, n3, n4, hsQ, hbQ⟩ := box5 hwQ
  obtain ⟨wR, hwR⟩ : ∃ wR, wR = wQ.alloc (.cells #[.int .i64 0, .bool false, .string ⟨#[]⟩, .slice none 0 0, .slice none 0 0] 41) := ⟨_, rfl⟩
  have hnR : wR.heap[w.heap.size + 1 + 1]? = some (.cells #[.int .i64 0, .bool false, .string ⟨#[]⟩, .slice none 0 0, .slice none 0 0] 41 (0, 0)) := by
    rw [hwR, ← hsP, ← hsQ]; exact heap_alloc_new _ _
  obtain ⟨_, _, _, _, _, hsR, hbR⟩ := box5 hwR
  obtain ⟨wS, hwS⟩ : ∃ wS, wS = wR.alloc (.cells #[.int .i64 6, .bool false, .string ⟨#[]⟩, .slice none 0 0, .slice none 0 0] 41) := ⟨_, rfl⟩
  have hnS : wS.heap[w.heap.size + 1 + 1 + 1]? = some (.cells #[.int .i64 6, .bool false, .string ⟨#[]⟩, .slice none 0 0, .slice none 0 0] 41 (0, 0)) := by
    rw [hwS, ← hsP, ← hsQ, ← hsR]; exact heap_alloc_new _ _
  obtain ⟨_, _, _, _, _, hsS, hbS⟩ := box5 hwS
  have hb1 : Below wP.heap.size wP wS := (hbQ.trans (hbR.mono (by omega))).trans (hbS.mono (by omega))
  have hb2 : Below wQ.heap.size wQ wS := hbR.trans (hbS.mono (by omega))
  have hbW : Below w.heap.size w wS := hbP.trans (hb1.mono (by omega))
  have p0 := (hb1.cell (p := ⟨w.heap.size, 0, none⟩) (by show w.heap.size < wP.heap.size; omega)).trans m0
  have hnS2 := (hbS.block (w.heap.size + 1 + 1) (by omega)).trans hnR
  have xs0 : ∀ o, wS.cell? ⟨w.heap.size + 1, o, none⟩ = wQ.cell? ⟨w.heap.size + 1, o, none⟩ := fun o => hb2.cell (p := ⟨w.heap.size + 1, o, none⟩) (by show w.heap.size + 1 < wQ.heap.size; omega)
  rw [hsP] at n0 n1 n2 n3 n4
  have A0 : Acc w wS (w.heap.size + 1 + 1 + 1) [] [] (.slice none 0 0) (.slice none 0 0) [] wS :=
    ⟨hnS, World.ownsRow_nil _ _ _ _, World.ownsRow_nil _ _ _ _, rfl, (fun i h => absurd h (by simp)), (fun a h => by simp [Value.ownBlock] at h), Spares.refl _ _, by omega⟩
  have HA0 := Lib.hid A0
  have HX := Lib.hid hx
  obtain ⟨d0, d1, d2, d3, d4, f3, f4⟩ := cell_box5 hnS
  have hsz : w.heap.size + 1 + 1 + 1 < wS.heap.size := by omega
  clear A0 h hx h6 hnS hnR m0 m1 m2 m3 m4 hb1 hb2 hsP hsQ hsR hsS hbP hbQ hbR hbS
  go_enter Tryz.func24, Tryz.ntmps24
  go_upto_region 2 with fail
  rw [← hwP, ← hwQ, ← hwR, ← hwS]
  clear hwP hwQ hwR hwS
  go_wp2_with (at_builtin; go_loud (refine wpList_append_fresh _ rfl (.tmp 70) (.tmp 72) 39 rfl wS.heap.size 9 i1 _ 1 16 Tryz.underlying39 hi1 hz1 hzs1 hzb1 rfl (by decide) (.slice none 0 0) 0 [] rfl (World.ownsRow_nil _ _ _ _) ⟨wS.heap.size, 0, none⟩ 1 1 [str key] rfl rfl ?c1 ?c2 ?c3 ?c4 ?c5 ?_))
  case c1 => exact cells_new wS _ _
  case c2 => intro u hu; simp at hu; subst hu; rfl
  case c3 => unfold maxLen; omega
  case c4 => omega
  case c5 => simp
  intro v' w3 hown hgrow hv'
  have hba : Below wS.heap.size wS (wS.alloc (.cells #[str key] 9)) := (Below.refl _ wS).alloc (Nat.le_refl _) _
  replace hv' : v'.ownBlock = (Value.slice none 0 0).ownBlock ∨ v'.ownBlock = some (wS.alloc (.cells #[str key] 9)).heap.size := by rw [show (wS.alloc (.cells #[str key] 9)).heap.size = wS.heap.size + 1 from Array.size_push _]; exact hv'
  have A1 := HA0.out.key (k := key) hba hown hgrow hv'
  obtain ⟨_, _, _, _, d4', e3, e4⟩ := cell_box5 (HA0.out.key_box hba hgrow hv')
  obtain ⟨a', c', rfl⟩ := slice_of hown
  obtain ⟨w4, hw4⟩ : ∃ w4, w4 = w3.setCell ⟨w.heap.size + 1 + 1 + 1, 4, none⟩ (.slice a' 1 c') := ⟨_, rfl⟩
  replace A1 : Acc w wS _ [key] [] (.slice a' 1 c') (.slice none 0 0) [] (w3.setCell ⟨w.heap.size + 1 + 1 + 1, 4, none⟩ (.slice a' 1 c')) := A1
  rw [← hw4] at A1
  have HA1 := Lib.hid A1
  clear A1 hown hgrow hv' hba HA0
  go_upto_region 17 with fail
  rw [← hw4]
  clear hw4
  obtain ⟨_, _, _, g3, g4, _, _⟩ := cell_box5 HA1.out.box
  have y0 := (HA1.out.cell (p := ⟨w.heap.size + 1, 0, none⟩) (by show w.heap.size + 1 < _; omega) (by show w.heap.size + 1 ≠ _; omega)).trans ((xs0 0).trans n0)
  have y1 := (HA1.out.cell (p := ⟨w.heap.size + 1, 1, none⟩) (by show w.heap.size + 1 < _; omega) (by show w.heap.size + 1 ≠ _; omega)).trans ((xs0 1).trans n1)
  have y2 := (HA1.out.cell (p := ⟨w.heap.size + 1, 2, none⟩) (by show w.heap.size + 1 < _; omega) (by show w.heap.size + 1 ≠ _; omega)).trans ((xs0 2).trans n2)
  have y3 := (HA1.out.cell (p := ⟨w.heap.size + 1, 3, none⟩) (by show w.heap.size + 1 < _; omega) (by show w.heap.size + 1 ≠ _; omega)).trans ((xs0 3).trans n3)
  have y4 := (HA1.out.cell (p := ⟨w.heap.size + 1, 4, none⟩) (by show w.heap.size + 1 < _; omega) (by show w.heap.size + 1 ≠ _; omega)).trans ((xs0 4).trans n4)
  clear d0 d1 d2 d3 d4 d4' e3 e4 f3 f4 n0 n1 n2 n3 n4 xs0 p0
  have hsz4 := HA1.out.keeps.size
  go_wp2_with (at_builtin; refine wpList_append_fresh _ rfl (.tmp 76) (.tmp 78) 38 rfl wS.heap.size 41 i2 _ 5 80 Tryz.underlying38 hi2 hz2 hzs2 hzb2 rfl (by decide) (.slice none 0 0) 0 [] rfl (World.ownsRow_nil _ _ _ _) ⟨w4.heap.size, 0, none⟩ 1 1 [.int .i64 x.kind, .bool x.flag, str x.text, .slice xi x.items.length xc, .slice xk x.keys.length xd] rfl rfl ?c1 ?c2 ?c3 ?c4 ?c5 ?_)
  case c1 => exact cells_new w4 _ _
  case c2 => intro u hu; simp at hu; rcases hu with rfl | rfl | rfl | rfl | rfl <;> rfl
  case c3 => unfold maxLen; omega
  case c4 => omega
  case c5 => simp; omega
  intro v' w5 hown hgrow hv'
  replace hv' : v'.ownBlock = (Value.slice none 0 0).ownBlock ∨ v'.ownBlock = some (w4.alloc (.cells #[.int .i64 x.kind, .bool x.flag, str x.text, .slice xi x.items.length xc, .slice xk x.keys.length xd] 41)).heap.size := by rw [show (w4.alloc (.cells #[.int .i64 x.kind, .bool x.flag, str x.text, .slice xi x.items.length xc, .slice xk x.keys.length xd] 41)).heap.size = w4.heap.size + 1 from Array.size_push _]; exact hv'
  have hba : Below w4.heap.size w4 (w4.alloc (.cells #[.int .i64 x.kind, .bool x.flag, str x.text, .slice xi x.items.length xc, .slice xk x.keys.length xd] 41)) := (Below.refl _ w4).alloc (Nat.le_refl _) _
  have A2 := HA1.out.item hba HX.out hown hgrow hv'
  obtain ⟨_, _, _, _, _, e3, e4⟩ := cell_box5 (HA1.out.item_box hba hgrow hv')
  obtain ⟨a2, c2, rfl⟩ := slice_of hown
  obtain ⟨w6, hw6⟩ : ∃ w6, w6 = w5.setCell ⟨w.heap.size + 1 + 1 + 1, 3, none⟩ (.slice a2 1 c2) := ⟨_, rfl⟩
  replace A2 : Acc w wS _ [key] [x] (.slice a' 1 c') (.slice a2 1 c2) _ (w5.setCell ⟨w.heap.size + 1 + 1 + 1, 3, none⟩ (.slice a2 1 c2)) := A2
  rw [← hw6] at A2
  have HA2 := Lib.hid A2
  clear A2 hown hgrow hv' hba HA1 g3 g4 y0 y1 y2 y3 y4
  obtain ⟨_, _, _, e3', _, _, _⟩ : w5.frozen? ⟨w.heap.size + 1 + 1 + 1, 3, none⟩ = false ∧ True ∧ True ∧ True ∧ True ∧ True ∧ True := ⟨e3, trivial, trivial, trivial, trivial, trivial, trivial⟩
  go_upto_region 18 with fail
  rw [← hw6]
  clear hw6
  obtain ⟨g0, g1, g2, g3, g4, _, _⟩ := cell_box5 HA2.out.box
  have hr2 := (HA2.out.blk (b := w.heap.size + 1 + 1) (by omega) (by omega)).trans hnS2
  obtain ⟨z0, z1, z2, z3, z4, j0, j1, j2, j3, j4⟩ := free5 hr2
  obtain ⟨w7, hw7, hr7, hz7, hk7, hB7⟩ := put_box5 hr2 (.int .i64 6) (.bool false) (.string ⟨#[]⟩) (.slice a2 1 c2) (.slice a' 1 c')
  obtain ⟨p0, p1, p2, p3, p4, _, _⟩ := cell_box5 hr7
  have hB := hB7 _ _ (by omega) (HA2.out.below hbW (by omega))
  have HF := Lib.hid (HA2.out.rows (w' := w7) (wl := w) (fun b hb => hk7 b (by omega)) (by omega))
  have HW := Lib.hid hw7
  clear hw7 hr7 hk7 hB7 hr2 HA2 hnS2
  go_wp2
  rw [← HW.out]
  exact bodyPost_ret (v := .agg #[.int .i64 6, .bool false, .string ⟨#[]⟩, .slice a2 1 c2, .slice a' 1 c']) (by simp [results, go_sem, p0, p1, p2, p3, p4]) rfl ⟨_, _, rfl, HF.out, hB⟩

end Go.Proofs.YtpbipngnoklmcaaGreatDoor
