/- Keys and items appended by turns to an object of the call's own: one append as a step of a region that draws. -/
import Derived.Test.YtpbipngnoklmcaaGreatDoorMRefC
import Derived.Test.YtpbipngnoklmcaaGreatDoorValE
import Derived.Test.YtpbipngnoklmcaaGreatDoorMValK
import Derived.Test.YtpbipngnoklmcaaGreatDoorMStepA
import Derived.Deep.RegionLaw
import Derived.Shelf.RegionOpenPlain
namespace Go.Proofs.YtpbipngnoklmcaaGreatDoor
open Go.RowKit
set_option maxRecDepth 100000


/-- An object of one's own (its cells at q): keys ks, items the values ts that were there in wv; its rows lie in memory newer than w0; of what was there in w0 its own cells alone have turned. -/
structure Acc (wv w0 : World) (q : Nat) (ks : List (List UInt8)) (ts : List VT) (vk vi : Value) (xs : List Value) (wr : World) : Prop where
  box : wr.heap[q]? = some (.cells #[.int .i64 6, .bool false, .string ⟨#[]⟩, vi, vk] 41 (0, 0))
  keys : wr.ownsRow w0.heap.size 9 1 vk ks.length (strV ks)
  items : wr.ownsRow w0.heap.size 41 5 vi ts.length (cellsV xs)
  len : xs.length = ts.length
  each : ∀ i (h : i < ts.length) (h' : i < xs.length), ValAt wv ts[i] xs[i]
  apart : ∀ a ∈ vk.ownBlock, ∀ b ∈ vi.ownBlock, a ≠ b
  keeps : Spares [q] w0 wr
  at_ : q < w0.heap.size

theorem Acc.size {wv w0 : World} {q : Nat} {ks : List (List UInt8)} {ts : List VT} {vk vi : Value} {xs : List Value} {wr : World} (h : Acc wv w0 q ks ts vk vi xs wr) : q < wr.heap.size := (Array.getElem?_eq_some_iff.1 h.box).1

/-- A value whose kind is 6 and that has these keys and items. -/
def objOf (ks : List (List UInt8)) (ts : List VT) : VT := .mk 6 false [] ts ks

theorem Acc.form {wv w0 : World} {q : Nat} {ks : List (List UInt8)} {ts : List VT} {vk vi : Value} {xs : List Value} {wr : World} (h : Acc wv w0 q ks ts vk vi xs wr) : ∃ ak ck ai ci, vk = .slice ak ks.length ck ∧ vi = .slice ai ts.length ci := by
  obtain ⟨ak, ck, e1, _⟩ := OwnS.form ⟨ownsRow_zero h.keys, rfl⟩
  obtain ⟨ai, ci, e2, _⟩ := OwnS.form ⟨ownsRow_zero h.items, rfl⟩
  exact ⟨ak, ck, ai, ci, e1, e2⟩
theorem ownsRow_keep {w w' : World} {base : Nat} {e : TypeId} {size : Nat} {v : Value} {n : Nat} {xs : List Value} (h : w.ownsRow base e size v n xs) (hk : ∀ b ∈ v.ownBlock, w'.heap[b]? = w.heap[b]?) : w'.ownsRow base e size v n xs := by
  refine ⟨h.1, ?_⟩
  rcases h.2 with h2 | ⟨g, cap, cur, rfl, hb, hg, r⟩
  · exact .inl h2
  · exact .inr ⟨g, cap, cur, rfl, hb, (hk g (by simp [Value.ownBlock])).trans hg, r⟩

theorem Acc.cell {wv w0 : World} {q : Nat} {ks : List (List UInt8)} {ts : List VT} {vk vi : Value} {xs : List Value} {wr : World} (h : Acc wv w0 q ks ts vk vi xs wr) {p : Addr} (hp : p.block < w0.heap.size) (hn : p.block ≠ q) : wr.cell? p = w0.cell? p := h.keeps.cell hp (by simp [hn])
theorem Acc.blk {wv w0 : World} {q : Nat} {ks : List (List UInt8)} {ts : List VT} {vk vi : Value} {xs : List Value} {wr : World} (h : Acc wv w0 q ks ts vk vi xs wr) {b : Nat} (hp : b < w0.heap.size) (hn : b ≠ q) : wr.heap[b]? = w0.heap[b]? := h.keeps.block b hp (by simp [hn])
theorem Acc.below {wv w0 : World} {q : Nat} {ks : List (List UInt8)} {ts : List VT} {vk vi : Value} {xs : List Value} {wr w : World} (h : Acc wv w0 q ks ts vk vi xs wr) (hb : Below w.heap.size w w0) (hq : w.heap.size ≤ q) : Below w.heap.size w wr :=
  Below.spared hb h.keeps hb.size (fun k hk => by simp at hk; omega)
theorem Spares.store {q o : Nat} {v : Value} {a b : World} (h : Spares [q] a b) : Spares [q] a (b.setCell ⟨q, o, none⟩ v) :=
  ⟨h.os, h.tape, h.output, by simpa [World.setCell] using h.size, fun k hk hn => by
    have hkq : k ≠ q := by simpa using hn
    have : (b.setCell ⟨q, o, none⟩ v).heap[k]? = b.heap[k]? := by simp [World.setCell, Array.getElem?_modify, Ne.symm hkq]
    exact this.trans (h.block k hk hn)⟩
/-- Behind an append to one row, and the store. -/
theorem acc_step {w0 wr wa w3 : World} {q : Nat} {v v' o : Value} (ha : Below wr.heap.size wr wa) (hg : wa.grownBy w3 v.ownBlock) (hv : v'.ownBlock = v.ownBlock ∨ v'.ownBlock = some wa.heap.size)
    (hvlt : ∀ b ∈ v.ownBlock, w0.heap.size ≤ b ∧ b < wr.heap.size) (holt : ∀ b ∈ o.ownBlock, w0.heap.size ≤ b ∧ b < wr.heap.size) (hap : ∀ a ∈ v.ownBlock, ∀ b ∈ o.ownBlock, a ≠ b) (hq : q < w0.heap.size) (hb : Spares [q] w0 wr) :
    w3.heap[q]? = wr.heap[q]? ∧ (∀ b ∈ o.ownBlock, w3.heap[b]? = wr.heap[b]?) ∧ (∀ a ∈ v'.ownBlock, ∀ b ∈ o.ownBlock, a ≠ b) ∧ Spares [q] w0 w3 := by
  have hs := ha.size
  have hs0 := hb.size
  have hk : ∀ b, b < wr.heap.size → b ∉ v.ownBlock → w3.heap[b]? = wr.heap[b]? := fun b hb1 hb2 => by
    rw [hg.block b (by omega) (fun e => hb2 (by rw [← e]; rfl))]
    exact ha.block b hb1
  refine ⟨hk q (by omega) fun hm => by have := (hvlt q hm).1; omega, fun b hb1 => hk b (holt b hb1).2 (fun hm => hap b hm b hb1 rfl), fun a ha' b hb' e => ?_, ?_⟩
  · rcases hv with hv | hv
    · rw [hv] at ha'; exact hap a ha' b hb' e
    · rw [hv] at ha'
      have : wa.heap.size = a := by simpa using ha'
      have := (holt b hb').2
      omega
  · have s1 : Spares (q :: v.ownBlock.toList) w0 wr := hb.sub fun k hk _ => by simp at hk; simp [hk]
    have s2 : Spares (q :: v.ownBlock.toList) wr wa := Spares.of_below ha
    have s3 : Spares (q :: v.ownBlock.toList) wa w3 := Spares.grown hg fun k e => by simp [e]
    refine ((s1.trans s2).trans s3).sub fun k hk hlt => ?_
    rcases List.mem_cons.1 hk with rfl | hk
    · simp
    · have := (hvlt k (by simpa using hk)).1
      omega

theorem Acc.key {wv w0 : World} {q : Nat} {ks : List (List UInt8)} {ts : List VT} {vk vi : Value} {xs : List Value} {wr : World} (h : Acc wv w0 q ks ts vk vi xs wr) {wa w3 : World} {v' : Value} {k : List UInt8} (ha : Below wr.heap.size wr wa)
    (hown : w3.ownsRow w0.heap.size 9 1 v' (ks.length + 1) (strV ks ++ [str k])) (hg : wa.grownBy w3 vk.ownBlock) (hv : v'.ownBlock = vk.ownBlock ∨ v'.ownBlock = some wa.heap.size) : Acc wv w0 q (ks ++ [k]) ts v' vi xs (w3.setCell ⟨q, 4, none⟩ v') := by
  obtain ⟨h1, h2, h3, h4⟩ := acc_step (w0 := w0) ha hg hv (fun b hb => h.keys.lt b hb) (fun b hb => h.items.lt b hb) h.apart h.at_ h.keeps
  have hkk : ∀ b, b ≠ q → (w3.setCell ⟨q, 4, none⟩ v').heap[b]? = w3.heap[b]? := fun b hb => by simp [World.setCell, Array.getElem?_modify, Ne.symm hb]
  refine ⟨?_, ?_, ?_, h.len, h.each, h3, h4.store, h.at_⟩
  · simp [World.setCell, Array.getElem?_modify, h1, h.box]
  · have : (strV (ks ++ [k])) = strV ks ++ [str k] := by simp [strV]
    rw [this, List.length_append]
    exact ownsRow_keep hown fun b hb => hkk b (by have := (hown.lt b hb).1; have := h.at_; omega)
  · exact ownsRow_keep h.items fun b hb => (hkk b (by have := (h.items.lt b hb).1; have := h.at_; omega)).trans (h2 b hb)

theorem Acc.item {wv w0 : World} {q : Nat} {ks : List (List UInt8)} {ts : List VT} {vk vi : Value} {xs : List Value} {wr : World} (h : Acc wv w0 q ks ts vk vi xs wr) {wa w3 : World} {v' x : Value} {t : VT} (ha : Below wr.heap.size wr wa) (hx : ValAt wv t x)
    (hown : w3.ownsRow w0.heap.size 41 5 v' (ts.length + 1) (cellsV xs ++ x.cells.toList)) (hg : wa.grownBy w3 vi.ownBlock) (hv : v'.ownBlock = vi.ownBlock ∨ v'.ownBlock = some wa.heap.size) : Acc wv w0 q ks (ts ++ [t]) vk v' (xs ++ [x]) (w3.setCell ⟨q, 3, none⟩ v') := by
  obtain ⟨h1, h2, h3, h4⟩ := acc_step (w0 := w0) ha hg hv (fun b hb => h.items.lt b hb) (fun b hb => h.keys.lt b hb) (fun a ha b hb e => h.apart b hb a ha e.symm) h.at_ h.keeps
  have hkk : ∀ b, b ≠ q → (w3.setCell ⟨q, 3, none⟩ v').heap[b]? = w3.heap[b]? := fun b hb => by simp [World.setCell, Array.getElem?_modify, Ne.symm hb]
  refine ⟨?_, ?_, ?_, by simp [h.len], fun i hi hi' => ?_, fun a ha b hb e => h3 b hb a ha e.symm, h4.store, h.at_⟩
  · simp [World.setCell, Array.getElem?_modify, h1, h.box]
  · exact ownsRow_keep h.keys fun b hb => (hkk b (by have := (h.keys.lt b hb).1; have := h.at_; omega)).trans (h2 b hb)
  · rw [cellsV_append, List.length_append]
    have : cellsV [x] = x.cells.toList := by simp [cellsV]
    rw [this]
    exact ownsRow_keep hown fun b hb => hkk b (by have := (hown.lt b hb).1; have := h.at_; omega)
  · have hl := h.len
    by_cases hlt : i < ts.length
    · rw [List.getElem_append_left hlt, List.getElem_append_left (by omega)]
      exact h.each i hlt (by omega)
    · have : i = ts.length := by simp at hi; omega
      subst this
      simpa [← hl] using hx

/-- The rows of an object of one's own: newer than w0; its items were there in wv. -/
def RowsOf (wv w0 : World) (ks : List (List UInt8)) (ts : List VT) (vk vi : Value) (w' : World) : Prop :=
  ∃ xs, w'.ownsRow w0.heap.size 9 1 vk ks.length (strV ks) ∧ w'.ownsRow w0.heap.size 41 5 vi ts.length (cellsV xs) ∧ xs.length = ts.length ∧ ∀ i (h : i < ts.length) (h' : i < xs.length), ValAt wv ts[i] xs[i]
theorem ownsRow_low {w : World} {base b' : Nat} {e : TypeId} {size : Nat} {v : Value} {n : Nat} {xs : List Value} (h : w.ownsRow base e size v n xs) (hb : b' ≤ base) : w.ownsRow b' e size v n xs := by
  refine ⟨h.1, ?_⟩
  rcases h.2 with h2 | ⟨g, cap, cur, hv, hg, r⟩
  · exact .inl h2
  · exact .inr ⟨g, cap, cur, hv, Nat.le_trans hb hg, r⟩
/-- In a world that has kept all from w0 on. -/
theorem Acc.rows {wv w0 wl : World} {q : Nat} {ks : List (List UInt8)} {ts : List VT} {vk vi : Value} {xs : List Value} {wr w' : World} (h : Acc wv w0 q ks ts vk vi xs wr) (hk : ∀ b, w0.heap.size ≤ b → w'.heap[b]? = wr.heap[b]?) (hl : wl.heap.size ≤ w0.heap.size) : RowsOf wv wl ks ts vk vi w' :=
  ⟨xs, ownsRow_low (ownsRow_keep (w' := w') h.keys fun b hb => hk b (h.keys.lt b hb).1) hl, ownsRow_low (ownsRow_keep (w' := w') h.items fun b hb => hk b (h.items.lt b hb).1) hl, h.len, h.each⟩
theorem RowsOf.val {wv w0 : World} {ks : List (List UInt8)} {ts : List VT} {vk vi : Value} {w' : World} (h : RowsOf wv w0 ks ts vk vi w') (hb : Below wv.heap.size wv w') : ValAt w' (objOf ks ts) (.agg #[.int .i64 6, .bool false, .string ⟨#[]⟩, vi, vk]) := by
  obtain ⟨xs, h2, h3, hl, he⟩ := h
  have h5 : ∀ x ∈ xs, ∃ c0 c1 c2 c3 c4, x = .agg #[c0, c1, c2, c3, c4] := fun x hx => by
    obtain ⟨i, hi, rfl⟩ := List.getElem_of_mem hx
    obtain ⟨a, b, c, d, e⟩ := (he i (by rw [← hl]; exact hi) hi).form
    exact ⟨_, _, _, _, _, e⟩
  unfold objOf
  rw [ValAt]
  refine ⟨vi, vk, rfl, by simp, (OwnS.strs ⟨ownsRow_zero h2, rfl⟩), _, OwnS.rows (xs := xs) ⟨ownsRow_zero h3, rfl⟩ hl h5, ?_⟩
  rw [ValsAt_iff]
  intro i hi
  have hx : i < xs.length := by rw [hl]; exact hi
  have := (he i hi hx).mono hb
  simpa [List.getD, hx] using this
theorem Acc.key_box {wv w0 : World} {q : Nat} {ks : List (List UInt8)} {ts : List VT} {vk vi : Value} {xs : List Value} {wr : World} (h : Acc wv w0 q ks ts vk vi xs wr) {wa w3 : World} {v' : Value} (ha : Below wr.heap.size wr wa)
    (hg : wa.grownBy w3 vk.ownBlock) (hv : v'.ownBlock = vk.ownBlock ∨ v'.ownBlock = some wa.heap.size) : w3.heap[q]? = some (.cells #[.int .i64 6, .bool false, .string ⟨#[]⟩, vi, vk] 41 (0, 0)) :=
  (acc_step (w0 := w0) ha hg hv (fun b hb => h.keys.lt b hb) (fun b hb => h.items.lt b hb) h.apart h.at_ h.keeps).1.trans h.box
theorem Acc.item_box {wv w0 : World} {q : Nat} {ks : List (List UInt8)} {ts : List VT} {vk vi : Value} {xs : List Value} {wr : World} (h : Acc wv w0 q ks ts vk vi xs wr) {wa w3 : World} {v' : Value} (ha : Below wr.heap.size wr wa)
    (hg : wa.grownBy w3 vi.ownBlock) (hv : v'.ownBlock = vi.ownBlock ∨ v'.ownBlock = some wa.heap.size) : w3.heap[q]? = some (.cells #[.int .i64 6, .bool false, .string ⟨#[]⟩, vi, vk] 41 (0, 0)) :=
  (acc_step (w0 := w0) ha hg hv (fun b hb => h.items.lt b hb) (fun b hb => h.keys.lt b hb) (fun a ha b hb e => h.apart b hb a ha e.symm) h.at_ h.keeps).1.trans h.box
theorem slice_of {w : World} {base : Nat} {e : TypeId} {size : Nat} {v : Value} {n : Nat} {xs : List Value} (h : w.ownsRow base e size v n xs) : ∃ a c, v = .slice a n c := by
  obtain ⟨a, c, e, _⟩ := OwnS.form ⟨ownsRow_zero h, rfl⟩
  exact ⟨a, c, e⟩

end Go.Proofs.YtpbipngnoklmcaaGreatDoor
