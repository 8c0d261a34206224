/- Scan's answers, by the error alone; blocks of bytes. -/
import Derived.Test.YtgmgmjddadgkkaaDoorLxS
import Derived.Test.YtgmgmjddadgkkaaDoorLexU
import Derived.OwnWalk
import Derived.Deep.Cut
namespace Go.Proofs.YtgmgmjddadgkkaaDoor
open Go.RowKit
set_option maxRecDepth 100000
attribute [local go_sem] str_size str_toList str_get

theorem scan_no {l : Bs} (h : errOf (scanP l) = none) (w : World) (hM : MaxW w) :
    Calls Tryd.prog 8 #[str l] w fun e w' => (∃ v, e = .returned (.tuple #[v, .pointer none])) ∧ Below w.heap.size w w' := by
  cases hs : scanP l with
  | error x => rw [hs] at h; cases h
  | ok ts =>
    refine (scan_ok hs w hM).mono ?_
    rintro e w' ⟨v, rfl, _, hb⟩
    exact ⟨⟨v, rfl⟩, hb⟩
theorem scan_yes {l : Bs} {c : Int} {a : Nat} (h : errOf (scanP l) = some (c, a)) (hl : l.length ≤ 9223372036854775807) (w : World) (hM : MaxW w) :
    Calls Tryd.prog 8 #[str l] w fun e w' => ∃ d, e = .returned (.tuple #[.slice none 0 0, .pointer (some ⟨d, 0, none⟩)]) ∧ (w.heap.size ≤ d ∧ d < w'.heap.size) ∧ w'.heap[d]? = some (.cells #[.int .i64 c, .string ⟨#[]⟩, .int .i64 a] 29 (0, 0)) ∧ Below w.heap.size w w' := by
  cases hs : scanP l with
  | ok ts => rw [hs] at h; cases h
  | error x =>
    rw [hs] at h
    have : x = (c, a) := Option.some.inj h
    subst this
    refine (scan_any l hl w hM).mono ?_
    rintro e w' ⟨hb, hp⟩
    rw [hs] at hp
    obtain ⟨d, hd, rfl, hc⟩ := hp
    exact ⟨d, rfl, ⟨hd, (Array.getElem?_eq_some_iff.1 hc).1⟩, hc, hb⟩
/-- A block of bytes. -/
def BlkB (w : World) (g : Nat) (l : Bs) : Prop := w.heap[g]? = some (.cells (l.map fun c => Value.int .u8 (c.toNat : Int)).toArray 5 (0, 0))
theorem BlkB.cell {w : World} {g : Nat} {l : Bs} (h : BlkB w g l) (i : Nat) (hi : i < l.length) : w.cell? ⟨g, i, none⟩ = some (.int .u8 ((l[i]'hi).toNat : Int)) := by
  have h' := h
  unfold BlkB at h'
  rw [Lib.cell_of_heap h']
  simp [hi]
theorem BlkB.frozen {w : World} {g : Nat} {l : Bs} (h : BlkB w g l) (i : Nat) : w.frozen? ⟨g, i, none⟩ = false := by
  have h' := h
  unfold BlkB at h'
  exact Lib.frozen_of_heap h' i
theorem BlkB.set {w : World} {g : Nat} {l : Bs} (h : BlkB w g l) (i : Nat) (c : UInt8) : BlkB (w.setCell ⟨g, i, none⟩ (.int .u8 (c.toNat : Int))) g (l.set i c) := by
  have h' := h
  unfold BlkB at h' ⊢
  rw [set_at h' i]
  simp
theorem BlkB.lt {w : World} {g : Nat} {l : Bs} (h : BlkB w g l) : g < w.heap.size := (Array.getElem?_eq_some_iff.1 h).1
theorem BlkB.mono {w w' : World} {g : Nat} {l : Bs} (h : BlkB w g l) (hb : Below w.heap.size w w') : BlkB w' g l := (hb.block g h.lt).trans h
/-- It as a text. -/
theorem BlkB.text {w : World} {g : Nat} {l : Bs} (h : BlkB w g l) (n cap : Nat) (hn : l.length = n) : (convert 35 9 (.slice (some ⟨g, 0, none⟩) n cap)).run Tryd.prog w = .ok (str l) w := by
  subst hn
  refine run_convert_bytes_back (P := Tryd.prog) w 35 9 5 ⟨g, 0, none⟩ cap l Tryd.underlying35 Tryd.underlying5 Tryd.underlying9 (fun j hj => ?_)
  have := h.cell j hj
  by_cases h0 : j = 0
  · subst h0; simpa [Addr.add] using this
  · simpa [Addr.add, h0] using this
theorem own_block {w : World} {base e size g n : Nat} {xs : List Value} (h : w.ownsRow base e size (.slice (some ⟨g, 0, none⟩) n n) n xs) : w.heap[g]? = some (.cells xs.toArray e (0, 0)) := by
  obtain ⟨_, h2⟩ := h
  rcases h2 with ⟨h0, _⟩ | ⟨g', cap, cur, hv, _, hh, _, _, hs, ht⟩
  · cases h0
  · cases hv
    rw [hh]
    congr 2
    rw [← ht, ← hs, ← Array.length_toList, List.take_length]

end Go.Proofs.YtgmgmjddadgkkaaDoor
