/- Regions that draw their order, whose operations make things of their own: each done operation's footprint, apart from all the others'. -/
import Derived.Test.YtgbalofdfdafmaaDoorFree
import Derived.Test.YtgbalofdfdafmaaDoorPutP
namespace Go.Proofs.YtgbalofdfdafmaaDoor
open Go.RowKit
set_option maxRecDepth 100000

/-- Behind the operations of L, whose values s holds: what each has left (E), in a footprint of its own. -/
def GG (E : (Nat → Bool) → (Nat → Value) → Nat → List Nat → World → Prop) (n : Nat) (wB : World) (L : Nat → Bool) (s : Nat → Value) (w : World) : Prop :=
  Below wB.heap.size wB w ∧ ∃ γ : Nat → List Nat, (∀ i, i < n → L i = true → E L s i (γ i) w ∧ (γ i).Nodup ∧ ∀ b ∈ γ i, wB.heap.size ≤ b ∧ b < w.heap.size) ∧
    ∀ i j, i < n → j < n → i ≠ j → L i = true → L j = true → ∀ a ∈ γ i, ∀ b ∈ γ j, a ≠ b
theorem GG.zero {E : (Nat → Bool) → (Nat → Value) → Nat → List Nat → World → Prop} {n : Nat} {wB : World} {s : Nat → Value} : GG E n wB (fun _ => false) s wB.drew :=
  ⟨(Below.refl _ _).drew, fun _ => [], (fun _ _ h => by cases h), (fun _ _ _ _ _ h => by cases h)⟩
/-- An operation that only adds to memory. -/
theorem GG.add {E : (Nat → Bool) → (Nat → Value) → Nat → List Nat → World → Prop} {n : Nat} {wB : World} {L : Nat → Bool} {s : Nat → Value} {w : World} (h : GG E n wB L s w) {i : Nat} (hL : L i = false) {v : Value} {w' : World} {F : List Nat} (hb : Below w.heap.size w w')
    (keep : ∀ j G, j < n → L j = true → (∀ b ∈ G, w'.heap[b]? = w.heap[b]?) → E L s j G w → E (fun j => L j || j == i) (updS s i v) j G w') (hE : E (fun j => L j || j == i) (updS s i v) i F w') (hn : F.Nodup) (hF : ∀ b ∈ F, w.heap.size ≤ b ∧ b < w'.heap.size) :
    GG E n wB (fun j => L j || j == i) (updS s i v) w' := by
  obtain ⟨h1, γ, h2, h3⟩ := h
  have hs := h1.size
  have hs' := hb.size
  refine ⟨h1.trans (hb.mono hs), fun j => if j = i then F else γ j, fun j hj hLj => ?_, fun j k hj hk hjk hLj hLk a ha b hb' => ?_⟩
  · by_cases e : j = i
    · subst e
      simp only [if_true]
      exact ⟨hE, hn, fun b hb => ⟨by have := (hF b hb).1; omega, (hF b hb).2⟩⟩
    · simp only [if_neg e]
      have hLj' : L j = true := by simpa [e] using hLj
      obtain ⟨g1, g2, g3⟩ := h2 j hj hLj'
      exact ⟨keep j _ hj hLj' (fun b hb' => hb.block b (g3 b hb').2) g1, g2, fun b hb => ⟨(g3 b hb).1, by have := (g3 b hb).2; omega⟩⟩
  · simp only at ha hb'
    by_cases e1 : j = i
    · rw [if_pos e1] at ha
      have e2 : ¬ k = i := fun e => hjk (by omega)
      rw [if_neg e2] at hb'
      have hLk' : L k = true := by simpa [e2] using hLk
      have := (h2 k hk hLk').2.2 b hb'
      have := hF a ha
      omega
    · rw [if_neg e1] at ha
      have hLj' : L j = true := by simpa [e1] using hLj
      by_cases e2 : k = i
      · rw [if_pos e2] at hb'
        have := (h2 j hj hLj').2.2 a ha
        have := hF b hb'
        omega
      · rw [if_neg e2] at hb'
        have hLk' : L k = true := by simpa [e2] using hLk
        exact h3 j k hj hk hjk hLj' hLk' a ha b hb'
/-- An operation that only reads. -/
theorem GG.read {E : (Nat → Bool) → (Nat → Value) → Nat → List Nat → World → Prop} {n : Nat} {wB : World} {L : Nat → Bool} {s : Nat → Value} {w : World} (h : GG E n wB L s w) {i : Nat} (hL : L i = false) {v : Value}
    (keep : ∀ j G, j < n → L j = true → (∀ b ∈ G, w.heap[b]? = w.heap[b]?) → E L s j G w → E (fun j => L j || j == i) (updS s i v) j G w) (hE : E (fun j => L j || j == i) (updS s i v) i [] w) :
    GG E n wB (fun j => L j || j == i) (updS s i v) w :=
  h.add hL (Below.refl _ w) keep hE (by simp) (by simp)

end Go.Proofs.YtgbalofdfdafmaaDoor
