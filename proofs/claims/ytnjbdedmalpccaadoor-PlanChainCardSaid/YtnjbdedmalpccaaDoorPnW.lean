/- Plain: the document's example of a plan. No walk. -/
import Derived.Test.YtnjbdedmalpccaaDoorPnJ
namespace Go.Proofs.YtnjbdedmalpccaaDoor
set_option maxRecDepth 100000

def nA : S8 := [116, 46, 97]
def nB : S8 := [116, 46, 98]
def nZ : S8 := [116, 46, 122]
def awX : List IX := [(⟨nA, [116], 6, false, [], none, 0, 0, none, 0, 0, 4, false, none, 0, 0⟩, []), (⟨nB, [116], 6, false, [], none, 0, 0, none, 0, 0, 2, false, none, 1, 1⟩, [nA])]
def awR : List RX := [(⟨nA, [116], [65], 6, false, [], none, 0, 0, none, 0, 0, none, 0, 0⟩, []), (⟨nB, [116], [66], 6, false, [], none, 0, 0, none, 0, 0, none, 1, 1⟩, [nA]), (⟨nZ, [116], [90], 6, false, [], none, 0, 0, none, 0, 0, none, 0, 0⟩, [])]
def awE : List (Int × Int) := [(0, 1), (0, 2), (2, 1)]
theorem aw_make : (makeS awX awR).edges = awE ∧ (makeS awX awR).steps = [⟨1, nA, [116], [], true⟩, ⟨5, [116, 46, 97, 126], [116], [65], true⟩, ⟨2, nB, [116], [66], false⟩, ⟨5, nZ, [116], [90], false⟩] := by
  unfold makeS
  rw [merge_fuel 5 awX awR _ (by decide)]
  exact ⟨by kernel_rfl, by kernel_rfl⟩
theorem aw_rng : ∀ e ∈ awE, 0 ≤ e.1 ∧ e.1 < ((4 : Nat) : Int) ∧ 0 ≤ e.2 ∧ e.2 < ((4 : Nat) : Int) := by decide
theorem aw_kahn : kahn 4 awE = [0, 2, 1, 3] := by decide
def awB (a b : Nat) : Bool := (a == 0 && b == 1) || (a == 0 && b == 2) || (a == 2 && b == 1)
theorem aw_edge (a b : Nat) : EdgeL awE a b ↔ awB a b = true := by
  unfold EdgeL awE awB
  simp
  omega
theorem aw_way (a b : Nat) : Way (EdgeL awE) a b ↔ awB a b = true := by
  constructor
  · intro h
    induction h with
    | one h => exact (aw_edge _ _).1 h
    | snoc _ h ih =>
      have h2 := (aw_edge _ _).1 h
      unfold awB at *
      simp at *
      omega
  · exact fun h => .one ((aw_edge _ _).2 h)
theorem aw_red : redL 4 awE = [(0, 2), (2, 1)] := by
  unfold redL
  rw [gridL_congr (q := fun a b => (a == 0 && b == 2) || (a == 2 && b == 1)) fun a b _ _ => ?_]
  · decide
  · rw [Bool.eq_iff_iff, redB_true]
    unfold Red
    simp only [aw_way]
    unfold awB
    simp
    constructor
    · rintro ⟨h1, h2⟩
      rcases h1 with (h1 | h1) | h1
      · have := h2 2
        omega
      · omega
      · omega
    · intro h
      refine ⟨by omega, fun m hm => by omega⟩
theorem aw_reduce (ts : List (Int × Int)) (hp : ts.Perm awE) : reduceR (4 : Nat) ts = ([(0, 2), (2, 1)], 0) := by
  have he : EdgeL ts = EdgeL awE := funext fun a => funext fun b => propext (by unfold EdgeL; exact hp.mem_iff)
  have hr : ∀ e ∈ ts, 0 ≤ e.1 ∧ e.1 < ((4 : Nat) : Int) ∧ 0 ≤ e.2 ∧ e.2 < ((4 : Nat) : Int) := fun e h => aw_rng e (hp.mem_iff.1 h)
  have hk : (kahn 4 ts).length = 4 := by
    rw [kahn_ways hr aw_rng (fun a b => by rw [he]), aw_kahn]
    rfl
  rw [reduce_good (look_zero (by omega) (by rw [hp.length_eq]; decide) hr (by simp)) hk, redL_congr (fs := awE) (fun a b => by rw [he]), aw_red]

end Go.Proofs.YtnjbdedmalpccaaDoor
