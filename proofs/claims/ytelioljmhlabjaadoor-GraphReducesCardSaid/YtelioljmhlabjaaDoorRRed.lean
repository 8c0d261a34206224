/- Walk of the reference's Reduce: each edge without which its end isn't reached. -/
import Derived.Test.YtelioljmhlabjaaDoorRReach
import Derived.Test.YtelioljmhlabjaaDoorG1
import Derived.Test.YtelioljmhlabjaaDoorOwn
import Derived.Test.YtelioljmhlabjaaDoorRedP
namespace Go.Proofs.YtelioljmhlabjaaDoor
open Go.RowKit
set_option maxRecDepth 100000

/-- The reference's test. -/
noncomputable def aloneB (n : Nat) (es : List (Int × Int)) (a b : Nat) : Bool := hasE es a b && !((marks n (wayL n es ((a : Int), (b : Int)) a)).getD b false)

theorem alone_red {n : Nat} {es : List (Int × Int)} (hes : ∀ e ∈ es, 0 ≤ e.1 ∧ e.1 < n ∧ 0 ≤ e.2 ∧ e.2 < n) (h : (kahn n es).length = n) : gridL n (aloneB n es) = redL n es := by
  apply gridL_congr
  intro a b _ hb
  have hh : hasE es a b = true ↔ EdgeL es a b := by
    unfold hasE EdgeL
    simp only [List.any_eq_true, Bool.and_eq_true, beq_iff_eq]
    constructor
    · rintro ⟨e, he, h1, h2⟩
      have : e = ((a : Int), (b : Int)) := by rw [← h1, ← h2]
      rw [← this]; exact he
    · intro he
      exact ⟨_, he, rfl, rfl⟩
  have hw : (marks n (wayL n es ((a : Int), (b : Int)) a)).getD b false = true ↔ Way (Edge es ((a : Int), (b : Int))) a b := by
    rw [marks_get n _ b hb, List.contains_iff_mem, mem_wayL]
    exact ⟨fun h => h.2, fun h => ⟨hb, h⟩⟩
  unfold aloneB
  rw [Bool.eq_iff_iff, redB_true, Bool.and_eq_true, hh, Bool.not_eq_true', ← Bool.not_eq_true, hw]
  refine red_without (rises_kahn hes h) fun x y => ?_
  unfold Edge EdgeL
  refine and_congr_right fun _ => not_congr ⟨fun e => ?_, fun ⟨e1, e2⟩ => by rw [e1, e2]⟩
  have e1 := congrArg Prod.fst e
  have e2 := congrArg Prod.snd e
  simp only at e1 e2
  omega

/-- Rows of a grid, and a row under way. -/
def rowG (p : Nat → Nat → Bool) (a b : Nat) : List (Int × Int) := ((List.range b).filter (p a)).map fun b : Nat => ((a : Int), (b : Int))
def rowsG (n : Nat) (p : Nat → Nat → Bool) (a : Nat) : List (Int × Int) := (List.range a).flatMap fun a => rowG p a n
theorem rowsG_all (n : Nat) (p : Nat → Nat → Bool) : rowsG n p n = gridL n p := rfl
theorem rowsG_succ (n : Nat) (p : Nat → Nat → Bool) (a : Nat) : rowsG n p (a + 1) = rowsG n p a ++ rowG p a n := by
  unfold rowsG
  rw [List.range_succ, List.flatMap_append]
  simp
theorem rowG_succ (p : Nat → Nat → Bool) (a b : Nat) : rowG p a (b + 1) = if p a b = true then rowG p a b ++ [((a : Int), (b : Int))] else rowG p a b := by
  unfold rowG
  rw [List.range_succ, List.filter_append, List.map_append]
  by_cases h : p a b = true <;> simp [h]
theorem rowG_len (p : Nat → Nat → Bool) (a b : Nat) : (rowG p a b).length ≤ b := by
  unfold rowG
  rw [List.length_map]
  exact Nat.le_trans (List.length_filter_le _ _) (by simp)
theorem rowsG_len (n : Nat) (p : Nat → Nat → Bool) : ∀ a, (rowsG n p a).length ≤ a * n
  | 0 => by simp [rowsG]
  | a + 1 => by
    rw [rowsG_succ, List.length_append, Nat.add_mul, Nat.one_mul]
    have := rowsG_len n p a
    have := rowG_len p a n
    omega
theorem pairCells_snoc' (l : List (Int × Int)) (a b : Int) : pairCells (l ++ [(a, b)]) = pairCells l ++ [.int .i64 a, .int .i64 b] := by simp [pairCells]

theorem cells_new (w : World) (x y : Value) (T : TypeId) : ∀ (j : Nat) (u : Value), [x, y][j]? = some u → (w.alloc (.cells #[x, y] T)).cell? ((⟨w.heap.size, 0, none⟩ : Addr).add j) = some u := by
  intro j u hu
  rw [Addr.add_lit, cell_of_row _ _ _ _ _ _ (heap_alloc_new w (.cells #[x, y] T))]
  simpa using hu

def RRedPost (n : Nat) (es : List (Int × Int)) (w : World) (e : Ending) (w' : World) : Prop :=
  ∃ v', e = .returned v' ∧ PairsAt w' v' (gridL n (aloneB n es)) ∧ Below w.heap.size w w'

set_option maxHeartbeats 4000000 in
theorem rreduce_any (v : Value) (es : List (Int × Int)) (n : Nat) (w : World) (h : PairsAt w v es) (hn : n ≤ 512) (hes : ∀ e ∈ es, 0 ≤ e.1 ∧ e.1 < n ∧ 0 ≤ e.2 ∧ e.2 < n) :
    Calls Tryd.prog 28 #[.int .i64 n, v] w (RRedPost n es w) := by
  obtain ⟨i34, hi34, hz34, hs34, hy34⟩ := info_parts Tryd.info34
  have HES := Lib.hid hes
  clear hes
  go_enter Tryd.func28, Tryd.ntmps28
  go_wp2
  go_loopw [5, 6] (fun v5 v6 wr => ∃ a : Nat, a ≤ n ∧ v6 = .int .i64 a ∧ wr.ownsRow w.heap.size 34 2 v5 (rowsG n (aloneB n es) a).length (pairCells (rowsG n (aloneB n es) a)) ∧ Below w.heap.size w wr) (fun _ v6 _ => n - (intOf v6).toNat)
  case atStart => exact ⟨0, by omega, rfl, World.ownsRow_nil _ _ _ _, Below.refl _ _⟩
  case round =>
    obtain ⟨a, ha, rfl, hown, hb⟩ := hrel
    by_cases han : a < n
    · have hda : decide ((a : Int) < (n : Int)) = true := by simpa using han
      have hrs : Hid (rowsG n (aloneB n es) (a + 1) = rowsG n (aloneB n es) a ++ rowG (aloneB n es) a n) := rowsG_succ _ _ _
      have hrl := rowsG_len n (aloneB n es) a
      have hrl2 : a * n ≤ 512 * 512 := Nat.mul_le_mul (by omega) hn
      go_wp2
      obtain ⟨w1, rfl⟩ : ∃ w1 : World, w1 = wr := ⟨_, rfl⟩
      go_loopw [5, 7] (fun v5 v7 wr => ∃ b : Nat, b ≤ n ∧ v7 = .int .i64 b ∧ wr.ownsRow w.heap.size 34 2 v5 (rowsG n (aloneB n es) a ++ rowG (aloneB n es) a b).length (pairCells (rowsG n (aloneB n es) a ++ rowG (aloneB n es) a b)) ∧ Below w.heap.size w wr) (fun _ v7 _ => n - (intOf v7).toNat)
      case atStart => exact ⟨0, by omega, rfl, by simpa [rowG] using hown, hb⟩
      case round =>
        obtain ⟨b, hb', rfl, hownb, hbb⟩ := hrel
        clear hown hb
        by_cases hbn : b < n
        · have hPr := h.mono hbb
          have HA := has_any v es a b wr hPr
          have hstep : Hid (rowG (aloneB n es) a (b + 1) = if aloneB n es a b = true then rowG (aloneB n es) a b ++ [((a : Int), (b : Int))] else rowG (aloneB n es) a b) := rowG_succ _ _ _
          have hrgl := rowG_len (aloneB n es) a b
          have hlen : (rowsG n (aloneB n es) a ++ rowG (aloneB n es) a b).length ≤ 512 * 512 + 512 := by rw [List.length_append]; omega
          have hal : Hid (aloneB n es a b = (hasE es a b && !((marks n (wayL n es ((a : Int), (b : Int)) a)).getD b false))) := rfl
          obtain ⟨xs, hx⟩ : ∃ xs, xs = rowsG n (aloneB n es) a ++ rowG (aloneB n es) a b := ⟨_, rfl⟩
          rw [← hx] at hownb hlen
          have hxs : Hid (rowsG n (aloneB n es) a ++ rowG (aloneB n es) a b = xs) := hx.symm
          clear hx hrgl
          by_cases hh : hasE es a b = true
          · rw [hh] at HA
            have RR := rreach_any v es n a a b wr hPr hn HES.out
            go_wp2_with (go_at_call 54; refine HA.mono ?_; rintro e w' ⟨rfl, rfl⟩)
            refine RR.mono ?_
            rintro e w2 ⟨rb, rfl, hrb, hb2, _⟩
            have hcell := hrb.cell (i := b) (by rw [marks_len]; exact hbn)
            generalize (marks n (wayL n es ((a : Int), (b : Int)) a)).getD b false = z at hcell hal
            have hown2 := own_below hownb hb2
            have hbb2 : Below w.heap.size w w2 := hbb.trans (hb2.mono hbb.size)
            rw [hh] at hal
            clear hrb hb2 hownb hbb RR HA hPr hh
            cases z
            · have hrow : Hid (rowG (aloneB n es) a (b + 1) = rowG (aloneB n es) a b ++ [((a : Int), (b : Int))]) := by
                rw [Hid, hstep.out, if_pos (by rw [hal.out]; rfl)]
              go_wp2_with (at_builtin; refine wpList_append_fresh _ rfl (.tmp 35) (.tmp 39) 22 rfl w.heap.size 34 i34 _ 2 16 Tryd.underlying22 hi34 hz34 hs34 hy34 rfl (by decide) _ _ _ rfl (hown2.alloc _) ⟨w2.heap.size, 0, none⟩ 1 1 [.int .i64 a, .int .i64 b] rfl rfl ?a1 ?a2 ?a3 ?a4 ?a5 ?_)
              case a1 => exact cells_new _ _ _ _
              case a2 => intro u hu; simp at hu; rcases hu with rfl | rfl <;> rfl
              case a3 => unfold maxLen; omega
              case a4 => omega
              case a5 => have := hbb2.size; simp; omega
              intro v' w5 hown5 hgrow5 _
              have hown6 : w5.ownsRow w.heap.size 34 2 v' (xs ++ [((a : Int), (b : Int))]).length (pairCells (xs ++ [((a : Int), (b : Int))])) := by
                rw [pairCells_snoc', List.length_append]; exact hown5
              have hb5 : Below w.heap.size w w5 := (hbb2.alloc hbb2.size _).grown hgrow5 (by have := hbb2.size; simp; omega) (fun k e => (hown2.lt _ e).1)
              clear hown5 hgrow5 hown2 hbb2
              go_wp2
              go_roundw
              case rel => exact ⟨b + 1, by omega, by go_num, by rw [hrow.out, ← List.append_assoc, hxs.out]; exact hown6, hb5⟩
              case measure => simp [intOf]; omega
            · have hrow : Hid (rowG (aloneB n es) a (b + 1) = rowG (aloneB n es) a b) := by
                rw [Hid, hstep.out, if_neg (by rw [hal.out]; simp)]
              go_wp2
              go_roundw
              case rel => exact ⟨b + 1, by omega, by go_num, by rw [hrow.out, hxs.out]; exact hown2, hbb2⟩
              case measure => simp [intOf]; omega
          · have hf : hasE es a b = false := by simpa using hh
            have hrow : Hid (rowG (aloneB n es) a (b + 1) = rowG (aloneB n es) a b) := by
              rw [Hid, hstep.out, if_neg (by rw [hal.out, hf]; simp)]
            rw [hf] at HA
            clear hal
            go_wp2_with (go_at_call 54; refine HA.mono ?_; rintro e w' ⟨rfl, rfl⟩)
            go_roundw
            case rel => exact ⟨b + 1, by omega, by go_num, by rw [hrow.out, hxs.out]; exact hownb, hbb⟩
            case measure => simp [intOf]; omega
        · have hbe : b = n := by omega
          rw [hbe, ← hrs.out] at hownb
          have hbn' : ¬ (b : Int) < (n : Int) := by omega
          go_wp2
          go_roundw
          case rel => exact ⟨a + 1, by omega, by go_num, hownb, hbb⟩
          case measure => simp [intOf]; omega
    · have hae : a = n := by omega
      rw [hae, rowsG_all] at hown
      have hgl : (gridL n (aloneB n es)).length ≤ n * n := rowsG_len n (aloneB n es) n
      have hnn : n * n ≤ 512 * 512 := Nat.mul_le_mul hn hn
      have han' : ¬ (a : Int) < (n : Int) := by omega
      go_wp2
      go_ret
      exact ⟨_, rfl, pairs_of_own hown (by omega), hb⟩

end Go.Proofs.YtelioljmhlabjaaDoor
