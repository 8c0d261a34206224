/- Rows of rules and of calls that came in. No condition. -/
import Derived.Test.YtpbipngnoklmcaaGreatDoorMWldRe
import Derived.Test.YtpbipngnoklmcaaGreatDoorMWldAw
import Derived.Deep.Strs
import Derived.SizedLaws
namespace Go.Proofs.YtpbipngnoklmcaaGreatDoor
open Go.ChangeShapes Go.WideShapes Go.ChangeAt Go.RowKit
set_option maxRecDepth 100000

theorem cellsAct : Tryz.prog.cellsOf 50 = 1 := by kernel_rfl
theorem cellsFail : Tryz.prog.cellsOf 52 = 2 := by kernel_rfl
instance : Inhabited OpT := ⟨⟨0, [], [], [], [], VT.none⟩⟩

theorem rows_cells {α : Type} {c : α → List Value} {k : Nat} (hk : ∀ x, (c x).length = k) {W : World} {b : Nat} : ∀ (xs : List α) (off : Nat), (∀ i x, xs[i]? = some x → ∀ j u, (c x)[j]? = some u → W.cell? ⟨b, off + (i * k + j), none⟩ = some u) → ∀ j u, (xs.flatMap c)[j]? = some u → W.cell? ⟨b, off + j, none⟩ = some u
  | [], _, _, j, u, h => by simp at h
  | x :: xs, off, hx, j, u, h => by
    rw [List.flatMap_cons] at h
    by_cases hj : j < k
    · rw [List.getElem?_append_left (by rw [hk]; exact hj)] at h
      have := hx 0 x rfl j u h
      rwa [Nat.zero_mul, Nat.zero_add] at this
    · rw [List.getElem?_append_right (by rw [hk]; omega), hk] at h
      have := rows_cells hk xs (off + k) (fun i y hy j' u' h' => by
        have := hx (i + 1) y hy j' u' h'
        rw [Nat.add_mul, Nat.one_mul] at this
        rw [show off + k + (i * k + j') = off + (i * k + k + j') by omega]
        exact this) (j - k) u h
      rwa [show off + k + (j - k) = off + j by omega] at this
theorem CellsAt.make {α : Type} {c : α → List Value} {k : Nat} (hk : ∀ x, (c x).length = k) (hk0 : 0 < k) {W : World} {a : Addr} {len cap : Nat} (xs : List α) (hl : xs.length = len) (hc : len ≤ cap) (hm : cap ≤ maxLen)
    (h : ∀ i x, xs[i]? = some x → ∀ j u, (c x)[j]? = some u → W.cell? ((a.add (i * k)).add j) = some u) : CellsAt W (.slice (some a) len cap) xs.length (xs.flatMap c) := by
  subst hl
  refine ⟨some a, cap, rfl, ⟨hc, by unfold maxLen at hm; omega, fun e => by cases e⟩, fun hne => ?_⟩
  obtain ⟨x, hx⟩ : ∃ x, xs[0]? = some x := ⟨_, List.getElem?_eq_getElem (by omega)⟩
  obtain ⟨u, hu⟩ : ∃ u, (c x)[0]? = some u := ⟨_, List.getElem?_eq_getElem (by rw [hk]; exact hk0)⟩
  have h0 := h 0 x hx 0 u hu
  have ea := addr_plain (by simpa [Addr.add] using h0 : W.cell? a = some _)
  refine ⟨a.block, a.off, by rw [← ea], World.block_lt_of_cell? W a (by simpa [Addr.add] using h0), fun j v hj => ?_⟩
  rw [Addr.add_lit]
  refine rows_cells hk xs a.off (fun i y hy j' u' h' => ?_) j v hj
  have := h i y hy j' u' h'
  rw [ea, Addr.add_lit, Addr.add_lit] at this
  rw [← Nat.add_assoc]
  exact this

section
variable {H : Type} {enc : TypeId × Value → H} {W : World}

theorem weightsAll_mem {P : Program} {e : TypeId} : ∀ {l : List (DataW H)} {d : DataW H}, d ∈ l → ∀ n ∈ d.weights P e, n ∈ DataW.weightsAll P e l
  | x :: l, d, h, n, hn => by
    simp only [DataW.weightsAll, List.mem_append]
    rcases List.mem_cons.1 h with rfl | h
    · exact Or.inl hn
    · exact Or.inr (weightsAll_mem h n hn)

theorem fails_of_trod {n : Nat} {c : Value} {y : DataW H × List MemPlace} (h : DataW.trod enc Tryz.prog W 0 (fun _ => true) true n 23 [c] = some y) : ∃ fs, CellsAt W c fs.length (failCells fs) := by
  rcases DataW.trod_slice Tryz.underlying23 h with ⟨hcs, _⟩ | ⟨a, len, cap, elems, rest, p, hp, hcs, _, _, hlc, hm, hel, hx, _⟩
  · obtain rfl : c = .slice none 0 0 := by simpa using hcs
    exact ⟨[], CellsAt.nil W⟩
  · obtain rfl : c = .slice (some a) len cap := by simpa using hcs
    have each : ∀ i, i < len → ∃ f : F2, ∀ j u, ([.int .i64 f.1, str f.2] : List Value)[j]? = some u → W.cell? ((a.add (i * 2)).add j) = some u := fun i hi => by
      have hxi := hx i hi
      rw [List.getElem?_eq_getElem (by omega)] at hxi
      obtain ⟨cs', g1, g2⟩ := Option.bind_eq_some_iff.1 hxi
      rw [cellsFail] at g1
      obtain ⟨_, hl, g3⟩ := World.cells?_some g1
      obtain ⟨y0, y1, m, _, _, h0, h1⟩ := trod_struct2 Tryz.underlying52 g2
      match cs', hl with
      | [c0, c1], _ =>
        simp only [cellsString, cellsAct, List.drop_zero, List.drop_succ_cons, List.take_succ_cons, List.take_zero] at h0 h1
        obtain ⟨k, e0, _, _⟩ := DataW.trod_int (show Tryz.prog.underlying 50 = some (.int .i64) from by kernel_rfl) h0
        obtain ⟨s1, e1, _, _⟩ := DataW.trod_string Tryz.underlying9 h1
        obtain ⟨⟨s1⟩⟩ := s1
        obtain rfl : c0 = .int .i64 k := by simpa using e0
        obtain rfl : c1 = .string ⟨⟨s1⟩⟩ := by simpa using e1
        refine ⟨(k, s1), fun j u hj => ?_⟩
        have hjl : j < 2 := (List.getElem?_eq_some_iff.1 hj).1
        exact (g3 j hjl).trans hj
    obtain ⟨f, hf⟩ := Deep.choose_lt each
    refine ⟨(List.range len).map f, CellsAt.make (k := 2) (fun x => rfl) (by omega) _ (by simp) hlc hm fun i x hi j u hj => ?_⟩
    have hil : i < len := by
      have := (List.getElem?_eq_some_iff.1 hi).1
      simpa using this
    have he : f i = x := by simpa [hil] using hi
    exact hf i hil j u (by rw [he]; exact hj)
theorem open_fails {b0 : Nat} {v : Value} {d : DataW H} {ps : List MemPlace} (hval : Value.okWide Tryz.prog W .any b0 23 v) (h : DataW.Trod enc Tryz.prog W 0 (fun _ => true) true 23 v d ps) : ∃ fs, CellsAt W v fs.length (failCells fs) := by
  obtain ⟨a0, len, cap, rfl⟩ := okWide_slice Tryz.underlying23 hval
  obtain ⟨fuel, hf⟩ := h
  exact fails_of_trod (c := .slice a0 len cap) hf

theorem ops_of_trod {n : Nat} {c : Value} {y : DataW H × List MemPlace} (h : DataW.trod enc Tryz.prog W 0 (fun _ => true) true n 24 [c] = some y) (hsz : ∀ m ∈ y.1.weights Tryz.prog 24, m ≤ reachBytes) : ∃ rs, OpsAt W c rs := by
  rcases DataW.trod_slice Tryz.underlying24 h with ⟨hcs, _⟩ | ⟨a, len, cap, elems, rest, p, hp, hcs, hy, _, hlc, hm, hel, hx, _⟩
  · obtain rfl : c = .slice none 0 0 := by simpa using hcs
    exact ⟨[], ⟨CellsAt.nil W, (fun r hr => by cases hr), (fun r hr => by cases hr)⟩⟩
  · obtain rfl : c = .slice (some a) len cap := by simpa using hcs
    have each : ∀ i, i < len → ∃ r : OR, (∀ j u, (oC r)[j]? = some u → W.cell? ((a.add (i * 10)).add j) = some u) ∧ ValAt W r.1.x (oV r) ∧ (r.1.addr.length ≤ 281474976710656 ∧ r.1.after.length ≤ 281474976710656 ∧ fitS r.1.typ ∧ fitS r.1.id) := fun i hi => by
      have hxi := hx i hi
      rw [List.getElem?_eq_getElem (by omega)] at hxi
      obtain ⟨cs', g1, g2⟩ := Option.bind_eq_some_iff.1 hxi
      rw [cellsOp] at g1
      obtain ⟨_, hl, g3⟩ := World.cells?_some g1
      obtain ⟨o, ai, ci, ak, ck, rfl, hk, ⟨l1, l2, l3, l4⟩, hv⟩ := op_of_trod p cs' _ g2 (fun m hm => hsz m (by
        rw [hy]
        simp only [DataW.weights, Tryz.underlying24]
        exact List.mem_cons_of_mem _ (List.mem_append_left _ (weightsAll_mem (List.mem_map.2 ⟨elems[i], List.getElem_mem _, rfl⟩) m hm))))
      refine ⟨(o, ai, ci, ak, ck), fun j u hj => ?_, hv, Nat.le_trans l1 (by decide), Nat.le_trans l2 (by decide), ?_, ?_⟩
      · have hjl : j < 10 := (List.getElem?_eq_some_iff.1 hj).1
        exact (g3 j hjl).trans hj
      · show fitS o.typ
        unfold fitS
        omega
      · show fitS o.id
        unfold fitS
        omega
    obtain ⟨f, hf⟩ := Deep.choose_lt each
    refine ⟨(List.range len).map f, ⟨CellsAt.make (k := 10) (fun x => rfl) (by omega) _ (by simp) hlc hm fun i x hi j u hj => ?_, fun r hr => ?_, fun r hr => ?_⟩⟩
    · have hil : i < len := by
        have := (List.getElem?_eq_some_iff.1 hi).1
        simpa using this
      have he : f i = x := by simpa [hil] using hi
      exact (hf i hil).1 j u (by rw [he]; exact hj)
    · obtain ⟨i, hi, rfl⟩ := List.mem_map.1 hr
      exact (hf i (by simpa using hi)).2.1
    · obtain ⟨i, hi, rfl⟩ := List.mem_map.1 hr
      exact (hf i (by simpa using hi)).2.2
theorem open_ops {b0 : Nat} {v : Value} {d : DataW H} {ps : List MemPlace} {j : Nat} {ts : List TypeId} {ds : List (DataW H)} (hval : Value.okWide Tryz.prog W .any b0 24 v) (h : DataW.Trod enc Tryz.prog W 0 (fun _ => true) true 24 v d ps)
    (hsz : (DataW.weightsEach Tryz.prog ts ds).all (· ≤ reachBytes) = true) (hts : ts[j]? = some 24) (hds : ds[j]? = some d) : ∃ rs, OpsAt W v rs := by
  obtain ⟨a0, len, cap, rfl⟩ := okWide_slice Tryz.underlying24 hval
  obtain ⟨fuel, hf⟩ := h
  obtain ⟨y, hy, hd⟩ : ∃ y, DataW.trod enc Tryz.prog W 0 (fun _ => true) true fuel 24 [.slice a0 len cap] = some y ∧ y.1 = d := ⟨_, hf, rfl⟩
  exact ops_of_trod hy fun m hm => by
    rw [hd] at hm
    have := List.all_eq_true.1 hsz m (DataW.weights_mem_each hts hds m hm)
    simpa using this
end

end Go.Proofs.YtpbipngnoklmcaaGreatDoor
