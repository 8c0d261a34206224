/- Putting into an object of one's own: its rows, its blocks. No walk but slices.Insert's. -/
import Derived.Test.YtgbalofdfdafmaaDoorMi
import Derived.Test.YtgbalofdfdafmaaDoorValC
import Derived.Test.YtgbalofdfdafmaaDoorGet
namespace Go.Proofs.YtgbalofdfdafmaaDoor
open Go.RowKit
set_option maxRecDepth 100000

theorem Spares.drew' {F : List Nat} {a b : World} (h : Spares F a b) : Spares F a b.drew := h.trans (Spares.of_below (Below.refl _ b).drew)
theorem Spares.alloc' {F : List Nat} {a b : World} (h : Spares F a b) (o : Obj) : Spares F a (b.alloc o) := h.trans (Spares.of_below ((Below.refl _ b).alloc (Nat.le_refl _) o))
theorem Spares.cell {F : List Nat} {a b : World} (h : Spares F a b) {p : Addr} (hp : p.block < a.heap.size) (hn : p.block ∉ F) : b.cell? p = a.cell? p := World.cell?_of_block (h.block _ hp hn)

theorem cells_one {w : World} : ∀ {ts : List VT} {xs : List Value} {F : List Nat}, OwnVals w ts xs F → ∀ v ∈ cellsV xs, v.oneCell' = true
  | [], xs, F, h => by rw [OwnVals] at h; rw [h.1]; intro v hv; cases hv
  | t :: r, xs, F, h => by
    rw [OwnVals] at h
    obtain ⟨x, ys, Fx, Fr, rfl, rfl, h1, h2⟩ := h
    intro v hv
    rw [cellsV, List.flatMap_cons, List.mem_append] at hv
    rcases hv with hv | hv
    · obtain ⟨ai, ci, ak, ck, rfl⟩ := h1.at.form
      simp [Value.cells] at hv
      rcases hv with rfl | rfl | rfl | rfl | rfl <;> rfl
    · exact cells_one h2 v hv
theorem cell_one {w : World} {t : VT} {x : Value} (h : ValAt w t x) : ∀ v ∈ x.cells.toList, v.oneCell' = true := by
  obtain ⟨ai, ci, ak, ck, rfl⟩ := h.form
  intro v hv
  simp [Value.cells] at hv
  rcases hv with rfl | rfl | rfl | rfl | rfl <;> rfl

/-- What an insertion leaves: the row of the new elements, in its old block or in a new one. -/
def InsPost (e : TypeId) (size n : Nat) (xs : List Value) (F : List Nat) (W : World) (en : Ending) (w' : World) : Prop :=
  ∃ v' F', en = .returned v' ∧ OwnS w' e size v' n xs F' ∧ (F' = F ∨ F' = [W.heap.size]) ∧ Spares F W w'
theorem insPost_of {e : TypeId} {size n : Nat} {xs : List Value} {F : List Nat} {v v' : Value} {W w' : World} (hF : F = v.ownBlock.toList) (h1 : w'.ownsRow 0 e size v' n xs) (h2 : W.grownBy w' v.ownBlock) (h3 : v'.ownBlock = v.ownBlock ∨ v'.ownBlock = some W.heap.size) :
    InsPost e size n xs F W (.returned v') w' := by
  refine ⟨v', _, rfl, ⟨h1, rfl⟩, ?_, Spares.grown h2 (fun k hk => by rw [hF, hk]; simp)⟩
  rcases h3 with h3 | h3
  · left; rw [hF, h3]
  · right; rw [h3]; rfl
theorem strV_take (ks : List (List UInt8)) (i : Nat) : strV (ks.take i) = (strV ks).take i := by simp [strV]
theorem strV_ins (ks : List (List UInt8)) (key : List UInt8) (i : Nat) : strV (ks.take i ++ key :: ks.drop i) = (strV ks).take (i * 1) ++ [str key] ++ (strV ks).drop (i * 1) := by simp [strV]
theorem cellsV_one (x : Value) : cellsV [x] = x.cells.toList := by simp [cellsV]
theorem cellsV_ins {xs : List Value} (h : ∀ v ∈ xs, v.cells.size = 5) (x : Value) (i : Nat) : cellsV (xs.take i ++ x :: xs.drop i) = (cellsV xs).take (i * 5) ++ x.cells.toList ++ (cellsV xs).drop (i * 5) := by
  rw [show xs.take i ++ x :: xs.drop i = xs.take i ++ [x] ++ xs.drop i by simp, cellsV_append, cellsV_append, cellsV_take h, cellsV_drop h, cellsV_one]
theorem ins_len {α : Type} (l : List α) (x : α) {i : Nat} (hi : i ≤ l.length) : (l.take i ++ x :: l.drop i).length = l.length + 1 := by
  simp only [List.length_append, List.length_take, List.length_cons, List.length_drop]
  omega

theorem insert_keys (ks : List (List UInt8)) (key : List UInt8) (i : Nat) (v : Value) (F : List Nat) (vb vc : Nat) (W : World) (T : TypeId) (h : OwnS W 9 1 v ks.length (strV ks) F) (hi : i ≤ ks.length) (hl : ks.length ≤ 1000000)
    (hn : W.heap[vb]? = some (.cells #[str key] T (0, 0))) (hvb : vb ∉ F) :
    Calls Tryd.prog 57 #[v, .int .i64 i, .slice (some ⟨vb, 0, none⟩) 1 vc] W (InsPost 9 1 (ks.length + 1) (strV (ks.take i ++ key :: ks.drop i)) F W) := by
  have h0 := h.2
  refine (insert_S ks.length i vb vc v (strV ks) [str key] F W T h hi rfl hn hvb (strV_one ks) (by simp [Value.oneCell']) (by omega)).mono ?_
  rintro e w' ⟨v', rfl, h1, h2, h3⟩
  rw [strV_ins]
  exact insPost_of h0 h1 h2 h3
theorem insert_vals (n i : Nat) (xs : List Value) (x : Value) (v : Value) (F : List Nat) (vb vc : Nat) (W : World) (T : TypeId) (h : OwnS W 26 5 v n (cellsV xs) F) (hi : i ≤ n) (hl : n ≤ 1000000)
    (hn : W.heap[vb]? = some (.cells x.cells T (0, 0))) (hvb : vb ∉ F) (h5 : ∀ v ∈ xs, v.cells.size = 5) (h1 : ∀ v ∈ cellsV xs, v.oneCell' = true) (hx5 : x.cells.size = 5) (hx1 : ∀ v ∈ x.cells.toList, v.oneCell' = true) :
    Calls Tryd.prog 58 #[v, .int .i64 i, .slice (some ⟨vb, 0, none⟩) 1 vc] W (InsPost 26 5 (n + 1) (cellsV (xs.take i ++ x :: xs.drop i)) F W) := by
  have h0 := h.2
  refine (insert_V n i vb vc v (cellsV xs) x.cells.toList F W T h hi (by simpa using hx5) (by simpa using hn) hvb h1 hx1 (by omega)).mono ?_
  rintro e w' ⟨v', rfl, g1, h2, h3⟩
  rw [cellsV_ins h5]
  exact insPost_of h0 g1 h2 h3

theorem OwnVals.cons {w : World} {t : VT} {ts : List VT} {x : Value} {xs : List Value} {F G : List Nat} (h : OwnVal w t x F) (k : OwnVals w ts xs G) : OwnVals w (t :: ts) (x :: xs) (F ++ G) := by
  rw [OwnVals]
  exact ⟨x, xs, F, G, rfl, rfl, h, k⟩
theorem OwnVals.put {w : World} {ts : List VT} {xs : List Value} {F : List Nat} (h : OwnVals w ts xs F) (i : Nat) : ∃ G H, F = G ++ H ∧ ∀ {w' : World} {t : VT} {x : Value} {Fx : List Nat}, (∀ b ∈ F, w'.heap[b]? = w.heap[b]?) → OwnVal w' t x Fx →
    OwnVals w' (ts.take i ++ t :: ts.drop i) (xs.take i ++ x :: xs.drop i) (G ++ (Fx ++ H)) := by
  obtain ⟨G, H, rfl, h1, h2⟩ := h.split i
  exact ⟨G, H, rfl, fun hk hx => (h1.keep fun b hb => hk b (by simp [hb])).append (OwnVals.cons hx (h2.keep fun b hb => hk b (by simp [hb])))⟩
theorem OwnVals.over {w : World} {ts : List VT} {xs : List Value} {F : List Nat} (h : OwnVals w ts xs F) {i : Nat} (hi : i < ts.length) : ∃ G O H, F = G ++ (O ++ H) ∧ ∀ {w' : World} {t : VT} {x : Value} {Fx : List Nat}, (∀ b ∈ F, w'.heap[b]? = w.heap[b]?) → OwnVal w' t x Fx →
    OwnVals w' (ts.set i t) (xs.set i x) (G ++ (Fx ++ H)) := by
  have hl := h.len
  obtain ⟨G, H, rfl, h1, h2⟩ := h.split i
  rw [List.drop_eq_getElem_cons hi] at h2
  obtain ⟨y, ys, Fy, Fr, e, rfl, h3, h4⟩ := h2.head
  rw [List.drop_eq_getElem_cons (show i < xs.length by omega)] at e
  injection e with e1 e2
  refine ⟨G, Fy, Fr, rfl, fun hk hx => ?_⟩
  rw [List.set_eq_take_append_cons_drop, if_pos hi, List.set_eq_take_append_cons_drop, if_pos (by omega), e2]
  exact (h1.keep fun b hb => hk b (by simp [hb])).append (OwnVals.cons hx (h4.keep fun b hb => hk b (by simp [hb])))

theorem nodup_put {Fk Fi G O H Fx Fk' Fi' : List Nat} {m m1 : Nat} (hF : (Fk ++ (Fi ++ (G ++ (O ++ H)))).Nodup) (hx : Fx.Nodup) (hd : ∀ a ∈ Fk ++ (Fi ++ (G ++ (O ++ H))), ∀ b ∈ Fx, a ≠ b) (hk : Fk'.Nodup) (hi : Fi'.Nodup)
    (hk' : ∀ b ∈ Fk', b ∈ Fk ∨ (m ≤ b ∧ b < m1)) (hi' : ∀ b ∈ Fi', b ∈ Fi ∨ m1 ≤ b) (hlt : ∀ b ∈ Fk ++ (Fi ++ (G ++ (O ++ H))), b < m) (hltx : ∀ b ∈ Fx, b < m) (hm : m ≤ m1) : (Fk' ++ (Fi' ++ (G ++ (Fx ++ H)))).Nodup := by
  simp only [List.nodup_append, List.mem_append] at *
  grind

/-- What putting leaves. -/
def PutPost (t : VT) (F Fx : List Nat) (w : World) (e : Ending) (w' : World) : Prop :=
  ∃ v' F', e = .returned v' ∧ OwnVal w' t v' F' ∧ F'.Nodup ∧ (∀ b ∈ F', b ∈ F ∨ b ∈ Fx ∨ w.heap.size ≤ b) ∧ Spares F w w'

end Go.Proofs.YtgbalofdfdafmaaDoor
