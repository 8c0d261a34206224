/- Plain: a plan's steps and edges do not hang on the addresses at which instances and records hold their parts. No walk. -/
import Derived.Test.YtnjbdedmalpccaaDoorPnF
namespace Go.Proofs.YtnjbdedmalpccaaDoor
set_option maxRecDepth 100000

def eraseI (x : InstT) : InstT := ⟨x.addr, x.typ, 0, false, [], none, 0, 0, none, 0, 0, x.action, false, none, 0, 0⟩
def eraseR (r : RecT) : RecT := ⟨r.addr, r.typ, r.id, 0, false, [], none, 0, 0, none, 0, 0, none, 0, 0⟩
def eraseX (x : IX) : IX := (eraseI x.1, x.2)
def eraseY (r : RX) : RX := (eraseR r.1, r.2)
/-- Alike but for addresses. -/
structure Sim (S T : PS) : Prop where
  act : S.act = T.act
  rcd : ∀ t, (S.rcd t).map eraseR = T.rcd t
  steps : S.steps = T.steps
  mak : S.mak = T.mak
  rem : S.rem = T.rem
  edges : S.edges = T.edges
theorem Sim.made {S T : PS} (h : Sim S T) (t : S8) : S.made t = T.made t := by unfold PS.made; rw [h.mak]
theorem Sim.gone {S T : PS} (h : Sim S T) (t : S8) : S.gone t = T.gone t := by unfold PS.gone; rw [h.rem]
theorem Sim.make {S T : PS} (h : Sim S T) (s : StepT) : Sim (S.make s) (T.make s) := by
  refine ⟨h.act, h.rcd, ?_, ?_, h.rem, h.edges⟩
  · show S.steps ++ [s] = T.steps ++ [s]; rw [h.steps]
  · show upd S.mak _ _ = upd T.mak _ _; rw [h.mak, h.steps]
theorem Sim.remove {S T : PS} (h : Sim S T) (r r' : RecT) (hr : eraseR r = eraseR r') (s : StepT) : Sim (S.remove r s) (T.remove r' s) := by
  have h1 : r.addr = r'.addr := by have e := congrArg (fun z : RecT => z.addr) hr; exact e
  have h2 : r.typ = r'.typ := by have e := congrArg (fun z : RecT => z.typ) hr; exact e
  have h3 : r.id = r'.id := by have e := congrArg (fun z : RecT => z.id) hr; exact e
  refine ⟨h.act, h.rcd, ?_, h.mak, ?_, h.edges⟩
  · show S.steps ++ [_] = T.steps ++ [_]; rw [h.steps, h2, h3]
  · show upd S.rem _ _ = upd T.rem _ _; rw [h.rem, h.steps, h1]
theorem Sim.ahead {S T : PS} (h : Sim S T) (a b : Nat) : Sim (S.ahead a b) (T.ahead a b) := by
  unfold PS.ahead
  split
  · exact ⟨h.act, h.rcd, h.steps, h.mak, h.rem, by show S.edges ++ _ = T.edges ++ _; rw [h.edges]⟩
  · exact h
theorem erase_idem (r : RecT) : eraseR (eraseR r) = eraseR r := rfl
theorem Sim.rec_ {S T : PS} (h : Sim S T) (t : S8) : eraseR ((S.rcd t).getD rec0) = eraseR ((T.rcd t).getD rec0) := by
  have := h.rcd t
  rw [← this]
  cases S.rcd t <;> rfl
theorem Sim.inst {S T : PS} (h : Sim S T) (x : InstT) : Sim (S.inst x) (T.inst (eraseI x)) := by
  have hr := h.rec_ x.addr
  have ht : ((S.rcd x.addr).getD rec0).typ = ((T.rcd x.addr).getD rec0).typ := by have e := congrArg (fun z : RecT => z.typ) hr; exact e
  have hi : ((S.rcd x.addr).getD rec0).id = ((T.rcd x.addr).getD rec0).id := by have e := congrArg (fun z : RecT => z.id) hr; exact e
  unfold PS.inst
  show Sim _ (if (T.act x.addr).getD 0 = 1 then T.make ⟨1, x.addr, x.typ, [], false⟩ else if (T.act x.addr).getD 0 = 2 then T.make ⟨2, x.addr, ((T.rcd x.addr).getD rec0).typ, ((T.rcd x.addr).getD rec0).id, false⟩ else if (T.act x.addr).getD 0 = 3 then _ else if (T.act x.addr).getD 0 = 4 then _ else T)
  rw [← h.act]
  split
  · exact h.make _
  · split
    · rw [ht, hi]
      exact h.make _
    · split
      · have h2 := (h.remove _ _ hr ⟨0, x.addr, [], [], false⟩).make ⟨1, x.addr, x.typ, [], false⟩
        rw [h2.gone, h2.made]
        exact h2.ahead _ _
      · split
        · have h2 := (h.make ⟨1, x.addr, x.typ, [], true⟩).remove _ _ hr ⟨0, x.addr ++ [126], [], [], true⟩
          rw [h2.gone, h2.made]
          exact h2.ahead _ _
        · exact h
theorem Sim.drop {S T : PS} (h : Sim S T) (r : RecT) : Sim (S.dropR r) (T.dropR (eraseR r)) := by
  unfold PS.dropR
  show Sim _ (if (T.act r.addr).isSome = true then T else T.remove (eraseR r) ⟨0, r.addr, [], [], false⟩)
  rw [← h.act]
  split
  · exact h
  · exact h.remove r (eraseR r) rfl _
theorem Sim.fold {α : Type} (f g : PS → α → PS) (h : ∀ S T a, Sim S T → Sim (f S a) (g T a)) : ∀ (l : List α) {S T : PS}, Sim S T → Sim (l.foldl f S) (l.foldl g T)
  | [], _, _, hs => hs
  | a :: l, _, _, hs => Sim.fold f g h l (h _ _ a hs)
theorem Sim.linkX {S T : PS} (h : Sim S T) (x : IX) : Sim (S.linkX x) (T.linkX (eraseX x)) := by
  unfold PS.linkX
  have h1 : Sim (x.2.foldl (fun S d => S.ahead (S.made d) (S.made x.1.addr)) S) (x.2.foldl (fun S d => S.ahead (S.made d) (S.made x.1.addr)) T) := Sim.fold _ _ (fun S T d hs => by rw [hs.made, hs.made]; exact hs.ahead _ _) x.2 h
  rw [h1.gone, h1.made]
  exact h1.ahead _ _
theorem Sim.linkR {S T : PS} (h : Sim S T) (r : RX) : Sim (S.linkR r) (T.linkR (eraseY r)) := by
  unfold PS.linkR
  refine Sim.fold (PS.linkD r) (PS.linkD (eraseY r)) (fun S T d hs => ?_) r.2 h
  rw [linkD_eq, linkD_eq]
  show Sim _ (if T.gone d = 0 then T else if (T.act d).isSome = false ∨ (T.act d).getD 0 = 4 then (T.ahead (T.gone r.1.addr) (T.gone d)).ahead ((T.ahead (T.gone r.1.addr) (T.gone d)).made r.1.addr) ((T.ahead (T.gone r.1.addr) (T.gone d)).gone d) else T.ahead (T.gone r.1.addr) (T.gone d))
  rw [← hs.act, ← hs.gone d, ← hs.gone r.1.addr]
  have h1 := hs.ahead (S.gone r.1.addr) (S.gone d)
  split
  · exact hs
  · split
    · rw [h1.made, h1.gone]
      exact h1.ahead _ _
    · exact h1
theorem Sim.link {S T : PS} (h : Sim S T) (xs : List IX) (rs : List RX) : Sim (S.link xs rs) (T.link (xs.map eraseX) (rs.map eraseY)) := by
  unfold PS.link
  rw [List.foldl_map, List.foldl_map]
  exact Sim.fold _ _ (fun S T r hs => hs.linkR r) rs (Sim.fold _ _ (fun S T x hs => hs.linkX x) xs h)
theorem Sim.merge : ∀ (f : Nat) (xs : List IX) (rs : List RX) {S T : PS}, Sim S T → Sim (mergeF f xs rs S) (mergeF f (xs.map eraseX) (rs.map eraseY) T)
  | 0, _, _, _, _, h => h
  | f + 1, [], [], _, _, h => h
  | f + 1, x :: xs, [], _, _, h => Sim.merge f xs [] (h.inst x.1)
  | f + 1, [], r :: rs, _, _, h => Sim.merge f [] rs (h.drop r.1)
  | f + 1, x :: xs, r :: rs, S, T, h => by
    show Sim (if leS x.1.addr r.1.addr = true then mergeF f xs (r :: rs) (S.inst x.1) else mergeF f (x :: xs) rs (S.dropR r.1)) (if leS x.1.addr r.1.addr = true then mergeF f (xs.map eraseX) (eraseY r :: rs.map eraseY) (T.inst (eraseI x.1)) else mergeF f (eraseX x :: xs.map eraseX) (rs.map eraseY) (T.dropR (eraseR r.1)))
    split
    · exact Sim.merge f xs (r :: rs) (h.inst x.1)
    · exact Sim.merge f (x :: xs) rs (h.drop r.1)
theorem Sim.read (xs : List IX) (rs : List RX) : Sim (readS xs rs) (readS (xs.map eraseX) (rs.map eraseY)) := by
  refine ⟨?_, fun t => ?_, rfl, rfl, rfl, rfl⟩
  · show swapX (actOf xs) xs = swapX (actOf (xs.map eraseX)) (xs.map eraseX)
    unfold swapX actOf
    rw [List.foldl_map, List.foldl_map]
    rfl
  · show (rcdOf rs t).map eraseR = rcdOf (rs.map eraseY) t
    unfold rcdOf
    rw [List.foldl_map]
    suffices hh : ∀ (l : List RX) (f g : S8 → Option RecT), (∀ t, (f t).map eraseR = g t) → ∀ t, (l.foldl (fun f r => upd f r.1.addr r.1) f t).map eraseR = l.foldl (fun f r => upd f (eraseY r).1.addr (eraseY r).1) g t from hh rs _ _ (fun _ => rfl) t
    intro l
    induction l with
    | nil => exact fun f g h => h
    | cons r l ih =>
      intro f g h
      refine ih _ _ fun t => ?_
      unfold upd
      show Option.map eraseR (if t = r.1.addr then some r.1 else f t) = if t = r.1.addr then some (eraseR r.1) else g t
      split
      · rfl
      · exact h t
/-- Rows alike but for addresses make the same plan. -/
theorem makeS_alike {xs ys : List IX} {rs ss : List RX} (hx : xs.map eraseX = ys.map eraseX) (hr : rs.map eraseY = ss.map eraseY) : (makeS xs rs).steps = (makeS ys ss).steps ∧ (makeS xs rs).edges = (makeS ys ss).edges := by
  have e1 : xs.length = ys.length := by simpa using congrArg List.length hx
  have e2 : rs.length = ss.length := by simpa using congrArg List.length hr
  unfold makeS
  rw [merge_fuel (xs.length + rs.length) xs rs _ (Nat.le_refl _), merge_fuel (xs.length + rs.length) ys ss _ (by omega)]
  have h1 := (Sim.merge (xs.length + rs.length) xs rs (Sim.read xs rs)).link xs rs
  have h2 := (Sim.merge (xs.length + rs.length) ys ss (Sim.read ys ss)).link ys ss
  rw [← hx, ← hr] at h2
  exact ⟨h1.steps.trans h2.steps.symm, h1.edges.trans h2.edges.symm⟩

end Go.Proofs.YtnjbdedmalpccaaDoor
