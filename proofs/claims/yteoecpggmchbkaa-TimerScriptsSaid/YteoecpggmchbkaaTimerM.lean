/- A law's own map beside a Timer; the arguments. -/
import Derived.Test.YteoecpggmchbkaaTimerL
namespace Go.Proofs.Yteoecpggmchbkaa
open Go.RowKit

/-- A slice of structs of three integers, as it reads. -/
def SliceOp (w : World) (v : Value) (xs : List (Int × Int × Int)) : Prop := ∃ a cap, v = .slice a xs.length cap ∧ ∀ i x, xs[i]? = some x → ∃ g o, a = some ⟨g, o, none⟩ ∧ g < w.heap.size ∧
  w.cell? ⟨g, o + i * 3, none⟩ = some (.int .i64 x.1) ∧ w.cell? ⟨g, o + i * 3 + 1, none⟩ = some (.int .i64 x.2.1) ∧ w.cell? ⟨g, o + i * 3 + 2, none⟩ = some (.int .i64 x.2.2)
theorem SliceOp.below {w w' : World} {v : Value} {xs : List (Int × Int × Int)} (h : SliceOp w v xs) (hb : Below w.heap.size w w') : SliceOp w' v xs := by
  obtain ⟨a, cap, rfl, hc⟩ := h
  refine ⟨a, cap, rfl, fun i x hx => ?_⟩
  obtain ⟨g, o, rfl, h0, h1, h2, h3⟩ := hc i x hx
  exact ⟨g, o, rfl, Nat.lt_of_lt_of_le h0 hb.size, (hb.cell (p := ⟨g, _, none⟩) h0).trans h1, (hb.cell (p := ⟨g, _, none⟩) h0).trans h2, (hb.cell (p := ⟨g, _, none⟩) h0).trans h3⟩
theorem lt_of_cell {w : World} {g o : Nat} {u : Value} (h : w.cell? ⟨g, o, none⟩ = some u) : g < w.heap.size := by
  unfold World.cell? at h
  cases hh : w.heap[g]? with
  | none => rw [hh] at h; simp at h
  | some o => exact lt_of_heap hh
theorem SliceI.below {w w' : World} {v : Value} {xs : List Int} (h : SliceI w v xs) (hb : Below w.heap.size w w') : SliceI w' v xs := by
  obtain ⟨a, cap, rfl, hc⟩ := h
  refine ⟨a, cap, rfl, fun i x hx => ?_⟩
  obtain ⟨g, o, rfl, h1⟩ := hc i x hx
  exact ⟨g, o, rfl, (hb.cell (p := ⟨g, _, none⟩) (lt_of_cell h1)).trans h1⟩

theorem SliceOp.cells {w : World} {a : Option Addr} {n cap : Nat} {xs : List (Int × Int × Int)} (h : SliceOp w (.slice a n cap) xs) : ∀ i x, xs[i]? = some x → ∃ g o, a = some ⟨g, o, none⟩ ∧ ∀ w', Below w.heap.size w w' →
    w'.cell? ⟨g, o + i * 3, none⟩ = some (.int .i64 x.1) ∧ w'.cell? ⟨g, o + i * 3 + 1, none⟩ = some (.int .i64 x.2.1) ∧ w'.cell? ⟨g, o + i * 3 + 2, none⟩ = some (.int .i64 x.2.2) := by
  obtain ⟨a', cap', e, hc⟩ := h
  cases e
  intro i x hx
  obtain ⟨g, o, rfl, h0, h1, h2, h3⟩ := hc i x hx
  exact ⟨g, o, rfl, fun w' hb => ⟨(hb.cell (p := ⟨g, _, none⟩) h0).trans h1, (hb.cell (p := ⟨g, _, none⟩) h0).trans h2, (hb.cell (p := ⟨g, _, none⟩) h0).trans h3⟩⟩
theorem SliceI.cells {w : World} {a : Option Addr} {n cap : Nat} {xs : List Int} (h : SliceI w (.slice a n cap) xs) : ∀ i x, xs[i]? = some x → ∃ g o, a = some ⟨g, o, none⟩ ∧ ∀ w', Below w.heap.size w w' → w'.cell? ⟨g, o + i, none⟩ = some (.int .i64 x) := by
  obtain ⟨a', cap', e, hc⟩ := h
  cases e
  intro i x hx
  obtain ⟨g, o, rfl, h1⟩ := hc i x hx
  exact ⟨g, o, rfl, fun w' hb => (hb.cell (p := ⟨g, _, none⟩) (lt_of_cell h1)).trans h1⟩

/-- What the Sets of a list make. -/
def sets (D : Al) (xs : List (Int × Int × Int)) : Al := xs.foldl (fun D x => setT D x.2.1 x.2.2) D
theorem sets_snoc (D : Al) (xs : List (Int × Int × Int)) (x : Int × Int × Int) : sets D (xs ++ [x]) = setT (sets D xs) x.2.1 x.2.2 := by
  unfold sets; rw [List.foldl_append]; rfl
theorem setT_length (D : Al) (id m : Int) : (setT D id m).length ≤ D.length + 1 := by
  unfold setT
  split
  · rw [length_aset]; split <;> omega
  · omega
theorem sets_length (xs : List (Int × Int × Int)) : ∀ D : Al, (sets D xs).length ≤ D.length + xs.length := by
  induction xs with
  | nil => intro D; exact Nat.le_refl _
  | cons x xs ih =>
    intro D
    have h1 := ih (setT D x.2.1 x.2.2)
    have h2 := setT_length D x.2.1 x.2.2
    have e : sets D (x :: xs) = sets (setT D x.2.1 x.2.2) xs := rfl
    rw [e, List.length_cons]; omega

/-- A Timer and a map of the law's own. -/
structure TMap (w0 w : World) (p mb n : Nat) (D M : Al) (F : List Nat) : Prop where
  t : Mine w0.heap.size w0 w p n D F
  m : MapAt ekI ekI w mb M
  nm : mb ∉ F
  lm : w0.heap.size ≤ mb
section
variable {w0 w w' : World} {p mb n n' : Nat} {D D' M M' : Al} {F F' : List Nat}
theorem TMap.step (h : TMap w0 w p mb n D M F) (hs : Step F F' w w') (hok : TimerOk w' p n' D' F') : TMap w0 w' p mb n' D' M F' :=
  ⟨h.t.step hs hok, h.m.congr (hs.keep h.m.lt h.nm), fun hm => (hs.sub mb hm).elim h.nm (fun hle => by have := h.m.lt; omega), h.lm⟩
theorem TMap.upd (h : TMap w0 w p mb n D M F) (hu : Upd (· = mb) w w') (hm : MapAt ekI ekI w' mb M') : TMap w0 w' p mb n D M' F :=
  ⟨⟨h.t.ok.upd hu (fun y hy e => h.nm (e ▸ hy)), h.t.low, Nat.le_trans h.t.size hu.size, h.t.below.trans (hu.below h.t.size (fun x hx e => by have := h.lm; omega))⟩, hm, h.nm, h.lm⟩
theorem TMap.keep (h : TMap w0 w p mb n D M F) (hu : Upd (fun _ => False) w w') : TMap w0 w' p mb n D M F :=
  h.step (Step.of_none hu) (h.t.ok.upd hu fun _ _ f => f)
theorem TMap.keepB (h : TMap w0 w p mb n D M F) (hb : Below w.heap.size w w') : TMap w0 w' p mb n D M F :=
  h.step (Step.of_below hb) (h.t.ok.upd (Upd.of_below hb (F := fun _ => False) (fun x a b => by omega)) fun _ _ f => f)
theorem TMap.nd (h : TMap w0 w p mb n D M F) : (akeys D).Nodup := by obtain ⟨S, _, hI⟩ := h.t.ok; exact hI.nd
theorem TMap.rng (h : TMap w0 w p mb n D M F) : ∀ q ∈ D, 0 ≤ q.2 ∧ q.2 ≤ 1099511627776 := by
  obtain ⟨S, _, hI⟩ := h.t.ok
  exact fun q hq => (hI.rng q.1 q.2 (aget_of_mem hI.nd hq)).2.2
theorem TMap.now (h : TMap w0 w p mb n D M F) : n ≤ 1099511627776 := by obtain ⟨S, _, hI⟩ := h.t.ok; exact hI.now
end
end Go.Proofs.Yteoecpggmchbkaa
