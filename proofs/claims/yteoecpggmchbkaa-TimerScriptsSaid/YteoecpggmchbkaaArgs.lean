/- The arguments of the Timer laws, opened. -/
import Derived.Test.YteoecpggmchbkaaTimerM
import Derived.Test.YteoecpggmchbkaaPost
import Derived.Deep.SlicePairs
import Derived.Carry
import Derived.Deep.Strs
namespace Go.Proofs.Yteoecpggmchbkaa
open Go.ChangeShapes Go.WideShapes Go.ChangeAt Go.RowKit Go.Deep

theorem Try.cellsOp : Try.prog.cellsOf 33 = 3 := by kernel_rfl
theorem Try.cellsI : Try.prog.cellsOf 3 = 1 := by kernel_rfl
theorem Try.laidOut : laidOutB Try.prog = true := by kernel_rfl

variable {H : Type} {enc : TypeId × Value → H}
theorem plain_cell {w : World} {a : Addr} {v : Value} (h : w.cell? a = some v) : a = ⟨a.block, a.off, none⟩ := by
  obtain ⟨g, o, s⟩ := a
  unfold World.cell? at h
  cases s with
  | none => rfl
  | some s => dsimp only at h; split at h <;> simp at h

set_option maxRecDepth 10000 in
theorem open_ops {W : World} {v : Value} {d : DataW H} {p : List MemPlace} {sp : Nat → Bool} {base : Nat} (hv : Value.okWide Try.prog W .any base 22 v) (h : DataW.Trod enc Try.prog W 0 sp true 22 v d p) : ∃ xs, SliceOp W v xs := by
  obtain ⟨a, len, cap, rfl⟩ := okWide_slice Try.underlying22 hv
  obtain ⟨fuel, h⟩ := h
  rcases open_slice Try.underlying22 h with ⟨h0, -⟩ | ⟨a', len', cap', m, n, D, Pl, h0, hb, hl, hm, hmm, -, hx⟩
  · have h0' : [Value.slice a len cap] = [.slice none 0 0] := h0
    have e := (List.cons.inj h0').1
    cases e
    exact ⟨[], none, 0, rfl, fun i x hx => by simp at hx⟩
  · have h0' : [Value.slice a len cap] = [.slice (some a') len' cap'] := h0
    have e := (List.cons.inj h0').1
    cases e
    have hlm : len ≤ m := by rw [hmm]; split <;> omega
    have each : ∀ i, i < len → ∃ q : Int × Int × Int, W.cell? (a'.add (i * 3)) = some (.int .i64 q.1) ∧ W.cell? (a'.add (i * 3 + 1)) = some (.int .i64 q.2.1) ∧ W.cell? (a'.add (i * 3 + 2)) = some (.int .i64 q.2.2) := by
      intro i hi
      obtain ⟨cs', k1, k2⟩ := hx i (by omega)
      rw [Try.cellsOp] at k1
      obtain ⟨_, hlen, hcell⟩ := World.cells?_some k1
      obtain ⟨y0, y1, y2, k, hxy, _, u0, u1, u2⟩ := trod_struct3 Try.underlying33 k2
      match cs', hlen with
      | [v0, v1, v2], _ =>
        simp only [Try.cellsI, List.drop, List.take] at u0 u1 u2
        obtain ⟨s, e0, _, _⟩ := DataW.trod_int Try.underlying3 u0
        obtain ⟨q, e1, _, _⟩ := DataW.trod_int Try.underlying3 u1
        obtain ⟨r, e2, _, _⟩ := DataW.trod_int Try.underlying3 u2
        simp only [List.cons.injEq, and_true] at e0 e1 e2
        subst e0; subst e1; subst e2
        have c0 := hcell 0 (by omega)
        have c1 := hcell 1 (by omega)
        have c2 := hcell 2 (by omega)
        rw [add_add] at c0 c1 c2
        exact ⟨(s, q, r), by simpa using c0, by simpa using c1, by simpa using c2⟩
    obtain ⟨q, hq⟩ := choose_lt each
    refine ⟨(List.range len).map q, some a', cap, by simp, fun i x hxx => ?_⟩
    have hi : i < len := by have := (List.getElem?_eq_some_iff.1 hxx).1; simpa using this
    have hx' : q i = x := by simpa [hi] using hxx
    have h0' := (hq 0 (by omega)).1
    have e0 : a'.add (0 * 3) = a' := by simp [Addr.add]
    rw [e0] at h0'
    have ea := plain_cell h0'
    obtain ⟨c0, c1, c2⟩ := hq i hi
    rw [ea] at c0 c1 c2
    rw [Go.WideShapes.add_plain] at c0 c1 c2
    rw [hx'] at c0 c1 c2
    exact ⟨a'.block, a'.off, by rw [← ea], lt_of_cell c0, c0, c1, c2⟩
end Go.Proofs.Yteoecpggmchbkaa
