/- A []int argument, opened. -/
import Derived.Test.YteoecpggmchbkaaArgs
namespace Go.Proofs.Yteoecpggmchbkaa
open Go.ChangeShapes Go.WideShapes Go.ChangeAt Go.RowKit Go.Deep

variable {H : Type} {enc : TypeId × Value → H}
set_option maxRecDepth 10000 in
theorem open_si {W : World} {v : Value} {d : DataW H} {p : List MemPlace} {sp : Nat → Bool} {base : Nat} (hv : Value.okWide Try.prog W .any base 39 v) (h : DataW.Trod enc Try.prog W 0 sp true 39 v d p) : ∃ xs, SliceI W v xs := by
  obtain ⟨a, len, cap, rfl⟩ := okWide_slice Try.underlying39 hv
  obtain ⟨fuel, h⟩ := h
  rcases open_slice Try.underlying39 h with ⟨h0, -⟩ | ⟨a', len', cap', m, n, D, Pl, h0, hb, hl, hm, hmm, -, hx⟩
  · have h0' : [Value.slice a len cap] = [.slice none 0 0] := h0
    have e := (List.cons.inj h0').1
    cases e
    exact ⟨[], none, 0, rfl, fun i x hx => by simp at hx⟩
  · have h0' : [Value.slice a len cap] = [.slice (some a') len' cap'] := h0
    have e := (List.cons.inj h0').1
    cases e
    have hlm : len ≤ m := by rw [hmm]; split <;> omega
    have each : ∀ i, i < len → ∃ q : Int, W.cell? (a'.add i) = some (.int .i64 q) := by
      intro i hi
      obtain ⟨cs', k1, k2⟩ := hx i (by omega)
      rw [Try.cellsI] at k1
      obtain ⟨_, hlen, hcell⟩ := World.cells?_some k1
      match cs', hlen with
      | [v0], _ =>
        obtain ⟨s, e0, _, _⟩ := DataW.trod_int Try.underlying3 k2
        simp only [List.cons.injEq, and_true] at e0
        subst e0
        have c0 := hcell 0 (by omega)
        rw [add_add] at c0
        exact ⟨s, by simpa using c0⟩
    obtain ⟨q, hq⟩ := choose_lt each
    refine ⟨(List.range len).map q, some a', cap, by simp, fun i x hxx => ?_⟩
    have hi : i < len := by have := (List.getElem?_eq_some_iff.1 hxx).1; simpa using this
    have hx' : q i = x := by simpa [hi] using hxx
    have h0' := hq 0 (by omega)
    have e0 : a'.add 0 = a' := by simp [Addr.add]
    rw [e0] at h0'
    have ea := plain_cell h0'
    have c0 := hq i hi
    rw [ea, Go.WideShapes.add_plain, hx'] at c0
    exact ⟨a'.block, a'.off, by rw [← ea], c0⟩
end Go.Proofs.Yteoecpggmchbkaa
