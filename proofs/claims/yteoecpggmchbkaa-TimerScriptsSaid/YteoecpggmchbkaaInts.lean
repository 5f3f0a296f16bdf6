/- sandglassref04.Ints. -/
import Derived.Test.YteoecpggmchbkaaHeapOps
import Derived.Test.YteoecpggmchbkaaBits
import Derived.Deep.LoopGhost
import Derived.Deep.RegionHeld3
namespace Go.Proofs.Yteoecpggmchbkaa
open Go.RowKit

theorem wrap_in64 {n : Int} (h0 : -9223372036854775808 ≤ n) (h1 : n ≤ 9223372036854775807) : IntKind.i64.wrap n = n := by rw [IntKind.wrap_i64]; omega

/-- A slice of integers, as it reads. -/
def SliceI (w : World) (v : Value) (xs : List Int) : Prop := ∃ a cap, v = .slice a xs.length cap ∧ ∀ i x, xs[i]? = some x → ∃ g o, a = some ⟨g, o, none⟩ ∧ w.cell? ⟨g, o + i, none⟩ = some (.int .i64 x)
theorem SliceI.nil (w : World) : SliceI w (.slice none 0 0) [] := ⟨none, 0, rfl, fun i x h => by simp at h⟩
theorem SliceI.own {w : World} {base : Nat} {ty : TypeId} {v : Value} {xs : List Int} (h : w.ownsRow base ty 1 v xs.length (xs.map ekI)) : SliceI w v xs := by
  rcases h.2 with ⟨rfl, h0⟩ | ⟨g, cap, cur, rfl, _, hh, _, _, _, h4⟩
  · have : xs = [] := List.length_eq_zero_iff.1 h0
    subst this; exact SliceI.nil w
  · refine ⟨some ⟨g, 0, none⟩, cap, rfl, fun i x hx => ⟨g, 0, rfl, ?_⟩⟩
    have hi : i < xs.length := (List.getElem?_eq_some_iff.1 hx).1
    rw [Nat.zero_add, cell_of_heap hh]
    have h5 : (cur.toList.take (xs.length * 1))[i]? = (xs.map ekI)[i]? := by rw [h4]
    rw [List.getElem?_take_of_lt (by omega), Array.getElem?_toList, List.getElem?_map, hx] at h5
    exact h5
theorem SliceI.drewN {w : World} {v : Value} {xs : List Int} (h : SliceI w v xs) (n : Nat) : SliceI (w.drewN n) v xs := h
theorem SliceI.block {w w' : World} {v : Value} {xs : List Int} (h : SliceI w v xs) (hb : ∀ g, v.ownBlock = some g → w'.heap[g]? = w.heap[g]?) : SliceI w' v xs := by
  obtain ⟨a, cap, rfl, hc⟩ := h
  refine ⟨a, cap, rfl, fun i x hx => ?_⟩
  obtain ⟨g, o, rfl, h1⟩ := hc i x hx
  exact ⟨g, o, rfl, (World.cell?_of_block (w := w) (hb g rfl)).trans h1⟩

set_option maxRecDepth 100000 in
theorem ints_any {va vb : Value} {xs ys : List Int} (w : World) (ha : SliceI w va xs) (hb : SliceI w vb ys) (hx : xs.length < 4611686018427387904) :
    Calls Try.prog 16 #[va, vb] w fun e w' => e = .returned (.bool (decide (xs = ys))) ∧ ∃ q, w' = w.drewN q := by
  obtain ⟨a, ca, rfl, hxs⟩ := ha
  obtain ⟨b, cb, rfl, hys⟩ := hb
  by_cases hl : xs.length = ys.length
  · have t1 : ((xs.length : Int) != (ys.length : Int)) = false := by simp [hl]
    have HXS := hid hxs; have HYS := hid hys; have HL := hid hl
    rw [← hl] at t1 ⊢
    clear hxs hys hl
    go_enter Try.func16, Try.ntmps16
    go_wp2_with fail
    go_loopg [5] xs.length (fun k i wr => ∃ j q, i = .int .i64 ((j : Nat) : Int) ∧ j + k = xs.length ∧ wr = w.drewN q ∧ xs.take j = ys.take j)
    case atStart => exact ⟨0, 0, rfl, by omega, rfl, by simp⟩
    case round =>
      obtain ⟨j, q, rfl, hjk, hwr, ht⟩ := hrel
      by_cases hj : j < xs.length
      · have hjy : j < ys.length := by have := HL.out; omega
        obtain ⟨ga, oa, rfl, hca⟩ := HXS.out j _ (List.getElem?_eq_getElem hj)
        obtain ⟨gb, ob, rfl, hcb⟩ := HYS.out j _ (List.getElem?_eq_getElem hjy)
        have hca' : wr.cell? ⟨ga, oa + j, none⟩ = some (.int .i64 xs[j]) := by rw [hwr]; exact hca
        have hcb' : wr.cell? ⟨gb, ob + j, none⟩ = some (.int .i64 ys[j]) := by rw [hwr]; exact hcb
        have HWR := hid hwr; have HT := hid ht; have HJ := hid hjk
        have hwj : IntKind.i64.wrap ((j : Int) + 1) = (j : Int) + 1 := wrap_in64 (by omega) (by omega)
        have HE : Hid (xs[j]? = some xs[j] ∧ ys[j]? = some ys[j]) := ⟨List.getElem?_eq_getElem hj, List.getElem?_eq_getElem hjy⟩
        clear hwr ht hjk hca hcb
        generalize xs[j] = x at *
        generalize ys[j] = y at *
        by_cases hxy : x = y
        · subst hxy
          go_wp2
          go_region_held3 (fun w' => w'.cell? ⟨ga, oa + j, none⟩ = some (.int .i64 x) ∧ w'.cell? ⟨gb, ob + j, none⟩ = some (.int .i64 x)) (first | assumption | go_keep) (fail)
          all_goals go_wp2
          go_roundg (gk - 1)
          case measure => have := HJ.out; omega
          case rel => exact ⟨j + 1, q + 1, by rw [show ((j + 1 : Nat) : Int) = (j : Int) + 1 from by omega], by have := HJ.out; omega, by rw [HWR.out]; rfl, by rw [List.take_add_one, List.take_add_one, HT.out, HE.out.1, HE.out.2]⟩
        · have t3 : (x != y) = true := by simp [hxy]
          go_wp2
          go_region_held3 (fun w' => w'.cell? ⟨ga, oa + j, none⟩ = some (.int .i64 x) ∧ w'.cell? ⟨gb, ob + j, none⟩ = some (.int .i64 y)) (first | assumption | go_keep) (fail)
          all_goals go_wp2
          go_ret
          refine ⟨?_, q + 1, by rw [HWR.out]; rfl⟩
          have : xs ≠ ys := fun e => by have := HE.out.1; rw [e, HE.out.2] at this; exact hxy (Option.some.inj this).symm
          simp [this]
      · have hjl : j = xs.length := by omega
        subst hjl
        have HWR := hid hwr; have HT := hid ht
        clear hwr ht hjk
        go_wp2
        go_ret
        refine ⟨?_, q, HWR.out⟩
        have := HT.out
        rw [List.take_length, HL.out, List.take_length] at this
        simp [this]
  · have t1 : ((xs.length : Int) != (ys.length : Int)) = true := by simp; omega
    have ne : xs ≠ ys := fun e => hl (by rw [e])
    have HN := hid ne
    clear ne hxs hys hl
    go_enter Try.func16, Try.ntmps16
    go_wp2
    go_ret
    exact ⟨by simp [HN.out], 0, rfl⟩
end Go.Proofs.Yteoecpggmchbkaa
