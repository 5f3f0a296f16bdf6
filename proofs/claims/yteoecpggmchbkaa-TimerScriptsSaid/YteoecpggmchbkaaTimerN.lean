/- timer.New -/
import Derived.Test.YteoecpggmchbkaaTimerC
import Derived.Deep.RegionWith
namespace Go.Proofs.Yteoecpggmchbkaa
open Go.RowKit

def wv (bs : Nat → Nat) (k j : Nat) : Value := if j < k then .pointer (some ⟨bs j, 0, none⟩) else .pointer none
def tcells (n : Int) (md mf ml : Nat) (bs : Nat → Nat) (k : Nat) : Array Value := #[.int .i64 n, .map (some md), wv bs k 0, wv bs k 1, wv bs k 2, wv bs k 3, .map (some mf), .map (some ml)]
theorem tcells_set {n : Int} {md mf ml : Nat} {bs : Nat → Nat} {k : Nat} (hk : k < 4) (b : Nat) : (tcells n md mf ml bs k).setIfInBounds (2 + k) (.pointer (some ⟨b, 0, none⟩)) = tcells n md mf ml (fupd bs k b) (k + 1) := by
  have : k = 0 ∨ k = 1 ∨ k = 2 ∨ k = 3 := by omega
  rcases this with rfl | rfl | rfl | rfl <;> rfl

set_option maxRecDepth 100000 in
theorem new_bad (n : Int) (w : World) (h : n < 0 ∨ 1099511627776 < n) :
    Calls Try.prog 8 #[.int .i64 n] w fun e w' => e = .returned (.tuple #[.pointer none, .int .i64 1]) ∧ w = w' := by
  by_cases h1 : n < 0
  · go_enter Try.func8, Try.ntmps8
    go_wp2
    go_ret2
    exact ⟨rfl, rfl⟩
  · have h2 : 1099511627776 < n := by omega
    clear h
    go_enter Try.func8, Try.ntmps8
    go_wp2
    go_ret2
    exact ⟨rfl, rfl⟩

/-- While a Timer is made: k wheels are there. -/
structure Making (w wr : World) (n k : Nat) (bs : Nat → Nat) (Fs : Nat → List Nat) : Prop where
  blk : wr.heap[w.heap.size + 3]? = some (.cells (tcells n w.heap.size (w.heap.size + 1) (w.heap.size + 2) bs k) 54 (0, 0))
  m0 : wr.heap[w.heap.size]? = some (.map #[] 0)
  m1 : wr.heap[w.heap.size + 1]? = some (.map #[] 0)
  m2 : wr.heap[w.heap.size + 2]? = some (.map #[] 0)
  wh : ∀ j, j < k → WheelAt wr (bs j) (fun _ => []) none (Fs j)
  new : ∀ j, j < k → ∀ y ∈ Fs j, w.heap.size + 4 ≤ y
  ap : ∀ i j, i < k → j < k → i ≠ j → ∀ y ∈ Fs i, y ∉ Fs j
  below : Below w.heap.size w wr

theorem Making.start (w : World) (n : Nat) : Making w ((((w.alloc (.map #[] 0)).alloc (.map #[] 0)).alloc (.map #[] 0)).alloc (.cells #[.int .i64 n, .map (some w.heap.size), .pointer none, .pointer none, .pointer none, .pointer none, .map (some (w.heap.size + 1)), .map (some (w.heap.size + 1 + 1))] 54)) n 0 (fun _ => 0) (fun _ => []) := by
  refine ⟨?_, ?_, ?_, ?_, fun j h => by omega, fun j h => by omega, fun i j h => by omega, ?_⟩
  · have := heap_alloc_new (((w.alloc (.map #[] 0)).alloc (.map #[] 0)).alloc (.map #[] 0)) (.cells #[.int .i64 n, .map (some w.heap.size), .pointer none, .pointer none, .pointer none, .pointer none, .map (some (w.heap.size + 1)), .map (some (w.heap.size + 1 + 1))] 54)
    rw [show (((w.alloc (.map #[] 0)).alloc (.map #[] 0)).alloc (.map #[] 0)).heap.size = w.heap.size + 3 by simp] at this
    exact this
  · exact (heap_alloc_old _ (by simp only [World.size_alloc]; omega)).trans ((heap_alloc_old _ (by simp only [World.size_alloc]; omega)).trans ((heap_alloc_old _ (by simp)).trans (heap_alloc_new _ _)))
  · refine (heap_alloc_old _ (by simp only [World.size_alloc]; omega)).trans ((heap_alloc_old _ (by simp)).trans ?_)
    have := heap_alloc_new (w.alloc (.map #[] 0)) (.map #[] 0)
    simpa using this
  · refine (heap_alloc_old _ (by simp)).trans ?_
    have := heap_alloc_new ((w.alloc (.map #[] 0)).alloc (.map #[] 0)) (.map #[] 0)
    simpa using this
  · exact ((((Below.refl _ _).alloc (Nat.le_refl _) _).alloc (by simp) _).alloc (by simp; omega) _).alloc (by simp; omega) _

/-- .. and one more is made, but not stored. -/
structure Made1 (w w1 : World) (n k : Nat) (bs : Nat → Nat) (Fs : Nat → List Nat) (b0 : Nat) (F0 : List Nat) : Prop where
  hk : k < 4
  mking : Making w w1 n k bs Fs
  wh : WheelAt w1 b0 (fun _ => []) none F0
  new : ∀ y ∈ F0, w.heap.size + 4 ≤ y
  ap : ∀ j, j < k → ∀ y ∈ F0, y ∉ Fs j
theorem Making.lt {w wr : World} {n k : Nat} {bs : Nat → Nat} {Fs : Nat → List Nat} (h : Making w wr n k bs Fs) : w.heap.size + 3 < wr.heap.size := lt_of_heap h.blk
theorem Making.made {w wr w1 : World} {n k : Nat} {bs : Nat → Nat} {Fs : Nat → List Nat} {b0 : Nat} {F0 : List Nat} {W : World} (h : Making w wr n k bs Fs) (hk : k < 4) (hw : WheelAt w1 b0 (fun _ => []) none F0) (hF : ∀ y ∈ F0, W.heap.size ≤ y) (hb : Below W.heap.size W w1)
    (e1 : W.heap = wr.heap := by rfl) (e2 : W.os = wr.os := by rfl) (e3 : W.tape = wr.tape := by rfl) (e4 : W.output = wr.output := by rfl) : Made1 w w1 n k bs Fs b0 F0 := by
  have hlt := h.lt
  have hW : W.heap.size = wr.heap.size := by rw [e1]
  have keep : ∀ y, y < wr.heap.size → w1.heap[y]? = wr.heap[y]? := fun y hy => by rw [hb.block y (by omega), e1]
  refine ⟨hk, ⟨(keep _ (by omega)).trans h.blk, (keep _ (by omega)).trans h.m0, (keep _ (by omega)).trans h.m1, (keep _ (by omega)).trans h.m2, fun j hj => (h.wh j hj).congr fun y hy => keep y ((h.wh j hj).lt y hy), h.new, h.ap, ?_⟩, hw, fun y hy => by have := hF y hy; omega, fun j hj y hy hm => by have := hF y hy; have := (h.wh j hj).lt y hm; omega⟩
  exact ⟨hb.os.trans (e2.trans h.below.os), hb.tape.trans (e3.trans h.below.tape), hb.output.trans (e4.trans h.below.output), by have := hb.size; have := h.below.size; omega, fun y hy => (keep y (by omega)).trans (h.below.block y hy)⟩
theorem Made1.cell {w w1 : World} {n k : Nat} {bs : Nat → Nat} {Fs : Nat → List Nat} {b0 : Nat} {F0 : List Nat} (h : Made1 w w1 n k bs Fs b0 F0) : w1.cell? ⟨w.heap.size + 1 + 1 + 1, 2 + k, none⟩ = some (.pointer none) := by
  have hk := h.hk
  rw [show w.heap.size + 1 + 1 + 1 = w.heap.size + 3 from rfl, cell_of_heap h.mking.blk]
  have : k = 0 ∨ k = 1 ∨ k = 2 ∨ k = 3 := by omega
  rcases this with rfl | rfl | rfl | rfl <;> rfl
theorem Made1.free {w w1 : World} {n k : Nat} {bs : Nat → Nat} {Fs : Nat → List Nat} {b0 : Nat} {F0 : List Nat} (h : Made1 w w1 n k bs Fs b0 F0) : w1.frozen? ⟨w.heap.size + 1 + 1 + 1, 2 + k, none⟩ = false := free_of_heap h.mking.blk _
theorem Made1.next {w w1 W : World} {n k : Nat} {bs : Nat → Nat} {Fs : Nat → List Nat} {b0 : Nat} {F0 : List Nat} (h : Made1 w w1 n k bs Fs b0 F0) (e1 : W.heap = (w1.setCell ⟨w.heap.size + 1 + 1 + 1, 2 + k, none⟩ (.pointer (some ⟨b0, 0, none⟩))).heap := by rfl) (e2 : W.os = w1.os := by rfl) (e3 : W.tape = w1.tape := by rfl) (e4 : W.output = w1.output := by rfl) :
    Making w W n (k + 1) (fupd bs k b0) (fupd Fs k F0) := by
  have hne : ∀ y, y ≠ w.heap.size + 3 → W.heap[y]? = w1.heap[y]? := fun y hy => by rw [e1]; exact heap_setCell_other _ hy
  refine ⟨?_, (hne _ (by omega)).trans h.mking.m0, (hne _ (by omega)).trans h.mking.m1, (hne _ (by omega)).trans h.mking.m2, fun j hj => ?_, fun j hj y hy => ?_, fun i j hi hj hij y hy hm => ?_, ?_⟩
  · rw [e1, ← tcells_set h.hk]; exact heap_setCell_same h.mking.blk _ _
  · unfold fupd
    split
    · exact h.wh.congr fun y hy => hne y (by have := h.new y hy; omega)
    · exact (h.mking.wh j (by omega)).congr fun y hy => hne y (by have := h.mking.new j (by omega) y hy; omega)
  · unfold fupd at hy
    split at hy
    · exact h.new y hy
    · exact h.mking.new j (by omega) y hy
  · unfold fupd at hy hm
    split at hy <;> split at hm
    · omega
    · exact h.ap j (by omega) y hy hm
    · exact h.ap i (by omega) y hm hy
    · exact h.mking.ap i j (by omega) (by omega) hij y hy hm
  · refine ⟨e2.trans h.mking.below.os, e3.trans h.mking.below.tape, e4.trans h.mking.below.output, by rw [e1]; simpa [World.setCell] using h.mking.below.size, fun y hy => (hne y (by omega)).trans (h.mking.below.block y hy)⟩

theorem Making.done {w wr : World} {n : Nat} {bs : Nat → Nat} {Fs : Nat → List Nat} (h : Making w wr n 4 bs Fs) (hn : n ≤ 1099511627776) :
    TimerOk wr (w.heap.size + 1 + 1 + 1) n [] (foot (w.heap.size + 3) w.heap.size (w.heap.size + 1) (w.heap.size + 2) Fs) ∧ (∀ y ∈ foot (w.heap.size + 3) w.heap.size (w.heap.size + 1) (w.heap.size + 2) Fs, w.heap.size ≤ y) ∧ Below w.heap.size w wr := by
  have hm : ∀ {β : Type} (ev : β → Value) {b : Nat}, wr.heap[b]? = some (.map #[] 0) → MapAt ekI ev wr b [] := fun ev _ hb => ⟨#[], 0, hb, rfl, by simp [akeys], by simp, by simp⟩
  refine ⟨⟨(fun _ _ => [], [], []), ⟨w.heap.size, w.heap.size + 1, w.heap.size + 2, bs, Fs, ⟨h.blk, hm _ h.m0, hm _ h.m1, hm _ h.m2, fun i hi => ⟨_, h.wh i hi, fun _ => rfl⟩, ?_⟩, rfl⟩, ?_⟩, ?_, h.below⟩
  · refine apart_iff.2 ⟨by omega, fun i hi y hy => by have := h.new i hi y hy; omega, fun i j hi hj hij => h.ap i j hi hj hij, fun i hi => (h.wh i hi).nodup⟩
  · exact ⟨fun _ _ _ _ h => (List.not_mem_nil h).elim, fun _ h => (List.not_mem_nil h).elim, fun _ h => (List.not_mem_nil h).elim, fun _ _ h => (by simp [aget] at h), fun _ _ h => (by simp [aget] at h), hn, List.nodup_nil, List.nodup_nil, List.nodup_nil⟩
  · intro y hy
    rcases mem_foot.1 hy with h1 | h1 | h1 | h1 | ⟨i, hi, h1⟩
    · omega
    · omega
    · omega
    · omega
    · have := h.new i hi y h1; omega

set_option maxRecDepth 100000 in
/-- timer.New -/
theorem new_ok (n : Nat) (w : World) (hn : n ≤ 1099511627776) :
    Calls Try.prog 8 #[.int .i64 n] w fun e w' => ∃ p F, e = .returned (.tuple #[.pointer (some ⟨p, 0, none⟩), .int .i64 0]) ∧ TimerOk w' p n [] F ∧ (∀ y ∈ F, w.heap.size ≤ y) ∧ Below w.heap.size w w' := by
  have hmm := @run_makeMap Try.prog
  have d1 : decide ((n : Int) < 0) = false := by simp
  have d2 : decide ((1099511627776 : Int) < n) = false := by simp; omega
  go_enter Try.func8, Try.ntmps8
  go_wp2_with fail
  clear hmm
  go_loopw [18] (fun i wr => ∃ k bs Fs, i = .int .i64 (k : Nat) ∧ k ≤ 4 ∧ Making w wr n k bs Fs) (fun i _ => 4 - (intOf i).toNat)
  case atStart => exact ⟨0, fun _ => 0, fun _ => [], rfl, by omega, Making.start w n⟩
  case round =>
    obtain ⟨k, bs, Fs, rfl, hk, hM⟩ := hrel
    have HM := hid hM
    by_cases hlt : k < 4
    · clear hM
      go_wp2_with fail
      go_region_with (go_at_call 20; refine (wnew_any _).mono ?_; rintro e w1 ⟨b0, F0, rfl, hw0, hF0, hb0⟩; have M1 := hid (HM.out.made hlt hw0 hF0 hb0); have f1 := (HM.out.made hlt hw0 hF0 hb0).cell; have f2 := (HM.out.made hlt hw0 hF0 hb0).free; clear hw0 hF0 hb0)
      all_goals
        go_wp2
        go_roundw
        case rel => exact ⟨k + 1, _, _, by go_num, by omega, M1.out.next⟩
        case measure => simp [intOf]; omega
    · obtain rfl : k = 4 := by omega
      have hfin := hid (hM.done hn)
      clear hM hlt
      go_wp2
      go_ret2
      exact ⟨_, _, rfl, hfin.out⟩
end Go.Proofs.Yteoecpggmchbkaa
