/- wheel.New, wheel.Next, wheel.Row. -/
import Derived.Test.YteoecpggmchbkaaWheelC
import Derived.Deep.LoopGhost
import Derived.Maps.AppendAt
namespace Go.Proofs.Yteoecpggmchbkaa
open Go.RowKit

theorem low_bits {x f i : Nat} (h : isLow (x / 2 ^ f * 2 ^ f) i) : x.testBit i = true ∧ f ≤ i ∧ ∀ j, f ≤ j → j < i → x.testBit j = false := by
  obtain ⟨m, hm⟩ := h
  have key : ∀ j, (decide (f ≤ j) && x.testBit j) = (decide (i ≤ j) && (2 * m + 1).testBit (j - i)) := by
    intro j
    have := congrArg (fun n => n.testBit j) hm
    simp only [Nat.testBit_mul_two_pow, Nat.testBit_div_two_pow] at this
    rw [← this]
    by_cases h : f ≤ j
    · simp [h]
    · simp [h]
  have h1 := key i
  simp only [Nat.le_refl, decide_true, Nat.sub_self, Bool.true_and] at h1
  rw [Nat.testBit_zero] at h1
  have h2 : (decide ((2 * m + 1) % 2 = 1)) = true := by simp
  rw [h2] at h1
  simp only [Bool.and_eq_true, decide_eq_true_eq] at h1
  refine ⟨h1.2, h1.1, fun j hj hji => ?_⟩
  have h3 := key j
  rw [decide_eq_true hj, decide_eq_false (by omega), Bool.true_and, Bool.false_and] at h3
  exact h3
theorem zero_bits {x f : Nat} (h : x / 2 ^ f * 2 ^ f = 0) (j : Nat) (hj : f ≤ j) : x.testBit j = false := by
  have := congrArg (fun n => n.testBit j) h
  simp only [Nat.testBit_mul_two_pow, Nat.testBit_div_two_pow, Nat.zero_testBit] at this
  rw [decide_eq_true hj, Bool.true_and, Nat.sub_add_cancel hj] at this
  exact this

/-- What wheel.Next tells. -/
def NextSays (L : Nat → List (Int × Nat)) (f : Nat) (e : Ending) : Prop :=
  (∃ i, i < 64 ∧ f ≤ i ∧ L i ≠ [] ∧ (∀ j, f ≤ j → j < i → L j = []) ∧ e = .returned (.tuple #[.int .i64 (i : Nat), .bool true])) ∨
  ((∀ j, f ≤ j → L j = []) ∧ e = .returned (.tuple #[.int .i64 0, .bool false]))

set_option maxRecDepth 100000 in
/-- wheel.Next -/
theorem wnext_any {b : Nat} {L : Nat → List (Int × Nat)} {F : List Nat} (f : Nat) (w : World) (hf : f ≤ 64) (h : WheelAt w b L none F) :
    Calls Try.prog 36 #[.pointer (some ⟨b, 0, none⟩), .int .i64 f] w fun e w' => NextSays L f e ∧ w = w' := by
  obtain ⟨cells, m, k, cap, x, A, h, rfl⟩ := h
  obtain ⟨kc, kt, hk1, hk2⟩ := h.hk
  have c2 : w.cell? ⟨b, 129, none⟩ = some (.slice (some ⟨k, 0, none⟩) 1 cap) := by rw [cell_of_heap h.hb]; exact h.ck
  have ck : w.cell? ⟨k, 0, none⟩ = some (ekU x) := by rw [cell_of_heap hk1]; exact hk2
  have bit : ∀ j, j < 64 → (x.testBit j = false ↔ L j = []) := by
    intro j hj
    have := h.mask j hj (by simp)
    cases hb : x.testBit j <;> simp [hb] at this ⊢ <;> exact this
  have hcon : Calls Try.prog 43 #[.slice (some ⟨k, 0, none⟩) 1 cap, .int .i64 f] w fun e w' => NextSays L f e ∧ w = w' := by
    by_cases h64 : f < 64
    · by_cases hz : x / 2 ^ f * 2 ^ f = 0
      · refine (next_none k 0 cap x f w ck h64 hz).mono ?_
        rintro e w' ⟨rfl, rfl⟩
        refine ⟨.inr ⟨fun j hj => ?_, rfl⟩, rfl⟩
        by_cases hj64 : j < 64
        · exact (bit j hj64).1 (zero_bits hz j hj)
        · exact h.out j (by omega)
      · refine (next_some k 0 cap x f w ck h64 h.hx hz).mono ?_
        rintro e w' ⟨i, rfl, hi, rfl⟩
        obtain ⟨i1, i2, i3⟩ := low_bits hi
        have hi64 : i < 64 := Nat.lt_of_not_le fun hle => by
          have : x < 2 ^ i := Nat.lt_of_lt_of_le h.hx (by rw [show (18446744073709551616 : Nat) = 2 ^ 64 from by decide]; exact Nat.pow_le_pow_right (by omega) hle)
          rw [Nat.testBit_lt_two_pow this] at i1; cases i1
        refine ⟨.inl ⟨i, hi64, i2, (h.mask i hi64 (by simp)).1 i1, fun j hj hji => (bit j (by omega)).1 (i3 j hj hji), rfl⟩, rfl⟩
    · refine (next_end (some ⟨k, 0, none⟩) 1 cap f w (by omega) (by omega) (by omega)).mono ?_
      rintro e w' ⟨rfl, rfl⟩
      exact ⟨.inr ⟨fun j hj => h.out j (by omega), rfl⟩, rfl⟩
  have HC := hid hcon; clear hcon
  have HB := hid bit; clear bit
  clear hk1 hk2 h ck
  go_enter Try.func36, Try.ntmps36
  go_wp2_with fail
  refine HC.out.mono ?_
  rintro e w' ⟨hn, rfl⟩
  rcases hn with ⟨i, h1, h2, h3, h4, rfl⟩ | ⟨h1, rfl⟩
  · have H : Hid (NextSays L f (.returned (.tuple #[.int .i64 (i : Nat), .bool true]))) := .inl ⟨i, h1, h2, h3, h4, rfl⟩
    clear h1 h2 h3 h4
    go_wp2
    go_ret2
    exact ⟨H.out, rfl⟩
  · have H : Hid (NextSays L f (.returned (.tuple #[.int .i64 0, .bool false]))) := .inr ⟨h1, rfl⟩
    clear h1
    go_wp2
    go_ret2
    exact ⟨H.out, rfl⟩

theorem Try.infoInt : (Try.prog.info? 3).map (fun i => (i.zero, i.size, i.bytes)) = some (some (.int .i64 0), 1, 8) := by kernel_rfl

set_option maxRecDepth 100000 in
set_option maxHeartbeats 1000000 in
/-- wheel.Row -/
theorem row_any {b : Nat} {L : Nat → List (Int × Nat)} {F : List Nat} (s : Nat) (w : World) (hs : s < 64) (hlen : (L s).length ≤ 1000000) (h : WheelAt w b L none F) :
    Calls Try.prog 37 #[.pointer (some ⟨b, 0, none⟩), .int .i64 s] w fun e w' => ∃ v, e = .returned v ∧ w'.ownsRow w.heap.size 3 1 v (L s).length ((L s).map fun p => ekI p.1) ∧ Below w.heap.size w w' := by
  obtain ⟨cells, m, k, cap, x, A, h, rfl⟩ := h
  obtain ⟨i0, hi, hz0, hz1, hz2⟩ := info_parts Try.infoInt
  obtain ⟨r1, r2, r3⟩ := h.rows s hs
  have c1 := (cell_of_heap h.hb (s * 2)).trans r1
  have hblk : ∀ p ∈ L s, p.2 < w.heap.size := fun p hp => by obtain ⟨_, _, hq⟩ := dseg_mem r3 p hp; exact lt_of_heap hq
  have hmay := may_any b s w
  rw [show decide (0 ≤ (s : Int) ∧ (s : Int) < 64) = true from decide_eq_true (by omega)] at hmay
  have HM := hid hmay; clear hmay
  have HR := hid r3; clear r3
  have HL := hid hlen; clear hlen
  have HB := hid hblk; clear hblk
  clear r1 r2 h
  obtain ⟨p0, hp0⟩ : ∃ v, v = pv (headP (L s) none) := ⟨_, rfl⟩
  rw [← hp0] at c1
  have HP := hid hp0; clear hp0
  go_enter Try.func37, Try.ntmps37
  go_wp2_with fail
  refine HM.out.mono ?_
  rintro e w' ⟨rfl, rfl⟩
  go_wp2_with fail
  clear c1
  go_loopg [5, 6] (L s).length (fun kk out p wr => ∃ xs ys, L s = xs ++ ys ∧ ys.length = kk ∧ p = pv (headP ys none) ∧ wr.ownsRow w.heap.size 3 1 out xs.length (xs.map fun q => ekI q.1) ∧ Below w.heap.size w wr)
  case atStart => exact ⟨[], L s, rfl, rfl, HP.out, ⟨rfl, .inl ⟨rfl, rfl⟩⟩, Below.refl _ _⟩
  case round =>
    obtain ⟨xs, ys, hsplit, hyl, rfl, hown, hb⟩ := hrel
    have hseg := HR.out
    rw [hsplit, dseg_append] at hseg
    cases ys with
    | nil =>
      have A1 := hid hsplit; have A2 := hid hown; have A3 := hid hb
      clear hsplit hown hb hseg
      simp only [headP, pv_none]
      go_wp2
      go_ret
      refine ⟨_, rfl, ?_, A3.out⟩
      rw [A1.out, List.append_nil]; exact A2.out
    | cons q ys =>
      obtain ⟨i, l⟩ := q
      have hl := hseg.2.1
      have hlt := lt_of_heap hl
      have hlr := (hb.block l hlt).trans hl
      have l0 : wr.cell? ⟨l, 0, none⟩ = some (.int .i64 i) := by rw [cell_of_heap hlr]; rfl
      have hlw : l < wr.heap.size := lt_of_heap hlr
      have hxl : xs.length + 1 ≤ 1000000 := by have := HL.out; rw [hsplit] at this; simp at this; omega
      have A1 := hid hsplit; have A2 := hid hown; have A3 := hid hb; have A4 := hid hl; have A5 := hid hyl
      clear hsplit hown hb hseg hlr hl hyl
      simp only [headP, pv_some]
      go_wp2_with (at_builtin; refine wpList_append_own _ rfl (.tmp 24) (.tmp 29) 39 rfl w.heap.size 3 i0 (.int .i64 0) 1 8 Try.underlying39 hi hz0 hz1 hz2 rfl (by decide) _ xs.length _ rfl (A2.out.alloc _) ⟨wr.heap.size, 0, none⟩ 1 1 [.int .i64 i] rfl rfl (cell_one_new _ _ _) (ints_oneCell .i64 [i]) (by unfold maxLen; omega) (by omega) (by have := A3.out.size; simp; omega) ?next)
      case next =>
        intro v' w1 hown' hg _
        have hb1 : Below w.heap.size w w1 := ((A3.out.alloc A3.out.size _).grown hg (by simpa using Nat.le_succ_of_le A3.out.size) (by
          intro k hk
          rcases A2.out.2 with ⟨rfl, _⟩ | ⟨g, _, _, rfl, hgb, _⟩
          · cases hk
          · cases hk; exact hgb))
        have l3 : w1.cell? ⟨l, 3, none⟩ = some (pv (headP ys none)) := by rw [cell_of_heap ((hb1.block l hlt).trans A4.out)]; rfl
        have B1 := hid hown'; have B2 := hid hb1
        clear hown' hb1 hg l0
        go_wp2
        go_roundg ys.length
        case measure => have := A5.out; simp at this; omega
        case rel => exact ⟨xs ++ [(i, l)], ys, by rw [A1.out]; simp, rfl, rfl, by simpa [ekI] using B1.out, B2.out⟩

theorem Try.makeMask (w : World) : (Instr.makeSlice 63 (.int .i64 1) (.int .i64 1)).run Try.prog w = .ok (.slice (some ⟨w.heap.size, 0, none⟩) 1 1) (w.alloc (.cells #[.int .u64 0] 91)) := by kernel_rfl

noncomputable def wheel0 (m k : Nat) : Array Value := (Try.zeroCells69.setIfInBounds 128 (.map (some m))).setIfInBounds 129 (.slice (some ⟨k, 0, none⟩) 1 1)
theorem Try.zeroWheel : Try.zeroCells69.size = 130 ∧ ∀ i, i < 128 → Try.zeroCells69[i]? = some (.pointer none) := by
  have h : Try.zeroCells69.toList.take 128 = List.replicate 128 (Value.pointer none) := by kernel_rfl
  refine ⟨by kernel_rfl, fun i hi => ?_⟩
  have := congrArg (·[i]?) h
  simp only [List.getElem?_take_of_lt hi, List.getElem?_replicate, if_pos hi] at this
  rw [← Array.getElem?_toList]; exact this

set_option maxRecDepth 100000 in
theorem wnew_walk (w : World) :
    Calls Try.prog 20 #[] w fun e w' => e = .returned (.pointer (some ⟨w.heap.size + 2, 0, none⟩)) ∧
      w' = ((w.alloc (.map #[] 0)).alloc (.cells #[.int .u64 0] 91)).alloc (.cells (wheel0 w.heap.size (w.heap.size + 1)) 69) := by
  have hmm := @run_makeMap Try.prog
  have h1 := Try.makeMask
  go_enter Try.func20, Try.ntmps20
  go_wp2
  go_ret
  exact ⟨rfl, rfl⟩

/-- wheel.New -/
theorem wnew_any (w : World) :
    Calls Try.prog 20 #[] w fun e w' => ∃ b F, e = .returned (.pointer (some ⟨b, 0, none⟩)) ∧ WheelAt w' b (fun _ => []) none F ∧ (∀ y ∈ F, w.heap.size ≤ y) ∧ Below w.heap.size w w' := by
  refine (wnew_walk w).mono ?_
  rintro e w' ⟨rfl, rfl⟩
  have hm : ∀ o, (((w.alloc (.map #[] 0)).alloc (.cells #[.int .u64 0] 91)).alloc o).heap[w.heap.size]? = some (.map #[] 0) := fun o =>
    (heap_alloc_old _ (by simp; omega)).trans ((heap_alloc_old _ (by simp)).trans (heap_alloc_new _ _))
  have hk : ∀ o, (((w.alloc (.map #[] 0)).alloc (.cells #[.int .u64 0] 91)).alloc o).heap[w.heap.size + 1]? = some (.cells #[.int .u64 0] 91) := fun o => by
    refine (heap_alloc_old _ (by simp)).trans ?_
    have := heap_alloc_new (w.alloc (.map #[] 0)) (.cells #[.int .u64 0] 91)
    simpa using this
  have hb : ∀ o, (((w.alloc (.map #[] 0)).alloc (.cells #[.int .u64 0] 91)).alloc o).heap[w.heap.size + 2]? = some o := fun o => by
    have := heap_alloc_new ((w.alloc (.map #[] 0)).alloc (.cells #[.int .u64 0] 91)) o
    simpa using this
  obtain ⟨z1, z2⟩ := Try.zeroWheel
  refine ⟨w.heap.size + 2, _, rfl, ⟨_, w.heap.size, w.heap.size + 1, 1, 0, [], ⟨hb _, by simp [wheel0, z1], fun s hs => ⟨?_, ?_, trivial⟩, fun _ _ => rfl, ?_, ?_, ?_, ⟨_, _, hk _, rfl⟩, by omega, fun s _ _ => by simp, fun p => by simp, by simp, fun _ => List.nodup_nil⟩, rfl⟩, ?_, ?_⟩
  · unfold wheel0; rw [Array.getElem?_setIfInBounds_ne (by omega), Array.getElem?_setIfInBounds_ne (by omega)]; exact z2 _ (by omega)
  · unfold wheel0; rw [Array.getElem?_setIfInBounds_ne (by omega), Array.getElem?_setIfInBounds_ne (by omega)]; exact z2 _ (by omega)
  · unfold wheel0; rw [Array.getElem?_setIfInBounds_ne (by omega), Array.getElem?_setIfInBounds_self_of_lt (by rw [z1]; omega)]
  · unfold wheel0; rw [Array.getElem?_setIfInBounds_self_of_lt (by simp [z1])]
  · exact (MapAt.fresh ekI evP w).congr ((hm _).trans (heap_alloc_new w _).symm)
  · intro y hy; simp at hy; omega
  · exact (((Below.refl _ _).alloc (Nat.le_refl _) _).alloc (by simp) _).alloc (by simp; omega) _
end Go.Proofs.Yteoecpggmchbkaa
