/- timer.Advance's order. -/
import Derived.Test.YteoecpggmchbkaaTimerS2
import Derived.Test.YteoecpggmchbkaaShelf
import Derived.Sort.OwnSortedInts
import Derived.Deep.RegionHeld3
namespace Go.Proofs.Yteoecpggmchbkaa
open Go.RowKit

theorem isNaN_int (x : Int) (w : World) : Calls Try.prog 40 #[.int .i64 x] w fun e w' => e = .returned (.bool false) ∧ w = w' := by
  go_enter Try.func40, Try.ntmps40
  go_wp2
  go_ret
  exact ⟨by simp, rfl⟩
theorem compare_int (x y : Int) (w : World) : Calls Try.prog 32 #[.int .i64 x, .int .i64 y] w fun e w' => e = .returned (.int .i64 (Lib.compareInt x y)) ∧ w = w' := by
  have hn := isNaN_int
  unfold Lib.compareInt
  by_cases h1 : x < y
  · rw [if_pos h1]
    go_enter Try.func32, Try.ntmps32
    go_wp2_with (go_at_call 40; refine (hn _ _).mono ?_; rintro e w' ⟨rfl, rfl⟩)
    go_ret
    exact ⟨rfl, rfl⟩
  rw [if_neg h1]
  by_cases h2 : y < x
  · rw [if_pos h2]
    go_enter Try.func32, Try.ntmps32
    go_wp2_with (go_at_call 40; refine (hn _ _).mono ?_; rintro e w' ⟨rfl, rfl⟩)
    go_ret
    exact ⟨rfl, rfl⟩
  rw [if_neg h2]
  go_enter Try.func32, Try.ntmps32
  go_wp2_with (go_at_call 40; refine (hn _ _).mono ?_; rintro e w' ⟨rfl, rfl⟩)
  go_ret
  exact ⟨rfl, rfl⟩
theorem or_int (b cap : Nat) (x y : Int) (w : World) (h0 : w.cell? ⟨b, 0, none⟩ = some (.int .i64 x)) (h1 : w.cell? ⟨b, 1, none⟩ = some (.int .i64 y)) :
    Calls Try.prog 31 #[.slice (some ⟨b, 0, none⟩) 2 cap] w fun e w' => e = .returned (.int .i64 (if x = 0 then y else x)) ∧ w = w' := by
  by_cases hx : x = 0
  · subst hx
    rw [if_pos rfl]
    by_cases hy : y = 0
    · subst hy
      go_enter Try.func31, Try.ntmps31
      go_wp2
      refine wp_loop_rounds 3 ?_
      rw [rounds_succ]
      go_wp2
      rw [rounds_succ]
      go_wp2
      rw [rounds_succ]
      go_wp2
      go_ret
      exact ⟨rfl, rfl⟩
    · have hy' : (y != 0) = true := by simp [hy]
      go_enter Try.func31, Try.ntmps31
      go_wp2
      refine wp_loop_rounds 2 ?_
      rw [rounds_succ]
      go_wp2
      rw [rounds_succ]
      go_wp2
      go_ret
      exact ⟨rfl, rfl⟩
  · rw [if_neg hx]
    have hx' : (x != 0) = true := by simp [hx]
    go_enter Try.func31, Try.ntmps31
    go_wp2
    refine wp_loop_rounds 1 ?_
    rw [rounds_succ]
    go_wp2
    go_ret
    exact ⟨rfl, rfl⟩

/-- How two ids come after one another. -/
def dueOf (D : List (Int × Int)) (x : Int) : Int := (aget D x).getD 0
def cmpD (D : List (Int × Int)) (x y : Int) : Int := if Lib.compareInt (dueOf D x) (dueOf D y) = 0 then Lib.compareInt x y else Lib.compareInt (dueOf D x) (dueOf D y)

set_option maxRecDepth 100000 in
theorem less_any {p n pb : Nat} {D : List (Int × Int)} {S : PS} {F : List Nat} (x y : Int) (w : World) (h : TimerAt w p n D S.1 S.2.1 S.2.2 F) (hb : w.cell? ⟨pb, 0, none⟩ = some (.pointer (some ⟨p, 0, none⟩))) :
    Calls Try.prog 30 #[.int .i64 x, .int .i64 y, .pointer (some ⟨pb, 0, none⟩)] w fun e w' => e = .returned (.int .i64 (cmpD D x y)) ∧ ∃ q os, w' = Sort.grow (w.drewN q) os := by
  obtain ⟨md, mf, ml, bs, Fs, t0, hF0⟩ := h
  have c1 := t0.cells.2.1
  have hlt := t0.hd.lt
  have hp := lt_of_heap t0.blk
  have HL : Hid (∀ (W : World) (id : Int), W.heap[md]? = w.heap[md]? → (Instr.lookup 46 (.map (some md)) (.int .i64 id) false).run Try.prog W = .ok (.int .i64 (dueOf D id)) W) := by
    intro W id hW
    have := run_lookup (t0.hd.congr hW) (keyInt Try.underlying3) Try.underlying46 Try.zeroInt id
    have e1 : (aget D id).elim (.int .i64 0) ekI = .int .i64 (dueOf D id) := by unfold dueOf; cases aget D id <;> rfl
    rw [e1] at this
    exact this
  have HC := hid compare_int
  have HO : Hid (∀ (b cap : Nat) (W : World), W.cell? ⟨b, 0, none⟩ = some (.int .i64 (Lib.compareInt (dueOf D x) (dueOf D y))) → W.cell? ⟨b, 1, none⟩ = some (.int .i64 (Lib.compareInt x y)) →
      Calls Try.prog 31 #[.slice (some ⟨b, 0, none⟩) 2 cap] W fun e w' => e = .returned (.int .i64 (cmpD D x y)) ∧ W = w') := fun b cap W h0 h1 => or_int b cap _ _ W h0 h1
  have hbs : pb < w.heap.size := by
    unfold World.cell? at hb
    cases hh : w.heap[pb]? with
    | none => rw [hh] at hb; simp at hb
    | some o => exact lt_of_heap hh
  clear t0 hF0
  go_enter Try.func30, Try.ntmps30
  go_wp2
  go_region_held3 (fun w' => w'.cell? ⟨pb, 0, none⟩ = some (.pointer (some ⟨p, 0, none⟩)) ∧ w'.cell? ⟨p, 1, none⟩ = some (.map (some md)) ∧ (Instr.lookup 46 (.map (some md)) (.int .i64 x) false).run Try.prog w' = .ok (.int .i64 (dueOf D x)) w' ∧ (Instr.lookup 46 (.map (some md)) (.int .i64 y) false).run Try.prog w' = .ok (.int .i64 (dueOf D y)) w')
    (first | assumption | exact ⟨hb, c1, HL.out _ _ rfl, HL.out _ _ rfl⟩ | exact ⟨(World.cell?_of_block (w := w) (heap_alloc_old _ hbs)).trans hb, (World.cell?_of_block (w := w) (heap_alloc_old _ hp)).trans c1, HL.out _ _ (heap_alloc_old _ hlt), HL.out _ _ (heap_alloc_old _ hlt)⟩) (first | (go_at_call 32; refine (HC.out _ _ _).mono ?_; rintro e w' ⟨rfl, rfl⟩) | (go_at_call 31; refine (HO.out _ _ _ (by exact cell_of_heap (heap_alloc_new w _) 0) (by exact cell_of_heap (heap_alloc_new w _) 1)).mono ?_; rintro e w' ⟨rfl, rfl⟩))
  all_goals
    go_wp2
    go_ret
    exact ⟨rfl, 1, #[_], by rw [Sort.alloc_eq_grow]; rfl⟩

/-- Who comes first. -/
def leD (D : List (Int × Int)) (x y : Int) : Bool := !(Go.Proofs.ltOf (cmpD D)) y x
def sortD (D : List (Int × Int)) (l : List Int) : List Int := l.mergeSort (leD D)
theorem ltD (D : List (Int × Int)) (x y : Int) : Go.Proofs.ltOf (cmpD D) x y = decide (dueOf D x < dueOf D y ∨ (dueOf D x = dueOf D y ∧ x < y)) := by
  unfold Go.Proofs.ltOf cmpD Lib.compareInt
  rw [eq_comm, decide_eq_decide]
  by_cases h1 : dueOf D x < dueOf D y
  · simp [h1]
  · by_cases h2 : dueOf D y < dueOf D x
    · have : ¬ dueOf D x = dueOf D y := by omega
      simp [h1, h2, this]
    · have : dueOf D x = dueOf D y := by omega
      simp only [this, Int.lt_irrefl, if_false, if_true, false_or, true_and]
      by_cases h3 : x < y
      · simp [h3]
      · by_cases h4 : y < x <;> simp [h3, h4]
theorem swoD (D : List (Int × Int)) : Go.Sort.SWO (Go.Proofs.ltOf (cmpD D)) where
  irrefl x := by rw [ltD]; simp
  trans x y z h1 h2 := by rw [ltD] at *; simp at *; omega
  ntrans x y z h1 h2 := by rw [ltD] at *; simp at *; omega

theorem sort_any {p n pb base : Nat} {D : List (Int × Int)} {S : PS} {F : List Nat} {v : Value} {l : List Int} (w : World) (h : TimerAt w p n D S.1 S.2.1 S.2.2 F) (hb : w.cell? ⟨pb, 0, none⟩ = some (.pointer (some ⟨p, 0, none⟩)))
    (hF : ∀ y ∈ F, y < base) (hpb : pb < base) (hown : w.ownsRow base 3 1 v l.length (l.map ekI)) (hl : l.length ≤ 1000000) :
    Calls Try.prog 29 #[v, .func (.func 30) #[] #[.pointer (some ⟨pb, 0, none⟩)]] w fun e w' =>
      e = .returned (.tuple #[]) ∧ w'.ownsRow base 3 1 v l.length ((sortD D l).map ekI) ∧ Upd (fun y => base ≤ y) w w' := by
  rcases hown.2 with ⟨rfl, h0⟩ | ⟨g, cap, cur, rfl, hg, hh, h1, h2, h3, h4⟩
  · have : l = [] := List.length_eq_zero_iff.1 h0
    subst this
    refine (Go.Proofs.AnyF.slices_SortFunc_none (P := Try.prog) (ρ := Try.sortI_ren) { Try.sortI with } none 0 _ w).mono ?_
    rintro e w' ⟨he, rfl⟩
    exact ⟨he, by simpa [sortD] using hown, Upd.refl _ _⟩
  · have eg : ∀ args w, (callFunc 30 args).run Try.prog w = .ok (.enter 30 args) w := enters_of Try.func30 (by kernel_rfl) rfl
    have hH : Go.Sort.Holds (Value.int .i64) w g 0 l.toArray := holds_of_blockI hh (by rw [Nat.mul_one] at h4; exact h4)
    have hgs : g < w.heap.size := lt_of_heap hh
    have old : ∀ (m : Nat) (os : Array Obj) (dk : Array Int) (y : Nat), y < base → y < w.heap.size → (Go.Proofs.sortWorld (Value.int .i64) w g 0 m dk os).heap[y]? = w.heap[y]? := fun m os dk y hy hs => by
      have := (grownBy_sortedI (w := w) (g := g) (n := m) (os := os) dk).block y hs (by simp; omega)
      exact this
    have hpb' : pb < w.heap.size := by
      unfold World.cell? at hb
      cases hh : w.heap[pb]? with
      | none => rw [hh] at hb; simp at hb
      | some o => exact lt_of_heap hh
    have hC : Go.Proofs.CmpLays1 Try.prog 30 #[.pointer (some ⟨pb, 0, none⟩)] (Value.int .i64) (cmpD D) g 0 l.toArray.size w := by
      intro m os dk hs x y
      exact less_any x y _ (h.congr fun z hz => old m os dk z (hF z hz) (h.lt z hz)) ((World.cell?_of_block (old m os dk pb hpb hpb')).trans hb)
    have hcon := Go.Proofs.Any.slices_SortFunc_total Try.sortI (Value.int .i64) (fun _ => rfl) (cmpD D) (swoD D) 30 #[.pointer (some ⟨pb, 0, none⟩)] g 0 cap l.toArray w eg hC hH hgs (by simp; omega)
      (fun x y a b => by rw [ltD] at a b; simp at a b; omega)
    have e0 : l.toArray.size = l.length := by simp
    rw [e0] at hcon
    refine Calls.mono hcon ?_
    rintro e w' ⟨he, m, os, rfl⟩
    refine ⟨he, ?_, ?_⟩
    · have := ownsRow_sortedI (w := w) (base := base) (g := g) (cap := cap) (n := m) (os := os) (ss := l) (ts := sortD D l) (by simp [sortD]) hg hh h1 h2 h3
      exact this
    · have k := grownBy_sortedI (w := w) (g := g) (n := m) (os := os) (sortD D l).toArray
      exact ⟨k.os, k.tape, k.output, k.size, fun y hy hn => k.block y hy (by simp; omega)⟩

end Go.Proofs.Yteoecpggmchbkaa
