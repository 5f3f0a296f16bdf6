/- timer.Advance -/
import Derived.Test.YteoecpggmchbkaaTimerU
namespace Go.Proofs.Yteoecpggmchbkaa
open Go.RowKit

theorem TimerAt.clock {w : World} {p : Nat} {now : Int} {D : List (Int × Int)} {Wh : Nat → Nat → List Int} {FAR LATE : List (Int × Bool)} {F : List Nat} (h : TimerAt w p now D Wh FAR LATE F) (v : Int) :
    TimerAt (w.setCell ⟨p, 0, none⟩ (.int .i64 v)) p v D Wh FAR LATE F ∧ Step F F w (w.setCell ⟨p, 0, none⟩ (.int .i64 v)) := by
  obtain ⟨md, mf, ml, bs, Fs, h, rfl⟩ := h
  have ap := h.apart.h1
  have hu : Upd (· = p) w (w.setCell ⟨p, 0, none⟩ (.int .i64 v)) := (Upd.refl (· = p) w).setCell (p := ⟨p, 0, none⟩) (fun _ => rfl) _
  obtain ⟨h1, h2⟩ := h.step (x := p) (now' := v) (D' := D) (FAR' := FAR) (LATE' := LATE) (.inl rfl) hu (by rw [if_pos rfl]; exact (heap_setCell_same h.blk 0 _).trans rfl) (by rw [if_neg (Ne.symm ap.1)]) (by rw [if_neg (Ne.symm ap.2.1)]) (by rw [if_neg (Ne.symm ap.2.2.1)])
  exact ⟨⟨md, mf, ml, bs, Fs, h1, rfl⟩, h2⟩
theorem TimerAt.cell0 {w : World} {p : Nat} {now : Int} {D : List (Int × Int)} {Wh : Nat → Nat → List Int} {FAR LATE : List (Int × Bool)} {F : List Nat} (h : TimerAt w p now D Wh FAR LATE F) : w.cell? ⟨p, 0, none⟩ = some (.int .i64 now) ∧ w.frozen? ⟨p, 0, none⟩ = false := by
  obtain ⟨md, mf, ml, bs, Fs, h, rfl⟩ := h
  exact ⟨h.cells.1, h.free 0⟩

set_option maxRecDepth 100000 in
theorem adv_nil (to : Int) (w : World) :
    Calls Try.prog 15 #[.pointer none, .int .i64 to] w fun e w' => e = .returned (.slice none 0 0) ∧ Below w.heap.size w w' := by
  have hB : Hid (∀ o, Below w.heap.size w (w.alloc o)) := fun o => (Below.refl _ w).alloc (Nat.le_refl _) o
  go_enter Try.func15, Try.ntmps15
  go_wp2
  go_ret
  exact ⟨rfl, hB.out _⟩
set_option maxRecDepth 100000 in
theorem adv_bad {p n : Nat} {D : List (Int × Int)} {F : List Nat} (to : Int) (w : World) (h : TimerOk w p n D F) (ht : to < n ∨ 1099511627776 < to) :
    Calls Try.prog 15 #[.pointer (some ⟨p, 0, none⟩), .int .i64 to] w fun e w' => e = .returned (.slice none 0 0) ∧ Below w.heap.size w w' := by
  obtain ⟨S, h, -⟩ := h
  obtain ⟨c0, -⟩ := h.cell0
  have hp : p < w.heap.size := h.lt p h.self
  clear h
  have hB : Hid (∀ o, Below w.heap.size w (w.alloc o)) := fun o => (Below.refl _ w).alloc (Nat.le_refl _) o
  by_cases h1 : to < n
  · clear ht
    go_enter Try.func15, Try.ntmps15
    go_wp2
    go_ret
    exact ⟨rfl, hB.out _⟩
  · have h2 : 1099511627776 < to := by omega
    clear ht
    go_enter Try.func15, Try.ntmps15
    go_wp2
    go_ret
    exact ⟨rfl, hB.out _⟩
end Go.Proofs.Yteoecpggmchbkaa
