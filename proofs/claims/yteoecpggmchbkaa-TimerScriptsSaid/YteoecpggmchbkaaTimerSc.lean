/- TimerScripts' walk. -/
import Derived.Test.YteoecpggmchbkaaDoesD
namespace Go.Proofs.Yteoecpggmchbkaa
open Go.RowKit

set_option maxRecDepth 100000 in
set_option maxHeartbeats 1000000 in
theorem scripts_bad {now : Int} {v : Value} {ops : List (Int × Int × Int)} (w : World) (hv : SliceOp w v ops) (h : now < 0 ∨ 1099511627776 < now) :
    Calls Try.prog 3 #[.int .i64 now, v] w fun e w' => e = .returned (.bool true) ∧ Below w.heap.size w w' := by
  obtain ⟨a, cap, rfl, -⟩ := hv
  have HLV := hid (live_any w)
  have hcase : (decide ((100 : Int) < (ops.length : Int)) = true ∧ decide (100 < ops.length) = true) ∨ (decide ((100 : Int) < (ops.length : Int)) = false ∧ decide (100 < ops.length) = false) := by
    by_cases c : 100 < ops.length
    · exact .inl ⟨by simp; omega, by simp; omega⟩
    · exact .inr ⟨by simp; omega, by simp; omega⟩
  rcases hcase with ⟨t1, t2⟩ | ⟨t1, t2⟩
  all_goals
    go_enter Try.func3, Try.ntmps3
    go_wp2_with fail
    refine (new_bad now w h).mono ?_
    rintro e w' ⟨rfl, rfl⟩
    go_wp2_with fail
    refine (rnew_bad now w h).mono ?_
    rintro e w' ⟨rfl, rfl⟩
    go_wp2_with fail
    refine HLV.out.mono ?_
    rintro e w2 ⟨rfl, hb2⟩
    have HB2 := hid hb2; clear hb2
    go_wp2
    go_ret
    exact ⟨rfl, HB2.out⟩

theorem ref_new {w : World} (n : Int) : RefAt (w.alloc (.cells #[.int .i64 n, .slice none 0 0] 37)) w.heap.size n [] none 0 [w.heap.size] :=
  ⟨heap_alloc_new _ _, Nat.le_refl _, fun j u hj => by simp [cells2] at hj, fun g hg => (by cases hg), .head _, fun y hy => by simp at hy; subst hy; simp⟩

set_option maxRecDepth 100000 in
set_option maxHeartbeats 4000000 in
theorem scripts_ok {now : Nat} {v : Value} {ops : List (Int × Int × Int)} (w : World) (hv : SliceOp w v ops) (hn : now ≤ 1099511627776) :
    Calls Try.prog 3 #[.int .i64 now, v] w fun e w' => e = .returned (.bool true) ∧ Below w.heap.size w w' := by
  obtain ⟨a, cap, rfl⟩ : ∃ a cap, v = .slice a ops.length cap := by obtain ⟨a, cap, e, -⟩ := hv; exact ⟨a, cap, e⟩
  have HV := hid hv.cells
  clear hv
  go_enter Try.func3, Try.ntmps3
  go_wp2_with fail
  refine (new_ok now w hn).mono ?_
  rintro e w1 ⟨p, F1, rfl, h1, h2, h3⟩
  have HM : Hid (Mine w.heap.size w w1 p now [] F1) := ⟨h1, h2, h3.size, h3⟩
  clear h1 h2 h3
  go_wp2_with fail
  refine (rnew_any (now : Int) w1 ⟨by omega, by omega⟩).mono ?_
  rintro e w2 ⟨rfl, hw2⟩
  have HB : Hid (Both w w2 p now [] F1 w1.heap.size [] none 0 [w1.heap.size]) := by
    subst hw2
    exact ⟨HM.out.keep ((Upd.refl _ _).alloc _), ref_new _, fun y hy => by simp at hy; subst hy; exact HM.out.size, fun y hy hm => by simp at hm; subst hm; have := HM.out.ok.lt _ hy; omega, Ord.nil⟩
  clear hw2
  generalize w1.heap.size = q at *
  by_cases hl : 100 < ops.length
  · have t1 : decide ((100 : Int) < (ops.length : Int)) = true := by simp; omega
    have t2 : decide (100 < ops.length) = true := by simp; omega
    clear hl
    go_wp2_with fail
    refine (live_any w2).mono ?_
    rintro e w3 ⟨rfl, hb2⟩
    have HB2 := hid hb2; clear hb2
    go_wp2
    go_ret
    exact ⟨rfl, HB.out.t.below.trans (HB2.out.mono HB.out.t.below.size)⟩
  · have t1 : decide ((100 : Int) < (ops.length : Int)) = false := by simp; omega
    have t2 : decide (100 < ops.length) = false := by simp; omega
    have HL : Hid (ops.length ≤ 100) := by show ops.length ≤ 100; omega
    clear hl
    go_wp2_with fail
    go_loopg [9] ops.length (fun k i wr => ∃ (j n : Nat) (D : Al) (F : List Nat) (L : Al) (a : Option Addr) (cap : Nat) (G : List Nat), i = .int .i64 (j : Int) ∧ j + k = ops.length ∧ Both w wr p n D F q L a cap G ∧ D.length ≤ j)
    case atStart => exact ⟨0, now, [], F1, [], none, 0, [q], rfl, by omega, HB.out, by simp⟩
    case round =>
      obtain ⟨j, n, D, F, L, aL, capL, G, rfl, hjk, hB, hD⟩ := hrel
      by_cases hj : j < ops.length
      · have hx : ops[j]? = some ops[j] := List.getElem?_eq_getElem hj
        obtain ⟨g, o, rfl, hc⟩ := HV.out j _ hx
        generalize ops[j] = x at *
        obtain ⟨x0, x1, x2⟩ := x
        obtain ⟨c0, c1, c2⟩ := hc wr hB.t.below
        dsimp only at c0 c1 c2
        have hwj : IntKind.i64.wrap ((j : Int) + 1) = (j : Int) + 1 := wrap_in64 (by omega) (by have := HL.out; omega)
        have HDO := hid (does_any x0 x1 x2 wr.drew (hB.keep (Upd.drew (Upd.refl (fun _ => False) wr))) (by have := HL.out; omega))
        have HJ := hid hjk; have HDL := hid hD
        clear hB hx hc hjk hD
        go_wp2_with fail
        go_region_with (first
          | (go_at_call 11; refine HDO.out.mono ?_; rintro e w3 ⟨rfl, n3, D3, F3, L3, a3, cap3, G3, b3, l3⟩; have k0 := b3.k.c0; have k1 := b3.k.c1; rw [b3.ord.len] at k1; have K3 := hid b3; have KL := hid l3; clear b3 l3)
          | (go_at_call 12; refine (now_any _ K3.out.t.ok).mono ?_; rintro e w' ⟨rfl, rfl⟩)
          | (go_at_call 13; refine (len_any _ K3.out.t.ok).mono ?_; rintro e w' ⟨rfl, rfl⟩))
        all_goals
          go_wp2
          go_roundg (gk - 1)
          case measure => have := HJ.out; omega
          case rel => exact ⟨j + 1, n3, D3, F3, L3, a3, cap3, G3, by rw [show ((j + 1 : Nat) : Int) = (j : Int) + 1 from by omega], by have := HJ.out; omega, K3.out, by have := KL.out; have := HDL.out; omega⟩
      · have HB2 := hid hB
        clear hB hjk hD
        go_wp2_with fail
        refine (live_any wr).mono ?_
        rintro e w3 ⟨rfl, hb2⟩
        have HB3 := hid hb2; clear hb2
        go_wp2
        go_ret
        exact ⟨rfl, HB2.out.t.below.trans (HB3.out.mono HB2.out.t.below.size)⟩
end Go.Proofs.Yteoecpggmchbkaa
