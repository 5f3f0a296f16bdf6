/- A Timer as its callers see it; sandglasslaw08.live. -/
import Derived.Test.YteoecpggmchbkaaTimerV1
import Derived.Test.YteoecpggmchbkaaInts
namespace Go.Proofs.Yteoecpggmchbkaa
open Go.RowKit

theorem Step.low {F F' : List Nat} {a b : World} {B : Nat} (h : Step F F' a b) (hF : ∀ y ∈ F, B ≤ y) (hB : B ≤ a.heap.size) : Below B a b ∧ (∀ y ∈ F', B ≤ y) ∧ B ≤ b.heap.size :=
  ⟨h.upd.below hB (fun x hx hm => by have := hF x hm; omega), fun y hy => (h.sub y hy).elim (hF y) (fun h => Nat.le_trans hB h), Nat.le_trans hB h.upd.size⟩
theorem Step.of_below {F : List Nat} {a b : World} (h : Below a.heap.size a b) : Step F F a b := Step.of (Upd.of_below h (fun x h1 h2 => by omega)) fun y hy => .inl hy
theorem Step.of_none {F : List Nat} {a b : World} (h : Upd (fun _ => False) a b) : Step F F a b := Step.of (h.mono fun _ _ f => f.elim) fun _ hy => .inl hy

/-- A slice of integers that no Timer has. -/
def Held (w : World) (F : List Nat) (v : Value) (xs : List Int) : Prop := SliceI w v xs ∧ ∀ g, v.ownBlock = some g → g < w.heap.size ∧ g ∉ F
theorem Held.step {w w' : World} {F F' : List Nat} {v : Value} {xs : List Int} (h : Held w F v xs) (hs : Step F F' w w') : Held w' F' v xs := by
  refine ⟨h.1.block fun g hg => hs.keep (h.2 g hg).1 (h.2 g hg).2, fun g hg => ⟨Nat.lt_of_lt_of_le (h.2 g hg).1 hs.upd.size, fun hm => ?_⟩⟩
  rcases hs.sub g hm with h1 | h1
  · exact (h.2 g hg).2 h1
  · have := (h.2 g hg).1; omega
theorem Held.nil (w : World) (F : List Nat) : Held w F (.slice none 0 0) [] := ⟨SliceI.nil w, fun g hg => by cases hg⟩

theorem ints_same {va vb : Value} {xs : List Int} (w : World) (ha : SliceI w va xs) (hb : SliceI w vb xs) (hx : xs.length < 4611686018427387904) :
    Calls Try.prog 16 #[va, vb] w fun e w' => e = .returned (.bool true) ∧ Upd (fun _ => False) w w' := by
  refine (ints_any w ha hb hx).mono ?_
  rintro e w' ⟨rfl, q, rfl⟩
  exact ⟨by simp, (Upd.refl _ _).drewN q⟩
theorem slice_one (w : World) (x : Int) (t : TypeId) : SliceI (w.alloc (.cells #[.int .i64 x] t)) (.slice (some ⟨w.heap.size, 0, none⟩) 1 1) [x] :=
  ⟨some ⟨w.heap.size, 0, none⟩, 1, rfl, fun i y hy => ⟨w.heap.size, 0, rfl, by
    have hi : i < 1 := (List.getElem?_eq_some_iff.1 hy).1
    obtain rfl : i = 0 := by omega
    rw [cell_of_heap (heap_alloc_new _ _)]
    simpa using hy⟩⟩

/-- What is told by Advance, and what is left. -/
theorem adv_told {p n to : Nat} {D : List (Int × Int)} {F : List Nat} (w : World) (h : TimerOk w p n D F) (h1 : n ≤ to) (h2 : to ≤ 1099511627776) (hD : D.length ≤ 1000000) :
    Calls Try.prog 15 #[.pointer (some ⟨p, 0, none⟩), .int .i64 to] w fun e w' => ∃ v L F', e = .returned v ∧ L.Nodup ∧ (∀ id, id ∈ L ↔ ∃ m, aget D id = some m ∧ m ≤ to) ∧ Held w' F' v (sortD D L) ∧ TimerOk w' p to ((sortD D L).foldl adel D) F' ∧ Step F F' w w' := by
  refine (adv_ok w h h1 h2 hD).mono ?_
  rintro e w' ⟨v, l, L, F', rfl, rfl, hn, hm, hown, hok, hs, hg⟩
  refine ⟨v, L, F', rfl, hn, hm, ⟨SliceI.own hown, fun g e => ⟨(hown.lt g e).2, fun hy => hg g hy e.symm⟩⟩, hok, hs⟩
theorem adv_one {p n to : Nat} {D : List (Int × Int)} {F : List Nat} (w : World) (a : Int) (h : TimerOk w p n D F) (h1 : n ≤ to) (h2 : to ≤ 1099511627776) (hD : D.length ≤ 1000000) (ha : ∀ id, (∃ m, aget D id = some m ∧ m ≤ (to : Int)) ↔ id = a) :
    Calls Try.prog 15 #[.pointer (some ⟨p, 0, none⟩), .int .i64 to] w fun e w' => ∃ v F', e = .returned v ∧ Held w' F' v [a] ∧ TimerOk w' p to (adel D a) F' ∧ Step F F' w w' := by
  refine (adv_told w h h1 h2 hD).mono ?_
  rintro e w' ⟨v, L, F', rfl, hn, hm, hh, hok, hs⟩
  have hL : L = [a] := by
    have h3 : ∀ id, id ∈ L ↔ id = a := fun id => (hm id).trans (ha id)
    cases L with
    | nil => have := (h3 a).2 rfl; cases this
    | cons x L =>
      have hx : x = a := (h3 x).1 (.head _)
      subst hx
      cases L with
      | nil => rfl
      | cons y L =>
        have hy : y = x := (h3 y).1 (.tail _ (.head _))
        subst hy
        simp at hn
  subst hL
  have e1 : sortD D [a] = [a] := by simp [sortD]
  rw [e1] at hh hok
  exact ⟨v, F', rfl, hh, hok, hs⟩

theorem minOf_is {V D : List (Int × Int)} (hV : V.Perm D) {z a : Int} (h1 : ∀ p ∈ D, a ≤ p.2) (h2 : ∃ p ∈ D, p.2 = a) (h3 : a ≤ z) : minOf z V = a := by
  obtain ⟨k1, k2⟩ := minOf_le V z
  obtain ⟨p, hp, rfl⟩ := h2
  have := k2 p (hV.mem_iff.2 hp)
  rcases minOf_mem V z with k | ⟨q, hq, k⟩
  · omega
  · have := h1 q (hV.mem_iff.1 hq); omega
theorem next_is {p n : Nat} {D : List (Int × Int)} {F : List Nat} (w : World) (a : Int) (h : TimerOk w p n D F) (h1 : ∀ p ∈ D, a ≤ p.2) (h2 : ∃ p ∈ D, p.2 = a) (h3 : a ≤ 2199023255552) :
    Calls Try.prog 18 #[.pointer (some ⟨p, 0, none⟩)] w fun e w' => e = .returned (.tuple #[.int .i64 a, .bool true]) ∧ Below w.heap.size w w' := by
  refine (tnext_any w h).mono ?_
  rintro e w' (⟨rfl, _⟩ | ⟨_, V, hV, rfl, hb⟩)
  · obtain ⟨p, hp, _⟩ := h2; cases hp
  · rw [minOf_is hV h1 h2 h3]; exact ⟨rfl, hb⟩

/-- A Timer of one's own, and the world since. -/
structure Mine (B : Nat) (w0 w : World) (p n : Nat) (D : List (Int × Int)) (F : List Nat) : Prop where
  ok : TimerOk w p n D F
  low : ∀ y ∈ F, B ≤ y
  size : B ≤ w.heap.size
  below : Below B w0 w
theorem Mine.step {B : Nat} {w0 w w' : World} {p n n' : Nat} {D D' : List (Int × Int)} {F F' : List Nat} (h : Mine B w0 w p n D F) (hs : Step F F' w w') (hok : TimerOk w' p n' D' F') : Mine B w0 w' p n' D' F' :=
  have k := hs.low h.low h.size
  ⟨hok, k.2.1, k.2.2, h.below.trans k.1⟩
theorem Mine.keep {B : Nat} {w0 w w' : World} {p n : Nat} {D : List (Int × Int)} {F : List Nat} (h : Mine B w0 w p n D F) (hs : Upd (fun _ => False) w w') : Mine B w0 w' p n D F :=
  h.step (Step.of_none hs) (h.ok.upd hs fun _ _ f => f)

set_option maxRecDepth 100000 in
set_option maxHeartbeats 1000000 in
theorem live_any (w : World) : Calls Try.prog 10 #[] w fun e w' => e = .returned (.bool true) ∧ Below w.heap.size w w' := by
  have HN : Hid (Calls Try.prog 8 #[.int .i64 10] w fun e w' => ∃ p F, e = .returned (.tuple #[.pointer (some ⟨p, 0, none⟩), .int .i64 0]) ∧ Mine w.heap.size w w' p 10 [] F) := by
    refine (new_ok 10 w (by omega)).mono ?_
    rintro e w' ⟨p, F, he, h1, h2, h3⟩
    exact ⟨p, F, he, h1, h2, h3.size, h3⟩
  go_enter Try.func10, Try.ntmps10
  go_wp2_with fail
  refine HN.out.mono ?_
  clear HN
  rintro e w1 ⟨p, F1, rfl, m1⟩
  have M1 := hid m1; clear m1
  go_wp2_with fail
  refine (new_bad (-1) w1 (.inl (by omega))).mono ?_
  rintro e w' ⟨rfl, rfl⟩
  go_wp2_with fail
  refine (set_ok 1 100 w1 M1.out.ok (by omega) (by omega) (by omega) (by omega)).mono ?_
  rintro e w2 ⟨rfl, F2, t, s⟩
  have M2 := hid (M1.out.step s t); clear t s
  go_wp2_with fail
  refine (set_ok 2 5000 w2 M2.out.ok (by omega) (by omega) (by omega) (by omega)).mono ?_
  rintro e w3 ⟨rfl, F3, t, s⟩
  have M3 := hid (M2.out.step s t); clear t s
  go_wp2_with fail
  refine (set_ok 3 5 w3 M3.out.ok (by omega) (by omega) (by omega) (by omega)).mono ?_
  rintro e w4 ⟨rfl, F4, t, s⟩
  have M4 := hid (M3.out.step s t); clear t s
  go_wp2_with fail
  refine (set_ok 4 549755813888 w4 M4.out.ok (by omega) (by omega) (by omega) (by omega)).mono ?_
  rintro e w5 ⟨rfl, F5, t, s⟩
  have M5 : Hid (Mine w.heap.size w w5 p 10 [(1, 100), (2, 5000), (3, 5), (4, 549755813888)] F5) := M4.out.step s t
  clear t s
  go_wp2_with fail
  refine (set_bad p (-1) 5 w5 (.inl (by omega))).mono ?_
  rintro e w' ⟨rfl, rfl⟩
  go_wp2_with fail
  refine (adv_one (to := 10) w5 3 M5.out.ok (by omega) (by omega) (by simp) ?_).mono ?_
  · intro id
    constructor
    · rintro ⟨m, h1, h2⟩
      have := aget_mem h1
      simp at this; omega
    · rintro rfl
      exact ⟨5, rfl, by omega⟩
  rintro e w6 ⟨vh, F6, rfl, hh, t, s⟩
  have M6 : Hid (Mine w.heap.size w w6 p 10 [(1, 100), (2, 5000), (4, 549755813888)] F6) := M5.out.step s t
  have HH6 := hid hh
  clear t s hh
  go_wp2_with fail
  refine (next_is w6 100 M6.out.ok (by simp) (by simp) (by omega)).mono ?_
  rintro e w7 ⟨rfl, hb⟩
  have M7 := hid (M6.out.step (Step.of_below hb) (M6.out.ok.upd (Upd.of_below hb (F := fun _ => False) (fun x a b => by omega)) fun _ _ f => f))
  have HH7 := hid (HH6.out.step (Step.of_below hb))
  clear hb
  go_wp2_with fail
  refine (adv_one (to := 4999) w7 1 M7.out.ok (by omega) (by omega) (by simp) ?_).mono ?_
  · intro id
    constructor
    · rintro ⟨m, h1, h2⟩
      have := aget_mem h1
      simp at this; omega
    · rintro rfl
      exact ⟨100, rfl, by omega⟩
  rintro e w8 ⟨vj, F8, rfl, hh, t, s⟩
  have M8 : Hid (Mine w.heap.size w w8 p 4999 [(2, 5000), (4, 549755813888)] F8) := M7.out.step s t
  have HJ8 := hid hh
  have HH8 := hid (HH7.out.step s)
  clear t s hh
  go_wp2_with fail
  refine (adv_bad 100 w8 M8.out.ok (.inl (by omega))).mono ?_
  rintro e w9 ⟨rfl, hb⟩
  have M9 := hid (M8.out.step (Step.of_below hb) (M8.out.ok.upd (Upd.of_below hb (F := fun _ => False) (fun x a b => by omega)) fun _ _ f => f))
  have HJ9 := hid (HJ8.out.step (Step.of_below hb))
  have HH9 := hid (HH8.out.step (Step.of_below hb))
  clear hb
  go_wp2_with fail
  have hdu : Calls Try.prog 17 #[.pointer (some ⟨p, 0, none⟩), .int .i64 2] w9 fun e w' => e = .returned (.tuple #[.int .i64 5000, .bool true]) ∧ w9 = w' := due_any 2 w9 M9.out.ok
  have HDU := hid hdu; clear hdu
  refine HDU.out.mono ?_
  clear HDU
  rintro e w' ⟨rfl, rfl⟩
  go_wp2_with fail
  have hca : Calls Try.prog 19 #[.pointer (some ⟨p, 0, none⟩), .int .i64 2] w9 fun e w' => e = .returned (.bool true) ∧ ∃ F', TimerOk w' p 4999 (adel [(2, 5000), (4, 549755813888)] 2) F' ∧ Step F8 F' w9 w' := cancel_any 2 w9 M9.out.ok
  have HCA := hid hca; clear hca
  refine HCA.out.mono ?_
  clear HCA
  rintro e w10 ⟨rfl, F10, t, s⟩
  have M10 : Hid (Mine w.heap.size w w10 p 4999 [(4, 549755813888)] F10) := M9.out.step s t
  have HJ10 := hid (HJ9.out.step s)
  have HH10 := hid (HH9.out.step s)
  clear t s
  go_wp2_with fail
  refine (adv_one (to := 1099511627776) w10 4 M10.out.ok (by omega) (by omega) (by simp) ?_).mono ?_
  · intro id
    constructor
    · rintro ⟨m, h1, h2⟩
      have := aget_mem h1
      simp at this; omega
    · rintro rfl
      exact ⟨549755813888, rfl, by omega⟩
  rintro e w11 ⟨vp, F11, rfl, hh, t, s⟩
  have M11 : Hid (Mine w.heap.size w w11 p 1099511627776 [] F11) := M10.out.step s t
  have HP11 := hid hh
  have HJ11 := hid (HJ10.out.step s)
  have HH11 := hid (HH10.out.step s)
  clear t s hh
  go_wp2_with fail
  have hua : Upd (fun _ => False) w11 (w11.alloc (.cells #[.int .i64 3] 3)) := (Upd.refl _ _).alloc _
  refine (ints_same (xs := [3]) _ (HH11.out.step (Step.of_none hua)).1 (slice_one w11 3 3) (by simp)).mono ?_
  rintro e w12 ⟨rfl, hu⟩
  have M12 := hid (M11.out.keep (hua.trans hu fun _ _ f => f))
  have HJ12 := hid (HJ11.out.step (Step.of_none (hua.trans hu fun _ _ f => f)))
  have HP12 := hid (HP11.out.step (Step.of_none (hua.trans hu fun _ _ f => f)))
  clear hua hu
  go_wp2_with fail
  have hua : Upd (fun _ => False) w12 (w12.alloc (.cells #[.int .i64 1] 3)) := (Upd.refl _ _).alloc _
  refine (ints_same (xs := [1]) _ (HJ12.out.step (Step.of_none hua)).1 (slice_one w12 1 3) (by simp)).mono ?_
  rintro e w13 ⟨rfl, hu⟩
  have M13 := hid (M12.out.keep (hua.trans hu fun _ _ f => f))
  have HP13 := hid (HP12.out.step (Step.of_none (hua.trans hu fun _ _ f => f)))
  clear hua hu
  go_wp2_with fail
  have hua : Upd (fun _ => False) w13 (w13.alloc (.cells #[.int .i64 4] 3)) := (Upd.refl _ _).alloc _
  refine (ints_same (xs := [4]) _ (HP13.out.step (Step.of_none hua)).1 (slice_one w13 4 3) (by simp)).mono ?_
  rintro e w14 ⟨rfl, hu⟩
  have M14 := hid (M13.out.keep (hua.trans hu fun _ _ f => f))
  clear hua hu
  go_wp2_with fail
  refine (now_any w14 M14.out.ok).mono ?_
  rintro e w' ⟨rfl, rfl⟩
  go_wp2_with fail
  refine (len_any w14 M14.out.ok).mono ?_
  rintro e w' ⟨rfl, rfl⟩
  go_wp2
  go_ret
  exact ⟨rfl, M14.out.below⟩

set_option maxRecDepth 100000 in
theorem timerNil_any (id n : Int) (w : World) : Calls Try.prog 6 #[.int .i64 id, .int .i64 n] w fun e w' => e = .returned (.bool true) ∧ Below w.heap.size w w' := by
  go_enter Try.func6, Try.ntmps6
  go_wp2_with fail
  refine (due_nil id w).mono ?_
  rintro e w' ⟨rfl, rfl⟩
  go_wp2_with fail
  refine (tnext_nil w).mono ?_
  rintro e w' ⟨rfl, rfl⟩
  go_wp2_with fail
  refine (set_nil id n w).mono ?_
  rintro e w' ⟨rfl, rfl⟩
  go_wp2_with fail
  refine (cancel_nil id w).mono ?_
  rintro e w' ⟨rfl, rfl⟩
  go_wp2_with fail
  refine (adv_nil n w).mono ?_
  rintro e w1 ⟨rfl, hb⟩
  have HB := hid hb; clear hb
  go_wp2_with fail
  refine (now_nil w1).mono ?_
  rintro e w' ⟨rfl, rfl⟩
  go_wp2_with fail
  refine (len_nil' w1).mono ?_
  rintro e w' ⟨rfl, rfl⟩
  go_wp2_with fail
  refine (live_any w1).mono ?_
  rintro e w2 ⟨rfl, hb⟩
  have HB2 := hid hb; clear hb
  go_wp2
  go_ret
  exact ⟨rfl, HB.out.trans (HB2.out.mono HB.out.size)⟩
end Go.Proofs.Yteoecpggmchbkaa
