/- timer.stop: a wheel has something. -/
import Derived.Test.YteoecpggmchbkaaTimerS
import Derived.Deep.RegionHeld3
namespace Go.Proofs.Yteoecpggmchbkaa
open Go.RowKit

set_option maxRecDepth 100000 in
set_option maxHeartbeats 400000 in
theorem stop_0 {p n s : Nat} {D : List (Int × Int)} {S : PS} {F : List Nat} (w : World) (h : TimerAt w p n D S.1 S.2.1 S.2.2 F) (hn : n ≤ 1099511627776) (hlen : (S.1 0 s).length ≤ 1000000) (hs : FirstRow (S.1 0) (n % 64) s) :
    Calls Try.prog 28 #[.pointer (some ⟨p, 0, none⟩)] w (StopPost n D S w) := by
  obtain ⟨md, mf, ml, bs, Fs, h, rfl⟩ := h
  obtain ⟨c0, c1, ⟨c2, c3, c4, c5⟩, c6, c7⟩ := h.cells
  have x0 := Try.idx0
  have x1 := Try.idx1
  have x2 := Try.idx2
  have x3 := Try.idx3
  have hs64 := hs.1
  have K : StopSays n D S ((n / 64 * 64 + s : Nat) : Int) (S.1 0 s) := by
    refine .inl ⟨0, s, by omega, hs64, by simpa using hs.2.1, rfl, hs.2.2.1, by simpa using hs.2.2.2, ?_, by simp⟩
    intro j hj; omega
  have wd : bits .or .i64 ((n : Int) / 64 * 64) (s : Int) = ((n / 64 * 64 + s : Nat) : Int) := by
    have := join_at (A := n / 64 * 64) (B := s) 6 (by omega) (by omega) (by omega)
    rw [← this]; congr 1
  rw [← wd] at K
  have HK := hid K
  clear K wd
  have HR : Hid (∀ W : World, W.heap = w.heap → W.tape = w.tape → W.os = w.os → W.output = w.output → Calls Try.prog 37 #[.pointer (some ⟨bs 0, 0, none⟩), .int .i64 s] W fun e w' => ∃ v, e = .returned v ∧ w'.ownsRow w.heap.size 3 1 v (S.1 0 s).length ((S.1 0 s).map ekI) ∧ Below w.heap.size w w' ∧ w'.cell? ⟨p, 0, none⟩ = some (.int .i64 n)) := h.rowAt hs64 hlen (by omega)
  have n0 := wnext_yes (d := n % 64) w (by omega) (h.hw 0 (by omega)) hs
  obtain ⟨d0, hd0⟩ : ∃ d, d = n % 64 := ⟨_, rfl⟩
  have g0 : bits .and .i64 (n : Int) 63 = (d0 : Int) := by rw [hd0]; exact i64_and63 (n) (by omega)
  rw [← hd0] at n0
  have l0 : d0 < 64 := by omega
  have N0 := hid n0
  clear n0 hd0
  clear h hs hlen
  go_enter Try.func28, Try.ntmps28
  go_wp2_with fail
  refine wp_loop_rounds 1 ?_
  rw [rounds_succ]
  go_wp2_with fail
  refine N0.out.mono ?_
  rintro e w' ⟨rfl, rfl⟩
  clear g0
  have wa : IntKind.i64.wrap 6 = 6 := wrap_i64_in (by omega) (by omega)
  have wb : IntKind.i64.wrap ((n : Int) / 64 * 64) = (n : Int) / 64 * 64 := by rw [wrap_i64_in (by omega) (by omega)]
  have wc : IntKind.i64.wrap (s : Int) = (s : Int) := by rw [wrap_i64_in (by omega) (by omega)]
  go_wp2_with fail
  go_region_held3 (fun w' => w'.cell? ⟨p, 0, none⟩ = some (.int .i64 n)) (first | go_keep | assumption) (first | (go_at_call 37; refine (HR.out _ (by rfl) (by rfl) (by rfl) (by rfl)).mono ?_; rintro e w1 ⟨v, rfl, hown, hb, q0⟩))
  have HO := hid hown
  have HB := hid hb
  clear wa wb wc hown hb q0
  go_wp2
  go_ret3
  exact ⟨_, _, _, _, rfl, HO.out, HB.out, HK.out⟩

set_option maxRecDepth 100000 in
set_option maxHeartbeats 400000 in
theorem stop_1 {p n s : Nat} {D : List (Int × Int)} {S : PS} {F : List Nat} (w : World) (h : TimerAt w p n D S.1 S.2.1 S.2.2 F) (hn : n ≤ 1099511627776) (hlen : (S.1 1 s).length ≤ 1000000) (k0 : ∀ t, n % 64 < t → S.1 0 t = []) (hs : FirstRow (S.1 1) (n / 64 % 64) s) :
    Calls Try.prog 28 #[.pointer (some ⟨p, 0, none⟩)] w (StopPost n D S w) := by
  obtain ⟨md, mf, ml, bs, Fs, h, rfl⟩ := h
  obtain ⟨c0, c1, ⟨c2, c3, c4, c5⟩, c6, c7⟩ := h.cells
  have x0 := Try.idx0
  have x1 := Try.idx1
  have x2 := Try.idx2
  have x3 := Try.idx3
  have hs64 := hs.1
  have K : StopSays n D S ((n / 4096 * 4096 + s * 64 : Nat) : Int) (S.1 1 s) := by
    refine .inl ⟨1, s, by omega, hs64, by simpa using hs.2.1, rfl, hs.2.2.1, by simpa using hs.2.2.2, ?_, by simp [pw2]⟩
    intro j hj
    have hj' : j = 0 := by omega
    subst hj'
    · simpa using k0
  have wd : bits .or .i64 ((n : Int) / 4096 * 4096) ((s : Int) * 64) = ((n / 4096 * 4096 + s * 64 : Nat) : Int) := by
    have := join_at (A := n / 4096 * 4096) (B := s * 64) 12 (by omega) (by omega) (by omega)
    rw [← this]; congr 1
  rw [← wd] at K
  have HK := hid K
  clear K wd
  have HR : Hid (∀ W : World, W.heap = w.heap → W.tape = w.tape → W.os = w.os → W.output = w.output → Calls Try.prog 37 #[.pointer (some ⟨bs 1, 0, none⟩), .int .i64 s] W fun e w' => ∃ v, e = .returned v ∧ w'.ownsRow w.heap.size 3 1 v (S.1 1 s).length ((S.1 1 s).map ekI) ∧ Below w.heap.size w w' ∧ w'.cell? ⟨p, 0, none⟩ = some (.int .i64 n)) := h.rowAt hs64 hlen (by omega)
  have n0 := wnext_no (d := n % 64) w (by omega) (h.hw 0 (by omega)) k0
  obtain ⟨d0, hd0⟩ : ∃ d, d = n % 64 := ⟨_, rfl⟩
  have g0 : bits .and .i64 (n : Int) 63 = (d0 : Int) := by rw [hd0]; exact i64_and63 (n) (by omega)
  rw [← hd0] at n0
  have l0 : d0 < 64 := by omega
  have N0 := hid n0
  clear n0 hd0
  have n1 := wnext_yes (d := n / 64 % 64) w (by omega) (h.hw 1 (by omega)) hs
  obtain ⟨d1, hd1⟩ : ∃ d, d = n / 64 % 64 := ⟨_, rfl⟩
  have g1 : bits .and .i64 ((n : Int) / 64) 63 = (d1 : Int) := by rw [hd1]; exact i64_and63 (n / 64) (by omega)
  rw [← hd1] at n1
  have l1 : d1 < 64 := by omega
  have N1 := hid n1
  clear n1 hd1
  clear h hs hlen k0
  go_enter Try.func28, Try.ntmps28
  go_wp2_with fail
  refine wp_loop_rounds 2 ?_
  rw [rounds_succ]
  go_wp2_with fail
  refine N0.out.mono ?_
  rintro e w' ⟨rfl, rfl⟩
  clear g0
  go_wp2_with fail
  rw [rounds_succ]
  go_wp2_with fail
  refine N1.out.mono ?_
  rintro e w' ⟨rfl, rfl⟩
  clear g1
  have wa : IntKind.i64.wrap 12 = 12 := wrap_i64_in (by omega) (by omega)
  have wb : IntKind.i64.wrap ((n : Int) / 4096 * 4096) = (n : Int) / 4096 * 4096 := by rw [wrap_i64_in (by omega) (by omega)]
  have wc : IntKind.i64.wrap ((s : Int) * 64) = ((s : Int) * 64) := by rw [wrap_i64_in (by omega) (by omega)]
  go_wp2_with fail
  go_region_held3 (fun w' => w'.cell? ⟨p, 0, none⟩ = some (.int .i64 n)) (first | go_keep | assumption) (first | (go_at_call 37; refine (HR.out _ (by rfl) (by rfl) (by rfl) (by rfl)).mono ?_; rintro e w1 ⟨v, rfl, hown, hb, q0⟩))
  have HO := hid hown
  have HB := hid hb
  clear wa wb wc hown hb q0
  go_wp2
  go_ret3
  exact ⟨_, _, _, _, rfl, HO.out, HB.out, HK.out⟩

set_option maxRecDepth 100000 in
set_option maxHeartbeats 400000 in
theorem stop_2 {p n s : Nat} {D : List (Int × Int)} {S : PS} {F : List Nat} (w : World) (h : TimerAt w p n D S.1 S.2.1 S.2.2 F) (hn : n ≤ 1099511627776) (hlen : (S.1 2 s).length ≤ 1000000) (k0 : ∀ t, n % 64 < t → S.1 0 t = []) (k1 : ∀ t, n / 64 % 64 < t → S.1 1 t = []) (hs : FirstRow (S.1 2) (n / 4096 % 64) s) :
    Calls Try.prog 28 #[.pointer (some ⟨p, 0, none⟩)] w (StopPost n D S w) := by
  obtain ⟨md, mf, ml, bs, Fs, h, rfl⟩ := h
  obtain ⟨c0, c1, ⟨c2, c3, c4, c5⟩, c6, c7⟩ := h.cells
  have x0 := Try.idx0
  have x1 := Try.idx1
  have x2 := Try.idx2
  have x3 := Try.idx3
  have hs64 := hs.1
  have K : StopSays n D S ((n / 262144 * 262144 + s * 4096 : Nat) : Int) (S.1 2 s) := by
    refine .inl ⟨2, s, by omega, hs64, by simpa [pw2] using hs.2.1, rfl, hs.2.2.1, by simpa [pw2] using hs.2.2.2, ?_, by simp [pw2, pw3]⟩
    intro j hj
    have hj' : j = 0 ∨ j = 1 := by omega
    rcases hj' with rfl | rfl
    · simpa using k0
    · simpa using k1
  have wd : bits .or .i64 ((n : Int) / 262144 * 262144) ((s : Int) * 4096) = ((n / 262144 * 262144 + s * 4096 : Nat) : Int) := by
    have := join_at (A := n / 262144 * 262144) (B := s * 4096) 18 (by omega) (by omega) (by omega)
    rw [← this]; congr 1
  rw [← wd] at K
  have HK := hid K
  clear K wd
  have HR : Hid (∀ W : World, W.heap = w.heap → W.tape = w.tape → W.os = w.os → W.output = w.output → Calls Try.prog 37 #[.pointer (some ⟨bs 2, 0, none⟩), .int .i64 s] W fun e w' => ∃ v, e = .returned v ∧ w'.ownsRow w.heap.size 3 1 v (S.1 2 s).length ((S.1 2 s).map ekI) ∧ Below w.heap.size w w' ∧ w'.cell? ⟨p, 0, none⟩ = some (.int .i64 n)) := h.rowAt hs64 hlen (by omega)
  have n0 := wnext_no (d := n % 64) w (by omega) (h.hw 0 (by omega)) k0
  obtain ⟨d0, hd0⟩ : ∃ d, d = n % 64 := ⟨_, rfl⟩
  have g0 : bits .and .i64 (n : Int) 63 = (d0 : Int) := by rw [hd0]; exact i64_and63 (n) (by omega)
  rw [← hd0] at n0
  have l0 : d0 < 64 := by omega
  have N0 := hid n0
  clear n0 hd0
  have n1 := wnext_no (d := n / 64 % 64) w (by omega) (h.hw 1 (by omega)) k1
  obtain ⟨d1, hd1⟩ : ∃ d, d = n / 64 % 64 := ⟨_, rfl⟩
  have g1 : bits .and .i64 ((n : Int) / 64) 63 = (d1 : Int) := by rw [hd1]; exact i64_and63 (n / 64) (by omega)
  rw [← hd1] at n1
  have l1 : d1 < 64 := by omega
  have N1 := hid n1
  clear n1 hd1
  have n2 := wnext_yes (d := n / 4096 % 64) w (by omega) (h.hw 2 (by omega)) hs
  obtain ⟨d2, hd2⟩ : ∃ d, d = n / 4096 % 64 := ⟨_, rfl⟩
  have g2 : bits .and .i64 ((n : Int) / 4096) 63 = (d2 : Int) := by rw [hd2]; exact i64_and63 (n / 4096) (by omega)
  rw [← hd2] at n2
  have l2 : d2 < 64 := by omega
  have N2 := hid n2
  clear n2 hd2
  clear h hs hlen k0 k1
  go_enter Try.func28, Try.ntmps28
  go_wp2_with fail
  refine wp_loop_rounds 3 ?_
  rw [rounds_succ]
  go_wp2_with fail
  refine N0.out.mono ?_
  rintro e w' ⟨rfl, rfl⟩
  clear g0
  go_wp2_with fail
  rw [rounds_succ]
  go_wp2_with fail
  refine N1.out.mono ?_
  rintro e w' ⟨rfl, rfl⟩
  clear g1
  go_wp2_with fail
  rw [rounds_succ]
  go_wp2_with fail
  refine N2.out.mono ?_
  rintro e w' ⟨rfl, rfl⟩
  clear g2
  have wa : IntKind.i64.wrap 18 = 18 := wrap_i64_in (by omega) (by omega)
  have wb : IntKind.i64.wrap ((n : Int) / 262144 * 262144) = (n : Int) / 262144 * 262144 := by rw [wrap_i64_in (by omega) (by omega)]
  have wc : IntKind.i64.wrap ((s : Int) * 4096) = ((s : Int) * 4096) := by rw [wrap_i64_in (by omega) (by omega)]
  go_wp2_with fail
  go_region_held3 (fun w' => w'.cell? ⟨p, 0, none⟩ = some (.int .i64 n)) (first | go_keep | assumption) (first | (go_at_call 37; refine (HR.out _ (by rfl) (by rfl) (by rfl) (by rfl)).mono ?_; rintro e w1 ⟨v, rfl, hown, hb, q0⟩))
  have HO := hid hown
  have HB := hid hb
  clear wa wb wc hown hb q0
  go_wp2
  go_ret3
  exact ⟨_, _, _, _, rfl, HO.out, HB.out, HK.out⟩

set_option maxRecDepth 100000 in
set_option maxHeartbeats 400000 in
theorem stop_3 {p n s : Nat} {D : List (Int × Int)} {S : PS} {F : List Nat} (w : World) (h : TimerAt w p n D S.1 S.2.1 S.2.2 F) (hn : n ≤ 1099511627776) (hlen : (S.1 3 s).length ≤ 1000000) (k0 : ∀ t, n % 64 < t → S.1 0 t = []) (k1 : ∀ t, n / 64 % 64 < t → S.1 1 t = []) (k2 : ∀ t, n / 4096 % 64 < t → S.1 2 t = []) (hs : FirstRow (S.1 3) (n / 262144 % 64) s) :
    Calls Try.prog 28 #[.pointer (some ⟨p, 0, none⟩)] w (StopPost n D S w) := by
  obtain ⟨md, mf, ml, bs, Fs, h, rfl⟩ := h
  obtain ⟨c0, c1, ⟨c2, c3, c4, c5⟩, c6, c7⟩ := h.cells
  have x0 := Try.idx0
  have x1 := Try.idx1
  have x2 := Try.idx2
  have x3 := Try.idx3
  have hs64 := hs.1
  have K : StopSays n D S ((n / 16777216 * 16777216 + s * 262144 : Nat) : Int) (S.1 3 s) := by
    refine .inl ⟨3, s, by omega, hs64, by simpa [pw3] using hs.2.1, rfl, hs.2.2.1, by simpa [pw3] using hs.2.2.2, ?_, by simp [pw3, pw4]⟩
    intro j hj
    have hj' : j = 0 ∨ j = 1 ∨ j = 2 := by omega
    rcases hj' with rfl | rfl | rfl
    · simpa using k0
    · simpa using k1
    · simpa [pw2] using k2
  have wd : bits .or .i64 ((n : Int) / 16777216 * 16777216) ((s : Int) * 262144) = ((n / 16777216 * 16777216 + s * 262144 : Nat) : Int) := by
    have := join_at (A := n / 16777216 * 16777216) (B := s * 262144) 24 (by omega) (by omega) (by omega)
    rw [← this]; congr 1
  rw [← wd] at K
  have HK := hid K
  clear K wd
  have HR : Hid (∀ W : World, W.heap = w.heap → W.tape = w.tape → W.os = w.os → W.output = w.output → Calls Try.prog 37 #[.pointer (some ⟨bs 3, 0, none⟩), .int .i64 s] W fun e w' => ∃ v, e = .returned v ∧ w'.ownsRow w.heap.size 3 1 v (S.1 3 s).length ((S.1 3 s).map ekI) ∧ Below w.heap.size w w' ∧ w'.cell? ⟨p, 0, none⟩ = some (.int .i64 n)) := h.rowAt hs64 hlen (by omega)
  have n0 := wnext_no (d := n % 64) w (by omega) (h.hw 0 (by omega)) k0
  obtain ⟨d0, hd0⟩ : ∃ d, d = n % 64 := ⟨_, rfl⟩
  have g0 : bits .and .i64 (n : Int) 63 = (d0 : Int) := by rw [hd0]; exact i64_and63 (n) (by omega)
  rw [← hd0] at n0
  have l0 : d0 < 64 := by omega
  have N0 := hid n0
  clear n0 hd0
  have n1 := wnext_no (d := n / 64 % 64) w (by omega) (h.hw 1 (by omega)) k1
  obtain ⟨d1, hd1⟩ : ∃ d, d = n / 64 % 64 := ⟨_, rfl⟩
  have g1 : bits .and .i64 ((n : Int) / 64) 63 = (d1 : Int) := by rw [hd1]; exact i64_and63 (n / 64) (by omega)
  rw [← hd1] at n1
  have l1 : d1 < 64 := by omega
  have N1 := hid n1
  clear n1 hd1
  have n2 := wnext_no (d := n / 4096 % 64) w (by omega) (h.hw 2 (by omega)) k2
  obtain ⟨d2, hd2⟩ : ∃ d, d = n / 4096 % 64 := ⟨_, rfl⟩
  have g2 : bits .and .i64 ((n : Int) / 4096) 63 = (d2 : Int) := by rw [hd2]; exact i64_and63 (n / 4096) (by omega)
  rw [← hd2] at n2
  have l2 : d2 < 64 := by omega
  have N2 := hid n2
  clear n2 hd2
  have n3 := wnext_yes (d := n / 262144 % 64) w (by omega) (h.hw 3 (by omega)) hs
  obtain ⟨d3, hd3⟩ : ∃ d, d = n / 262144 % 64 := ⟨_, rfl⟩
  have g3 : bits .and .i64 ((n : Int) / 262144) 63 = (d3 : Int) := by rw [hd3]; exact i64_and63 (n / 262144) (by omega)
  rw [← hd3] at n3
  have l3 : d3 < 64 := by omega
  have N3 := hid n3
  clear n3 hd3
  clear h hs hlen k0 k1 k2
  go_enter Try.func28, Try.ntmps28
  go_wp2_with fail
  refine wp_loop_rounds 4 ?_
  rw [rounds_succ]
  go_wp2_with fail
  refine N0.out.mono ?_
  rintro e w' ⟨rfl, rfl⟩
  clear g0
  go_wp2_with fail
  rw [rounds_succ]
  go_wp2_with fail
  refine N1.out.mono ?_
  rintro e w' ⟨rfl, rfl⟩
  clear g1
  go_wp2_with fail
  rw [rounds_succ]
  go_wp2_with fail
  refine N2.out.mono ?_
  rintro e w' ⟨rfl, rfl⟩
  clear g2
  go_wp2_with fail
  rw [rounds_succ]
  go_wp2_with fail
  refine N3.out.mono ?_
  rintro e w' ⟨rfl, rfl⟩
  clear g3
  have wa : IntKind.i64.wrap 24 = 24 := wrap_i64_in (by omega) (by omega)
  have wb : IntKind.i64.wrap ((n : Int) / 16777216 * 16777216) = (n : Int) / 16777216 * 16777216 := by rw [wrap_i64_in (by omega) (by omega)]
  have wc : IntKind.i64.wrap ((s : Int) * 262144) = ((s : Int) * 262144) := by rw [wrap_i64_in (by omega) (by omega)]
  go_wp2_with fail
  go_region_held3 (fun w' => w'.cell? ⟨p, 0, none⟩ = some (.int .i64 n)) (first | go_keep | assumption) (first | (go_at_call 37; refine (HR.out _ (by rfl) (by rfl) (by rfl) (by rfl)).mono ?_; rintro e w1 ⟨v, rfl, hown, hb, q0⟩))
  have HO := hid hown
  have HB := hid hb
  clear wa wb wc hown hb q0
  go_wp2
  go_ret3
  exact ⟨_, _, _, _, rfl, HO.out, HB.out, HK.out⟩

end Go.Proofs.Yteoecpggmchbkaa
