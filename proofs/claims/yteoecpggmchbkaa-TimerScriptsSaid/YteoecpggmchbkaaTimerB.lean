/- timer: lift, place. -/
import Derived.Test.YteoecpggmchbkaaTimerA
namespace Go.Proofs.Yteoecpggmchbkaa
open Go.RowKit

section
variable {w w' : World} {p : Nat} {now : Int} {D : List (Int × Int)} {Wh : Nat → Nat → List Int} {FAR LATE : List (Int × Bool)} {md mf ml : Nat} {bs : Nat → Nat} {Fs : Nat → List Nat} {F : List Nat}
theorem TimerIs.cells (h : TimerIs w p now D Wh FAR LATE md mf ml bs Fs) : w.cell? ⟨p, 0, none⟩ = some (.int .i64 now) ∧ w.cell? ⟨p, 1, none⟩ = some (.map (some md)) ∧ (w.cell? ⟨p, 2, none⟩ = some (.pointer (some ⟨bs 0, 0, none⟩)) ∧ w.cell? ⟨p, 3, none⟩ = some (.pointer (some ⟨bs 1, 0, none⟩)) ∧
    w.cell? ⟨p, 4, none⟩ = some (.pointer (some ⟨bs 2, 0, none⟩)) ∧ w.cell? ⟨p, 5, none⟩ = some (.pointer (some ⟨bs 3, 0, none⟩))) ∧ w.cell? ⟨p, 6, none⟩ = some (.map (some mf)) ∧ w.cell? ⟨p, 7, none⟩ = some (.map (some ml)) := by
  refine ⟨?_, ?_, ⟨?_, ?_, ?_, ?_⟩, ?_, ?_⟩ <;> (rw [cell_of_heap h.blk]; rfl)
theorem TimerIs.free (h : TimerIs w p now D Wh FAR LATE md mf ml bs Fs) (o : Nat) : w.frozen? ⟨p, o, none⟩ = false := free_of_heap h.blk o
end

/-- The rows of all wheels without an id. -/
def liftW (Wh : Nat → Nat → List Int) (id : Int) (i : Nat) : Nat → List Int := if i < 4 then dropR (Wh i) id else Wh i

theorem liftW_eq (Wh : Nat → Nat → List Int) (id : Int) : fupd (fupd (fupd (fupd Wh 0 (dropR (Wh 0) id)) 1 (dropR (Wh 1) id)) 2 (dropR (Wh 2) id)) 3 (dropR (Wh 3) id) = liftW Wh id := by
  funext i
  unfold fupd liftW
  by_cases h : i < 4
  · rw [if_pos h]
    have : i = 0 ∨ i = 1 ∨ i = 2 ∨ i = 3 := by omega
    rcases this with rfl | rfl | rfl | rfl <;> rfl
  · rw [if_neg h, if_neg (by omega), if_neg (by omega), if_neg (by omega), if_neg (by omega)]

theorem Try.idx0 : ∀ w b0 b1 b2 b3, (Instr.index 52 (.agg #[.pointer (some ⟨b0, 0, none⟩), .pointer (some ⟨b1, 0, none⟩), .pointer (some ⟨b2, 0, none⟩), .pointer (some ⟨b3, 0, none⟩)]) (.int .i64 0)).run Try.prog w = .ok (.pointer (some ⟨b0, 0, none⟩)) w := fun _ _ _ _ _ => by kernel_rfl
theorem Try.idx1 : ∀ w b0 b1 b2 b3, (Instr.index 52 (.agg #[.pointer (some ⟨b0, 0, none⟩), .pointer (some ⟨b1, 0, none⟩), .pointer (some ⟨b2, 0, none⟩), .pointer (some ⟨b3, 0, none⟩)]) (.int .i64 1)).run Try.prog w = .ok (.pointer (some ⟨b1, 0, none⟩)) w := fun _ _ _ _ _ => by kernel_rfl
theorem Try.idx2 : ∀ w b0 b1 b2 b3, (Instr.index 52 (.agg #[.pointer (some ⟨b0, 0, none⟩), .pointer (some ⟨b1, 0, none⟩), .pointer (some ⟨b2, 0, none⟩), .pointer (some ⟨b3, 0, none⟩)]) (.int .i64 2)).run Try.prog w = .ok (.pointer (some ⟨b2, 0, none⟩)) w := fun _ _ _ _ _ => by kernel_rfl
theorem Try.idx3 : ∀ w b0 b1 b2 b3, (Instr.index 52 (.agg #[.pointer (some ⟨b0, 0, none⟩), .pointer (some ⟨b1, 0, none⟩), .pointer (some ⟨b2, 0, none⟩), .pointer (some ⟨b3, 0, none⟩)]) (.int .i64 3)).run Try.prog w = .ok (.pointer (some ⟨b3, 0, none⟩)) w := fun _ _ _ _ _ => by kernel_rfl

set_option maxRecDepth 100000 in
/-- timer.lift -/
theorem lift_any {p : Nat} {now : Int} {D : List (Int × Int)} {Wh : Nat → Nat → List Int} {FAR LATE : List (Int × Bool)} {F : List Nat} (id : Int) (w : World) (h : TimerAt w p now D Wh FAR LATE F) :
    Calls Try.prog 26 #[.pointer (some ⟨p, 0, none⟩), .int .i64 id] w fun e w' => e = .returned (.tuple #[]) ∧ ∃ F', TimerAt w' p now D (liftW Wh id) (adel FAR id) (adel LATE id) F' ∧ Step F F' w w' := by
  obtain ⟨md, mf, ml, bs, Fs, h, rfl⟩ := h
  obtain ⟨-, -, ⟨c2, c3, c4, c5⟩, -, -⟩ := h.cells
  have x0 := Try.idx0
  have x1 := Try.idx1
  have x2 := Try.idx2
  have x3 := Try.idx3
  have H := hid h; clear h
  go_enter Try.func26, Try.ntmps26
  go_wp2_with fail
  refine wp_loop_rounds 5 ?_
  rw [rounds_succ]
  go_wp2_with fail
  refine (wdrop id w (H.out.hw 0 (by omega))).mono ?_
  rintro e w1 ⟨⟨r, rfl⟩, F1, hw1, hs1⟩
  obtain ⟨t1, s1⟩ := H.out.wheel (i := 0) (by omega) hw1 hs1
  have T1 := hid t1; have S1 := hid s1; clear t1 s1 hw1 hs1
  go_wp2_with fail
  rw [rounds_succ]
  go_wp2_with fail
  refine (wdrop id w1 (T1.out.hw 1 (by omega))).mono ?_
  rintro e w2 ⟨⟨r, rfl⟩, F2, hw2, hs2⟩
  obtain ⟨t2, s2⟩ := T1.out.wheel (i := 1) (by omega) hw2 hs2
  have T2 := hid t2; have S2 := hid s2; clear t2 s2 hw2 hs2
  go_wp2_with fail
  rw [rounds_succ]
  go_wp2_with fail
  refine (wdrop id w2 (T2.out.hw 2 (by omega))).mono ?_
  rintro e w3 ⟨⟨r, rfl⟩, F3, hw3, hs3⟩
  obtain ⟨t3, s3⟩ := T2.out.wheel (i := 2) (by omega) hw3 hs3
  have T3 := hid t3; have S3 := hid s3; clear t3 s3 hw3 hs3
  go_wp2_with fail
  rw [rounds_succ]
  go_wp2_with fail
  refine (wdrop id w3 (T3.out.hw 3 (by omega))).mono ?_
  rintro e w4 ⟨⟨r, rfl⟩, F4, hw4, hs4⟩
  obtain ⟨t4, s4⟩ := T3.out.wheel (i := 3) (by omega) hw4 hs4
  have T4 := hid t4; have S4 := hid s4; clear t4 s4 hw4 hs4
  go_wp2_with fail
  rw [rounds_succ]
  have c6 := T4.out.cells.2.2.2.1
  go_wp2_with (at_delete; refine wpList_delete_is (ev := evB) (l := FAR) rfl _ _ _ rfl (keyInt Try.underlying3) Try.underlying50 mf rfl id rfl T4.out.hf ?next)
  case next =>
    intro w5 k1 k2 k3
    have ap := T4.out.apart.h1
    obtain ⟨t5, s5⟩ := T4.out.step (x := mf) (now' := now) (D' := D) (FAR' := adel FAR id) (LATE' := LATE) (by simp) k2 (by rw [if_neg ap.2.1]) (by rw [if_neg ap.2.2.2.1]) (by rw [if_pos rfl]; exact k1) (by rw [if_neg (Ne.symm ap.2.2.2.2.2)])
    have T5 := hid t5; have S5 := hid s5; clear t5 s5 k1 k2 k3 c6
    have c7 := T5.out.cells.2.2.2.2
    go_wp2_with (at_delete; refine wpList_delete_is (ev := evB) (l := LATE) rfl _ _ _ rfl (keyInt Try.underlying3) Try.underlying50 ml rfl id rfl T5.out.hl ?next)
    case next =>
      intro w6 k1 k2 k3
      obtain ⟨t6, s6⟩ := T5.out.step (x := ml) (now' := now) (D' := D) (FAR' := adel FAR id) (LATE' := adel LATE id) (by simp) k2 (by rw [if_neg ap.2.2.1]) (by rw [if_neg ap.2.2.2.2.1]) (by rw [if_neg ap.2.2.2.2.2]) (by rw [if_pos rfl]; exact k1)
      have T6 := hid t6; have S6 := hid s6; clear t6 s6 k1 k2 k3
      go_wp2
      go_end0
      refine ⟨rfl, _, ⟨md, mf, ml, bs, _, ?_, rfl⟩, ((((S1.out.trans S2.out).trans S3.out).trans S4.out).trans S5.out).trans S6.out⟩
      have := T6.out
      rw [← liftW_eq]
      exact this

theorem Try.zeroInt (w : World) : (zeroValue 3).run Try.prog w = .ok (.int .i64 0) w := by kernel_rfl

theorem wrap_i64_in {z : Int} (h0 : 0 ≤ z) (h1 : z < 9223372036854775808) : IntKind.i64.wrap z = z := by
  rw [IntKind.wrap_i64]; omega
theorem i64_and_nat (a b : Nat) (ha : a < 9223372036854775808) (hb : b < 9223372036854775808) : bits .and .i64 (a : Int) (b : Int) = ((a &&& b : Nat) : Int) := by
  have hx : a &&& b < 2 ^ 63 := Nat.and_lt_two_pow _ (by omega)
  show IntKind.i64.wrap ((BitVec.ofInt 64 (a : Int) &&& BitVec.ofInt 64 (b : Int)).toNat : Int) = _
  rw [BitVec.toNat_and, ofInt_u64 a (by omega), ofInt_u64 b (by omega), wrap_i64_in (by omega) (by omega)]
theorem i64_or_nat (a b : Nat) (ha : a < 9223372036854775808) (hb : b < 9223372036854775808) : bits .or .i64 (a : Int) (b : Int) = ((a ||| b : Nat) : Int) := by
  have hx : a ||| b < 2 ^ 63 := Nat.or_lt_two_pow (by omega) (by omega)
  show IntKind.i64.wrap ((BitVec.ofInt 64 (a : Int) ||| BitVec.ofInt 64 (b : Int)).toNat : Int) = _
  rw [BitVec.toNat_or, ofInt_u64 a (by omega), ofInt_u64 b (by omega), wrap_i64_in (by omega) (by omega)]
theorem i64_xor_nat (a b : Nat) (ha : a < 9223372036854775808) (hb : b < 9223372036854775808) : bits .xor .i64 (a : Int) (b : Int) = ((a ^^^ b : Nat) : Int) := by
  have hx : a ^^^ b < 2 ^ 63 := Nat.xor_lt_two_pow (by omega) (by omega)
  show IntKind.i64.wrap ((BitVec.ofInt 64 (a : Int) ^^^ BitVec.ofInt 64 (b : Int)).toNat : Int) = _
  rw [BitVec.toNat_xor, ofInt_u64 a (by omega), ofInt_u64 b (by omega), wrap_i64_in (by omega) (by omega)]
theorem i64_and63 (a : Nat) (ha : a < 9223372036854775808) : bits .and .i64 (a : Int) 63 = ((a % 64 : Nat) : Int) := by
  have := i64_and_nat a 63 ha (by omega)
  rw [nat_mask6] at this
  exact this

theorem xor_div (m n k : Nat) : (m ^^^ n) / 2 ^ k = 0 ↔ m / 2 ^ k = n / 2 ^ k := by
  have h : (m ^^^ n) / 2 ^ k = (m / 2 ^ k) ^^^ (n / 2 ^ k) := by
    rw [← Nat.shiftRight_eq_div_pow, ← Nat.shiftRight_eq_div_pow, ← Nat.shiftRight_eq_div_pow, Nat.shiftRight_xor_distrib]
  rw [h]
  constructor
  · intro e
    apply Nat.eq_of_testBit_eq
    intro i
    have := congrArg (fun z => z.testBit i) e
    simp only [Nat.testBit_xor, Nat.zero_testBit] at this
    revert this
    cases (m / 2 ^ k).testBit i <;> cases (n / 2 ^ k).testBit i <;> simp
  · intro e; rw [e, Nat.xor_self]

set_option maxRecDepth 100000 in
theorem place_late {p n m : Nat} {D : List (Int × Int)} {Wh : Nat → Nat → List Int} {FAR LATE : List (Int × Bool)} {F : List Nat} (id : Int) (w : World) (h : TimerAt w p n D Wh FAR LATE F) (hg : aget D id = some (m : Int)) (_hm : m ≤ 1099511627776) (_hn : n ≤ 1099511627776) (hlt : m ≤ n) :
    Calls Try.prog 27 #[.pointer (some ⟨p, 0, none⟩), .int .i64 id] w fun e w' => e = .returned (.tuple #[]) ∧ ∃ F', TimerAt w' p n D Wh FAR (aset LATE id true) F' ∧ Step F F' w w' := by
  obtain ⟨md, mf, ml, bs, Fs, h, rfl⟩ := h
  obtain ⟨c0, c1, ⟨c2, c3, c4, c5⟩, c6, c7⟩ := h.cells
  have hl := run_lookup h.hd (keyInt Try.underlying3) Try.underlying46 Try.zeroInt id
  rw [hg] at hl
  simp only [Option.elim_some, ekI] at hl
  have x0 := Try.idx0
  have x1 := Try.idx1
  have x2 := Try.idx2
  have x3 := Try.idx3
  have H := hid h; clear h hg
  go_enter Try.func27, Try.ntmps27
  go_wp2_with (at_mapUpdate; refine wpList_update_is (ev := evB) (l := LATE) rfl _ _ _ rfl (keyInt Try.underlying3) Try.underlying50 ml rfl id rfl true rfl H.out.hl ?next)
  case next =>
    intro w6 k1 k2 k3
    have ap := H.out.apart.h1
    obtain ⟨t6, s6⟩ := H.out.step (x := ml) (now' := n) (D' := D) (FAR' := FAR) (LATE' := aset LATE id true) (by simp) k2 (by rw [if_neg ap.2.2.1]) (by rw [if_neg ap.2.2.2.2.1]) (by rw [if_neg ap.2.2.2.2.2]) (by rw [if_pos rfl]; exact k1)
    have T6 := hid t6; have S6 := hid s6; clear t6 s6 k1 k2 k3
    go_wp2
    refine bodyPost_ret (results_none rfl _ _ _) rfl ?_
    exact ⟨rfl, _, ⟨_, _, _, _, _, T6.out, rfl⟩, S6.out⟩

set_option maxRecDepth 100000 in
theorem place_w0 {p n m : Nat} {D : List (Int × Int)} {Wh : Nat → Nat → List Int} {FAR LATE : List (Int × Bool)} {F : List Nat} (id : Int) (w : World) (h : TimerAt w p n D Wh FAR LATE F) (hid0 : 0 ≤ id) (hid1 : id ≤ 1048575) (hg : aget D id = some (m : Int)) (hm : m ≤ 1099511627776) (hn : n ≤ 1099511627776) (hlt : n < m) (q0 : m / 64 = n / 64) :
    Calls Try.prog 27 #[.pointer (some ⟨p, 0, none⟩), .int .i64 id] w fun e w' => e = .returned (.tuple #[]) ∧ ∃ F', TimerAt w' p n D (fupd Wh 0 (addR (dropR (Wh 0) id) (m % 64) id)) FAR LATE F' ∧ Step F F' w w' := by
  obtain ⟨md, mf, ml, bs, Fs, h, rfl⟩ := h
  obtain ⟨c0, c1, ⟨c2, c3, c4, c5⟩, c6, c7⟩ := h.cells
  have hl := run_lookup h.hd (keyInt Try.underlying3) Try.underlying46 Try.zeroInt id
  rw [hg] at hl
  simp only [Option.elim_some, ekI] at hl
  have x0 := Try.idx0
  have x1 := Try.idx1
  have x2 := Try.idx2
  have x3 := Try.idx3
  have H := hid h; clear h hg
  obtain ⟨x, hx⟩ : ∃ x, x = m ^^^ n := ⟨_, rfl⟩
  have hxx := i64_xor_nat m n (by omega) (by omega)
  rw [← hx] at hxx
  have y0 := xor_div m n 6
  rw [show (2 : Nat) ^ 6 = 64 from by decide, ← hx] at y0
  have z0 : ((x : Int) / 64 == 0) = true := by have := y0.2 q0; rw [beq_iff_eq]; omega
  clear y0
  have g1 : bits .and .i64 (m : Int) 63 = ((m % 64 : Nat) : Int) := by
    have := i64_and63 m (by omega)
    simpa using this
  clear hx q0
  go_enter Try.func27, Try.ntmps27
  go_wp2_with fail
  refine wp_loop_rounds 1 ?_
  rw [rounds_succ]
  go_wp2_with fail
  refine (wadd (m % 64) id w (by omega) hid0 hid1 (H.out.hw 0 (by omega))).mono ?_
  rintro e w1 ⟨rfl, F1, hw1, hs1⟩
  obtain ⟨t1, s1⟩ := H.out.wheel (i := 0) (by omega) hw1 hs1
  have T1 := hid t1; have S1 := hid s1; clear t1 s1 hw1 hs1
  go_wp2
  refine bodyPost_ret (results_none rfl _ _ _) rfl ?_
  exact ⟨rfl, _, ⟨_, _, _, _, _, T1.out, rfl⟩, S1.out⟩

set_option maxRecDepth 100000 in
theorem place_w1 {p n m : Nat} {D : List (Int × Int)} {Wh : Nat → Nat → List Int} {FAR LATE : List (Int × Bool)} {F : List Nat} (id : Int) (w : World) (h : TimerAt w p n D Wh FAR LATE F) (hid0 : 0 ≤ id) (hid1 : id ≤ 1048575) (hg : aget D id = some (m : Int)) (hm : m ≤ 1099511627776) (hn : n ≤ 1099511627776) (hlt : n < m) (q0 : m / 64 ≠ n / 64) (q1 : m / 4096 = n / 4096) :
    Calls Try.prog 27 #[.pointer (some ⟨p, 0, none⟩), .int .i64 id] w fun e w' => e = .returned (.tuple #[]) ∧ ∃ F', TimerAt w' p n D (fupd Wh 1 (addR (dropR (Wh 1) id) (m / 64 % 64) id)) FAR LATE F' ∧ Step F F' w w' := by
  obtain ⟨md, mf, ml, bs, Fs, h, rfl⟩ := h
  obtain ⟨c0, c1, ⟨c2, c3, c4, c5⟩, c6, c7⟩ := h.cells
  have hl := run_lookup h.hd (keyInt Try.underlying3) Try.underlying46 Try.zeroInt id
  rw [hg] at hl
  simp only [Option.elim_some, ekI] at hl
  have x0 := Try.idx0
  have x1 := Try.idx1
  have x2 := Try.idx2
  have x3 := Try.idx3
  have H := hid h; clear h hg
  obtain ⟨x, hx⟩ : ∃ x, x = m ^^^ n := ⟨_, rfl⟩
  have hxx := i64_xor_nat m n (by omega) (by omega)
  rw [← hx] at hxx
  have y0 := xor_div m n 6
  rw [show (2 : Nat) ^ 6 = 64 from by decide, ← hx] at y0
  have z0 : ((x : Int) / 64 == 0) = false := by have := fun e => q0 (y0.1 e); rw [beq_eq_false_iff_ne]; omega
  clear y0
  have y1 := xor_div m n 12
  rw [show (2 : Nat) ^ 12 = 4096 from by decide, ← hx] at y1
  have z1 : ((x : Int) / 4096 == 0) = true := by have := y1.2 q1; rw [beq_iff_eq]; omega
  clear y1
  have g1 : bits .and .i64 ((m : Int) / 64) 63 = ((m / 64 % 64 : Nat) : Int) := by
    have := i64_and63 (m / 64) (by omega)
    simpa using this
  clear hx q0 q1
  go_enter Try.func27, Try.ntmps27
  go_wp2_with fail
  refine wp_loop_rounds 2 ?_
  rw [rounds_succ]
  go_wp2_with fail
  rw [rounds_succ]
  go_wp2_with fail
  refine (wadd (m / 64 % 64) id w (by omega) hid0 hid1 (H.out.hw 1 (by omega))).mono ?_
  rintro e w1 ⟨rfl, F1, hw1, hs1⟩
  obtain ⟨t1, s1⟩ := H.out.wheel (i := 1) (by omega) hw1 hs1
  have T1 := hid t1; have S1 := hid s1; clear t1 s1 hw1 hs1
  go_wp2
  refine bodyPost_ret (results_none rfl _ _ _) rfl ?_
  exact ⟨rfl, _, ⟨_, _, _, _, _, T1.out, rfl⟩, S1.out⟩

set_option maxRecDepth 100000 in
theorem place_w2 {p n m : Nat} {D : List (Int × Int)} {Wh : Nat → Nat → List Int} {FAR LATE : List (Int × Bool)} {F : List Nat} (id : Int) (w : World) (h : TimerAt w p n D Wh FAR LATE F) (hid0 : 0 ≤ id) (hid1 : id ≤ 1048575) (hg : aget D id = some (m : Int)) (hm : m ≤ 1099511627776) (hn : n ≤ 1099511627776) (hlt : n < m) (q0 : m / 64 ≠ n / 64) (q1 : m / 4096 ≠ n / 4096) (q2 : m / 262144 = n / 262144) :
    Calls Try.prog 27 #[.pointer (some ⟨p, 0, none⟩), .int .i64 id] w fun e w' => e = .returned (.tuple #[]) ∧ ∃ F', TimerAt w' p n D (fupd Wh 2 (addR (dropR (Wh 2) id) (m / 4096 % 64) id)) FAR LATE F' ∧ Step F F' w w' := by
  obtain ⟨md, mf, ml, bs, Fs, h, rfl⟩ := h
  obtain ⟨c0, c1, ⟨c2, c3, c4, c5⟩, c6, c7⟩ := h.cells
  have hl := run_lookup h.hd (keyInt Try.underlying3) Try.underlying46 Try.zeroInt id
  rw [hg] at hl
  simp only [Option.elim_some, ekI] at hl
  have x0 := Try.idx0
  have x1 := Try.idx1
  have x2 := Try.idx2
  have x3 := Try.idx3
  have H := hid h; clear h hg
  obtain ⟨x, hx⟩ : ∃ x, x = m ^^^ n := ⟨_, rfl⟩
  have hxx := i64_xor_nat m n (by omega) (by omega)
  rw [← hx] at hxx
  have y0 := xor_div m n 6
  rw [show (2 : Nat) ^ 6 = 64 from by decide, ← hx] at y0
  have z0 : ((x : Int) / 64 == 0) = false := by have := fun e => q0 (y0.1 e); rw [beq_eq_false_iff_ne]; omega
  clear y0
  have y1 := xor_div m n 12
  rw [show (2 : Nat) ^ 12 = 4096 from by decide, ← hx] at y1
  have z1 : ((x : Int) / 4096 == 0) = false := by have := fun e => q1 (y1.1 e); rw [beq_eq_false_iff_ne]; omega
  clear y1
  have y2 := xor_div m n 18
  rw [show (2 : Nat) ^ 18 = 262144 from by decide, ← hx] at y2
  have z2 : ((x : Int) / 262144 == 0) = true := by have := y2.2 q2; rw [beq_iff_eq]; omega
  clear y2
  have g1 : bits .and .i64 ((m : Int) / 4096) 63 = ((m / 4096 % 64 : Nat) : Int) := by
    have := i64_and63 (m / 4096) (by omega)
    simpa using this
  clear hx q0 q1 q2
  go_enter Try.func27, Try.ntmps27
  go_wp2_with fail
  refine wp_loop_rounds 3 ?_
  rw [rounds_succ]
  go_wp2_with fail
  rw [rounds_succ]
  go_wp2_with fail
  rw [rounds_succ]
  go_wp2_with fail
  refine (wadd (m / 4096 % 64) id w (by omega) hid0 hid1 (H.out.hw 2 (by omega))).mono ?_
  rintro e w1 ⟨rfl, F1, hw1, hs1⟩
  obtain ⟨t1, s1⟩ := H.out.wheel (i := 2) (by omega) hw1 hs1
  have T1 := hid t1; have S1 := hid s1; clear t1 s1 hw1 hs1
  go_wp2
  refine bodyPost_ret (results_none rfl _ _ _) rfl ?_
  exact ⟨rfl, _, ⟨_, _, _, _, _, T1.out, rfl⟩, S1.out⟩

set_option maxRecDepth 100000 in
theorem place_w3 {p n m : Nat} {D : List (Int × Int)} {Wh : Nat → Nat → List Int} {FAR LATE : List (Int × Bool)} {F : List Nat} (id : Int) (w : World) (h : TimerAt w p n D Wh FAR LATE F) (hid0 : 0 ≤ id) (hid1 : id ≤ 1048575) (hg : aget D id = some (m : Int)) (hm : m ≤ 1099511627776) (hn : n ≤ 1099511627776) (hlt : n < m) (q0 : m / 64 ≠ n / 64) (q1 : m / 4096 ≠ n / 4096) (q2 : m / 262144 ≠ n / 262144) (q3 : m / 16777216 = n / 16777216) :
    Calls Try.prog 27 #[.pointer (some ⟨p, 0, none⟩), .int .i64 id] w fun e w' => e = .returned (.tuple #[]) ∧ ∃ F', TimerAt w' p n D (fupd Wh 3 (addR (dropR (Wh 3) id) (m / 262144 % 64) id)) FAR LATE F' ∧ Step F F' w w' := by
  obtain ⟨md, mf, ml, bs, Fs, h, rfl⟩ := h
  obtain ⟨c0, c1, ⟨c2, c3, c4, c5⟩, c6, c7⟩ := h.cells
  have hl := run_lookup h.hd (keyInt Try.underlying3) Try.underlying46 Try.zeroInt id
  rw [hg] at hl
  simp only [Option.elim_some, ekI] at hl
  have x0 := Try.idx0
  have x1 := Try.idx1
  have x2 := Try.idx2
  have x3 := Try.idx3
  have H := hid h; clear h hg
  obtain ⟨x, hx⟩ : ∃ x, x = m ^^^ n := ⟨_, rfl⟩
  have hxx := i64_xor_nat m n (by omega) (by omega)
  rw [← hx] at hxx
  have y0 := xor_div m n 6
  rw [show (2 : Nat) ^ 6 = 64 from by decide, ← hx] at y0
  have z0 : ((x : Int) / 64 == 0) = false := by have := fun e => q0 (y0.1 e); rw [beq_eq_false_iff_ne]; omega
  clear y0
  have y1 := xor_div m n 12
  rw [show (2 : Nat) ^ 12 = 4096 from by decide, ← hx] at y1
  have z1 : ((x : Int) / 4096 == 0) = false := by have := fun e => q1 (y1.1 e); rw [beq_eq_false_iff_ne]; omega
  clear y1
  have y2 := xor_div m n 18
  rw [show (2 : Nat) ^ 18 = 262144 from by decide, ← hx] at y2
  have z2 : ((x : Int) / 262144 == 0) = false := by have := fun e => q2 (y2.1 e); rw [beq_eq_false_iff_ne]; omega
  clear y2
  have y3 := xor_div m n 24
  rw [show (2 : Nat) ^ 24 = 16777216 from by decide, ← hx] at y3
  have z3 : ((x : Int) / 16777216 == 0) = true := by have := y3.2 q3; rw [beq_iff_eq]; omega
  clear y3
  have g1 : bits .and .i64 ((m : Int) / 262144) 63 = ((m / 262144 % 64 : Nat) : Int) := by
    have := i64_and63 (m / 262144) (by omega)
    simpa using this
  clear hx q0 q1 q2 q3
  go_enter Try.func27, Try.ntmps27
  go_wp2_with fail
  refine wp_loop_rounds 4 ?_
  rw [rounds_succ]
  go_wp2_with fail
  rw [rounds_succ]
  go_wp2_with fail
  rw [rounds_succ]
  go_wp2_with fail
  rw [rounds_succ]
  go_wp2_with fail
  refine (wadd (m / 262144 % 64) id w (by omega) hid0 hid1 (H.out.hw 3 (by omega))).mono ?_
  rintro e w1 ⟨rfl, F1, hw1, hs1⟩
  obtain ⟨t1, s1⟩ := H.out.wheel (i := 3) (by omega) hw1 hs1
  have T1 := hid t1; have S1 := hid s1; clear t1 s1 hw1 hs1
  go_wp2
  refine bodyPost_ret (results_none rfl _ _ _) rfl ?_
  exact ⟨rfl, _, ⟨_, _, _, _, _, T1.out, rfl⟩, S1.out⟩

set_option maxRecDepth 100000 in
theorem place_far {p n m : Nat} {D : List (Int × Int)} {Wh : Nat → Nat → List Int} {FAR LATE : List (Int × Bool)} {F : List Nat} (id : Int) (w : World) (h : TimerAt w p n D Wh FAR LATE F) (hg : aget D id = some (m : Int)) (hm : m ≤ 1099511627776) (hn : n ≤ 1099511627776) (hlt : n < m) (q0 : m / 64 ≠ n / 64) (q1 : m / 4096 ≠ n / 4096) (q2 : m / 262144 ≠ n / 262144) (q3 : m / 16777216 ≠ n / 16777216) :
    Calls Try.prog 27 #[.pointer (some ⟨p, 0, none⟩), .int .i64 id] w fun e w' => e = .returned (.tuple #[]) ∧ ∃ F', TimerAt w' p n D Wh (aset FAR id true) LATE F' ∧ Step F F' w w' := by
  obtain ⟨md, mf, ml, bs, Fs, h, rfl⟩ := h
  obtain ⟨c0, c1, ⟨c2, c3, c4, c5⟩, c6, c7⟩ := h.cells
  have hl := run_lookup h.hd (keyInt Try.underlying3) Try.underlying46 Try.zeroInt id
  rw [hg] at hl
  simp only [Option.elim_some, ekI] at hl
  have x0 := Try.idx0
  have x1 := Try.idx1
  have x2 := Try.idx2
  have x3 := Try.idx3
  have H := hid h; clear h hg
  obtain ⟨x, hx⟩ : ∃ x, x = m ^^^ n := ⟨_, rfl⟩
  have hxx := i64_xor_nat m n (by omega) (by omega)
  rw [← hx] at hxx
  have y0 := xor_div m n 6
  rw [show (2 : Nat) ^ 6 = 64 from by decide, ← hx] at y0
  have z0 : ((x : Int) / 64 == 0) = false := by have := fun e => q0 (y0.1 e); rw [beq_eq_false_iff_ne]; omega
  clear y0
  have y1 := xor_div m n 12
  rw [show (2 : Nat) ^ 12 = 4096 from by decide, ← hx] at y1
  have z1 : ((x : Int) / 4096 == 0) = false := by have := fun e => q1 (y1.1 e); rw [beq_eq_false_iff_ne]; omega
  clear y1
  have y2 := xor_div m n 18
  rw [show (2 : Nat) ^ 18 = 262144 from by decide, ← hx] at y2
  have z2 : ((x : Int) / 262144 == 0) = false := by have := fun e => q2 (y2.1 e); rw [beq_eq_false_iff_ne]; omega
  clear y2
  have y3 := xor_div m n 24
  rw [show (2 : Nat) ^ 24 = 16777216 from by decide, ← hx] at y3
  have z3 : ((x : Int) / 16777216 == 0) = false := by have := fun e => q3 (y3.1 e); rw [beq_eq_false_iff_ne]; omega
  clear y3
  clear hx q0 q1 q2 q3
  go_enter Try.func27, Try.ntmps27
  go_wp2_with fail
  refine wp_loop_rounds 5 ?_
  rw [rounds_succ]
  go_wp2_with fail
  rw [rounds_succ]
  go_wp2_with fail
  rw [rounds_succ]
  go_wp2_with fail
  rw [rounds_succ]
  go_wp2_with fail
  rw [rounds_succ]
  go_wp2_with (at_mapUpdate; refine wpList_update_is (ev := evB) (l := FAR) rfl _ _ _ rfl (keyInt Try.underlying3) Try.underlying50 mf rfl id rfl true rfl H.out.hf ?next)
  case next =>
    intro w6 k1 k2 k3
    have ap := H.out.apart.h1
    obtain ⟨t6, s6⟩ := H.out.step (x := mf) (now' := n) (D' := D) (FAR' := aset FAR id true) (LATE' := LATE) (by simp) k2 (by rw [if_neg ap.2.1]) (by rw [if_neg ap.2.2.2.1]) (by rw [if_pos rfl]; exact k1) (by rw [if_neg (Ne.symm ap.2.2.2.2.2)])
    have T6 := hid t6; have S6 := hid s6; clear t6 s6 k1 k2 k3
    go_wp2
    go_end0
    exact ⟨rfl, _, ⟨_, _, _, _, _, T6.out, rfl⟩, S6.out⟩

end Go.Proofs.Yteoecpggmchbkaa
