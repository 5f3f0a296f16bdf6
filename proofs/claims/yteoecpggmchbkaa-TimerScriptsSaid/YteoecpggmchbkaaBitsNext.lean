/- The contract of bits.Next, over one word, and behind the last one. -/
import Derived.Test.YteoecpggmchbkaaBits
namespace Go.Proofs.Yteoecpggmchbkaa
open Go.RowKit

/-- bits.Next behind the last word. -/
theorem next_end (ao : Option Addr) (n c : Nat) (f : Int) (w : World) (h0 : 0 ≤ f) (h1 : 64 * n ≤ f) (h2 : f ≤ 1152921504606846976) :
    Calls Try.prog 43 #[.slice ao n c, .int .i64 f] w fun e w' => e = .returned (.tuple #[.int .i64 0, .bool false]) ∧ w = w' := by
  have t1 : ¬ f < 0 := by omega
  have t2 : ¬ f / 64 < n := by omega
  go_enter Try.func43, Try.ntmps43
  go_wp2
  refine wp_loop_rounds 1 ?_; rw [rounds_succ]
  go_wp2
  go_ret2
  exact ⟨rfl, rfl⟩

set_option maxRecDepth 100000 in
/-- bits.Next: nothing from there on. -/
theorem next_none (k o c : Nat) (x f : Nat) (w : World) (hc : w.cell? ⟨k, o, none⟩ = some (ekU x)) (h1 : f < 64) (hz : x / 2 ^ f * 2 ^ f = 0) :
    Calls Try.prog 43 #[.slice (some ⟨k, o, none⟩) 1 c, .int .i64 f] w fun e w' => e = .returned (.tuple #[.int .i64 0, .bool false]) ∧ w = w' := by
  simp only [ekU] at hc
  have t1 : ¬ (f : Int) < 0 := by omega
  have i1 : (f : Int) / 64 = 0 := by omega
  have i2 : (f : Int) % 64 = f := by omega
  have t3 : ((x : Int) / 2 ^ f * 2 ^ f) = 0 := by exact_mod_cast hz
  go_enter Try.func43, Try.ntmps43
  go_wp2
  refine wp_loop_rounds 2 ?_; rw [rounds_succ]
  go_wp2
  rw [rounds_succ]
  go_wp2
  go_ret2
  exact ⟨rfl, rfl⟩

/-- The place of the first one of a number. -/
def isLow (x i : Nat) : Prop := ∃ m, x = (2 * m + 1) * 2 ^ i

/-- A step of the search: of the lowest 2h bits, one is there. -/
theorem low_shift {n h : Nat} (hz : n % 2 ^ h = 0) (hb : n % 2 ^ (h + h) ≠ 0) : n / 2 ^ h % 2 ^ h ≠ 0 := by
  intro e
  apply hb
  obtain ⟨q, rfl⟩ := Nat.dvd_of_mod_eq_zero hz
  rw [Nat.mul_div_cancel_left _ (Nat.two_pow_pos h)] at e
  rw [Nat.pow_add, Nat.mul_mod_mul_left, e, Nat.mul_zero]

set_option maxRecDepth 100000 in
/-- bits.Next: found. -/
theorem next_some (k o c : Nat) (x f : Nat) (w : World) (hc : w.cell? ⟨k, o, none⟩ = some (ekU x)) (h1 : f < 64) (hx : x < 18446744073709551616) (hz : x / 2 ^ f * 2 ^ f ≠ 0) :
    Calls Try.prog 43 #[.slice (some ⟨k, o, none⟩) 1 c, .int .i64 f] w fun e w' => ∃ i, e = .returned (.tuple #[.int .i64 (i : Nat), .bool true]) ∧ isLow (x / 2 ^ f * 2 ^ f) i ∧ w = w' := by
  simp only [ekU] at hc
  have t1 : ¬ (f : Int) < 0 := by omega
  have i1 : (f : Int) / 64 = 0 := by omega
  have i2 : (f : Int) % 64 = f := by omega
  obtain ⟨y, hy⟩ : ∃ y, y = x / 2 ^ f * 2 ^ f := ⟨_, rfl⟩
  have hyx : y ≤ x := by rw [hy]; exact Nat.div_mul_le_self x (2 ^ f)
  have t3 : (((x : Int) / 2 ^ f * 2 ^ f) == 0) = false := by
    rw [beq_eq_false_iff_ne]; intro e; exact hz (by exact_mod_cast e)
  have t4 : (x : Int) / 2 ^ f * 2 ^ f = (y : Int) := by rw [hy]; norm_cast
  rw [t4] at t3
  have HY := hid hy; clear hy
  clear hz
  go_enter Try.func43, Try.ntmps43
  go_wp2
  refine wp_loop_rounds 1 ?_; rw [rounds_succ]
  go_wp2
  clear i1 i2 t4 hc
  go_loop [7, 8, 9] (fun vn va vh => ∃ n a b h : Nat, vn = .int .u64 n ∧ va = .int .i64 a ∧ vh = .int .i64 h ∧ n % 2 ^ b ≠ 0 ∧ y = n * 2 ^ a ∧ n < 18446744073709551616 ∧ a + b ≤ 64 ∧ (h = 32 ∨ h = 16 ∨ h = 8 ∨ h = 4 ∨ h = 2 ∨ h = 1 ∨ h = 0) ∧ ((h = 0 ∧ b = 1) ∨ (0 < h ∧ b = h + h))) (fun _ _ vh => (intOf vh).toNat)
  case atStart =>
    refine ⟨y, 0, 64, 32, rfl, rfl, rfl, ?_, by simp, by omega, by omega, by omega, by omega⟩
    rw [show (2 : Nat) ^ 64 = 18446744073709551616 from by decide, Nat.mod_eq_of_lt (by omega)]
    intro e; subst e; simp at t3
  case round =>
    obtain ⟨n, a, b, h, rfl, rfl, rfl, r1, r2, r3, r4, r5, r6⟩ := hrel
    by_cases hh : 0 < h
    · obtain rfl : b = h + h := by omega
      clear r6
      have hm : 2 ^ h - 1 < 18446744073709551616 := by have := two_pow_lt64 (n := h) (by omega); omega
      have han := u64_and_nat n (2 ^ h - 1) r3 hm
      rw [Nat.and_two_pow_sub_one_eq_mod] at han
      by_cases hz : n % 2 ^ h = 0
      · have ht : (bits .and .u64 (n : Int) ((2 ^ h - 1 : Nat) : Int) == 0) = true := by rw [han, hz]; rfl
        have hq : n / 2 ^ h < 18446744073709551616 := Nat.lt_of_le_of_lt (Nat.div_le_self _ _) r3
        have R1 := hid (low_shift hz r1); have R2 := hid r2; have R5 := hid r5; have R3 := hid hq; have RZ := hid hz
        clear r1 r2 r5 han hz hq hm
        have b1 : h ≤ 32 := by have := R5.out; omega
        have b2 : a ≤ 64 := by omega
        go_wp2_with (go_at_call 55; refine (mask_any _ _ (by omega) (by omega)).mono ?_; rintro e w' ⟨rfl, rfl⟩)
        go_round
        case rel =>
          refine ⟨n / 2 ^ h, a + h, h, h / 2, by go_num, by go_num, by go_num, R1.out, ?_, R3.out, by omega, by have := R5.out; omega, by have := R5.out; omega⟩
          rw [R2.out, Nat.pow_add, Nat.mul_comm (2 ^ a), ← Nat.mul_assoc, Nat.div_mul_cancel (Nat.dvd_of_mod_eq_zero RZ.out)]
        case measure => simp [intOf]; omega
      · have ht : (bits .and .u64 (n : Int) ((2 ^ h - 1 : Nat) : Int) == 0) = false := by
          rw [han, beq_eq_false_iff_ne]; intro e; exact hz (by exact_mod_cast e)
        have R1 := hid r1; have R2 := hid r2; have R5 := hid r5; have R3 := hid r3; have RZ := hid hz
        clear r1 r2 r5 han hz r3 hm
        have b1 : h ≤ 32 := by have := R5.out; omega
        go_wp2_with (go_at_call 55; refine (mask_any _ _ (by omega) (by omega)).mono ?_; rintro e w' ⟨rfl, rfl⟩)
        go_round
        case rel =>
          exact ⟨n, a, h, h / 2, by go_num, by go_num, by go_num, RZ.out, R2.out, R3.out, by omega, by have := R5.out; omega, by have := R5.out; omega⟩
        case measure => simp [intOf]; omega
    · obtain rfl : h = 0 := by omega
      obtain rfl : b = 1 := by omega
      have R1 := hid r1; have R2 := hid r2; have R3 := hid r3
      clear r1 r2 r3 r5 r6 hh
      have b2 : a ≤ 64 := by omega
      go_wp2
      go_ret2
      refine ⟨a, rfl, ?_, rfl⟩
      rw [← HY.out, R2.out]
      have h1 := R1.out
      exact ⟨n / 2, by rw [show 2 * (n / 2) + 1 = n by omega]⟩
end Go.Proofs.Yteoecpggmchbkaa
