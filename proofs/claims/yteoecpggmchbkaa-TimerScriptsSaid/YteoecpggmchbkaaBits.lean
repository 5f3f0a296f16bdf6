/- The contracts of package bits. -/
import Derived.Test.YteoecpggmchbkaaRows
import Derived.Test.YteoecpggmchbkaaHeap
import Derived.StillTailTactics
import Derived.Deep.RegionWith
import Derived.WalkLawsBesides
namespace Go.Proofs.Yteoecpggmchbkaa
open Go.RowKit

theorem ret_u64 {a b : Int} (h : a = b) : Ending.returned (.int .u64 a) = .returned (.int .u64 b) := by rw [h]
theorem ret_bool {a b : Bool} (h : a = b) : Ending.returned (.bool a) = .returned (.bool b) := by rw [h]

theorem two_pow_lt64 {n : Nat} (h : n < 64) : 2 ^ n < 18446744073709551616 := by
  calc 2 ^ n < 2 ^ 64 := Nat.pow_lt_pow_right (by omega) h
    _ = 18446744073709551616 := by decide

theorem wrap_mask {n : Nat} (h : n < 64) : IntKind.u64.wrap (IntKind.u64.wrap ((2 : Int) ^ n) - 1) = ((2 ^ n - 1 : Nat) : Int) := by
  have h1 := two_pow_lt64 h
  have h2 : 0 < 2 ^ n := Nat.two_pow_pos n
  have e : ((2 : Int) ^ n) = ((2 ^ n : Nat) : Int) := by simp
  rw [e, IntKind.wrap_u64, IntKind.wrap_u64]
  generalize 2 ^ n = m at *
  omega

/-- bits.mask -/
theorem mask_any (n : Int) (w : World) (h0 : 0 ≤ n) (h1 : n ≤ 64) :
    Calls Try.prog 55 #[.int .i64 n] w fun e w' => e = .returned (.int .u64 ((2 ^ n.toNat - 1 : Nat) : Int)) ∧ w = w' := by
  by_cases h : 64 ≤ n
  · obtain rfl : n = 64 := by omega
    go_enter Try.func55, Try.ntmps55
    go_wp2
    go_ret
    exact ⟨rfl, rfl⟩
  · go_enter Try.func55, Try.ntmps55
    go_wp2
    go_ret
    exact ⟨ret_u64 (wrap_mask (by omega)), rfl⟩
/-- bits.there -/
theorem there_yes (a : Option Addr) (n c : Nat) (at_ width : Int) (w : World) (hn : n ≤ 140737488351232) (h0 : 0 ≤ at_) (h1 : 0 ≤ width) (h2 : width ≤ 64) (h3 : at_ + width ≤ 64 * n) :
    Calls Try.prog 61 #[.slice a n c, .int .i64 at_, .int .i64 width] w fun e w' => e = .returned (.bool true) ∧ w = w' := by
  go_enter Try.func61, Try.ntmps61
  go_wp2
  go_ret
  exact ⟨ret_bool (decide_eq_true (by omega)), rfl⟩

/-- A word in which d bits from low on are those of x. -/
def bput (y x d low : Nat) : Nat := (y &&& (18446744073709551615 - (2 ^ d - 1) * 2 ^ low)) ||| ((x &&& (2 ^ d - 1)) * 2 ^ low)

theorem field_lt {d low : Nat} (h : low + d ≤ 64) : (2 ^ d - 1) * 2 ^ low < 18446744073709551616 := by
  have h1 : (2 ^ d - 1) * 2 ^ low < 2 ^ d * 2 ^ low := Nat.mul_lt_mul_of_pos_right (by have := Nat.two_pow_pos d; omega) (Nat.two_pow_pos low)
  have h2 : 2 ^ d * 2 ^ low = 2 ^ (d + low) := (Nat.pow_add 2 d low).symm
  have h3 : 2 ^ (d + low) ≤ 2 ^ 64 := Nat.pow_le_pow_right (by omega) (by omega)
  have h4 : (2 : Nat) ^ 64 = 18446744073709551616 := by decide
  omega
theorem part_lt {x d low : Nat} (h : low + d ≤ 64) : (x &&& (2 ^ d - 1)) * 2 ^ low < 18446744073709551616 :=
  Nat.lt_of_le_of_lt (Nat.mul_le_mul_right _ Nat.and_le_right) (field_lt h)
theorem bput_lt {y x d low : Nat} (h : low + d ≤ 64) : bput y x d low < 18446744073709551616 := by
  have h4 : (18446744073709551616 : Nat) = 2 ^ 64 := by decide
  rw [h4]
  refine Nat.or_lt_two_pow ?_ (by rw [← h4]; exact part_lt h)
  refine Nat.lt_of_le_of_lt Nat.and_le_right ?_
  omega

theorem put_word {y x d low : Nat} (hy : y < 18446744073709551616) (hx : x < 18446744073709551616) (h : low + d ≤ 64) :
    bits .or .u64 (bits .andNot .u64 (y : Int) (IntKind.u64.wrap (((2 ^ d - 1 : Nat) : Int) * (2 : Int) ^ low))) (IntKind.u64.wrap (bits .and .u64 (x : Int) ((2 ^ d - 1 : Nat) : Int) * (2 : Int) ^ low)) = ((bput y x d low : Nat) : Int) := by
  have hf := field_lt h
  have hp := part_lt (x := x) h
  have hd : 2 ^ d - 1 < 18446744073709551616 := by
    have : 2 ^ d - 1 ≤ (2 ^ d - 1) * 2 ^ low := Nat.le_mul_of_pos_right _ (Nat.two_pow_pos low)
    omega
  have e : ((2 : Int) ^ low) = ((2 ^ low : Nat) : Int) := by simp
  rw [u64_and_nat x _ hx hd, e, ← Int.natCast_mul, ← Int.natCast_mul, IntKind.wrap_u64, IntKind.wrap_u64]
  rw [Int.emod_eq_of_lt (by omega) (by omega), Int.emod_eq_of_lt (by omega) (by omega)]
  rw [u64_andNot_nat y _ hy hf]
  rw [u64_or_nat _ _ (Nat.lt_of_le_of_lt Nat.and_le_left hy) hp]
  rfl

def ekU (n : Nat) : Value := .int .u64 n

theorem Try.infoU64 : (Try.prog.info? 91).map (fun i => (i.zero, i.size, i.bytes)) = some (some (.int .u64 0), 1, 8) := by kernel_rfl

set_option maxRecDepth 100000 in
/-- slices.Clone of words: of at least one. -/
theorem cloneU_any (k o n c : Nat) (ws : List Nat) (w : World) (hl : ws.length = n) (hpos : 0 < n) (hn : n ≤ 17592186044416) (hc : ∀ i, i < n → w.cell? ⟨k, o + i, none⟩ = some (ekU (ws.getD i 0))) :
    Calls Try.prog 62 #[.slice (some ⟨k, o, none⟩) n c] w fun e w' => ∃ v, e = .returned v ∧ w'.ownsRow (w.heap.size + 1) 91 1 v n (ws.map ekU) ∧ Below w.heap.size w w' := by
  obtain ⟨i0, hi, hz0, hz1, hz2⟩ := info_parts Try.infoU64
  have hcell : ∀ (W : World) (j : Nat) (u : Value), (∀ a : Addr, a.block < w.heap.size → W.cell? a = w.cell? a) → (ws.map ekU)[j]? = some u → W.cell? ((⟨k, o, none⟩ : Addr).add j) = some u := by
    intro W j u hW hj
    have hjn : j < n := by have := (List.getElem?_eq_some_iff.1 hj).1; simpa [hl] using this
    have h1 := hc j hjn
    have hk : k < w.heap.size := World.block_lt_of_cell? _ _ h1
    have e : ((⟨k, o, none⟩ : Addr).add j) = ⟨k, o + j, none⟩ := by simp only [Addr.add]; split <;> simp_all
    rw [e, hW _ (by exact hk), h1]
    simp only [List.getElem?_map, Option.map_eq_some_iff] at hj
    obtain ⟨x, hx, rfl⟩ := hj
    rw [List.getD_eq_getElem?_getD, hx]; rfl
  have HC := hid hcell; clear hcell hc
  have H1 := hid hl; clear hl
  have hnil := fun w => Lib.run_eql_slice_nil (P := Try.prog) w 63 91 (some ⟨k, o, none⟩) n c 0 0 Try.underlying63
  go_enter Try.func62, Try.ntmps62
  go_wp2_with (at_builtin; refine wpList_append_grows _ rfl (.tmp 5) (.tmp 6) 63 rfl 91 i0 (.int .u64 0) 1 8 Try.underlying63 hi hz0 hz1 hz2 rfl (by decide) (some ⟨w.heap.size, 0, none⟩) 0 0 [] rfl ?h1 rfl ?h2 ⟨k, o, none⟩ n c (ws.map ekU) rfl ?h3 ?h4 ?h5 ?h6 ?h7 ?h8 ?next)
  case h2 => intro b _ j u h; cases h
  case h3 => simp [H1.out]
  case h4 => exact fun j u h => HC.out _ j u (fun a ha => (Below.refl w.heap.size w).alloc (Nat.le_refl _) _ |>.cell ha) h
  case h5 => intro u hu; obtain ⟨x, _, rfl⟩ := List.mem_map.1 hu; rfl
  case h6 => omega
  case h7 => unfold maxLen; omega
  case h8 => omega
  case next =>
    intro v' w' hown hg
    go_wp2
    go_ret
    refine ⟨_, rfl, ?_, ?_⟩
    · simpa using hown
    · exact ((Below.refl _ _).alloc (Nat.le_refl _) _).grown hg (by simp) (by simp)

set_option maxRecDepth 100000 in
/-- bits.Set: a field that lies in one word. -/
theorem set_one (k o n c : Nat) (ws : List Nat) (a d : Nat) (x : Nat) (w : World) (hl : ws.length = n) (hn : n ≤ 17592186044416) (hc : ∀ i, i < n → w.cell? ⟨k, o + i, none⟩ = some (ekU (ws.getD i 0)))
    (hws : ∀ y ∈ ws, y < 18446744073709551616) (h1 : 1 ≤ d) (h2 : d ≤ 64) (h3 : a + d ≤ 64 * n) (h4 : a % 64 + d ≤ 64) (hx : x < 18446744073709551616) :
    Calls Try.prog 54 #[.slice (some ⟨k, o, none⟩) n c, .int .i64 a, .int .i64 d, .int .u64 x] w fun e w' => ∃ v, e = .returned (.tuple #[v, .bool true]) ∧
      w'.ownsRow (w.heap.size + 1) 91 1 v n ((ws.set (a / 64) (bput (ws.getD (a / 64) 0) x d (a % 64))).map ekU) ∧ Below w.heap.size w w' := by
  have hpos : 0 < n := by omega
  have hthere := there_yes (some ⟨k, o, none⟩) n c a d w (by omega) (by omega) (by omega) (by omega) (by omega)
  have hclone := cloneU_any k o n c ws w hl hpos hn hc
  have HT := hid hthere; clear hthere
  have HC := hid hclone; clear hclone
  have HL := hid hl; clear hl
  have HW := hid hws; clear hws
  clear hc
  go_enter Try.func54, Try.ntmps54
  go_wp2_with fail
  refine HT.out.mono ?_
  rintro e w' ⟨rfl, rfl⟩
  go_wp2_with fail
  refine HC.out.mono ?_
  rintro e w1 ⟨v, rfl, hown, hb⟩
  obtain ⟨hlen, ⟨rfl, hn0⟩ | ⟨g, cap, cur, rfl, hg, hh, hcap, hcm, hsz, htk⟩⟩ := hown
  · omega
  have hi : a / 64 < n := by omega
  have hcell : w1.cell? ⟨g, a / 64, none⟩ = some (ekU (ws.getD (a / 64) 0)) := by
    rw [cell_of_heap hh]
    have : (cur.toList.take n)[a / 64]? = (ws.map ekU)[a / 64]? := by rw [← htk, Nat.mul_one]
    rw [List.getElem?_take_of_lt hi, List.getElem?_map] at this
    rw [← Array.getElem?_toList, this, List.getElem?_eq_getElem (by rw [HL.out]; exact hi), List.getD_eq_getElem?_getD, List.getElem?_eq_getElem (by rw [HL.out]; exact hi)]; rfl
  have hy : (ws.getD (a / 64) 0) < 18446744073709551616 := by
    rw [List.getD_eq_getElem?_getD, List.getElem?_eq_getElem (by rw [HL.out]; exact hi)]
    exact HW.out _ (List.getElem_mem _)
  have hfree : w1.frozen? ⟨g, a / 64, none⟩ = false := free_of_heap hh _
  obtain ⟨y, hyy⟩ : ∃ y, y = ws.getD (a / 64) 0 := ⟨_, rfl⟩
  rw [← hyy] at hcell hy
  simp only [ekU] at hcell
  have HY := hid hyy; clear hyy
  have HH := hid hh; clear hh
  have HS := hid hsz; clear hsz
  have HK := hid htk; clear htk
  clear hlen
  go_wp2_with fail
  refine (mask_any _ _ (by omega) (by omega)).mono ?_
  rintro e w' ⟨rfl, rfl⟩
  go_wp2_with fail

  have i1 : 0 ≤ (a : Int) / 64 := by omega
  have i2 : (a : Int) / 64 < n := by omega
  have i3 : ((a : Int) / 64).toNat = a / 64 := by omega
  go_region_with (go_at_call 55; refine (mask_any _ _ (by omega) (by omega)).mono ?_; rintro e w' ⟨rfl, rfl⟩)
  all_goals
    go_wp2
    go_ret2
    refine ⟨_, rfl, ?_, (hb.setCell (by show w.heap.size ≤ g; omega) _).drew⟩
    rw [put_word hy hx h4]
    refine ⟨by simp [HL.out], .inr ⟨g, cap, cur.setIfInBounds (a / 64) (ekU (bput y x d (a % 64))), rfl, hg, heap_setCell_same HH.out _ _, hcap, hcm, by simp [HS.out], ?_⟩⟩
    rw [← HY.out, Array.toList_setIfInBounds, List.map_set, List.take_set, HK.out]
end Go.Proofs.Yteoecpggmchbkaa
