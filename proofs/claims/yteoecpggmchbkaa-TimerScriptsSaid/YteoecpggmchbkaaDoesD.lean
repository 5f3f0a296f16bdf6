/- sandglasslaw08.does: Advance by N; all cases together. -/
import Derived.Test.YteoecpggmchbkaaDoesC
import Derived.Test.YteoecpggmchbkaaFlag
namespace Go.Proofs.Yteoecpggmchbkaa
open Go.RowKit

set_option maxRecDepth 100000 in
set_option maxHeartbeats 2000000 in
theorem does6 {w0 : World} {p n q cap : Nat} {D L : Al} {a : Option Addr} {F G : List Nat} (id m : Int) (w : World) (h : Both w0 w p n D F q L a cap G) (hD : D.length ≤ 1000) (hn : n ≤ 1099511627776) (hm : 0 ≤ m ∧ m ≤ 1099511627776) :
    Calls Try.prog 11 #[.pointer (some ⟨p, 0, none⟩), .pointer (some ⟨q, 0, none⟩), opV 6 id m] w (DoesPost w0 p q (D.length + 1)) := by
  have HB := hid (h.box 6 id m 33)
  have hL : L.length ≤ 1000000 := by have := h.ord.len; omega
  obtain ⟨hm0, hm1⟩ := hm
  have t1 : decide (m < 0) = false := by simp; omega
  have t2 : decide ((1099511627776 : Int) < m) = false := by simp; omega
  have hws : IntKind.i64.wrap ((n : Int) + m) = (n : Int) + m := wrap_in64 (by omega) (by omega)
  clear h
  go_enter Try.func11, Try.ntmps11
  go_wp2_with fail
  obtain ⟨b, hb⟩ : ∃ b, b = w.heap.size := ⟨_, rfl⟩
  rw [← hb] at HB ⊢
  clear hb
  generalize w.alloc (.cells #[.int .i64 6, .int .i64 id, .int .i64 m] 33) = W at *
  have hB := HB.out.both.half.keep (Upd.drew (Upd.refl (fun _ => False) W))
  have HT := hid (adv_new ((n : Int) + m) W.drew hB.t.ok (by omega))
  have hO := HB.out.both.ord
  have HBd := hid hB
  have c2 := HB.out.c2
  have c0 := HB.out.both.k.c0
  have HO := hid hO
  have HLL : Hid ((advL D n ((n : Int) + m)).length < 4611686018427387904) := by
    have := sub_len (k := akeys D) (told hO.nd n ((n : Int) + m)).nodup (fun x hx => by obtain ⟨d, h1, _⟩ := (told hO.nd n ((n : Int) + m)).due x hx; exact mem_akeys_of h1)
    have h2 : (akeys D).length = D.length := by simp [akeys]
    show (advL D n ((n : Int) + m)).length < 4611686018427387904
    omega
  have HDL := hid (told hO.nd n ((n : Int) + m)).len
  clear hB hO
  have hS0 : W.drew.cell? ⟨b, 2, none⟩ = some (.int .i64 m) ∧ W.drew.cell? ⟨q, 0, none⟩ = some (.int .i64 (n : Int)) := ⟨c2, c0⟩
  refine Ahead.start (fun w' => w'.cell? ⟨b, 2, none⟩ = some (.int .i64 m) ∧ w'.cell? ⟨q, 0, none⟩ = some (.int .i64 (n : Int))) 17 (by kernel_rfl) (fun hsh => ?_)
  refine Ahead.take 0 (v := ?_) rfl (by kernel_rfl) (by kernel_rfl) (by kernel_rfl) (fun _ _ _ h => h) (by kernel_rfl) (by kernel_rfl) (by kernel_rfl) (Or.inl ⟨by rfl, ?_⟩) hsh hS0 (fun hsh => ?_)
  rotate_left
  · intro w' hSw
    obtain ⟨k1, k2⟩ := hSw
    go_simp
    try with_reducible rfl
  refine Ahead.take 1 (v := ?_) rfl (by kernel_rfl) (by kernel_rfl) (by kernel_rfl) (fun _ _ _ h => h) (by kernel_rfl) (by kernel_rfl) (by kernel_rfl) (Or.inl ⟨by rfl, ?_⟩) hsh hS0 (fun hsh => ?_)
  rotate_left
  · intro w' hSw
    obtain ⟨k1, k2⟩ := hSw
    go_simp
    try with_reducible rfl
  refine Ahead.take 2 (v := ?_) rfl (by kernel_rfl) (by kernel_rfl) (by kernel_rfl) (fun _ _ _ h => h) (by kernel_rfl) (by kernel_rfl) (by kernel_rfl) (Or.inl ⟨by rfl, ?_⟩) hsh hS0 (fun hsh => ?_)
  rotate_left
  · intro w' hSw
    obtain ⟨k1, k2⟩ := hSw
    go_simp
    try with_reducible rfl
  refine Ahead.take 3 (v := ?_) rfl (by kernel_rfl) (by kernel_rfl) (by kernel_rfl) (fun _ _ _ h => h) (by kernel_rfl) (by kernel_rfl) (by kernel_rfl) (Or.inl ⟨by rfl, ?_⟩) hsh hS0 (fun hsh => ?_)
  rotate_left
  · intro w' hSw
    obtain ⟨k1, k2⟩ := hSw
    go_simp
    try with_reducible rfl
  refine Ahead.take 4 (v := ?_) rfl (by kernel_rfl) (by kernel_rfl) (by kernel_rfl) (fun _ _ _ h => h) (by kernel_rfl) (by kernel_rfl) (by kernel_rfl) (Or.inl ⟨by rfl, ?_⟩) hsh hS0 (fun hsh => ?_)
  rotate_left
  · intro w' hSw
    obtain ⟨k1, k2⟩ := hSw
    go_simp
    try with_reducible rfl
  refine Ahead.take 5 (v := ?_) rfl (by kernel_rfl) (by kernel_rfl) (by kernel_rfl) (fun _ _ _ h => h) (by kernel_rfl) (by kernel_rfl) (by kernel_rfl) (Or.inl ⟨by rfl, ?_⟩) hsh hS0 (fun hsh => ?_)
  rotate_left
  · intro w' hSw
    obtain ⟨k1, k2⟩ := hSw
    go_simp
    try with_reducible rfl
  refine Ahead.take 6 (v := ?_) rfl (by kernel_rfl) (by kernel_rfl) (by kernel_rfl) (fun _ _ _ h => h) (by kernel_rfl) (by kernel_rfl) (by kernel_rfl) (Or.inl ⟨by rfl, ?_⟩) hsh hS0 (fun hsh => ?_)
  rotate_left
  · intro w' hSw
    obtain ⟨k1, k2⟩ := hSw
    go_simp
    try with_reducible rfl
  refine Ahead.take 7 (v := ?_) rfl (by kernel_rfl) (by kernel_rfl) (by kernel_rfl) (fun _ _ _ h => h) (by kernel_rfl) (by kernel_rfl) (by kernel_rfl) (Or.inl ⟨by rfl, ?_⟩) hsh hS0 (fun hsh => ?_)
  rotate_left
  · intro w' hSw
    obtain ⟨k1, k2⟩ := hSw
    go_simp
    try with_reducible rfl
  refine Ahead.take 9 (v := ?_) rfl (by kernel_rfl) (by kernel_rfl) (by kernel_rfl) (fun _ _ _ h => h) (by kernel_rfl) (by kernel_rfl) (by kernel_rfl) (Or.inl ⟨by rfl, ?_⟩) hsh hS0 (fun hsh => ?_)
  rotate_left
  · intro w' hSw
    obtain ⟨k1, k2⟩ := hSw
    go_simp
    try with_reducible rfl
  refine Ahead.take 10 (v := ?_) rfl (by kernel_rfl) (by kernel_rfl) (by kernel_rfl) (fun _ _ _ h => h) (by kernel_rfl) (by kernel_rfl) (by kernel_rfl) (Or.inl ⟨by rfl, ?_⟩) hsh hS0 (fun hsh => ?_)
  rotate_left
  · intro w' hSw
    obtain ⟨k1, k2⟩ := hSw
    go_simp
    try with_reducible rfl
  refine Ahead.take 11 (v := ?_) rfl (by kernel_rfl) (by kernel_rfl) (by kernel_rfl) (fun _ _ _ h => h) (by kernel_rfl) (by kernel_rfl) (by kernel_rfl) (Or.inl ⟨by rfl, ?_⟩) hsh hS0 (fun hsh => ?_)
  rotate_left
  · intro w' hSw
    obtain ⟨k1, k2⟩ := hSw
    go_simp
    try with_reducible rfl
  refine Ahead.take 12 (v := ?_) rfl (by kernel_rfl) (by kernel_rfl) (by kernel_rfl) (fun _ _ _ h => h) (by kernel_rfl) (by kernel_rfl) (by kernel_rfl) (Or.inl ⟨by rfl, ?_⟩) hsh hS0 (fun hsh => ?_)
  rotate_left
  · intro w' hSw
    obtain ⟨k1, k2⟩ := hSw
    go_simp
    try with_reducible rfl
  refine Ahead.take 13 (v := ?_) rfl (by kernel_rfl) (by kernel_rfl) (by kernel_rfl) (fun _ _ _ h => h) (by kernel_rfl) (by kernel_rfl) (by kernel_rfl) (Or.inl ⟨by rfl, ?_⟩) hsh hS0 (fun hsh => ?_)
  rotate_left
  · intro w' hSw
    obtain ⟨k1, k2⟩ := hSw
    go_simp
    try with_reducible rfl
  refine Ahead.take 14 (v := ?_) rfl (by kernel_rfl) (by kernel_rfl) (by kernel_rfl) (fun _ _ _ h => h) (by kernel_rfl) (by kernel_rfl) (by kernel_rfl) (Or.inl ⟨by rfl, ?_⟩) hsh hS0 (fun hsh => ?_)
  rotate_left
  · intro w' hSw
    obtain ⟨k1, k2⟩ := hSw
    go_simp
    try with_reducible rfl
  refine Ahead.take 15 (v := ?_) rfl (by kernel_rfl) (by kernel_rfl) (by kernel_rfl) (fun _ _ _ h => h) (by kernel_rfl) (by kernel_rfl) (by kernel_rfl) (Or.inl ⟨by rfl, ?_⟩) hsh hS0 (fun hsh => ?_)
  rotate_left
  · intro w' hSw
    obtain ⟨k1, k2⟩ := hSw
    go_simp
    try with_reducible rfl
  refine Ahead.take 16 (v := ?_) rfl (by kernel_rfl) (by kernel_rfl) (by kernel_rfl) (fun _ _ _ h => h) (by kernel_rfl) (by kernel_rfl) (by kernel_rfl) (Or.inl ⟨by rfl, ?_⟩) hsh hS0 (fun hsh => ?_)
  rotate_left
  · intro w' hSw
    obtain ⟨k1, k2⟩ := hSw
    go_simp
    try with_reducible rfl
  clear hS0
  refine Ahead.one 8 (by kernel_rfl) rfl (by rfl) (fun K hK => ?_)
  go_simp
  refine HT.out.mono ?_
  rintro e w3 ⟨v3, F3, rfl, l3, g3, t3, s3⟩
  have K3 := hid (HBd.out.stepT s3 t3)
  have d1 := (s3.upd.cell (p := ⟨b, 2, none⟩) (by have := HB.out.lt; simpa using this) HB.out.bF).trans HB.out.c2
  have d0 := K3.out.k.c0
  have KK := hid (radv_any (n := n) (D := D) ((n : Int) + m) w3 K3.out.k HO.out hL)
  have HL3 := hid l3; have HG3 := hid g3
  clear t3 s3 l3 g3
  refine hK.out _ _ (fun _ => ⟨d1, d0⟩) ?_
  clear hK K d1 d0
  refine Ahead.one 17 (by kernel_rfl) rfl (by rfl) (fun K hK => ?_)
  go_simp
  refine KK.out.mono ?_
  rintro e w4 ⟨v4, L4, a4, cap4, rfl, l4, t4, o4, s4⟩
  have K4 := hid ((K3.out.stepK s4 t4).both o4)
  have KI := hid (ints_same w4 (HL3.out.block fun g hg => s4.upd.block g (HG3.out g hg).2 (fun hm => by have h5 := (HG3.out g hg).1; have h6 := HBd.out.k.foot g hm; omega)) l4 HLL.out)
  clear t4 s4 o4 l4
  refine hK.out _ _ (fun h => by simp at h) ?_
  clear hK K
  refine Ahead.one 18 (by kernel_rfl) rfl (by rfl) (fun K hK => ?_)
  go_simp
  refine KI.out.mono ?_
  rintro e w5 ⟨rfl, hu⟩
  have K5 := hid (K4.out.keep hu)
  clear hu
  refine hK.out _ _ (fun h => by simp at h) ?_
  clear hK K
  refine Ahead.one 19 (by kernel_rfl) rfl (by rfl) (fun K hK => ?_)
  go_simp
  refine hK.out _ _ (fun h => by simp at h) ?_
  clear hK K
  refine Ahead.done (by kernel_rfl) ?_ _
  go_wp2
  go_ret
  exact ⟨rfl, _, _, _, _, _, _, _, K5.out, by have := HDL.out; omega⟩

theorem does_any {w0 : World} {p n q cap : Nat} {D L : Al} {a : Option Addr} {F G : List Nat} (d id m : Int) (w : World) (h : Both w0 w p n D F q L a cap G) (hD : D.length ≤ 1000) :
    Calls Try.prog 11 #[.pointer (some ⟨p, 0, none⟩), .pointer (some ⟨q, 0, none⟩), opV d id m] w (DoesPost w0 p q (D.length + 1)) := by
  have hn : n ≤ 1099511627776 := by obtain ⟨S, _, hI⟩ := h.t.ok; exact hI.now
  by_cases h0 : d = 0
  · subst h0; exact does0 id m w h hD
  by_cases h1 : d = 1
  · subst h1; exact does1 id m w h hD
  by_cases h2 : d = 2
  · subst h2; exact does2 id m w h hD
  by_cases h3 : d = 3
  · subst h3; exact does3 id m w h hD
  by_cases h4 : d = 4
  · subst h4; exact does4 id m w h hD
  by_cases h5 : d = 5
  · subst h5
    by_cases hm : 0 ≤ m ∧ m ≤ 1099511627776
    · exact does5 id m w h hD hn hm
    · exact does56 5 id m w h (.inl rfl) hm
  by_cases h6 : d = 6
  · subst h6
    by_cases hm : 0 ≤ m ∧ m ≤ 1099511627776
    · exact does6 id m w h hD hn hm
    · exact does56 6 id m w h (.inr rfl) hm
  exact doesX d id m w h (by omega)
end Go.Proofs.Yteoecpggmchbkaa
