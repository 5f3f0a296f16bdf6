/- sandglasslaw08.does: the other cases. -/
import Derived.Test.YteoecpggmchbkaaDoesB
namespace Go.Proofs.Yteoecpggmchbkaa
open Go.RowKit

theorem tnext_none {p n : Nat} {F : List Nat} (w : World) (h : TimerOk w p n [] F) : Calls Try.prog 18 #[.pointer (some ⟨p, 0, none⟩)] w fun e w' => e = .returned (.tuple #[.int .i64 0, .bool false]) ∧ w = w' := by
  refine (tnext_any w h).mono ?_
  rintro e w' (⟨_, h1, h2⟩ | ⟨h, _⟩)
  · exact ⟨h1, h2⟩
  · exact absurd rfl h

set_option maxRecDepth 100000 in
set_option maxHeartbeats 1000000 in
theorem does4 {w0 : World} {p n q cap : Nat} {D L : Al} {a : Option Addr} {F G : List Nat} (id m : Int) (w : World) (h : Both w0 w p n D F q L a cap G) (hD : D.length ≤ 1000) :
    Calls Try.prog 11 #[.pointer (some ⟨p, 0, none⟩), .pointer (some ⟨q, 0, none⟩), opV 4 id m] w (DoesPost w0 p q (D.length + 1)) := by
  have HB := hid (h.box 4 id m 33)
  clear h
  go_enter Try.func11, Try.ntmps11
  go_wp2_with fail
  obtain ⟨b, hb⟩ : ∃ b, b = w.heap.size := ⟨_, rfl⟩
  rw [← hb] at HB ⊢
  clear hb
  generalize w.alloc (.cells #[.int .i64 4, .int .i64 id, .int .i64 m] 33) = W at *
  cases L with
  | nil =>
    have hd : D = [] := by have := HB.out.both.ord.perm; exact this.symm.eq_nil
    subst hd
    refine (tnext_none W HB.out.both.t.ok).mono ?_
    rintro e w' ⟨rfl, rfl⟩
    go_wp2_with fail
    refine (rnext_nil W HB.out.both.k).mono ?_
    rintro e w' ⟨rfl, rfl⟩
    go_wp2
    go_ret
    exact ⟨by simp, n, _, F, _, a, cap, G, HB.out.both, by simp⟩
  | cons x L =>
    obtain ⟨o1, o2⟩ := HB.out.both.ord.first
    have hx : x.2 ≤ 2199023255552 := by
      obtain ⟨y, hy, e⟩ := o2
      have hr : y.2 ≤ 1099511627776 := by
        obtain ⟨S, _, hI⟩ := HB.out.both.t.ok
        exact (hI.rng y.1 y.2 (aget_of_mem hI.nd hy)).2.2.2
      omega
    have HN := hid (next_is W x.2 HB.out.both.t.ok o1 o2 hx)
    clear o1 o2 hx
    refine HN.out.mono ?_
    rintro e w2 ⟨rfl, hb⟩
    have HB2 := hid ((HB.out.both.half.keepB hb).both HB.out.both.ord)
    clear hb
    go_wp2_with fail
    refine (rnext_cons w2 HB2.out.k).mono ?_
    rintro e w' ⟨rfl, rfl⟩
    go_wp2
    go_ret
    exact ⟨by simp, n, _, F, _, a, cap, G, HB2.out, by omega⟩

set_option maxRecDepth 100000 in
set_option maxHeartbeats 2000000 in
theorem does5 {w0 : World} {p n q cap : Nat} {D L : Al} {a : Option Addr} {F G : List Nat} (id m : Int) (w : World) (h : Both w0 w p n D F q L a cap G) (hD : D.length ≤ 1000) (hn : n ≤ 1099511627776) (hm : 0 ≤ m ∧ m ≤ 1099511627776) :
    Calls Try.prog 11 #[.pointer (some ⟨p, 0, none⟩), .pointer (some ⟨q, 0, none⟩), opV 5 id m] w (DoesPost w0 p q (D.length + 1)) := by
  have HB := hid (h.box 5 id m 33)
  have hL : L.length ≤ 1000000 := by have := h.ord.len; omega
  obtain ⟨hm0, hm1⟩ := hm
  have t1 : decide (m < 0) = false := by simp; omega
  have t2 : decide ((1099511627776 : Int) < m) = false := by simp; omega
  have hws : IntKind.i64.wrap ((n : Int) + m) = (n : Int) + m := wrap_in64 (by omega) (by omega)
  clear h
  go_enter Try.func11, Try.ntmps11
  go_wp2_with fail
  obtain ⟨b, hb⟩ : ∃ b, b = w.heap.size := ⟨_, rfl⟩
  rw [← hb] at HB ⊢
  clear hb
  generalize w.alloc (.cells #[.int .i64 5, .int .i64 id, .int .i64 m] 33) = W at *
  obtain ⟨r, hr⟩ : ∃ r : Int, (if setOk id ((n : Int) + m) then 0 else 1) = r := ⟨_, rfl⟩
  have hB := HB.out.both.half.keep (Upd.drew (Upd.refl (fun _ => False) W))
  have HT := hid (set_r id ((n : Int) + m) W.drew hB.t.ok hr)
  have hO := HB.out.both.ord
  have HBd := hid hB; have HRR := hid hr
  have c1 := HB.out.c1
  have c2 := HB.out.c2
  have c0 := HB.out.both.k.c0
  have HO := hid hO
  clear hB hr hO
  go_region_held3 (fun w' => w'.cell? ⟨b, 1, none⟩ = some (.int .i64 id) ∧ w'.cell? ⟨b, 2, none⟩ = some (.int .i64 m) ∧ w'.cell? ⟨q, 0, none⟩ = some (.int .i64 (n : Int))) (first | assumption | go_keep | exact ⟨by assumption, by assumption, by assumption⟩)
    (first
      | (go_at_call 14; refine HT.out.mono ?_; rintro e w3 ⟨rfl, F3, t3, s3⟩; have K3 := hid (HBd.out.stepT s3 t3); have d1 := (s3.upd.cell (p := ⟨b, 1, none⟩) (by have := HB.out.lt; simpa using this) HB.out.bF).trans HB.out.c1; have d2 := (s3.upd.cell (p := ⟨b, 2, none⟩) (by have := HB.out.lt; simpa using this) HB.out.bF).trans HB.out.c2; have d0 := K3.out.k.c0; have KK := hid (rset_any id ((n : Int) + m) w3 K3.out.k hL HRR.out); have HU := hid s3.upd; clear t3 s3)
      | (go_at_call 21; refine KK.out.mono ?_; rintro e w4 ⟨rfl, a4, cap4, G4, t4, s4⟩; have K4 := hid (K3.out.stepK s4 t4); have e1 := (s4.upd.cell (p := ⟨b, 1, none⟩) (by have := HB.out.lt; have := HU.out.size; simp at this; simp; omega) HB.out.bG).trans d1; have e2 := (s4.upd.cell (p := ⟨b, 2, none⟩) (by have := HB.out.lt; have := HU.out.size; simp at this; simp; omega) HB.out.bG).trans d2; have e0 := K4.out.k.c0; clear t4 s4))
  go_wp2
  go_ret
  exact ⟨rfl, n, _, F3, _, a4, cap4, G4, K4.out.both (HO.out.setT id ((n : Int) + m)), setT_length D id ((n : Int) + m)⟩

set_option maxRecDepth 100000 in
set_option maxHeartbeats 1000000 in
theorem does56 {w0 : World} {p n q cap : Nat} {D L : Al} {a : Option Addr} {F G : List Nat} (d id m : Int) (w : World) (h : Both w0 w p n D F q L a cap G) (hd : d = 5 ∨ d = 6) (hm : ¬ (0 ≤ m ∧ m ≤ 1099511627776)) :
    Calls Try.prog 11 #[.pointer (some ⟨p, 0, none⟩), .pointer (some ⟨q, 0, none⟩), opV d id m] w (DoesPost w0 p q (D.length + 1)) := by
  have HB := hid (h.box d id m 33)
  clear h
  have hcase : decide (m < 0) = true ∨ (decide (m < 0) = false ∧ decide ((1099511627776 : Int) < m) = true) := by simp; omega
  clear hm
  rcases hd with rfl | rfl
  all_goals
    rcases hcase with t1 | ⟨t1, t2⟩
    all_goals
      go_enter Try.func11, Try.ntmps11
      go_wp2
      go_ret
      exact ⟨rfl, n, D, F, L, a, cap, G, HB.out.both, by omega⟩

set_option maxRecDepth 100000 in
set_option maxHeartbeats 1000000 in
theorem doesX {w0 : World} {p n q cap : Nat} {D L : Al} {a : Option Addr} {F G : List Nat} (d id m : Int) (w : World) (h : Both w0 w p n D F q L a cap G) (hd : d < 0 ∨ 6 < d) :
    Calls Try.prog 11 #[.pointer (some ⟨p, 0, none⟩), .pointer (some ⟨q, 0, none⟩), opV d id m] w (DoesPost w0 p q (D.length + 1)) := by
  have HB := hid (h.box d id m 33)
  clear h
  have k0 : (d == 0) = false := by simp; omega
  have k1 : (d == 1) = false := by simp; omega
  have k2 : (d == 2) = false := by simp; omega
  have k3 : (d == 3) = false := by simp; omega
  have k4 : (d == 4) = false := by simp; omega
  have k5 : (d == 5) = false := by simp; omega
  have k6 : (d == 6) = false := by simp; omega
  clear hd
  go_enter Try.func11, Try.ntmps11
  go_wp2
  go_ret
  exact ⟨rfl, n, D, F, L, a, cap, G, HB.out.both, by omega⟩
end Go.Proofs.Yteoecpggmchbkaa
