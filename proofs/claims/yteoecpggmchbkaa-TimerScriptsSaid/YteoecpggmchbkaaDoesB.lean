/- sandglasslaw08.does, by its case. -/
import Derived.Test.YteoecpggmchbkaaDoesA
namespace Go.Proofs.Yteoecpggmchbkaa
open Go.RowKit

/-- An Op. -/
abbrev opV (d id m : Int) : Value := .agg #[.int .i64 d, .int .i64 id, .int .i64 m]
/-- What does has at first: its own copy of the Op, in block b. -/
structure Box (w0 W : World) (b p n : Nat) (D : Al) (F : List Nat) (q : Nat) (L : Al) (a : Option Addr) (cap : Nat) (G : List Nat) (d id m : Int) : Prop where
  both : Both w0 W p n D F q L a cap G
  c0 : W.cell? ⟨b, 0, none⟩ = some (.int .i64 d)
  c1 : W.cell? ⟨b, 1, none⟩ = some (.int .i64 id)
  c2 : W.cell? ⟨b, 2, none⟩ = some (.int .i64 m)
  lt : b < W.heap.size
  bF : b ∉ F
  bG : b ∉ G
theorem Both.box {w0 w : World} {p n q cap : Nat} {D L : Al} {a : Option Addr} {F G : List Nat} (h : Both w0 w p n D F q L a cap G) (d id m : Int) (t : TypeId) :
    Box w0 (w.alloc (.cells #[.int .i64 d, .int .i64 id, .int .i64 m] t)) w.heap.size p n D F q L a cap G d id m := by
  refine ⟨h.keep ((Upd.refl _ _).alloc _), ?_, ?_, ?_, by simp, fun hm => by have := h.t.ok.lt _ hm; omega, fun hm => by have := h.k.foot _ hm; omega⟩
  all_goals (rw [cell_of_heap (heap_alloc_new _ _)]; rfl)

set_option maxRecDepth 100000 in
set_option maxHeartbeats 1000000 in
theorem does0 {w0 : World} {p n q cap : Nat} {D L : Al} {a : Option Addr} {F G : List Nat} (id m : Int) (w : World) (h : Both w0 w p n D F q L a cap G) (hD : D.length ≤ 1000) :
    Calls Try.prog 11 #[.pointer (some ⟨p, 0, none⟩), .pointer (some ⟨q, 0, none⟩), opV 0 id m] w (DoesPost w0 p q (D.length + 1)) := by
  have HB := hid (h.box 0 id m 33)
  have hL : L.length ≤ 1000000 := by have := h.ord.len; omega
  clear h
  go_enter Try.func11, Try.ntmps11
  go_wp2_with fail
  obtain ⟨b, hb⟩ : ∃ b, b = w.heap.size := ⟨_, rfl⟩
  rw [← hb] at HB ⊢
  clear hb
  generalize w.alloc (.cells #[.int .i64 0, .int .i64 id, .int .i64 m] 33) = W at *
  obtain ⟨r, hr⟩ : ∃ r : Int, (if setOk id m then 0 else 1) = r := ⟨_, rfl⟩
  have hB := HB.out.both.half.keep (Upd.drew (Upd.refl (fun _ => False) W))
  have HT := hid (set_r id m W.drew hB.t.ok hr)
  have hO := HB.out.both.ord
  have HBd := hid hB; have HRR := hid hr
  have c1 := HB.out.c1
  have c2 := HB.out.c2
  have HO := hid hO
  clear hB hr hO
  go_region_held3 (fun w' => w'.cell? ⟨b, 1, none⟩ = some (.int .i64 id) ∧ w'.cell? ⟨b, 2, none⟩ = some (.int .i64 m)) (first | assumption | go_keep | exact ⟨by assumption, by assumption⟩)
    (first
      | (go_at_call 14; refine HT.out.mono ?_; rintro e w3 ⟨rfl, F3, t3, s3⟩; have K3 := hid (HBd.out.stepT s3 t3); have d1 := (s3.upd.cell (p := ⟨b, 1, none⟩) (by have := HB.out.lt; simpa using this) HB.out.bF).trans HB.out.c1; have d2 := (s3.upd.cell (p := ⟨b, 2, none⟩) (by have := HB.out.lt; simpa using this) HB.out.bF).trans HB.out.c2; have KK := hid (rset_any id m w3 K3.out.k hL HRR.out); have HU := hid s3.upd; clear t3 s3)
      | (go_at_call 21; refine KK.out.mono ?_; rintro e w4 ⟨rfl, a4, cap4, G4, t4, s4⟩; have K4 := hid (K3.out.stepK s4 t4); have e1 := (s4.upd.cell (p := ⟨b, 1, none⟩) (by have := HB.out.lt; have := HU.out.size; simp at this; simp; omega) HB.out.bG).trans d1; have e2 := (s4.upd.cell (p := ⟨b, 2, none⟩) (by have := HB.out.lt; have := HU.out.size; simp at this; simp; omega) HB.out.bG).trans d2; clear t4 s4))
  go_wp2
  go_ret
  exact ⟨rfl, n, _, F3, _, a4, cap4, G4, K4.out.both (HO.out.setT id m), setT_length D id m⟩

set_option maxRecDepth 100000 in
set_option maxHeartbeats 1000000 in
theorem does1 {w0 : World} {p n q cap : Nat} {D L : Al} {a : Option Addr} {F G : List Nat} (id m : Int) (w : World) (h : Both w0 w p n D F q L a cap G) (hD : D.length ≤ 1000) :
    Calls Try.prog 11 #[.pointer (some ⟨p, 0, none⟩), .pointer (some ⟨q, 0, none⟩), opV 1 id m] w (DoesPost w0 p q (D.length + 1)) := by
  have HB := hid (h.box 1 id m 33)
  have hL : L.length ≤ 1000000 := by have := h.ord.len; omega
  clear h
  go_enter Try.func11, Try.ntmps11
  go_wp2_with fail
  obtain ⟨b, hb⟩ : ∃ b, b = w.heap.size := ⟨_, rfl⟩
  rw [← hb] at HB ⊢
  clear hb
  generalize w.alloc (.cells #[.int .i64 1, .int .i64 id, .int .i64 m] 33) = W at *
  obtain ⟨r, hr⟩ : ∃ r : Bool, (aget D id).isSome = r := ⟨_, rfl⟩
  have hB := HB.out.both.half.keep (Upd.drew (Upd.refl (fun _ => False) W))
  have HT := hid (cancel_b id W.drew hB.t.ok hr)
  have hO := HB.out.both.ord
  have HRR : Hid ((aget L id).isSome = r) := by rw [hO.get]; exact hr
  have HBd := hid hB
  have c1 := HB.out.c1
  have HO := hid hO
  clear hB hr hO
  go_region_held3 (fun w' => w'.cell? ⟨b, 1, none⟩ = some (.int .i64 id)) (first | assumption | go_keep | exact ⟨by assumption, by assumption⟩)
    (first
      | (go_at_call 19; refine HT.out.mono ?_; rintro e w3 ⟨rfl, F3, t3, s3⟩; have K3 := hid (HBd.out.stepT s3 t3); have d1 := (s3.upd.cell (p := ⟨b, 1, none⟩) (by have := HB.out.lt; simpa using this) HB.out.bF).trans HB.out.c1; have KK := hid (rcancel_any id w3 K3.out.k hL HRR.out); have HU := hid s3.upd; clear t3 s3)
      | (go_at_call 22; refine KK.out.mono ?_; rintro e w4 ⟨rfl, a4, cap4, G4, t4, s4⟩; have K4 := hid (K3.out.stepK s4 t4); have e1 := (s4.upd.cell (p := ⟨b, 1, none⟩) (by have := HB.out.lt; have := HU.out.size; simp at this; simp; omega) HB.out.bG).trans d1; clear t4 s4))
  go_wp2
  go_ret
  exact ⟨rfl, n, _, F3, _, a4, cap4, G4, K4.out.both (HO.out.del id), by have := (adel_sublist D id).length_le; omega⟩

set_option maxRecDepth 100000 in
set_option maxHeartbeats 1000000 in
theorem does2 {w0 : World} {p n q cap : Nat} {D L : Al} {a : Option Addr} {F G : List Nat} (id m : Int) (w : World) (h : Both w0 w p n D F q L a cap G) (hD : D.length ≤ 1000) :
    Calls Try.prog 11 #[.pointer (some ⟨p, 0, none⟩), .pointer (some ⟨q, 0, none⟩), opV 2 id m] w (DoesPost w0 p q (D.length + 1)) := by
  have HB := hid (h.box 2 id m 33)
  have hL : L.length ≤ 1000000 := by have := h.ord.len; omega
  obtain ⟨r, hr⟩ : ∃ r, (aget D id).getD 0 = r := ⟨_, rfl⟩
  obtain ⟨s, hs⟩ : ∃ s, (aget D id).isSome = s := ⟨_, rfl⟩
  have HR1 := hid hr; have HR2 := hid hs
  have HR3 : Hid ((aget L id).getD 0 = r) := by rw [h.ord.get]; exact hr
  have HR4 : Hid ((aget L id).isSome = s) := by rw [h.ord.get]; exact hs
  clear h hr hs
  go_enter Try.func11, Try.ntmps11
  go_wp2_with fail
  obtain ⟨b, hb⟩ : ∃ b, b = w.heap.size := ⟨_, rfl⟩
  rw [← hb] at HB ⊢
  clear hb
  generalize w.alloc (.cells #[.int .i64 2, .int .i64 id, .int .i64 m] 33) = W at *
  have c1 := HB.out.c1
  refine (due_q id W HB.out.both.t.ok HR1.out HR2.out).mono ?_
  rintro e w' ⟨rfl, rfl⟩
  go_wp2_with fail
  refine (rdue_any id W HB.out.both.k hL HR3.out HR4.out).mono ?_
  rintro e w' ⟨rfl, rfl⟩
  go_wp2
  go_ret
  exact ⟨by simp, n, D, F, L, a, cap, G, HB.out.both, by omega⟩

set_option maxRecDepth 100000 in
set_option maxHeartbeats 1000000 in
theorem does3 {w0 : World} {p n q cap : Nat} {D L : Al} {a : Option Addr} {F G : List Nat} (id m : Int) (w : World) (h : Both w0 w p n D F q L a cap G) (hD : D.length ≤ 1000) :
    Calls Try.prog 11 #[.pointer (some ⟨p, 0, none⟩), .pointer (some ⟨q, 0, none⟩), opV 3 id m] w (DoesPost w0 p q (D.length + 1)) := by
  have HB := hid (h.box 3 id m 33)
  have hL : L.length ≤ 1000000 := by have := h.ord.len; omega
  clear h
  go_enter Try.func11, Try.ntmps11
  go_wp2_with fail
  obtain ⟨b, hb⟩ : ∃ b, b = w.heap.size := ⟨_, rfl⟩
  rw [← hb] at HB ⊢
  clear hb
  generalize w.alloc (.cells #[.int .i64 3, .int .i64 id, .int .i64 m] 33) = W at *
  have hB := HB.out.both.half.keep (Upd.drew (Upd.refl (fun _ => False) W))
  have HT := hid (adv_new m W.drew hB.t.ok (by omega))
  have hO := HB.out.both.ord
  have HBd := hid hB
  have c2 := HB.out.c2
  have HO := hid hO
  have HLL : Hid ((advL D n m).length < 4611686018427387904) := by
    have := sub_len (k := akeys D) (told hO.nd n m).nodup (fun x hx => by obtain ⟨d, h1, _⟩ := (told hO.nd n m).due x hx; exact mem_akeys_of h1)
    have h2 : (akeys D).length = D.length := by simp [akeys]
    show (advL D n m).length < 4611686018427387904
    omega
  have HDL := hid (told hO.nd n m).len
  clear hB hO
  go_region_held3 (fun w' => w'.cell? ⟨b, 2, none⟩ = some (.int .i64 m)) (first | assumption | go_keep | exact ⟨by assumption, by assumption⟩)
    (first
      | (go_at_call 15; refine HT.out.mono ?_; rintro e w3 ⟨v3, F3, rfl, l3, g3, t3, s3⟩; have K3 := hid (HBd.out.stepT s3 t3); have d1 := (s3.upd.cell (p := ⟨b, 2, none⟩) (by have := HB.out.lt; simpa using this) HB.out.bF).trans HB.out.c2; have KK := hid (radv_any (n := n) (D := D) m w3 K3.out.k HO.out hL); have HU := hid s3.upd; have HL3 := hid l3; have HG3 := hid g3; clear t3 s3 l3 g3)
      | (go_at_call 24; refine KK.out.mono ?_; rintro e w4 ⟨v4, L4, a4, cap4, rfl, l4, t4, o4, s4⟩; have K4 := hid ((K3.out.stepK s4 t4).both o4); have e1 := (s4.upd.cell (p := ⟨b, 2, none⟩) (by have := HB.out.lt; have := HU.out.size; simp at this; simp; omega) HB.out.bG).trans d1; have KI := hid (ints_same w4 (HL3.out.block fun g hg => s4.upd.block g (HG3.out g hg).2 (fun hm => by have h5 := (HG3.out g hg).1; have h6 := HBd.out.k.foot g hm; omega)) l4 HLL.out); clear t4 s4 o4 l4)
      | (go_at_call 16; refine KI.out.mono ?_; rintro e w5 ⟨rfl, hu⟩; have K5 := hid (K4.out.keep hu); have e5 := (hu.cell (p := ⟨b, 2, none⟩) (lt_of_cell e1) (fun f => f)).trans e1; clear hu))
  go_wp2
  go_ret
  exact ⟨rfl, _, _, _, _, _, _, _, K5.out, by have := HDL.out; omega⟩
end Go.Proofs.Yteoecpggmchbkaa
