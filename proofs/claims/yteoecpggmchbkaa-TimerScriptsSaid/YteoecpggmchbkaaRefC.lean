/- sandglassref08's Timer: Set. -/
import Derived.Test.YteoecpggmchbkaaRefB
namespace Go.Proofs.Yteoecpggmchbkaa
open Go.RowKit

theorem rcancel_any {q cap : Nat} {n : Int} {L : Al} {a : Option Addr} {G : List Nat} (id : Int) (w : World) (h : RefAt w q n L a cap G) (hl : L.length ≤ 1000000) {b : Bool} (hb : (aget L id).isSome = b) :
    Calls Try.prog 22 #[.pointer (some ⟨q, 0, none⟩), .int .i64 id] w fun e w' => e = .returned (.bool b) ∧ ∃ a' cap' G', RefAt w' q n (adel L id) a' cap' G' ∧ Step G G' w w' := by
  subst hb
  cases hg : aget L id with
  | none =>
    refine (rcancel_no id w h hl hg).mono ?_
    rintro e w' ⟨rfl, rfl⟩
    rw [adel_of_not_mem (aget_none.1 hg)]
    exact ⟨rfl, a, cap, G, h, Step.refl _ _⟩
  | some m =>
    refine (rcancel_yes id m w h hl hg).mono ?_
    rintro e w' ⟨rfl, h2⟩
    exact ⟨rfl, h2⟩

set_option maxRecDepth 100000 in
theorem rset_bad {q : Nat} (id due : Int) (w : World) (h : ¬ setOk id due) :
    Calls Try.prog 21 #[.pointer (some ⟨q, 0, none⟩), .int .i64 id, .int .i64 due] w fun e w' => e = .returned (.int .i64 1) ∧ w = w' := by
  unfold setOk at h
  by_cases h0 : id < 0
  · have t0 : decide (id < 0) = true := by simpa using h0
    clear h h0
    go_enter Try.func21, Try.ntmps21
    go_wp2_with fail
    go_ret
    exact ⟨rfl, rfl⟩
  · have t0 : decide (id < 0) = false := by simpa using h0
    by_cases h1 : 1048575 < id
    · have t1 : decide ((1048575 : Int) < id) = true := by simpa using h1
      clear h h1 h0
      go_enter Try.func21, Try.ntmps21
      go_wp2_with fail
      go_ret
      exact ⟨rfl, rfl⟩
    · have t1 : decide ((1048575 : Int) < id) = false := by simpa using h1
      by_cases h2 : due < 0
      · have t2 : decide (due < 0) = true := by simpa using h2
        clear h h2 h1 h0
        go_enter Try.func21, Try.ntmps21
        go_wp2_with fail
        go_ret
        exact ⟨rfl, rfl⟩
      · have t2 : decide (due < 0) = false := by simpa using h2
        have h3 : 1099511627776 < due := by omega
        have t3 : decide ((1099511627776 : Int) < due) = true := by simpa using h3
        clear h h2 h1 h0 h3
        go_enter Try.func21, Try.ntmps21
        go_wp2_with fail
        go_ret
        exact ⟨rfl, rfl⟩

theorem while_parts (L : Al) (p : Int × Int → Bool) : L.take (L.takeWhile p).length = L.takeWhile p ∧ L.drop (L.takeWhile p).length = L.dropWhile p ∧ (L.takeWhile p).length ≤ L.length := by
  induction L with
  | nil => simp
  | cons x r ih =>
    by_cases h : p x = true
    · rw [List.takeWhile_cons_of_pos h, List.dropWhile_cons_of_pos h, List.length_cons, List.take_succ_cons, List.drop_succ_cons, ih.1, ih.2.1]
      exact ⟨rfl, rfl, by have := ih.2.2; simpa using this⟩
    · rw [List.takeWhile_cons_of_neg h, List.dropWhile_cons_of_neg h]
      simp
theorem while_get (L : Al) (p : Int × Int → Bool) : (∀ i x, i < (L.takeWhile p).length → L[i]? = some x → p x = true) ∧ (∀ x, L[(L.takeWhile p).length]? = some x → p x = false) := by
  induction L with
  | nil => simp
  | cons y r ih =>
    by_cases h : p y = true
    · rw [List.takeWhile_cons_of_pos h, List.length_cons]
      refine ⟨fun i x hi hx => ?_, fun x hx => ih.2 x (by simpa using hx)⟩
      cases i with
      | zero => simp at hx; subst hx; exact h
      | succ i => exact ih.1 i x (by omega) (by simpa using hx)
    · rw [List.takeWhile_cons_of_neg h]
      refine ⟨fun i x hi => absurd hi (by simp), fun x hx => ?_⟩
      simp at hx; subst hx; simpa using h

theorem src_new (w : World) (cs : Array Value) (t : TypeId) (n c : Nat) : Src (w.alloc (.cells cs t)) (.slice (some ⟨w.heap.size, 0, none⟩) n c) n cs.toList :=
  ⟨_, _, rfl, fun j u hj => ⟨_, _, rfl, by rw [cell_of_heap (heap_alloc_new _ _), Nat.zero_add]; simpa using hj⟩⟩

set_option maxRecDepth 100000 in
set_option maxHeartbeats 8000000 in
theorem rset_ok {q cap : Nat} {n : Int} {L : Al} {a : Option Addr} {G : List Nat} (id due : Int) (w : World) (h : RefAt w q n L a cap G) (hl : L.length ≤ 1000000) (hok : setOk id due) :
    Calls Try.prog 21 #[.pointer (some ⟨q, 0, none⟩), .int .i64 id, .int .i64 due] w fun e w' => e = .returned (.int .i64 0) ∧ ∃ a' cap' G', RefAt w' q n (ins (adel L id) (id, due)) a' cap' G' ∧ Step G G' w w' := by
  obtain ⟨i1, hinf, hz0, hz1, hz2⟩ := info_parts Try.infoOne
  have HC := hid (rcancel_any id w h hl (b := (aget L id).isSome) rfl)
  have t0 : decide (id < 0) = false := by have := hok.1; simpa using this
  have t1 : decide ((1048575 : Int) < id) = false := by have := hok.2.1; simpa using this
  have t2 : decide (due < 0) = false := by have := hok.2.2.1; simpa using this
  have t3 : decide ((1099511627776 : Int) < due) = false := by have := hok.2.2.2; simpa using this
  have hlen : (adel L id).length ≤ 1000000 := by have := (adel_sublist L id).length_le; omega
  clear h hok hl
  generalize (aget L id).isSome = b0 at HC
  go_enter Try.func21, Try.ntmps21
  go_wp2_with fail
  refine HC.out.mono ?_
  rintro e w1 ⟨rfl, a1, cap1, G1, h1, s1⟩
  obtain ⟨L1, hL1⟩ : ∃ L1, L1 = adel L id := ⟨_, rfl⟩
  rw [← hL1] at hlen h1
  have HL1 := hid hL1
  have c1 := h1.c1
  have hq : q < w1.heap.size := h1.foot q h1.self
  obtain ⟨k1, k2, k3⟩ := while_parts L1 (fun p => decide (ltP p (id, due)))
  obtain ⟨k4, k5⟩ := while_get L1 (fun p => decide (ltP p (id, due)))
  have HI : Hid (ins L1 (id, due) = L1.take (L1.takeWhile (fun p => decide (ltP p (id, due)))).length ++ (id, due) :: L1.drop (L1.takeWhile (fun p => decide (ltP p (id, due)))).length) := by rw [k1, k2]; rfl
  generalize (L1.takeWhile (fun p => decide (ltP p (id, due)))).length = J at *
  have HH := hid h1; have HS := hid s1; have K4 := hid k4; have K5 := hid k5
  clear h1 s1 hL1 k1 k2 k4 k5 HC
  have HS1 : Hid (∀ W, (Instr.sliceAt 35 (.slice a1 L1.length cap1) none (some (.int .i64 (J : Int))) none).run Try.prog W = .ok (sliced a1 0 J cap1 2) W) := fun W => (run_at W _ _ _).trans (run_head W a1 L1.length cap1 J (by have := HH.out.room; omega))
  have HS2 : Hid (∀ W, (Instr.sliceAt 35 (.slice a1 L1.length cap1) (some (.int .i64 (J : Int))) none none).run Try.prog W = .ok (sliced a1 J L1.length cap1 2) W) := fun W => (run_at W _ _ _).trans (run_tail W a1 L1.length cap1 J (by omega))
  have HX1 : Hid (∀ W, Below w1.heap.size w1 W → Src W (sliced a1 0 J cap1 2) J (cells2 (L1.take J))) := fun W hb => src_part (HH.out.below hb).cells HH.out.room (l := 0) (h := J) (by omega) (by omega)
  have HX2 : Hid (∀ W, Below w1.heap.size w1 W → Src W (sliced a1 J L1.length cap1 2) (L1.length - J) (cells2 (L1.drop J))) := fun W hb => by
    have := src_part (HH.out.below hb).cells HH.out.room (l := J) (h := L1.length) (by omega) (by omega)
    rwa [List.take_length] at this
  generalize sliced a1 0 J cap1 2 = x1 at HS1 HX1
  generalize sliced a1 J L1.length cap1 2 = x2 at HS2 HX2
  go_wp2_with fail
  go_loopg [7] (J) (fun k i wr => ∃ j : Nat, i = .int .i64 (j : Int) ∧ j + k = J ∧ wr = w1)
  case atStart => exact ⟨0, rfl, by omega, rfl⟩
  case round =>
    obtain ⟨j, rfl, hjk, rfl⟩ := hrel
    by_cases hj : j < J
    · have hx : L1[j]? = some L1[j] := List.getElem?_eq_getElem (by omega)
      generalize L1[j] = x at *
      obtain ⟨g, o, rfl, d1, d2⟩ := HH.out.at hx
      have hlt := K4.out j x hj hx
      have hwj : IntKind.i64.wrap ((j : Int) + 1) = (j : Int) + 1 := wrap_in64 (by omega) (by omega)
      have hcase : decide (x.2 < due) = true ∨ (decide (x.2 < due) = false ∧ (x.2 == due) = true ∧ decide (x.1 < id) = true) := by
        simp only [decide_eq_true_eq] at hlt
        unfold ltP at hlt
        dsimp only at hlt
        simp; omega
      have HJ := hid hjk
      clear hx hlt hjk
      rcases hcase with e1 | ⟨e1, e2, e3⟩
      all_goals
        go_wp2
        go_roundg (gk - 1)
        case measure => have := HJ.out; omega
        case rel => exact ⟨j + 1, by rw [show ((j + 1 : Nat) : Int) = (j : Int) + 1 from by omega], by have := HJ.out; omega, rfl⟩
    · have hjJ : j = J := by omega
      subst hjJ
      have hcase : (decide ((j : Int) < (L1.length : Int)) = false ∧ decide (j < L1.length) = false) ∨ ∃ g o x1' x2', a1 = some ⟨g, o, none⟩ ∧ wr.cell? ⟨g, o + j * 2, none⟩ = some (.int .i64 x1') ∧ wr.cell? ⟨g, o + j * 2 + 1, none⟩ = some (.int .i64 x2') ∧ j < L1.length ∧ decide (x2' < due) = false ∧ ((x2' == due) = false ∨ (x2' == due) = true ∧ decide (x1' < id) = false) := by
        by_cases hjl : j < L1.length
        · right
          have hx : L1[j]? = some L1[j] := List.getElem?_eq_getElem (by omega)
          generalize L1[j] = x at *
          obtain ⟨g, o, e0, d1, d2⟩ := HH.out.at hx
          have hge := K5.out x hx
          simp only [decide_eq_false_iff_not] at hge
          unfold ltP at hge
          dsimp only at hge
          refine ⟨g, o, x.1, x.2, e0, d1, d2, hjl, by simp; omega, ?_⟩
          simp; omega
        · left; simp; omega
      clear hjk
      rcases hcase with ⟨e1, e2⟩ | ⟨g, o, y1, y2, rfl, d1, d2, e1, e3, e4 | ⟨e4, e5⟩⟩
      all_goals
        go_wp2_with (first
          | (refine wpList_slice_head (o := ⟨some 77, _, _, _, _, _⟩) rfl _ _ rfl (.slice _ L1.length cap1) x1 (.int .i64 (j : Int)) (by rfl) (by rfl) (HS1.out _) ?_)
          | (at_builtin; refine Stay.out ?_))
        refine ⟨?_⟩
        refine wpList_append_src (P := Try.prog) rfl _ _ 35 rfl wr.heap.size 71 i1 (.agg #[.int .i64 0, .int .i64 0]) 2 16 Try.underlying35 hinf hz0 hz1 hz2 rfl (by decide) (.slice (some ⟨wr.heap.size, 0, none⟩) 0 0) 0 [] (by rfl) (World.ownsRow_lit wr #[] 0 (Nat.le_refl _) (by decide) rfl) x1 j (cells2 (L1.take j)) (by rfl) (HX1.out _ ((Below.refl _ _).alloc (Nat.le_refl _) _)) (by rw [cells2_length, List.length_take]; omega) (cells2_one _) (by unfold maxLen; omega) (by omega) (by simp) ?_
        intro v2 w2 ho2 hg2 hn2
        simp only [Nat.zero_add, List.nil_append] at ho2
        obtain ⟨a2, cap2, rfl⟩ := ownsRow_form ho2
        have K2 : Hid (Below wr.heap.size wr w2 ∧ w2.ownsRow wr.heap.size 71 2 (.slice a2 j cap2) j (cells2 (L1.take j))) := ⟨((Below.refl wr.heap.size wr).alloc (Nat.le_refl _) _).grown hg2 (by simp) (fun k hk => by cases hk; exact Nat.le_refl _), ho2⟩
        have c2 := (HH.out.below K2.out.1).c1
        clear ho2 hg2 hn2
        go_wp2_with (at_builtin; refine Stay.out ?_)
        refine ⟨?_⟩
        refine wpList_append_src (P := Try.prog) rfl _ _ 35 rfl wr.heap.size 71 i1 (.agg #[.int .i64 0, .int .i64 0]) 2 16 Try.underlying35 hinf hz0 hz1 hz2 rfl (by decide) (.slice a2 j cap2) j (cells2 (L1.take j)) (by rfl) (K2.out.2.alloc _) (.slice (some ⟨w2.heap.size, 0, none⟩) 1 1) 1 [ekI id, ekI due] (by rfl) (src_new w2 #[ekI id, ekI due] _ 1 1) rfl (by simp [ekI, Value.oneCell']) (by unfold maxLen; omega) (by omega) (by have := K2.out.1.size; simp; omega) ?_
        intro v3 w3 ho3 hg3 hn3
        obtain ⟨a3, cap3, rfl⟩ := ownsRow_form ho3
        have K3 : Hid (Below wr.heap.size wr w3 ∧ w3.ownsRow wr.heap.size 71 2 (.slice a3 (j + 1) cap3) (j + 1) (cells2 (L1.take j) ++ [ekI id, ekI due])) := ⟨(K2.out.1.alloc K2.out.1.size _).grown hg3 (by have := K2.out.1.size; simp; omega) (fun k hk => (K2.out.2.lt k hk).1), ho3⟩
        have c3 := (HH.out.below K3.out.1).c1
        clear ho3 hg3 hn3 c2
        go_wp2_with (first
          | (refine wpList_slice_tail (o := ⟨some 92, _, _, _, _, _⟩) rfl _ _ rfl (.slice _ L1.length cap1) x2 (.int .i64 (j : Int)) (by rfl) (by rfl) (HS2.out _) ?_)
          | (at_builtin; refine Stay.out ?_))
        refine ⟨?_⟩
        refine wpList_append_src (P := Try.prog) rfl _ _ 35 rfl wr.heap.size 71 i1 (.agg #[.int .i64 0, .int .i64 0]) 2 16 Try.underlying35 hinf hz0 hz1 hz2 rfl (by decide) (.slice a3 (j + 1) cap3) (j + 1) (cells2 (L1.take j) ++ [ekI id, ekI due]) (by rfl) K3.out.2 x2 (L1.length - j) (cells2 (L1.drop j)) (by rfl) (HX2.out _ K3.out.1) (by rw [cells2_length, List.length_drop]) (cells2_one _) (by unfold maxLen; omega) (by omega) K3.out.1.size ?_
        intro v4 w4 ho4 hg4 hn4
        obtain ⟨a4, cap4, rfl⟩ := ownsRow_form ho4
        have K4 : Hid (Below wr.heap.size wr w4) := K3.out.1.grown hg4 K3.out.1.size (fun k hk => (K3.out.2.lt k hk).1)
        have c4 := (HH.out.below K4.out).c1
        have f4 := (HH.out.below K4.out).free 1
        have K5 := hid (ref_store (L' := ins L1 (id, due)) HH.out K4.out ho4 (by rw [HI.out, List.length_append, List.length_cons, List.length_take, List.length_drop]; omega) (by rw [HI.out, cells2_append, List.append_assoc]; rfl))
        clear ho4 hg4 hn4 c3
        go_wp2
        go_ret
        rw [← HL1.out]
        obtain ⟨a', cap', G', q1, q2⟩ := K5.out
        exact ⟨rfl, a', cap', G', q1, HS.out.trans q2⟩
end Go.Proofs.Yteoecpggmchbkaa
