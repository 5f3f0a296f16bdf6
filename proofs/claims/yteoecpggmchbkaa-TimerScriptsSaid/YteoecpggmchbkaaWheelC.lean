/- wheel.Add. -/
import Derived.Test.YteoecpggmchbkaaWheelB
namespace Go.Proofs.Yteoecpggmchbkaa
open Go.RowKit

/-- Rows in which an id stands last in one. -/
def addL (L : Nat → List (Int × Nat)) (s : Nat) (id : Int) (l : Nat) (t : Nat) : List (Int × Nat) := if t = s then L t ++ [(id, l)] else L t

section
variable {w w' : World} {b : Nat} {L : Nat → List (Int × Nat)} {bad : Option Nat} {cells : Array Value} {m k cap x : Nat} {A : List (Int × Nat)} {F : List Nat}

structure Linked (w : World) (b : Nat) (cells : Array Value) (s : Nat) (xs : List (Int × Nat)) (id : Int) (W : World) : Prop where
  row : ∃ c, W.heap[b]? = some (.cells c 69 (0, 0)) ∧ c.size = 130 ∧ c[s * 2]? = some (pv (headP (xs ++ [(id, w.heap.size)]) none)) ∧ c[s * 2 + 1]? = some (pv (some w.heap.size)) ∧ ∀ j, j ≠ s * 2 → j ≠ s * 2 + 1 → c[j]? = cells[j]?
  seg : dseg W s none (xs ++ [(id, w.heap.size)]) none
  same : ∀ y, y < w.heap.size → y ≠ b → y ∉ xs.map Prod.snd → W.heap[y]? = w.heap[y]?
  tape : W.tape = w.tape
  os : W.os = w.os
  output : W.output = w.output
  size : W.heap.size = w.heap.size + 1
theorem Linked.same_heap {s : Nat} {xs : List (Int × Nat)} {id : Int} {W W' : World} (h : Linked w b cells s xs id W) (e1 : W'.heap = W.heap) (e2 : W'.tape = W.tape) (e3 : W'.os = W.os) (e4 : W'.output = W.output) : Linked w b cells s xs id W' := by
  obtain ⟨c, h1, h2, h3, h4, h5⟩ := h.row
  exact ⟨⟨c, by rw [e1]; exact h1, h2, h3, h4, h5⟩, dseg_congr h.seg fun y _ => by rw [e1], fun y a1 a2 a3 => by rw [e1]; exact h.same y a1 a2 a3, e2.trans h.tape, e3.trans h.os, e4.trans h.output, by rw [e1]; exact h.size⟩

theorem WheelIs.linked_nil (h : WheelIs w b L none cells m k cap x A) {s : Nat} (hs : s < 64) (id : Int) :
    Linked w b cells s [] id (((w.alloc (lk id s none none)).setCell ⟨b, s * 2, none⟩ (pv (some w.heap.size))).setCell ⟨b, s * 2 + 1, none⟩ (pv (some w.heap.size))) := by
  have hb := lt_of_heap h.hb
  have hb1 : (w.alloc (lk id s none none)).heap[b]? = some (.cells cells 69 (0, 0)) := (heap_alloc_old _ hb).trans h.hb
  have hb2 := heap_setCell_same (heap_setCell_same hb1 (s * 2) (pv (some w.heap.size))) (s * 2 + 1) (pv (some w.heap.size))
  have hne : w.heap.size ≠ b := by omega
  refine ⟨⟨_, hb2, by simp [h.size], ?_, ?_, fun j h1 h2 => by rw [Array.getElem?_setIfInBounds_ne (Ne.symm h2), Array.getElem?_setIfInBounds_ne (Ne.symm h1)]⟩, ⟨?_, trivial⟩, fun y hy hyb _ => (heap_setCell_other _ hyb).trans ((heap_setCell_other _ hyb).trans (heap_alloc_old _ hy)), rfl, rfl, rfl, by simp⟩
  · rw [Array.getElem?_setIfInBounds_ne (by omega), Array.getElem?_setIfInBounds_self_of_lt (by rw [h.size]; omega)]; rfl
  · rw [Array.getElem?_setIfInBounds_self_of_lt (by simp [h.size]; omega)]
  · exact (heap_setCell_other _ hne).trans ((heap_setCell_other _ hne).trans (heap_alloc_new _ _))
theorem WheelIs.linked_cons (h : WheelIs w b L none cells m k cap x A) {s : Nat} (hs : s < 64) (id : Int) {xs : List (Int × Nat)} {ip : Int} {p : Nat} (hL : L s = xs ++ [(ip, p)]) :
    Linked w b cells s (xs ++ [(ip, p)]) id (((w.alloc (lk id s (some p) none)).setCell ⟨p, 3, none⟩ (pv (some w.heap.size))).setCell ⟨b, s * 2 + 1, none⟩ (pv (some w.heap.size))) := by
  have hb := lt_of_heap h.hb
  obtain ⟨r1, r2, r3⟩ := h.rows s hs
  have hp := h.ne (s := s) (p := (ip, p)) (by rw [hL]; simp)
  have hnd := h.rnd s
  rw [hL] at r1 r3 hnd
  simp only [List.map_append, List.map_cons, List.map_nil] at hnd
  have hxs : p ∉ xs.map Prod.snd := fun hm => (List.nodup_append.1 hnd).2.2 _ hm _ (by simp) rfl
  have hb1 : ((w.alloc (lk id s (some p) none)).setCell ⟨p, 3, none⟩ (pv (some w.heap.size))).heap[b]? = some (.cells cells 69 (0, 0)) := (heap_setCell_other _ (Ne.symm hp.1)).trans ((heap_alloc_old _ hb).trans h.hb)
  have hb2 := heap_setCell_same hb1 (s * 2 + 1) (pv (some w.heap.size))
  have hlt : ∀ y ∈ xs ++ [(ip, p)], y.2 < w.heap.size := fun y hy => by obtain ⟨_, _, hq⟩ := dseg_mem r3 y hy; exact lt_of_heap hq
  have hbn : ∀ y ∈ xs ++ [(ip, p)], y.2 ≠ b := fun y hy => (h.ne (s := s) (p := y) (by rw [hL]; exact hy)).1
  refine ⟨⟨_, hb2, by simp [h.size], ?_, ?_, fun j h1 h2 => by rw [Array.getElem?_setIfInBounds_ne (Ne.symm h2)]⟩, ?_, fun y hy hyb hm => (heap_setCell_other _ hyb).trans ((heap_setCell_other _ ?_).trans (heap_alloc_old _ hy)), rfl, rfl, rfl, by simp⟩
  · rw [Array.getElem?_setIfInBounds_ne (by omega), r1]
    simp only [headP_append]; cases xs <;> rfl
  · rw [Array.getElem?_setIfInBounds_self_of_lt (by rw [h.size]; omega)]
  · rw [dseg_append]
    refine ⟨?_, ?_, trivial⟩
    · refine dseg_last (n := none) (w := w) r3 hxs (fun y hy hne => (heap_setCell_other _ (hbn y (by simp [hy]))).trans ((heap_setCell_other _ hne).trans (heap_alloc_old _ (hlt y (by simp [hy]))))) (fun q hq => ?_)
      exact (heap_setCell_other _ hp.1).trans (heap_setCell_same ((heap_alloc_old _ (hlt (ip, p) (by simp))).trans hq) _ _)
    · have hpw : w.heap.size ≠ p := by have := hlt (ip, p) (by simp); simp at this; omega
      rw [lastP_snoc]
      exact (heap_setCell_other _ (by omega)).trans ((heap_setCell_other _ hpw).trans (heap_alloc_new _ _))
  · exact fun e => hm (by subst e; simp)

theorem WheelIs.link (h : WheelIs w b L none cells m k cap x A) {s : Nat} (hs : s < 64) {id : Int} (hid : aget A id = none) {W w3 : World} (hU : Linked w b cells s (L s) id W)
    (h4 : MapAt ekI evP w3 m (aset A id w.heap.size)) (h5 : Upd (· = m) W w3) (h6 : w3.heap.size = W.heap.size) :
    ∃ F', WheelAt w3 b (addL L s id w.heap.size) (some s) F' ∧ Step (b :: m :: k :: A.map Prod.snd) F' w w3 := by
  obtain ⟨c, hb, hsz, hc1, hc2, hc⟩ := hU.row
  obtain ⟨mb, kb, km⟩ := h.bmk
  have hF : ∀ y ∈ b :: m :: k :: A.map Prod.snd, y < w.heap.size := h.lt
  have hblk : ∀ y, y < W.heap.size → y ≠ m → w3.heap[y]? = W.heap[y]? := fun y hy hne => h5.block y hy hne
  have hset : aset A id w.heap.size = A ++ [(id, w.heap.size)] := aset_new (by rw [aget_afind] at hid; simpa using hid) _
  have hmw : m < w.heap.size := h.hm.lt
  have hAs : ∀ z ∈ (L s), z.2 ∈ A.map Prod.snd := fun z hz => (h.ne hz).2.2.2
  refine ⟨b :: m :: k :: (A ++ [(id, w.heap.size)]).map Prod.snd, ⟨c, m, k, cap, x, A ++ [(id, w.heap.size)], ⟨(hblk b (by have := lt_of_heap h.hb; rw [hU.size]; omega) (Ne.symm mb)).trans hb, hsz, ?_, ?_, ?_, ?_, hset ▸ h4, ?_, h.hx, ?_, ?_, ?_, ?_⟩, rfl⟩, Step.of ?_ ?_⟩
  · intro t ht
    unfold addL
    by_cases e : t = s
    · subst e
      rw [if_pos rfl]
      refine ⟨hc1, by rw [lastP_snoc]; exact hc2, dseg_congr hU.seg fun y hy => ?_⟩
      rcases List.mem_append.1 hy with hy | hy
      · obtain ⟨_, n2, _, n4⟩ := h.ne hy
        exact hblk _ (by have := hF _ (by simp only [List.mem_cons]; exact .inr (.inr (.inr n4))); rw [hU.size]; omega) n2
      · simp only [List.mem_singleton] at hy; subst hy
        exact hblk _ (by rw [hU.size]; exact Nat.lt_succ_self _) (by show w.heap.size ≠ m; omega)
    · rw [if_neg e]
      obtain ⟨r1, r2, r3⟩ := h.rows t ht
      refine ⟨by rw [hc _ (by omega) (by omega)]; exact r1, by rw [hc _ (by omega) (by omega)]; exact r2, dseg_congr r3 fun y hy => ?_⟩
      obtain ⟨n1, n2, _, n4⟩ := h.ne hy
      have hlt := hF _ (by simp only [List.mem_cons]; exact .inr (.inr (.inr n4)))
      rw [hblk _ (by rw [hU.size]; omega) n2]
      refine hU.same _ hlt n1 fun hm => ?_
      obtain ⟨z, hz1, hz2⟩ := List.mem_map.1 hm
      have e3 : z.1 = y.1 := h.blk (l := y.2) (by rw [← hz2]; exact hz1) hy
      exact e ((h.key (i := y.1) (l := y.2) (l' := z.2) hy (by rw [← e3]; exact hz1)).2)
  · intro t ht
    unfold addL
    rw [if_neg (by omega)]; exact h.out t ht
  · rw [hc _ (by omega) (by omega)]; exact h.cm
  · rw [hc _ (by omega) (by omega)]; exact h.ck
  · obtain ⟨kc, kt, h1, h2⟩ := h.hk
    have hkw := hF k (by simp)
    refine ⟨kc, kt, ?_, h2⟩
    rw [hblk k (by rw [hU.size]; omega) km, hU.same k hkw kb ?_]
    · exact h1
    · intro hm
      obtain ⟨z, hz1, hz2⟩ := List.mem_map.1 hm
      exact (h.ne hz1).2.2.1 hz2
  · intro t ht hne
    have hne' : t ≠ s := fun e => hne (by rw [e])
    unfold addL
    rw [if_neg hne']
    exact h.mask t ht (by simp)
  · intro p
    simp only [List.mem_append, List.mem_singleton, h.mem]
    unfold addL
    constructor
    · rintro (⟨t, h1⟩ | rfl)
      · refine ⟨t, ?_⟩; split
        · exact List.mem_append.2 (.inl h1)
        · exact h1
      · exact ⟨s, by simp⟩
    · rintro ⟨t, h1⟩
      split at h1
      · rcases List.mem_append.1 h1 with h1 | h1
        · exact .inl ⟨t, h1⟩
        · exact .inr (by simpa using h1)
      · exact .inl ⟨t, h1⟩
  · have : (b :: m :: k :: (A ++ [(id, w.heap.size)]).map Prod.snd) = (b :: m :: k :: A.map Prod.snd) ++ [w.heap.size] := by simp
    rw [this]
    exact List.nodup_append.2 ⟨h.nd, by simp, fun a ha y hy e => by simp at hy; have := hF a ha; omega⟩
  · intro t
    unfold addL
    split
    · rw [List.map_append]
      refine List.nodup_append.2 ⟨h.rnd t, by simp, fun a ha y hy e => ?_⟩
      obtain ⟨z, hz1, hz2⟩ := List.mem_map.1 ha
      have := hF _ (List.mem_cons.2 (.inr (List.mem_cons.2 (.inr (List.mem_cons.2 (.inr (h.ne hz1).2.2.2))))))
      simp at hy; omega
    · exact h.rnd t
  · refine ⟨h5.os.trans hU.os, h5.tape.trans hU.tape, h5.output.trans hU.output, by rw [h6, hU.size]; omega, fun y hy hn => ?_⟩
    simp only [List.mem_cons, not_or] at hn
    rw [hblk y (by rw [hU.size]; omega) hn.2.1]
    exact hU.same y hy hn.1 fun hm => by
      obtain ⟨z, hz1, hz2⟩ := List.mem_map.1 hm
      exact hn.2.2.2 (hz2 ▸ (h.ne hz1).2.2.2)
  · intro y hy
    simp only [List.map_append, List.map_cons, List.map_nil, List.mem_cons, List.mem_append, List.not_mem_nil, or_false] at hy ⊢
    rcases hy with h1 | h1 | h1 | h1 | h1
    · exact .inl (.inl h1)
    · exact .inl (.inr (.inl h1))
    · exact .inl (.inr (.inr (.inl h1)))
    · exact .inl (.inr (.inr (.inr h1)))
    · exact .inr (by omega)
end

set_option maxRecDepth 100000 in
set_option maxHeartbeats 1000000 in
/-- wheel.Add: the walk, the row is empty. -/
theorem add_1 {R : Ending → World → Prop} {D : World → World → Prop} (b s : Nat) (id : Int) (w : World) (hs : s < 64) (hi0 : 0 ≤ id) (hi1 : id ≤ 1048575)
    (hdrop : Calls Try.prog 34 #[.pointer (some ⟨b, 0, none⟩), .int .i64 id] w fun e w' => (∃ r, e = .returned (.bool r)) ∧ D w w')
    (hD : ∀ w1, D w w1 → ∃ m A v1, m ≠ b ∧ b < w1.heap.size ∧ w1.cell? ⟨b, 128, none⟩ = some (.map (some m)) ∧ MapAt ekI evP w1 m A ∧ w1.cell? ⟨b, s * 2 + 1, none⟩ = some (.pointer none) ∧
      w1.cell? ⟨b, s * 2, none⟩ = some v1 ∧ w1.frozen? ⟨b, s * 2, none⟩ = false ∧ w1.frozen? ⟨b, s * 2 + 1, none⟩ = false ∧
      ∀ W w3, W.heap = (((w1.setCell ⟨b, s * 2, none⟩ (.pointer (some ⟨w1.heap.size, 0, none⟩))).setCell ⟨b, s * 2 + 1, none⟩ (.pointer (some ⟨w1.heap.size, 0, none⟩))).alloc (lk id s none none)).heap → W.tape = w1.tape → W.os = w1.os → W.output = w1.output →
        MapAt ekI evP w3 m (aset A id w1.heap.size) → Upd (· = m) W w3 → w3.heap.size = W.heap.size →
        Calls Try.prog 41 #[.pointer (some ⟨b, 0, none⟩), .int .i64 s] w3 fun e w' => e = .returned (.tuple #[]) ∧ R (.returned (.int .i64 0)) w') :
    Calls Try.prog 35 #[.pointer (some ⟨b, 0, none⟩), .int .i64 s, .int .i64 id] w R := by
  have n1 : ¬ s * 2 = 128 := by omega
  have n2 : ¬ s * 2 + 1 = 128 := by omega
  have hmay := may_any b s w
  rw [show decide (0 ≤ (s : Int) ∧ (s : Int) < 64) = true from decide_eq_true (by omega)] at hmay
  have HM := hid hmay; clear hmay
  have HD := hid hdrop; clear hdrop
  have HF := hid hD; clear hD
  go_enter Try.func35, Try.ntmps35
  go_wp2_with fail
  refine HM.out.mono ?_
  rintro e w' ⟨rfl, rfl⟩
  go_wp2_with fail
  refine HD.out.mono ?_
  rintro e w1 ⟨⟨r, rfl⟩, hd⟩
  obtain ⟨m, A, v1, hmb, hb, c1, hm, r2, r1, f1, f2, hnext⟩ := HF.out w1 hd
  clear hd
  skip
  have HMap := hid hm; clear hm
  have HN := hid hnext; clear hnext
  go_wp2_with (at_mapUpdate; refine wpList_update_is (ev := evP) (l := A) rfl _ _ _ rfl (keyInt Try.underlying3) Try.underlying62 m rfl id rfl w1.heap.size rfl ?hm ?next)
  case hm => exact HMap.out.congr ((heap_alloc_old _ (by simpa using HMap.out.lt)).trans ((heap_setCell_other _ hmb).trans (heap_setCell_other _ hmb)))
  case next =>
    intro w3 k1 k2 k3
    have HC := hid (HN.out _ w3 (by rfl) (by rfl) (by rfl) (by rfl) k1 k2 (by simpa using k3))
    clear k1 k2 k3
    go_wp2_with fail
    refine HC.out.mono ?_
    rintro e w' ⟨rfl, hR⟩
    have HR := hid hR; clear hR
    go_wp2
    exact HR.out
set_option maxRecDepth 100000 in
set_option maxHeartbeats 1000000 in
/-- wheel.Add: the walk, the row is not empty. -/
theorem add_2 {R : Ending → World → Prop} {D : World → World → Prop} (b s : Nat) (id : Int) (w : World) (hs : s < 64) (hi0 : 0 ≤ id) (hi1 : id ≤ 1048575)
    (hdrop : Calls Try.prog 34 #[.pointer (some ⟨b, 0, none⟩), .int .i64 id] w fun e w' => (∃ r, e = .returned (.bool r)) ∧ D w w')
    (hD : ∀ w1, D w w1 → ∃ m A p v1, m ≠ b ∧ b < w1.heap.size ∧ p ≠ b ∧ m ≠ p ∧ p < w1.heap.size ∧ w1.cell? ⟨b, 128, none⟩ = some (.map (some m)) ∧ MapAt ekI evP w1 m A ∧ w1.cell? ⟨b, s * 2 + 1, none⟩ = some (.pointer (some ⟨p, 0, none⟩)) ∧
      w1.cell? ⟨p, 3, none⟩ = some v1 ∧ w1.frozen? ⟨p, 3, none⟩ = false ∧ w1.frozen? ⟨b, s * 2 + 1, none⟩ = false ∧
      ∀ W w3, W.heap = (((w1.setCell ⟨p, 3, none⟩ (.pointer (some ⟨w1.heap.size, 0, none⟩))).setCell ⟨b, s * 2 + 1, none⟩ (.pointer (some ⟨w1.heap.size, 0, none⟩))).alloc (lk id s (some p) none)).heap → W.tape = w1.tape → W.os = w1.os → W.output = w1.output →
        MapAt ekI evP w3 m (aset A id w1.heap.size) → Upd (· = m) W w3 → w3.heap.size = W.heap.size →
        Calls Try.prog 41 #[.pointer (some ⟨b, 0, none⟩), .int .i64 s] w3 fun e w' => e = .returned (.tuple #[]) ∧ R (.returned (.int .i64 0)) w') :
    Calls Try.prog 35 #[.pointer (some ⟨b, 0, none⟩), .int .i64 s, .int .i64 id] w R := by
  have n1 : ¬ s * 2 = 128 := by omega
  have n2 : ¬ s * 2 + 1 = 128 := by omega
  have hmay := may_any b s w
  rw [show decide (0 ≤ (s : Int) ∧ (s : Int) < 64) = true from decide_eq_true (by omega)] at hmay
  have HM := hid hmay; clear hmay
  have HD := hid hdrop; clear hdrop
  have HF := hid hD; clear hD
  go_enter Try.func35, Try.ntmps35
  go_wp2_with fail
  refine HM.out.mono ?_
  rintro e w' ⟨rfl, rfl⟩
  go_wp2_with fail
  refine HD.out.mono ?_
  rintro e w1 ⟨⟨r, rfl⟩, hd⟩
  obtain ⟨m, A, p, v1, hmb, hb, hpb, hmp, hp, c1, hm, r2, r1, f1, f2, hnext⟩ := HF.out w1 hd
  clear hd
  have hbp : b ≠ p := Ne.symm hpb
  have HMap := hid hm; clear hm
  have HN := hid hnext; clear hnext
  go_wp2_with (at_mapUpdate; refine wpList_update_is (ev := evP) (l := A) rfl _ _ _ rfl (keyInt Try.underlying3) Try.underlying62 m rfl id rfl w1.heap.size rfl ?hm ?next)
  case hm => exact HMap.out.congr ((heap_alloc_old _ (by simpa using HMap.out.lt)).trans ((heap_setCell_other _ hmb).trans (heap_setCell_other _ hmp)))
  case next =>
    intro w3 k1 k2 k3
    have HC := hid (HN.out _ w3 (by rfl) (by rfl) (by rfl) (by rfl) k1 k2 (by simpa using k3))
    clear k1 k2 k3
    go_wp2_with fail
    refine HC.out.mono ?_
    rintro e w' ⟨rfl, hR⟩
    have HR := hid hR; clear hR
    go_wp2
    exact HR.out

theorem dropL_get {w : World} {b : Nat} {L : Nat → List (Int × Nat)} {bad : Option Nat} {cells : Array Value} {m k cap x : Nat} {A : List (Int × Nat)} {id : Int} (h : WheelIs w b (dropL L id) bad cells m k cap x A) : aget A id = none := by
  cases hg : aget A id with
  | none => rfl
  | some l =>
    obtain ⟨s, hs⟩ := (h.mem _).1 (aget_mem hg)
    simp [dropL] at hs

/-- wheel.Add -/
theorem add_any {b : Nat} {L : Nat → List (Int × Nat)} {F : List Nat} (s : Nat) (id : Int) (w : World) (hs : s < 64) (hi0 : 0 ≤ id) (hi1 : id ≤ 1048575) (h : WheelAt w b L none F) :
    Calls Try.prog 35 #[.pointer (some ⟨b, 0, none⟩), .int .i64 s, .int .i64 id] w fun e w' => e = .returned (.int .i64 0) ∧ ∃ l F', WheelAt w' b (addL (dropL L id) s id l) none F' ∧ Step F F' w w' := by
  have fin : ∀ (w1 : World) (F1 : List Nat) (cells : Array Value) (m k cap x : Nat) (A : List (Int × Nat)), WheelIs w1 b (dropL L id) none cells m k cap x A → Step F F1 w w1 → F1 = b :: m :: k :: A.map Prod.snd →
      ∀ W w3, Linked w1 b cells s (dropL L id s) id W → MapAt ekI evP w3 m (aset A id w1.heap.size) → Upd (· = m) W w3 → w3.heap.size = W.heap.size →
        Calls Try.prog 41 #[.pointer (some ⟨b, 0, none⟩), .int .i64 s] w3 fun e w' => e = .returned (.tuple #[]) ∧
          (Ending.returned (.int .i64 0) = .returned (.int .i64 0) ∧ ∃ l F', WheelAt w' b (addL (dropL L id) s id l) none F' ∧ Step F F' w w') := by
    intro w1 F1 cells m k cap x A h1 hS e1 W w3 hU h4 h5 h6
    obtain ⟨F', hW, hS'⟩ := h1.link hs (dropL_get h1) hU h4 h5 h6
    refine (mark_any s w3 hs hW).mono ?_
    rintro e w' ⟨rfl, F'', hW', hS''⟩
    subst e1
    exact ⟨rfl, rfl, _, F'', hW', (hS.trans hS').trans hS''⟩
  rcases snoc_cases (dropL L id s) with hL | ⟨xs, ⟨ip, p⟩, hL⟩
  · refine add_1 (R := fun e w' => e = .returned (.int .i64 0) ∧ ∃ l F', WheelAt w' b (addL (dropL L id) s id l) none F' ∧ Step F F' w w') (D := fun w w1 => ∃ F', WheelAt w1 b (dropL L id) none F' ∧ Step F F' w w1) b s id w hs hi0 hi1 (drop_any id w h) ?_
    rintro w1 ⟨F1, ⟨cells, m, k, cap, x, A, h1, hF1⟩, hS⟩
    obtain ⟨r1, r2, r3⟩ := h1.rows s hs
    rw [hL] at r1 r2
    refine ⟨m, A, _, h1.bmk.1, lt_of_heap h1.hb, (cell_of_heap h1.hb _).trans h1.cm, h1.hm, (cell_of_heap h1.hb _).trans r2, (cell_of_heap h1.hb _).trans r1, free_of_heap h1.hb _, free_of_heap h1.hb _, ?_⟩
    intro W w3 e1 e2 e3 e4 k1 k2 k3
    exact fin w1 F1 cells m k cap x A h1 hS hF1 W w3 (by rw [hL]; exact (h1.linked_nil hs id).same_heap (e1.trans (by rw [World.setCell_alloc_past _ _ _ _ (lt_of_heap h1.hb), World.setCell_alloc_past _ _ _ _ (by simpa using lt_of_heap h1.hb)]; rfl)) e2 e3 e4) k1 k2 k3
  · refine add_2 (R := fun e w' => e = .returned (.int .i64 0) ∧ ∃ l F', WheelAt w' b (addL (dropL L id) s id l) none F' ∧ Step F F' w w') (D := fun w w1 => ∃ F', WheelAt w1 b (dropL L id) none F' ∧ Step F F' w w1) b s id w hs hi0 hi1 (drop_any id w h) ?_
    rintro w1 ⟨F1, ⟨cells, m, k, cap, x, A, h1, hF1⟩, hS⟩
    obtain ⟨r1, r2, r3⟩ := h1.rows s hs
    have hp := h1.ne (s := s) (p := (ip, p)) (by rw [hL]; simp)
    rw [hL] at r1 r2 r3
    rw [lastP_snoc] at r2
    obtain ⟨pp, pn, hq⟩ := dseg_mem r3 (ip, p) (by simp)
    refine ⟨m, A, p, _, h1.bmk.1, lt_of_heap h1.hb, hp.1, Ne.symm hp.2.1, lt_of_heap hq, (cell_of_heap h1.hb _).trans h1.cm, h1.hm, (cell_of_heap h1.hb _).trans r2, cell_of_heap hq 3, free_of_heap hq _, free_of_heap h1.hb _, ?_⟩
    intro W w3 e1 e2 e3 e4 k1 k2 k3
    exact fin w1 F1 cells m k cap x A h1 hS hF1 W w3 (by rw [hL]; exact (h1.linked_cons hs id hL).same_heap (e1.trans (by rw [World.setCell_alloc_past _ _ _ _ (lt_of_heap hq), World.setCell_alloc_past _ _ _ _ (by simpa using lt_of_heap h1.hb)]; rfl)) e2 e3 e4) k1 k2 k3
end Go.Proofs.Yteoecpggmchbkaa
