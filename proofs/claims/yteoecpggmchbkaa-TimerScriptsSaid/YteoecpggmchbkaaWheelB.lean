/- wheel.Drop. -/
import Derived.Test.YteoecpggmchbkaaWheelA
import Derived.Test.YteoecpggmchbkaaHeapOps
import Derived.BigRegion
namespace Go.Proofs.Yteoecpggmchbkaa
open Go.RowKit

/-- Rows without an id. -/
def dropL (L : Nat → List (Int × Nat)) (id : Int) (s : Nat) : List (Int × Nat) := (L s).filter (fun p => p.1 ≠ id)

section
variable {w w' : World} {b : Nat} {L : Nat → List (Int × Nat)} {bad : Option Nat} {cells : Array Value} {m k cap x : Nat} {A : List (Int × Nat)} {F : List Nat}

theorem WheelIs.key (h : WheelIs w b L bad cells m k cap x A) {s t : Nat} {i : Int} {l l' : Nat} (h1 : (i, l) ∈ L s) (h2 : (i, l') ∈ L t) : l = l' ∧ s = t := by
  have a1 := aget_of_mem h.hm.nodup ((h.mem _).2 ⟨s, h1⟩)
  have a2 := aget_of_mem h.hm.nodup ((h.mem _).2 ⟨t, h2⟩)
  rw [a1] at a2
  cases a2
  refine ⟨rfl, ?_⟩
  have hs : s < 64 := Nat.lt_of_not_le fun hle => by rw [h.out s hle] at h1; cases h1
  have ht : t < 64 := Nat.lt_of_not_le fun hle => by rw [h.out t hle] at h2; cases h2
  obtain ⟨p, n, e1⟩ := dseg_mem (h.rows s hs).2.2 _ h1
  obtain ⟨p', n', e2⟩ := dseg_mem (h.rows t ht).2.2 _ h2
  rw [e1] at e2
  simp only [lk, Option.some.injEq, Obj.cells.injEq, Array.mk.injEq, List.cons.injEq, Value.int.injEq] at e2
  omega
theorem WheelIs.blk (h : WheelIs w b L bad cells m k cap x A) {s t : Nat} {i j : Int} {l : Nat} (h1 : (i, l) ∈ L s) (h2 : (j, l) ∈ L t) : i = j := by
  have hs : s < 64 := Nat.lt_of_not_le fun hle => by rw [h.out s hle] at h1; cases h1
  have ht : t < 64 := Nat.lt_of_not_le fun hle => by rw [h.out t hle] at h2; cases h2
  obtain ⟨p, n, e1⟩ := dseg_mem (h.rows s hs).2.2 _ h1
  obtain ⟨p', n', e2⟩ := dseg_mem (h.rows t ht).2.2 _ h2
  rw [e1] at e2
  simp only [lk, Option.some.injEq, Obj.cells.injEq, Array.mk.injEq, List.cons.injEq, Value.int.injEq] at e2
  exact e2.1.1.2
theorem WheelIs.ne (h : WheelIs w b L bad cells m k cap x A) {s : Nat} {p : Int × Nat} (h1 : p ∈ L s) : p.2 ≠ b ∧ p.2 ≠ m ∧ p.2 ≠ k ∧ p.2 ∈ A.map Prod.snd := by
  have hm : p.2 ∈ A.map Prod.snd := List.mem_map.2 ⟨p, (h.mem p).2 ⟨s, h1⟩, rfl⟩
  have nd := h.nd
  simp only [List.nodup_cons, List.mem_cons, not_or] at nd
  exact ⟨fun e => nd.1.2.2 (e ▸ hm), fun e => nd.2.1.2 (e ▸ hm), fun e => nd.2.2.1 (e ▸ hm), hm⟩
theorem WheelIs.bmk (h : WheelIs w b L bad cells m k cap x A) : m ≠ b ∧ k ≠ b ∧ k ≠ m := by
  have nd := h.nd
  simp only [List.nodup_cons, List.mem_cons, not_or] at nd
  exact ⟨fun e => nd.1.1 e.symm, fun e => nd.1.2.1 e.symm, fun e => nd.2.1.1 e.symm⟩

theorem dropL_none (h : WheelIs w b L bad cells m k cap x A) {id : Int} (hg : aget A id = none) : dropL L id = L := by
  funext s
  refine List.filter_eq_self.2 fun p hp => ?_
  have : p.1 ≠ id := fun e => by
    have := aget_of_mem h.hm.nodup (k := id) (v := p.2) ((h.mem _).2 ⟨s, by rw [← e]; exact hp⟩)
    rw [hg] at this; cases this
  simpa using this

/-- What stands where once one link is passed over. -/
structure Unlinked (w : World) (b : Nat) (cells : Array Value) (s : Nat) (xs ys : List (Int × Nat)) (l : Nat) (W : World) : Prop where
  row : ∃ c, W.heap[b]? = some (.cells c 69 (0, 0)) ∧ c.size = 130 ∧ c[s * 2]? = some (pv (headP (xs ++ ys) none)) ∧ c[s * 2 + 1]? = some (pv (lastP (xs ++ ys) none)) ∧ ∀ j, j ≠ s * 2 → j ≠ s * 2 + 1 → c[j]? = cells[j]?
  seg : dseg W s none (xs ++ ys) none
  same : ∀ y, y ≠ b → y ∉ xs.map Prod.snd → y ∉ ys.map Prod.snd → W.heap[y]? = w.heap[y]?
  tape : W.tape = w.tape
  os : W.os = w.os
  output : W.output = w.output
  size : W.heap.size = w.heap.size

theorem WheelIs.unlink (h : WheelIs w b L none cells m k cap x A) {s : Nat} (hs : s < 64) {xs ys : List (Int × Nat)} {id : Int} {l : Nat} (hL : L s = xs ++ (id, l) :: ys) {W w3 : World} (hU : Unlinked w b cells s xs ys l W)
    (h4 : MapAt ekI evP w3 m (adel A id)) (h5 : Upd (· = m) W w3) (h6 : w3.heap.size = W.heap.size) :
    ∃ F', WheelAt w3 b (dropL L id) (some s) F' ∧ Step (b :: m :: k :: A.map Prod.snd) F' w w3 := by
  obtain ⟨c, hb, hsz, hc1, hc2, hc⟩ := hU.row
  obtain ⟨mb, kb, km⟩ := h.bmk
  have hmid : (id, l) ∈ L s := by rw [hL]; simp
  have hnd := h.hm.nodup
  have hndL := h.rnd s
  rw [hL, List.map_append, List.map_cons] at hndL
  have hblk : ∀ y, y < w.heap.size → y ≠ m → w3.heap[y]? = W.heap[y]? := fun y hy hne => h5.block y (by rw [hU.size]; exact hy) hne
  have hF : ∀ y ∈ b :: m :: k :: A.map Prod.snd, y < w.heap.size := h.lt
  -- those of the row's ids
  have hids : ∀ p ∈ xs ++ ys, p.1 ≠ id := by
    intro p hp e
    have hp' : p ∈ L s := by rw [hL]; rcases List.mem_append.1 hp with h | h <;> simp [h]
    have e2 : p.2 = l := (h.key (i := id) (l := p.2) (by rw [← e]; exact hp') hmid).1
    have hd := (List.nodup_append.1 hndL).2.2
    rcases List.mem_append.1 hp with h1 | h1
    · exact hd _ (List.mem_map.2 ⟨p, h1, rfl⟩) _ (by simp) e2
    · have := (List.nodup_cons.1 (List.nodup_append.1 hndL).2.1).1
      exact this (e2 ▸ List.mem_map.2 ⟨p, h1, rfl⟩)
  have hrow : dropL L id s = xs ++ ys := by
    unfold dropL
    rw [hL]
    have e1 : xs.filter (fun p => p.1 ≠ id) = xs := List.filter_eq_self.2 fun p hp => by simpa using hids p (List.mem_append.2 (.inl hp))
    have e2 : ys.filter (fun p => p.1 ≠ id) = ys := List.filter_eq_self.2 fun p hp => by simpa using hids p (List.mem_append.2 (.inr hp))
    rw [List.filter_append, List.filter_cons, e1, e2]; simp
  have hother : ∀ t, t ≠ s → dropL L id t = L t := by
    intro t hne
    refine List.filter_eq_self.2 fun p hp => ?_
    have : p.1 ≠ id := fun e => hne ((h.key (i := id) (l := p.2) (by rw [← e]; exact hp) hmid).2)
    simpa using this
  refine ⟨b :: m :: k :: (adel A id).map Prod.snd, ⟨c, m, k, cap, x, adel A id, ⟨(hblk b (lt_of_heap h.hb) (Ne.symm mb)).trans hb, hsz, ?_, ?_, ?_, ?_, h4, ?_, h.hx, ?_, ?_, ?_, ?_⟩, rfl⟩, Step.of ?_ ?_⟩
  · intro t ht
    by_cases e : t = s
    · subst e
      rw [hrow]
      refine ⟨hc1, hc2, dseg_congr hU.seg fun y hy => ?_⟩
      have hy' : y ∈ L t := by rw [hL]; rcases List.mem_append.1 hy with h | h <;> simp [h]
      obtain ⟨_, n2, _, n4⟩ := h.ne hy'
      exact hblk _ (hF _ (by simp only [List.mem_cons]; exact .inr (.inr (.inr n4)))) n2
    · rw [hother t e]
      obtain ⟨r1, r2, r3⟩ := h.rows t ht
      refine ⟨by rw [hc _ (by omega) (by omega)]; exact r1, by rw [hc _ (by omega) (by omega)]; exact r2, dseg_congr r3 fun y hy => ?_⟩
      obtain ⟨n1, n2, _, n4⟩ := h.ne hy
      rw [hblk _ (hF _ (by simp only [List.mem_cons]; exact .inr (.inr (.inr n4)))) n2]
      have hnot : ∀ zs : List (Int × Nat), (∀ z ∈ zs, z ∈ L s) → y.2 ∉ zs.map Prod.snd := by
        intro zs hz hm
        obtain ⟨z, hz1, hz2⟩ := List.mem_map.1 hm
        have hz3 := hz z hz1
        have e3 : z.1 = y.1 := h.blk (l := y.2) (by rw [← hz2]; exact hz3) hy
        exact e ((h.key (i := y.1) (l := y.2) (l' := z.2) hy (by rw [← e3]; exact hz3)).2)
      exact hU.same _ n1 (hnot xs (fun z hz => by rw [hL]; simp [hz])) (hnot ys (fun z hz => by rw [hL]; simp [hz]))
  · intro t ht
    rw [hother t (by omega)]; exact h.out t ht
  · rw [hc _ (by omega) (by omega)]; exact h.cm
  · rw [hc _ (by omega) (by omega)]; exact h.ck
  · obtain ⟨kc, kt, h1, h2⟩ := h.hk
    refine ⟨kc, kt, ?_, h2⟩
    rw [hblk k (hF k (by simp)) km, hU.same k kb ?_ ?_]
    · exact h1
    · intro hm
      obtain ⟨z, hz1, hz2⟩ := List.mem_map.1 hm
      exact (h.ne (s := s) (p := z) (by rw [hL]; simp [hz1])).2.2.1 hz2
    · intro hm
      obtain ⟨z, hz1, hz2⟩ := List.mem_map.1 hm
      exact (h.ne (s := s) (p := z) (by rw [hL]; simp [hz1])).2.2.1 hz2
  · intro t ht hne
    have hne' : t ≠ s := fun e => hne (by rw [e])
    rw [hother t hne']
    exact h.mask t ht (by simp)
  · intro p
    obtain ⟨i, q⟩ := p
    rw [mem_adel hnd, h.mem]
    unfold dropL
    constructor
    · rintro ⟨h1, t, h2⟩; exact ⟨t, by simp [h2, h1]⟩
    · rintro ⟨t, h1⟩
      simp only [List.mem_filter, decide_eq_true_eq, ne_eq] at h1
      exact ⟨by simpa using h1.2, t, h1.1⟩
  · have : (b :: m :: k :: (adel A id).map Prod.snd).Sublist (b :: m :: k :: A.map Prod.snd) := (((adel_sublist A id).map _).cons_cons k).cons_cons m |>.cons_cons b
    exact this.nodup h.nd
  · intro t
    exact ((List.filter_sublist (l := L t)).map Prod.snd).nodup (h.rnd t)
  · refine ⟨h5.os.trans hU.os, h5.tape.trans hU.tape, h5.output.trans hU.output, by rw [h6, hU.size]; exact Nat.le_refl _, fun y hy hn => ?_⟩
    simp only [List.mem_cons, not_or] at hn
    rw [hblk y hy hn.2.1]
    refine hU.same y hn.1 ?_ ?_
    · intro hm
      obtain ⟨z, hz1, hz2⟩ := List.mem_map.1 hm
      exact hn.2.2.2 (hz2 ▸ (h.ne (s := s) (p := z) (by rw [hL]; simp [hz1])).2.2.2)
    · intro hm
      obtain ⟨z, hz1, hz2⟩ := List.mem_map.1 hm
      exact hn.2.2.2 (hz2 ▸ (h.ne (s := s) (p := z) (by rw [hL]; simp [hz1])).2.2.2)
  · intro y hy
    left
    simp only [List.mem_cons] at hy ⊢
    rcases hy with h1 | h1 | h1 | h1
    · exact .inl h1
    · exact .inr (.inl h1)
    · exact .inr (.inr (.inl h1))
    · exact .inr (.inr (.inr (((adel_sublist A id).map _).subset h1)))

/-- Behind the first store: what leads to the link leads past it. -/
structure Un1 (w : World) (b : Nat) (cells : Array Value) (s : Nat) (xs ys : List (Int × Nat)) (l : Nat) (W : World) : Prop where
  row : ∃ c, W.heap[b]? = some (.cells c 69 (0, 0)) ∧ c.size = 130 ∧ c[s * 2]? = some (pv (headP (xs ++ ys) none)) ∧ ∀ j, j ≠ s * 2 → c[j]? = cells[j]?
  seg1 : dseg W s none xs (headP ys none)
  seg2 : dseg W s (some l) ys none
  same : ∀ y, y ≠ b → y ∉ xs.map Prod.snd → W.heap[y]? = w.heap[y]?
  tape : W.tape = w.tape
  os : W.os = w.os
  output : W.output = w.output
  size : W.heap.size = w.heap.size

theorem WheelIs.un1_nil (h : WheelIs w b L none cells m k cap x A) {s : Nat} (hs : s < 64) {ys : List (Int × Nat)} {id : Int} {l : Nat} (hL : L s = (id, l) :: ys) :
    Un1 w b cells s [] ys l (w.setCell ⟨b, s * 2, none⟩ (pv (headP ys none))) := by
  obtain ⟨r1, r2, r3⟩ := h.rows s hs
  rw [hL] at r3
  refine ⟨⟨_, heap_setCell_same h.hb _ _, by simp [h.size], by rw [Array.getElem?_setIfInBounds_self_of_lt (by rw [h.size]; omega)]; rfl, fun j hj => by rw [Array.getElem?_setIfInBounds_ne (Ne.symm hj)]⟩, trivial, dseg_congr r3.2 fun y hy => ?_, fun y hy _ => heap_setCell_other _ hy, rfl, rfl, rfl, by simp⟩
  exact heap_setCell_other _ (h.ne (s := s) (p := y) (by rw [hL]; simp [hy])).1
theorem WheelIs.un1_cons (h : WheelIs w b L none cells m k cap x A) {s : Nat} (hs : s < 64) {xs ys : List (Int × Nat)} {id ip : Int} {l p : Nat} (hL : L s = (xs ++ [(ip, p)]) ++ (id, l) :: ys) :
    Un1 w b cells s (xs ++ [(ip, p)]) ys l (w.setCell ⟨p, 3, none⟩ (pv (headP ys none))) := by
  obtain ⟨r1, r2, r3⟩ := h.rows s hs
  have hnd := h.rnd s
  have hp := h.ne (s := s) (p := (ip, p)) (by rw [hL]; simp)
  rw [hL] at r1 r3 hnd
  rw [dseg_append] at r3
  simp only [List.map_append, List.map_cons, List.map_nil] at hnd
  have hd := List.nodup_append.1 hnd
  have hxs : p ∉ xs.map Prod.snd := fun hm => (List.nodup_append.1 hd.1).2.2 _ hm _ (by simp) rfl
  have hys : ∀ y ∈ (id, l) :: ys, y.2 ≠ p := fun y hy e => hd.2.2 p (by simp) y.2 (by rcases List.mem_cons.1 hy with h | h; · subst h; simp
                                                                                      · exact .tail _ (List.mem_map.2 ⟨y, h, rfl⟩)) e.symm
  refine ⟨⟨cells, (heap_setCell_other _ (Ne.symm hp.1)).trans h.hb, h.size, ?_, fun j _ => rfl⟩, ?_, dseg_congr r3.2.2 fun y hy => heap_setCell_other _ (hys y (.tail _ hy)), fun y _ hm => heap_setCell_other _ ?_, rfl, rfl, rfl, by simp⟩
  · rw [r1]; simp only [headP_append]; cases xs <;> rfl
  · exact dseg_last r3.1 hxs (fun y _ hne => heap_setCell_other _ hne) (fun q hq => heap_setCell_same hq _ _)
  · exact fun e => hm (by subst e; simp)

theorem Un1.un2_nil {s : Nat} {xs : List (Int × Nat)} {l : Nat} {W : World} (h : Un1 w b cells s xs [] l W) (hb : ∀ y ∈ xs, y.2 ≠ b) (hs : s < 64) : Unlinked w b cells s xs [] l (W.setCell ⟨b, s * 2 + 1, none⟩ (pv (lastP xs none))) := by
  obtain ⟨c, h1, h2, h3, h4⟩ := h.row
  refine ⟨⟨_, heap_setCell_same h1 _ _, by simp [h2], by rw [Array.getElem?_setIfInBounds_ne (by omega)]; exact h3, by rw [Array.getElem?_setIfInBounds_self_of_lt (by rw [h2]; omega), List.append_nil], fun j hj hj2 => by rw [Array.getElem?_setIfInBounds_ne (Ne.symm hj2)]; exact h4 j hj⟩, ?_, fun y hy hm _ => (heap_setCell_other _ hy).trans (h.same y hy hm), h.tape, h.os, h.output, by rw [← h.size]; simp⟩
  rw [List.append_nil]
  exact dseg_congr h.seg1 fun y hy => heap_setCell_other _ (hb y hy)
theorem Un1.un2_cons {s : Nat} {xs ys : List (Int × Nat)} {jn : Int} {n l : Nat} {W : World} (h : Un1 w b cells s xs ((jn, n) :: ys) l W) (hb : n ≠ b) (hx : n ∉ xs.map Prod.snd) (hy : n ∉ ys.map Prod.snd)
    (hlast : cells[s * 2 + 1]? = some (pv (lastP (xs ++ (jn, n) :: ys) none))) : Unlinked w b cells s xs ((jn, n) :: ys) l (W.setCell ⟨n, 2, none⟩ (pv (lastP xs none))) := by
  obtain ⟨c, h1, h2, h3, h4⟩ := h.row
  refine ⟨⟨c, (heap_setCell_other _ (Ne.symm hb)).trans h1, h2, h3, by rw [h4 _ (by omega)]; exact hlast, fun j hj _ => h4 j hj⟩, ?_, fun y hyb hm1 hm2 => (heap_setCell_other _ ?_).trans (h.same y hyb hm1), h.tape, h.os, h.output, by rw [← h.size]; simp⟩
  · rw [dseg_append]
    refine ⟨dseg_congr h.seg1 fun y hm => heap_setCell_other _ (fun e => hx (e ▸ List.mem_map.2 ⟨y, hm, rfl⟩)), ?_⟩
    exact dseg_first h.seg2 hy (fun y _ hne => heap_setCell_other _ hne) (heap_setCell_same h.seg2.1 _ _)
  · exact fun e => hm2 (by subst e; simp)
theorem Unlinked.same_heap {s : Nat} {xs ys : List (Int × Nat)} {l : Nat} {W W' : World} (h : Unlinked w b cells s xs ys l W) (e1 : W'.heap = W.heap) (e2 : W'.tape = W.tape) (e3 : W'.os = W.os) (e4 : W'.output = W.output) : Unlinked w b cells s xs ys l W' := by
  obtain ⟨c, h1, h2, h3, h4, h5⟩ := h.row
  exact ⟨⟨c, by rw [e1]; exact h1, h2, h3, h4, h5⟩, dseg_congr h.seg fun y _ => by rw [e1], fun y a1 a2 a3 => by rw [e1]; exact h.same y a1 a2 a3, e2.trans h.tape, e3.trans h.os, e4.trans h.output, by rw [e1]; exact h.size⟩

end

theorem Try.zeroLink (w : World) : (zeroValue 64).run Try.prog w = .ok (.pointer none) w := by kernel_rfl

set_option maxRecDepth 100000 in
/-- wheel.Drop: of an id that is not there. -/
theorem drop_no {b : Nat} {L : Nat → List (Int × Nat)} {cells : Array Value} {m k cap x : Nat} {A : List (Int × Nat)} (id : Int) (w : World) (h : WheelIs w b L none cells m k cap x A) (hg : aget A id = none) :
    Calls Try.prog 34 #[.pointer (some ⟨b, 0, none⟩), .int .i64 id] w fun e w' => e = .returned (.bool false) ∧ w = w' := by
  have c1 : w.cell? ⟨b, 128, none⟩ = some (.map (some m)) := by rw [cell_of_heap h.hb]; exact h.cm
  have hl := run_lookup_ok h.hm (keyInt Try.underlying3) Try.underlying62 Try.zeroLink id
  rw [hg] at hl
  simp only [Option.elim_none, Option.isSome_none, ekI] at hl
  clear h hg
  go_enter Try.func34, Try.ntmps34
  go_wp2
  go_ret
  exact ⟨rfl, rfl⟩

set_option maxRecDepth 100000 in
set_option maxHeartbeats 1000000 in
/-- wheel.Drop: the walk, the link alone in its row. -/
theorem drop_11 {R : Ending → World → Prop} (b m l s : Nat) (id : Int) (A : List (Int × Nat)) (w : World) (hs : s < 64) (_hbl : b ≠ l) (hlb : l ≠ b) (hmb : m ≠ b) (hlm : l ≠ m) 
    (c1 : w.cell? ⟨b, 128, none⟩ = some (.map (some m))) (hm : MapAt ekI evP w m A) (hg : aget A id = some l)
    (l1 : w.cell? ⟨l, 1, none⟩ = some (.int .i64 s)) (l2 : w.cell? ⟨l, 2, none⟩ = some (.pointer none)) (l3 : w.cell? ⟨l, 3, none⟩ = some (.pointer none))
    (v1 v2 : Value) (r1 : w.cell? ⟨b, s * 2, none⟩ = some v1) (r2 : w.cell? ⟨b, s * 2 + 1, none⟩ = some v2) (f1 : w.frozen? ⟨b, s * 2, none⟩ = false) (f2 : w.frozen? ⟨b, s * 2 + 1, none⟩ = false)
    (hnext : ∀ W w3, W.heap = ((w.setCell ⟨b, s * 2, none⟩ (.pointer none)).setCell ⟨b, s * 2 + 1, none⟩ (.pointer none)).heap → W.tape = w.tape → W.os = w.os → W.output = w.output → MapAt ekI evP w3 m (adel A id) → Upd (· = m) W w3 → w3.heap.size = W.heap.size →
      Calls Try.prog 41 #[.pointer (some ⟨b, 0, none⟩), .int .i64 s] w3 fun e w' => e = .returned (.tuple #[]) ∧ R (.returned (.bool true)) w') :
    Calls Try.prog 34 #[.pointer (some ⟨b, 0, none⟩), .int .i64 id] w R := by
  have hl := run_lookup_ok hm (keyInt Try.underlying3) Try.underlying62 Try.zeroLink id
  rw [hg] at hl
  simp only [Option.elim_some, Option.isSome_some, ekI, evP] at hl
  have hll : l < w.heap.size := World.block_lt_of_cell? _ _ l1
  have n1 : ¬ s * 2 = 128 := by omega
  have n2 : ¬ s * 2 + 1 = 128 := by omega
  have HM := hid hm; clear hm
  have HG := hid hg; clear hg
  have HN := hid hnext; clear hnext
  go_enter Try.func34, Try.ntmps34
  go_wp2
  go_quiet (fail)
  go_wp2_with (at_delete; refine wpList_delete_is (ev := evP) (l := A) rfl _ _ _ rfl (keyInt Try.underlying3) Try.underlying62 m rfl id rfl ?hm ?next)
  case hm => exact HM.out.congr ((heap_setCell_other _ hmb).trans ((heap_setCell_other _ hmb).trans rfl))
  case next =>
    intro w3 k1 k2 k3
    have l1' : w3.cell? ⟨l, 1, none⟩ = some (.int .i64 s) := by
      rw [k2.cell (p := ⟨l, 1, none⟩) (by simpa using hll) hlm]
      exact (World.cell?_of_block ((heap_setCell_other _ hlb).trans ((heap_setCell_other _ hlb).trans rfl))).trans l1
    have HC := hid (HN.out _ w3 (by rfl) (by rfl) (by rfl) (by rfl) k1 k2 (by simpa using k3))
    clear k1 k2 k3
    go_wp2_with fail
    refine HC.out.mono ?_
    rintro e w' ⟨rfl, hR⟩
    have HR := hid hR; clear hR
    go_wp2
    exact HR.out
set_option maxRecDepth 100000 in
set_option maxHeartbeats 1000000 in
/-- wheel.Drop: the walk, the first one of its row. -/
theorem drop_12 {R : Ending → World → Prop} (b m l s n : Nat) (id : Int) (A : List (Int × Nat)) (w : World) (hs : s < 64) (_hbl : b ≠ l) (hlb : l ≠ b) (hmb : m ≠ b) (hlm : l ≠ m) (hnl : n ≠ l) (hln : l ≠ n) (hnb : n ≠ b) (hbn : b ≠ n) (hnm : m ≠ n)
    (c1 : w.cell? ⟨b, 128, none⟩ = some (.map (some m))) (hm : MapAt ekI evP w m A) (hg : aget A id = some l)
    (l1 : w.cell? ⟨l, 1, none⟩ = some (.int .i64 s)) (l2 : w.cell? ⟨l, 2, none⟩ = some (.pointer none)) (l3 : w.cell? ⟨l, 3, none⟩ = some (.pointer (some ⟨n, 0, none⟩)))
    (v1 v2 : Value) (r1 : w.cell? ⟨b, s * 2, none⟩ = some v1) (r2 : w.cell? ⟨n, 2, none⟩ = some v2) (f1 : w.frozen? ⟨b, s * 2, none⟩ = false) (f2 : w.frozen? ⟨n, 2, none⟩ = false)
    (hnext : ∀ W w3, W.heap = ((w.setCell ⟨b, s * 2, none⟩ (.pointer (some ⟨n, 0, none⟩))).setCell ⟨n, 2, none⟩ (.pointer none)).heap → W.tape = w.tape → W.os = w.os → W.output = w.output → MapAt ekI evP w3 m (adel A id) → Upd (· = m) W w3 → w3.heap.size = W.heap.size →
      Calls Try.prog 41 #[.pointer (some ⟨b, 0, none⟩), .int .i64 s] w3 fun e w' => e = .returned (.tuple #[]) ∧ R (.returned (.bool true)) w') :
    Calls Try.prog 34 #[.pointer (some ⟨b, 0, none⟩), .int .i64 id] w R := by
  have hl := run_lookup_ok hm (keyInt Try.underlying3) Try.underlying62 Try.zeroLink id
  rw [hg] at hl
  simp only [Option.elim_some, Option.isSome_some, ekI, evP] at hl
  have hll : l < w.heap.size := World.block_lt_of_cell? _ _ l1
  have n1 : ¬ s * 2 = 128 := by omega
  have n2 : ¬ s * 2 + 1 = 128 := by omega
  have HM := hid hm; clear hm
  have HG := hid hg; clear hg
  have HN := hid hnext; clear hnext
  go_enter Try.func34, Try.ntmps34
  go_wp2
  go_quiet (fail)
  go_wp2_with (at_delete; refine wpList_delete_is (ev := evP) (l := A) rfl _ _ _ rfl (keyInt Try.underlying3) Try.underlying62 m rfl id rfl ?hm ?next)
  go_region
  go_wp2_with (at_delete; refine wpList_delete_is (ev := evP) (l := A) rfl _ _ _ rfl (keyInt Try.underlying3) Try.underlying62 m rfl id rfl ?hm ?next)
  case hm => exact HM.out.congr ((heap_setCell_other _ hnm).trans ((heap_setCell_other _ hmb).trans rfl))
  case next =>
    intro w3 k1 k2 k3
    have l1' : w3.cell? ⟨l, 1, none⟩ = some (.int .i64 s) := by
      rw [k2.cell (p := ⟨l, 1, none⟩) (by simpa using hll) hlm]
      exact (World.cell?_of_block ((heap_setCell_other _ hln).trans ((heap_setCell_other _ hlb).trans rfl))).trans l1
    have HC := hid (HN.out _ w3 (by rfl) (by rfl) (by rfl) (by rfl) k1 k2 (by simpa using k3))
    clear k1 k2 k3
    go_wp2_with fail
    refine HC.out.mono ?_
    rintro e w' ⟨rfl, hR⟩
    have HR := hid hR; clear hR
    go_wp2
    exact HR.out
set_option maxRecDepth 100000 in
set_option maxHeartbeats 1000000 in
/-- wheel.Drop: the walk, the last one of its row. -/
theorem drop_21 {R : Ending → World → Prop} (b m l s p : Nat) (id : Int) (A : List (Int × Nat)) (w : World) (hs : s < 64) (_hbl : b ≠ l) (hlb : l ≠ b) (hmb : m ≠ b) (hlm : l ≠ m) (_hpl : p ≠ l) (hlp : l ≠ p) (hpb : p ≠ b) (hbp : b ≠ p) (hpm : m ≠ p)
    (c1 : w.cell? ⟨b, 128, none⟩ = some (.map (some m))) (hm : MapAt ekI evP w m A) (hg : aget A id = some l)
    (l1 : w.cell? ⟨l, 1, none⟩ = some (.int .i64 s)) (l2 : w.cell? ⟨l, 2, none⟩ = some (.pointer (some ⟨p, 0, none⟩))) (l3 : w.cell? ⟨l, 3, none⟩ = some (.pointer none))
    (v1 v2 : Value) (r1 : w.cell? ⟨p, 3, none⟩ = some v1) (r2 : w.cell? ⟨b, s * 2 + 1, none⟩ = some v2) (f1 : w.frozen? ⟨p, 3, none⟩ = false) (f2 : w.frozen? ⟨b, s * 2 + 1, none⟩ = false)
    (hnext : ∀ W w3, W.heap = ((w.setCell ⟨p, 3, none⟩ (.pointer none)).setCell ⟨b, s * 2 + 1, none⟩ (.pointer (some ⟨p, 0, none⟩))).heap → W.tape = w.tape → W.os = w.os → W.output = w.output → MapAt ekI evP w3 m (adel A id) → Upd (· = m) W w3 → w3.heap.size = W.heap.size →
      Calls Try.prog 41 #[.pointer (some ⟨b, 0, none⟩), .int .i64 s] w3 fun e w' => e = .returned (.tuple #[]) ∧ R (.returned (.bool true)) w') :
    Calls Try.prog 34 #[.pointer (some ⟨b, 0, none⟩), .int .i64 id] w R := by
  have hl := run_lookup_ok hm (keyInt Try.underlying3) Try.underlying62 Try.zeroLink id
  rw [hg] at hl
  simp only [Option.elim_some, Option.isSome_some, ekI, evP] at hl
  have hll : l < w.heap.size := World.block_lt_of_cell? _ _ l1
  have n1 : ¬ s * 2 = 128 := by omega
  have n2 : ¬ s * 2 + 1 = 128 := by omega
  have HM := hid hm; clear hm
  have HG := hid hg; clear hg
  have HN := hid hnext; clear hnext
  go_enter Try.func34, Try.ntmps34
  go_wp2
  go_quiet (fail)
  go_wp2_with (at_delete; refine wpList_delete_is (ev := evP) (l := A) rfl _ _ _ rfl (keyInt Try.underlying3) Try.underlying62 m rfl id rfl ?hm ?next)
  go_region
  go_wp2_with (at_delete; refine wpList_delete_is (ev := evP) (l := A) rfl _ _ _ rfl (keyInt Try.underlying3) Try.underlying62 m rfl id rfl ?hm ?next)
  case hm => exact HM.out.congr ((heap_setCell_other _ hmb).trans ((heap_setCell_other _ hpm).trans rfl))
  case next =>
    intro w3 k1 k2 k3
    have l1' : w3.cell? ⟨l, 1, none⟩ = some (.int .i64 s) := by
      rw [k2.cell (p := ⟨l, 1, none⟩) (by simpa using hll) hlm]
      exact (World.cell?_of_block ((heap_setCell_other _ hlb).trans ((heap_setCell_other _ hlp).trans rfl))).trans l1
    have HC := hid (HN.out _ w3 (by rfl) (by rfl) (by rfl) (by rfl) k1 k2 (by simpa using k3))
    clear k1 k2 k3
    go_wp2_with fail
    refine HC.out.mono ?_
    rintro e w' ⟨rfl, hR⟩
    have HR := hid hR; clear hR
    go_wp2
    exact HR.out
set_option maxRecDepth 100000 in
set_option maxHeartbeats 1000000 in
/-- wheel.Drop: the walk, between two. -/
theorem drop_22 {R : Ending → World → Prop} (b m l s p n : Nat) (id : Int) (A : List (Int × Nat)) (w : World) (hs : s < 64) (_hbl : b ≠ l) (_hlb : l ≠ b) (_hmb : m ≠ b) (hlm : l ≠ m) (_hpl : p ≠ l) (hlp : l ≠ p) (hpb : p ≠ b) (hbp : b ≠ p) (hpm : m ≠ p) (hnl : n ≠ l) (hln : l ≠ n) (hnb : n ≠ b) (hbn : b ≠ n) (hnm : m ≠ n) (hpn : p ≠ n) (hnp : n ≠ p)
    (c1 : w.cell? ⟨b, 128, none⟩ = some (.map (some m))) (hm : MapAt ekI evP w m A) (hg : aget A id = some l)
    (l1 : w.cell? ⟨l, 1, none⟩ = some (.int .i64 s)) (l2 : w.cell? ⟨l, 2, none⟩ = some (.pointer (some ⟨p, 0, none⟩))) (l3 : w.cell? ⟨l, 3, none⟩ = some (.pointer (some ⟨n, 0, none⟩)))
    (v1 v2 : Value) (r1 : w.cell? ⟨p, 3, none⟩ = some v1) (r2 : w.cell? ⟨n, 2, none⟩ = some v2) (f1 : w.frozen? ⟨p, 3, none⟩ = false) (f2 : w.frozen? ⟨n, 2, none⟩ = false)
    (hnext : ∀ W w3, W.heap = ((w.setCell ⟨p, 3, none⟩ (.pointer (some ⟨n, 0, none⟩))).setCell ⟨n, 2, none⟩ (.pointer (some ⟨p, 0, none⟩))).heap → W.tape = w.tape → W.os = w.os → W.output = w.output → MapAt ekI evP w3 m (adel A id) → Upd (· = m) W w3 → w3.heap.size = W.heap.size →
      Calls Try.prog 41 #[.pointer (some ⟨b, 0, none⟩), .int .i64 s] w3 fun e w' => e = .returned (.tuple #[]) ∧ R (.returned (.bool true)) w') :
    Calls Try.prog 34 #[.pointer (some ⟨b, 0, none⟩), .int .i64 id] w R := by
  have hl := run_lookup_ok hm (keyInt Try.underlying3) Try.underlying62 Try.zeroLink id
  rw [hg] at hl
  simp only [Option.elim_some, Option.isSome_some, ekI, evP] at hl
  have hll : l < w.heap.size := World.block_lt_of_cell? _ _ l1
  have n1 : ¬ s * 2 = 128 := by omega
  have n2 : ¬ s * 2 + 1 = 128 := by omega
  have HM := hid hm; clear hm
  have HG := hid hg; clear hg
  have HN := hid hnext; clear hnext
  go_enter Try.func34, Try.ntmps34
  go_wp2
  go_quiet (fail)
  go_wp2_with (at_delete; refine wpList_delete_is (ev := evP) (l := A) rfl _ _ _ rfl (keyInt Try.underlying3) Try.underlying62 m rfl id rfl ?hm ?next)
  go_region
  go_wp2_with (at_delete; refine wpList_delete_is (ev := evP) (l := A) rfl _ _ _ rfl (keyInt Try.underlying3) Try.underlying62 m rfl id rfl ?hm ?next)
  go_region
  go_wp2_with (at_delete; refine wpList_delete_is (ev := evP) (l := A) rfl _ _ _ rfl (keyInt Try.underlying3) Try.underlying62 m rfl id rfl ?hm ?next)
  case hm => exact HM.out.congr ((heap_setCell_other _ hnm).trans ((heap_setCell_other _ hpm).trans rfl))
  case next =>
    intro w3 k1 k2 k3
    have l1' : w3.cell? ⟨l, 1, none⟩ = some (.int .i64 s) := by
      rw [k2.cell (p := ⟨l, 1, none⟩) (by simpa using hll) hlm]
      exact (World.cell?_of_block ((heap_setCell_other _ hln).trans ((heap_setCell_other _ hlp).trans rfl))).trans l1
    have HC := hid (HN.out _ w3 (by rfl) (by rfl) (by rfl) (by rfl) k1 k2 (by simpa using k3))
    clear k1 k2 k3
    go_wp2_with fail
    refine HC.out.mono ?_
    rintro e w' ⟨rfl, hR⟩
    have HR := hid hR; clear hR
    go_wp2
    exact HR.out

theorem snoc_cases {α : Type} (xs : List α) : xs = [] ∨ ∃ ys y, xs = ys ++ [y] := by
  rcases List.eq_nil_or_concat xs with h | ⟨ys, y, h⟩
  · exact .inl h
  · exact .inr ⟨ys, y, by simpa using h⟩
theorem lastP_snoc (xs : List (Int × Nat)) (i : Int) (p : Nat) (e : Option Nat) : lastP (xs ++ [(i, p)]) e = some p := by rw [lastP_append]; rfl

/-- wheel.Drop -/
theorem drop_any {b : Nat} {L : Nat → List (Int × Nat)} {F : List Nat} (id : Int) (w : World) (h : WheelAt w b L none F) :
    Calls Try.prog 34 #[.pointer (some ⟨b, 0, none⟩), .int .i64 id] w fun e w' => (∃ r, e = .returned (.bool r)) ∧ ∃ F', WheelAt w' b (dropL L id) none F' ∧ Step F F' w w' := by
  obtain ⟨cells, m, k, cap, x, A, h, rfl⟩ := h
  cases hg : aget A id with
  | none =>
    refine (drop_no id w h hg).mono ?_
    rintro e w' ⟨rfl, rfl⟩
    exact ⟨⟨_, rfl⟩, _, ⟨cells, m, k, cap, x, A, by rw [dropL_none h hg]; exact h, rfl⟩, Step.refl _ _⟩
  | some l =>
    obtain ⟨s, hmem⟩ := (h.mem _).1 (aget_mem hg)
    have hs : s < 64 := Nat.lt_of_not_le fun hle => by rw [h.out s hle] at hmem; cases hmem
    obtain ⟨xs, ys, hL⟩ := List.append_of_mem hmem
    obtain ⟨r1, r2, r3⟩ := h.rows s hs
    have hnd := h.rnd s
    obtain ⟨n1, n2, n3, n4⟩ := h.ne hmem
    obtain ⟨mb, kb, km⟩ := h.bmk
    rw [hL] at r1 r2 r3 hnd
    rw [dseg_append] at r3
    have hl : w.heap[l]? = some (lk id s (lastP xs none) (headP ys none)) := r3.2.1
    have c1 : w.cell? ⟨b, 128, none⟩ = some (.map (some m)) := by rw [cell_of_heap h.hb]; exact h.cm
    have l1 : w.cell? ⟨l, 1, none⟩ = some (.int .i64 s) := by rw [cell_of_heap hl]; rfl
    have l2 : w.cell? ⟨l, 2, none⟩ = some (pv (lastP xs none)) := by rw [cell_of_heap hl]; rfl
    have l3 : w.cell? ⟨l, 3, none⟩ = some (pv (headP ys none)) := by rw [cell_of_heap hl]; rfl
    have q1 := (cell_of_heap h.hb (s * 2)).trans r1
    have q2 := (cell_of_heap h.hb (s * 2 + 1)).trans r2
    have fb : ∀ o, w.frozen? ⟨b, o, none⟩ = false := free_of_heap h.hb
    have fin : ∀ W w3, Unlinked w b cells s xs ys l W → MapAt ekI evP w3 m (adel A id) → Upd (· = m) W w3 → w3.heap.size = W.heap.size →
        Calls Try.prog 41 #[.pointer (some ⟨b, 0, none⟩), .int .i64 s] w3 fun e w' => e = .returned (.tuple #[]) ∧
          ((∃ r, Ending.returned (.bool true) = .returned (.bool r)) ∧ ∃ F', WheelAt w' b (dropL L id) none F' ∧ Step (b :: m :: k :: A.map Prod.snd) F' w w') := by
      intro W w3 hU h4 h5 h6
      obtain ⟨F', hW, hS⟩ := h.unlink hs hL hU h4 h5 h6
      refine (mark_any s w3 hs hW).mono ?_
      rintro e w' ⟨rfl, F'', hW', hS'⟩
      exact ⟨rfl, ⟨_, rfl⟩, F'', hW', hS.trans hS'⟩
    simp only [List.map_append, List.map_cons] at hnd
    have hd := List.nodup_append.1 hnd
    rcases snoc_cases xs with rfl | ⟨xs', ⟨ip, p⟩, rfl⟩
    · cases ys with
      | nil =>
        refine drop_11 (R := fun e w' => (∃ r, e = .returned (.bool r)) ∧ ∃ F', WheelAt w' b (dropL L id) none F' ∧ Step (b :: m :: k :: A.map Prod.snd) F' w w') b m l s id A w hs (Ne.symm n1) n1 mb n2 c1 h.hm hg l1 l2 l3 _ _ q1 q2 (fb _) (fb _) ?_
        intro W w3 e1 e2 e3 e4 k1 k2 k3
        exact fin W w3 (((h.un1_nil hs hL).un2_nil (by simp) hs).same_heap e1 e2 e3 e4) k1 k2 k3
      | cons y ys' =>
        obtain ⟨jn, n⟩ := y
        have hn := h.ne (s := s) (p := (jn, n)) (by rw [hL]; simp)
        have hnl : n ≠ l := fun e => (List.nodup_cons.1 hd.2.1).1 (by subst e; simp)
        have hq := dseg_mem r3.2.2 (jn, n) (.head _)
        obtain ⟨pp, nn, hq⟩ := hq
        refine drop_12 (R := fun e w' => (∃ r, e = .returned (.bool r)) ∧ ∃ F', WheelAt w' b (dropL L id) none F' ∧ Step (b :: m :: k :: A.map Prod.snd) F' w w') b m l s n id A w hs (Ne.symm n1) n1 mb n2 hnl (Ne.symm hnl) hn.1 (Ne.symm hn.1) (Ne.symm hn.2.1) c1 h.hm hg l1 l2 l3 _ _ q1 (cell_of_heap hq 2) (fb _) (free_of_heap hq 2) ?_
        intro W w3 e1 e2 e3 e4 k1 k2 k3
        exact fin W w3 (((h.un1_nil hs hL).un2_cons hn.1 (by simp) (List.nodup_cons.1 (List.nodup_cons.1 hd.2.1).2).1 (by simpa [lastP] using r2)).same_heap e1 e2 e3 e4) k1 k2 k3
    · have hp := h.ne (s := s) (p := (ip, p)) (by rw [hL]; simp)
      have hpl : p ≠ l := hd.2.2 p (by simp) l (by simp)
      obtain ⟨pp, pn, hqp⟩ := dseg_mem r3.1 (ip, p) (by simp)
      rw [lastP_snoc] at l2
      cases ys with
      | nil =>
        refine drop_21 (R := fun e w' => (∃ r, e = .returned (.bool r)) ∧ ∃ F', WheelAt w' b (dropL L id) none F' ∧ Step (b :: m :: k :: A.map Prod.snd) F' w w') b m l s p id A w hs (Ne.symm n1) n1 mb n2 hpl (Ne.symm hpl) hp.1 (Ne.symm hp.1) (Ne.symm hp.2.1) c1 h.hm hg l1 l2 l3 _ _ (cell_of_heap hqp 3) q2 (free_of_heap hqp 3) (fb _) ?_
        intro W w3 e1 e2 e3 e4 k1 k2 k3
        have hU := (h.un1_cons hs hL).un2_nil (fun y hy => (h.ne (s := s) (p := y) (by rw [hL]; simp only [List.mem_append, List.mem_cons] at hy ⊢; exact .inl hy)).1) hs
        rw [lastP_snoc] at hU
        exact fin W w3 (hU.same_heap e1 e2 e3 e4) k1 k2 k3
      | cons y ys' =>
        obtain ⟨jn, n⟩ := y
        have hn := h.ne (s := s) (p := (jn, n)) (by rw [hL]; simp)
        have hnl : n ≠ l := fun e => (List.nodup_cons.1 hd.2.1).1 (by subst e; simp)
        have hpn : p ≠ n := hd.2.2 p (by simp) n (by simp)
        obtain ⟨np, nn, hqn⟩ := dseg_mem r3.2.2 (jn, n) (.head _)
        refine drop_22 (R := fun e w' => (∃ r, e = .returned (.bool r)) ∧ ∃ F', WheelAt w' b (dropL L id) none F' ∧ Step (b :: m :: k :: A.map Prod.snd) F' w w') b m l s p n id A w hs (Ne.symm n1) n1 mb n2 hpl (Ne.symm hpl) hp.1 (Ne.symm hp.1) (Ne.symm hp.2.1) hnl (Ne.symm hnl) hn.1 (Ne.symm hn.1) (Ne.symm hn.2.1) hpn (Ne.symm hpn) c1 h.hm hg l1 l2 l3 _ _ (cell_of_heap hqp 3) (cell_of_heap hqn 2) (free_of_heap hqp 3) (free_of_heap hqn 2) ?_
        intro W w3 e1 e2 e3 e4 k1 k2 k3
        have hU := (h.un1_cons hs hL).un2_cons hn.1 (fun hm => hd.2.2 n hm n (by simp) rfl) (List.nodup_cons.1 (List.nodup_cons.1 hd.2.1).2).1 (by rw [r2, lastP_append, lastP_append (xs' ++ [(ip, p)])]; rfl)
        rw [lastP_snoc] at hU
        exact fin W w3 (hU.same_heap e1 e2 e3 e4) k1 k2 k3
end Go.Proofs.Yteoecpggmchbkaa
