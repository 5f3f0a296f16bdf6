/- What a wheel is in memory; wheel.mark, wheel.may. -/
import Derived.Test.YteoecpggmchbkaaBitsNext
namespace Go.Proofs.Yteoecpggmchbkaa
open Go.RowKit

def pv (o : Option Nat) : Value := .pointer (o.map fun b => ⟨b, 0, none⟩)
theorem pv_none : pv none = .pointer none := rfl
theorem pv_some (b : Nat) : pv (some b) = .pointer (some ⟨b, 0, none⟩) := rfl
/-- The elements of 'map[int]*link'. -/
def evP (b : Nat) : Value := .pointer (some ⟨b, 0, none⟩)

/-- From F to F': what is in F' was in F, or is new. -/
structure Step (F F' : List Nat) (w w' : World) : Prop where
  upd : Upd (· ∈ F) w w'
  sub : ∀ x ∈ F', x ∈ F ∨ w.heap.size ≤ x
theorem Step.refl (F : List Nat) (w : World) : Step F F w w := ⟨Upd.refl _ _, fun _ h => .inl h⟩
theorem Step.trans {F F' F'' : List Nat} {a b c : World} (h : Step F F' a b) (k : Step F' F'' b c) : Step F F'' a c :=
  ⟨h.upd.trans k.upd (fun x hx hm => (h.sub x hm).resolve_right (by omega)), fun x hx => by
    rcases k.sub x hx with h1 | h1
    · exact h.sub x h1
    · exact .inr (Nat.le_trans h.upd.size h1)⟩
theorem Step.of {F F' : List Nat} {a b : World} (h : Upd (· ∈ F) a b) (k : ∀ x ∈ F', x ∈ F ∨ a.heap.size ≤ x) : Step F F' a b := ⟨h, k⟩
theorem Step.keep {F F' : List Nat} {a b : World} (h : Step F F' a b) {x : Nat} (hx : x < a.heap.size) (hn : x ∉ F) : b.heap[x]? = a.heap[x]? := h.upd.block x hx hn

/-- A link's block. -/
def lk (id : Int) (s : Nat) (p n : Option Nat) : Obj := .cells #[.int .i64 id, .int .i64 s, pv p, pv n] 79 (0, 0)

def headP : List (Int × Nat) → Option Nat → Option Nat
  | [], e => e
  | (_, l) :: _, _ => some l
def lastP : List (Int × Nat) → Option Nat → Option Nat
  | [], e => e
  | (_, l) :: r, _ => lastP r (some l)
/-- Links that lead to one another. -/
def dseg (w : World) (s : Nat) : Option Nat → List (Int × Nat) → Option Nat → Prop
  | _, [], _ => True
  | p, (id, l) :: r, n => w.heap[l]? = some (lk id s p (headP r n)) ∧ dseg w s (some l) r n

theorem headP_append (xs ys : List (Int × Nat)) (n : Option Nat) : headP (xs ++ ys) n = headP xs (headP ys n) := by
  cases xs with
  | nil => rfl
  | cons x xs => rfl
theorem lastP_append (xs ys : List (Int × Nat)) (p : Option Nat) : lastP (xs ++ ys) p = lastP ys (lastP xs p) := by
  induction xs generalizing p with
  | nil => rfl
  | cons x xs ih => exact ih _
theorem dseg_append {w : World} {s : Nat} (xs ys : List (Int × Nat)) (p n : Option Nat) : dseg w s p (xs ++ ys) n ↔ dseg w s p xs (headP ys n) ∧ dseg w s (lastP xs p) ys n := by
  induction xs generalizing p with
  | nil => simp [dseg, lastP]
  | cons x xs ih =>
    obtain ⟨i, l⟩ := x
    simp only [List.cons_append, dseg, headP_append, ih, lastP, and_assoc]
theorem dseg_congr {w w' : World} {s : Nat} : ∀ {xs : List (Int × Nat)} {p n : Option Nat}, dseg w s p xs n → (∀ x ∈ xs, w'.heap[x.2]? = w.heap[x.2]?) → dseg w' s p xs n
  | [], _, _, _, _ => trivial
  | (i, l) :: _, _, _, h, k => ⟨(k (i, l) (.head _)).trans h.1, dseg_congr h.2 (fun x hx => k x (.tail _ hx))⟩
theorem dseg_mem {w : World} {s : Nat} : ∀ {xs : List (Int × Nat)} {p n : Option Nat}, dseg w s p xs n → ∀ x ∈ xs, ∃ p' n', w.heap[x.2]? = some (lk x.1 s p' n')
  | (_, _) :: _, _, _, h, x, hx => by
    rcases List.mem_cons.1 hx with e | hx
    · subst e; exact ⟨_, _, h.1⟩
    · exact dseg_mem h.2 x hx
/-- The last one's next is another one. -/
theorem dseg_last {w w' : World} {s : Nat} {xs : List (Int × Nat)} {i : Int} {l : Nat} {p n n' : Option Nat} (h : dseg w s p (xs ++ [(i, l)]) n) (hl : l ∉ xs.map Prod.snd)
    (hx : ∀ x ∈ xs, x.2 ≠ l → w'.heap[x.2]? = w.heap[x.2]?) (hw : ∀ q, w.heap[l]? = some (lk i s q n) → w'.heap[l]? = some (lk i s q n')) : dseg w' s p (xs ++ [(i, l)]) n' := by
  rw [dseg_append] at h ⊢
  exact ⟨dseg_congr h.1 (fun x hm => hx x hm (fun e => hl (e ▸ List.mem_map.2 ⟨x, hm, rfl⟩))), hw _ h.2.1, trivial⟩
/-- The first one's prev is another one. -/
theorem dseg_first {w w' : World} {s : Nat} {xs : List (Int × Nat)} {i : Int} {l : Nat} {p p' n : Option Nat} (h : dseg w s p ((i, l) :: xs) n) (hl : l ∉ xs.map Prod.snd)
    (hx : ∀ x ∈ xs, x.2 ≠ l → w'.heap[x.2]? = w.heap[x.2]?) (hw : w'.heap[l]? = some (lk i s p' (headP xs n))) : dseg w' s p' ((i, l) :: xs) n :=
  ⟨hw, dseg_congr h.2 (fun x hm => hx x hm (fun e => hl (e ▸ List.mem_map.2 ⟨x, hm, rfl⟩)))⟩

/-- THE WHEEL IN BLOCK b: row s has the links L s; its blocks are F; of row 'bad' the mask may say what it will. -/
structure WheelIs (w : World) (b : Nat) (L : Nat → List (Int × Nat)) (bad : Option Nat) (cells : Array Value) (m k cap x : Nat) (A : List (Int × Nat)) : Prop where
  hb : w.heap[b]? = some (.cells cells 69 (0, 0))
  size : cells.size = 130
  rows : ∀ s, s < 64 → cells[s * 2]? = some (pv (headP (L s) none)) ∧ cells[s * 2 + 1]? = some (pv (lastP (L s) none)) ∧ dseg w s none (L s) none
  out : ∀ s, 64 ≤ s → L s = []
  cm : cells[128]? = some (.map (some m))
  ck : cells[129]? = some (.slice (some ⟨k, 0, none⟩) 1 cap)
  hm : MapAt ekI evP w m A
  hk : ∃ kc t, w.heap[k]? = some (.cells kc t (0, 0)) ∧ kc[0]? = some (ekU x)
  hx : x < 18446744073709551616
  mask : ∀ s, s < 64 → some s ≠ bad → (x.testBit s = true ↔ L s ≠ [])
  mem : ∀ p, p ∈ A ↔ ∃ s, p ∈ L s
  nd : (b :: m :: k :: A.map Prod.snd).Nodup
  rnd : ∀ s, ((L s).map Prod.snd).Nodup
def WheelAt (w : World) (b : Nat) (L : Nat → List (Int × Nat)) (bad : Option Nat) (F : List Nat) : Prop :=
  ∃ cells m k cap x A, WheelIs w b L bad cells m k cap x A ∧ F = b :: m :: k :: A.map Prod.snd

section
variable {w w' : World} {b : Nat} {L : Nat → List (Int × Nat)} {bad : Option Nat} {cells : Array Value} {m k cap x : Nat} {A : List (Int × Nat)} {F : List Nat}
theorem WheelIs.lt (h : WheelIs w b L bad cells m k cap x A) : ∀ y ∈ b :: m :: k :: A.map Prod.snd, y < w.heap.size := by
  intro y hy
  simp only [List.mem_cons, List.mem_map] at hy
  rcases hy with rfl | rfl | rfl | ⟨p, hp, rfl⟩
  · exact lt_of_heap h.hb
  · exact h.hm.lt
  · obtain ⟨kc, t, hk, _⟩ := h.hk; exact lt_of_heap hk
  · obtain ⟨s, hs⟩ := (h.mem p).1 hp
    have hs64 : s < 64 := Nat.lt_of_not_le fun hle => by rw [h.out s hle] at hs; cases hs
    obtain ⟨p', n', hh⟩ := dseg_mem (h.rows s hs64).2.2 p hs
    exact lt_of_heap hh
theorem WheelAt.lt (h : WheelAt w b L bad F) : ∀ y ∈ F, y < w.heap.size := by
  obtain ⟨_, _, _, _, _, _, h, rfl⟩ := h; exact h.lt
theorem WheelAt.nodup (h : WheelAt w b L bad F) : F.Nodup := by
  obtain ⟨_, _, _, _, _, _, h, rfl⟩ := h; exact h.nd
theorem WheelAt.self (h : WheelAt w b L bad F) : b ∈ F := by
  obtain ⟨_, _, _, _, _, _, h, rfl⟩ := h; exact .head _
theorem WheelIs.congr (h : WheelIs w b L bad cells m k cap x A) (hc : ∀ y ∈ b :: m :: k :: A.map Prod.snd, w'.heap[y]? = w.heap[y]?) : WheelIs w' b L bad cells m k cap x A where
  hb := (hc b (by simp)).trans h.hb
  size := h.size
  rows := fun s hs => ⟨(h.rows s hs).1, (h.rows s hs).2.1, dseg_congr (h.rows s hs).2.2 (fun y hy => hc _ (by simp only [List.mem_cons, List.mem_map]; exact .inr (.inr (.inr ⟨y, (h.mem y).2 ⟨s, hy⟩, rfl⟩))))⟩
  out := h.out
  cm := h.cm
  ck := h.ck
  hm := h.hm.congr (hc m (by simp))
  hk := by obtain ⟨kc, t, h1, h2⟩ := h.hk; exact ⟨kc, t, (hc k (by simp)).trans h1, h2⟩
  hx := h.hx
  mask := h.mask
  mem := h.mem
  nd := h.nd
  rnd := h.rnd
theorem WheelAt.congr (h : WheelAt w b L bad F) (hc : ∀ y ∈ F, w'.heap[y]? = w.heap[y]?) : WheelAt w' b L bad F := by
  obtain ⟨c, m, k, cap, x, A, h, rfl⟩ := h; exact ⟨c, m, k, cap, x, A, h.congr hc, rfl⟩
theorem WheelAt.upd {G : Nat → Prop} (h : WheelAt w b L bad F) (hu : Upd G w w') (hd : ∀ y ∈ F, ¬ G y) : WheelAt w' b L bad F := h.congr fun y hy => hu.block y (h.lt y hy) (hd y hy)
end

/-- The mask with a bit set or cleared. -/
theorem bput_bit (x : Nat) (v : Bool) (s t : Nat) (ht : t < 64) (hs : s < 64) : (bput x (if v then 1 else 0) 1 s).testBit t = if t = s then v else x.testBit t := by
  have h1 : (2 ^ 1 - 1) * 2 ^ s = 2 ^ s := by simp
  have h2 : 18446744073709551615 - 2 ^ s = 2 ^ 64 - (2 ^ s + 1) := by
    rw [show (2 : Nat) ^ 64 = 18446744073709551616 from by decide]; omega
  have h3 : (2 : Nat) ^ s < 2 ^ 64 := Nat.pow_lt_pow_right (by omega) hs
  unfold bput
  rw [h1, h2, Nat.testBit_or, Nat.testBit_and, Nat.testBit_two_pow_sub_succ h3, Nat.testBit_two_pow, Nat.testBit_mul_two_pow]
  by_cases e : t = s
  · subst e
    cases v <;> simp
  · have e' : ¬ s = t := fun h => e h.symm
    by_cases hst : s ≤ t
    · have : t - s ≠ 0 := by omega
      obtain ⟨j, hj⟩ : ∃ j, t - s = j + 1 := ⟨t - s - 1, by omega⟩
      cases v <;> simp [e, e', ht, hj, Nat.testBit_succ]
    · simp [e, e', ht, hst]

/-- wheel.may -/
theorem may_any (b : Nat) (s : Int) (w : World) : Calls Try.prog 42 #[.pointer (some ⟨b, 0, none⟩), .int .i64 s] w fun e w' => e = .returned (.bool (decide (0 ≤ s ∧ s < 64))) ∧ w = w' := by
  by_cases h0 : 0 ≤ s
  · by_cases h1 : s < 64
    · go_enter Try.func42, Try.ntmps42
      go_wp2
      go_ret
      exact ⟨ret_bool (by simp [h0, h1]), rfl⟩
    · go_enter Try.func42, Try.ntmps42
      go_wp2
      go_ret
      exact ⟨ret_bool (by simp [h1]), rfl⟩
  · go_enter Try.func42, Try.ntmps42
    go_wp2
    go_ret
    exact ⟨ret_bool (by simp; omega), rfl⟩

set_option maxRecDepth 100000 in
/-- wheel.mark: the mask says what the row has. -/
theorem mark_any {b : Nat} {L : Nat → List (Int × Nat)} {F : List Nat} (s : Nat) (w : World) (hs : s < 64) (h : WheelAt w b L (some s) F) :
    Calls Try.prog 41 #[.pointer (some ⟨b, 0, none⟩), .int .i64 s] w fun e w' => e = .returned (.tuple #[]) ∧ ∃ F', WheelAt w' b L none F' ∧ Step F F' w w' := by
  obtain ⟨cells, m, k, cap, x, A, h, rfl⟩ := h
  obtain ⟨kc, kt, hk1, hk2⟩ := h.hk
  have hbl := lt_of_heap h.hb
  have c1 : w.cell? ⟨b, s * 2, none⟩ = some (pv (headP (L s) none)) := by rw [cell_of_heap h.hb]; exact (h.rows s hs).1
  have c2 : w.cell? ⟨b, 129, none⟩ = some (.slice (some ⟨k, 0, none⟩) 1 cap) := by rw [cell_of_heap h.hb]; exact h.ck
  have hset : ∀ v : Bool, Calls Try.prog 54 #[.slice (some ⟨k, 0, none⟩) 1 cap, .int .i64 s, .int .i64 1, .int .u64 ((if v then 1 else 0 : Nat) : Int)] w fun e w' => ∃ v', e = .returned (.tuple #[v', .bool true]) ∧
      w'.ownsRow (w.heap.size + 1) 91 1 v' 1 [ekU (bput x (if v then 1 else 0) 1 s)] ∧ Below w.heap.size w w' := by
    intro v
    have hset := set_one k 0 1 cap [x] s 1 (if v then 1 else 0) w rfl (by omega) (fun i hi => by obtain rfl : i = 0 := by omega
                                                                                                 rw [cell_of_heap hk1]; exact hk2) (by intro y hy; simp at hy; subst hy; exact h.hx) (by omega) (by omega) (by omega) (by omega) (by split <;> omega)
    have e1 : s / 64 = 0 := by omega
    have e2 : s % 64 = s := by omega
    simpa [e1, e2] using hset
  -- what is there behind the store
  have fin : ∀ (v : Bool) (w1 : World) (v' : Value), (v = true ↔ L s ≠ []) → w1.ownsRow (w.heap.size + 1) 91 1 v' 1 [ekU (bput x (if v then 1 else 0) 1 s)] → Below w.heap.size w w1 →
      ∃ F', WheelAt (w1.setCell ⟨b, 129, none⟩ v') b L none F' ∧ Step (b :: m :: k :: A.map Prod.snd) F' w (w1.setCell ⟨b, 129, none⟩ v') := by
    intro v w1 v' hv hown hb
    obtain ⟨_, ⟨rfl, h0⟩ | ⟨g, cap', cur, rfl, hg, hh, _, _, _, htk⟩⟩ := hown
    · omega
    have hgb : g ≠ b := by omega
    have hF : ∀ y ∈ b :: m :: k :: A.map Prod.snd, y < w.heap.size := h.lt
    have hblk : ∀ y, y < w.heap.size → y ≠ b → (w1.setCell ⟨b, 129, none⟩ (.slice (some ⟨g, 0, none⟩) 1 cap')).heap[y]? = w.heap[y]? := fun y hy hne => (heap_setCell_other _ hne).trans (hb.block y hy)
    have hb1 : w1.heap[b]? = some (.cells cells 69 (0, 0)) := (hb.block b hbl).trans h.hb
    have nd := h.nd
    simp only [List.nodup_cons, List.mem_cons, not_or] at nd
    have hlt : bput x (if v then 1 else 0) 1 s < 18446744073709551616 := bput_lt (by omega)
    refine ⟨b :: m :: g :: A.map Prod.snd, ⟨_, m, g, cap', bput x (if v then 1 else 0) 1 s, A, ⟨heap_setCell_same hb1 _ _, by simp [h.size], ?_, h.out, ?_, ?_, ?_, ?_, hlt, ?_, h.mem, ?_, h.rnd⟩, rfl⟩, Step.of ?_ ?_⟩
    · intro t ht
      obtain ⟨r1, r2, r3⟩ := h.rows t ht
      refine ⟨by rw [Array.getElem?_setIfInBounds_ne (by omega)]; exact r1, by rw [Array.getElem?_setIfInBounds_ne (by omega)]; exact r2, dseg_congr r3 fun y hy => ?_⟩
      have hyA : y.2 ∈ A.map Prod.snd := List.mem_map.2 ⟨y, (h.mem y).2 ⟨t, hy⟩, rfl⟩
      exact hblk _ (hF _ (by simp only [List.mem_cons]; exact .inr (.inr (.inr hyA)))) (fun e => nd.1.2.2 (e ▸ hyA))
    · rw [Array.getElem?_setIfInBounds_ne (by omega)]; exact h.cm
    · simp [h.size]
    · exact h.hm.congr (hblk m (hF m (by simp)) (fun e => nd.1.1 e.symm))
    · refine ⟨cur, 91, ((heap_setCell_other _ hgb).trans hh), ?_⟩
      have := congrArg (·[0]?) htk
      simpa [List.getElem?_take] using this
    · intro t ht _
      rw [bput_bit x v s t ht hs]
      by_cases e : t = s
      · subst e; rw [if_pos rfl]; exact hv
      · rw [if_neg e]; exact h.mask t ht (by simpa using e)
    · simp only [List.nodup_cons, List.mem_cons, not_or]
      exact ⟨⟨nd.1.1, hgb.symm, nd.1.2.2⟩, ⟨fun e => by have := hF m (by simp); omega, nd.2.1.2⟩, fun hm => by have := hF g (by simp only [List.mem_cons]; exact .inr (.inr (.inr hm))); omega, nd.2.2.2⟩
    · exact ⟨hb.os, hb.tape, hb.output, by have := hb.size; simpa [World.setCell] using this, fun y hy hn => hblk y hy (fun e => hn (by simp [e]))⟩
    · intro y hy
      simp only [List.mem_cons] at hy ⊢
      rcases hy with h1 | h1 | h1 | h1
      · exact .inl (.inl h1)
      · exact .inl (.inr (.inl h1))
      · exact .inr (by omega)
      · exact .inl (.inr (.inr (.inr h1)))
  have FIN := hid fin; clear fin
  have SET := hid hset; clear hset
  have fb : ∀ w1 : World, Below w.heap.size w w1 → w1.frozen? ⟨b, 129, none⟩ = false ∧ ∃ v, w1.cell? ⟨b, 129, none⟩ = some v := fun w1 hb => by
    have hb1 : w1.heap[b]? = some (.cells cells 69 (0, 0)) := (hb.block b hbl).trans h.hb
    exact ⟨free_of_heap hb1 _, _, (cell_of_heap hb1 129).trans h.ck⟩
  have FB := hid fb; clear fb
  cases hLs : L s with
  | nil =>
    have HL := hid hLs; clear hLs
    rw [HL.out] at c1
    simp only [headP, pv_none] at c1
    clear hk1 hk2 h
    go_enter Try.func41, Try.ntmps41
    go_wp2_with fail
    refine (SET.out false).mono ?_
    rintro e w1 ⟨v', rfl, hown, hb⟩
    obtain ⟨f1, v1, f2⟩ := FB.out w1 hb
    have hex := hown
    obtain ⟨_, ⟨rfl, h0⟩ | ⟨g, cap', cur, rfl, -⟩⟩ := hex
    · omega
    have HF := hid (FIN.out false w1 _ (by simp [HL.out]) hown hb)
    clear hown hb
    go_wp2
    go_end0
    exact ⟨rfl, HF.out⟩
  | cons p r =>
    have HL := hid hLs; clear hLs
    rw [HL.out] at c1
    simp only [headP, pv_some] at c1
    clear hk1 hk2 h
    go_enter Try.func41, Try.ntmps41
    go_wp2_with fail
    refine (SET.out true).mono ?_
    rintro e w1 ⟨v', rfl, hown, hb⟩
    obtain ⟨f1, v1, f2⟩ := FB.out w1 hb
    have hex := hown
    obtain ⟨_, ⟨rfl, h0⟩ | ⟨g, cap', cur, rfl, -⟩⟩ := hex
    · omega
    have HF := hid (FIN.out true w1 _ (by simp [HL.out]) hown hb)
    clear hown hb
    go_wp2
    go_end0
    exact ⟨rfl, HF.out⟩
end Go.Proofs.Yteoecpggmchbkaa
