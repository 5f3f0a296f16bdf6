/- Words on memory: what has turned outside some blocks (Upd); a map's block as an association list (MapAt); the run of each operation on a map. Over any program. -/
import Derived.WalkKit
import Derived.BigQuiet
import Derived.Deep.QuietTactic
import Derived.MapKept
import Derived.Maps.OwnSet
import Derived.Maps.RangeWalk
namespace Go.Proofs.Yteoecpggmchbkaa
open Go.RowKit

theorem hid {p : Prop} (h : p) : Hid p := h

/-- Outside the blocks of F the heap of w' is that of w; nothing else has turned but the count of draws. -/
structure Upd (F : Nat → Prop) (w w' : World) : Prop where
  os : w'.os = w.os
  tape : w'.tape = w.tape
  output : w'.output = w.output
  size : w.heap.size ≤ w'.heap.size
  block : ∀ k, k < w.heap.size → ¬ F k → w'.heap[k]? = w.heap[k]?

theorem Upd.refl (F : Nat → Prop) (w : World) : Upd F w w := ⟨rfl, rfl, rfl, Nat.le_refl _, fun _ _ _ => rfl⟩

theorem Upd.trans {F G : Nat → Prop} {a b c : World} (h : Upd F a b) (k : Upd G b c) (hG : ∀ x, x < a.heap.size → G x → F x) : Upd F a c :=
  ⟨k.os.trans h.os, k.tape.trans h.tape, k.output.trans h.output, Nat.le_trans h.size k.size, fun x hx hF =>
    (k.block x (Nat.lt_of_lt_of_le hx h.size) (fun g => hF (hG x hx g))).trans (h.block x hx hF)⟩

theorem Upd.mono {F G : Nat → Prop} {a b : World} (h : Upd F a b) (hG : ∀ x, x < a.heap.size → F x → G x) : Upd G a b :=
  ⟨h.os, h.tape, h.output, h.size, fun x hx hF => h.block x hx (fun f => hF (hG x hx f))⟩

theorem Upd.drewN {F : Nat → Prop} {a w : World} (h : Upd F a w) (n : Nat) : Upd F a (w.drewN n) := ⟨h.os, h.tape, h.output, h.size, h.block⟩
theorem Upd.drew {F : Nat → Prop} {a w : World} (h : Upd F a w) : Upd F a w.drew := ⟨h.os, h.tape, h.output, h.size, h.block⟩

theorem Upd.alloc {F : Nat → Prop} {a w : World} (h : Upd F a w) (o : Obj) : Upd F a (w.alloc o) :=
  h.trans (G := fun _ => False) ⟨rfl, rfl, rfl, by simp, fun k hk _ => Below.heap_alloc _ _ _ hk⟩ (fun _ _ f => f.elim)

theorem Upd.setCell {F : Nat → Prop} {a w : World} (h : Upd F a w) {p : Addr} (hp : p.block < a.heap.size → F p.block) (u : Value) : Upd F a (w.setCell p u) :=
  h.trans (G := fun x => x = p.block) ⟨rfl, rfl, rfl, by simp [World.setCell], fun k _ hne => Below.heap_setCell _ _ _ _ hne⟩ (fun _ hx e => e ▸ hp (e ▸ hx))

theorem Upd.below {F : Nat → Prop} {a w : World} (h : Upd F a w) {B : Nat} (hB : B ≤ a.heap.size) (hF : ∀ x, x < B → ¬ F x) : Below B a w :=
  ⟨h.os, h.tape, h.output, h.size, fun k hk => h.block k (by omega) (hF k hk)⟩

theorem Upd.of_below {F : Nat → Prop} {a w : World} {B : Nat} (h : Below B a w) (hF : ∀ x, x < a.heap.size → B ≤ x → F x) : Upd F a w :=
  ⟨h.os, h.tape, h.output, h.size, fun k hk hn => h.block k (Nat.lt_of_not_le fun hle => hn (hF k hk hle))⟩

theorem Upd.cell {F : Nat → Prop} {w w' : World} (h : Upd F w w') {p : Addr} (hp : p.block < w.heap.size) (hF : ¬ F p.block) : w'.cell? p = w.cell? p := World.cell?_of_block (w := w) (h.block p.block hp hF)
theorem Upd.frozen {F : Nat → Prop} {w w' : World} (h : Upd F w w') {p : Addr} (hp : p.block < w.heap.size) (hF : ¬ F p.block) : w'.frozen? p = w.frozen? p := World.frozen?_of_block (w := w) (h.block p.block hp hF)

theorem lt_of_heap {w : World} {b : Nat} {o : Obj} (h : w.heap[b]? = some o) : b < w.heap.size := (Array.getElem?_eq_some_iff.1 h).1

theorem cell_of_heap {w : World} {b : Nat} {c : Array Value} {t : TypeId} {f : Nat × Nat} (h : w.heap[b]? = some (.cells c t f)) (i : Nat) : w.cell? ⟨b, i, none⟩ = c[i]? := by simp [World.cell?, h]
theorem free_of_heap {w : World} {b : Nat} {c : Array Value} {t : TypeId} (h : w.heap[b]? = some (.cells c t (0, 0))) (i : Nat) : w.frozen? ⟨b, i, none⟩ = false := by simp [World.frozen?, h]
theorem heap_setCell_same {w : World} {b : Nat} {c : Array Value} {t : TypeId} {f : Nat × Nat} (h : w.heap[b]? = some (.cells c t f)) (i : Nat) (u : Value) :
    (w.setCell ⟨b, i, none⟩ u).heap[b]? = some (.cells (c.setIfInBounds i u) t f) := by
  have hlt := lt_of_heap h
  have e : w.heap[b] = .cells c t f := (Array.getElem?_eq_some_iff.1 h).2
  simp only [World.setCell, Array.getElem?_modify, if_true, h]
  simp
theorem heap_setCell_other {w : World} {b k i : Nat} (u : Value) (h : k ≠ b) : (w.setCell ⟨b, i, none⟩ u).heap[k]? = w.heap[k]? := Below.heap_setCell _ _ _ _ h
theorem heap_alloc_new (w : World) (o : Obj) : (w.alloc o).heap[w.heap.size]? = some o := (MapKept.heap_alloc w o).1
theorem heap_alloc_old {w : World} {k : Nat} (o : Obj) (h : k < w.heap.size) : (w.alloc o).heap[k]? = w.heap[k]? := (MapKept.heap_alloc w o).2 k h

/-! ### association lists -/
section
variable {κ β : Type} [DecidableEq κ]
def aget : List (κ × β) → κ → Option β
  | [], _ => none
  | (a, b) :: r, k => if a = k then some b else aget r k
def aset : List (κ × β) → κ → β → List (κ × β)
  | [], k, v => [(k, v)]
  | (a, b) :: r, k, v => if a = k then (k, v) :: r else (a, b) :: aset r k v
def adel : List (κ × β) → κ → List (κ × β)
  | [], _ => []
  | (a, b) :: r, k => if a = k then r else (a, b) :: adel r k
def afind : List (κ × β) → κ → Option (Nat × β)
  | [], _ => none
  | (a, b) :: r, k => if a = k then some (0, b) else (afind r k).map fun p => (p.1 + 1, p.2)
def akeys (l : List (κ × β)) : List κ := l.map Prod.fst

theorem aget_afind (l : List (κ × β)) (k : κ) : aget l k = (afind l k).map (·.2) := by
  induction l with
  | nil => rfl
  | cons p r ih => obtain ⟨a, b⟩ := p; simp only [aget, afind]; split <;> simp [ih, Function.comp_def]
theorem aget_none {l : List (κ × β)} {k : κ} : aget l k = none ↔ k ∉ akeys l := by
  induction l with
  | nil => simp [aget, akeys]
  | cons p r ih =>
    obtain ⟨a, b⟩ := p
    simp only [aget, akeys, List.map_cons, List.mem_cons, not_or] at *
    by_cases h : a = k
    · simp [h]
    · simp [h, ih]; exact fun _ e => h e.symm
theorem aget_mem {l : List (κ × β)} {k : κ} {v : β} (h : aget l k = some v) : (k, v) ∈ l := by
  induction l with
  | nil => simp [aget] at h
  | cons p r ih =>
    obtain ⟨a, b⟩ := p
    simp only [aget] at h
    split at h
    · rename_i e; cases h; simp [e]
    · exact .tail _ (ih h)
theorem aget_of_mem {l : List (κ × β)} (hn : (akeys l).Nodup) {k : κ} {v : β} (h : (k, v) ∈ l) : aget l k = some v := by
  induction l with
  | nil => cases h
  | cons p r ih =>
    obtain ⟨a, b⟩ := p
    simp only [akeys, List.map_cons, List.nodup_cons] at hn
    simp only [aget]
    rcases List.mem_cons.1 h with e | h'
    · cases e; simp
    · rw [if_neg, ih hn.2 h']
      intro e
      exact hn.1 (e ▸ List.mem_map.2 ⟨_, h', rfl⟩)
theorem aget_isSome {l : List (κ × β)} {k : κ} (h : k ∈ akeys l) : ∃ v, aget l k = some v := by
  cases e : aget l k with
  | none => exact absurd h (aget_none.1 e)
  | some v => exact ⟨v, rfl⟩
theorem aget_aset (l : List (κ × β)) (k : κ) (v : β) (x : κ) : aget (aset l k v) x = if k = x then some v else aget l x := by
  induction l with
  | nil => simp [aget, aset]
  | cons p r ih =>
    obtain ⟨a, b⟩ := p
    simp only [aset]
    split
    · rename_i e; subst e; simp only [aget]; split <;> rfl
    · rename_i e
      simp only [aget, ih]
      by_cases h : a = x
      · subst h; simp [Ne.symm e]
      · simp [h]
theorem akeys_aset (l : List (κ × β)) (k : κ) (v : β) : akeys (aset l k v) = if k ∈ akeys l then akeys l else akeys l ++ [k] := by
  induction l with
  | nil => simp [akeys, aset]
  | cons p r ih =>
    obtain ⟨a, b⟩ := p
    simp only [aset, akeys, List.map_cons, List.mem_cons] at *
    by_cases h : a = k
    · simp [h]
    · simp only [h, if_false, List.map_cons, ih, Ne.symm h, false_or]
      by_cases hm : k ∈ List.map Prod.fst r
      · simp [hm]
      · simp [hm]
theorem mem_akeys_aset {l : List (κ × β)} {k x : κ} {v : β} : x ∈ akeys (aset l k v) ↔ x = k ∨ x ∈ akeys l := by
  rw [akeys_aset]; split
  · rename_i h; constructor
    · exact .inr
    · rintro (rfl | h') <;> assumption
  · simp [or_comm]
theorem nodup_aset {l : List (κ × β)} (h : (akeys l).Nodup) (k : κ) (v : β) : (akeys (aset l k v)).Nodup := by
  rw [akeys_aset]; split
  · exact h
  · rename_i hk; exact List.nodup_append.2 ⟨h, by simp, fun a ha b hb e => by simp at hb; exact hk (hb ▸ e ▸ ha)⟩
theorem length_aset (l : List (κ × β)) (k : κ) (v : β) : (aset l k v).length = if k ∈ akeys l then l.length else l.length + 1 := by
  have := congrArg List.length (akeys_aset l k v)
  by_cases hm : k ∈ akeys l
  · rw [if_pos hm] at this ⊢; simpa [akeys] using this
  · rw [if_neg hm] at this ⊢; simpa [akeys] using this
theorem adel_sublist (l : List (κ × β)) (k : κ) : (adel l k).Sublist l := by
  induction l with
  | nil => exact .slnil
  | cons p r ih =>
    obtain ⟨a, b⟩ := p
    simp only [adel]; split
    · exact .cons _ (List.Sublist.refl _)
    · exact ih.cons_cons _
theorem nodup_adel {l : List (κ × β)} (h : (akeys l).Nodup) (k : κ) : (akeys (adel l k)).Nodup := ((adel_sublist l k).map _).nodup h
theorem adel_not_mem {l : List (κ × β)} (h : (akeys l).Nodup) (k : κ) : k ∉ akeys (adel l k) := by
  induction l with
  | nil => simp [adel, akeys]
  | cons p r ih =>
    obtain ⟨a, b⟩ := p
    simp only [akeys, List.map_cons, List.nodup_cons] at h
    simp only [adel]; split
    · rename_i e; exact e ▸ h.1
    · rename_i e
      simp only [akeys, List.map_cons, List.mem_cons, not_or]
      exact ⟨Ne.symm e, ih h.2⟩
theorem aget_adel {l : List (κ × β)} (h : (akeys l).Nodup) (k x : κ) : aget (adel l k) x = if k = x then none else aget l x := by
  by_cases hx : k = x
  · subst hx; rw [if_pos rfl]; exact aget_none.2 (adel_not_mem h k)
  · rw [if_neg hx]
    induction l with
    | nil => rfl
    | cons p r ih =>
      obtain ⟨a, b⟩ := p
      simp only [akeys, List.map_cons, List.nodup_cons] at h
      simp only [adel]; split
      · rename_i e; subst e; simp [aget, hx]
      · simp only [aget, ih h.2]
theorem adel_of_not_mem {l : List (κ × β)} {k : κ} (h : k ∉ akeys l) : adel l k = l := by
  induction l with
  | nil => rfl
  | cons p r ih =>
    obtain ⟨a, b⟩ := p
    simp only [akeys, List.map_cons, List.mem_cons, not_or] at h
    simp only [adel, if_neg (Ne.symm h.1)]
    rw [ih h.2]
theorem length_adel (l : List (κ × β)) (k : κ) : (adel l k).length = if k ∈ akeys l then l.length - 1 else l.length := by
  induction l with
  | nil => simp [adel, akeys]
  | cons p r ih =>
    obtain ⟨a, b⟩ := p
    simp only [adel, akeys, List.map_cons, List.mem_cons] at *
    by_cases h : a = k
    · simp [h]
    · simp only [h, if_false, List.length_cons, ih, Ne.symm h, false_or]
      by_cases hm : k ∈ List.map Prod.fst r
      · have : r ≠ [] := fun e => by simp [e] at hm
        have := List.length_pos_iff.2 this
        simp [hm]; omega
      · simp [hm]
theorem mem_adel {l : List (κ × β)} (h : (akeys l).Nodup) {k x : κ} {v : β} : (x, v) ∈ adel l k ↔ x ≠ k ∧ (x, v) ∈ l := by
  constructor
  · intro hm
    refine ⟨fun e => ?_, (adel_sublist l k).subset hm⟩
    subst e; exact adel_not_mem h x (List.mem_map.2 ⟨_, hm, rfl⟩)
  · rintro ⟨hne, hm⟩
    exact aget_mem (by rw [aget_adel h, if_neg (Ne.symm hne)]; exact aget_of_mem h hm)
theorem mem_akeys_adel {l : List (κ × β)} (h : (akeys l).Nodup) {k x : κ} : x ∈ akeys (adel l k) ↔ x ≠ k ∧ x ∈ akeys l := by
  simp only [akeys, List.mem_map, Prod.exists, exists_and_right, exists_eq_right]
  constructor
  · rintro ⟨v, hv⟩; obtain ⟨h1, h2⟩ := (mem_adel h).1 hv; exact ⟨h1, v, h2⟩
  · rintro ⟨h1, v, hv⟩; exact ⟨v, (mem_adel h).2 ⟨h1, hv⟩⟩
theorem mem_aset {l : List (κ × β)} (h : (akeys l).Nodup) {k x : κ} {v u : β} : (x, u) ∈ aset l k v ↔ (x = k ∧ u = v) ∨ (x ≠ k ∧ (x, u) ∈ l) := by
  constructor
  · intro hm
    have := aget_of_mem (nodup_aset h k v) hm
    rw [aget_aset] at this
    split at this
    · rename_i e; cases this; exact .inl ⟨e.symm, rfl⟩
    · rename_i e; exact .inr ⟨Ne.symm e, aget_mem this⟩
  · rintro (⟨rfl, rfl⟩ | ⟨hne, hm⟩)
    · exact aget_mem (by rw [aget_aset, if_pos rfl])
    · exact aget_mem (by rw [aget_aset, if_neg (Ne.symm hne)]; exact aget_of_mem h hm)
end

/-! ### a map's block -/
section
variable {κ β : Type}
/-- Entries es hold the association list l. -/
def Corr (ek : κ → Value) (ev : β → Value) (es : List MapEntry) (l : List (κ × β)) : Prop := es.map (fun e => (e.key, e.val)) = l.map (fun p => (ek p.1, ev p.2))
/-- How keys of type K are looked for. -/
structure KeyOk [DecidableEq κ] (P : Program) (K : TypeId) (ek : κ → Value) : Prop where
  check : ∀ (b : Bool) (k : κ) (w : World), (Instr.checkKey b 10000 K (ek k)).run P w = .ok () w
  find : ∀ {β : Type} (ev : β → Value) (k : κ) (l : List (κ × β)) (es : List MapEntry) (w : World), Corr ek ev es l → (Instr.findKey K (ek k) es).run P w = .ok ((afind l k).map fun p => (p.1, ev p.2)) w
  bits : ∀ k : κ, Instr.sameBits 10000 (ek k) (ek k) = true

/-- BLOCK b OF w IS A MAP THAT HOLDS l. -/
def MapAt (ek : κ → Value) (ev : β → Value) (w : World) (b : Nat) (l : List (κ × β)) : Prop :=
  ∃ es clock, w.heap[b]? = some (.map es clock) ∧ Corr ek ev es.toList l ∧ (akeys l).Nodup ∧ (es.toList.map MapEntry.born).Nodup ∧ ∀ e ∈ es.toList, e.born < clock

theorem MapAt.nodup {ek : κ → Value} {ev : β → Value} {w : World} {b : Nat} {l : List (κ × β)} (h : MapAt ek ev w b l) : (akeys l).Nodup := by
  obtain ⟨_, _, _, _, h, _⟩ := h; exact h
theorem MapAt.lt {ek : κ → Value} {ev : β → Value} {w : World} {b : Nat} {l : List (κ × β)} (h : MapAt ek ev w b l) : b < w.heap.size := by
  obtain ⟨_, _, h, _⟩ := h; exact lt_of_heap h
theorem MapAt.congr {ek : κ → Value} {ev : β → Value} {w w' : World} {b : Nat} {l : List (κ × β)} (h : MapAt ek ev w b l) (he : w'.heap[b]? = w.heap[b]?) : MapAt ek ev w' b l := by
  obtain ⟨es, c, h, r⟩ := h; exact ⟨es, c, he.trans h, r⟩
theorem MapAt.upd {F : Nat → Prop} {ek : κ → Value} {ev : β → Value} {w w' : World} {b : Nat} {l : List (κ × β)} (h : MapAt ek ev w b l) (hu : Upd F w w') (hF : ¬ F b) : MapAt ek ev w' b l := h.congr (hu.block b h.lt hF)
theorem MapAt.fresh (ek : κ → Value) (ev : β → Value) (w : World) : MapAt ek ev (w.alloc (.map #[] 0)) w.heap.size [] :=
  ⟨#[], 0, heap_alloc_new _ _, rfl, by simp [akeys], by simp, by simp⟩

theorem Corr.length {ek : κ → Value} {ev : β → Value} {es : List MapEntry} {l : List (κ × β)} (h : Corr ek ev es l) : es.length = l.length := by
  have := congrArg List.length h; simpa using this

variable [DecidableEq κ]
theorem afind_lt {l : List (κ × β)} {k : κ} {i : Nat} {v : β} (h : afind l k = some (i, v)) : i < l.length := by
  induction l generalizing i with
  | nil => simp [afind] at h
  | cons p r ih =>
    obtain ⟨a, b⟩ := p
    simp only [afind] at h
    split at h
    · cases h; simp
    · cases hr : afind r k with
      | none => simp [hr] at h
      | some q => obtain ⟨j, u⟩ := q; simp [hr] at h; obtain ⟨rfl, rfl⟩ := h; have := ih hr; simp; omega

theorem corr_set {ek : κ → Value} {ev : β → Value} {es : List MapEntry} {l : List (κ × β)} (h : Corr ek ev es l) {k : κ} {i : Nat} {u : β} (hf : afind l k = some (i, u)) (v : β) :
    Corr ek ev (es.modify i (fun e => { e with key := ek k, val := ev v })) (aset l k v) := by
  induction l generalizing es i with
  | nil => simp [afind] at hf
  | cons p r ih =>
    obtain ⟨a, b⟩ := p
    cases es with
    | nil => simp [Corr] at h
    | cons e es =>
      simp only [Corr, List.map_cons, List.cons.injEq] at h
      simp only [afind] at hf
      split at hf
      · rename_i e1; cases hf; simp [Corr, aset, e1, h.2]
      · rename_i e1
        cases hr : afind r k with
        | none => simp [hr] at hf
        | some q =>
          obtain ⟨j, x⟩ := q
          simp [hr] at hf
          obtain ⟨rfl, rfl⟩ := hf
          have := ih (es := es) h.2 hr
          simp only [Corr] at this
          simp [Corr, aset, e1, List.modify_succ_cons, this, h.1]

theorem corr_del {ek : κ → Value} {ev : β → Value} {es : List MapEntry} {l : List (κ × β)} (h : Corr ek ev es l) {k : κ} {i : Nat} {u : β} (hf : afind l k = some (i, u)) :
    Corr ek ev (es.eraseIdx i) (adel l k) := by
  induction l generalizing es i with
  | nil => simp [afind] at hf
  | cons p r ih =>
    obtain ⟨a, b⟩ := p
    cases es with
    | nil => simp [Corr] at h
    | cons e es =>
      simp only [Corr, List.map_cons, List.cons.injEq] at h
      simp only [afind] at hf
      split at hf
      · rename_i e1; cases hf; simp [Corr, adel, e1, h.2]
      · rename_i e1
        cases hr : afind r k with
        | none => simp [hr] at hf
        | some q =>
          obtain ⟨j, x⟩ := q
          simp [hr] at hf
          obtain ⟨rfl, rfl⟩ := hf
          have := ih (es := es) h.2 hr
          simp only [Corr] at this
          simp [Corr, adel, e1, this, h.1]

theorem aset_new {l : List (κ × β)} {k : κ} (h : afind l k = none) (v : β) : aset l k v = l ++ [(k, v)] := by
  induction l with
  | nil => rfl
  | cons p r ih =>
    obtain ⟨a, b⟩ := p
    simp only [afind] at h
    split at h
    · cases h
    · rename_i e; simp [aset, e, ih (by simpa using h)]
theorem adel_none {l : List (κ × β)} {k : κ} (h : afind l k = none) : adel l k = l := by
  induction l with
  | nil => rfl
  | cons p r ih =>
    obtain ⟨a, b⟩ := p
    simp only [afind] at h
    split at h
    · cases h
    · rename_i e; simp [adel, e, ih (by simpa using h)]

variable {P : Program} {K T : TypeId} {E : TypeId} {ek : κ → Value} {ev : β → Value} {w : World} {b : Nat} {l : List (κ × β)}

theorem run_lookup_ok (h : MapAt ek ev w b l) (hK : KeyOk P K ek) (ht : P.underlying T = some (.map K E)) {z : Value} (hz : ∀ w, (zeroValue E).run P w = .ok z w) (k : κ) :
    (Instr.lookup T (.map (some b)) (ek k) true).run P w = .ok (.tuple #[(aget l k).elim z ev, .bool (aget l k).isSome]) w := by
  obtain ⟨es, c, hb, hc, _⟩ := h
  rw [aget_afind]
  cases hf : afind l k <;>
    simp [Instr.lookup, MapKept.run_getObj_map hb, run_underlying ht, hK.check, hK.find ev k l _ _ hc, hf, hz, Result.andThen]
theorem run_lookup (h : MapAt ek ev w b l) (hK : KeyOk P K ek) (ht : P.underlying T = some (.map K E)) {z : Value} (hz : ∀ w, (zeroValue E).run P w = .ok z w) (k : κ) :
    (Instr.lookup T (.map (some b)) (ek k) false).run P w = .ok ((aget l k).elim z ev) w := by
  obtain ⟨es, c, hb, hc, _⟩ := h
  rw [aget_afind]
  cases hf : afind l k <;>
    simp [Instr.lookup, MapKept.run_getObj_map hb, run_underlying ht, hK.check, hK.find ev k l _ _ hc, hf, hz, Result.andThen]
omit [DecidableEq κ] in
theorem run_len (h : MapAt ek ev w b l) (ht : P.underlying T = some (.map K E)) (t : TypeId) :
    (Builtin.len_ #[T] t #[.map (some b)]).run P w = .ok (.int .i64 l.length) w := by
  obtain ⟨es, c, hb, hc, _⟩ := h
  have := hc.length
  simp at this
  simp [Builtin.len_, MapKept.run_getObj_map hb, run_underlying ht, Result.andThen, goInt, this]

theorem born_modify (k v : Value) : ∀ (L : List MapEntry) (i : Nat), (L.modify i (fun e => { e with key := k, val := v })).map MapEntry.born = L.map MapEntry.born
  | [], i => by simp
  | e :: L, 0 => by simp
  | e :: L, i + 1 => by simp [List.modify_succ_cons, born_modify k v L i]

theorem upd_putObj {w : World} {b : Nat} {o : Obj} : Upd (· = b) w { w with heap := w.heap.setIfInBounds b o } :=
  ⟨rfl, rfl, rfl, by simp, fun k _ hne => by simp [Ne.symm hne]⟩

theorem run_update (h : MapAt ek ev w b l) (hK : KeyOk P K ek) (ht : P.underlying T = some (.map K E)) (k : κ) (v : β) :
    ∃ w', (Instr.mapUpdate T (.map (some b)) (ek k) (ev v)).run P w = .ok () w' ∧ MapAt ek ev w' b (aset l k v) ∧ Upd (· = b) w w' ∧ w'.heap.size = w.heap.size := by
  obtain ⟨es, c, hb, hc, hn, hs, hlt⟩ := h
  have hset := fun o => (MapKept.heap_set (o' := o) hb).1
  cases hf : afind l k with
  | none =>
    refine ⟨{ w with heap := w.heap.setIfInBounds b (.map (es.push { key := ek k, val := ev v, born := c }) (c + 1)) }, ?_, ⟨_, _, hset _, ?_, nodup_aset hn k v, ?_, ?_⟩, upd_putObj, by simp⟩
    · simp [Instr.mapUpdate, MapKept.run_getObj_map hb, run_underlying ht, hK.check, hK.find ev k l _ _ hc, hf, MapKept.run_setObj_map _ hb, Result.andThen]
    · rw [aset_new hf]; unfold Corr at hc ⊢; simp [hc]
    · simp only [Array.toList_push, List.map_append, List.map_cons, List.map_nil]
      refine List.nodup_append.2 ⟨hs, by simp, fun a ha x hx e => ?_⟩
      obtain ⟨y, hy, rfl⟩ := List.mem_map.1 ha
      have := hlt y hy
      simp at hx; omega
    · intro e he
      simp only [Array.toList_push, List.mem_append, List.mem_singleton] at he
      rcases he with he | rfl
      · have := hlt e he; omega
      · simp
  | some q =>
    obtain ⟨i, u⟩ := q
    have hi : i < es.size := by have := afind_lt hf; have := hc.length; simp at this; omega
    have hkey : es[i].key = ek k := by
      clear hset hb hn hs hlt
      have : ∀ (l : List (κ × β)) (es : List MapEntry) (i : Nat) (hi : i < es.length), Corr ek ev es l → afind l k = some (i, u) → es[i].key = ek k := by
        intro l
        induction l with
        | nil => intro es i hi _ h; simp [afind] at h
        | cons p r ih =>
          intro es i hi hc h
          obtain ⟨a, x⟩ := p
          cases es with
          | nil => simp at hi
          | cons e es =>
            simp only [Corr, List.map_cons, List.cons.injEq, Prod.mk.injEq] at hc
            simp only [afind] at h
            split at h
            · rename_i e1; cases h; subst e1; exact hc.1.1
            · cases hr : afind r k with
              | none => simp [hr] at h
              | some q => obtain ⟨j, y⟩ := q; simp [hr] at h; obtain ⟨rfl, rfl⟩ := h; exact ih es j (by simpa using hi) hc.2 hr
      have h2 := this l es.toList i (by simpa using hi) hc hf
      simpa using h2
    refine ⟨{ w with heap := w.heap.setIfInBounds b (.map (es.modify i fun e => { e with key := ek k, val := ev v }) c) }, ?_, ⟨_, _, hset _, ?_, nodup_aset hn k v, ?_, ?_⟩, upd_putObj, by simp⟩
    · simp [Instr.mapUpdate, MapKept.run_getObj_map hb, run_underlying ht, hK.check, hK.find ev k l _ _ hc, hf, hi, hkey, Instr.keyThatStays, hK.bits, MapKept.run_setObj_map _ hb, Result.andThen]
    · rw [Array.toList_modify]; exact corr_set hc hf v
    · rw [Array.toList_modify, born_modify]; exact hs
    · intro e he
      rw [Array.toList_modify] at he
      have : e.born ∈ (es.toList.modify i (fun e => { e with key := ek k, val := ev v })).map MapEntry.born := List.mem_map.2 ⟨e, he, rfl⟩
      rw [born_modify] at this
      obtain ⟨y, hy, e2⟩ := List.mem_map.1 this
      rw [← e2]; exact hlt y hy

theorem run_delete (h : MapAt ek ev w b l) (hK : KeyOk P K ek) (ht : P.underlying T = some (.map K E)) (k : κ) (t x : TypeId) :
    ∃ w', (Builtin.delete_ #[T, x] t #[.map (some b), ek k]).run P w = .ok (.tuple #[]) w' ∧ MapAt ek ev w' b (adel l k) ∧ Upd (· = b) w w' ∧ w'.heap.size = w.heap.size := by
  obtain ⟨es, c, hb, hc, hn, hs, hlt⟩ := h
  have hset := fun o => (MapKept.heap_set (o' := o) hb).1
  cases hf : afind l k with
  | none =>
    refine ⟨{ w with heap := w.heap.setIfInBounds b (.map es c) }, ?_, ⟨_, _, hset _, by rw [adel_none hf]; exact hc, nodup_adel hn k, hs, hlt⟩, upd_putObj, by simp⟩
    simp [Builtin.delete_, MapKept.run_getObj_map hb, run_underlying ht, hK.check, hK.find ev k l _ _ hc, hf, MapKept.run_setObj_map _ hb, Result.andThen]
  | some q =>
    obtain ⟨i, u⟩ := q
    have hi : i < es.size := by have := afind_lt hf; have := hc.length; simp at this; omega
    refine ⟨{ w with heap := w.heap.setIfInBounds b (.map (es.eraseIdxIfInBounds i) c) }, ?_, ⟨_, _, hset _, ?_, nodup_adel hn k, ?_, ?_⟩, upd_putObj, by simp⟩
    · simp [Builtin.delete_, MapKept.run_getObj_map hb, run_underlying ht, hK.check, hK.find ev k l _ _ hc, hf, MapKept.run_setObj_map _ hb, Result.andThen]
    · simp only [Array.eraseIdxIfInBounds, hi, dite_true, Array.toList_eraseIdx]; exact corr_del hc hf
    · simp only [Array.eraseIdxIfInBounds, hi, dite_true, Array.toList_eraseIdx]
      exact (((List.eraseIdx_sublist _ _).map _).nodup hs)
    · intro e he
      simp only [Array.eraseIdxIfInBounds, hi, dite_true, Array.toList_eraseIdx] at he
      exact hlt e ((List.eraseIdx_sublist _ _).subset he)
end

/-! ### going through a map that does not turn -/
section
variable {κ β : Type}
/-- Block r goes through the map in block b, which holds l: V have come, R are still to come. -/
def RangeAt (ek : κ → Value) (ev : β → Value) (w : World) (r b : Nat) (l V R : List (κ × β)) : Prop :=
  ∃ es clock seen vis rest, w.heap[b]? = some (.map es clock) ∧ Corr ek ev es.toList l ∧ (akeys l).Nodup ∧ (es.toList.map MapEntry.born).Nodup ∧ (∀ e ∈ es.toList, e.born < clock) ∧
    w.heap[r]? = some (.mapIter (some b) clock seen clock) ∧ (vis ++ rest).Perm es.toList ∧ seen.toList = vis.map MapEntry.born ∧ Corr ek ev vis V ∧ Corr ek ev rest R ∧ (V ++ R).Perm l

theorem RangeAt.map {ek : κ → Value} {ev : β → Value} {w : World} {r b : Nat} {l V R : List (κ × β)} (h : RangeAt ek ev w r b l V R) : MapAt ek ev w b l := by
  obtain ⟨es, c, _, _, _, h1, h2, h3, h4, h5, _⟩ := h; exact ⟨es, c, h1, h2, h3, h4, h5⟩
theorem RangeAt.perm {ek : κ → Value} {ev : β → Value} {w : World} {r b : Nat} {l V R : List (κ × β)} (h : RangeAt ek ev w r b l V R) : (V ++ R).Perm l := by
  obtain ⟨_, _, _, _, _, _, _, _, _, _, _, _, _, _, _, h⟩ := h; exact h
theorem RangeAt.lt {ek : κ → Value} {ev : β → Value} {w : World} {r b : Nat} {l V R : List (κ × β)} (h : RangeAt ek ev w r b l V R) : r < w.heap.size := by
  obtain ⟨_, _, _, _, _, _, _, _, _, _, h, _⟩ := h; exact lt_of_heap h
theorem RangeAt.congr {ek : κ → Value} {ev : β → Value} {w w' : World} {r b : Nat} {l V R : List (κ × β)} (h : RangeAt ek ev w r b l V R) (hb : w'.heap[b]? = w.heap[b]?) (hr : w'.heap[r]? = w.heap[r]?) : RangeAt ek ev w' r b l V R := by
  obtain ⟨es, c, seen, vis, rest, h1, h2, h3, h4, h5, h6, h7⟩ := h
  exact ⟨es, c, seen, vis, rest, hb.trans h1, h2, h3, h4, h5, hr.trans h6, h7⟩
theorem RangeAt.upd {F : Nat → Prop} {ek : κ → Value} {ev : β → Value} {w w' : World} {r b : Nat} {l V R : List (κ × β)} (h : RangeAt ek ev w r b l V R) (hu : Upd F w w') (hb : ¬ F b) (hr : ¬ F r) : RangeAt ek ev w' r b l V R :=
  h.congr (hu.block b h.map.lt hb) (hu.block r h.lt hr)

theorem run_range {P : Program} {K T E : TypeId} {ek : κ → Value} {ev : β → Value} {w : World} {b : Nat} {l : List (κ × β)} (h : MapAt ek ev w b l) (ht : P.underlying T = some (.map K E)) :
    ∃ o, (Instr.range T (.map (some b))).run P w = .ok (.pointer (some ⟨w.heap.size, 0, none⟩)) (w.alloc o) ∧ RangeAt ek ev (w.alloc o) w.heap.size b l [] l := by
  obtain ⟨es, c, hb, hc, hn, hs, hlt⟩ := h
  refine ⟨.mapIter (some b) c #[] c, ?_, es, c, #[], [], es.toList, (heap_alloc_old _ (lt_of_heap hb)).trans hb, hc, hn, hs, hlt, heap_alloc_new _ _, by simp, by simp, rfl, hc, by simp⟩
  simp [Instr.range, run_underlying ht, MapKept.run_getObj_map hb, Result.andThen]

theorem Corr.split {ek : κ → Value} {ev : β → Value} : ∀ {r1 : List MapEntry} {e : MapEntry} {r2 : List MapEntry} {R : List (κ × β)}, Corr ek ev (r1 ++ e :: r2) R →
    ∃ R1 k v R2, R = R1 ++ (k, v) :: R2 ∧ Corr ek ev r1 R1 ∧ e.key = ek k ∧ e.val = ev v ∧ Corr ek ev r2 R2
  | [], e, r2, R, h => by
    cases R with
    | nil => simp [Corr] at h
    | cons p R =>
      simp only [Corr, List.nil_append, List.map_cons, List.cons.injEq, Prod.mk.injEq] at h
      exact ⟨[], p.1, p.2, R, rfl, rfl, h.1.1, h.1.2, h.2⟩
  | x :: r1, e, r2, R, h => by
    cases R with
    | nil => simp [Corr] at h
    | cons p R =>
      simp only [Corr, List.cons_append, List.map_cons, List.cons.injEq] at h
      obtain ⟨R1, k, v, R2, rfl, h1, h2, h3, h4⟩ := Corr.split (r1 := r1) h.2
      exact ⟨p :: R1, k, v, R2, rfl, by unfold Corr at h1 ⊢; simp [h1, h.1], h2, h3, h4⟩
theorem Corr.append {ek : κ → Value} {ev : β → Value} {a b : List MapEntry} {A B : List (κ × β)} (h : Corr ek ev a A) (k : Corr ek ev b B) : Corr ek ev (a ++ b) (A ++ B) := by
  unfold Corr at *; simp [h, k]

theorem run_next_gen {P : Program} {ek : κ → Value} {ev : β → Value} {w : World} {r b : Nat} {l V R : List (κ × β)} (h : RangeAt ek ev w r b l V R) (t : TypeId) :
    (R = [] ∧ (Instr.next (.pointer (some ⟨r, 0, none⟩)) false t).run P w = .ok (.tuple #[.bool false]) w) ∨
    ∃ R1 k v R2 w', R = R1 ++ (k, v) :: R2 ∧ (Instr.next (.pointer (some ⟨r, 0, none⟩)) false t).run P w = .ok (.tuple #[.bool true, ek k, ev v]) w' ∧
      RangeAt ek ev w' r b l (V ++ [(k, v)]) (R1 ++ R2) ∧ Upd (· = r) w w' ∧ w'.heap.size = w.heap.size ∧ (Instr.entry (.pointer (some ⟨r, 0, none⟩))).run P w' = .ok (.tuple #[ek k, ev v]) w' := by
  obtain ⟨es, c, seen, vis, rest, hb, hc, hn, hs, hlt, hr, hp, hseen, hV, hR, hperm⟩ := h
  have hne : r ≠ b := fun e => by rw [e, hb] at hr; cases hr
  have hborn : (vis ++ rest).Perm es.toList → ((vis ++ rest).map MapEntry.born).Nodup := fun q => (q.map MapEntry.born).nodup_iff.2 hs
  have hnd := hborn hp
  -- what is left: those of the entries that are not seen
  have hleft : ∀ e, e ∈ (es.filter fun e => !seen.contains e.born).toList ↔ e ∈ rest := by
    intro e
    simp only [Array.toList_filter, List.mem_filter, Bool.not_eq_true', Array.contains_eq_mem, decide_eq_false_iff_not]
    have hm : e.born ∈ seen ↔ e.born ∈ vis.map MapEntry.born := by rw [← hseen]; exact Array.mem_def
    rw [hm]
    have hmem : e ∈ es.toList ↔ e ∈ vis ∨ e ∈ rest := by rw [← hp.mem_iff]; exact List.mem_append
    rw [hmem]
    rw [List.map_append] at hnd
    have hdis := (List.nodup_append.1 hnd).2.2
    constructor
    · rintro ⟨h1 | h1, h2⟩
      · exact absurd (List.mem_map.2 ⟨e, h1, rfl⟩) h2
      · exact h1
    · intro h1
      exact ⟨.inr h1, fun h2 => hdis _ h2 _ (List.mem_map.2 ⟨e, h1, rfl⟩) rfl⟩
  have hold : (es.filter fun e => !seen.contains e.born).filter (fun e => decide (e.born < c)) = es.filter fun e => !seen.contains e.born := by
    apply Array.filter_eq_self.2
    intro e he
    have := (hleft e).1 (Array.mem_def.1 he)
    exact decide_eq_true (hlt e (hp.mem_iff.1 (List.mem_append.2 (.inr this))))
  have hnew : (es.filter fun e => !seen.contains e.born).filter (fun e => decide (e.born ≥ c)) = #[] := by
    apply Array.filter_eq_empty_iff.2
    intro e he
    have := (hleft e).1 (Array.mem_def.1 he)
    have := hlt e (hp.mem_iff.1 (List.mem_append.2 (.inr this)))
    simp; omega
  have hall : (!seen.isEmpty && !es.isEmpty && es.all (fun e => decide (e.born ≥ c))) = false := by
    by_cases he : es.isEmpty = true
    · simp [he]
    · have h0 : 0 < es.size := by
        rcases Nat.eq_zero_or_pos es.size with h | h
        · exact absurd (by simpa using h) he
        · exact h
      have : es.all (fun e => decide (e.born ≥ c)) = false := by
        rw [Array.all_eq_false]
        refine ⟨0, h0, ?_⟩
        have := hlt es[0] (by simp)
        simp; omega
      simp [this]
  cases hrest : rest with
  | nil =>
    left
    have hempty : (es.filter fun e => !seen.contains e.born) = #[] := by
      apply Array.toList_inj.1
      apply List.eq_nil_iff_forall_not_mem.2
      intro e he
      have := (hleft e).1 he
      rw [hrest] at this; cases this
    refine ⟨by rw [hrest] at hR; have := hR.length; simpa using this.symm, ?_⟩
    simp only [Instr.next, Sem.run_bind, getObj, Sem.run, hr, Result.andThen, hb, hall, Bool.false_eq_true, if_false, hempty]
    simp [choose, Sem.run, Question.forced]
  | cons e0 rest0 =>
    right
    have hpos : 0 < (es.filter fun e => !seen.contains e.born).size := by
      have : e0 ∈ (es.filter fun e => !seen.contains e.born).toList := (hleft e0).2 (by rw [hrest]; exact .head _)
      have := List.length_pos_of_mem this
      simpa using this
    generalize hL : (es.filter fun e => !seen.contains e.born) = L at *
    have hisE : L.isEmpty = false := by
      cases hh : L.isEmpty with
      | false => rfl
      | true => rw [Array.isEmpty_iff_size_eq_zero] at hh; omega
    -- whichever is taken
    have htake : ∀ (i : Nat) (hi : i < L.size) (W : World), W.heap = w.heap → W.os = w.os → W.tape = w.tape → W.output = w.output →
        ∃ R1 k v R2 w', R = R1 ++ (k, v) :: R2 ∧ L[i].key = ek k ∧ L[i].val = ev v ∧ (setObj r (.mapIter (some b) c (seen.push L[i].born) c)).run P W = .ok () w' ∧
          RangeAt ek ev w' r b l (V ++ [(k, v)]) (R1 ++ R2) ∧ Upd (· = r) w w' ∧ w'.heap.size = w.heap.size ∧ (Instr.entry (.pointer (some ⟨r, 0, none⟩))).run P w' = .ok (.tuple #[ek k, ev v]) w' := by
      intro i hi W hW1 hW2 hW3 hW4
      have hin : L[i] ∈ rest := (hleft _).1 (by simp)
      obtain ⟨r1, r2, hsplit⟩ := List.append_of_mem hin
      rw [hsplit] at hR
      obtain ⟨R1, k, v, R2, rfl, c1, c2, c3, c4⟩ := hR.split
      have hrW : W.heap[r]? = some (.mapIter (some b) c seen c) := by rw [hW1]; exact hr
      have hlt' : r < W.heap.size := lt_of_heap hrW
      have hmemL : L[i] ∈ es.toList := hp.mem_iff.1 (List.mem_append.2 (.inr hin))
      refine ⟨R1, k, v, R2, { W with heap := W.heap.setIfInBounds r (.mapIter (some b) c (seen.push L[i].born) c) }, rfl, c2, c3, by simp [setObj, Sem.run, hrW], ?_, ?_, by simp [hW1], ?_⟩
      · refine ⟨es, c, seen.push L[i].born, vis ++ [L[i]], r1 ++ r2, ?_, hc, hn, hs, hlt, ?_, ?_, by simp [hseen], hV.append (by simp [Corr, c2, c3]), c1.append c4, ?_⟩
        · show (W.heap.setIfInBounds r _)[b]? = _
          rw [Array.getElem?_setIfInBounds_ne hne, hW1]; exact hb
        · show (W.heap.setIfInBounds r _)[r]? = _
          simp [hlt']
        · refine List.Perm.trans ?_ hp
          rw [hsplit]
          simp only [List.append_assoc, List.singleton_append]
          exact List.Perm.append_left vis (List.perm_middle.symm)
        · refine List.Perm.trans ?_ hperm
          simp only [List.append_assoc, List.singleton_append]
          exact List.Perm.append_left V (List.perm_middle.symm)
      · exact ⟨hW2, hW3, hW4, by simp [hW1], fun k _ hne => by show (W.heap.setIfInBounds r _)[k]? = _; rw [Array.getElem?_setIfInBounds_ne (Ne.symm hne), hW1]⟩
      · have hb2 : (W.heap.setIfInBounds r (.mapIter (some b) c (seen.push L[i].born) c))[b]? = some (.map es c) := by rw [Array.getElem?_setIfInBounds_ne hne, hW1]; exact hb
        have hr2 : (W.heap.setIfInBounds r (.mapIter (some b) c (seen.push L[i].born) c))[r]? = some (.mapIter (some b) c (seen.push L[i].born) c) := by simp [hlt']
        have hfind : es.find? (fun e => e.born == L[i].born) = some L[i] := by
          rw [← Array.find?_toList]
          have : ∀ (Z : List MapEntry), (Z.map MapEntry.born).Nodup → L[i] ∈ Z → Z.find? (fun e => e.born == L[i].born) = some L[i] := by
            intro Z
            induction Z with
            | nil => intro _ h; cases h
            | cons z Z ih =>
              intro hz hm
              simp only [List.map_cons, List.nodup_cons] at hz
              rcases List.mem_cons.1 hm with e | hm
              · simp [← e]
              · have : (z.born == L[i].born) = false := by
                  simp only [beq_eq_false_iff_ne]
                  intro e; exact hz.1 (e ▸ List.mem_map.2 ⟨_, hm, rfl⟩)
                simp [this, ih hz.2 hm]
          exact this _ hs hmemL
        simp [Instr.entry, getObj, Sem.run, hr2, hb2, hfind, c2, c3, Result.andThen]
    have hchoose : ∀ (i : Nat) (W : World), i < L.size → W.heap = w.heap → W.os = w.os → W.tape = w.tape → W.output = w.output → (choose (.mapNext L.size)).run P w = .ok i W →
        ∃ R1 k v R2 w', R = R1 ++ (k, v) :: R2 ∧ (Instr.next (.pointer (some ⟨r, 0, none⟩)) false t).run P w = .ok (.tuple #[.bool true, ek k, ev v]) w' ∧
          RangeAt ek ev w' r b l (V ++ [(k, v)]) (R1 ++ R2) ∧ Upd (· = r) w w' ∧ w'.heap.size = w.heap.size ∧ (Instr.entry (.pointer (some ⟨r, 0, none⟩))).run P w' = .ok (.tuple #[ek k, ev v]) w' := by
      intro i W hi h1 h2 h3 h4 hch
      obtain ⟨R1, k, v, R2, w', e1, e2, e3, e4, e5, e6, e7, e8⟩ := htake i hi W h1 h2 h3 h4
      refine ⟨R1, k, v, R2, w', e1, ?_, e5, e6, e7, e8⟩
      simp only [Instr.next, Sem.run_bind, getObj, Sem.run, hr, Result.andThen, hb, hall, Bool.false_eq_true, if_false, hL, hold, hnew, hisE, Array.append_empty, Array.empty_append, Array.size_map, hch]
      simp [hi, e4, e2, e3, Result.andThen]
    by_cases h1 : L.size ≤ 1
    · exact hchoose 0 w hpos rfl rfl rfl rfl (by simp [choose, Sem.run, Question.forced, h1])
    · exact hchoose (w.tape w.drawn (.mapNext L.size) % L.size) w.drew (Nat.mod_lt _ hpos) rfl rfl rfl rfl (by simp [choose, Sem.run, Question.forced, h1, Question.cut])
end

/-- Keys that are ints. -/
def ekI (n : Int) : Value := .int .i64 n
theorem keyInt {P : Program} {K : TypeId} (hu : P.underlying K = some (.int .i64)) : KeyOk P K ekI := by
  refine ⟨fun b k w => MapKept.run_checkKey hu (by simp [MapKept.IsKey, ekI]) b _, ?_, fun k => by simp [Instr.sameBits, ekI]⟩
  intro β ev k l es w hc
  refine MapKept.run_findKey hu ?_
  have : ∀ (l : List (Int × β)) (es : List MapEntry) (i : Nat), Corr ekI ev es l → Instr.findNow (.int .i64) (ekI k) es i = some ((afind l k).map fun p => (i + p.1, ev p.2)) := by
    intro l
    induction l with
    | nil => intro es i hc; cases es with
      | nil => rfl
      | cons e es => simp [Corr] at hc
    | cons p r ih =>
      intro es i hc
      obtain ⟨a, x⟩ := p
      cases es with
      | nil => simp [Corr] at hc
      | cons e es =>
        simp only [Corr, List.map_cons, List.cons.injEq, Prod.mk.injEq] at hc
        simp only [Instr.findNow, hc.1.1, ekI, Instr.sameNow, if_true, afind]
        by_cases h : a = k
        · subst h; simp [hc.1.2]
        · have h' : (k == a) = false := by simp; exact fun e => h e.symm
          have hr := ih es (i + 1) hc.2
          simp only [h', if_neg h]
          rw [show Value.int IntKind.i64 k = ekI k from rfl, hr]
          cases afind r k <;> simp; omega
  have h0 := this l es 0 hc
  simpa using h0
end Go.Proofs.Yteoecpggmchbkaa
