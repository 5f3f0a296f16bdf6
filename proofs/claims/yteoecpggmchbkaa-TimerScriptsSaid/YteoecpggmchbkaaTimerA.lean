/- What a Timer is in memory. -/
import Derived.Test.YteoecpggmchbkaaWheelD
namespace Go.Proofs.Yteoecpggmchbkaa
open Go.RowKit

/-- The wheel in block b, by its rows' ids. -/
def WheelR (w : World) (b : Nat) (R : Nat → List Int) (F : List Nat) : Prop := ∃ L, WheelAt w b L none F ∧ ∀ s, (L s).map Prod.fst = R s

theorem WheelR.lt {w : World} {b : Nat} {R : Nat → List Int} {F : List Nat} (h : WheelR w b R F) : ∀ y ∈ F, y < w.heap.size := by obtain ⟨L, h, _⟩ := h; exact h.lt
theorem WheelR.nodup {w : World} {b : Nat} {R : Nat → List Int} {F : List Nat} (h : WheelR w b R F) : F.Nodup := by obtain ⟨L, h, _⟩ := h; exact h.nodup
theorem WheelR.congr {w w' : World} {b : Nat} {R : Nat → List Int} {F : List Nat} (h : WheelR w b R F) (hc : ∀ y ∈ F, w'.heap[y]? = w.heap[y]?) : WheelR w' b R F := by
  obtain ⟨L, h, hL⟩ := h; exact ⟨L, h.congr hc, hL⟩
theorem WheelR.out {w : World} {b : Nat} {R : Nat → List Int} {F : List Nat} (h : WheelR w b R F) {s : Nat} (hs : 64 ≤ s) : R s = [] := by
  obtain ⟨L, ⟨_, _, _, _, _, _, h, _⟩, hL⟩ := h
  rw [← hL, h.out s hs]; rfl

def dropR (R : Nat → List Int) (id : Int) (s : Nat) : List Int := (R s).filter (· ≠ id)
def addR (R : Nat → List Int) (s : Nat) (id : Int) (t : Nat) : List Int := if t = s then R t ++ [id] else R t

theorem dropR_of {L : Nat → List (Int × Nat)} {R : Nat → List Int} (h : ∀ s, (L s).map Prod.fst = R s) (id : Int) (s : Nat) : (dropL L id s).map Prod.fst = dropR R id s := by
  unfold dropL dropR
  rw [← h, List.filter_map]; rfl

theorem wdrop {b : Nat} {R : Nat → List Int} {F : List Nat} (id : Int) (w : World) (h : WheelR w b R F) :
    Calls Try.prog 34 #[.pointer (some ⟨b, 0, none⟩), .int .i64 id] w fun e w' => (∃ r, e = .returned (.bool r)) ∧ ∃ F', WheelR w' b (dropR R id) F' ∧ Step F F' w w' := by
  obtain ⟨L, h, hL⟩ := h
  refine (drop_any id w h).mono ?_
  rintro e w' ⟨he, F', h', hs⟩
  exact ⟨he, F', ⟨_, h', dropR_of hL id⟩, hs⟩
theorem wadd {b : Nat} {R : Nat → List Int} {F : List Nat} (s : Nat) (id : Int) (w : World) (hs : s < 64) (hi0 : 0 ≤ id) (hi1 : id ≤ 1048575) (h : WheelR w b R F) :
    Calls Try.prog 35 #[.pointer (some ⟨b, 0, none⟩), .int .i64 s, .int .i64 id] w fun e w' => e = .returned (.int .i64 0) ∧ ∃ F', WheelR w' b (addR (dropR R id) s id) F' ∧ Step F F' w w' := by
  obtain ⟨L, h, hL⟩ := h
  refine (add_any s id w hs hi0 hi1 h).mono ?_
  rintro e w' ⟨he, l, F', h', hs⟩
  refine ⟨he, F', ⟨_, h', fun t => ?_⟩, hs⟩
  unfold addL addR
  split
  · rw [List.map_append, dropR_of hL]; rfl
  · exact dropR_of hL id t
/-- What wheel.Next tells, by ids. -/
def NextR (R : Nat → List Int) (f : Nat) (e : Ending) : Prop :=
  (∃ i, i < 64 ∧ f ≤ i ∧ R i ≠ [] ∧ (∀ j, f ≤ j → j < i → R j = []) ∧ e = .returned (.tuple #[.int .i64 (i : Nat), .bool true])) ∨
  ((∀ j, f ≤ j → R j = []) ∧ e = .returned (.tuple #[.int .i64 0, .bool false]))
theorem wnext {b : Nat} {R : Nat → List Int} {F : List Nat} (f : Nat) (w : World) (hf : f ≤ 64) (h : WheelR w b R F) :
    Calls Try.prog 36 #[.pointer (some ⟨b, 0, none⟩), .int .i64 f] w fun e w' => NextR R f e ∧ w = w' := by
  obtain ⟨L, h, hL⟩ := h
  have hz : ∀ s, L s = [] ↔ R s = [] := fun s => by rw [← hL]; simp
  refine (wnext_any f w hf h).mono ?_
  rintro e w' ⟨he, hw⟩
  refine ⟨?_, hw⟩
  rcases he with ⟨i, h1, h2, h3, h4, h5⟩ | ⟨h1, h2⟩
  · exact .inl ⟨i, h1, h2, fun e => h3 ((hz i).2 e), fun j a b => (hz j).1 (h4 j a b), h5⟩
  · exact .inr ⟨fun j hj => (hz j).1 (h1 j hj), h2⟩
theorem wrow {b : Nat} {R : Nat → List Int} {F : List Nat} (s : Nat) (w : World) (hs : s < 64) (hlen : (R s).length ≤ 1000000) (h : WheelR w b R F) :
    Calls Try.prog 37 #[.pointer (some ⟨b, 0, none⟩), .int .i64 s] w fun e w' => ∃ v, e = .returned v ∧ w'.ownsRow w.heap.size 3 1 v (R s).length ((R s).map ekI) ∧ Below w.heap.size w w' := by
  obtain ⟨L, h, hL⟩ := h
  refine (row_any s w hs (by rw [← hL] at hlen; simpa using hlen) h).mono ?_
  rintro e w' ⟨v, he, h1, h2⟩
  refine ⟨v, he, ?_, h2⟩
  rw [← hL]; simpa [Function.comp_def] using h1

/-- The elements of 'map[int]bool'. -/
def evB (b : Bool) : Value := .bool b

/-- THE TIMER IN BLOCK p. -/
structure TimerIs (w : World) (p : Nat) (now : Int) (D : List (Int × Int)) (Wh : Nat → Nat → List Int) (FAR LATE : List (Int × Bool)) (md mf ml : Nat) (bs : Nat → Nat) (Fs : Nat → List Nat) : Prop where
  blk : w.heap[p]? = some (.cells #[.int .i64 now, .map (some md), .pointer (some ⟨bs 0, 0, none⟩), .pointer (some ⟨bs 1, 0, none⟩), .pointer (some ⟨bs 2, 0, none⟩), .pointer (some ⟨bs 3, 0, none⟩), .map (some mf), .map (some ml)] 54 (0, 0))
  hd : MapAt ekI ekI w md D
  hf : MapAt ekI evB w mf FAR
  hl : MapAt ekI evB w ml LATE
  hw : ∀ i, i < 4 → WheelR w (bs i) (Wh i) (Fs i)
  nd : (p :: md :: mf :: ml :: (Fs 0 ++ (Fs 1 ++ (Fs 2 ++ Fs 3)))).Nodup
def foot (p md mf ml : Nat) (Fs : Nat → List Nat) : List Nat := p :: md :: mf :: ml :: (Fs 0 ++ (Fs 1 ++ (Fs 2 ++ Fs 3)))
def TimerAt (w : World) (p : Nat) (now : Int) (D : List (Int × Int)) (Wh : Nat → Nat → List Int) (FAR LATE : List (Int × Bool)) (F : List Nat) : Prop :=
  ∃ md mf ml bs Fs, TimerIs w p now D Wh FAR LATE md mf ml bs Fs ∧ F = foot p md mf ml Fs

theorem mem_foot {p md mf ml : Nat} {Fs : Nat → List Nat} {y : Nat} : y ∈ foot p md mf ml Fs ↔ y = p ∨ y = md ∨ y = mf ∨ y = ml ∨ ∃ i, i < 4 ∧ y ∈ Fs i := by
  unfold foot
  simp only [List.mem_cons, List.mem_append]
  constructor
  · rintro (h | h | h | h | h | h | h | h)
    · exact .inl h
    · exact .inr (.inl h)
    · exact .inr (.inr (.inl h))
    · exact .inr (.inr (.inr (.inl h)))
    · exact .inr (.inr (.inr (.inr ⟨0, by omega, h⟩)))
    · exact .inr (.inr (.inr (.inr ⟨1, by omega, h⟩)))
    · exact .inr (.inr (.inr (.inr ⟨2, by omega, h⟩)))
    · exact .inr (.inr (.inr (.inr ⟨3, by omega, h⟩)))
  · rintro (h | h | h | h | ⟨i, hi, h⟩)
    · exact .inl h
    · exact .inr (.inl h)
    · exact .inr (.inr (.inl h))
    · exact .inr (.inr (.inr (.inl h)))
    · have : i = 0 ∨ i = 1 ∨ i = 2 ∨ i = 3 := by omega
      rcases this with rfl | rfl | rfl | rfl <;> simp [h]

/-- The blocks of a Timer are apart. -/
structure Apart (p md mf ml : Nat) (Fs : Nat → List Nat) : Prop where
  h1 : md ≠ p ∧ mf ≠ p ∧ ml ≠ p ∧ mf ≠ md ∧ ml ≠ md ∧ ml ≠ mf
  h2 : ∀ i, i < 4 → ∀ y ∈ Fs i, y ≠ p ∧ y ≠ md ∧ y ≠ mf ∧ y ≠ ml
  h3 : ∀ i j, i < 4 → j < 4 → i ≠ j → ∀ y ∈ Fs i, y ∉ Fs j
  h4 : ∀ i, i < 4 → (Fs i).Nodup

theorem apart_iff {p md mf ml : Nat} {Fs : Nat → List Nat} : (foot p md mf ml Fs).Nodup ↔ Apart p md mf ml Fs := by
  have cases4 : ∀ {i : Nat}, i < 4 → i = 0 ∨ i = 1 ∨ i = 2 ∨ i = 3 := by intro i h; omega
  unfold foot
  simp only [List.nodup_cons, List.nodup_append, List.mem_cons, List.mem_append, not_or]
  constructor
  · rintro ⟨⟨a1, a2, a3, a4, a5, a6, a7⟩, ⟨b1, b2, b3, b4, b5, b6⟩, ⟨c1, c2, c3, c4, c5⟩, ⟨d1, d2, d3, d4⟩, e1, ⟨f1, ⟨g1, g2, g3⟩, f3⟩, e3⟩
    refine ⟨⟨Ne.symm a1, Ne.symm a2, Ne.symm a3, Ne.symm b1, Ne.symm b2, Ne.symm c1⟩, ?_, ?_, ?_⟩
    · intro i hi y hy
      rcases cases4 hi with rfl | rfl | rfl | rfl
      · exact ⟨fun e => a4 (e ▸ hy), fun e => b3 (e ▸ hy), fun e => c2 (e ▸ hy), fun e => d1 (e ▸ hy)⟩
      · exact ⟨fun e => a5 (e ▸ hy), fun e => b4 (e ▸ hy), fun e => c3 (e ▸ hy), fun e => d2 (e ▸ hy)⟩
      · exact ⟨fun e => a6 (e ▸ hy), fun e => b5 (e ▸ hy), fun e => c4 (e ▸ hy), fun e => d3 (e ▸ hy)⟩
      · exact ⟨fun e => a7 (e ▸ hy), fun e => b6 (e ▸ hy), fun e => c5 (e ▸ hy), fun e => d4 (e ▸ hy)⟩
    · intro i j hi hj hij y hy hy'
      rcases cases4 hi with rfl | rfl | rfl | rfl <;> rcases cases4 hj with rfl | rfl | rfl | rfl
      all_goals first
        | exact absurd rfl hij
        | exact e3 y hy y (.inl hy') rfl
        | exact e3 y hy y (.inr (.inl hy')) rfl
        | exact e3 y hy y (.inr (.inr hy')) rfl
        | exact e3 y hy' y (.inl hy) rfl
        | exact e3 y hy' y (.inr (.inl hy)) rfl
        | exact e3 y hy' y (.inr (.inr hy)) rfl
        | exact f3 y hy y (.inl hy') rfl
        | exact f3 y hy y (.inr hy') rfl
        | exact f3 y hy' y (.inl hy) rfl
        | exact f3 y hy' y (.inr hy) rfl
        | exact g3 y hy y hy' rfl
        | exact g3 y hy' y hy rfl
    · intro i hi
      rcases cases4 hi with rfl | rfl | rfl | rfl
      · exact e1
      · exact f1
      · exact g1
      · exact g2
  · rintro ⟨⟨a1, a2, a3, a4, a5, a6⟩, h2, h3, h4⟩
    have k0 := h2 0 (by omega); have k1 := h2 1 (by omega); have k2 := h2 2 (by omega); have k3 := h2 3 (by omega)
    refine ⟨⟨Ne.symm a1, Ne.symm a2, Ne.symm a3, fun h => (k0 _ h).1 rfl, fun h => (k1 _ h).1 rfl, fun h => (k2 _ h).1 rfl, fun h => (k3 _ h).1 rfl⟩,
      ⟨Ne.symm a4, Ne.symm a5, fun h => (k0 _ h).2.1 rfl, fun h => (k1 _ h).2.1 rfl, fun h => (k2 _ h).2.1 rfl, fun h => (k3 _ h).2.1 rfl⟩,
      ⟨Ne.symm a6, fun h => (k0 _ h).2.2.1 rfl, fun h => (k1 _ h).2.2.1 rfl, fun h => (k2 _ h).2.2.1 rfl, fun h => (k3 _ h).2.2.1 rfl⟩,
      ⟨fun h => (k0 _ h).2.2.2 rfl, fun h => (k1 _ h).2.2.2 rfl, fun h => (k2 _ h).2.2.2 rfl, fun h => (k3 _ h).2.2.2 rfl⟩,
      h4 0 (by omega), ⟨h4 1 (by omega), ⟨h4 2 (by omega), h4 3 (by omega), ?_⟩, ?_⟩, ?_⟩
    · intro a ha b hb e; subst e; exact h3 2 3 (by omega) (by omega) (by omega) a ha hb
    · intro a ha b hb e; subst e
      rcases hb with hb | hb
      · exact h3 1 2 (by omega) (by omega) (by omega) a ha hb
      · exact h3 1 3 (by omega) (by omega) (by omega) a ha hb
    · intro a ha b hb e; subst e
      rcases hb with hb | hb | hb
      · exact h3 0 1 (by omega) (by omega) (by omega) a ha hb
      · exact h3 0 2 (by omega) (by omega) (by omega) a ha hb
      · exact h3 0 3 (by omega) (by omega) (by omega) a ha hb

def fupd {α : Type} (f : Nat → α) (i : Nat) (v : α) (j : Nat) : α := if j = i then v else f j

section
variable {w w' : World} {p : Nat} {now : Int} {D : List (Int × Int)} {Wh : Nat → Nat → List Int} {FAR LATE : List (Int × Bool)} {md mf ml : Nat} {bs : Nat → Nat} {Fs : Nat → List Nat} {F : List Nat}
theorem TimerIs.apart (h : TimerIs w p now D Wh FAR LATE md mf ml bs Fs) : Apart p md mf ml Fs := apart_iff.1 h.nd
theorem TimerIs.lt (h : TimerIs w p now D Wh FAR LATE md mf ml bs Fs) : ∀ y ∈ foot p md mf ml Fs, y < w.heap.size := by
  intro y hy
  rcases mem_foot.1 hy with rfl | rfl | rfl | rfl | ⟨i, hi, hy⟩
  · exact lt_of_heap h.blk
  · exact h.hd.lt
  · exact h.hf.lt
  · exact h.hl.lt
  · exact (h.hw i hi).lt y hy
theorem TimerAt.lt (h : TimerAt w p now D Wh FAR LATE F) : ∀ y ∈ F, y < w.heap.size := by
  obtain ⟨_, _, _, _, _, h, rfl⟩ := h; exact h.lt
theorem TimerAt.self (h : TimerAt w p now D Wh FAR LATE F) : p ∈ F := by
  obtain ⟨_, _, _, _, _, h, rfl⟩ := h; exact .head _
theorem TimerIs.congr (h : TimerIs w p now D Wh FAR LATE md mf ml bs Fs) (hc : ∀ y ∈ foot p md mf ml Fs, w'.heap[y]? = w.heap[y]?) : TimerIs w' p now D Wh FAR LATE md mf ml bs Fs where
  blk := (hc p (mem_foot.2 (.inl rfl))).trans h.blk
  hd := h.hd.congr (hc md (mem_foot.2 (.inr (.inl rfl))))
  hf := h.hf.congr (hc mf (mem_foot.2 (.inr (.inr (.inl rfl)))))
  hl := h.hl.congr (hc ml (mem_foot.2 (.inr (.inr (.inr (.inl rfl))))))
  hw := fun i hi => (h.hw i hi).congr fun y hy => hc y (mem_foot.2 (.inr (.inr (.inr (.inr ⟨i, hi, hy⟩)))))
  nd := h.nd
theorem TimerAt.congr (h : TimerAt w p now D Wh FAR LATE F) (hc : ∀ y ∈ F, w'.heap[y]? = w.heap[y]?) : TimerAt w' p now D Wh FAR LATE F := by
  obtain ⟨a, b, c, d, e, h, rfl⟩ := h; exact ⟨a, b, c, d, e, h.congr hc, rfl⟩
theorem TimerAt.upd {G : Nat → Prop} (h : TimerAt w p now D Wh FAR LATE F) (hu : Upd G w w') (hd : ∀ y ∈ F, ¬ G y) : TimerAt w' p now D Wh FAR LATE F := h.congr fun y hy => hu.block y (h.lt y hy) (hd y hy)

/-- One wheel turns. -/
theorem TimerIs.wheel (h : TimerIs w p now D Wh FAR LATE md mf ml bs Fs) {i : Nat} (hi : i < 4) {R' : Nat → List Int} {F' : List Nat} (hw : WheelR w' (bs i) R' F') (hs : Step (Fs i) F' w w') :
    TimerIs w' p now D (fupd Wh i R') FAR LATE md mf ml bs (fupd Fs i F') ∧ Step (foot p md mf ml Fs) (foot p md mf ml (fupd Fs i F')) w w' := by
  have ap := h.apart
  have hlt := h.lt
  have keep : ∀ y, y < w.heap.size → y ∉ Fs i → w'.heap[y]? = w.heap[y]? := fun y hy hn => hs.keep hy hn
  have hF' : ∀ y ∈ F', y ∈ Fs i ∨ w.heap.size ≤ y := hs.sub
  have ap' : Apart p md mf ml (fupd Fs i F') := by
    refine ⟨ap.h1, fun j hj y hy => ?_, fun j k hj hk hjk y hy hy' => ?_, fun j hj => ?_⟩
    · unfold fupd at hy
      split at hy
      · rcases hF' y hy with hy | hy
        · exact ap.h2 i hi y hy
        · have e1 := hlt p (mem_foot.2 (.inl rfl)); have e2 := hlt md (mem_foot.2 (.inr (.inl rfl))); have e3 := hlt mf (mem_foot.2 (.inr (.inr (.inl rfl)))); have e4 := hlt ml (mem_foot.2 (.inr (.inr (.inr (.inl rfl)))))
          omega
      · exact ap.h2 j hj y hy
    · unfold fupd at hy hy'
      split at hy <;> split at hy'
      · omega
      · rename_i e1 e2
        rcases hF' y hy with hy | hy
        · exact ap.h3 i k hi hk (Ne.symm e2) y hy hy'
        · have := (h.hw k hk).lt y hy'; omega
      · rename_i e1 e2
        rcases hF' y hy' with hy' | hy'
        · exact ap.h3 j i hj hi e1 y hy hy'
        · have := (h.hw j hj).lt y hy; omega
      · exact ap.h3 j k hj hk hjk y hy hy'
    · unfold fupd; split
      · exact hw.nodup
      · exact ap.h4 j hj
  have nin : ∀ y, y = p ∨ y = md ∨ y = mf ∨ y = ml → y ∉ Fs i := fun y hy hm => by
    have := ap.h2 i hi y hm; omega
  refine ⟨⟨(keep p (lt_of_heap h.blk) (nin p (by simp))).trans h.blk, h.hd.congr (keep md h.hd.lt (nin md (by simp))), h.hf.congr (keep mf h.hf.lt (nin mf (by simp))), h.hl.congr (keep ml h.hl.lt (nin ml (by simp))), fun j hj => ?_, apart_iff.2 ap'⟩, Step.of ?_ ?_⟩
  · unfold fupd
    split
    · rename_i e; subst e; exact hw
    · rename_i e
      exact (h.hw j hj).congr fun y hy => keep y ((h.hw j hj).lt y hy) (ap.h3 j i hj hi e y hy)
  · exact hs.upd.mono fun y _ hy => mem_foot.2 (.inr (.inr (.inr (.inr ⟨i, hi, hy⟩))))
  · intro y hy
    rcases mem_foot.1 hy with h1 | h1 | h1 | h1 | ⟨j, hj, h1⟩
    · exact .inl (mem_foot.2 (.inl h1))
    · exact .inl (mem_foot.2 (.inr (.inl h1)))
    · exact .inl (mem_foot.2 (.inr (.inr (.inl h1))))
    · exact .inl (mem_foot.2 (.inr (.inr (.inr (.inl h1)))))
    · unfold fupd at h1
      split at h1
      · rcases hF' y h1 with h1 | h1
        · exact .inl (mem_foot.2 (.inr (.inr (.inr (.inr ⟨i, hi, h1⟩)))))
        · exact .inr h1
      · exact .inl (mem_foot.2 (.inr (.inr (.inr (.inr ⟨j, hj, h1⟩)))))
/-- One of the maps turns, or the clock. -/
theorem TimerIs.step (h : TimerIs w p now D Wh FAR LATE md mf ml bs Fs) {x : Nat} (hx : x = p ∨ x = md ∨ x = mf ∨ x = ml) (hu : Upd (· = x) w w') {now' : Int} {D' : List (Int × Int)} {FAR' LATE' : List (Int × Bool)}
    (k1 : if x = p then w'.heap[p]? = some (.cells #[.int .i64 now', .map (some md), .pointer (some ⟨bs 0, 0, none⟩), .pointer (some ⟨bs 1, 0, none⟩), .pointer (some ⟨bs 2, 0, none⟩), .pointer (some ⟨bs 3, 0, none⟩), .map (some mf), .map (some ml)] 54 (0, 0)) else now' = now)
    (k2 : if x = md then MapAt ekI ekI w' md D' else D' = D) (k3 : if x = mf then MapAt ekI evB w' mf FAR' else FAR' = FAR) (k4 : if x = ml then MapAt ekI evB w' ml LATE' else LATE' = LATE) :
    TimerIs w' p now' D' Wh FAR' LATE' md mf ml bs Fs ∧ Step (foot p md mf ml Fs) (foot p md mf ml Fs) w w' := by
  have ap := h.apart
  have hxF : x ∈ foot p md mf ml Fs := by
    rcases hx with rfl | rfl | rfl | rfl
    · exact mem_foot.2 (.inl rfl)
    · exact mem_foot.2 (.inr (.inl rfl))
    · exact mem_foot.2 (.inr (.inr (.inl rfl)))
    · exact mem_foot.2 (.inr (.inr (.inr (.inl rfl))))
  refine ⟨⟨?_, ?_, ?_, ?_, fun i hi => (h.hw i hi).congr fun y hy => hu.block y ((h.hw i hi).lt y hy) (fun e => by have := ap.h2 i hi y hy; omega), h.nd⟩, Step.of (hu.mono fun y _ e => e ▸ hxF) fun y hy => .inl hy⟩
  · split at k1
    · exact k1
    · rename_i e; subst k1; exact (hu.block p (lt_of_heap h.blk) (fun e' => e e'.symm)).trans h.blk
  · split at k2
    · exact k2
    · rename_i e; subst k2; exact h.hd.congr (hu.block md h.hd.lt (fun e' => e e'.symm))
  · split at k3
    · exact k3
    · rename_i e; subst k3; exact h.hf.congr (hu.block mf h.hf.lt (fun e' => e e'.symm))
  · split at k4
    · exact k4
    · rename_i e; subst k4; exact h.hl.congr (hu.block ml h.hl.lt (fun e' => e e'.symm))
end
end Go.Proofs.Yteoecpggmchbkaa
