/- sandglassref08's Timer in memory; what only looks. -/
import Derived.Test.YteoecpggmchbkaaRefL
import Derived.Test.YteoecpggmchbkaaAppend
namespace Go.Proofs.Yteoecpggmchbkaa
open Go.RowKit

/-- What a slice of pairs has, cell by cell. -/
def cells2 (L : Al) : List Value := L.flatMap fun p => [ekI p.1, ekI p.2]
theorem cells2_length (L : Al) : (cells2 L).length = L.length * 2 := by
  induction L with
  | nil => rfl
  | cons p r ih => simp only [cells2, List.flatMap_cons, List.length_append, List.length_cons, List.length_nil] at *; omega
theorem cells2_append (L K : Al) : cells2 (L ++ K) = cells2 L ++ cells2 K := by simp [cells2]
theorem cells2_get {L : Al} {i : Nat} {x : Int × Int} (h : L[i]? = some x) : (cells2 L)[i * 2]? = some (ekI x.1) ∧ (cells2 L)[i * 2 + 1]? = some (ekI x.2) := by
  induction L generalizing i with
  | nil => simp at h
  | cons p r ih =>
    have e : cells2 (p :: r) = ekI p.1 :: ekI p.2 :: cells2 r := rfl
    rw [e]
    cases i with
    | zero => simp at h; subst h; exact ⟨rfl, rfl⟩
    | succ i =>
      have := ih (i := i) (by simpa using h)
      rw [show (i + 1) * 2 = i * 2 + 1 + 1 from by omega]
      simpa using this
theorem cells2_drop (L : Al) (i : Nat) : cells2 (L.drop i) = (cells2 L).drop (i * 2) := by
  induction i generalizing L with
  | zero => rfl
  | succ i ih =>
    cases L with
    | nil => simp [cells2]
    | cons p r =>
      rw [show (i + 1) * 2 = i * 2 + 1 + 1 from by omega]
      have e : cells2 (p :: r) = ekI p.1 :: ekI p.2 :: cells2 r := rfl
      rw [e, List.drop_succ_cons, List.drop_succ_cons, List.drop_succ_cons, ih]
theorem cells2_take (L : Al) (i : Nat) : cells2 (L.take i) = (cells2 L).take (i * 2) := by
  induction i generalizing L with
  | zero => simp [cells2]
  | succ i ih =>
    cases L with
    | nil => simp [cells2]
    | cons p r =>
      rw [show (i + 1) * 2 = i * 2 + 1 + 1 from by omega]
      have e : cells2 (p :: r) = ekI p.1 :: ekI p.2 :: cells2 r := rfl
      have e2 : cells2 (p :: r.take i) = ekI p.1 :: ekI p.2 :: cells2 (r.take i) := rfl
      rw [e, List.take_succ_cons, List.take_succ_cons, List.take_succ_cons, e2, ih]
theorem cells2_one (L : Al) : ∀ x ∈ cells2 L, x.oneCell' = true := by
  intro x hx
  obtain ⟨p, _, hp⟩ := List.mem_flatMap.1 hx
  simp only [List.mem_cons, List.not_mem_nil, or_false] at hp
  rcases hp with rfl | rfl <;> rfl

/-- BLOCK q OF w IS A Timer OF THE DOCUMENT's, at n, with L; its blocks are in G. -/
structure RefAt (w : World) (q : Nat) (n : Int) (L : Al) (a : Option Addr) (cap : Nat) (G : List Nat) : Prop where
  blk : w.heap[q]? = some (.cells #[.int .i64 n, .slice a L.length cap] 37 (0, 0))
  room : L.length ≤ cap
  cells : ∀ j u, (cells2 L)[j]? = some u → ∃ g o, a = some ⟨g, o, none⟩ ∧ w.cell? ⟨g, o + j, none⟩ = some u
  own : ∀ g, (Value.slice a L.length cap).ownBlock = some g → g ≠ q ∧ g ∈ G ∧ g < w.heap.size
  self : q ∈ G
  foot : ∀ y ∈ G, y < w.heap.size
section
variable {w w' : World} {q cap : Nat} {n : Int} {L : Al} {a : Option Addr} {G : List Nat}
theorem RefAt.upd {F : Nat → Prop} (h : RefAt w q n L a cap G) (hu : Upd F w w') (hF : ∀ y ∈ G, ¬ F y) : RefAt w' q n L a cap G := by
  refine ⟨(hu.block q (h.foot q h.self) (hF q h.self)).trans h.blk, h.room, fun j u hj => ?_, fun g hg => ?_, h.self, fun y hy => Nat.lt_of_lt_of_le (h.foot y hy) hu.size⟩
  · obtain ⟨g, o, rfl, h1⟩ := h.cells j u hj
    obtain ⟨_, h3, h4⟩ := h.own g rfl
    exact ⟨g, o, rfl, (hu.cell (p := ⟨g, _, none⟩) h4 (hF g h3)).trans h1⟩
  · obtain ⟨h1, h3, h4⟩ := h.own g hg
    exact ⟨h1, h3, Nat.lt_of_lt_of_le h4 hu.size⟩
theorem RefAt.at (h : RefAt w q n L a cap G) {i : Nat} {x : Int × Int} (hx : L[i]? = some x) : ∃ g o, a = some ⟨g, o, none⟩ ∧ w.cell? ⟨g, o + i * 2, none⟩ = some (.int .i64 x.1) ∧ w.cell? ⟨g, o + i * 2 + 1, none⟩ = some (.int .i64 x.2) := by
  obtain ⟨k1, k2⟩ := cells2_get hx
  obtain ⟨g, o, rfl, h1⟩ := h.cells _ _ k1
  obtain ⟨g', o', e, h2⟩ := h.cells _ _ k2
  cases e
  exact ⟨g, o, rfl, h1, h2⟩
theorem RefAt.c0 (h : RefAt w q n L a cap G) : w.cell? ⟨q, 0, none⟩ = some (.int .i64 n) := by rw [cell_of_heap h.blk]; rfl
theorem RefAt.c1 (h : RefAt w q n L a cap G) : w.cell? ⟨q, 1, none⟩ = some (.slice a L.length cap) := by rw [cell_of_heap h.blk]; rfl
theorem RefAt.free (h : RefAt w q n L a cap G) (i : Nat) : w.frozen? ⟨q, i, none⟩ = false := free_of_heap h.blk i
theorem RefAt.src (h : RefAt w q n L a cap G) : Src w (.slice a L.length cap) L.length (cells2 L) := ⟨a, cap, rfl, h.cells⟩
end

/-- Where an id stands. -/
def pos (L : Al) (id : Int) : Int := ((afind L id).map fun p => (p.1 : Int)).getD (-1)
theorem afind_take {L : Al} {id : Int} : ∀ {j : Nat}, (∀ i, i < j → ∀ x, L[i]? = some x → x.1 ≠ id) → ∀ {x : Int × Int}, L[j]? = some x → x.1 = id → afind L id = some (j, x.2) := by
  induction L with
  | nil => intro j _ x h; simp at h
  | cons p r ih =>
    intro j h x hx he
    obtain ⟨a, b⟩ := p
    cases j with
    | zero =>
      simp at hx; subst hx; simp only at he; subst he; simp [afind]
    | succ j =>
      have h0 : a ≠ id := h 0 (by omega) (a, b) rfl
      have := ih (j := j) (fun i hi y hy => h (i + 1) (by omega) y (by simpa using hy)) (x := x) (by simpa using hx) he
      simp [afind, h0, this]
theorem afind_no {L : Al} {id : Int} (h : ∀ (i : Nat) (x : Int × Int), L[i]? = some x → x.1 ≠ id) : afind L id = none := by
  induction L with
  | nil => rfl
  | cons p r ih =>
    obtain ⟨a, b⟩ := p
    have h0 : a ≠ id := h 0 (a, b) rfl
    have := ih fun i x hx => h (i + 1) x (by simpa using hx)
    simp [afind, h0, this]

set_option maxRecDepth 100000 in
theorem rplace_any {q cap : Nat} {n : Int} {L : Al} {a : Option Addr} {G : List Nat} (id : Int) (w : World) (h : RefAt w q n L a cap G) (hl : L.length ≤ 1000000) :
    Calls Try.prog 33 #[.pointer (some ⟨q, 0, none⟩), .int .i64 id] w fun e w' => e = .returned (.int .i64 (pos L id)) ∧ w = w' := by
  have c1 := h.c1
  have HR := hid h
  clear h
  go_enter Try.func33, Try.ntmps33
  go_wp2_with fail
  go_loopg [5] L.length (fun k i wr => ∃ j : Nat, i = .int .i64 (j : Int) ∧ j + k = L.length ∧ wr = w ∧ ∀ i, i < j → ∀ x, L[i]? = some x → x.1 ≠ id)
  case atStart => exact ⟨0, rfl, by omega, rfl, fun i hi => by omega⟩
  case round =>
    obtain ⟨j, rfl, hjk, rfl, hno⟩ := hrel
    by_cases hj : j < L.length
    · have hx : L[j]? = some L[j] := List.getElem?_eq_getElem hj
      generalize L[j] = x at *
      obtain ⟨g, o, rfl, d1, d2⟩ := HR.out.at hx
      have hwj : IntKind.i64.wrap ((j : Int) + 1) = (j : Int) + 1 := wrap_in64 (by omega) (by omega)
      have HJ := hid hjk; have HNO := hid hno; have HX := hid hx
      clear hjk hno hx d2
      by_cases he : x.1 = id
      · have t1 : (x.1 == id) = true := by simpa using he
        have HE := hid he
        clear he
        go_wp2
        go_ret
        refine ⟨?_, rfl⟩
        have := afind_take HNO.out HX.out HE.out
        simp [pos, this]
      · have t1 : (x.1 == id) = false := by simpa using he
        have HE := hid he
        clear he
        go_wp2
        go_roundg (gk - 1)
        case measure => have := HJ.out; omega
        case rel =>
          refine ⟨j + 1, by rw [show ((j + 1 : Nat) : Int) = (j : Int) + 1 from by omega], by have := HJ.out; omega, rfl, fun i hi y hy => ?_⟩
          by_cases h2 : i < j
          · exact HNO.out i h2 y hy
          · obtain rfl : i = j := by omega
            have := HX.out
            rw [this] at hy; cases hy; exact HE.out
    · have HNO := hid hno
      clear hno
      go_wp2
      go_ret
      refine ⟨?_, rfl⟩
      have := afind_no (L := L) (id := id) fun i x hx => HNO.out i (by have := (List.getElem?_eq_some_iff.1 hx).1; omega) x hx
      simp [pos, this]

theorem pos_none {L : Al} {id : Int} (h : aget L id = none) : pos L id = -1 := by
  rw [aget_afind] at h
  cases e : afind L id with
  | none => simp [pos, e]
  | some p => rw [e] at h; cases h
theorem pos_some {L : Al} {id m : Int} (h : aget L id = some m) : ∃ i : Nat, pos L id = i ∧ L[i]? = some (id, m) ∧ i < L.length ∧ adel L id = L.take i ++ L.drop (i + 1) := by
  induction L with
  | nil => cases h
  | cons p r ih =>
    obtain ⟨a, b⟩ := p
    simp only [aget] at h
    by_cases he : a = id
    · rw [if_pos he] at h; cases h
      exact ⟨0, by simp [pos, afind, he], by simp [he], by simp, by simp [adel, he]⟩
    · rw [if_neg he] at h
      obtain ⟨i, h1, h2, h3, h4⟩ := ih h
      refine ⟨i + 1, ?_, by simpa using h2, by simpa using h3, by simp [adel, he, h4]⟩
      unfold pos at h1 ⊢
      simp only [afind, if_neg he]
      cases e : afind r id with
      | none => rw [e] at h1; simp at h1
      | some p => rw [e] at h1; simp at h1 ⊢; omega

set_option maxRecDepth 100000 in
theorem rdue_any {q cap : Nat} {n : Int} {L : Al} {a : Option Addr} {G : List Nat} (id : Int) (w : World) (h : RefAt w q n L a cap G) (hl : L.length ≤ 1000000) {r : Int} {b : Bool} (hr : (aget L id).getD 0 = r) (hb : (aget L id).isSome = b) :
    Calls Try.prog 23 #[.pointer (some ⟨q, 0, none⟩), .int .i64 id] w fun e w' => e = .returned (.tuple #[.int .i64 r, .bool b]) ∧ w = w' := by
  have HP := hid (rplace_any id w h hl)
  cases hg : aget L id with
  | none =>
    rw [hg] at hr hb
    subst hr; subst hb
    rw [pos_none hg] at HP
    clear h hg
    go_enter Try.func23, Try.ntmps23
    go_wp2_with fail
    refine HP.out.mono ?_
    rintro e w' ⟨rfl, rfl⟩
    go_wp2
    go_ret2
    exact ⟨rfl, rfl⟩
  | some m =>
    rw [hg] at hr hb
    subst hr; subst hb
    obtain ⟨i, h1, h2, h3, -⟩ := pos_some hg
    rw [h1] at HP
    obtain ⟨g, o, rfl, d1, d2⟩ := h.at h2
    have c1 := h.c1
    dsimp only at d1 d2
    clear h hg h1 h2
    go_enter Try.func23, Try.ntmps23
    go_wp2_with fail
    refine HP.out.mono ?_
    rintro e w' ⟨rfl, rfl⟩
    go_wp2
    go_ret2
    exact ⟨rfl, rfl⟩

set_option maxRecDepth 100000 in
theorem rnext_nil {q cap : Nat} {n : Int} {a : Option Addr} {G : List Nat} (w : World) (h : RefAt w q n [] a cap G) :
    Calls Try.prog 25 #[.pointer (some ⟨q, 0, none⟩)] w fun e w' => e = .returned (.tuple #[.int .i64 0, .bool false]) ∧ w = w' := by
  have c1 := h.c1
  simp only [List.length_nil] at c1
  clear h
  go_enter Try.func25, Try.ntmps25
  go_wp2
  go_ret2
  exact ⟨rfl, rfl⟩
set_option maxRecDepth 100000 in
theorem rnext_cons {q cap : Nat} {n : Int} {p : Int × Int} {L : Al} {a : Option Addr} {G : List Nat} (w : World) (h : RefAt w q n (p :: L) a cap G) :
    Calls Try.prog 25 #[.pointer (some ⟨q, 0, none⟩)] w fun e w' => e = .returned (.tuple #[.int .i64 p.2, .bool true]) ∧ w = w' := by
  have c1 := h.c1
  obtain ⟨g, o, rfl, d1, d2⟩ := h.at (i := 0) (x := p) rfl
  obtain ⟨k, hk⟩ : ∃ k, k = (p :: L).length := ⟨_, rfl⟩
  rw [← hk] at c1
  have t1 : ((k : Int) == 0) = false := by rw [beq_eq_false_iff_ne]; simp at hk; omega
  have t2 : 0 < k := by simp at hk; omega
  simp only [Nat.zero_mul, Nat.add_zero] at d1 d2
  clear h hk
  go_enter Try.func25, Try.ntmps25
  go_wp2
  go_ret2
  exact ⟨rfl, rfl⟩

set_option maxRecDepth 100000 in
theorem rnew_any (n : Int) (w : World) (h : 0 ≤ n ∧ n ≤ 1099511627776) :
    Calls Try.prog 9 #[.int .i64 n] w fun e w' => e = .returned (.tuple #[.pointer (some ⟨w.heap.size, 0, none⟩), .int .i64 0]) ∧ w' = w.alloc (.cells #[.int .i64 n, .slice none 0 0] 37) := by
  obtain ⟨h0, h1⟩ := h
  have d1 : decide (n < 0) = false := by simp; omega
  have d2 : decide ((1099511627776 : Int) < n) = false := by simp; omega
  clear h0 h1
  go_enter Try.func9, Try.ntmps9
  go_wp2
  go_ret2
  exact ⟨rfl, rfl⟩
set_option maxRecDepth 100000 in
theorem rnew_bad (n : Int) (w : World) (h : n < 0 ∨ 1099511627776 < n) :
    Calls Try.prog 9 #[.int .i64 n] w fun e w' => e = .returned (.tuple #[.pointer none, .int .i64 1]) ∧ w = w' := by
  by_cases h1 : n < 0
  · go_enter Try.func9, Try.ntmps9
    go_wp2
    go_ret2
    exact ⟨rfl, rfl⟩
  · have h2 : 1099511627776 < n := by omega
    clear h
    go_enter Try.func9, Try.ntmps9
    go_wp2
    go_ret2
    exact ⟨rfl, rfl⟩
end Go.Proofs.Yteoecpggmchbkaa
