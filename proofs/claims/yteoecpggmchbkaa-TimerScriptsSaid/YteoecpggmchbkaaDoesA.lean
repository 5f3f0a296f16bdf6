/- A Timer beside the document's: each call of both. -/
import Derived.Test.YteoecpggmchbkaaRefD
import Derived.Test.YteoecpggmchbkaaTimerJu
namespace Go.Proofs.Yteoecpggmchbkaa
open Go.RowKit

/-- A Timer, and the document's. -/
structure Both (w0 w : World) (p n : Nat) (D : Al) (F : List Nat) (q : Nat) (L : Al) (a : Option Addr) (cap : Nat) (G : List Nat) : Prop where
  t : Mine w0.heap.size w0 w p n D F
  k : RefAt w q n L a cap G
  low : ∀ y ∈ G, w0.heap.size ≤ y
  ap : ∀ y ∈ F, y ∉ G
  ord : Ord L D
/-- The same, in the middle: the Timer has gone ahead. -/
structure Half (w0 w : World) (p n : Nat) (D : Al) (F : List Nat) (q m : Nat) (L : Al) (a : Option Addr) (cap : Nat) (G : List Nat) : Prop where
  t : Mine w0.heap.size w0 w p n D F
  k : RefAt w q m L a cap G
  low : ∀ y ∈ G, w0.heap.size ≤ y
  ap : ∀ y ∈ F, y ∉ G
section
variable {w0 w w' : World} {p n n' q m m' cap cap' : Nat} {D D' L L' : Al} {a a' : Option Addr} {F F' G G' : List Nat}
theorem Both.half (h : Both w0 w p n D F q L a cap G) : Half w0 w p n D F q n L a cap G := ⟨h.t, h.k, h.low, h.ap⟩
theorem Half.both (h : Half w0 w p n D F q n L a cap G) (ho : Ord L D) : Both w0 w p n D F q L a cap G := ⟨h.t, h.k, h.low, h.ap, ho⟩
theorem Half.stepT (h : Half w0 w p n D F q m L a cap G) (hs : Step F F' w w') (ok : TimerOk w' p n' D' F') : Half w0 w' p n' D' F' q m L a cap G :=
  ⟨h.t.step hs ok, h.k.upd hs.upd (fun y hy hm => h.ap y hm hy), h.low, fun y hy hm => (hs.sub y hy).elim (fun hy => h.ap y hy hm) (fun hle => by have := h.k.foot y hm; omega)⟩
theorem Half.stepK (h : Half w0 w p n D F q m L a cap G) (hs : Step G G' w w') (k : RefAt w' q m' L' a' cap' G') : Half w0 w' p n D F q m' L' a' cap' G' := by
  have hb : Below w0.heap.size w w' := hs.upd.below h.t.size (fun x hx hm => by have := h.low x hm; omega)
  refine ⟨⟨h.t.ok.upd hs.upd (fun y hy hm => h.ap y hy hm), h.t.low, Nat.le_trans h.t.size hs.upd.size, h.t.below.trans hb⟩, k, fun y hy => (hs.sub y hy).elim (h.low y) (fun hle => Nat.le_trans h.t.size hle), fun y hy hm => (hs.sub y hm).elim (h.ap y hy) (fun hle => by have := h.t.ok.lt y hy; omega)⟩
theorem Half.keep (h : Half w0 w p n D F q m L a cap G) (hu : Upd (fun _ => False) w w') : Half w0 w' p n D F q m L a cap G :=
  ⟨h.t.keep hu, h.k.upd hu (fun _ _ f => f), h.low, h.ap⟩
theorem Both.keep (h : Both w0 w p n D F q L a cap G) (hu : Upd (fun _ => False) w w') : Both w0 w' p n D F q L a cap G := (h.half.keep hu).both h.ord
theorem Half.keepB (h : Half w0 w p n D F q m L a cap G) (hb : Below w.heap.size w w') : Half w0 w' p n D F q m L a cap G := h.keep (Upd.of_below hb (F := fun _ => False) (fun x a b => by omega))
end

/-- What a call of both leaves. -/
def DoesPost (w0 : World) (p q B : Nat) (e : Ending) (w' : World) : Prop :=
  e = .returned (.bool true) ∧ ∃ n D F L a cap G, Both w0 w' p n D F q L a cap G ∧ D.length ≤ B

theorem rset_any {q cap : Nat} {n : Int} {L : Al} {a : Option Addr} {G : List Nat} (id due : Int) (w : World) (h : RefAt w q n L a cap G) (hl : L.length ≤ 1000000) {r : Int} (hr : (if setOk id due then 0 else 1) = r) :
    Calls Try.prog 21 #[.pointer (some ⟨q, 0, none⟩), .int .i64 id, .int .i64 due] w fun e w' => e = .returned (.int .i64 r) ∧ ∃ a' cap' G', RefAt w' q n (if setOk id due then ins (adel L id) (id, due) else L) a' cap' G' ∧ Step G G' w w' := by
  subst hr
  by_cases c : setOk id due
  · rw [if_pos c, if_pos c]; exact rset_ok id due w h hl c
  · rw [if_neg c, if_neg c]
    refine (rset_bad (q := q) id due w c).mono ?_
    rintro e w' ⟨rfl, rfl⟩
    exact ⟨rfl, a, cap, G, h, Step.refl _ _⟩
theorem set_r {p n : Nat} {D : Al} {F : List Nat} (id m : Int) (w : World) (h : TimerOk w p n D F) {r : Int} (hr : (if setOk id m then 0 else 1) = r) :
    Calls Try.prog 14 #[.pointer (some ⟨p, 0, none⟩), .int .i64 id, .int .i64 m] w fun e w' => e = .returned (.int .i64 r) ∧ ∃ F', TimerOk w' p n (setT D id m) F' ∧ Step F F' w w' := by
  subst hr; exact set_any id m w h
theorem Ord.setT {L D : Al} (h : Ord L D) (id m : Int) : Ord (if setOk id m then ins (adel L id) (id, m) else L) (setT D id m) := by
  unfold Go.Proofs.Yteoecpggmchbkaa.setT
  by_cases c : setOk id m
  · rw [if_pos c, if_pos c]; exact h.set id m
  · rw [if_neg c, if_neg c]; exact h
theorem cancel_b {p n : Nat} {D : Al} {F : List Nat} (id : Int) (w : World) (h : TimerOk w p n D F) {b : Bool} (hb : (aget D id).isSome = b) :
    Calls Try.prog 19 #[.pointer (some ⟨p, 0, none⟩), .int .i64 id] w fun e w' => e = .returned (.bool b) ∧ ∃ F', TimerOk w' p n (adel D id) F' ∧ Step F F' w w' := by
  subst hb; exact cancel_any id w h

/-- timer.Advance tells a row that is new. -/
theorem adv_new {p n : Nat} {D : Al} {F : List Nat} (to : Int) (w : World) (h : TimerOk w p n D F) (hD : D.length ≤ 1000000) :
    Calls Try.prog 15 #[.pointer (some ⟨p, 0, none⟩), .int .i64 to] w fun e w' => ∃ v F', e = .returned v ∧ SliceI w' v (advL D n to) ∧ (∀ g, v.ownBlock = some g → w.heap.size ≤ g ∧ g < w'.heap.size) ∧ TimerOk w' p (advN n to) (advD D n to) F' ∧ Step F F' w w' := by
  unfold advL advD advN
  by_cases c : goOk n to
  · rw [if_pos c, if_pos c, if_pos c]
    obtain ⟨m, rfl⟩ := Int.eq_ofNat_of_zero_le (a := to) (by have := c.1; omega)
    have hn : (akeys D).Nodup := by obtain ⟨S, _, hI⟩ := h; exact hI.nd
    refine (adv_ok w h (by have := c.1; omega) (by have := c.2; omega) hD).mono ?_
    rintro e w' ⟨v, l, L, F', rfl, rfl, hL, hm, hown, hok, hs, hg⟩
    rw [tell_of hn hL hm] at hown hok
    rw [tell_left hn] at hok
    exact ⟨v, F', rfl, SliceI.own hown, fun g e => hown.lt g e, hok, hs⟩
  · rw [if_neg c, if_neg c, if_neg c]
    refine (adv_bad to w h (by unfold goOk at c; omega)).mono ?_
    rintro e w' ⟨rfl, hb⟩
    exact ⟨_, F, rfl, SliceI.nil _, (fun g hg => by cases hg), h.upd (Upd.of_below hb (F := fun _ => False) (fun x a b => by omega)) (fun _ _ f => f), Step.of_below hb⟩
/-- The document's, likewise. -/
theorem radv_any {q cap n : Nat} {L D : Al} {a : Option Addr} {G : List Nat} (to : Int) (w : World) (h : RefAt w q n L a cap G) (ho : Ord L D) (hl : L.length ≤ 1000000) :
    Calls Try.prog 24 #[.pointer (some ⟨q, 0, none⟩), .int .i64 to] w fun e w' => ∃ v L' a' cap', e = .returned v ∧ SliceI w' v (advL D n to) ∧ RefAt w' q (advN n to) L' a' cap' G ∧ Ord L' (advD D n to) ∧ Step G G w w' := by
  unfold advL advD advN
  by_cases c : goOk n to
  · rw [if_pos c, if_pos c, if_pos c]
    obtain ⟨m, rfl⟩ := Int.eq_ofNat_of_zero_le (a := to) (by have := c.1; omega)
    obtain ⟨o1, o2⟩ := ho.adv (m : Int)
    refine (radv_ok (m : Int) w h hl c.1 c.2).mono ?_
    rintro e w' ⟨v, a', cap', rfl, hr, hu, hown⟩
    rw [o1] at hown
    exact ⟨v, _, a', cap', rfl, SliceI.own hown, by simpa using hr, o2, hu, fun x hx => .inl hx⟩
  · rw [if_neg c, if_neg c, if_neg c]
    refine (radv_bad to w h (by unfold goOk at c; omega)).mono ?_
    rintro e w' ⟨rfl, rfl⟩
    exact ⟨_, L, a, cap, rfl, SliceI.nil _, h, ho, Step.refl _ _⟩
end Go.Proofs.Yteoecpggmchbkaa
