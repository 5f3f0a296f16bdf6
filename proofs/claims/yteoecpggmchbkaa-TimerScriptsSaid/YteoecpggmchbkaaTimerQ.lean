/- timer.Advance to whatever time. -/
import Derived.Test.YteoecpggmchbkaaTimerNx
namespace Go.Proofs.Yteoecpggmchbkaa
open Go.RowKit

/-- May the clock go there? -/
def goOk (n : Nat) (to : Int) : Prop := (n : Int) ≤ to ∧ to ≤ 1099511627776
instance (n : Nat) (to : Int) : Decidable (goOk n to) := by unfold goOk; infer_instance
def advL (D : Al) (n : Nat) (to : Int) : List Int := if goOk n to then tell D to else []
def advD (D : Al) (n : Nat) (to : Int) : Al := if goOk n to then left D to else D
def advN (n : Nat) (to : Int) : Nat := if goOk n to then to.toNat else n

theorem adv_any {p n : Nat} {D : Al} {F : List Nat} (to : Int) (w : World) (h : TimerOk w p n D F) (hD : D.length ≤ 1000000) :
    Calls Try.prog 15 #[.pointer (some ⟨p, 0, none⟩), .int .i64 to] w fun e w' => ∃ v F', e = .returned v ∧ Held w' F' v (advL D n to) ∧ TimerOk w' p (advN n to) (advD D n to) F' ∧ Step F F' w w' := by
  unfold advL advD advN
  by_cases c : goOk n to
  · rw [if_pos c, if_pos c, if_pos c]
    obtain ⟨m, rfl⟩ := Int.eq_ofNat_of_zero_le (a := to) (by have := c.1; omega)
    refine (adv_tell w h (by have := c.1; omega) (by have := c.2; omega) hD).mono ?_
    rintro e w' ⟨v, F', h1, h2, h3, h4⟩
    exact ⟨v, F', h1, h2, h3, h4⟩
  · rw [if_neg c, if_neg c, if_neg c]
    refine (adv_bad to w h (by unfold goOk at c; omega)).mono ?_
    rintro e w' ⟨rfl, hb⟩
    exact ⟨_, F, rfl, Held.nil _ _, h.upd (Upd.of_below hb (F := fun _ => False) (fun x a b => by omega)) (fun _ _ f => f), Step.of_below hb⟩

/-- What is known of it. -/
structure Told (D : Al) (n : Nat) (to : Int) : Prop where
  fold : (advL D n to).foldl adel D = advD D n to
  nodup : (advL D n to).Nodup
  due : ∀ id ∈ advL D n to, ∃ d, aget D id = some d ∧ d ≤ (advN n to : Int)
  gone : ∀ id ∈ advL D n to, aget (advD D n to) id = none
  ord : (advL D n to).Pairwise (fun x y => dueOf D x ≤ dueOf D y)
  le : (n : Int) ≤ (advN n to : Int)
  len : (advD D n to).length ≤ D.length
  sub : ∀ q ∈ advD D n to, q ∈ D
theorem told {D : Al} (hn : (akeys D).Nodup) (n : Nat) (to : Int) : Told D n to := by
  by_cases c : goOk n to
  · have e1 : advL D n to = tell D to := if_pos c
    have e2 : advD D n to = left D to := if_pos c
    have e3 : advN n to = to.toNat := if_pos c
    have c' := c
    unfold goOk at c'
    refine ⟨?_, ?_, ?_, ?_, ?_, ?_, ?_, ?_⟩
    · rw [e1, e2, tell_left hn]
    · rw [e1]; exact nodup_tell hn to
    · intro id hid
      rw [e1] at hid
      obtain ⟨d, h1, h2⟩ := (mem_tell hn).1 hid
      exact ⟨d, h1, by rw [e3]; omega⟩
    · intro id hid
      rw [e1] at hid
      rw [e2]
      obtain ⟨d, h1, h2⟩ := (mem_tell hn).1 hid
      cases hg : aget (left D to) id with
      | none => rfl
      | some m =>
        have := (aget_left hn).1 hg
        rw [h1] at this
        have := this.1
        cases this; omega
    · rw [e1]
      exact (sortD_pair D _).imp fun h => by rw [leD_iff] at h; omega
    · rw [e3]; omega
    · rw [e2]; have := tell_length D to; omega
    · intro q hq; rw [e2] at hq; exact (mem_left.1 hq).1
  · have e1 : advL D n to = [] := if_neg c
    have e2 : advD D n to = D := if_neg c
    have e3 : advN n to = n := if_neg c
    refine ⟨by rw [e1, e2]; rfl, by rw [e1]; exact List.nodup_nil, (by rw [e1]; intro id h; cases h), (by rw [e1]; intro id h; cases h), by rw [e1]; exact .nil, by rw [e3]; omega, by rw [e2]; omega, by rw [e2]; exact fun q h => h⟩
end Go.Proofs.Yteoecpggmchbkaa
