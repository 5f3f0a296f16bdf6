/- What a Timer tells and what it has left, as plain lists. -/
import Derived.Test.YteoecpggmchbkaaTimerY
namespace Go.Proofs.Yteoecpggmchbkaa
open Go.RowKit

abbrev Al := List (Int × Int)
def left (D : Al) (to : Int) : Al := D.filter (fun p => decide (to < p.2))
def dueKeys (D : Al) (to : Int) : List Int := akeys (D.filter (fun p => decide (p.2 ≤ to)))
def tell (D : Al) (to : Int) : List Int := sortD D (dueKeys D to)

theorem leD_iff (D : Al) (x y : Int) : leD D x y = true ↔ dueOf D x < dueOf D y ∨ (dueOf D x = dueOf D y ∧ x ≤ y) := by
  unfold leD
  rw [ltD]
  simp
  omega
theorem sortD_pair (D : Al) (l : List Int) : (sortD D l).Pairwise (fun x y => leD D x y = true) :=
  List.pairwise_mergeSort (fun a b c h1 h2 => by rw [leD_iff] at *; omega) (fun a b => by rw [Bool.or_eq_true, leD_iff, leD_iff]; omega) l
theorem sortD_perm (D : Al) (l : List Int) : (sortD D l).Perm l := List.mergeSort_perm l _
theorem sorted_eq {D : Al} {l k : List Int} (h : l.Perm k) (hl : l.Pairwise (fun x y => leD D x y = true)) (hk : k.Pairwise (fun x y => leD D x y = true)) : l = k :=
  List.Perm.eq_of_pairwise (le := fun x y => leD D x y = true) (fun a b _ _ h1 h2 => by rw [leD_iff] at h1 h2; omega) hl hk h
theorem sortD_congr {D : Al} {l k : List Int} (h : l.Perm k) : sortD D l = sortD D k :=
  sorted_eq ((sortD_perm D l).trans (h.trans (sortD_perm D k).symm)) (sortD_pair D l) (sortD_pair D k)

variable {D : Al}
theorem mem_dueKeys (hn : (akeys D).Nodup) {to id : Int} : id ∈ dueKeys D to ↔ ∃ m, aget D id = some m ∧ m ≤ to := by
  unfold dueKeys akeys
  rw [List.mem_map]
  constructor
  · rintro ⟨⟨a, m⟩, h, rfl⟩
    rw [List.mem_filter, decide_eq_true_eq] at h
    exact ⟨m, aget_of_mem hn h.1, h.2⟩
  · rintro ⟨m, h1, h2⟩
    exact ⟨(id, m), by rw [List.mem_filter, decide_eq_true_eq]; exact ⟨aget_mem h1, h2⟩, rfl⟩
theorem nodup_sub {p : Int × Int → Bool} (hn : (akeys D).Nodup) : (akeys (D.filter p)).Nodup := ((List.filter_sublist).map _).nodup hn
theorem nodup_left (hn : (akeys D).Nodup) (to : Int) : (akeys (left D to)).Nodup := nodup_sub hn
theorem mem_left {to : Int} {p : Int × Int} : p ∈ left D to ↔ p ∈ D ∧ to < p.2 := by unfold left; rw [List.mem_filter, decide_eq_true_eq]
theorem aget_left (hn : (akeys D).Nodup) {to id : Int} {m : Int} : aget (left D to) id = some m ↔ aget D id = some m ∧ to < m := by
  constructor
  · intro h
    have := mem_left.1 (aget_mem h)
    exact ⟨aget_of_mem hn this.1, this.2⟩
  · rintro ⟨h1, h2⟩
    exact aget_of_mem (nodup_left hn to) (mem_left.2 ⟨aget_mem h1, h2⟩)
theorem mem_tell (hn : (akeys D).Nodup) {to id : Int} : id ∈ tell D to ↔ ∃ m, aget D id = some m ∧ m ≤ to := ((sortD_perm D _).mem_iff).trans (mem_dueKeys hn)
theorem nodup_tell (hn : (akeys D).Nodup) (to : Int) : (tell D to).Nodup := (sortD_perm D _).nodup_iff.2 (nodup_sub hn)
theorem tell_of (hn : (akeys D).Nodup) {to : Int} {L : List Int} (h1 : L.Nodup) (h2 : ∀ id, id ∈ L ↔ ∃ m, aget D id = some m ∧ m ≤ to) : sortD D L = tell D to :=
  sortD_congr ((List.perm_ext_iff_of_nodup h1 (nodup_sub hn)).2 fun id => (h2 id).trans (mem_dueKeys hn).symm)

theorem adel_filter (hn : (akeys D).Nodup) (k : Int) : adel D k = D.filter (fun p => decide (p.1 ≠ k)) := by
  induction D with
  | nil => rfl
  | cons p r ih =>
    obtain ⟨a, b⟩ := p
    simp only [akeys, List.map_cons, List.nodup_cons] at hn
    simp only [adel]
    by_cases h : a = k
    · subst h
      rw [if_pos rfl, List.filter_cons_of_neg (by simp)]
      refine (List.filter_eq_self.2 fun p hp => ?_).symm
      simp only [ne_eq, decide_not, Bool.not_eq_eq_eq_not, Bool.not_true, decide_eq_false_iff_not]
      rintro rfl
      exact hn.1 (List.mem_map.2 ⟨p, hp, rfl⟩)
    · rw [if_neg h, List.filter_cons_of_pos (by simpa using h), ih hn.2]
theorem foldl_adel (hn : (akeys D).Nodup) (l : List Int) : l.foldl adel D = D.filter (fun p => decide (p.1 ∉ l)) := by
  induction l generalizing D with
  | nil => exact (List.filter_eq_self.2 (by simp)).symm
  | cons k l ih =>
    rw [List.foldl_cons, adel_filter hn, ih (nodup_sub hn), List.filter_filter]
    congr 1
    funext p
    simp only [List.mem_cons, not_or, Bool.decide_and]
    rw [Bool.and_comm]
theorem tell_left (hn : (akeys D).Nodup) (to : Int) : (tell D to).foldl adel D = left D to := by
  rw [foldl_adel hn]
  unfold left
  refine List.filter_congr fun p hp => ?_
  rw [decide_eq_decide, mem_tell hn]
  have := aget_of_mem hn (k := p.1) (v := p.2) hp
  rw [this]
  constructor
  · intro h
    exact Int.not_le.1 fun hle => h ⟨_, rfl, hle⟩
  · rintro h ⟨m, hm, hle⟩
    cases hm; omega

theorem left_left {a b : Int} (h : a ≤ b) : left (left D a) b = left D b := by
  unfold left
  rw [List.filter_filter]
  congr 1
  funext p
  rw [← Bool.decide_and, decide_eq_decide]
  constructor
  · exact fun h => h.1
  · exact fun h1 => ⟨h1, by omega⟩
theorem left_self {a b : Int} (h : b ≤ a) : left (left D a) b = left D a := by
  unfold left
  rw [List.filter_filter]
  congr 1
  funext p
  rw [← Bool.decide_and, decide_eq_decide]
  constructor
  · exact fun h => h.2
  · exact fun h1 => ⟨by omega, h1⟩
theorem dueOf_left (hn : (akeys D).Nodup) {a id m : Int} (h : aget D id = some m) (hm : a < m) : dueOf (left D a) id = dueOf D id := by
  unfold dueOf
  rw [(aget_left hn).2 ⟨h, hm⟩, h]
theorem dueOf_of {id m : Int} (h : aget D id = some m) : dueOf D id = m := by unfold dueOf; rw [h]; rfl
/-- What is told by two steps is what is told by one. -/
theorem tell_append (hn : (akeys D).Nodup) {a b : Int} (h : a ≤ b) : tell D b = tell D a ++ tell (left D a) b := by
  have hmemL : ∀ {id}, id ∈ tell (left D a) b ↔ ∃ m, aget D id = some m ∧ a < m ∧ m ≤ b := fun {id} => by
    rw [mem_tell (nodup_left hn a)]
    constructor
    · rintro ⟨m, h1, h2⟩
      exact ⟨m, ((aget_left hn).1 h1).1, ((aget_left hn).1 h1).2, h2⟩
    · rintro ⟨m, h1, h2, h3⟩
      exact ⟨m, (aget_left hn).2 ⟨h1, h2⟩, h3⟩
  refine sorted_eq (D := D) ?_ (sortD_pair D _) ?_
  · refine (List.perm_ext_iff_of_nodup (nodup_tell hn b) ?_).2 fun id => ?_
    · rw [List.nodup_append]
      refine ⟨nodup_tell hn a, nodup_tell (nodup_left hn a) b, fun x hx y hy e => ?_⟩
      subst e
      obtain ⟨m, h1, h2⟩ := (mem_tell hn).1 hx
      obtain ⟨m', h3, h4, _⟩ := hmemL.1 hy
      rw [h1] at h3; cases h3; omega
    · rw [List.mem_append, mem_tell hn, mem_tell hn, hmemL]
      constructor
      · rintro ⟨m, h1, h2⟩
        by_cases c : m ≤ a
        · exact .inl ⟨m, h1, c⟩
        · exact .inr ⟨m, h1, by omega, h2⟩
      · rintro (⟨m, h1, h2⟩ | ⟨m, h1, h2, h3⟩)
        · exact ⟨m, h1, by omega⟩
        · exact ⟨m, h1, h3⟩
  · rw [List.pairwise_append]
    refine ⟨sortD_pair D _, ?_, fun x hx y hy => ?_⟩
    · refine List.Pairwise.imp_of_mem ?_ (sortD_pair (left D a) (dueKeys (left D a) b))
      intro x y hx hy hxy
      obtain ⟨m, h1, h2, _⟩ := hmemL.1 hx
      obtain ⟨m', h3, h4, _⟩ := hmemL.1 hy
      rw [leD_iff, dueOf_left hn h1 h2, dueOf_left hn h3 h4] at hxy
      rwa [leD_iff]
    · obtain ⟨m, h1, h2⟩ := (mem_tell hn).1 hx
      obtain ⟨m', h3, h4, _⟩ := hmemL.1 hy
      rw [leD_iff, dueOf_of h1, dueOf_of h3]; omega
theorem tell_none (hn : (akeys D).Nodup) {to : Int} (h : ∀ p ∈ D, to < p.2) : tell D to = [] := by
  refine List.eq_nil_iff_forall_not_mem.2 fun id hid => ?_
  obtain ⟨m, h1, h2⟩ := (mem_tell hn).1 hid
  have := h _ (aget_mem h1)
  dsimp only at this; omega
theorem left_all {to : Int} (h : ∀ p ∈ D, to < p.2) : left D to = D := List.filter_eq_self.2 fun p hp => by simpa using h p hp
theorem tell_length (D : Al) (to : Int) : (tell D to).length + (left D to).length = D.length := by
  have h1 : (tell D to).length = (D.filter (fun p => decide (p.2 ≤ to))).length := by
    unfold tell
    rw [(sortD_perm D _).length_eq]
    simp [dueKeys, akeys]
  rw [h1]
  unfold left
  induction D with
  | nil => rfl
  | cons p r ih =>
    by_cases h : p.2 ≤ to
    · have h2 : ¬ to < p.2 := by omega
      simp only [List.filter_cons, h, h2, decide_true, decide_false, if_true, List.length_cons]
      simp only [Bool.false_eq_true, if_false]
      have := ih (by unfold tell; rw [(sortD_perm r _).length_eq]; simp [dueKeys, akeys])
      omega
    · have h2 : to < p.2 := by omega
      simp only [List.filter_cons, h, h2, decide_true, decide_false, if_true, List.length_cons]
      simp only [Bool.false_eq_true, if_false]
      have := ih (by unfold tell; rw [(sortD_perm r _).length_eq]; simp [dueKeys, akeys])
      omega

/-- Set, where it may be. -/
def setOk (id m : Int) : Prop := 0 ≤ id ∧ id ≤ 1048575 ∧ 0 ≤ m ∧ m ≤ 1099511627776
instance (id m : Int) : Decidable (setOk id m) := by unfold setOk; infer_instance
def setT (D : Al) (id m : Int) : Al := if setOk id m then aset D id m else D

/-- timer.Advance, in these words. -/
theorem adv_tell {p n to : Nat} {D : Al} {F : List Nat} (w : World) (h : TimerOk w p n D F) (h1 : n ≤ to) (h2 : to ≤ 1099511627776) (hD : D.length ≤ 1000000) :
    Calls Try.prog 15 #[.pointer (some ⟨p, 0, none⟩), .int .i64 to] w fun e w' => ∃ v F', e = .returned v ∧ Held w' F' v (tell D to) ∧ TimerOk w' p to (left D to) F' ∧ Step F F' w w' := by
  have hn : (akeys D).Nodup := by obtain ⟨S, _, hI⟩ := h; exact hI.nd
  refine (adv_told w h h1 h2 hD).mono ?_
  rintro e w' ⟨v, L, F', rfl, hL, hm, hh, hok, hs⟩
  rw [tell_of hn hL hm] at hh hok
  rw [tell_left hn] at hok
  exact ⟨v, F', rfl, hh, hok, hs⟩
theorem set_any {p n : Nat} {D : Al} {F : List Nat} (id m : Int) (w : World) (h : TimerOk w p n D F) :
    Calls Try.prog 14 #[.pointer (some ⟨p, 0, none⟩), .int .i64 id, .int .i64 m] w fun e w' => e = .returned (.int .i64 (if setOk id m then 0 else 1)) ∧ ∃ F', TimerOk w' p n (setT D id m) F' ∧ Step F F' w w' := by
  unfold setT
  by_cases c : setOk id m
  · rw [if_pos c, if_pos c]
    exact set_ok id m w h c.1 c.2.1 c.2.2.1 c.2.2.2
  · rw [if_neg c, if_neg c]
    refine (set_bad p id m w (by unfold setOk at c; omega)).mono ?_
    rintro e w' ⟨rfl, rfl⟩
    exact ⟨rfl, F, h, Step.refl _ _⟩
end Go.Proofs.Yteoecpggmchbkaa
