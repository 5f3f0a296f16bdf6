/- sandglassref08's list, sorted, and a Timer's association list: plain. -/
import Derived.Test.YteoecpggmchbkaaTimerQ
namespace Go.Proofs.Yteoecpggmchbkaa
open Go.RowKit

/-- In order of when it is due, and then of the id. -/
def ltP (p q : Int × Int) : Prop := p.2 < q.2 ∨ (p.2 = q.2 ∧ p.1 < q.1)
instance (p q : Int × Int) : Decidable (ltP p q) := by unfold ltP; infer_instance
/-- A list in order has what D has. -/
structure Ord (L D : Al) : Prop where
  perm : L.Perm D
  ord : L.Pairwise ltP
  nd : (akeys D).Nodup
namespace Ord
variable {L D : Al}
theorem ndL (h : Ord L D) : (akeys L).Nodup := (h.perm.map Prod.fst).nodup_iff.2 h.nd
theorem get (h : Ord L D) (id : Int) : aget L id = aget D id := by
  cases e : aget D id with
  | some m => exact aget_of_mem h.ndL (h.perm.mem_iff.2 (aget_mem e))
  | none => exact aget_none.2 fun hm => aget_none.1 e ((h.perm.map Prod.fst).mem_iff.1 hm)
theorem len (h : Ord L D) : L.length = D.length := h.perm.length_eq
theorem nil : Ord [] [] := ⟨.refl _, .nil, List.nodup_nil⟩
theorem filter (h : Ord L D) (p : Int × Int → Bool) : Ord (L.filter p) (D.filter p) := ⟨h.perm.filter p, h.ord.filter p, nodup_sub h.nd⟩
theorem del (h : Ord L D) (id : Int) : Ord (adel L id) (adel D id) := by
  rw [adel_filter h.ndL, adel_filter h.nd]; exact h.filter _
end Ord

/-- Where one that is new belongs. -/
def ins (L : Al) (x : Int × Int) : Al := L.takeWhile (fun p => decide (ltP p x)) ++ x :: L.dropWhile (fun p => decide (ltP p x))
theorem ins_perm (L : Al) (x : Int × Int) : (ins L x).Perm (x :: L) := by
  unfold ins
  refine List.perm_middle.trans ?_
  rw [List.takeWhile_append_dropWhile]
theorem ltP_trans {a b c : Int × Int} (h : ltP a b) (k : ltP b c) : ltP a c := by unfold ltP at *; omega
theorem ltP_total {a b : Int × Int} (h : a.1 ≠ b.1) (k : ¬ ltP a b) : ltP b a := by unfold ltP at *; omega
theorem ins_ord {L : Al} {x : Int × Int} (h : L.Pairwise ltP) (hx : ∀ p ∈ L, p.1 ≠ x.1) : (ins L x).Pairwise ltP := by
  unfold ins
  rw [List.pairwise_append]
  have hL : L.takeWhile (fun p => decide (ltP p x)) ++ L.dropWhile (fun p => decide (ltP p x)) = L := List.takeWhile_append_dropWhile
  have hall : ∀ p ∈ L.takeWhile (fun p => decide (ltP p x)), ltP p x := fun p hp => by simpa using List.all_eq_true.1 (List.all_takeWhile (p := fun p => decide (ltP p x)) (l := L)) p hp
  have hsub : ∀ p ∈ L.dropWhile (fun p => decide (ltP p x)), p ∈ L := fun p hp => (List.dropWhile_sublist _).subset hp
  have hpw := h
  rw [← hL, List.pairwise_append] at hpw
  have hge : ∀ p ∈ L.dropWhile (fun p => decide (ltP p x)), ltP x p := by
    intro p hp
    cases hd : L.dropWhile (fun p => decide (ltP p x)) with
    | nil => rw [hd] at hp; cases hp
    | cons q r =>
      have hq : ¬ ltP q x := by
        have := List.head_dropWhile_not (fun p => decide (ltP p x)) (l := L) (by rw [hd]; simp)
        simpa [hd] using this
      have hqx : ltP x q := ltP_total (hx q (hsub q (by rw [hd]; exact .head _))) hq
      rw [hd] at hp hpw
      rcases List.mem_cons.1 hp with rfl | hp
      · exact hqx
      · exact ltP_trans hqx ((List.pairwise_cons.1 hpw.2.1).1 p hp)
  refine ⟨hpw.1, List.pairwise_cons.2 ⟨hge, hpw.2.1⟩, fun a ha b hb => ?_⟩
  rcases List.mem_cons.1 hb with rfl | hb
  · exact hall a ha
  · exact hpw.2.2 a ha b hb
theorem aset_perm {D : Al} (h : (akeys D).Nodup) (k v : Int) : (aset D k v).Perm ((k, v) :: adel D k) := by
  have h1 : (aset D k v).Nodup := by
    have := nodup_aset h k v
    exact (List.Pairwise.of_map Prod.fst (fun _ _ h e => h (e ▸ rfl)) this)
  have h2 : ((k, v) :: adel D k).Nodup := by
    refine List.nodup_cons.2 ⟨fun hm => ?_, List.Pairwise.of_map Prod.fst (fun _ _ h e => h (e ▸ rfl)) (nodup_adel h k)⟩
    exact ((mem_adel h).1 hm).1 rfl
  refine (List.perm_ext_iff_of_nodup h1 h2).2 fun p => ?_
  obtain ⟨a, b⟩ := p
  rw [mem_aset h, List.mem_cons, mem_adel h, Prod.mk.injEq]
theorem Ord.set {L D : Al} (h : Ord L D) (k v : Int) : Ord (ins (adel L k) (k, v)) (aset D k v) := by
  have h1 := h.del k
  refine ⟨(ins_perm _ _).trans (((List.perm_cons _).2 h1.perm).trans (aset_perm h.nd k v).symm), ins_ord h1.ord fun p hp => ?_, nodup_aset h.nd k v⟩
  exact ((mem_adel h.ndL (x := p.1) (v := p.2)).1 hp).1

theorem ord_due {L : Al} (h : L.Pairwise ltP) : L.Pairwise (fun p q => p.2 ≤ q.2) := h.imp fun h => by unfold ltP at h; omega
theorem take_le {L : Al} (h : L.Pairwise (fun p q => p.2 ≤ q.2)) (to : Int) : L.takeWhile (fun p => decide (p.2 ≤ to)) = L.filter (fun p => decide (p.2 ≤ to)) ∧ L.dropWhile (fun p => decide (p.2 ≤ to)) = L.filter (fun p => decide (to < p.2)) := by
  induction L with
  | nil => exact ⟨rfl, rfl⟩
  | cons p r ih =>
    rw [List.pairwise_cons] at h
    by_cases c : p.2 ≤ to
    · have c' : ¬ to < p.2 := by omega
      rw [List.takeWhile_cons_of_pos (by simpa using c), List.dropWhile_cons_of_pos (by simpa using c), List.filter_cons_of_pos (by simpa using c), List.filter_cons_of_neg (by simpa using c'), (ih h.2).1, (ih h.2).2]
      exact ⟨rfl, rfl⟩
    · have c' : to < p.2 := by omega
      rw [List.takeWhile_cons_of_neg (by simpa using c), List.dropWhile_cons_of_neg (by simpa using c), List.filter_cons_of_neg (by simpa using c), List.filter_cons_of_pos (by simpa using c')]
      refine ⟨(List.filter_eq_nil_iff.2 fun q hq => ?_).symm, ?_⟩
      · have := h.1 q hq; simp; omega
      · rw [List.filter_eq_self.2 fun q hq => ?_]
        have := h.1 q hq; simp; omega
/-- What goes, as a Timer tells it; and what stays. -/
theorem Ord.adv {L D : Al} (h : Ord L D) (to : Int) : (L.takeWhile (fun p => decide (p.2 ≤ to))).map Prod.fst = tell D to ∧ Ord (L.dropWhile (fun p => decide (p.2 ≤ to))) (left D to) := by
  obtain ⟨e1, e2⟩ := take_le (ord_due h.ord) to
  rw [e1, e2]
  refine ⟨?_, h.filter _⟩
  refine sorted_eq (D := D) (((h.perm.filter _).map Prod.fst).trans (sortD_perm D _).symm) ?_ (sortD_pair D _)
  rw [List.pairwise_map]
  refine List.Pairwise.imp_of_mem ?_ (h.ord.filter _)
  intro p q hp hq hpq
  have g1 : aget D p.1 = some p.2 := aget_of_mem h.nd (h.perm.mem_iff.1 ((List.mem_filter.1 hp).1))
  have g2 : aget D q.1 = some q.2 := aget_of_mem h.nd (h.perm.mem_iff.1 ((List.mem_filter.1 hq).1))
  rw [leD_iff, dueOf_of g1, dueOf_of g2]
  unfold ltP at hpq
  omega
/-- The first one. -/
theorem Ord.first {p : Int × Int} {L D : Al} (h : Ord (p :: L) D) : (∀ q ∈ D, p.2 ≤ q.2) ∧ ∃ q ∈ D, q.2 = p.2 := by
  refine ⟨fun q hq => ?_, p, h.perm.mem_iff.1 (.head _), rfl⟩
  rcases List.mem_cons.1 (h.perm.mem_iff.2 hq) with rfl | hq
  · exact Int.le_refl _
  · exact (List.pairwise_cons.1 (ord_due h.ord)).1 q hq
end Go.Proofs.Yteoecpggmchbkaa
