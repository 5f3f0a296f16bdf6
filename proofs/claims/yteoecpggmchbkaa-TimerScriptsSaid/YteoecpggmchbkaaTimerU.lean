/- timer.Advance: the plain law of the stops. -/
import Derived.Test.YteoecpggmchbkaaTimerT
namespace Go.Proofs.Yteoecpggmchbkaa
open Go.RowKit

theorem lt_of_div {m d b : Nat} (h : m / b < d / b) : m < d := Nat.lt_of_not_le fun hle => absurd (Nat.div_le_div_right (c := b) hle) (by omega)
theorem lt_of_digit {m d b : Nat} (h1 : m / b / 64 = d / b / 64) (h2 : m / b % 64 < d / b % 64) : m < d := lt_of_div (b := b) (by omega)
theorem pow_step (n i : Nat) : n / 64 ^ (i + 1) = n / 64 ^ i / 64 := by rw [Nat.pow_succ, Nat.div_div_eq_div_mul]
theorem pow_above {n m i j : Nat} (h : m / 64 ^ (i + 1) = n / 64 ^ (i + 1)) (hj : i < j) : m / 64 ^ j = n / 64 ^ j := by
  obtain ⟨k, rfl⟩ : ∃ k, j = i + 1 + k := ⟨j - (i + 1), by omega⟩
  rw [Nat.pow_add, ← Nat.div_div_eq_div_mul, ← Nat.div_div_eq_div_mul, h]

/-- The clock goes on. -/
theorem TInv.go {n m : Nat} {D : List (Int × Int)} {S : PS} {X Y : Int → Prop} (h : TInv n D S X) (hXY : ∀ id, X id → Y id) (hm : n ≤ m) (hm2 : m ≤ 1099511627776)
    (hw : ∀ j t id, j < 4 → id ∈ S.1 j t → n / 64 ^ j % 64 < t → ¬ Y id → m / 64 ^ (j + 1) = n / 64 ^ (j + 1) ∧ m / 64 ^ j % 64 < t)
    (hf : ∀ id d, id ∈ akeys S.2.1 → ¬ Y id → aget D id = some ((d : Nat) : Int) → n / 64 ^ 4 < d / 64 ^ 4 → m / 64 ^ 4 < d / 64 ^ 4) : TInv m D S Y := by
  refine ⟨?_, ?_, ?_, ?_, h.rng, hm2, h.nd, h.nf, h.nl⟩
  · intro j t id hj hid hY
    obtain ⟨d, h1, h2, h3, h4, h5⟩ := h.wh j t id hj hid (fun x => hY (hXY id x))
    obtain ⟨k1, k2⟩ := hw j t id hj hid h5 hY
    refine ⟨d, h1, ?_, h3.trans k1.symm, h4, k2⟩
    rw [pow_step] at k1 h3
    rw [pow_step] at k1 h3
    exact lt_of_digit (b := 64 ^ j) (by omega) (by omega)
  · intro id hid hY
    obtain ⟨d, h1, h2, h3⟩ := h.far id hid (fun x => hY (hXY id x))
    have := hf id d hid hY h1 (div_lt_of (64 ^ 4) h2 h3)
    exact ⟨d, h1, lt_of_div this, by omega⟩
  · intro id hid hY
    obtain ⟨d, h1, h2⟩ := h.late id hid (fun x => hY (hXY id x))
    exact ⟨d, h1, by omega⟩
  · intro id v hv hY
    exact h.all id v hv (fun x => hY (hXY id x))

theorem minF_spec (D : List (Int × Int)) (V : List (Int × Bool)) : (∀ id ∈ akeys V, minF D V ≤ fq D id) ∧ minF D V ≤ 2199023255552 ∧ (minF D V = 2199023255552 ∨ ∃ id ∈ akeys V, fq D id = minF D V) := by
  have gen : ∀ (V : List (Int × Bool)) (a : Int), (∀ id ∈ akeys V, V.foldl (fun a p => if fq D p.1 < a then fq D p.1 else a) a ≤ fq D id) ∧ V.foldl (fun a p => if fq D p.1 < a then fq D p.1 else a) a ≤ a ∧ (V.foldl (fun a p => if fq D p.1 < a then fq D p.1 else a) a = a ∨ ∃ id ∈ akeys V, fq D id = V.foldl (fun a p => if fq D p.1 < a then fq D p.1 else a) a) := by
    intro V
    induction V with
    | nil => intro a; exact ⟨(by intro id h; cases h), Int.le_refl _, .inl rfl⟩
    | cons p V ih =>
      intro a
      obtain ⟨h1, h2, h3⟩ := ih (if fq D p.1 < a then fq D p.1 else a)
      simp only [List.foldl_cons]
      refine ⟨fun id hid => ?_, ?_, ?_⟩
      · have hid' : id = p.1 ∨ id ∈ akeys V := by simpa [akeys] using hid
        rcases hid' with rfl | hid'
        · refine Int.le_trans h2 ?_
          split <;> omega
        · exact h1 id hid'
      · refine Int.le_trans h2 ?_
        split <;> omega
      · rcases h3 with h3 | ⟨id, hid, he⟩
        · by_cases c : fq D p.1 < a
          · rw [if_pos c] at h3 ⊢
            exact .inr ⟨p.1, by simp [akeys], h3.symm⟩
          · rw [if_neg c] at h3 ⊢
            exact .inl h3
        · exact .inr ⟨id, by simp only [akeys, List.map_cons, List.mem_cons]; exact .inr hid, he⟩
  exact gen V _

theorem akeys_perm {V W : List (Int × Bool)} (h : V.Perm W) (id : Int) : id ∈ akeys V ↔ id ∈ akeys W := (h.map Prod.fst).mem_iff
theorem mem_atF {D : List (Int × Int)} {a : Int} {V : List (Int × Bool)} {id : Int} : id ∈ atF D a V ↔ id ∈ akeys V ∧ fq D id = a := by
  unfold atF akeys; rw [List.mem_filter, decide_eq_true_eq]
theorem fq_of {D : List (Int × Int)} {id : Int} {d : Nat} (h : aget D id = some (d : Int)) : fq D id = ((d / 16777216 * 16777216 : Nat) : Int) := by
  unfold fq; rw [h]; simp

/-- Between the clock and the next stop nothing turns. -/
theorem StopSays.spec {n : Nat} {D : List (Int × Int)} {S : PS} {at_ : Int} {ids : List Int} (hS : StopSays n D S at_ ids) (h : TInv n D S (fun _ => False)) :
    (n : Int) < at_ ∧ (∀ to : Nat, n ≤ to → (to : Int) < at_ → to ≤ 1099511627776 → TInv to D S (fun _ => False)) ∧
    (at_ ≤ 1099511627776 → ∃ m : Nat, at_ = (m : Int) ∧ TInv m D S (· ∈ ids) ∧ (∀ id ∈ ids, ∃ d : Nat, aget D id = some (d : Int)) ∧ ids ≠ []) := by
  rcases hS with ⟨i, s, hi, hs, hlt, rfl, hne, hrow, hlow, rfl⟩ | ⟨hemp, V, V', hV, hV', rfl, rfl⟩
  · have hb : 0 < 64 ^ i := Nat.pow_pos (by omega)
    have hpe : n / 64 ^ (i + 1) * 64 ^ (i + 1) + s * 64 ^ i = (n / 64 ^ i / 64 * 64 + s) * 64 ^ i := by rw [pow_step, Nat.pow_succ, Nat.add_mul, Nat.mul_assoc (n / 64 ^ i / 64), Nat.mul_comm 64]
    have hdiv : (n / 64 ^ (i + 1) * 64 ^ (i + 1) + s * 64 ^ i) / 64 ^ i = n / 64 ^ i / 64 * 64 + s := by rw [hpe, Nat.mul_div_cancel _ hb]
    have hgo : ∀ m : Nat, n / 64 ^ i ≤ m / 64 ^ i → m / 64 ^ i ≤ n / 64 ^ i / 64 * 64 + s → m / 64 ^ (i + 1) = n / 64 ^ (i + 1) := by
      intro m h1 h2; rw [pow_step, pow_step]; omega
    have key : ∀ m : Nat, ∀ Y : Int → Prop, n ≤ m → m ≤ 1099511627776 → m / 64 ^ i ≤ n / 64 ^ i / 64 * 64 + s → (∀ id, id ∈ S.1 i s → ¬ Y id → m / 64 ^ i % 64 < s) → TInv m D S Y := by
      intro m Y h1 h2 h3 h4
      have he := hgo m (Nat.div_le_div_right h1) h3
      refine h.go (fun _ f => f.elim) h1 h2 ?_ ?_
      · intro j t id hj hid hdj hY
        rcases Nat.lt_trichotomy j i with hji | rfl | hji
        · rw [hlow j hji t hdj] at hid; cases hid
        · refine ⟨he, ?_⟩
          rcases Nat.lt_trichotomy t s with hts | rfl | hts
          · rw [hrow t hdj hts] at hid; cases hid
          · exact h4 id hid hY
          · rw [pow_step, pow_step] at he; omega
        · rw [pow_above he (show i < j + 1 by omega), pow_above he hji]
          exact ⟨rfl, hdj⟩
      · intro id d hid hY hd hlt
        rw [pow_above he hi]; exact hlt
    refine ⟨?_, ?_, ?_⟩
    · have : n < n / 64 ^ (i + 1) * 64 ^ (i + 1) + s * 64 ^ i := lt_of_div (b := 64 ^ i) (by rw [hdiv]; omega)
      omega
    · intro to h1 h2 h3
      have hto : to < n / 64 ^ (i + 1) * 64 ^ (i + 1) + s * 64 ^ i := by omega
      have hq : to / 64 ^ i < n / 64 ^ i / 64 * 64 + s := by rw [hpe] at hto; exact (Nat.div_lt_iff_lt_mul hb).2 hto
      have := Nat.div_le_div_right (c := 64 ^ i) h1
      exact key to _ h1 h3 (by omega) (fun id _ _ => by omega)
    · intro h1
      refine ⟨_, rfl, key _ _ ?_ (by omega) (by rw [hdiv]; exact Nat.le_refl _) (fun id a b => absurd a b), ?_, hne⟩
      · have : n < n / 64 ^ (i + 1) * 64 ^ (i + 1) + s * 64 ^ i := lt_of_div (b := 64 ^ i) (by rw [hdiv]; omega)
        omega
      · intro id hid
        obtain ⟨d, hd, _⟩ := h.wh i s id hi hid (fun f => f)
        exact ⟨d, hd⟩
  · obtain ⟨m1, m2, m3⟩ := minF_spec D V
    have hk : ∀ id, id ∈ akeys S.2.1 → minF D V ≤ fq D id := fun id hid => m1 id ((akeys_perm hV id).2 hid)
    have hn := h.now
    have gt : ∀ id, id ∈ akeys S.2.1 → ∃ d : Nat, aget D id = some (d : Int) ∧ n / 16777216 < d / 16777216 := fun id hid => by
      obtain ⟨d, h1, h2, h3⟩ := h.far id hid (fun f => f)
      refine ⟨d, h1, ?_⟩
      have := div_lt_of (64 ^ 4) h2 h3
      rw [pw4] at this; exact this
    have key : ∀ m : Nat, ∀ Y : Int → Prop, n ≤ m → m ≤ 1099511627776 → (∀ id (d : Nat), id ∈ akeys S.2.1 → ¬ Y id → aget D id = some (d : Int) → m / 16777216 < d / 16777216) → TInv m D S Y := by
      intro m Y h1 h2 h3
      refine h.go (fun _ f => f.elim) h1 h2 ?_ ?_
      · intro j t id hj hid hdj hY
        rw [hemp j hj t hdj] at hid; cases hid
      · intro id d hid hY hd hlt
        rw [pw4]; exact h3 id d hid hY hd
    have hlt : (n : Int) < minF D V := by
      rcases m3 with m3 | ⟨id, hid, he⟩
      · omega
      · obtain ⟨d, h1, h2⟩ := gt id ((akeys_perm hV id).1 hid)
        rw [fq_of h1] at he; omega
    refine ⟨hlt, ?_, ?_⟩
    · intro to h1 h2 h3
      refine key to _ h1 h3 fun id d hid _ hd => ?_
      have := hk id hid
      rw [fq_of hd] at this; omega
    · intro h1
      rcases m3 with m3 | ⟨id, hid, he⟩
      · omega
      · obtain ⟨d, g1, g2⟩ := gt id ((akeys_perm hV id).1 hid)
        rw [fq_of g1] at he
        refine ⟨d / 16777216 * 16777216, he.symm, key _ _ (by omega) (by omega) ?_, ?_, ?_⟩
        · intro id' d' hid' hY hd'
          have h5 := hk id' hid'
          rw [fq_of hd'] at h5
          have h6 : fq D id' ≠ minF D V := fun e => hY (mem_atF.2 ⟨(akeys_perm hV' id').2 hid', e⟩)
          rw [fq_of hd'] at h6
          omega
        · intro id' hid'
          obtain ⟨d', g3, _⟩ := gt id' ((akeys_perm hV' id').1 (mem_atF.1 hid').1)
          exact ⟨d', g3⟩
        · have : id ∈ atF D (minF D V) V' := mem_atF.2 ⟨(akeys_perm hV' id).2 ((akeys_perm hV id).1 hid), by rw [fq_of g1]; exact he⟩
          exact List.ne_nil_of_mem this

/-- Who is late. -/
theorem TInv.late_iff {n : Nat} {D : List (Int × Int)} {S : PS} (h : TInv n D S (fun _ => False)) (id : Int) : id ∈ akeys S.2.2 ↔ ∃ m, aget D id = some m ∧ m ≤ n := by
  constructor
  · intro hid
    obtain ⟨m, h1, h2⟩ := h.late id hid (fun f => f)
    exact ⟨m, h1, by omega⟩
  · rintro ⟨m, h1, h2⟩
    rcases h.all id m h1 (fun f => f) with hl | hf | ⟨i, s, hi, hw⟩
    · exact hl
    · obtain ⟨d, g1, g2, _⟩ := h.far id hf (fun f => f)
      rw [h1] at g1; cases g1; omega
    · obtain ⟨d, g1, g2, _⟩ := h.wh i s id hi hw (fun f => f)
      rw [h1] at g1; cases g1; omega
end Go.Proofs.Yteoecpggmchbkaa
