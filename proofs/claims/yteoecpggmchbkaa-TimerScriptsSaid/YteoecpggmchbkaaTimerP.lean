/- Where a Timer's ids lie: the plain law. -/
import Derived.Test.YteoecpggmchbkaaTimerB
namespace Go.Proofs.Yteoecpggmchbkaa
open Go.RowKit

abbrev PS := (Nat → Nat → List Int) × List (Int × Bool) × List (Int × Bool)
def liftS (id : Int) (S : PS) : PS := (liftW S.1 id, adel S.2.1 id, adel S.2.2 id)
def placeS (n : Nat) (id : Int) (m : Nat) (S : PS) : PS :=
  if m ≤ n then (S.1, S.2.1, aset S.2.2 id true)
  else if m / 64 = n / 64 then (fupd S.1 0 (addR (dropR (S.1 0) id) (m % 64) id), S.2.1, S.2.2)
  else if m / 4096 = n / 4096 then (fupd S.1 1 (addR (dropR (S.1 1) id) (m / 64 % 64) id), S.2.1, S.2.2)
  else if m / 262144 = n / 262144 then (fupd S.1 2 (addR (dropR (S.1 2) id) (m / 4096 % 64) id), S.2.1, S.2.2)
  else if m / 16777216 = n / 16777216 then (fupd S.1 3 (addR (dropR (S.1 3) id) (m / 262144 % 64) id), S.2.1, S.2.2)
  else (S.1, aset S.2.1 id true, S.2.2)

structure TInv (n : Nat) (D : List (Int × Int)) (S : PS) (X : Int → Prop) : Prop where
  wh : ∀ i s id, i < 4 → id ∈ S.1 i s → ¬ X id → ∃ m : Nat, aget D id = some (m : Int) ∧ n < m ∧ m / 64 ^ (i + 1) = n / 64 ^ (i + 1) ∧ m / 64 ^ i % 64 = s ∧ n / 64 ^ i % 64 < s
  far : ∀ id, id ∈ akeys S.2.1 → ¬ X id → ∃ m : Nat, aget D id = some (m : Int) ∧ n < m ∧ m / 64 ^ 4 ≠ n / 64 ^ 4
  late : ∀ id, id ∈ akeys S.2.2 → ¬ X id → ∃ m : Nat, aget D id = some (m : Int) ∧ m ≤ n
  all : ∀ id m, aget D id = some m → ¬ X id → id ∈ akeys S.2.2 ∨ id ∈ akeys S.2.1 ∨ ∃ i s, i < 4 ∧ id ∈ S.1 i s
  rng : ∀ id m, aget D id = some m → 0 ≤ id ∧ id ≤ 1048575 ∧ 0 ≤ m ∧ m ≤ 1099511627776
  now : n ≤ 1099511627776
  nd : (akeys D).Nodup
  nf : (akeys S.2.1).Nodup
  nl : (akeys S.2.2).Nodup

theorem pw1 : (64 : Nat) ^ 1 = 64 := by decide
theorem pw2 : (64 : Nat) ^ 2 = 4096 := by decide
theorem pw3 : (64 : Nat) ^ 3 = 262144 := by decide
theorem pw4 : (64 : Nat) ^ 4 = 16777216 := by decide

theorem mem_liftW {Wh : Nat → Nat → List Int} {id y : Int} {i s : Nat} (hi : i < 4) : y ∈ liftW Wh id i s ↔ y ≠ id ∧ y ∈ Wh i s := by
  unfold liftW dropR
  rw [if_pos hi]
  simp [and_comm]

theorem TInv.mono {n : Nat} {D : List (Int × Int)} {S : PS} {X Y : Int → Prop} (h : TInv n D S X) (hXY : ∀ id, X id → Y id) : TInv n D S Y :=
  ⟨fun i s id a b c => h.wh i s id a b (fun x => c (hXY id x)), fun id a b => h.far id a (fun x => b (hXY id x)), fun id a b => h.late id a (fun x => b (hXY id x)), fun id m a b => h.all id m a (fun x => b (hXY id x)), h.rng, h.now, h.nd, h.nf, h.nl⟩

/-- An id is taken out of where it lies. -/
theorem TInv.lift {n : Nat} {D : List (Int × Int)} {S : PS} {X : Int → Prop} (h : TInv n D S X) (id : Int) : TInv n D (liftS id S) (fun y => y = id ∨ X y) := by
  refine ⟨?_, ?_, ?_, ?_, h.rng, h.now, h.nd, nodup_adel h.nf id, nodup_adel h.nl id⟩
  · intro i s y hi hy hX
    exact h.wh i s y hi ((mem_liftW hi).1 hy).2 (fun x => hX (.inr x))
  · intro y hy hX
    exact h.far y ((mem_akeys_adel h.nf).1 hy).2 (fun x => hX (.inr x))
  · intro y hy hX
    exact h.late y ((mem_akeys_adel h.nl).1 hy).2 (fun x => hX (.inr x))
  · intro y m hy hX
    have hne : y ≠ id := fun e => hX (.inl e)
    rcases h.all y m hy (fun x => hX (.inr x)) with h1 | h1 | ⟨i, s, hi, h1⟩
    · exact .inl ((mem_akeys_adel h.nl).2 ⟨hne, h1⟩)
    · exact .inr (.inl ((mem_akeys_adel h.nf).2 ⟨hne, h1⟩))
    · exact .inr (.inr ⟨i, s, hi, (mem_liftW hi).2 ⟨hne, h1⟩⟩)

/-- An id that lies nowhere is had with another time, or no more. -/
theorem TInv.due {n : Nat} {D D' : List (Int × Int)} {S : PS} {X : Int → Prop} (h : TInv n D S X) (id : Int) (hid : X id) (hD : ∀ y, y ≠ id → aget D' y = aget D y) (hr : ∀ m, aget D' id = some m → 0 ≤ id ∧ id ≤ 1048575 ∧ 0 ≤ m ∧ m ≤ 1099511627776) (hn : (akeys D').Nodup) : TInv n D' S X := by
  refine ⟨?_, ?_, ?_, ?_, ?_, h.now, hn, h.nf, h.nl⟩
  · intro i s y hi hy hX
    rw [hD y (fun e => hX (e ▸ hid))]; exact h.wh i s y hi hy hX
  · intro y hy hX
    rw [hD y (fun e => hX (e ▸ hid))]; exact h.far y hy hX
  · intro y hy hX
    rw [hD y (fun e => hX (e ▸ hid))]; exact h.late y hy hX
  · intro y m hy hX
    rw [hD y (fun e => hX (e ▸ hid))] at hy; exact h.all y m hy hX
  · intro y m hy
    by_cases e : y = id
    · subst e; exact hr m hy
    · rw [hD y e] at hy; exact h.rng y m hy

theorem mem_place {Wh : Nat → Nat → List Int} {id y : Int} {i k s t : Nat} : y ∈ fupd Wh k (addR (dropR (Wh k) id) t id) i s → (y ≠ id ∨ i ≠ k) ∧ y ∈ Wh i s ∨ (i = k ∧ s = t ∧ y = id) := by
  unfold fupd addR dropR
  intro h
  split at h
  · rename_i e
    subst e
    dsimp only at h
    split at h
    · rename_i e2
      subst e2
      rcases List.mem_append.1 h with h | h
      · simp only [List.mem_filter, decide_eq_true_eq, ne_eq] at h; exact .inl ⟨.inl (by simpa using h.2), h.1⟩
      · exact .inr ⟨rfl, rfl, by simpa using h⟩
    · simp only [List.mem_filter, decide_eq_true_eq, ne_eq] at h; exact .inl ⟨.inl (by simpa using h.2), h.1⟩
  · rename_i e; exact .inl ⟨.inr e, h⟩
theorem place_mem {Wh : Nat → Nat → List Int} {id y : Int} {i k s t : Nat} (h : y ≠ id ∧ y ∈ Wh i s) : y ∈ fupd Wh k (addR (dropR (Wh k) id) t id) i s := by
  unfold fupd addR dropR
  split
  · rename_i e; subst e
    dsimp only
    split
    · exact List.mem_append.2 (.inl (by simp [h.1, h.2]))
    · simp [h.1, h.2]
  · exact h.2
theorem place_self {Wh : Nat → Nat → List Int} {id : Int} {k t : Nat} : id ∈ fupd Wh k (addR (dropR (Wh k) id) t id) k t := by
  unfold fupd addR; simp

theorem digit_lt {n m : Nat} (h : n < m) (e : m / 64 = n / 64) : n % 64 < m % 64 := by omega
theorem div_lt_of {n m : Nat} (k : Nat) (h : n < m) (ne : m / k ≠ n / k) : n / k < m / k := by
  have := Nat.div_le_div_right (c := k) (Nat.le_of_lt h)
  omega

/-- An id that lies nowhere is placed. -/
theorem TInv.place {n : Nat} {D : List (Int × Int)} {S : PS} {X : Int → Prop} (h : TInv n D S X) (id : Int) {m : Nat} (hg : aget D id = some (m : Int)) (hw : ∀ i s, i < 4 → id ∉ S.1 i s) (hf : id ∉ akeys S.2.1) (hl : id ∉ akeys S.2.2) :
    TInv n D (placeS n id m S) (fun y => y ≠ id ∧ X y) := by
  have hX : ∀ {y}, ¬ (y ≠ id ∧ X y) → y ≠ id → ¬ X y := fun h1 h2 h3 => h1 ⟨h2, h3⟩
  have inW : ∀ k t, k < 4 → n < m → m / 64 ^ (k + 1) = n / 64 ^ (k + 1) → m / 64 ^ k % 64 = t → n / 64 ^ k % 64 < t → TInv n D (fupd S.1 k (addR (dropR (S.1 k) id) t id), S.2.1, S.2.2) (fun y => y ≠ id ∧ X y) := by
    intro k t hk hlt h1 h2 h3
    refine ⟨?_, ?_, ?_, ?_, h.rng, h.now, h.nd, h.nf, h.nl⟩
    · intro i s y hi hy hXy
      rcases mem_place hy with ⟨_, h5⟩ | ⟨rfl, rfl, rfl⟩
      · exact h.wh i s y hi h5 (hX hXy (fun e => hw i s hi (e ▸ h5)))
      · exact ⟨m, hg, hlt, h1, h2, h3⟩
    · intro y hy hXy
      exact h.far y hy (hX hXy (fun e => hf (e ▸ hy)))
    · intro y hy hXy
      exact h.late y hy (hX hXy (fun e => hl (e ▸ hy)))
    · intro y v hy hXy
      by_cases e : y = id
      · subst e; exact .inr (.inr ⟨k, t, hk, place_self⟩)
      · rcases h.all y v hy (hX hXy e) with h1 | h1 | ⟨i, s, hi, h1⟩
        · exact .inl h1
        · exact .inr (.inl h1)
        · exact .inr (.inr ⟨i, s, hi, place_mem ⟨e, h1⟩⟩)
  unfold placeS
  by_cases c0 : m ≤ n
  · rw [if_pos c0]
    refine ⟨?_, ?_, ?_, ?_, h.rng, h.now, h.nd, h.nf, nodup_aset h.nl id true⟩
    · intro i s y hi hy hXy
      exact h.wh i s y hi hy (hX hXy (fun e => hw i s hi (e ▸ hy)))
    · intro y hy hXy
      exact h.far y hy (hX hXy (fun e => hf (e ▸ hy)))
    · intro y hy hXy
      rcases mem_akeys_aset.1 hy with rfl | hy
      · exact ⟨m, hg, c0⟩
      · exact h.late y hy (hX hXy (fun e => hl (e ▸ hy)))
    · intro y v hy hXy
      by_cases e : y = id
      · subst e; exact .inl (mem_akeys_aset.2 (.inl rfl))
      · rcases h.all y v hy (hX hXy e) with h1 | h1
        · exact .inl (mem_akeys_aset.2 (.inr h1))
        · exact .inr h1
  rw [if_neg c0]
  have hlt : n < m := by omega
  by_cases c1 : m / 64 = n / 64
  · rw [if_pos c1]
    exact inW 0 _ (by omega) hlt (by simpa using c1) (by simp) (by simpa using digit_lt hlt c1)
  rw [if_neg c1]
  by_cases c2 : m / 4096 = n / 4096
  · rw [if_pos c2]
    have := div_lt_of 64 hlt c1
    exact inW 1 _ (by omega) hlt (by simpa [pw2] using c2) (by simp) (by simp only [pw1]; omega)
  rw [if_neg c2]
  by_cases c3 : m / 262144 = n / 262144
  · rw [if_pos c3]
    have := div_lt_of 4096 hlt c2
    exact inW 2 _ (by omega) hlt (by simpa [pw3] using c3) (by simp [pw2]) (by simp only [pw2]; omega)
  rw [if_neg c3]
  by_cases c4 : m / 16777216 = n / 16777216
  · rw [if_pos c4]
    have := div_lt_of 262144 hlt c3
    exact inW 3 _ (by omega) hlt (by simpa [pw4] using c4) (by simp [pw3]) (by simp only [pw3]; omega)
  rw [if_neg c4]
  refine ⟨?_, ?_, ?_, ?_, h.rng, h.now, h.nd, nodup_aset h.nf id true, h.nl⟩
  · intro i s y hi hy hXy
    exact h.wh i s y hi hy (hX hXy (fun e => hw i s hi (e ▸ hy)))
  · intro y hy hXy
    rcases mem_akeys_aset.1 hy with rfl | hy
    · exact ⟨m, hg, hlt, by rw [pw4]; exact c4⟩
    · exact h.far y hy (hX hXy (fun e => hf (e ▸ hy)))
  · intro y hy hXy
    exact h.late y hy (hX hXy (fun e => hl (e ▸ hy)))
  · intro y v hy hXy
    by_cases e : y = id
    · subst e; exact .inr (.inl (mem_akeys_aset.2 (.inl rfl)))
    · rcases h.all y v hy (hX hXy e) with h1 | h1 | h1
      · exact .inl h1
      · exact .inr (.inl (mem_akeys_aset.2 (.inr h1)))
      · exact .inr (.inr h1)
/-- An id is lifted and placed. -/
theorem TInv.relay {n : Nat} {D : List (Int × Int)} {S : PS} {X : Int → Prop} (h : TInv n D S X) (id : Int) {m : Nat} (hg : aget D id = some (m : Int)) : TInv n D (placeS n id m (liftS id S)) (fun y => y ≠ id ∧ X y) := by
  have h1 := (h.lift id).place id hg (fun i s hi hm => ((mem_liftW hi).1 hm).1 rfl) (fun hm => ((mem_akeys_adel h.nf).1 hm).1 rfl) (fun hm => ((mem_akeys_adel h.nl).1 hm).1 rfl)
  exact h1.mono fun y hy => ⟨hy.1, hy.2.resolve_left hy.1⟩

/-- timer.place -/
theorem place_any {p n m : Nat} {D : List (Int × Int)} {S : PS} {F : List Nat} (id : Int) (w : World) (h : TimerAt w p n D S.1 S.2.1 S.2.2 F) (hid0 : 0 ≤ id) (hid1 : id ≤ 1048575) (hg : aget D id = some (m : Int)) (hm : m ≤ 1099511627776) (hn : n ≤ 1099511627776) :
    Calls Try.prog 27 #[.pointer (some ⟨p, 0, none⟩), .int .i64 id] w fun e w' => e = .returned (.tuple #[]) ∧ ∃ F', TimerAt w' p n D (placeS n id m S).1 (placeS n id m S).2.1 (placeS n id m S).2.2 F' ∧ Step F F' w w' := by
  unfold placeS
  by_cases c0 : m ≤ n
  · rw [if_pos c0]; exact place_late id w h hg hm hn c0
  rw [if_neg c0]
  have hlt : n < m := by omega
  by_cases c1 : m / 64 = n / 64
  · rw [if_pos c1]; exact place_w0 id w h hid0 hid1 hg hm hn hlt c1
  rw [if_neg c1]
  by_cases c2 : m / 4096 = n / 4096
  · rw [if_pos c2]; exact place_w1 id w h hid0 hid1 hg hm hn hlt c1 c2
  rw [if_neg c2]
  by_cases c3 : m / 262144 = n / 262144
  · rw [if_pos c3]; exact place_w2 id w h hid0 hid1 hg hm hn hlt c1 c2 c3
  rw [if_neg c3]
  by_cases c4 : m / 16777216 = n / 16777216
  · rw [if_pos c4]; exact place_w3 id w h hid0 hid1 hg hm hn hlt c1 c2 c3 c4
  rw [if_neg c4]; exact place_far id w h hg hm hn hlt c1 c2 c3 c4
end Go.Proofs.Yteoecpggmchbkaa
