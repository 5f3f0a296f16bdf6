/- timer.stop -/
import Derived.Test.YteoecpggmchbkaaTimerX
namespace Go.Proofs.Yteoecpggmchbkaa
open Go.RowKit

theorem wnext' {b : Nat} {R : Nat → List Int} {F : List Nat} (d : Nat) (w : World) (hd : d < 64) (h : WheelR w b R F) :
    Calls Try.prog 36 #[.pointer (some ⟨b, 0, none⟩), .int .i64 ((d : Int) + 1)] w fun e w' => NextR R (d + 1) e ∧ w = w' := wnext (d + 1) w (by omega) h

/-- When one that is far has to be laid anew. -/
def fq (D : List (Int × Int)) (id : Int) : Int := (aget D id).getD 0 / 16777216 * 16777216
def minF (D : List (Int × Int)) (V : List (Int × Bool)) : Int := V.foldl (fun a p => if fq D p.1 < a then fq D p.1 else a) 2199023255552
theorem minF_snoc (D : List (Int × Int)) (V : List (Int × Bool)) (k : Int) (v : Bool) : minF D (V ++ [(k, v)]) = if fq D k < minF D V then fq D k else minF D V := by
  unfold minF; rw [List.foldl_append]; rfl
def atF (D : List (Int × Int)) (a : Int) (V : List (Int × Bool)) : List Int := (V.map Prod.fst).filter (fun id => fq D id = a)
theorem atF_snoc (D : List (Int × Int)) (a : Int) (V : List (Int × Bool)) (k : Int) (v : Bool) : atF D a (V ++ [(k, v)]) = if fq D k = a then atF D a V ++ [k] else atF D a V := by
  unfold atF; rw [List.map_append, List.filter_append]
  by_cases h : fq D k = a <;> simp [h]

/-- What timer.stop tells. -/
def StopSays (n : Nat) (D : List (Int × Int)) (S : PS) (at_ : Int) (ids : List Int) : Prop :=
  (∃ i s, i < 4 ∧ s < 64 ∧ n / 64 ^ i % 64 < s ∧ ids = S.1 i s ∧ ids ≠ [] ∧ (∀ t, n / 64 ^ i % 64 < t → t < s → S.1 i t = []) ∧ (∀ j, j < i → ∀ t, n / 64 ^ j % 64 < t → S.1 j t = []) ∧ at_ = ((n / 64 ^ (i + 1) * 64 ^ (i + 1) + s * 64 ^ i : Nat) : Int)) ∨
  ((∀ j, j < 4 → ∀ t, n / 64 ^ j % 64 < t → S.1 j t = []) ∧ ∃ V V', V.Perm S.2.1 ∧ V'.Perm S.2.1 ∧ at_ = minF D V ∧ ids = atF D (minF D V) V')

theorem TimerIs.rowAt {w : World} {p : Nat} {now : Int} {D : List (Int × Int)} {Wh : Nat → Nat → List Int} {FAR LATE : List (Int × Bool)} {md mf ml : Nat} {bs : Nat → Nat} {Fs : Nat → List Nat} (h : TimerIs w p now D Wh FAR LATE md mf ml bs Fs) {i s : Nat} (hs : s < 64) (hlen : (Wh i s).length ≤ 1000000) (hi : i < 4) :
    ∀ W : World, W.heap = w.heap → W.tape = w.tape → W.os = w.os → W.output = w.output → Calls Try.prog 37 #[.pointer (some ⟨bs i, 0, none⟩), .int .i64 s] W fun e w' => ∃ v, e = .returned v ∧ w'.ownsRow w.heap.size 3 1 v (Wh i s).length ((Wh i s).map ekI) ∧ Below w.heap.size w w' ∧ w'.cell? ⟨p, 0, none⟩ = some (.int .i64 now) := by
  intro W e1 e2 e3 e4
  refine (wrow s W hs hlen ((h.hw i hi).congr fun y _ => by rw [e1])).mono ?_
  rintro e w' ⟨v, he, hown, hb⟩
  rw [e1] at hown hb
  have hb' : Below w.heap.size w w' := ⟨hb.os.trans e3, hb.tape.trans e2, hb.output.trans e4, by have := hb.size; rwa [e1] at this, fun k hk => (hb.block k hk).trans (by rw [e1])⟩
  exact ⟨v, he, hown, hb', (hb'.cell (p := ⟨p, 0, none⟩) (lt_of_heap h.blk)).trans h.cells.1⟩

theorem join_at {A B : Nat} (i : Nat) (hA : A % 2 ^ i = 0) (hB : B < 2 ^ i) (h : A + B < 9223372036854775808) : bits .or .i64 (A : Int) (B : Int) = ((A + B : Nat) : Int) := by
  rw [i64_or_nat A B (by omega) (by omega), nat_join i A B hA hB]

theorem least {P : Nat → Prop} : ∀ n, P n → ∃ m, P m ∧ m ≤ n ∧ ∀ k, k < m → ¬ P k := by
  intro n
  induction n using Nat.strongRecOn with
  | _ n ih =>
    intro h
    by_cases hk : ∃ k, k < n ∧ P k
    · obtain ⟨k, hk1, hk2⟩ := hk
      obtain ⟨m, h1, h2, h3⟩ := ih k hk1 hk2
      exact ⟨m, h1, by omega, h3⟩
    · exact ⟨n, h, Nat.le_refl _, fun k h1 h2 => hk ⟨k, h1, h2⟩⟩
/-- A row behind d is the first one that has something, or there is none. -/
def FirstRow (R : Nat → List Int) (d s : Nat) : Prop := s < 64 ∧ d < s ∧ R s ≠ [] ∧ ∀ t, d < t → t < s → R t = []
theorem firstRow (R : Nat → List Int) (hout : ∀ s, 64 ≤ s → R s = []) (d : Nat) : (∃ s, FirstRow R d s) ∨ ∀ t, d < t → R t = [] := by
  by_cases h : ∃ s, d < s ∧ R s ≠ []
  · obtain ⟨s, hs⟩ := h
    obtain ⟨m, ⟨h1, h2⟩, _, h3⟩ := least (P := fun s => d < s ∧ R s ≠ []) s hs
    refine .inl ⟨m, Nat.lt_of_not_le fun hle => h2 (hout m hle), h1, h2, fun t a b => ?_⟩
    cases hR : R t with
    | nil => rfl
    | cons x r => exact absurd ⟨a, by rw [hR]; simp⟩ (h3 t b)
  · refine .inr fun t ht => ?_
    cases hR : R t with
    | nil => rfl
    | cons x r => exact absurd ⟨t, ht, by rw [hR]; simp⟩ h
theorem wnext_yes {b : Nat} {R : Nat → List Int} {F : List Nat} {d s : Nat} (w : World) (hd : d < 64) (h : WheelR w b R F) (hs : FirstRow R d s) :
    Calls Try.prog 36 #[.pointer (some ⟨b, 0, none⟩), .int .i64 ((d : Int) + 1)] w fun e w' => e = .returned (.tuple #[.int .i64 (s : Nat), .bool true]) ∧ w = w' := by
  refine (wnext' d w hd h).mono ?_
  rintro e w' ⟨he, hw⟩
  refine ⟨?_, hw⟩
  obtain ⟨s1, s2, s3, s4⟩ := hs
  rcases he with ⟨i, h1, h2, h3, h4, rfl⟩ | ⟨h1, rfl⟩
  · have : i = s := by
      rcases Nat.lt_trichotomy i s with h | h | h
      · exact absurd (s4 i (by omega) h) h3
      · exact h
      · exact absurd (h4 s (by omega) h) s3
    rw [this]
  · exact absurd (h1 s (by omega)) s3
theorem wnext_no {b : Nat} {R : Nat → List Int} {F : List Nat} {d : Nat} (w : World) (hd : d < 64) (h : WheelR w b R F) (hs : ∀ t, d < t → R t = []) :
    Calls Try.prog 36 #[.pointer (some ⟨b, 0, none⟩), .int .i64 ((d : Int) + 1)] w fun e w' => e = .returned (.tuple #[.int .i64 0, .bool false]) ∧ w = w' := by
  refine (wnext' d w hd h).mono ?_
  rintro e w' ⟨he, hw⟩
  refine ⟨?_, hw⟩
  rcases he with ⟨i, h1, h2, h3, h4, rfl⟩ | ⟨h1, rfl⟩
  · exact absurd (hs i (by omega)) h3
  · rfl

/-- What timer.stop comes to. -/
def StopPost (n : Nat) (D : List (Int × Int)) (S : PS) (w : World) (e : Ending) (w' : World) : Prop :=
  ∃ at_ lvl v ids, e = .returned (.tuple #[.int .i64 at_, .int .i64 lvl, v]) ∧ w'.ownsRow w.heap.size 3 1 v ids.length (ids.map ekI) ∧ Below w.heap.size w w' ∧ StopSays n D S at_ ids

end Go.Proofs.Yteoecpggmchbkaa
