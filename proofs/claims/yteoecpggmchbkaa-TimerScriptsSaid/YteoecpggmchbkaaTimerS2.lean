/- timer.stop -/
import Derived.Test.YteoecpggmchbkaaTimerS0
import Derived.Test.YteoecpggmchbkaaTimerS1
namespace Go.Proofs.Yteoecpggmchbkaa
open Go.RowKit

theorem WheelR.rnd {w : World} {b : Nat} {R : Nat → List Int} {F : List Nat} (h : WheelR w b R F) (s : Nat) : (R s).Nodup := by
  obtain ⟨L, ⟨cells, m, k, cap, x, A, h, rfl⟩, hL⟩ := h
  rw [← hL]
  have h1 := h.rnd s
  have h2 : ∀ p ∈ L s, p ∈ A := fun p hp => (h.mem p).2 ⟨s, hp⟩
  have h3 : (akeys A).Nodup := h.hm.nodup
  revert h1 h2
  generalize L s = l
  induction l with
  | nil => intro _ _; simp
  | cons p l ih =>
    intro h1 h2
    simp only [List.map_cons, List.nodup_cons] at h1 ⊢
    refine ⟨fun hm => ?_, ih h1.2 fun q hq => h2 q (.tail _ hq)⟩
    obtain ⟨q, hq, he⟩ := List.mem_map.1 hm
    have e1 := aget_of_mem h3 (k := p.1) (v := p.2) (h2 p (.head _))
    have e2 := aget_of_mem h3 (k := q.1) (v := q.2) (h2 q (.tail _ hq))
    rw [he, e1] at e2
    exact h1.1 (List.mem_map.2 ⟨q, hq, (Option.some.inj e2).symm⟩)

theorem sub_len {l k : List Int} (h : l.Nodup) (hs : ∀ x ∈ l, x ∈ k) : l.length ≤ k.length := by
  induction l generalizing k with
  | nil => simp
  | cons x l ih =>
    rw [List.nodup_cons] at h
    have hx := hs x (.head _)
    have := ih (k := k.erase x) h.2 (fun y hy => (List.mem_erase_of_ne (fun e : y = x => h.1 (e ▸ hy))).2 (hs y (.tail _ hy)))
    rw [List.length_erase_of_mem hx] at this
    have := List.length_pos_of_mem hx
    simp only [List.length_cons]; omega

theorem mem_akeys_of {l : List (Int × Int)} {k m : Int} (h : aget l k = some m) : k ∈ akeys l := List.mem_map.2 ⟨(k, m), aget_mem h, rfl⟩

theorem TInv.row_len {n : Nat} {D : List (Int × Int)} {S : PS} (h : TInv n D S (fun _ => False)) {i s : Nat} (hi : i < 4) (hn : (S.1 i s).Nodup) : (S.1 i s).length ≤ D.length := by
  have := sub_len (k := akeys D) hn (fun x hx => by obtain ⟨m, hm, _⟩ := h.wh i s x hi hx (fun f => f); exact mem_akeys_of hm)
  simpa [akeys] using this
theorem TInv.far_len {n : Nat} {D : List (Int × Int)} {S : PS} (h : TInv n D S (fun _ => False)) : S.2.1.length ≤ D.length := by
  have := sub_len (k := akeys D) h.nf (fun x hx => by obtain ⟨m, hm, _⟩ := h.far x hx (fun f => f); exact mem_akeys_of hm)
  simpa [akeys] using this
theorem TInv.late_len {n : Nat} {D : List (Int × Int)} {S : PS} (h : TInv n D S (fun _ => False)) : S.2.2.length ≤ D.length := by
  have := sub_len (k := akeys D) h.nl (fun x hx => by obtain ⟨m, hm, _⟩ := h.late x hx (fun f => f); exact mem_akeys_of hm)
  simpa [akeys] using this

theorem stop_any {p n : Nat} {D : List (Int × Int)} {S : PS} {F : List Nat} (w : World) (h : TimerAt w p n D S.1 S.2.1 S.2.2 F) (hI : TInv n D S (fun _ => False)) (hD : D.length ≤ 1000000) :
    Calls Try.prog 28 #[.pointer (some ⟨p, 0, none⟩)] w (StopPost n D S w) := by
  have hsv := h
  obtain ⟨md, mf, ml, bs, Fs, t, hF⟩ := h
  have hn := hI.now
  have hlen : ∀ i s, i < 4 → (S.1 i s).length ≤ 1000000 := fun i s hi => Nat.le_trans (hI.row_len hi ((t.hw i hi).rnd s)) hD
  have hf := Nat.le_trans hI.far_len hD
  have hr : ∀ id m, aget D id = some m → 0 ≤ m ∧ m ≤ 1099511627776 := fun id m hm => (hI.rng id m hm).2.2
  rcases firstRow (S.1 0) (fun s hs => (t.hw 0 (by omega)).out hs) (n % 64) with ⟨s, hs⟩ | k0
  · exact stop_0 w hsv hn (hlen 0 s (by omega)) hs
  rcases firstRow (S.1 1) (fun s hs => (t.hw 1 (by omega)).out hs) (n / 64 % 64) with ⟨s, hs⟩ | k1
  · exact stop_1 w hsv hn (hlen 1 s (by omega)) k0 hs
  rcases firstRow (S.1 2) (fun s hs => (t.hw 2 (by omega)).out hs) (n / 4096 % 64) with ⟨s, hs⟩ | k2
  · exact stop_2 w hsv hn (hlen 2 s (by omega)) k0 k1 hs
  rcases firstRow (S.1 3) (fun s hs => (t.hw 3 (by omega)).out hs) (n / 262144 % 64) with ⟨s, hs⟩ | k3
  · exact stop_3 w hsv hn (hlen 3 s (by omega)) k0 k1 k2 hs
  exact stop_far w hsv hn hf hr k0 k1 k2 k3

end Go.Proofs.Yteoecpggmchbkaa
