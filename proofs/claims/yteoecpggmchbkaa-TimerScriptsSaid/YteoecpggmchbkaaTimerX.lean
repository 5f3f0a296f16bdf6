/- timer.Next -/
import Derived.Test.YteoecpggmchbkaaTimerN
import Derived.Maps.RangeWalk
namespace Go.Proofs.Yteoecpggmchbkaa
open Go.RowKit

set_option maxRecDepth 100000 in
theorem tnext_nil (w : World) : Calls Try.prog 18 #[.pointer none] w fun e w' => e = .returned (.tuple #[.int .i64 0, .bool false]) ∧ w = w' := by
  go_enter Try.func18, Try.ntmps18
  go_wp2
  go_ret2
  exact ⟨rfl, rfl⟩

/-- The least of some times, and of a number. -/
def minOf (z : Int) (V : List (Int × Int)) : Int := V.foldl (fun a p => if p.2 < a then p.2 else a) z

theorem minOf_snoc (z : Int) (V : List (Int × Int)) (k v : Int) : minOf z (V ++ [(k, v)]) = if v < minOf z V then v else minOf z V := by
  unfold minOf; rw [List.foldl_append]; rfl
theorem minOf_le (V : List (Int × Int)) : ∀ z, minOf z V ≤ z ∧ ∀ p ∈ V, minOf z V ≤ p.2 := by
  induction V with
  | nil => intro z; exact ⟨Int.le_refl _, fun p hp => by cases hp⟩
  | cons q V ih =>
    intro z
    have h := ih (if q.2 < z then q.2 else z)
    have e : minOf z (q :: V) = minOf (if q.2 < z then q.2 else z) V := rfl
    rw [e]
    have h1 : (if q.2 < z then q.2 else z) ≤ z ∧ (if q.2 < z then q.2 else z) ≤ q.2 := by split <;> omega
    refine ⟨by omega, fun p hp => ?_⟩
    rcases List.mem_cons.1 hp with rfl | hp
    · omega
    · exact h.2 p hp
theorem minOf_mem (V : List (Int × Int)) : ∀ z, minOf z V = z ∨ ∃ p ∈ V, minOf z V = p.2 := by
  induction V with
  | nil => intro z; exact .inl rfl
  | cons q V ih =>
    intro z
    have e : minOf z (q :: V) = minOf (if q.2 < z then q.2 else z) V := rfl
    rw [e]
    rcases ih (if q.2 < z then q.2 else z) with h | ⟨p, hp, h⟩
    · rw [h]; split
      · exact .inr ⟨q, .head _, rfl⟩
      · exact .inl rfl
    · exact .inr ⟨p, .tail _ hp, h⟩

def TNext (D : List (Int × Int)) (w : World) (e : Ending) (w' : World) : Prop :=
  (D = [] ∧ e = .returned (.tuple #[.int .i64 0, .bool false]) ∧ w = w') ∨ (D ≠ [] ∧ ∃ V, V.Perm D ∧ e = .returned (.tuple #[.int .i64 (minOf 2199023255552 V), .bool true]) ∧ Below w.heap.size w w')

set_option maxRecDepth 100000 in
/-- timer.Next -/
theorem tnext_any {p n : Nat} {D : List (Int × Int)} {F : List Nat} (w : World) (h : TimerOk w p n D F) : Calls Try.prog 18 #[.pointer (some ⟨p, 0, none⟩)] w (TNext D w) := by
  obtain ⟨S, ⟨md, mf, ml, bs, Fs, t0, hF0⟩, -⟩ := h
  have c1 := t0.cells.2.1
  have hlen := fun t => run_len t0.hd Try.underlying46 t
  have HD := hid t0.hd
  clear t0 hF0
  cases D with
  | nil =>
    simp only [List.length_nil] at hlen
    go_enter Try.func18, Try.ntmps18
    go_wp2
    go_ret2
    exact .inl ⟨rfl, rfl, rfl⟩
  | cons d0 D0 =>
    obtain ⟨D, hD⟩ : ∃ D, D = d0 :: D0 := ⟨_, rfl⟩
    rw [← hD] at hlen HD ⊢
    have hne : ((D.length : Int) == 0) = false := by rw [hD]; simp; omega
    have HN := hid hD; clear hD
    go_enter Try.func18, Try.ntmps18
    go_wp2_with (at_range; refine wpList_range_is (ek := ekI) (ev := ekI) (l := D) rfl _ rfl Try.underlying46 md rfl HD.out ?next)
    case next =>
      intro x hr
      have HR := hid hr; clear hr
      have hb := (Below.refl w.heap.size w).alloc (Nat.le_refl _) x
      have HB := hid hb; clear hb
      generalize w.alloc x = w1 at *
      clear hlen
      go_wp2_with fail
      go_loopg [4] D.length (fun k v wr => ∃ V R, R.length = k ∧ v = .int .i64 (minOf 2199023255552 V) ∧ RangeAt ekI ekI wr w.heap.size md D V R ∧ Below w.heap.size w wr)
      case atStart => exact ⟨[], D, rfl, rfl, HR.out, HB.out⟩
      case round =>
        obtain ⟨V, R, hk, rfl, hr, hb⟩ := hrel
        rcases run_next_gen (P := Try.prog) hr 0 with ⟨rfl, hrun⟩ | ⟨R1, k, v, R2, w2, rfl, hrun, hr2, hu, hsz, hent⟩
        · have HR2 := hid hr; have HB2 := hid hb; clear hr hb hk
          go_wp2
          go_ret2
          exact .inr ⟨by rw [HN.out]; simp, V, by have := HR2.out.perm; rwa [List.append_nil] at this, rfl, HB2.out⟩
        · have hb2 : Below w.heap.size w w2 := hb.trans (hu.below (by have := hr.map.lt; have := hr.lt; exact Nat.le_of_lt (by omega)) (fun y hy e => by omega))
          have HR2 := hid hr2; have HB2 := hid hb2; have HK := hid hk
          clear hr hb hk hr2 hb2 hu hsz
          simp only [ekI] at hrun hent
          go_wp2
          · have hlt : v < minOf 2199023255552 V := by assumption
            go_roundg (R1 ++ R2).length
            case measure => have := HK.out; simp at this ⊢; omega
            case rel => exact ⟨V ++ [(k, v)], R1 ++ R2, rfl, by rw [minOf_snoc, if_pos hlt], HR2.out, HB2.out⟩
          · have hle : minOf 2199023255552 V ≤ v := by assumption
            go_roundg (R1 ++ R2).length
            case measure => have := HK.out; simp at this ⊢; omega
            case rel => exact ⟨V ++ [(k, v)], R1 ++ R2, rfl, by rw [minOf_snoc, if_neg (by omega)], HR2.out, HB2.out⟩
end Go.Proofs.Yteoecpggmchbkaa
