/- timer: Set, Cancel, Due, Now, Len. -/
import Derived.Test.YteoecpggmchbkaaTimerP
namespace Go.Proofs.Yteoecpggmchbkaa
open Go.RowKit

/-- THE TIMER IN BLOCK p IS AT n, AND HAS D. -/
def TimerOk (w : World) (p n : Nat) (D : List (Int × Int)) (F : List Nat) : Prop := ∃ S : PS, TimerAt w p n D S.1 S.2.1 S.2.2 F ∧ TInv n D S (fun _ => False)

theorem TimerOk.lt {w : World} {p n : Nat} {D : List (Int × Int)} {F : List Nat} (h : TimerOk w p n D F) : ∀ y ∈ F, y < w.heap.size := by obtain ⟨S, h, _⟩ := h; exact h.lt
theorem TimerOk.upd {G : Nat → Prop} {w w' : World} {p n : Nat} {D : List (Int × Int)} {F : List Nat} (h : TimerOk w p n D F) (hu : Upd G w w') (hd : ∀ y ∈ F, ¬ G y) : TimerOk w' p n D F := by
  obtain ⟨S, h, hi⟩ := h; exact ⟨S, h.upd hu hd, hi⟩

set_option maxRecDepth 100000 in
/-- timer.Set: what may not be. -/
theorem set_bad (p : Nat) (id due : Int) (w : World) (h : id < 0 ∨ 1048575 < id ∨ due < 0 ∨ 1099511627776 < due) :
    Calls Try.prog 14 #[.pointer (some ⟨p, 0, none⟩), .int .i64 id, .int .i64 due] w fun e w' => e = .returned (.int .i64 1) ∧ w = w' := by
  by_cases h1 : id < 0
  · go_enter Try.func14, Try.ntmps14
    go_wp2
    go_ret
    exact ⟨rfl, rfl⟩
  by_cases h2 : 1048575 < id
  · go_enter Try.func14, Try.ntmps14
    go_wp2
    go_ret
    exact ⟨rfl, rfl⟩
  by_cases h3 : due < 0
  · go_enter Try.func14, Try.ntmps14
    go_wp2
    go_ret
    exact ⟨rfl, rfl⟩
  have h4 : 1099511627776 < due := by omega
  clear h
  go_enter Try.func14, Try.ntmps14
  go_wp2
  go_ret
  exact ⟨rfl, rfl⟩
set_option maxRecDepth 100000 in
theorem set_nil (id due : Int) (w : World) :
    Calls Try.prog 14 #[.pointer none, .int .i64 id, .int .i64 due] w fun e w' => e = .returned (.int .i64 1) ∧ w = w' := by
  go_enter Try.func14, Try.ntmps14
  go_wp2
  go_ret
  exact ⟨rfl, rfl⟩
set_option maxRecDepth 100000 in
theorem set_ok {p n : Nat} {D : List (Int × Int)} {F : List Nat} (id due : Int) (w : World) (h : TimerOk w p n D F) (h1 : 0 ≤ id) (h2 : id ≤ 1048575) (h3 : 0 ≤ due) (h4 : due ≤ 1099511627776) :
    Calls Try.prog 14 #[.pointer (some ⟨p, 0, none⟩), .int .i64 id, .int .i64 due] w fun e w' => e = .returned (.int .i64 0) ∧ ∃ F', TimerOk w' p n (aset D id due) F' ∧ Step F F' w w' := by
  obtain ⟨S, h, hI⟩ := h
  obtain ⟨m, rfl⟩ := Int.eq_ofNat_of_zero_le h3
  have hL := lift_any id w h
  have hI2 : TInv n (aset D id m) (liftS id S) (fun y => y = id ∨ False) := (hI.lift id).due id (.inl rfl) (fun y hy => by rw [aget_aset, if_neg (Ne.symm hy)]) (fun v hv => by rw [aget_aset, if_pos rfl] at hv; cases hv; exact ⟨h1, h2, h3, h4⟩) (nodup_aset hI.nd id m)
  have hI3 : TInv n (aset D id m) (placeS n id m (liftS id S)) (fun _ => False) := by
    have := hI2.place id (m := m) (by rw [aget_aset, if_pos rfl]) (fun i s hi hm => ((mem_liftW hi).1 hm).1 rfl) (fun hm => ((mem_akeys_adel hI.nf).1 hm).1 rfl) (fun hm => ((mem_akeys_adel hI.nl).1 hm).1 rfl)
    exact this.mono fun y hy => hy.2.elim hy.1 (fun x => x)
  have HI := hid hI; have HI3 := hid hI3; have HL := hid hL
  clear hI hI2 hI3 hL
  have hn := HI.out.now
  clear h
  go_enter Try.func14, Try.ntmps14
  go_wp2_with fail
  refine HL.out.mono ?_
  rintro e w1 ⟨rfl, F1, ⟨md, mf, ml, bs, Fs, t1, hF1⟩, s1⟩
  have T1 := hid t1; have S1 := hid s1; have E1 := hid hF1; clear t1 s1 hF1
  have c1 := T1.out.cells.2.1
  go_wp2_with (at_mapUpdate; refine wpList_update_is (ev := ekI) (l := D) rfl _ _ _ rfl (keyInt Try.underlying3) Try.underlying46 md rfl id rfl (m : Int) rfl T1.out.hd ?next)
  case next =>
    intro w2 k1 k2 k3
    have ap := T1.out.apart.h1
    obtain ⟨t2, s2⟩ := T1.out.step (x := md) (now' := n) (D' := aset D id m) (FAR' := adel S.2.1 id) (LATE' := adel S.2.2 id) (by simp) k2 (by rw [if_neg ap.1]) (by rw [if_pos rfl]; exact k1) (by rw [if_neg (Ne.symm ap.2.2.2.1)]) (by rw [if_neg (Ne.symm ap.2.2.2.2.1)])
    have hP := place_any (S := liftS id S) (m := m) id w2 ⟨md, mf, ml, bs, Fs, t2, rfl⟩ h1 h2 (by rw [aget_aset, if_pos rfl]) (by omega) hn
    have S2 := hid s2; have HP := hid hP; clear t2 s2 k1 k2 k3 hP c1
    go_wp2_with fail
    refine HP.out.mono ?_
    rintro e w3 ⟨rfl, F3, t3, s3⟩
    have T3 := hid t3; have S3 := hid s3; clear t3 s3
    go_wp2
    go_ret
    refine ⟨rfl, F3, ⟨_, T3.out, HI3.out⟩, ?_⟩
    have e1 := E1.out
    subst e1
    exact (S1.out.trans S2.out).trans S3.out

set_option maxRecDepth 100000 in
theorem cancel_nil (id : Int) (w : World) :
    Calls Try.prog 19 #[.pointer none, .int .i64 id] w fun e w' => e = .returned (.bool false) ∧ w = w' := by
  go_enter Try.func19, Try.ntmps19
  go_wp2
  go_ret
  exact ⟨rfl, rfl⟩
set_option maxRecDepth 100000 in
/-- timer.Cancel -/
theorem cancel_any {p n : Nat} {D : List (Int × Int)} {F : List Nat} (id : Int) (w : World) (h : TimerOk w p n D F) :
    Calls Try.prog 19 #[.pointer (some ⟨p, 0, none⟩), .int .i64 id] w fun e w' => e = .returned (.bool (aget D id).isSome) ∧ ∃ F', TimerOk w' p n (adel D id) F' ∧ Step F F' w w' := by
  obtain ⟨S, h, hI⟩ := h
  have hL := lift_any id w h
  have hsv := h
  obtain ⟨md, mf, ml, bs, Fs, t0, hF0⟩ := h
  have c1 := t0.cells.2.1
  have hl := run_lookup_ok t0.hd (keyInt Try.underlying3) Try.underlying46 Try.zeroInt id
  simp only [ekI] at hl
  clear t0
  cases hg : aget D id with
  | none =>
    rw [hg] at hl
    simp only [Option.elim_none, Option.isSome_none] at hl
    have HS : Hid (∃ F', TimerOk w p n (adel D id) F' ∧ Step F F' w w) := ⟨F, ⟨S, by rw [adel_of_not_mem (aget_none.1 hg)]; exact hsv, by rw [adel_of_not_mem (aget_none.1 hg)]; exact hI⟩, Step.refl _ _⟩
    clear hI hL hsv hF0 hg
    go_enter Try.func19, Try.ntmps19
    go_wp2
    go_ret
    exact ⟨rfl, HS.out⟩
  | some v =>
    rw [hg] at hl
    simp only [Option.elim_some, Option.isSome_some, ekI] at hl
    have hI2 : TInv n (adel D id) (liftS id S) (fun _ => False) := by
      have h1 := (hI.lift id).due (D' := adel D id) id (.inl rfl) (fun y hy => by rw [aget_adel hI.nd, if_neg (Ne.symm hy)]) (fun v hv => by rw [aget_adel hI.nd, if_pos rfl] at hv; cases hv) (nodup_adel hI.nd id)
      refine ⟨?_, ?_, ?_, ?_, h1.rng, h1.now, h1.nd, h1.nf, h1.nl⟩
      · intro i s y hi hy _
        exact h1.wh i s y hi hy (fun e => ((mem_liftW hi).1 hy).1 (e.resolve_right (fun x => x)))
      · intro y hy _
        exact h1.far y hy (fun e => ((mem_akeys_adel hI.nf).1 hy).1 (e.resolve_right (fun x => x)))
      · intro y hy _
        exact h1.late y hy (fun e => ((mem_akeys_adel hI.nl).1 hy).1 (e.resolve_right (fun x => x)))
      · intro y m hy _
        refine h1.all y m hy (fun e => ?_)
        rw [aget_adel hI.nd, if_pos (e.resolve_right (fun x => x)).symm] at hy
        cases hy
    have HI2 := hid hI2; have HL := hid hL
    clear hI hI2 hL hsv hF0 hg
    go_enter Try.func19, Try.ntmps19
    go_wp2_with fail
    refine HL.out.mono ?_
    rintro e w1 ⟨rfl, F1, ⟨md, mf, ml, bs, Fs, t1, hF1⟩, s1⟩
    have T1 := hid t1; have S1 := hid s1; have E1 := hid hF1; clear t1 s1 hF1 c1 hl
    have c1 := T1.out.cells.2.1
    go_wp2_with (at_delete; refine wpList_delete_is (ev := ekI) (l := D) rfl _ _ _ rfl (keyInt Try.underlying3) Try.underlying46 md rfl id rfl T1.out.hd ?next)
    case next =>
      intro w2 k1 k2 k3
      have ap := T1.out.apart.h1
      obtain ⟨t2, s2⟩ := T1.out.step (x := md) (now' := n) (D' := adel D id) (FAR' := adel S.2.1 id) (LATE' := adel S.2.2 id) (by simp) k2 (by rw [if_neg ap.1]) (by rw [if_pos rfl]; exact k1) (by rw [if_neg (Ne.symm ap.2.2.2.1)]) (by rw [if_neg (Ne.symm ap.2.2.2.2.1)])
      have T2 := hid t2; have S2 := hid s2; clear t2 s2 k1 k2 k3 c1
      go_wp2
      go_ret
      refine ⟨rfl, _, ⟨liftS id S, ⟨md, mf, ml, bs, Fs, T2.out, rfl⟩, HI2.out⟩, ?_⟩
      have e1 := E1.out
      subst e1
      exact S1.out.trans S2.out

set_option maxRecDepth 100000 in
theorem due_nil (id : Int) (w : World) :
    Calls Try.prog 17 #[.pointer none, .int .i64 id] w fun e w' => e = .returned (.tuple #[.int .i64 0, .bool false]) ∧ w = w' := by
  go_enter Try.func17, Try.ntmps17
  go_wp2
  go_ret2
  exact ⟨rfl, rfl⟩
set_option maxRecDepth 100000 in
/-- timer.Due -/
theorem due_any {p n : Nat} {D : List (Int × Int)} {F : List Nat} (id : Int) (w : World) (h : TimerOk w p n D F) :
    Calls Try.prog 17 #[.pointer (some ⟨p, 0, none⟩), .int .i64 id] w fun e w' => e = .returned (.tuple #[.int .i64 ((aget D id).getD 0), .bool (aget D id).isSome]) ∧ w = w' := by
  obtain ⟨S, ⟨md, mf, ml, bs, Fs, t0, hF0⟩, -⟩ := h
  have c1 := t0.cells.2.1
  have hl := run_lookup_ok t0.hd (keyInt Try.underlying3) Try.underlying46 Try.zeroInt id
  simp only [ekI] at hl
  clear t0 hF0
  have e1 : (aget D id).elim (.int .i64 0) ekI = .int .i64 ((aget D id).getD 0) := by cases aget D id <;> rfl
  rw [e1] at hl
  clear e1
  go_enter Try.func17, Try.ntmps17
  go_wp2
  go_ret2
  exact ⟨rfl, rfl⟩
set_option maxRecDepth 100000 in
theorem now_nil (w : World) : Calls Try.prog 12 #[.pointer none] w fun e w' => e = .returned (.int .i64 0) ∧ w = w' := by
  go_enter Try.func12, Try.ntmps12
  go_wp2
  go_ret
  exact ⟨rfl, rfl⟩
set_option maxRecDepth 100000 in
theorem now_any {p n : Nat} {D : List (Int × Int)} {F : List Nat} (w : World) (h : TimerOk w p n D F) : Calls Try.prog 12 #[.pointer (some ⟨p, 0, none⟩)] w fun e w' => e = .returned (.int .i64 n) ∧ w = w' := by
  obtain ⟨S, ⟨md, mf, ml, bs, Fs, t0, hF0⟩, -⟩ := h
  have c0 := t0.cells.1
  clear t0 hF0
  go_enter Try.func12, Try.ntmps12
  go_wp2
  go_ret
  exact ⟨rfl, rfl⟩
set_option maxRecDepth 100000 in
theorem len_nil' (w : World) : Calls Try.prog 13 #[.pointer none] w fun e w' => e = .returned (.int .i64 0) ∧ w = w' := by
  go_enter Try.func13, Try.ntmps13
  go_wp2
  go_ret
  exact ⟨rfl, rfl⟩
set_option maxRecDepth 100000 in
theorem len_any {p n : Nat} {D : List (Int × Int)} {F : List Nat} (w : World) (h : TimerOk w p n D F) : Calls Try.prog 13 #[.pointer (some ⟨p, 0, none⟩)] w fun e w' => e = .returned (.int .i64 D.length) ∧ w = w' := by
  obtain ⟨S, ⟨md, mf, ml, bs, Fs, t0, hF0⟩, -⟩ := h
  have c1 := t0.cells.2.1
  have HD := hid t0.hd
  clear t0 hF0
  go_enter Try.func13, Try.ntmps13
  go_wp2_with (at_len; refine wpList_len_is (ek := ekI) (ev := ekI) (l := D) rfl _ rfl Try.underlying46 md rfl HD.out ?next)
  go_ret
  exact ⟨rfl, rfl⟩
end Go.Proofs.Yteoecpggmchbkaa
