/- TimerJumps' walk. -/
import Derived.Test.YteoecpggmchbkaaTimerOn
import Derived.Test.YteoecpggmchbkaaAppend
namespace Go.Proofs.Yteoecpggmchbkaa
open Go.RowKit

/-- Two Timers of one's own. -/
structure Pair (w0 w : World) (pa na : Nat) (Da : Al) (Fa : List Nat) (pb nb : Nat) (Db : Al) (Fb : List Nat) : Prop where
  a : Mine w0.heap.size w0 w pa na Da Fa
  b : Mine w0.heap.size w0 w pb nb Db Fb
  ap : ∀ y ∈ Fa, y ∉ Fb
section
variable {w0 w w' : World} {pa na na' pb nb nb' : Nat} {Da Da' Db Db' : Al} {Fa Fa' Fb Fb' : List Nat}
theorem Pair.stepA (h : Pair w0 w pa na Da Fa pb nb Db Fb) (hs : Step Fa Fa' w w') (ok : TimerOk w' pa na' Da' Fa') : Pair w0 w' pa na' Da' Fa' pb nb Db Fb :=
  have m := h.a.step hs ok
  ⟨m, ⟨h.b.ok.upd hs.upd (fun y hy hm => h.ap y hm hy), h.b.low, m.size, m.below⟩, fun y hy hm => (hs.sub y hy).elim (fun hy => h.ap y hy hm) (fun hle => by have := h.b.ok.lt y hm; omega)⟩
theorem Pair.stepB (h : Pair w0 w pa na Da Fa pb nb Db Fb) (hs : Step Fb Fb' w w') (ok : TimerOk w' pb nb' Db' Fb') : Pair w0 w' pa na Da Fa pb nb' Db' Fb' :=
  have m := h.b.step hs ok
  ⟨⟨h.a.ok.upd hs.upd (fun y hy hm => h.ap y hy hm), h.a.low, m.size, m.below⟩, m, fun y hy hm => (hs.sub y hm).elim (fun hm => h.ap y hy hm) (fun hle => by have := h.a.ok.lt y hy; omega)⟩
theorem Pair.keep (h : Pair w0 w pa na Da Fa pb nb Db Fb) (hu : Upd (fun _ => False) w w') : Pair w0 w' pa na Da Fa pb nb Db Fb :=
  ⟨h.a.keep hu, h.b.keep hu, h.ap⟩
theorem Pair.upd {G : Nat → Prop} (h : Pair w0 w pa na Da Fa pb nb Db Fb) (hu : Upd G w w') (hG : ∀ y, G y → w0.heap.size ≤ y ∧ y ∉ Fa ∧ y ∉ Fb) : Pair w0 w' pa na Da Fa pb nb Db Fb :=
  have hb : Below w0.heap.size w0 w' := h.a.below.trans (hu.below h.a.size (fun x hx hg => by have := (hG x hg).1; omega))
  ⟨⟨h.a.ok.upd hu (fun y hy hg => (hG y hg).2.1 hy), h.a.low, Nat.le_trans h.a.size hu.size, hb⟩, ⟨h.b.ok.upd hu (fun y hy hg => (hG y hg).2.2 hy), h.b.low, Nat.le_trans h.b.size hu.size, hb⟩, h.ap⟩
end
/-- A row of the call's own, apart from both. -/
def OwnL (w0 w : World) (Fa Fb : List Nat) (v : Value) (l : List Int) : Prop := w.ownsRow w0.heap.size 3 1 v l.length (l.map ekI) ∧ ∀ g, v.ownBlock = some g → g ∉ Fa ∧ g ∉ Fb
section
variable {w0 w w' : World} {Fa Fa' Fb Fb' : List Nat} {v : Value} {l : List Int}
theorem OwnL.stepA (h : OwnL w0 w Fa Fb v l) (hs : Step Fa Fa' w w') : OwnL w0 w' Fa' Fb v l :=
  ⟨ownsRow_block h.1 fun g hg => hs.keep (h.1.lt g hg).2 (h.2 g hg).1, fun g hg => ⟨fun hm => (hs.sub g hm).elim (h.2 g hg).1 (fun hle => by have := (h.1.lt g hg).2; omega), (h.2 g hg).2⟩⟩
theorem OwnL.stepB (h : OwnL w0 w Fa Fb v l) (hs : Step Fb Fb' w w') : OwnL w0 w' Fa Fb' v l :=
  ⟨ownsRow_block h.1 fun g hg => hs.keep (h.1.lt g hg).2 (h.2 g hg).2, fun g hg => ⟨(h.2 g hg).1, fun hm => (hs.sub g hm).elim (h.2 g hg).2 (fun hle => by have := (h.1.lt g hg).2; omega)⟩⟩
end
theorem SliceI.src {w : World} {v : Value} {xs : List Int} (h : SliceI w v xs) : Src w v xs.length (xs.map ekI) := by
  obtain ⟨a, c, rfl, hc⟩ := h
  refine ⟨a, c, rfl, fun j u hu => ?_⟩
  rw [List.getElem?_map] at hu
  cases hx : xs[j]? with
  | none => rw [hx] at hu; cases hu
  | some x => rw [hx] at hu; cases hu; exact hc j x hx

theorem kept_append {w0 w w' : World} {pa na pb nb : Nat} {Da Db : Al} {Fa Fb : List Nat} {v v' : Value} {l k : List Int} (h : Pair w0 w pa na Da Fa pb nb Db Fb) (ho : OwnL w0 w Fa Fb v l)
    (ho' : w'.ownsRow w0.heap.size 3 1 v' (l.length + k.length) (l.map ekI ++ k.map ekI)) (hg : w.grownBy w' v.ownBlock) (hn : ∀ g, v'.ownBlock = some g → v.ownBlock = some g ∨ w.heap.size ≤ g) : Pair w0 w' pa na Da Fa pb nb Db Fb ∧ OwnL w0 w' Fa Fb v' (l ++ k) := by
  refine ⟨h.upd (grown_upd hg) (fun y hy => ⟨(ho.1.lt y hy).1, ho.2 y hy⟩), by simpa using ho', fun g hg => ?_⟩
  rcases hn g hg with h1 | h1
  · exact ho.2 g h1
  · exact ⟨fun hm => by have := h.a.ok.lt g hm; omega, fun hm => by have := h.b.ok.lt g hm; omega⟩
theorem set_q {p n : Nat} {D : Al} {F : List Nat} (id m : Int) (w : World) (h : TimerOk w p n D F) :
    Calls Try.prog 14 #[.pointer (some ⟨p, 0, none⟩), .int .i64 id, .int .i64 m] w fun e w' => ∃ r F', e = .returned (.int .i64 r) ∧ TimerOk w' p n (setT D id m) F' ∧ Step F F' w w' := by
  refine (set_any id m w h).mono ?_
  rintro e w' ⟨rfl, F', h1, h2⟩
  exact ⟨_, F', rfl, h1, h2⟩
theorem due_q {p n : Nat} {D : Al} {F : List Nat} (id : Int) (w : World) (h : TimerOk w p n D F) {r : Int} {b : Bool} (hr : (aget D id).getD 0 = r) (hb : (aget D id).isSome = b) :
    Calls Try.prog 17 #[.pointer (some ⟨p, 0, none⟩), .int .i64 id] w fun e w' => e = .returned (.tuple #[.int .i64 r, .bool b]) ∧ w = w' := by
  subst hr; subst hb; exact due_any id w h

/-- What a's steps have told, and what is left, against D0. -/
structure Runs (D0 : Al) (now n : Nat) (D : Al) (L : List Int) : Prop where
  le : now ≤ n
  top : n ≤ 1099511627776
  len : L.length + D.length = D0.length
  nd : (akeys D).Nodup
  tells : ∀ to : Int, (n : Int) ≤ to → tell D0 to = L ++ tell D to ∧ left D0 to = left D to
theorem Runs.start {D0 : Al} {now : Nat} (h : now ≤ 1099511627776) (hn : (akeys D0).Nodup) : Runs D0 now now D0 [] := ⟨Nat.le_refl _, h, by simp, hn, fun _ _ => ⟨rfl, rfl⟩⟩
theorem Runs.step {D0 D : Al} {now n : Nat} {L : List Int} (h : Runs D0 now n D L) (s : Int) : Runs D0 now (advN n s) (advD D n s) (L ++ advL D n s) := by
  unfold advN advD advL
  by_cases c : goOk n s
  · rw [if_pos c, if_pos c, if_pos c]
    unfold goOk at c
    refine ⟨by have := h.le; omega, by omega, by have := tell_length D s; have := h.len; simp; omega, nodup_left h.nd s, fun to hto => ?_⟩
    obtain ⟨e1, e2⟩ := h.tells to (by omega)
    rw [e1, e2, tell_append h.nd (a := s) (b := to) (by omega), left_left (by omega), List.append_assoc]
    exact ⟨rfl, rfl⟩
  · rw [if_neg c, if_neg c, if_neg c, List.append_nil]; exact h

set_option maxRecDepth 100000 in
set_option maxHeartbeats 1000000 in
theorem jumps_short {now : Int} {v vs : Value} {ops : List (Int × Int × Int)} {steps : List Int} (w : World) (hv : SliceOp w v ops) (hs : SliceI w vs steps) (h : 60 < ops.length ∨ 20 < steps.length ∨ ¬ (0 ≤ now ∧ now ≤ 1099511627776)) :
    Calls Try.prog 4 #[.int .i64 now, v, vs] w fun e w' => e = .returned (.bool true) ∧ Below w.heap.size w w' := by
  obtain ⟨a, cap, rfl, -⟩ := hv
  obtain ⟨sa, caps, rfl, -⟩ := hs
  have hl := live_any w
  have HLV := hid hl; clear hl
  by_cases hl : 60 < ops.length
  · have t1a : decide ((60 : Int) < (ops.length : Int)) = true := by simp; omega
    have t1b : decide (60 < ops.length) = true := by simp; omega
    clear h
    go_enter Try.func4, Try.ntmps4
    go_wp2_with fail
    refine HLV.out.mono ?_
    rintro e w2 ⟨rfl, hb2⟩
    have HB2 := hid hb2; clear hb2
    go_wp2
    go_ret
    exact ⟨rfl, HB2.out⟩
  · have t1a : decide ((60 : Int) < (ops.length : Int)) = false := by simp; omega
    have t1b : decide (60 < ops.length) = false := by simp; omega
    by_cases hl2 : 20 < steps.length
    · have t2a : decide ((20 : Int) < (steps.length : Int)) = true := by simp; omega
      have t2b : decide (20 < steps.length) = true := by simp; omega
      clear h
      go_enter Try.func4, Try.ntmps4
      go_wp2_with fail
      refine HLV.out.mono ?_
      rintro e w2 ⟨rfl, hb2⟩
      have HB2 := hid hb2; clear hb2
      go_wp2
      go_ret
      exact ⟨rfl, HB2.out⟩
    · have t2a : decide ((20 : Int) < (steps.length : Int)) = false := by simp; omega
      have t2b : decide (20 < steps.length) = false := by simp; omega
      have hnow : now < 0 ∨ 1099511627776 < now := by omega
      clear h
      go_enter Try.func4, Try.ntmps4
      go_wp2_with fail
      refine (new_bad now w hnow).mono ?_
      rintro e w' ⟨rfl, rfl⟩
      go_wp2_with fail
      refine (new_bad now w hnow).mono ?_
      rintro e w' ⟨rfl, rfl⟩
      go_wp2_with fail
      refine HLV.out.mono ?_
      rintro e w2 ⟨rfl, hb2⟩
      have HB2 := hid hb2; clear hb2
      go_wp2
      go_ret
      exact ⟨rfl, HB2.out⟩

set_option maxRecDepth 100000 in
set_option maxHeartbeats 8000000 in
theorem timerJumps_ok {now : Nat} {v vs : Value} {ops : List (Int × Int × Int)} {steps : List Int} (w : World) (hv : SliceOp w v ops) (hs : SliceI w vs steps) (hsl : steps.length ≤ 20) (hl : ops.length ≤ 60) (hn : now ≤ 1099511627776) :
    Calls Try.prog 4 #[.int .i64 now, v, vs] w fun e w' => e = .returned (.bool true) ∧ Below w.heap.size w w' := by
  have HN : Hid (Calls Try.prog 8 #[.int .i64 now] w fun e w' => ∃ p F, e = .returned (.tuple #[.pointer (some ⟨p, 0, none⟩), .int .i64 0]) ∧ Mine w.heap.size w w' p now [] F) := by
    refine (new_ok now w hn).mono ?_
    rintro e w' ⟨p, F, he, h1, h2, h3⟩
    exact ⟨p, F, he, h1, h2, h3.size, h3⟩
  obtain ⟨i0, hinf, hz0, hz1, hz2⟩ := info_parts Try.infoInt
  obtain ⟨a, cap, rfl⟩ : ∃ a cap, v = .slice a ops.length cap := by obtain ⟨a, cap, e, -⟩ := hv; exact ⟨a, cap, e⟩
  have HV := hid hv.cells
  clear hv
  obtain ⟨sa, caps, rfl⟩ : ∃ a cap, vs = .slice a steps.length cap := by obtain ⟨a, cap, e, -⟩ := hs; exact ⟨a, cap, e⟩
  have HS := hid hs.cells
  have t3 : decide ((20 : Int) < (steps.length : Int)) = false := by simp; omega
  have t4 : decide (20 < steps.length) = false := by simp; omega
  have HSL := hid hsl
  clear hs hsl
  have t1 : decide ((60 : Int) < (ops.length : Int)) = false := by simp; omega
  have t2 : decide (60 < ops.length) = false := by simp; omega
  have HL := hid hl; clear hl
  go_enter Try.func4, Try.ntmps4
  go_wp2_with fail
  refine HN.out.mono ?_
  clear HN
  rintro e w1 ⟨pa, Fa1, rfl, m1⟩
  have M1 := hid m1; clear m1
  go_wp2_with fail
  refine (new_ok now w1 hn).mono ?_
  rintro e w2 ⟨pb, Fb1, rfl, h1, h2, h3⟩
  have M2 : Hid (Pair w w2 pa now [] Fa1 pb now [] Fb1) := by
    have hb := M1.out.below.trans (h3.mono M1.out.size)
    have hs : Step Fa1 Fa1 w1 w2 := Step.of_below h3
    refine ⟨M1.out.step hs (M1.out.ok.upd (Upd.of_below h3 (F := fun _ => False) (fun x a b => by omega)) fun _ _ f => f), ⟨h1, fun y hy => Nat.le_trans M1.out.size (h2 y hy), Nat.le_trans M1.out.size h3.size, hb⟩, fun y hy hm => ?_⟩
    have := M1.out.ok.lt y hy; have := h2 y hm; omega
  clear h1 h2 h3
  go_wp2_with fail
  go_loopg [11] ops.length (fun k i wr => ∃ (j : Nat) (Fa Fb : List Nat), i = .int .i64 (j : Int) ∧ j + k = ops.length ∧ Pair w wr pa now (sets [] (ops.take j)) Fa pb now (sets [] (ops.take j)) Fb)
  case atStart => exact ⟨0, Fa1, Fb1, rfl, by omega, M2.out⟩
  case round =>
    obtain ⟨j, Fa, Fb, rfl, hjk, hT⟩ := hrel
    by_cases hj : j < ops.length
    · have hx : ops[j]? = some ops[j] := List.getElem?_eq_getElem hj
      obtain ⟨g, o, rfl, hc⟩ := HV.out j _ hx
      generalize ops[j] = x at *
      obtain ⟨x0, x1, x2⟩ := x
      obtain ⟨-, c1, c2⟩ := hc wr hT.a.below
      have hT' := hT.keep (Upd.drew (Upd.refl (fun _ => False) wr))
      have HC : Hid (∀ w', Below w.heap.size w w' → w'.cell? ⟨g, o + j * 3 + 1, none⟩ = some (.int .i64 x1) ∧ w'.cell? ⟨g, o + j * 3 + 2, none⟩ = some (.int .i64 x2)) := fun w' hb => (hc w' hb).2
      have hset := set_q x1 x2 wr.drew hT'.a.ok
      have HT := hid hT'; have HJ := hid hjk
      have hwj : IntKind.i64.wrap ((j : Int) + 1) = (j : Int) + 1 := wrap_in64 (by omega) (by have := HL.out; omega)
      dsimp only at c1 c2
      have hsn : ∀ D : Al, sets D (ops.take (j + 1)) = setT (sets D (ops.take j)) x1 x2 := fun D => by rw [List.take_add_one, hx]; exact sets_snoc _ _ _
      have HSN := hid hsn
      have HST := hid hset
      clear hT hT' hjk hx hc hsn hset
      go_wp2_with fail
      go_region_held3 (fun w' => w'.cell? ⟨g, o + j * 3 + 1, none⟩ = some (.int .i64 x1) ∧ w'.cell? ⟨g, o + j * 3 + 2, none⟩ = some (.int .i64 x2)) (first | assumption | go_keep | exact ⟨by assumption, by assumption⟩)
        (first | (go_at_call 14; refine HST.out.mono ?_; rintro e w3 ⟨r3, F3, rfl, t3, s3⟩; have K3 := hid (HT.out.stepA s3 t3); have d3 := HC.out w3 K3.out.a.below; obtain ⟨d1, d2⟩ := d3; clear t3 s3))
      have hT3 := K3.out.keep (Upd.drew (Upd.refl (fun _ => False) w3))
      have hset2 := set_q x1 x2 w3.drew hT3.b.ok
      have HT3 := hid hT3; have HST2 := hid hset2
      clear hT3 hset2 c1 c2
      go_wp2_with fail
      go_region_held3 (fun w' => w'.cell? ⟨g, o + j * 3 + 1, none⟩ = some (.int .i64 x1) ∧ w'.cell? ⟨g, o + j * 3 + 2, none⟩ = some (.int .i64 x2)) (first | assumption | go_keep | exact ⟨by assumption, by assumption⟩)
        (first | (go_at_call 14; refine HST2.out.mono ?_; rintro e w4 ⟨r4, F4, rfl, t4, s4⟩; have K4 := hid (HT3.out.stepB s4 t4); have d4 := HC.out w4 K4.out.a.below; obtain ⟨d5, d6⟩ := d4; clear t4 s4))
      go_wp2
      go_roundg (gk - 1)
      case measure => have := HJ.out; omega
      case rel => exact ⟨j + 1, F3, F4, by rw [show ((j + 1 : Nat) : Int) = (j : Int) + 1 from by omega], by have := HJ.out; omega, by rw [HSN.out]; exact K4.out⟩
    · have hjl : j = ops.length := by omega
      subst hjl
      rw [List.take_length] at hT
      have hDl : (sets [] ops).length ≤ 60 := Nat.le_trans (sets_length ops []) (by have := HL.out; simpa using this)
      generalize sets [] ops = D0 at *
      have hND : (akeys D0).Nodup := by obtain ⟨S, _, hI⟩ := hT.a.ok; exact hI.nd
      have HT := hid hT; have HDL := hid hDl
      have HRS := hid (Runs.start hn hND)
      clear hT hjk hDl hND
      go_wp2_with fail
      go_loopg [12, 13, 14] steps.length (fun k t to i wr => ∃ (j n : Nat) (D : Al) (F : List Nat) (L : List Int) (told : Value), t = told ∧ to = .int .i64 (n : Int) ∧ i = .int .i64 (j : Int) ∧ j + k = steps.length ∧ Pair w wr pa n D F pb now D0 Fb ∧ OwnL w wr F Fb told L ∧ Runs D0 now n D L)
      case atStart => exact ⟨0, now, D0, Fa, [], _, rfl, rfl, rfl, by omega, HT.out, ⟨World.ownsRow_nil _ _ _ _, fun g hg => by cases hg⟩, HRS.out⟩
      case round =>
        obtain ⟨j, n, D, F2, L, told, rfl, rfl, rfl, hjk, hT, hO, hR⟩ := hrel
        by_cases hj : j < steps.length
        · have hx : steps[j]? = some steps[j] := List.getElem?_eq_getElem hj
          obtain ⟨g, o, rfl, hc⟩ := HS.out j _ hx
          generalize steps[j] = s at *
          have c1 := hc wr hT.a.below
          have hwj : IntKind.i64.wrap ((j : Int) + 1) = (j : Int) + 1 := wrap_in64 (by omega) (by have := HSL.out; omega)
          have hDl2 : D.length ≤ 1000000 := by have := hR.len; have := HDL.out; omega
          have hadv := adv_any s wr hT.a.ok hDl2
          have HT2 := hid hT; have HJ := hid hjk; have HO := hid hO; have HR := hid hR; have HADV := hid hadv
          clear hT hjk hx hO hR hadv hc hDl2
          go_wp2_with fail
          refine HADV.out.mono ?_
          rintro e w3 ⟨v3, F3, rfl, hh, t3, s3⟩
          have HT3 := hid (HT2.out.stepA s3 t3)
          have HO3 := hid (HO.out.stepA s3)
          have HSR := hid hh.1.src
          have HR3 := hid (HR.out.step s)
          obtain ⟨l, hl⟩ : ∃ l, l = advL D n s := ⟨_, rfl⟩
          rw [← hl] at HSR HR3
          have hln : L.length + l.length ≤ 60 := by have h1 := HR3.out.len; have h2 := HDL.out; rw [List.length_append] at h1; omega
          generalize advN n s = n3 at *
          generalize advD D n s = D3 at *
          clear hl hh t3 s3
          go_wp2_with (at_builtin; go_loud (refine wpList_append_src (P := Try.prog) (w := w3) rfl _ _ 39 rfl w.heap.size 3 i0 (.int .i64 0) 1 8 Try.underlying39 hinf hz0 hz1 hz2 rfl (by decide) _ L.length (L.map ekI) rfl HO3.out.1 v3 l.length (l.map ekI) rfl HSR.out (by simp) (by intro x hx; obtain ⟨y, _, rfl⟩ := List.mem_map.1 hx; rfl) (by unfold maxLen; omega) (by omega) HT3.out.a.size ?_; intro v4 w4 ho4 hg4 hn4; have K4 : Hid (Pair w w4 pa n3 D3 F3 pb now D0 Fb ∧ OwnL w w4 F3 Fb v4 (L ++ l)) := kept_append HT3.out HO3.out ho4 hg4 hn4; clear ho4 hg4 hn4))
          refine (now_any w4 K4.out.1.a.ok).mono ?_
          rintro e w' ⟨rfl, rfl⟩
          go_wp2
          go_roundg (gk - 1)
          case measure => have := HJ.out; omega
          case rel => exact ⟨j + 1, n3, D3, F3, L ++ l, v4, rfl, rfl, by rw [show ((j + 1 : Nat) : Int) = (j : Int) + 1 from by omega], by have := HJ.out; omega, K4.out.1, K4.out.2, HR3.out⟩
        · have hjl : j = steps.length := by omega
          subst hjl
          have e1 : advL D n (n : Int) = tell D n := if_pos ⟨Int.le_refl _, by have := hR.top; omega⟩
          have e2 : advD D n (n : Int) = left D n := if_pos ⟨Int.le_refl _, by have := hR.top; omega⟩
          have e3 : advN n (n : Int) = n := (if_pos ⟨Int.le_refl _, by have := hR.top; omega⟩ : advN n (n : Int) = ((n : Int)).toNat).trans (by omega)
          have hDl2 : D.length ≤ 1000000 := by have := hR.len; have := HDL.out; omega
          have hadv := adv_any (n : Int) wr hT.a.ok hDl2
          rw [e1, e2, e3, ← (hR.tells n (Int.le_refl _)).2] at hadv
          have HTE := hid (hR.tells n (Int.le_refl _)).1
          have HLE : Hid (L.length + (tell D n).length ≤ 60) := by
            have h1 := hR.len
            have h2 := tell_length D n
            have h3 := HDL.out
            show L.length + (tell D n).length ≤ 60
            omega
          have hle := hR.le
          have htop := hR.top
          have HT2 := hid hT; have HO := hid hO; have HADV := hid hadv
          clear hT hjk hO hR hadv hDl2 e1 e2 e3
          go_wp2_with fail
          refine HADV.out.mono ?_
          rintro e w3 ⟨v3, F3, rfl, hh, t3, s3⟩
          have HT3 := hid (HT2.out.stepA s3 t3)
          have HO3 := hid (HO.out.stepA s3)
          have HSR := hid hh.1.src
          generalize tell D n = l at *
          clear hh t3 s3
          go_wp2_with (at_builtin; refine wpList_append_src (P := Try.prog) (w := w3) rfl _ _ 39 rfl w.heap.size 3 i0 (.int .i64 0) 1 8 Try.underlying39 hinf hz0 hz1 hz2 rfl (by decide) _ L.length (L.map ekI) rfl HO3.out.1 v3 l.length (l.map ekI) rfl HSR.out (by simp) (by intro x hx; obtain ⟨y, _, rfl⟩ := List.mem_map.1 hx; rfl) (by have := HLE.out; unfold maxLen; omega) (by have := HLE.out; omega) HT3.out.a.size ?_; intro v4 w4 ho4 hg4 hn4; have K4 : Hid (Pair w w4 pa n (left D0 n) F3 pb now D0 Fb ∧ OwnL w w4 F3 Fb v4 (L ++ l)) := kept_append HT3.out HO3.out ho4 hg4 hn4; clear ho4 hg4 hn4)
          have hadv := adv_tell (to := n) w4 K4.out.1.b.ok hle htop (by have := HDL.out; omega)
          rw [HTE.out] at hadv
          have HAD := hid hadv
          clear hadv
          refine HAD.out.mono ?_
          rintro e w5 ⟨v5, F5, rfl, hh, t5, s5⟩
          have K5 : Hid (Pair w w5 pa n (left D0 n) F3 pb n (left D0 n) F5 ∧ OwnL w w5 F3 F5 v4 (L ++ l)) := ⟨K4.out.1.stepB s5 t5, K4.out.2.stepB s5⟩
          have HH5 := hid hh.1
          clear hh t5 s5
          go_wp2_with fail
          refine (ints_same w5 HH5.out (SliceI.own K5.out.2.1) (by have := HLE.out; rw [List.length_append]; omega)).mono ?_
          rintro e w6 ⟨rfl, hu⟩
          have K6 := hid (K5.out.1.keep hu)
          clear hu
          go_wp2_with fail
          refine (len_any w6 K6.out.a.ok).mono ?_
          rintro e w' ⟨rfl, rfl⟩
          go_wp2_with fail
          refine (len_any w6 K6.out.b.ok).mono ?_
          rintro e w' ⟨rfl, rfl⟩
          go_wp2_with fail
          refine (now_any w6 K6.out.a.ok).mono ?_
          rintro e w' ⟨rfl, rfl⟩
          go_wp2_with fail
          refine (now_any w6 K6.out.b.ok).mono ?_
          rintro e w' ⟨rfl, rfl⟩
          go_wp2_with fail
          go_loopg [15] ops.length (fun k i wr => ∃ (j : Nat), i = .int .i64 (j : Int) ∧ j + k = ops.length ∧ Pair w wr pa n (left D0 n) F3 pb n (left D0 n) F5)
          case atStart => exact ⟨0, rfl, by omega, K6.out⟩
          case round =>
            obtain ⟨j, rfl, hjk, hT7⟩ := hrel
            by_cases hj : j < ops.length
            · have hx : ops[j]? = some ops[j] := List.getElem?_eq_getElem hj
              obtain ⟨g, o, rfl, hc⟩ := HV.out j _ hx
              generalize ops[j] = x at *
              obtain ⟨x0, x1, x2⟩ := x
              obtain ⟨-, c1, -⟩ := hc wr hT7.a.below
              dsimp only at c1
              have hwj : IntKind.i64.wrap ((j : Int) + 1) = (j : Int) + 1 := wrap_in64 (by omega) (by have := HL.out; omega)
              obtain ⟨r, hr⟩ : ∃ r, (aget (left D0 n) x1).getD 0 = r := ⟨_, rfl⟩
              obtain ⟨b, hb⟩ : ∃ b, (aget (left D0 n) x1).isSome = b := ⟨_, rfl⟩
              have HDA := hid (due_q x1 wr hT7.a.ok hr hb)
              have HDB := hid (due_q x1 wr hT7.b.ok hr hb)
              have HT7 := hid hT7; have HJ := hid hjk
              clear hT7 hjk hx hc hr hb
              go_wp2_with fail
              refine HDA.out.mono ?_
              rintro e w' ⟨rfl, rfl⟩
              go_wp2_with fail
              refine HDB.out.mono ?_
              rintro e w' ⟨rfl, rfl⟩
              go_wp2
              go_roundg (gk - 1)
              case measure => have := HJ.out; omega
              case rel => exact ⟨j + 1, by rw [show ((j + 1 : Nat) : Int) = (j : Int) + 1 from by omega], by have := HJ.out; omega, HT7.out⟩
            · have HT7 := hid hT7
              clear hT7 hjk
              go_wp2_with fail
              refine (live_any wr).mono ?_
              rintro e w9 ⟨rfl, hb2⟩
              have HB2 := hid hb2; clear hb2
              go_wp2
              go_ret
              exact ⟨rfl, HT7.out.a.below.trans (HB2.out.mono HT7.out.a.below.size)⟩
end Go.Proofs.Yteoecpggmchbkaa
