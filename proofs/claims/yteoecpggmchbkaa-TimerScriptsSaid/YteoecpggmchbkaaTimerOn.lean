/- TimerOnce's walk. -/
import Derived.Test.YteoecpggmchbkaaTimerQ
namespace Go.Proofs.Yteoecpggmchbkaa
open Go.RowKit

set_option maxRecDepth 100000 in
set_option maxHeartbeats 1000000 in
theorem once_short {now : Int} {v vs : Value} {ops : List (Int × Int × Int)} {steps : List Int} (w : World) (hv : SliceOp w v ops) (hs : SliceI w vs steps) (h : 60 < ops.length ∨ 20 < steps.length ∨ ¬ (0 ≤ now ∧ now ≤ 1099511627776)) :
    Calls Try.prog 5 #[.int .i64 now, v, vs] w fun e w' => e = .returned (.bool true) ∧ Below w.heap.size w w' := by
  have HN : Hid (Calls Try.prog 8 #[.int .i64 now] w fun e w' => ∃ q x, e = .returned (.tuple #[q, .int .i64 x]) ∧ (60 < ops.length ∨ 20 < steps.length ∨ x ≠ 0) ∧ Below w.heap.size w w') := by
    refine (new_any now w).mono ?_
    rintro e w' (⟨h1, rfl, rfl⟩ | ⟨h1, p, F, rfl, hm⟩)
    · exact ⟨_, _, rfl, .inr (.inr (by omega)), Below.refl _ _⟩
    · exact ⟨_, _, rfl, h.imp_right fun h => .inl (h.resolve_right (fun h2 => h2 h1)), hm.below⟩
  obtain ⟨a, cap, rfl, -⟩ := hv
  obtain ⟨sa, caps, rfl, -⟩ := hs
  clear h
  go_enter Try.func5, Try.ntmps5
  go_wp2_with fail
  refine HN.out.mono ?_
  rintro e w1 ⟨q, x, rfl, hx, hb⟩
  have HB := hid hb; clear hb
  by_cases hl : 60 < ops.length
  · have t1a : decide ((60 : Int) < (ops.length : Int)) = true := by simp; omega
    have t1b : decide (60 < ops.length) = true := by simp; omega
    clear hx
    go_wp2_with fail
    refine (live_any w1).mono ?_
    rintro e w2 ⟨rfl, hb2⟩
    have HB2 := hid hb2; clear hb2
    go_wp2
    go_ret
    exact ⟨rfl, HB.out.trans (HB2.out.mono HB.out.size)⟩
  · have t1a : decide ((60 : Int) < (ops.length : Int)) = false := by simp; omega
    have t1b : decide (60 < ops.length) = false := by simp; omega
    by_cases hl2 : 20 < steps.length
    · have t2a : decide ((20 : Int) < (steps.length : Int)) = true := by simp; omega
      have t2b : decide (20 < steps.length) = true := by simp; omega
      clear hx
      go_wp2_with fail
      refine (live_any w1).mono ?_
      rintro e w2 ⟨rfl, hb2⟩
      have HB2 := hid hb2; clear hb2
      go_wp2
      go_ret
      exact ⟨rfl, HB.out.trans (HB2.out.mono HB.out.size)⟩
    · have t2a : decide ((20 : Int) < (steps.length : Int)) = false := by simp; omega
      have t2b : decide (20 < steps.length) = false := by simp; omega
      have t3 : (x != 0) = true := by simpa using (hx.resolve_left hl).resolve_left hl2
      clear hx
      go_wp2_with fail
      refine (live_any w1).mono ?_
      rintro e w2 ⟨rfl, hb2⟩
      have HB2 := hid hb2; clear hb2
      go_wp2
      go_ret
      exact ⟨rfl, HB.out.trans (HB2.out.mono HB.out.size)⟩

set_option maxRecDepth 100000 in
set_option maxHeartbeats 8000000 in
theorem timerOnce_ok {now : Nat} {v vs : Value} {ops : List (Int × Int × Int)} {steps : List Int} (w : World) (hv : SliceOp w v ops) (hs : SliceI w vs steps) (hsl : steps.length ≤ 20) (hl : ops.length ≤ 60) (hn : now ≤ 1099511627776) :
    Calls Try.prog 5 #[.int .i64 now, v, vs] w fun e w' => e = .returned (.bool true) ∧ Below w.heap.size w w' := by
  have hmm := @run_makeMap Try.prog
  have HN : Hid (Calls Try.prog 8 #[.int .i64 now] w fun e w' => ∃ p F, e = .returned (.tuple #[.pointer (some ⟨p, 0, none⟩), .int .i64 0]) ∧ Mine w.heap.size w w' p now [] F) := by
    refine (new_ok now w hn).mono ?_
    rintro e w' ⟨p, F, he, h1, h2, h3⟩
    exact ⟨p, F, he, h1, h2, h3.size, h3⟩
  obtain ⟨a, cap, rfl⟩ : ∃ a cap, v = .slice a ops.length cap := by obtain ⟨a, cap, e, -⟩ := hv; exact ⟨a, cap, e⟩
  have HV := hid hv.cells
  clear hv
  obtain ⟨sa, caps, rfl⟩ : ∃ a cap, vs = .slice a steps.length cap := by obtain ⟨a, cap, e, -⟩ := hs; exact ⟨a, cap, e⟩
  have HS := hid hs.cells
  have t3 : decide ((20 : Int) < (steps.length : Int)) = false := by simp; omega
  have t4 : decide (20 < steps.length) = false := by simp; omega
  have HSL := hid hsl
  clear hs hsl
  have t1 : decide ((60 : Int) < (ops.length : Int)) = false := by simp; omega
  have t2 : decide (60 < ops.length) = false := by simp; omega
  have HL := hid hl; clear hl
  go_enter Try.func5, Try.ntmps5
  go_wp2_with fail
  refine HN.out.mono ?_
  clear HN
  rintro e w1 ⟨p, F1, rfl, m1⟩
  have M1 : Hid (TMap w (w1.alloc (.map #[] 0)) p w1.heap.size now [] [] F1) := by
    have hs : Step F1 F1 w1 (w1.alloc (.map #[] 0)) := Step.of_none ((Upd.refl _ _).alloc _)
    exact ⟨m1.step hs (m1.ok.upd ((Upd.refl (fun _ => False) w1).alloc _) (fun _ _ f => f)), MapAt.fresh ekI ekI w1, fun hm => by have := m1.ok.lt _ hm; omega, m1.size⟩
  clear m1
  go_wp2_with fail
  obtain ⟨mb, hmb⟩ : ∃ b, b = w1.heap.size := ⟨_, rfl⟩
  rw [← hmb] at M1 ⊢
  clear hmb
  generalize w1.alloc (.map #[] 0) = w2 at *
  go_loopg [10] ops.length (fun k i wr => ∃ (j : Nat) (F : List Nat), i = .int .i64 (j : Int) ∧ j + k = ops.length ∧ TMap w wr p mb now (sets [] (ops.take j)) (sets [] (ops.take j)) F)
  case atStart => exact ⟨0, F1, rfl, by omega, M1.out⟩
  case round =>
    obtain ⟨j, F, rfl, hjk, hT⟩ := hrel
    by_cases hj : j < ops.length
    · have hx : ops[j]? = some ops[j] := List.getElem?_eq_getElem hj
      obtain ⟨g, o, rfl, hc⟩ := HV.out j _ hx
      generalize ops[j] = x at *
      obtain ⟨x0, x1, x2⟩ := x
      obtain ⟨-, c1, c2⟩ := hc wr hT.t.below
      have hT' := hT.keep (Upd.drew (Upd.refl (fun _ => False) wr))
      have HC : Hid (∀ w', Below w.heap.size w w' → w'.cell? ⟨g, o + j * 3 + 1, none⟩ = some (.int .i64 x1) ∧ w'.cell? ⟨g, o + j * 3 + 2, none⟩ = some (.int .i64 x2)) := fun w' hb => (hc w' hb).2
      have hset := set_any x1 x2 wr.drew hT'.t.ok
      have HT := hid hT'; have HJ := hid hjk; have HX := hid hx
      have hwj : IntKind.i64.wrap ((j : Int) + 1) = (j : Int) + 1 := wrap_in64 (by omega) (by have := HL.out; omega)
      dsimp only at c1 c2
      have hsn : ∀ D : Al, sets D (ops.take (j + 1)) = setT (sets D (ops.take j)) x1 x2 := fun D => by rw [List.take_add_one, hx]; exact sets_snoc _ _ _
      have HSN := hid hsn
      clear hT hT' hjk hx hc hsn
      by_cases hok : setOk x1 x2
      · rw [if_pos hok] at hset
        have HST := hid hset; have HOK := hid hok
        clear hset hok
        go_wp2_with fail
        go_region_held3 (fun w' => w'.cell? ⟨g, o + j * 3 + 1, none⟩ = some (.int .i64 x1) ∧ w'.cell? ⟨g, o + j * 3 + 2, none⟩ = some (.int .i64 x2)) (first | assumption | go_keep | exact ⟨by assumption, by assumption⟩)
          (first | (go_at_call 14; refine HST.out.mono ?_; rintro e w3 ⟨rfl, F3, t3, s3⟩; have K3 := hid (HT.out.step s3 t3); have d3 := HC.out w3 K3.out.t.below; obtain ⟨d1, d2⟩ := d3; clear t3 s3))
        have hT3 := K3.out.keep (Upd.drew (Upd.refl (fun _ => False) w3))
        obtain ⟨w4, hrun, hm, hu, hsz⟩ := run_update hT3.m (keyInt Try.underlying3) Try.underlying46 x1 x2
        have hT4 := hT3.upd hu hm
        have d4 := HC.out w4 hT4.t.below
        obtain ⟨d5, d6⟩ := d4
        simp only [ekI] at hrun
        have HT4 := hid hT4
        clear hT3 hm hu hsz hT4
        go_wp2_with fail
        go_region_held3 (fun w' => w'.cell? ⟨g, o + j * 3 + 1, none⟩ = some (.int .i64 x1) ∧ w'.cell? ⟨g, o + j * 3 + 2, none⟩ = some (.int .i64 x2)) (first | assumption | go_keep | exact ⟨by assumption, by assumption⟩) (fail)
        go_wp2
        go_roundg (gk - 1)
        case measure => have := HJ.out; omega
        case rel =>
          refine ⟨j + 1, F3, by rw [show ((j + 1 : Nat) : Int) = (j : Int) + 1 from by omega], by have := HJ.out; omega, ?_⟩
          rw [HSN.out]
          have := HT4.out
          rw [show setT (sets [] (ops.take j)) x1 x2 = aset (sets [] (ops.take j)) x1 x2 from if_pos HOK.out] at this ⊢
          exact this
      · rw [if_neg hok] at hset
        have HST := hid hset; have HOK := hid hok
        clear hset hok
        go_wp2_with fail
        go_region_held3 (fun w' => w'.cell? ⟨g, o + j * 3 + 1, none⟩ = some (.int .i64 x1) ∧ w'.cell? ⟨g, o + j * 3 + 2, none⟩ = some (.int .i64 x2)) (first | assumption | go_keep | exact ⟨by assumption, by assumption⟩)
          (first | (go_at_call 14; refine HST.out.mono ?_; rintro e w3 ⟨rfl, F3, t3, s3⟩; have K3 := hid (HT.out.step s3 t3); have d3 := HC.out w3 K3.out.t.below; obtain ⟨d1, d2⟩ := d3; clear t3 s3))
        go_wp2
        go_roundg (gk - 1)
        case measure => have := HJ.out; omega
        case rel =>
          refine ⟨j + 1, F3, by rw [show ((j + 1 : Nat) : Int) = (j : Int) + 1 from by omega], by have := HJ.out; omega, ?_⟩
          rw [HSN.out]
          have := K3.out
          rw [show setT (sets [] (ops.take j)) x1 x2 = sets [] (ops.take j) from if_neg HOK.out] at this ⊢
          exact this
    · have hjl : j = ops.length := by omega
      subst hjl
      rw [List.take_length] at hT
      have hDl : (sets [] ops).length ≤ 60 := Nat.le_trans (sets_length ops []) (by have := HL.out; simpa using this)
      generalize sets [] ops = D0 at *
      have HT := hid hT; have HDL := hid hDl
      clear hT hjk hDl
      go_wp2_with fail
      go_loopg [11] steps.length (fun k i wr => ∃ (j n : Nat) (D : Al) (F : List Nat), i = .int .i64 (j : Int) ∧ j + k = steps.length ∧ TMap w wr p mb n D D F ∧ D.length ≤ 60 ∧ (j = 0 → n = now) ∧ (∀ s0, steps[0]? = some s0 → 0 < j → (now : Int) ≤ s0 → s0 ≤ 1099511627776 → ∀ q ∈ D, (n : Int) < q.2))
      case atStart => exact ⟨0, now, D0, F, rfl, by omega, HT.out, HDL.out, fun _ => rfl, fun s0 _ h => absurd h (by omega)⟩
      case round =>
        obtain ⟨j, n, D, F2, rfl, hjk, hT, hlen, hn0, hinv⟩ := hrel
        by_cases hj : j < steps.length
        · have hx : steps[j]? = some steps[j] := List.getElem?_eq_getElem hj
          obtain ⟨g, o, rfl, hc⟩ := HS.out j _ hx
          generalize steps[j] = s at *
          have c1 := hc wr hT.t.below
          have hwj : IntKind.i64.wrap ((j : Int) + 1) = (j : Int) + 1 := wrap_in64 (by omega) (by have := HSL.out; omega)
          have hadv := adv_any s wr hT.t.ok (by omega)
          have HT2 := hid hT; have HJ := hid hjk; have HX := hid hx; have HLE := hid hlen; have HN0 := hid hn0; have HIV := hid hinv; have HADV := hid hadv
          clear hT hjk hx hlen hn0 hinv hadv hc
          go_wp2_with fail
          refine (now_any wr HT2.out.t.ok).mono ?_
          rintro e w' ⟨rfl, rfl⟩
          go_wp2_with fail
          refine HADV.out.mono ?_
          rintro e w3 ⟨v3, F3, rfl, hh, t3, s3⟩
          have hT3 := HT2.out.step s3 t3
          have hTd := told HT2.out.nd n s
          obtain ⟨⟨a5, cap5, rfl, hc5⟩, -⟩ := hh
          obtain ⟨l, hl⟩ : ∃ l, l = advL D n s := ⟨_, rfl⟩
          have HLM : Hid (l.foldl adel D = advD D n s ∧ l.Nodup ∧ (∀ id ∈ l, ∃ d, aget D id = some d ∧ d ≤ (advN n s : Int)) ∧ (∀ id ∈ l, aget (advD D n s) id = none) ∧ l.Pairwise (fun x y => dueOf D x ≤ dueOf D y)) := by
            rw [hl]; exact ⟨hTd.fold, hTd.nodup, hTd.due, hTd.gone, hTd.ord⟩
          have HR : Hid ((n : Int) ≤ (advN n s : Int) ∧ (advD D n s).length ≤ 60 ∧ (∀ q ∈ advD D n s, q ∈ D)) := ⟨hTd.le, Nat.le_trans hTd.len HLE.out, hTd.sub⟩
          have hll : l.length ≤ 60 := by
            have : l.length ≤ D.length := by
              have := sub_len (k := akeys D) HLM.out.2.1 (fun x hx => by obtain ⟨d, h1, _⟩ := HLM.out.2.2.1 x hx; exact mem_akeys_of h1)
              simpa [akeys] using this
            exact Nat.le_trans this HLE.out
          have HNX : Hid (∀ s0, steps[0]? = some s0 → (now : Int) ≤ s0 → s0 ≤ 1099511627776 → ∀ q ∈ advD D n s, (advN n s : Int) < q.2) := by
            intro s0 h0 h1 h2 q hq
            by_cases c : goOk n s
            · have e1 : advD D n s = left D s := if_pos c
              have e2 : advN n s = s.toNat := if_pos c
              rw [e1] at hq
              have := (mem_left.1 hq).2
              unfold goOk at c
              rw [e2]; omega
            · have e1 : advD D n s = D := if_neg c
              have e2 : advN n s = n := if_neg c
              rw [e1] at hq
              rw [e2]
              by_cases hj0 : 0 < j
              · exact HIV.out s0 h0 hj0 h1 h2 q hq
              · exfalso
                have hj00 : j = 0 := by omega
                have hs0 : s0 = s := by have := HX.out; rw [hj00, h0] at this; exact Option.some.inj this
                have := HN0.out hj00
                unfold goOk at c
                omega
          have HDG : Hid (∀ x ∈ l, 0 ≤ dueOf D x) := fun x hx => by
            obtain ⟨d, h1, _⟩ := HLM.out.2.2.1 x hx
            rw [dueOf_of h1]; exact (HT2.out.rng _ (aget_mem h1)).1
          rw [← hl] at hc5 ⊢
          have HC5 : Hid (∀ i x, l[i]? = some x → ∃ g o, a5 = some ⟨g, o, none⟩ ∧ g ≠ mb ∧ w3.cell? ⟨g, o + i, none⟩ = some (.int .i64 x)) := by
            intro i x hx
            obtain ⟨g, o, e1, h1⟩ := hc5 i x hx
            refine ⟨g, o, e1, fun e => ?_, h1⟩
            obtain ⟨es, c, hb, _⟩ := hT3.m
            rw [e] at h1
            simp [World.cell?, hb] at h1
          have HND := hid HT2.out.nd
          generalize advN n s = n3 at *
          generalize advD D n s = D3 at *
          have HT3 := hid hT3; have HLL := hid hll
          clear hT3 hTd hc5 hl hll s3 t3
          go_wp2_with fail
          go_loopg [14, 15] l.length (fun k la i wr => ∃ (i' : Nat) (lv : Int), la = .int .i64 lv ∧ i = .int .i64 (i' : Int) ∧ i' + k = l.length ∧ TMap w wr p mb n3 D3 ((l.take i').foldl adel D) F3 ∧ (∀ i x, l[i]? = some x → ∃ g o, a5 = some ⟨g, o, none⟩ ∧ g ≠ mb ∧ wr.cell? ⟨g, o + i, none⟩ = some (.int .i64 x)) ∧ (∀ i x, i' ≤ i → l[i]? = some x → lv ≤ dueOf D x))
          case atStart => exact ⟨0, -1, rfl, rfl, by omega, HT3.out, HC5.out, fun i x _ hx => by have := HDG.out x (List.mem_of_getElem? hx); omega⟩
          case round =>
            obtain ⟨i', lv, rfl, rfl, hik, hT6, hc6, hlv⟩ := hrel
            by_cases hi : i' < l.length
            · obtain ⟨x, hx⟩ : ∃ x, l[i']? = some x := ⟨l[i'], List.getElem?_eq_getElem hi⟩
              obtain ⟨g6, o6, rfl, hg6, cx⟩ := hc6 i' x hx
              obtain ⟨d, hd1, hd2⟩ := HLM.out.2.2.1 x (List.mem_of_getElem? hx)
              have hxn : x ∉ l.take i' := fun hm => by
                obtain ⟨k, hk1, hk2⟩ := List.mem_take_iff_getElem.1 hm
                obtain ⟨h4, h5⟩ := List.getElem?_eq_some_iff.1 hx
                have := (List.getElem_inj HLM.out.2.1).1 (hk2.trans h5.symm)
                omega
              have hlk := run_lookup_ok hT6.m (keyInt Try.underlying3) Try.underlying46 Try.zeroInt x
              rw [aget_foldl HND.out hxn, hd1] at hlk
              simp only [ekI, Option.elim_some, Option.isSome_some] at hlk
              have hdx : dueOf D x = d := dueOf_of hd1
              have tg : decide ((n3 : Int) < d) = false := by simp; omega
              have tlv : decide (d < lv) = false := by have := hlv i' x (Nat.le_refl _) hx; simp; omega
              obtain ⟨s0, hs0⟩ : ∃ s0, steps[0]? = some s0 := ⟨steps[0], List.getElem?_eq_getElem (by omega)⟩
              have cs0 : wr.cell? ⟨g, o, none⟩ = some (.int .i64 s0) := by
                obtain ⟨g', o', e1, h1⟩ := HS.out 0 s0 hs0
                cases e1
                exact h1 wr hT6.t.below
              have hgd : (decide ((0 : Int) < (j : Int)) = false ∧ decide (0 < j) = false) ∨ ((decide ((0 : Int) < (j : Int)) = true ∧ decide (0 < j) = true) ∧ decide ((now : Int) ≤ s0) = false) ∨
                  ((decide ((0 : Int) < (j : Int)) = true ∧ decide (0 < j) = true) ∧ decide ((now : Int) ≤ s0) = true ∧ decide (s0 ≤ 1099511627776) = false) ∨
                  ((decide ((0 : Int) < (j : Int)) = true ∧ decide (0 < j) = true) ∧ decide ((now : Int) ≤ s0) = true ∧ decide (s0 ≤ 1099511627776) = true ∧ decide (d ≤ (n : Int)) = false) := by
                have hI := fun h => HIV.out s0 hs0 h
                by_cases c0 : 0 < j
                · by_cases c1 : (now : Int) ≤ s0
                  · by_cases c2 : s0 ≤ 1099511627776
                    · have := hI c0 c1 c2 _ (aget_mem hd1)
                      dsimp only at this
                      simp only [decide_eq_true_eq, decide_eq_false_iff_not]; omega
                    · simp only [decide_eq_true_eq, decide_eq_false_iff_not]; omega
                  · simp only [decide_eq_true_eq, decide_eq_false_iff_not]; omega
                · simp only [decide_eq_true_eq, decide_eq_false_iff_not]; omega
              have hdu := due_any x wr hT6.t.ok
              rw [HLM.out.2.2.2.1 x (List.mem_of_getElem? hx)] at hdu
              have hdu' : Calls Try.prog 17 #[.pointer (some ⟨p, 0, none⟩), .int .i64 x] wr fun e w' => e = .returned (.tuple #[.int .i64 0, .bool false]) ∧ wr = w' := hdu
              have hsn : (l.take (i' + 1)).foldl adel D = adel ((l.take i').foldl adel D) x := by rw [List.take_add_one, hx, List.foldl_append]; rfl
              have hwi : IntKind.i64.wrap ((i' : Int) + 1) = (i' : Int) + 1 := wrap_in64 (by omega) (by have := HLL.out; omega)
              have HLV : Hid (∀ i y, i' + 1 ≤ i → l[i]? = some y → d ≤ dueOf D y) := by
                intro i y hi2 hy
                obtain ⟨h4, h5⟩ := List.getElem?_eq_some_iff.1 hx
                obtain ⟨h6, h7⟩ := List.getElem?_eq_some_iff.1 hy
                have := (List.pairwise_iff_getElem.1 HLM.out.2.2.2.2) i' i h4 h6 (by omega)
                rw [h5, h7, hdx] at this
                exact this
              have HDU := hid hdu'
              have HT6 := hid hT6; have HC6 := hid hc6; have HIK := hid hik; have HSN := hid hsn; have HG6 := hid hg6
              clear hT6 hc6 hik hsn hg6 hx hxn hd1 hdu hdu' hlv hs0 hdx
              rcases hgd with ⟨k1, k2⟩ | ⟨⟨k1, k2⟩, k3⟩ | ⟨⟨k1, k2⟩, k3, k4⟩ | ⟨⟨k1, k2⟩, k3, k4, k5⟩
              all_goals
                go_wp2_with fail
                refine (now_any wr HT6.out.t.ok).mono ?_
                rintro e w' ⟨rfl, rfl⟩
                go_wp2_with fail
                refine HDU.out.mono ?_
                rintro e w' ⟨rfl, rfl⟩
                go_wp2_with (at_delete; refine wpList_delete_is (ek := ekI) (ev := ekI) (l := (l.take i').foldl adel D) rfl _ _ _ rfl (keyInt Try.underlying3) Try.underlying46 mb rfl x rfl HT6.out.m ?_; intro w7 q1 q2 q3; have K7 : Hid (TMap w w7 p mb n3 D3 ((l.take (i' + 1)).foldl adel D) F3 ∧ ∀ i x, l[i]? = some x → ∃ g o, some (⟨g6, o6, none⟩ : Addr) = some ⟨g, o, none⟩ ∧ g ≠ mb ∧ w7.cell? ⟨g, o + i, none⟩ = some (.int .i64 x)) := ⟨by rw [HSN.out]; exact HT6.out.upd q2 q1, fun i x hx => (by obtain ⟨g, o, e1, h1, h2⟩ := HC6.out i x hx; exact ⟨g, o, e1, h1, (q2.cell (p := ⟨g, _, none⟩) (lt_of_cell h2) h1).trans h2⟩)⟩; clear q1 q2 q3 hlk cx cs0)
                go_roundg (gk - 1)
                case measure => have := HIK.out; omega
                case rel => exact ⟨i' + 1, d, rfl, by rw [show ((i' + 1 : Nat) : Int) = (i' : Int) + 1 from by omega], by have := HIK.out; omega, K7.out.1, K7.out.2, HLV.out⟩
            · have hil : i' = l.length := by omega
              subst hil
              rw [List.take_length, HLM.out.1] at hT6
              have hlen := fun t => run_len hT6.m Try.underlying46 t
              have HT6 := hid hT6
              clear hT6 hc6 hik hlv
              go_wp2_with fail
              refine (len_any wr HT6.out.t.ok).mono ?_
              rintro e w' ⟨rfl, rfl⟩
              go_wp2
              go_roundg (steps.length - (j + 1))
              case measure => have := HJ.out; omega
              case rel => exact ⟨j + 1, n3, D3, F3, by rw [show ((j + 1 : Nat) : Int) = (j : Int) + 1 from by omega], by have := HJ.out; omega, HT6.out, HR.out.2.1, fun h => absurd h (by omega), fun s0 h0 _ h1 h2 => HNX.out s0 h0 h1 h2⟩
        · have hjl : j = steps.length := by omega
          subst hjl
          have HT2 := hid hT
          clear hT hjk hlen hn0 hinv
          go_wp2_with fail
          refine (live_any wr).mono ?_
          rintro e w2' ⟨rfl, hb2⟩
          have HB2 := hid hb2; clear hb2
          go_wp2
          go_ret
          exact ⟨rfl, HT2.out.t.below.trans (HB2.out.mono HT2.out.t.below.size)⟩
end Go.Proofs.Yteoecpggmchbkaa
