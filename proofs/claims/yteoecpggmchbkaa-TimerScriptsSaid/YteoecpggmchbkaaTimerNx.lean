/- TimerNext's walk. -/
import Derived.Test.YteoecpggmchbkaaTimerM
import Derived.Deep.RegionHeld3
namespace Go.Proofs.Yteoecpggmchbkaa
open Go.RowKit

theorem aget_foldl {ks : List Int} : ∀ {D : Al}, (akeys D).Nodup → ∀ {x : Int}, x ∉ ks → aget (ks.foldl adel D) x = aget D x := by
  induction ks with
  | nil => intro D _ x _; rfl
  | cons k ks ih =>
    intro D hn x hx
    rw [List.foldl_cons, ih (nodup_adel hn k) (fun hm => hx (.tail _ hm)), aget_adel hn, if_neg (fun e : k = x => hx (e ▸ .head _))]
theorem new_any (n : Int) (w : World) :
    Calls Try.prog 8 #[.int .i64 n] w fun e w' => (¬ (0 ≤ n ∧ n ≤ 1099511627776) ∧ e = .returned (.tuple #[.pointer none, .int .i64 1]) ∧ w = w') ∨
      ((0 ≤ n ∧ n ≤ 1099511627776) ∧ ∃ p F, e = .returned (.tuple #[.pointer (some ⟨p, 0, none⟩), .int .i64 0]) ∧ Mine w.heap.size w w' p n.toNat [] F) := by
  by_cases h : 0 ≤ n ∧ n ≤ 1099511627776
  · obtain ⟨m, rfl⟩ := Int.eq_ofNat_of_zero_le h.1
    refine (new_ok m w (by omega)).mono ?_
    rintro e w' ⟨p, F, he, h1, h2, h3⟩
    exact .inr ⟨h, p, F, he, h1, h2, h3.size, h3⟩
  · refine (new_bad n w (by omega)).mono ?_
    rintro e w' ⟨he, hw⟩
    exact .inl ⟨h, he, hw⟩

set_option maxRecDepth 100000 in
set_option maxHeartbeats 1000000 in
theorem next_short {now : Int} {v : Value} {ops : List (Int × Int × Int)} (w : World) (hv : SliceOp w v ops) (h : 60 < ops.length ∨ ¬ (0 ≤ now ∧ now ≤ 1099511627776)) :
    Calls Try.prog 7 #[.int .i64 now, v] w fun e w' => e = .returned (.bool true) ∧ Below w.heap.size w w' := by
  have HN : Hid (Calls Try.prog 8 #[.int .i64 now] w fun e w' => ∃ q x, e = .returned (.tuple #[q, .int .i64 x]) ∧ (60 < ops.length ∨ x ≠ 0) ∧ Below w.heap.size w w') := by
    refine (new_any now w).mono ?_
    rintro e w' (⟨h1, rfl, rfl⟩ | ⟨h1, p, F, rfl, hm⟩)
    · exact ⟨_, _, rfl, .inr (by omega), Below.refl _ _⟩
    · exact ⟨_, _, rfl, .inl (h.resolve_right (fun h2 => h2 h1)), hm.below⟩
  obtain ⟨a, cap, rfl, -⟩ := hv
  clear h
  go_enter Try.func7, Try.ntmps7
  go_wp2_with fail
  refine HN.out.mono ?_
  rintro e w1 ⟨q, x, rfl, hx, hb⟩
  have HB := hid hb; clear hb
  by_cases hl : 60 < ops.length
  · have t1 : decide ((60 : Int) < (ops.length : Int)) = true := by simp; omega
    have t2 : decide (60 < ops.length) = true := by simp; omega
    clear hx
    go_wp2_with fail
    refine (live_any w1).mono ?_
    rintro e w2 ⟨rfl, hb2⟩
    have HB2 := hid hb2; clear hb2
    go_wp2
    go_ret
    exact ⟨rfl, HB.out.trans (HB2.out.mono HB.out.size)⟩
  · have t1 : decide ((60 : Int) < (ops.length : Int)) = false := by simp; omega
    have t2 : decide (60 < ops.length) = false := by simp; omega
    have t3 : (x != 0) = true := by simpa using hx.resolve_left hl
    clear hx
    go_wp2_with fail
    refine (live_any w1).mono ?_
    rintro e w2 ⟨rfl, hb2⟩
    have HB2 := hid hb2; clear hb2
    go_wp2
    go_ret
    exact ⟨rfl, HB.out.trans (HB2.out.mono HB.out.size)⟩

set_option maxRecDepth 100000 in
set_option maxHeartbeats 8000000 in
theorem timerNext_ok {now : Nat} {v : Value} {ops : List (Int × Int × Int)} (w : World) (hv : SliceOp w v ops) (hl : ops.length ≤ 60) (hn : now ≤ 1099511627776) :
    Calls Try.prog 7 #[.int .i64 now, v] w fun e w' => e = .returned (.bool true) ∧ Below w.heap.size w w' := by
  have hmm := @run_makeMap Try.prog
  have HN : Hid (Calls Try.prog 8 #[.int .i64 now] w fun e w' => ∃ p F, e = .returned (.tuple #[.pointer (some ⟨p, 0, none⟩), .int .i64 0]) ∧ Mine w.heap.size w w' p now [] F) := by
    refine (new_ok now w hn).mono ?_
    rintro e w' ⟨p, F, he, h1, h2, h3⟩
    exact ⟨p, F, he, h1, h2, h3.size, h3⟩
  obtain ⟨a, cap, rfl⟩ : ∃ a cap, v = .slice a ops.length cap := by obtain ⟨a, cap, e, -⟩ := hv; exact ⟨a, cap, e⟩
  have HV := hid hv.cells
  clear hv
  have t1 : decide ((60 : Int) < (ops.length : Int)) = false := by simp; omega
  have t2 : decide (60 < ops.length) = false := by simp; omega
  have HL := hid hl; clear hl
  go_enter Try.func7, Try.ntmps7
  go_wp2_with fail
  refine HN.out.mono ?_
  clear HN
  rintro e w1 ⟨p, F1, rfl, m1⟩
  have M1 : Hid (TMap w (w1.alloc (.map #[] 0)) p w1.heap.size now [] [] F1) := by
    have hs : Step F1 F1 w1 (w1.alloc (.map #[] 0)) := Step.of_none ((Upd.refl _ _).alloc _)
    exact ⟨m1.step hs (m1.ok.upd ((Upd.refl (fun _ => False) w1).alloc _) (fun _ _ f => f)), MapAt.fresh ekI ekI w1, fun hm => by have := m1.ok.lt _ hm; omega, m1.size⟩
  clear m1
  go_wp2_with fail
  obtain ⟨mb, hmb⟩ : ∃ b, b = w1.heap.size := ⟨_, rfl⟩
  rw [← hmb] at M1 ⊢
  clear hmb
  generalize w1.alloc (.map #[] 0) = w2 at *
  go_loopg [8] ops.length (fun k i wr => ∃ (j : Nat) (F : List Nat), i = .int .i64 (j : Int) ∧ j + k = ops.length ∧ TMap w wr p mb now (sets [] (ops.take j)) (sets [] (ops.take j)) F)
  case atStart => exact ⟨0, F1, rfl, by omega, M1.out⟩
  case round =>
    obtain ⟨j, F, rfl, hjk, hT⟩ := hrel
    by_cases hj : j < ops.length
    · have hx : ops[j]? = some ops[j] := List.getElem?_eq_getElem hj
      obtain ⟨g, o, rfl, hc⟩ := HV.out j _ hx
      generalize ops[j] = x at *
      obtain ⟨x0, x1, x2⟩ := x
      obtain ⟨-, c1, c2⟩ := hc wr hT.t.below
      have hT' := hT.keep (Upd.drew (Upd.refl (fun _ => False) wr))
      have HC : Hid (∀ w', Below w.heap.size w w' → w'.cell? ⟨g, o + j * 3 + 1, none⟩ = some (.int .i64 x1) ∧ w'.cell? ⟨g, o + j * 3 + 2, none⟩ = some (.int .i64 x2)) := fun w' hb => (hc w' hb).2
      have hset := set_any x1 x2 wr.drew hT'.t.ok
      have HT := hid hT'; have HJ := hid hjk; have HX := hid hx
      have hwj : IntKind.i64.wrap ((j : Int) + 1) = (j : Int) + 1 := wrap_in64 (by omega) (by have := HL.out; omega)
      dsimp only at c1 c2
      have hsn : ∀ D : Al, sets D (ops.take (j + 1)) = setT (sets D (ops.take j)) x1 x2 := fun D => by rw [List.take_add_one, hx]; exact sets_snoc _ _ _
      have HSN := hid hsn
      clear hT hT' hjk hx hc hsn
      by_cases hok : setOk x1 x2
      · rw [if_pos hok] at hset
        have HST := hid hset; have HOK := hid hok
        clear hset hok
        go_wp2_with fail
        go_region_held3 (fun w' => w'.cell? ⟨g, o + j * 3 + 1, none⟩ = some (.int .i64 x1) ∧ w'.cell? ⟨g, o + j * 3 + 2, none⟩ = some (.int .i64 x2)) (first | assumption | go_keep | exact ⟨by assumption, by assumption⟩)
          (first | (go_at_call 14; refine HST.out.mono ?_; rintro e w3 ⟨rfl, F3, t3, s3⟩; have K3 := hid (HT.out.step s3 t3); have d3 := HC.out w3 K3.out.t.below; obtain ⟨d1, d2⟩ := d3; clear t3 s3))
        have hT3 := K3.out.keep (Upd.drew (Upd.refl (fun _ => False) w3))
        obtain ⟨w4, hrun, hm, hu, hsz⟩ := run_update hT3.m (keyInt Try.underlying3) Try.underlying46 x1 x2
        have hT4 := hT3.upd hu hm
        have d4 := HC.out w4 hT4.t.below
        obtain ⟨d5, d6⟩ := d4
        simp only [ekI] at hrun
        have HT4 := hid hT4
        clear hT3 hm hu hsz hT4
        go_wp2_with fail
        go_region_held3 (fun w' => w'.cell? ⟨g, o + j * 3 + 1, none⟩ = some (.int .i64 x1) ∧ w'.cell? ⟨g, o + j * 3 + 2, none⟩ = some (.int .i64 x2)) (first | assumption | go_keep | exact ⟨by assumption, by assumption⟩) (fail)
        go_wp2
        go_roundg (gk - 1)
        case measure => have := HJ.out; omega
        case rel =>
          refine ⟨j + 1, F3, by rw [show ((j + 1 : Nat) : Int) = (j : Int) + 1 from by omega], by have := HJ.out; omega, ?_⟩
          rw [HSN.out]
          have := HT4.out
          rw [show setT (sets [] (ops.take j)) x1 x2 = aset (sets [] (ops.take j)) x1 x2 from if_pos HOK.out] at this ⊢
          exact this
      · rw [if_neg hok] at hset
        have HST := hid hset; have HOK := hid hok
        clear hset hok
        go_wp2_with fail
        go_region_held3 (fun w' => w'.cell? ⟨g, o + j * 3 + 1, none⟩ = some (.int .i64 x1) ∧ w'.cell? ⟨g, o + j * 3 + 2, none⟩ = some (.int .i64 x2)) (first | assumption | go_keep | exact ⟨by assumption, by assumption⟩)
          (first | (go_at_call 14; refine HST.out.mono ?_; rintro e w3 ⟨rfl, F3, t3, s3⟩; have K3 := hid (HT.out.step s3 t3); have d3 := HC.out w3 K3.out.t.below; obtain ⟨d1, d2⟩ := d3; clear t3 s3))
        go_wp2
        go_roundg (gk - 1)
        case measure => have := HJ.out; omega
        case rel =>
          refine ⟨j + 1, F3, by rw [show ((j + 1 : Nat) : Int) = (j : Int) + 1 from by omega], by have := HJ.out; omega, ?_⟩
          rw [HSN.out]
          have := K3.out
          rw [show setT (sets [] (ops.take j)) x1 x2 = sets [] (ops.take j) from if_neg HOK.out] at this ⊢
          exact this
    · have hjl : j = ops.length := by omega
      subst hjl
      rw [List.take_length] at hT
      have hDl : (sets [] ops).length ≤ 60 := Nat.le_trans (sets_length ops []) (by have := HL.out; simpa using this)
      generalize sets [] ops = D0 at *
      have HT := hid hT; have HDL := hid hDl
      clear hT hjk hDl
      go_wp2_with (at_len; refine wpList_len_is (ek := ekI) (ev := ekI) (l := D0) rfl _ rfl Try.underlying46 mb rfl HT.out.m ?next)
      next =>
        go_wp2_with fail
        refine (len_any wr HT.out.t.ok).mono ?_
        rintro e w' ⟨rfl, rfl⟩
        go_wp2_with fail
        go_loopg [9] 61 (fun k i wr => ∃ (j n : Nat) (D : Al) (F : List Nat), i = .int .i64 (j : Int) ∧ j + k = 61 ∧ TMap w wr p mb n D D F ∧ D.length + j ≤ 60 ∧ (n = now ∨ ∀ q ∈ D, (n : Int) < q.2))
        case atStart => exact ⟨0, now, D0, F, rfl, rfl, HT.out, HDL.out, .inl rfl⟩
        case round =>
          obtain ⟨j, n, D, F, rfl, hjk, hT, hlen, hnow⟩ := hrel
          have hj61 : (j : Int) < 61 := by omega
          have hnx := tnext_any wr hT.t.ok
          have HT := hid hT; have HJ := hid hjk; have HLE := hid hlen; have HNW := hid hnow
          have hwj : IntKind.i64.wrap ((j : Int) + 1) = (j : Int) + 1 := wrap_in64 (by omega) (by omega)
          clear hT hjk hlen hnow
          go_wp2_with fail
          refine hnx.mono ?_
          clear hnx
          rintro e w3 (⟨hD, rfl, rfl⟩ | ⟨hD, V, hV, rfl, hb⟩)
          · subst hD
            go_wp2_with (at_len; refine wpList_len_is (ek := ekI) (ev := ekI) (l := ([] : Al)) rfl _ rfl Try.underlying46 mb rfl HT.out.m ?next2)
            next =>
              go_wp2_with fail
              refine (len_any wr HT.out.t.ok).mono ?_
              rintro e w' ⟨rfl, rfl⟩
              go_wp2_with fail
              refine (live_any wr).mono ?_
              rintro e w4 ⟨rfl, hb⟩
              have HB := hid hb; clear hb
              go_wp2
              go_ret
              exact ⟨rfl, HT.out.t.below.trans (HB.out.mono HT.out.t.size)⟩
          · have hge : ∀ q ∈ D, minOf 2199023255552 V ≤ q.2 := fun q hq => (minOf_le V _).2 q (hV.mem_iff.2 hq)
            have hin : ∃ q ∈ D, q.2 = minOf 2199023255552 V := by
              rcases minOf_mem V 2199023255552 with k | ⟨q, hq, k⟩
              · cases hDD : D with
                | nil => exact absurd hDD hD
                | cons q r =>
                  have h1 := hge q (by rw [hDD]; exact .head _)
                  have h2 := (HT.out.rng q (by rw [hDD]; exact .head _)).2
                  omega
              · exact ⟨q, hV.mem_iff.1 hq, k.symm⟩
            obtain ⟨a0, ha0⟩ : ∃ a0, a0 = minOf 2199023255552 V := ⟨_, rfl⟩
            rw [← ha0] at hge hin ⊢
            obtain ⟨m, rfl⟩ : ∃ m : Nat, a0 = (m : Int) := by
              obtain ⟨q, hq, he⟩ := hin
              exact Int.eq_ofNat_of_zero_le (by have := (HT.out.rng q hq).1; omega)
            have hm2 : m ≤ 1099511627776 := by
              obtain ⟨q, hq, he⟩ := hin
              have := (HT.out.rng q hq).2; omega
            have HT3 := hid (HT.out.keepB hb)
            have HGE := hid hge; have HIN := hid hin; have HDN := hid hD
            have hn2 : n ≤ 1099511627776 := HT.out.now
            clear hb hge hin hD hV ha0
            go_wp2_with fail
            refine (now_any w3 HT3.out.t.ok).mono ?_
            rintro e w' ⟨rfl, rfl⟩
            have hD60 : D.length ≤ 60 := by have := HLE.out; omega
            by_cases hmn : n < m
            · have hmax : max (m : Int) (n : Int) = (m : Int) := by omega
              have hmax2 : max m n = m := by omega
              have tmn : decide ((n : Int) < (m : Int)) = true := by simp; omega
              have tmn2 : decide (n < m) = true := by simp; omega
              have hm1 : IntKind.i64.wrap ((m : Int) - 1) = ((m - 1 : Nat) : Int) := by rw [wrap_in64 (by omega) (by omega)]; omega
              have hall : ∀ q ∈ D, ((m - 1 : Nat) : Int) < q.2 := fun q hq => by have := HGE.out q hq; omega
              have htl : tell D ((m - 1 : Nat) : Int) = [] := tell_none HT3.out.nd hall
              have hlf : left D ((m - 1 : Nat) : Int) = D := left_all hall
              have hadv := adv_tell (to := m - 1) w3 HT3.out.t.ok (by omega) (by omega) (by omega)
              rw [htl, hlf] at hadv
              have HADV := hid hadv
              clear hadv htl hlf hall
              go_wp2_with fail
              refine (now_any w3 HT3.out.t.ok).mono ?_
              rintro e w' ⟨rfl, rfl⟩
              go_wp2_with fail
              refine HADV.out.mono ?_
              rintro e w4 ⟨v4, F4, rfl, hh4, t4, s4⟩
              obtain ⟨⟨a4, cap4, rfl, -⟩, -⟩ := hh4
              have HT4 := hid (HT3.out.step s4 t4)
              clear t4 s4
              go_wp2_with fail
              refine (adv_tell (to := m) w4 HT4.out.t.ok (by omega) (by omega) (by omega)).mono ?_
              rintro e w5 ⟨v5, F5, rfl, hh, t5, s5⟩
              have hT5 := HT4.out.step s5 t5
              obtain ⟨⟨a5, cap5, rfl, hc5⟩, -⟩ := hh
              have hln : (tell D m).length + (left D m).length = D.length := tell_length D m
              have hnd := HT4.out.nd
              obtain ⟨l, hl⟩ : ∃ l, l = tell D m := ⟨_, rfl⟩
              have HLM : Hid (l.foldl adel D = left D m ∧ l.Nodup ∧ (∀ id ∈ l, ∃ d, aget D id = some d ∧ d ≤ (m : Int) ∧ (m : Int) ≤ d)) := by
                rw [hl]
                refine ⟨tell_left hnd m, nodup_tell hnd m, fun id hid => ?_⟩
                obtain ⟨d, h1, h2⟩ := (mem_tell hnd).1 hid
                exact ⟨d, h1, h2, HGE.out _ (aget_mem h1)⟩
              have hl1 : 1 ≤ l.length := by
                obtain ⟨q, hq, he⟩ := HIN.out
                have : q.1 ∈ l := by rw [hl]; exact (mem_tell hnd).2 ⟨q.2, aget_of_mem hnd hq, by omega⟩
                exact List.length_pos_of_mem this
              rw [← hl] at hln hc5 ⊢
              have HC5 : Hid (∀ i x, l[i]? = some x → ∃ g o, a5 = some ⟨g, o, none⟩ ∧ g ≠ mb ∧ w5.cell? ⟨g, o + i, none⟩ = some (.int .i64 x)) := by
                intro i x hx
                obtain ⟨g, o, e1, h1⟩ := hc5 i x hx
                refine ⟨g, o, e1, fun e => ?_, h1⟩
                obtain ⟨es, c, hb, _⟩ := hT5.m
                rw [e] at h1
                simp [World.cell?, hb] at h1
              have HT5 := hid hT5; have HLN := hid hln; have HL1 := hid hl1; have HND := hid hnd
              have tl0 : ((l.length : Int) == 0) = false := by rw [beq_eq_false_iff_ne]; omega
              clear hT5 hc5 hln hl hl1 hnd t5 s5
              go_wp2_with fail
              go_loopg [14] l.length (fun k i wr => ∃ i' : Nat, i = .int .i64 (i' : Int) ∧ i' + k = l.length ∧ TMap w wr p mb m (left D m) ((l.take i').foldl adel D) F5 ∧ ∀ i x, l[i]? = some x → ∃ g o, a5 = some ⟨g, o, none⟩ ∧ g ≠ mb ∧ wr.cell? ⟨g, o + i, none⟩ = some (.int .i64 x))
              case atStart => exact ⟨0, rfl, by omega, HT5.out, HC5.out⟩
              case round =>
                obtain ⟨i', rfl, hik, hT6, hc6⟩ := hrel
                by_cases hi : i' < l.length
                · obtain ⟨x, hx⟩ : ∃ x, l[i']? = some x := ⟨l[i'], List.getElem?_eq_getElem hi⟩
                  obtain ⟨g6, o6, rfl, hg6, cx⟩ := hc6 i' x hx
                  obtain ⟨d, hd1, hd2, hd3⟩ := HLM.out.2.2 x (List.mem_of_getElem? hx)
                  have hxn : x ∉ l.take i' := fun hm => by
                    obtain ⟨k, hk1, hk2⟩ := List.mem_take_iff_getElem.1 hm
                    have h3 := (List.getElem?_eq_some_iff.1 hx)
                    obtain ⟨h4, h5⟩ := h3
                    have := (List.getElem_inj HLM.out.2.1).1 (hk2.trans h5.symm)
                    omega
                  have hlk := run_lookup hT6.m (keyInt Try.underlying3) Try.underlying46 Try.zeroInt x
                  rw [aget_foldl HND.out hxn, hd1] at hlk
                  simp only [ekI, Option.elim_some] at hlk
                  have tg : decide ((m : Int) < d) = false := by simp; omega
                  have hsn : (l.take (i' + 1)).foldl adel D = adel ((l.take i').foldl adel D) x := by rw [List.take_add_one, hx, List.foldl_append]; rfl
                  have hwi : IntKind.i64.wrap ((i' : Int) + 1) = (i' : Int) + 1 := wrap_in64 (by omega) (by have := HLN.out; omega)
                  have HT6 := hid hT6; have HC6 := hid hc6; have HIK := hid hik; have HSN := hid hsn; have HG6 := hid hg6
                  clear hT6 hc6 hik hsn hg6 hx hxn hd1
                  by_cases hdt : d < (m : Int)
                  · exact absurd hdt (by omega)
                  · have hde : d = (m : Int) := by omega
                    have tl : decide (d < (m : Int)) = false := by simpa using hdt
                    go_wp2_with (at_delete; refine wpList_delete_is (ek := ekI) (ev := ekI) (l := (l.take i').foldl adel D) rfl _ _ _ rfl (keyInt Try.underlying3) Try.underlying46 mb rfl x rfl HT6.out.m ?nextmB)
                    case nextmB => 
                      intro w7 k1 k2 k3
                      have K7 : Hid (TMap w w7 p mb m (left D m) ((l.take (i' + 1)).foldl adel D) F5 ∧ ∀ i x, l[i]? = some x → ∃ g o, some (⟨g6, o6, none⟩ : Addr) = some ⟨g, o, none⟩ ∧ g ≠ mb ∧ w7.cell? ⟨g, o + i, none⟩ = some (.int .i64 x)) := by
                        refine ⟨by rw [HSN.out]; exact HT6.out.upd k2 k1, fun i x hx => ?_⟩
                        obtain ⟨g, o, e1, h1, h2⟩ := HC6.out i x hx
                        exact ⟨g, o, e1, h1, (k2.cell (p := ⟨g, _, none⟩) (lt_of_cell h2) h1).trans h2⟩
                      clear k1 k2 k3 hlk cx
                      go_wp2
                      go_roundg (gk - 1)
                      case measure => have := HIK.out; omega
                      case rel => exact ⟨i' + 1, by rw [show ((i' + 1 : Nat) : Int) = (i' : Int) + 1 from by omega], by have := HIK.out; omega, K7.out.1, K7.out.2⟩
                · have hil : i' = l.length := by omega
                  subst hil
                  rw [List.take_length, HLM.out.1] at hT6
                  have HT6 := hid hT6
                  clear hT6 hc6 hik
                  go_wp2
                  go_roundg (60 - j)
                  case measure => have := HJ.out; omega
                  case rel => exact ⟨j + 1, m, left D m, F5, by rw [show ((j + 1 : Nat) : Int) = (j : Int) + 1 from by omega], by have := HJ.out; omega, HT6.out, by have := HLN.out; have := HL1.out; have := HLE.out; omega, .inr (fun q hq => (mem_left.1 hq).2)⟩
            · have hnn : n = now := by
                rcases HNW.out with h | h
                · exact h
                · obtain ⟨q, hq, he⟩ := HIN.out
                  have := h q hq; omega
              subst n
              have hmax : max (m : Int) (now : Int) = (now : Int) := by omega
              have hmax2 : max m now = now := by omega
              have tmn : decide ((now : Int) < (m : Int)) = false := by simp; omega
              have tmn2 : decide (now < m) = false := by simp; omega
              have HT4 := HT3
              go_wp2_with fail
              refine (now_any w3 HT3.out.t.ok).mono ?_
              rintro e w' ⟨rfl, rfl⟩
              go_wp2_with fail
              refine (adv_tell (to := now) w3 HT4.out.t.ok (by omega) (by omega) (by omega)).mono ?_
              rintro e w5 ⟨v5, F5, rfl, hh, t5, s5⟩
              have hT5 := HT4.out.step s5 t5
              obtain ⟨⟨a5, cap5, rfl, hc5⟩, -⟩ := hh
              have hln : (tell D now).length + (left D now).length = D.length := tell_length D now
              have hnd := HT4.out.nd
              obtain ⟨l, hl⟩ : ∃ l, l = tell D now := ⟨_, rfl⟩
              have HLM : Hid (l.foldl adel D = left D now ∧ l.Nodup ∧ (∀ id ∈ l, ∃ d, aget D id = some d ∧ d ≤ (now : Int) ∧ (m : Int) ≤ d)) := by
                rw [hl]
                refine ⟨tell_left hnd now, nodup_tell hnd now, fun id hid => ?_⟩
                obtain ⟨d, h1, h2⟩ := (mem_tell hnd).1 hid
                exact ⟨d, h1, h2, HGE.out _ (aget_mem h1)⟩
              have hl1 : 1 ≤ l.length := by
                obtain ⟨q, hq, he⟩ := HIN.out
                have : q.1 ∈ l := by rw [hl]; exact (mem_tell hnd).2 ⟨q.2, aget_of_mem hnd hq, by omega⟩
                exact List.length_pos_of_mem this
              rw [← hl] at hln hc5 ⊢
              have HC5 : Hid (∀ i x, l[i]? = some x → ∃ g o, a5 = some ⟨g, o, none⟩ ∧ g ≠ mb ∧ w5.cell? ⟨g, o + i, none⟩ = some (.int .i64 x)) := by
                intro i x hx
                obtain ⟨g, o, e1, h1⟩ := hc5 i x hx
                refine ⟨g, o, e1, fun e => ?_, h1⟩
                obtain ⟨es, c, hb, _⟩ := hT5.m
                rw [e] at h1
                simp [World.cell?, hb] at h1
              have HT5 := hid hT5; have HLN := hid hln; have HL1 := hid hl1; have HND := hid hnd
              have tl0 : ((l.length : Int) == 0) = false := by rw [beq_eq_false_iff_ne]; omega
              clear hT5 hc5 hln hl hl1 hnd t5 s5
              go_wp2_with fail
              go_loopg [14] l.length (fun k i wr => ∃ i' : Nat, i = .int .i64 (i' : Int) ∧ i' + k = l.length ∧ TMap w wr p mb now (left D now) ((l.take i').foldl adel D) F5 ∧ ∀ i x, l[i]? = some x → ∃ g o, a5 = some ⟨g, o, none⟩ ∧ g ≠ mb ∧ wr.cell? ⟨g, o + i, none⟩ = some (.int .i64 x))
              case atStart => exact ⟨0, rfl, by omega, HT5.out, HC5.out⟩
              case round =>
                obtain ⟨i', rfl, hik, hT6, hc6⟩ := hrel
                by_cases hi : i' < l.length
                · obtain ⟨x, hx⟩ : ∃ x, l[i']? = some x := ⟨l[i'], List.getElem?_eq_getElem hi⟩
                  obtain ⟨g6, o6, rfl, hg6, cx⟩ := hc6 i' x hx
                  obtain ⟨d, hd1, hd2, hd3⟩ := HLM.out.2.2 x (List.mem_of_getElem? hx)
                  have hxn : x ∉ l.take i' := fun hm => by
                    obtain ⟨k, hk1, hk2⟩ := List.mem_take_iff_getElem.1 hm
                    have h3 := (List.getElem?_eq_some_iff.1 hx)
                    obtain ⟨h4, h5⟩ := h3
                    have := (List.getElem_inj HLM.out.2.1).1 (hk2.trans h5.symm)
                    omega
                  have hlk := run_lookup hT6.m (keyInt Try.underlying3) Try.underlying46 Try.zeroInt x
                  rw [aget_foldl HND.out hxn, hd1] at hlk
                  simp only [ekI, Option.elim_some] at hlk
                  have tg : decide ((now : Int) < d) = false := by simp; omega
                  have hsn : (l.take (i' + 1)).foldl adel D = adel ((l.take i').foldl adel D) x := by rw [List.take_add_one, hx, List.foldl_append]; rfl
                  have hwi : IntKind.i64.wrap ((i' : Int) + 1) = (i' : Int) + 1 := wrap_in64 (by omega) (by have := HLN.out; omega)
                  have HT6 := hid hT6; have HC6 := hid hc6; have HIK := hid hik; have HSN := hid hsn; have HG6 := hid hg6
                  clear hT6 hc6 hik hsn hg6 hx hxn hd1
                  by_cases hdt : d < (now : Int)
                  · have tl : decide (d < (now : Int)) = true := by simpa using hdt
                    have tn : ((now : Int) != (now : Int)) = false := by simp
                    go_wp2_with (at_delete; refine wpList_delete_is (ek := ekI) (ev := ekI) (l := (l.take i').foldl adel D) rfl _ _ _ rfl (keyInt Try.underlying3) Try.underlying46 mb rfl x rfl HT6.out.m ?nextnA)
                    case nextnA => 
                      intro w7 k1 k2 k3
                      have K7 : Hid (TMap w w7 p mb now (left D now) ((l.take (i' + 1)).foldl adel D) F5 ∧ ∀ i x, l[i]? = some x → ∃ g o, some (⟨g6, o6, none⟩ : Addr) = some ⟨g, o, none⟩ ∧ g ≠ mb ∧ w7.cell? ⟨g, o + i, none⟩ = some (.int .i64 x)) := by
                        refine ⟨by rw [HSN.out]; exact HT6.out.upd k2 k1, fun i x hx => ?_⟩
                        obtain ⟨g, o, e1, h1, h2⟩ := HC6.out i x hx
                        exact ⟨g, o, e1, h1, (k2.cell (p := ⟨g, _, none⟩) (lt_of_cell h2) h1).trans h2⟩
                      clear k1 k2 k3 hlk cx
                      go_wp2
                      go_roundg (gk - 1)
                      case measure => have := HIK.out; omega
                      case rel => exact ⟨i' + 1, by rw [show ((i' + 1 : Nat) : Int) = (i' : Int) + 1 from by omega], by have := HIK.out; omega, K7.out.1, K7.out.2⟩
                  · have hde : d = (now : Int) := by omega
                    have tl : decide (d < (now : Int)) = false := by simpa using hdt
                    go_wp2_with (at_delete; refine wpList_delete_is (ek := ekI) (ev := ekI) (l := (l.take i').foldl adel D) rfl _ _ _ rfl (keyInt Try.underlying3) Try.underlying46 mb rfl x rfl HT6.out.m ?nextnB)
                    case nextnB => 
                      intro w7 k1 k2 k3
                      have K7 : Hid (TMap w w7 p mb now (left D now) ((l.take (i' + 1)).foldl adel D) F5 ∧ ∀ i x, l[i]? = some x → ∃ g o, some (⟨g6, o6, none⟩ : Addr) = some ⟨g, o, none⟩ ∧ g ≠ mb ∧ w7.cell? ⟨g, o + i, none⟩ = some (.int .i64 x)) := by
                        refine ⟨by rw [HSN.out]; exact HT6.out.upd k2 k1, fun i x hx => ?_⟩
                        obtain ⟨g, o, e1, h1, h2⟩ := HC6.out i x hx
                        exact ⟨g, o, e1, h1, (k2.cell (p := ⟨g, _, none⟩) (lt_of_cell h2) h1).trans h2⟩
                      clear k1 k2 k3 hlk cx
                      go_wp2
                      go_roundg (gk - 1)
                      case measure => have := HIK.out; omega
                      case rel => exact ⟨i' + 1, by rw [show ((i' + 1 : Nat) : Int) = (i' : Int) + 1 from by omega], by have := HIK.out; omega, K7.out.1, K7.out.2⟩
                · have hil : i' = l.length := by omega
                  subst hil
                  rw [List.take_length, HLM.out.1] at hT6
                  have HT6 := hid hT6
                  clear hT6 hc6 hik
                  go_wp2
                  go_roundg (60 - j)
                  case measure => have := HJ.out; omega
                  case rel => exact ⟨j + 1, now, left D now, F5, by rw [show ((j + 1 : Nat) : Int) = (j : Int) + 1 from by omega], by have := HJ.out; omega, HT6.out, by have := HLN.out; have := HL1.out; have := HLE.out; omega, .inr (fun q hq => (mem_left.1 hq).2)⟩
end Go.Proofs.Yteoecpggmchbkaa
