/- timer.Advance: it goes. -/
import Derived.Test.YteoecpggmchbkaaTimerV
namespace Go.Proofs.Yteoecpggmchbkaa
open Go.RowKit

/-- What timer.Advance tells. -/
def AdvPost (p to : Nat) (D : List (Int × Int)) (F : List Nat) (w : World) (e : Ending) (w' : World) : Prop :=
  ∃ v l L F', e = .returned v ∧ l = sortD D L ∧ L.Nodup ∧ (∀ id, id ∈ L ↔ ∃ m, aget D id = some m ∧ m ≤ to) ∧ w'.ownsRow w.heap.size 3 1 v l.length (l.map ekI) ∧ TimerOk w' p to (l.foldl adel D) F' ∧ Step F F' w w' ∧ ∀ y ∈ F', some y ≠ v.ownBlock

/-- Where timer.Advance is between two stops. -/
def Going (w1 : World) (p to : Nat) (D : List (Int × Int)) (F : List Nat) (k : Nat) (wr : World) : Prop :=
  ∃ (n : Nat) (S : PS) (F' : List Nat), n + k = to ∧ TimerAt wr p n D S.1 S.2.1 S.2.2 F' ∧ TInv n D S (fun _ => False) ∧ Step F F' w1 wr

set_option maxRecDepth 100000 in
set_option maxHeartbeats 1000000 in
theorem adv_ok {p n to : Nat} {D : List (Int × Int)} {F : List Nat} (w : World) (h : TimerOk w p n D F) (h1 : n ≤ to) (h2 : to ≤ 1099511627776) (hD : D.length ≤ 1000000) :
    Calls Try.prog 15 #[.pointer (some ⟨p, 0, none⟩), .int .i64 to] w (AdvPost p to D F w) := by
  obtain ⟨S, h, hI⟩ := h
  obtain ⟨i0, hinf, hz0, hz1, hz2⟩ := info_parts Try.infoInt
  obtain ⟨c0, -⟩ := h.cell0
  have hp : p < w.heap.size := h.lt p h.self
  have t1 : decide ((to : Int) < n) = false := by simp; omega
  have t3 : decide (to < n) = false := by simp; omega
  have t2 : decide ((1099511627776 : Int) < to) = false := by simp; omega
  have H := hid h; have HI := hid hI; have HD := hid hD
  clear h hI hD
  go_enter Try.func15, Try.ntmps15
  go_wp2_with fail
  clear c0 t1 t2 t3
  have HG : Hid (∃ w1 : World, w1 = w.alloc (.cells #[.pointer (some ⟨p, 0, none⟩)] 23) ∧ Going w1 p to D F (to - n) w1 ∧ Upd (fun _ => False) w w1 ∧ w1.heap.size = w.heap.size + 1 ∧ w1.cell? ⟨w.heap.size, 0, none⟩ = some (.pointer (some ⟨p, 0, none⟩))) := by
    refine ⟨_, rfl, ⟨n, S, F, by omega, H.out.upd ((Upd.refl (fun _ => False) w).alloc _) (fun _ _ h => h), HI.out, Step.refl _ _⟩, (Upd.refl _ _).alloc _, by simp, ?_⟩
    exact (cell_of_heap (heap_alloc_new _ _) 0).trans rfl
  obtain ⟨w1, e1, hg, hu, hs1, hb⟩ := HG.out
  rw [← e1]
  obtain ⟨pb, hpb⟩ : ∃ x, x = w.heap.size := ⟨_, rfl⟩
  rw [← hpb] at hb hs1 ⊢
  have HG2 := hid hg; have HU := hid hu; have HB := hid hb; have HP := hid hpb
  have HF : Hid (∀ y ∈ F, y < pb) := fun y hy => by rw [hpb]; exact H.out.lt y hy
  clear e1 hg hu hpb hb HG
  -- what a Step from w1 leaves of the box
  have HK : Hid (∀ (F' : List Nat) (wr : World), Step F F' w1 wr → wr.cell? ⟨pb, 0, none⟩ = some (.pointer (some ⟨p, 0, none⟩)) ∧ pb < wr.heap.size ∧ pb ∉ F') := by
    intro F' wr hs
    have hne : pb ∉ F := fun hm => by have := HF.out pb hm; omega
    refine ⟨(hs.upd.cell (p := ⟨pb, 0, none⟩) (by rw [hs1]; exact Nat.lt_succ_self _) hne).trans HB.out, by have := hs.upd.size; omega, fun hm => ?_⟩
    rcases hs.sub pb hm with hm | hm
    · exact hne hm
    · omega
  have HX : Hid (∀ (F' : List Nat) (wr : World), Step F F' w1 wr → Step F F' w wr) := fun F' wr hs => (Step.of (F' := F) (HU.out.mono fun _ _ f => f.elim) fun y hy => .inl hy).trans hs
  have hne1 : p ≠ pb := fun e => by have := HF.out p H.out.self; omega
  have hne2 : pb ≠ p := fun e => hne1 e.symm
  go_loopg [] (to - n) (fun k wr => Going w1 p to D F k wr)
  case atStart => exact HG2.out
  case round =>
    obtain ⟨n', S', F', hk, ha, hi, hs⟩ := hrel
    obtain ⟨q0, q1, q2⟩ := HK.out F' wr hs
    have hp' : p < wr.heap.size := ha.lt p ha.self
    have hstop := stop_any wr ha hi HD.out
    have HA := hid ha; have HI' := hid hi; have HS := hid hs; have HST := hid hstop; have HKK := hid hk; have HQ2 := hid q2
    clear ha hi hs hstop hk q2
    go_wp2_with fail
    refine HST.out.mono ?_
    rintro e w2 ⟨at_, lvl, v, ids, rfl, hown, hbl, hsay⟩
    have r0 := (hbl.cell (p := ⟨pb, 0, none⟩) q1).trans q0
    have ha2 : TimerAt w2 p n' D S'.1 S'.2.1 S'.2.2 F' := HA.out.congr (fun y hy => hbl.block y (HA.out.lt y hy))
    have hs2 : Step F F' w1 w2 := HS.out.trans (Step.of (Upd.of_below hbl (fun x a b => by omega)) fun y hy => .inl hy)
    obtain ⟨k1, k2, k3⟩ := hsay.spec HI'.out
    obtain ⟨r1, r2⟩ := ha2.cell0
    have HO := hid hown; have HBL := hid hbl
    have hl2 : wr.heap.size ≤ w2.heap.size := hbl.size
    have HS2 := hid hs2
    have HFW : Hid (∀ y ∈ F', y < wr.heap.size) := fun y hy => HA.out.lt y hy
    clear hown hbl hsay hs2 HS HST HA q0
    by_cases hgt : (to : Int) < at_
    · have hi3 := k2 to (by have := HKK.out; omega) hgt h2
      obtain ⟨ha3, hs3⟩ := ha2.clock (to : Int)
      obtain ⟨md, mf, ml, bs, Fs, t3, hF3⟩ := ha3
      have r7 : w2.cell? ⟨p, 7, none⟩ = some (.map (some ml)) := by rw [← t3.cells.2.2.2.2]; exact (World.cell?_setCell_other _ _ _ _ (by intro e; cases e)).symm
      have T3 := hid t3; have E3 := hid hF3; have HS3 := hid (HS2.out.trans hs3); have HI3 := hid hi3
      clear ha2 k1 k2 k3 hi3 hs3 t3 hF3 HS2 HI' HO HBL
      go_wp2_with (at_range; refine wpList_range_is (ek := ekI) (ev := evB) (l := S'.2.2) rfl _ rfl Try.underlying50 ml rfl T3.out.hl ?next)
      case next =>
        intro x hr
        have HR := hid hr; clear hr r0 r1 r2 r7
        obtain ⟨w3, e3⟩ : ∃ y, y = w2.setCell ⟨p, 0, none⟩ (.int .i64 (to : Int)) := ⟨_, rfl⟩
        rw [← e3] at T3 HS3 HR ⊢
        have hz3 : w3.heap.size = w2.heap.size := by rw [e3]; simp
        clear e3
        obtain ⟨hq0, hq1, hq2⟩ := HK.out F' w3 HS3.out
        have hB4 : Below w3.heap.size w3 (w3.alloc x) := (Below.refl _ _).alloc (Nat.le_refl _) x
        have hs4 : (w3.alloc x).heap.size = w3.heap.size + 1 := by simp
        obtain ⟨r, hr⟩ : ∃ y, y = w2.heap.size := ⟨_, rfl⟩
        rw [hz3, ← hr] at hs4 hB4
        rw [← hr] at hz3 HR ⊢
        have HZ3 := hid hz3; clear hz3
        have HB4 := hid hB4; have HS4 := hid hs4; have HRR := hid hr
        clear hB4 hs4 hr hq0 hq1 hq2
        generalize w3.alloc x = w4 at *
        go_wp2_with fail
        go_loopg [10] S'.2.2.length (fun k out wr => ∃ V R, R.length = k ∧ wr.ownsRow (r + 1) 3 1 out (V.map Prod.fst).length ((V.map Prod.fst).map ekI) ∧ RangeAt ekI evB wr r ml S'.2.2 V R ∧ Below r w3 wr)
        case atStart => exact ⟨[], S'.2.2, rfl, ⟨rfl, .inl ⟨rfl, rfl⟩⟩, HR.out, HB4.out⟩
        case round =>
          obtain ⟨V, R, hk, hown, hr, hb⟩ := hrel
          rcases run_next_gen (P := Try.prog) hr 0 with ⟨rfl, hrun⟩ | ⟨R1, k, v, R2, w6, rfl, hrun, hr2, hu, hsz, hent⟩
          · have K1 := hid hown; have K2 := hid hr; have K3 := hid hb
            clear hown hr hb hk
            have hFr : ∀ y ∈ F', y < r := fun y hy => by
              have := TimerAt.lt ⟨md, mf, ml, bs, Fs, T3.out, E3.out⟩ y hy
              rw [HZ3.out] at this; exact this
            have hFs : ∀ y ∈ F', y < w3.heap.size := fun y hy => by rw [HZ3.out]; exact hFr y hy
            have hpr : pb < r := by rw [← HZ3.out]; exact (HK.out F' w3 HS3.out).2.1
            have ha5 : TimerAt wr p to D S'.1 S'.2.1 S'.2.2 F' := TimerAt.congr ⟨md, mf, ml, bs, Fs, T3.out, E3.out⟩ (fun y hy => K3.out.block y (hFr y hy))
            have hs5 : Step F F' w1 wr := HS3.out.trans (Step.of (Upd.of_below K3.out (fun x a b => by have := HZ3.out; omega)) fun y hy => .inl hy)
            have hb5 := (HK.out F' wr hs5).1
            have hql : (V.map Prod.fst).length ≤ 1000000 := by
              have h2 := K2.out.perm.length_eq
              have h3 := Nat.le_trans HI3.out.late_len HD.out
              simp at h2 ⊢; omega
            have hsort := sort_any (pb := pb) (base := r + 1) wr ha5 hb5 (fun y hy => Nat.lt_succ_of_lt (hFr y hy)) (Nat.lt_succ_of_lt hpr) K1.out hql
            obtain ⟨L, hL⟩ : ∃ x, x = V.map Prod.fst := ⟨_, rfl⟩
            rw [← hL] at hsort K1 hql
            have HL := hid hL; have HA5 := hid ha5; have HS5 := hid hs5; have HSO := hid hsort; have HQL := hid hql; have HFR := hid hFr
            clear hL ha5 hs5 hsort hql hFr hFs
            go_wp2_with fail
            refine HSO.out.mono ?_
            rintro e w6 ⟨rfl, ho6, hu6⟩
            have hwr : r < wr.heap.size := K2.out.lt
            have hb6 : Below r w3 w6 := K3.out.trans (hu6.below (by omega) (fun y hy e => by omega))
            have ha6 : TimerOk w6 p to D F' := ⟨S', HA5.out.upd hu6 (fun y hy e => by have := HFR.out y hy; omega), HI3.out⟩
            have hs6 : Step F F' w1 w6 := HS3.out.trans (Step.of (Upd.of_below hb6 (fun x a b => by have := HZ3.out; omega)) fun y hy => .inl hy)
            have b6 := (HK.out F' w6 hs6).1
            have hlen6 : (sortD D L).length = L.length := by simp [sortD]
            have HN : Hid (L.Nodup ∧ ∀ id, id ∈ L ↔ ∃ m, aget D id = some m ∧ m ≤ to) := by
              have hp : V.Perm S'.2.2 := by have := K2.out.perm; rwa [List.append_nil] at this
              rw [HL.out]
              refine ⟨(hp.map Prod.fst).nodup_iff.2 HI3.out.nl, fun id => ?_⟩
              rw [← HI3.out.late_iff id]
              exact (hp.map Prod.fst).mem_iff
            rcases ho6.2 with ⟨e10, h0⟩ | ⟨g, cap, cur, e10, hg, hh, g1, g2, g3, g4⟩
            · have hnil : L = [] := List.length_eq_zero_iff.1 h0
              have HO6 := hid ho6; have HA6 := hid ha6; have HS6 := hid hs6; have HNL := hid hnil
              clear ho6 hu6 hb6 ha6 hs6 hlen6 h0 hnil hb5
              subst e10
              go_wp2_with fail
              refine wp_loop_rounds 1 ?_
              rw [rounds_succ]
              go_wp2
              go_ret
              refine ⟨_, [], [], F', rfl, by simp [sortD], List.nodup_nil, fun id => ?_, ⟨rfl, .inl ⟨rfl, rfl⟩⟩, HA6.out, ?_, fun y _ e => by cases e⟩
              · rw [← HN.out.2 id, HNL.out]
              · exact HX.out F' _ HS6.out
            · subst e10
              have hgr : g < w6.heap.size := lt_of_heap hh
              have hgF : g ∉ F' := fun hm => by have := HFR.out g hm; omega
              have hcell : ∀ j (hj : j < L.length), ∃ x, (sortD D L)[j]? = some x ∧ cur[j]? = some (.int .i64 x) := by
                intro j hj
                refine ⟨(sortD D L)[j]'(by omega), List.getElem?_eq_getElem (by omega), ?_⟩
                have h5 : (cur.toList.take (L.length * 1))[j]? = ((sortD D L).map ekI)[j]? := by rw [g4]
                rw [List.getElem?_take_of_lt (by omega), Array.getElem?_toList, List.getElem?_map, List.getElem?_eq_getElem (by omega)] at h5
                exact h5
              have HO6 := hid ho6; have HA6 := hid ha6; have HS6 := hid hs6; have HHH := hid hh; have HGF := hid hgF; have HGR := hid hgr; have HCE := hid hcell; have HLN := hid hlen6; have HGG := hid hg
              clear ho6 hu6 hb6 ha6 hs6 hh hgF hgr hcell hlen6 hg g1 g2 g3 g4 b6
              go_wp2_with fail
              go_loopg [76] L.length (fun k i wr => ∃ j F'', i = .int .i64 ((j : Nat) : Int) ∧ j + k = L.length ∧ TimerOk wr p to (((sortD D L).take j).foldl adel D) F'' ∧ Step F F'' w1 wr ∧ g ∉ F'' ∧ wr.heap[g]? = some (.cells cur 3 (0, 0)))
              case atStart => exact ⟨0, F', rfl, by omega, HA6.out, HS6.out, HGF.out, HHH.out⟩
              case round =>
                obtain ⟨j, F2, rfl, hjk, hok, hst, hgn, hgh⟩ := hrel
                by_cases hj : j < L.length
                · obtain ⟨x, hx1, hx2⟩ := HCE.out j hj
                  have hx3 : wr.cell? ⟨g, j, none⟩ = some (.int .i64 x) := by rw [cell_of_heap hgh]; exact hx2
                  have hbx := (HK.out F2 wr hst).1
                  have hcan := cancel_any x wr hok
                  have HJ := hid hjk; have HST2 := hid hst; have HGN := hid hgn; have HGH := hid hgh; have HX1 := hid hx1; have HCAN := hid hcan
                  clear hjk hok hst hgn hgh hx1 hx2 hcan
                  have hwj : IntKind.i64.wrap ((j : Int) + 1) = (j : Int) + 1 := wrap_i64_in (by omega) (by have := HQL.out; omega)
                  go_wp2_with fail
                  refine HCAN.out.mono ?_
                  rintro e w7 ⟨rfl, F3, hok3, hst3⟩
                  have hgl := lt_of_heap HGH.out
                  have K5 : Hid (TimerOk w7 p to (((sortD D L).take (j + 1)).foldl adel D) F3 ∧ Step F F3 w1 w7 ∧ g ∉ F3 ∧ w7.heap[g]? = some (.cells cur 3 (0, 0))) := by
                    refine ⟨?_, HST2.out.trans hst3, fun hm => ?_, (hst3.keep hgl HGN.out).trans HGH.out⟩
                    · rw [List.take_add_one, HX1.out, List.foldl_append]; exact hok3
                    · rcases hst3.sub g hm with hm | hm
                      · exact HGN.out hm
                      · omega
                  clear hok3 hst3 hgl hbx hx3
                  go_wp2
                  go_roundg (gk - 1)
                  case measure => have := HJ.out; omega
                  case rel => exact ⟨j + 1, F3, by rw [show ((j + 1 : Nat) : Int) = (j : Int) + 1 from by omega], by have := HJ.out; omega, K5.out.1, K5.out.2.1, K5.out.2.2.1, K5.out.2.2.2⟩
                · have hjl : j = L.length := by omega
                  subst hjl
                  have hbx := (HK.out F2 wr hst).1
                  have HOK := hid hok; have HST2 := hid hst; have HGN := hid hgn; have HGH := hid hgh
                  clear hok hst hgn hgh hjk
                  go_wp2
                  go_ret
                  refine ⟨_, sortD D L, L, F2, rfl, rfl, HN.out.1, HN.out.2, ?_, ?_, HX.out F2 _ HST2.out, fun y hy e => by cases e; exact HGN.out hy⟩
                  · rw [HLN.out]
                    rcases HO6.out.2 with ⟨e, _⟩ | ⟨g', cap', cur', e, q1, q2, q3, q4, q5, q6⟩
                    · cases e
                    · cases e
                      rw [HHH.out] at q2; cases q2
                      exact ⟨HO6.out.1, .inr ⟨g, cap, cur, rfl, by have := HGG.out; have := HP.out; omega, HGH.out, q3, q4, q5, q6⟩⟩
                  · have := HOK.out
                    rw [← HLN.out, List.take_length] at this
                    exact this
          · have hb2 : Below r w3 w6 := hb.trans (hu.below (by have := hr.lt; omega) (fun y hy e => by omega))
            have hown2 : w6.ownsRow (r + 1) 3 1 u10 (V.map Prod.fst).length ((V.map Prod.fst).map ekI) := ownsRow_other hown hu (fun g hg e => by omega)
            have hxl : (V.map Prod.fst).length + 1 ≤ 1000001 := by
              have h2 := hr.perm.length_eq
              have h3 := Nat.le_trans HI3.out.late_len HD.out
              simp at h2 ⊢; omega
            have HR2 := hid hr2; have HB2 := hid hb2; have HKL := hid hk; have HOW := hid hown2
            have hs2 : r < w6.heap.size := by rw [hsz]; exact hr.lt
            clear hr hb hk hr2 hb2 hu hsz hown2 hown
            simp only [ekI, evB] at hrun hent
            go_wp2_with (at_builtin; refine wpList_append_own _ rfl (.tmp 67) (.tmp 69) 39 rfl (r + 1) 3 i0 (.int .i64 0) 1 8 Try.underlying39 hinf hz0 hz1 hz2 rfl (by decide) _ (V.map Prod.fst).length _ rfl (HOW.out.alloc _) ⟨w6.heap.size, 0, none⟩ 1 1 [.int .i64 k] rfl rfl (cell_one_new _ _ _) (ints_oneCell .i64 [k]) (by unfold maxLen; omega) (by omega) (by simp; omega) ?next)
            case next =>
              intro v' w7 hown' hg _
              have hrow : ∀ g, some g = u10.ownBlock → r + 1 ≤ g := by
                intro g hgg
                rcases HOW.out.2 with ⟨e, _⟩ | ⟨g', _, _, e, hgb, _⟩
                · rw [e] at hgg; cases hgg
                · rw [e] at hgg; cases hgg; exact hgb
              have hmf : ml < r := by have := T3.out.hl.lt; rw [HZ3.out] at this; exact this
              have K1 : Hid (RangeAt ekI evB w7 r ml S'.2.2 (V ++ [(k, v)]) (R1 ++ R2)) := HR2.out.congr
                ((hg.block ml (by simp; omega) (fun e => by have := hrow ml e; omega)).trans (heap_alloc_old _ (by omega)))
                ((hg.block r (by simp; omega) (fun e => by have := hrow r e; omega)).trans (heap_alloc_old _ hs2))
              have K2 : Hid (Below r w3 w7) := (HB2.out.alloc (by omega) _).grown hg (by simp; omega) (fun g hgg => by have := hrow g hgg.symm; omega)
              have K3 := hid hown'
              clear hown' hg hrow
              go_wp2
              go_roundg (R1 ++ R2).length
              case measure => have := HKL.out; simp at this ⊢; omega
              case rel => exact ⟨V ++ [(k, v)], R1 ++ R2, rfl, by simpa [ekI] using K3.out, K1.out, K2.out⟩
    · have hle : at_ ≤ (to : Int) := by omega
      obtain ⟨m, rfl, hi3, hdue, hne⟩ := k3 (by omega)
      obtain ⟨ha3, hs3⟩ := ha2.clock (m : Int)
      have hlen : (ids.length : Int) = ids.length := rfl
      rcases HO.out.2 with ⟨e10, h0⟩ | ⟨g, cap, cur, e10, hg, hh, g1, g2, g3, g4⟩
      · exact absurd (List.length_eq_zero_iff.1 h0) hne
      · subst e10
        have hgn : g ∉ F' := fun hm => by have := HFW.out g hm; omega
        have hgh : (w2.setCell ⟨p, 0, none⟩ (.int .i64 (m : Int))).heap[g]? = some (.cells cur 3 (0, 0)) := by
          rw [heap_setCell_other _ (by omega)]; exact hh
        have hcell : ∀ j (hj : j < ids.length), ∃ x, ids[j]? = some x ∧ cur[j]? = some (.int .i64 x) := by
          intro j hj
          refine ⟨ids[j], List.getElem?_eq_getElem hj, ?_⟩
          have h5 : (cur.toList.take (ids.length * 1))[j]? = (ids.map ekI)[j]? := by rw [g4]
          rw [List.getElem?_take_of_lt (by omega), Array.getElem?_toList, List.getElem?_map, List.getElem?_eq_getElem hj] at h5
          exact h5
        have HLB : Hid (ids.length ≤ maxLen) := Nat.le_trans g1 g2
        have tb1 : decide ((to : Int) < (m : Int)) = false := by simp; omega
        have tb2 : decide (to < m) = false := by simp; omega
        have HA3 := hid ha3; have HS3 := hid (HS2.out.trans hs3); have HI3 := hid hi3; have HDUE := hid hdue; have HGN := hid hgn; have HGH := hid hgh; have HCE := hid hcell; have HK1 := hid k1
        clear ha2 k1 k2 k3 ha3 hs3 hi3 hdue hne hgn hgh hcell g1 g2 g3 g4 hh hg HS2 HI' HO HBL
        go_wp2_with fail
        obtain ⟨w3, e3⟩ : ∃ y, y = w2.setCell ⟨p, 0, none⟩ (.int .i64 (m : Int)) := ⟨_, rfl⟩
        rw [← e3] at HA3 HS3 HGH ⊢
        clear e3 r0 r1 r2
        go_loopg [43] ids.length (fun k i wr => ∃ (j : Nat) (S2 : PS) (F2 : List Nat), i = .int .i64 (j : Int) ∧ j + k = ids.length ∧ TimerAt wr p m D S2.1 S2.2.1 S2.2.2 F2 ∧ TInv m D S2 (· ∈ ids.drop j) ∧ Step F F2 w1 wr ∧ g ∉ F2 ∧ wr.heap[g]? = some (.cells cur 3 (0, 0)))
        case atStart => exact ⟨0, S', F', rfl, by omega, HA3.out, by simpa using HI3.out, HS3.out, HGN.out, HGH.out⟩
        case round =>
          obtain ⟨j, S2, F2, rfl, hjk, ha4, hi4, hst, hgn, hgh⟩ := hrel
          have hbx := (HK.out F2 wr hst).1
          by_cases hj : j < ids.length
          · obtain ⟨x, hx1, hx2⟩ := HCE.out j hj
            have hx3 : wr.cell? ⟨g, j, none⟩ = some (.int .i64 x) := by rw [cell_of_heap hgh]; exact hx2
            have hl := lift_any x wr ha4
            have hdr : ids.drop j = x :: ids.drop (j + 1) := by
              rw [List.drop_eq_getElem_cons hj]
              rw [List.getElem?_eq_getElem hj] at hx1
              rw [Option.some.inj hx1]
            obtain ⟨d, hd⟩ := HDUE.out x (List.mem_of_getElem? hx1)
            obtain ⟨b1, b2, b3, b4⟩ := hi4.rng x _ hd
            have HR2 := hid (hi4.relay x hd)
            have HJ := hid hjk; have HST2 := hid hst; have HGN2 := hid hgn; have HGH2 := hid hgh; have HLI := hid hl; have HDR := hid hdr; have HDD := hid hd; have HM := hid hi4.now
            have hwj : IntKind.i64.wrap ((j : Int) + 1) = (j : Int) + 1 := wrap_i64_in (by omega) (by have := HLB.out; unfold maxLen at this; omega)
            clear hjk ha4 hi4 hst hgn hgh hx1 hx2 hl hdr hd
            go_wp2_with fail
            refine HLI.out.mono ?_
            rintro e w7 ⟨rfl, F3, ha7, hs7⟩
            have hs8 := HST2.out.trans hs7
            have hbx7 := (HK.out F3 w7 hs8).1
            have hpl := place_any (S := liftS x S2) (m := d) x w7 ha7 b1 b2 HDD.out (by omega) HM.out
            have HG7 : Hid (g ∉ F3 ∧ w7.heap[g]? = some (.cells cur 3 (0, 0))) := by
              have hgl := lt_of_heap HGH2.out
              refine ⟨fun hm => ?_, (hs7.keep hgl HGN2.out).trans HGH2.out⟩
              rcases hs7.sub g hm with hm | hm
              · exact HGN2.out hm
              · omega
            have HS8 := hid hs8; have HPL := hid hpl
            clear hs8 hpl ha7 hs7 hbx hx3
            go_wp2_with fail
            refine HPL.out.mono ?_
            rintro e w8 ⟨rfl, F4, ha8, hs9⟩
            have K6 : Hid (TimerAt w8 p m D (placeS m x d (liftS x S2)).1 (placeS m x d (liftS x S2)).2.1 (placeS m x d (liftS x S2)).2.2 F4 ∧ Step F F4 w1 w8 ∧ g ∉ F4 ∧ w8.heap[g]? = some (.cells cur 3 (0, 0))) := by
              have hgl := lt_of_heap HG7.out.2
              refine ⟨ha8, HS8.out.trans hs9, fun hm => ?_, (hs9.keep hgl HG7.out.1).trans HG7.out.2⟩
              rcases hs9.sub g hm with hm | hm
              · exact HG7.out.1 hm
              · omega
            clear ha8 hs9 hbx7
            go_wp2
            go_roundg (gk - 1)
            case measure => have := HJ.out; omega
            case rel => exact ⟨j + 1, _, F4, by rw [show ((j + 1 : Nat) : Int) = (j : Int) + 1 from by omega], by have := HJ.out; omega, K6.out.1, HR2.out.mono (fun y hy => by have := hy.2; rw [HDR.out] at this; exact (List.mem_cons.1 this).resolve_left hy.1), K6.out.2.1, K6.out.2.2.1, K6.out.2.2.2⟩
          · have hjl : j = ids.length := by omega
            subst hjl
            have HA4 := hid ha4; have HI4 := hid hi4; have HST2 := hid hst
            clear ha4 hi4 hst hgn hgh hjk
            go_wp2
            go_roundg (to - m)
            case measure => have := HKK.out; have := HK1.out; omega
            case rel => exact ⟨m, S2, F2, by omega, HA4.out, HI4.out.mono (fun y hy => by rw [List.drop_length] at hy; cases hy), HST2.out⟩
end Go.Proofs.Yteoecpggmchbkaa
