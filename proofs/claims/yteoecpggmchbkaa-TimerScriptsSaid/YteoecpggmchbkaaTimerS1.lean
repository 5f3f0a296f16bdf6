/- timer.stop: nothing on the wheels. -/
import Derived.Test.YteoecpggmchbkaaTimerS
namespace Go.Proofs.Yteoecpggmchbkaa
open Go.RowKit

theorem ownsRow_base {w : World} {base base' : Nat} {e : TypeId} {size : Nat} {v : Value} {n : Nat} {xs : List Value} (h : w.ownsRow base e size v n xs) (hb : base' ≤ base) : w.ownsRow base' e size v n xs := by
  obtain ⟨h1, h2 | ⟨g, cap, cur, hv, hg, r⟩⟩ := h
  · exact ⟨h1, .inl h2⟩
  · exact ⟨h1, .inr ⟨g, cap, cur, hv, by omega, r⟩⟩

theorem ownsRow_other {w w' : World} {base : Nat} {e : TypeId} {size : Nat} {v : Value} {n : Nat} {xs : List Value} {F : Nat → Prop} (h : w.ownsRow base e size v n xs) (hu : Upd F w w') (hF : ∀ g, base ≤ g → ¬ F g) : w'.ownsRow base e size v n xs := by
  obtain ⟨h1, h2 | ⟨g, cap, cur, hv, hg, hh, r⟩⟩ := h
  · exact ⟨h1, .inl h2⟩
  · exact ⟨h1, .inr ⟨g, cap, cur, hv, hg, (hu.block g (lt_of_heap hh) (hF g hg)).trans hh, r⟩⟩

set_option maxRecDepth 100000 in
set_option maxHeartbeats 1000000 in
theorem stop_far {p n : Nat} {D : List (Int × Int)} {S : PS} {F : List Nat} (w : World) (h : TimerAt w p n D S.1 S.2.1 S.2.2 F) (hn : n ≤ 1099511627776) (hfl : S.2.1.length ≤ 1000000) (hrng : ∀ id m, aget D id = some m → 0 ≤ m ∧ m ≤ 1099511627776) (k0 : ∀ t, n % 64 < t → S.1 0 t = []) (k1 : ∀ t, n / 64 % 64 < t → S.1 1 t = []) (k2 : ∀ t, n / 4096 % 64 < t → S.1 2 t = []) (k3 : ∀ t, n / 262144 % 64 < t → S.1 3 t = []) :
    Calls Try.prog 28 #[.pointer (some ⟨p, 0, none⟩)] w (StopPost n D S w) := by
  obtain ⟨md, mf, ml, bs, Fs, h, rfl⟩ := h
  obtain ⟨i0, hi, hz0, hz1, hz2⟩ := info_parts Try.infoInt
  obtain ⟨c0, c1, ⟨c2, c3, c4, c5⟩, c6, c7⟩ := h.cells
  have x0 := Try.idx0
  have x1 := Try.idx1
  have x2 := Try.idx2
  have x3 := Try.idx3
  have HE : Hid (∀ j, j < 4 → ∀ t, n / 64 ^ j % 64 < t → S.1 j t = []) := by
    intro j hj t ht
    have hj' : j = 0 ∨ j = 1 ∨ j = 2 ∨ j = 3 := by omega
    rcases hj' with rfl | rfl | rfl | rfl
    · exact k0 t (by simpa using ht)
    · exact k1 t (by simpa using ht)
    · exact k2 t (by simpa [pw2] using ht)
    · exact k3 t (by simpa [pw3] using ht)
  have n0 := wnext_no (d := n % 64) w (by omega) (h.hw 0 (by omega)) k0
  obtain ⟨d0, hd0⟩ : ∃ d, d = n % 64 := ⟨_, rfl⟩
  have g0 : bits .and .i64 (n : Int) 63 = (d0 : Int) := by rw [hd0]; exact i64_and63 (n) (by omega)
  rw [← hd0] at n0
  have l0 : d0 < 64 := by omega
  have N0 := hid n0
  clear n0 hd0
  have n1 := wnext_no (d := n / 64 % 64) w (by omega) (h.hw 1 (by omega)) k1
  obtain ⟨d1, hd1⟩ : ∃ d, d = n / 64 % 64 := ⟨_, rfl⟩
  have g1 : bits .and .i64 ((n : Int) / 64) 63 = (d1 : Int) := by rw [hd1]; exact i64_and63 (n / 64) (by omega)
  rw [← hd1] at n1
  have l1 : d1 < 64 := by omega
  have N1 := hid n1
  clear n1 hd1
  have n2 := wnext_no (d := n / 4096 % 64) w (by omega) (h.hw 2 (by omega)) k2
  obtain ⟨d2, hd2⟩ : ∃ d, d = n / 4096 % 64 := ⟨_, rfl⟩
  have g2 : bits .and .i64 ((n : Int) / 4096) 63 = (d2 : Int) := by rw [hd2]; exact i64_and63 (n / 4096) (by omega)
  rw [← hd2] at n2
  have l2 : d2 < 64 := by omega
  have N2 := hid n2
  clear n2 hd2
  have n3 := wnext_no (d := n / 262144 % 64) w (by omega) (h.hw 3 (by omega)) k3
  obtain ⟨d3, hd3⟩ : ∃ d, d = n / 262144 % 64 := ⟨_, rfl⟩
  have g3 : bits .and .i64 ((n : Int) / 262144) 63 = (d3 : Int) := by rw [hd3]; exact i64_and63 (n / 262144) (by omega)
  rw [← hd3] at n3
  have l3 : d3 < 64 := by omega
  have N3 := hid n3
  clear n3 hd3
  have H := hid h; have HFL := hid hfl; have HRG := hid hrng
  clear h k0 k1 k2 k3 hfl hrng
  have HQ : Hid (∀ (wr : World), Below w.heap.size w wr → wr.cell? ⟨p, 1, none⟩ = some (.map (some md)) ∧ wr.cell? ⟨p, 6, none⟩ = some (.map (some mf)) ∧ MapAt ekI evB wr mf S.2.1 ∧
      ∀ id, ∃ y : Nat, (Instr.lookup 46 (.map (some md)) (.int .i64 id) false).run Try.prog wr = .ok (.int .i64 (y : Int)) wr ∧ y ≤ 1099511627776 ∧ fq D id = (y : Int) / 16777216 * 16777216) := by
    intro wr hb
    have hp : p < w.heap.size := lt_of_heap H.out.blk
    refine ⟨(hb.cell (p := ⟨p, 1, none⟩) hp).trans c1, (hb.cell (p := ⟨p, 6, none⟩) hp).trans c6, H.out.hf.congr (hb.block _ H.out.hf.lt), fun id => ?_⟩
    have hl := run_lookup (H.out.hd.congr (hb.block _ H.out.hd.lt)) (keyInt Try.underlying3) Try.underlying46 Try.zeroInt id
    cases hg : aget D id with
    | none =>
      rw [hg] at hl
      exact ⟨0, hl, by omega, by simp [fq, hg]⟩
    | some v =>
      rw [hg] at hl
      obtain ⟨v0, v1⟩ := HRG.out id v hg
      obtain ⟨y, rfl⟩ := Int.eq_ofNat_of_zero_le v0
      exact ⟨y, hl, by omega, by simp [fq, hg]⟩
  go_enter Try.func28, Try.ntmps28
  go_wp2_with fail
  refine wp_loop_rounds 5 ?_
  rw [rounds_succ]
  go_wp2_with fail
  refine N0.out.mono ?_
  rintro e w' ⟨rfl, rfl⟩
  clear g0
  go_wp2_with fail
  rw [rounds_succ]
  go_wp2_with fail
  refine N1.out.mono ?_
  rintro e w' ⟨rfl, rfl⟩
  clear g1
  go_wp2_with fail
  rw [rounds_succ]
  go_wp2_with fail
  refine N2.out.mono ?_
  rintro e w' ⟨rfl, rfl⟩
  clear g2
  go_wp2_with fail
  rw [rounds_succ]
  go_wp2_with fail
  refine N3.out.mono ?_
  rintro e w' ⟨rfl, rfl⟩
  clear g3
  go_wp2_with fail
  rw [rounds_succ]
  go_wp2_with (at_range; refine wpList_range_is (ek := ekI) (ev := evB) (l := S.2.1) rfl _ rfl Try.underlying50 mf rfl H.out.hf ?next)
  case next =>
    intro x hr
    have HR := hid hr; clear hr x0 x1 x2 x3 c0 c1 c2 c3 c4 c5 c6 c7
    have hb := (Below.refl w.heap.size w).alloc (Nat.le_refl _) x
    have HB := hid hb; clear hb
    generalize w.alloc x = w1 at *
    go_wp2_with fail
    go_loopg [11] S.2.1.length (fun k v wr => ∃ V R, R.length = k ∧ v = .int .i64 (minF D V) ∧ RangeAt ekI evB wr w.heap.size mf S.2.1 V R ∧ Below w.heap.size w wr)
    case atStart => exact ⟨[], S.2.1, rfl, rfl, HR.out, HB.out⟩
    case round =>
      obtain ⟨V, R, hk, rfl, hr, hb⟩ := hrel
      rcases run_next_gen (P := Try.prog) hr 0 with ⟨rfl, hrun⟩ | ⟨R1, k, v, R2, w2, rfl, hrun, hr2, hu, hsz, hent⟩
      · have HR2 := hid hr; have HB2 := hid hb
        obtain ⟨q1, q6, qf, -⟩ := HQ.out wr hb
        have QF := hid qf
        clear hr hb hk qf
        go_wp2_with (at_range; refine wpList_range_is (ek := ekI) (ev := evB) (l := S.2.1) rfl _ rfl Try.underlying50 mf rfl QF.out ?next)
        case next =>
          intro x hr3
          obtain ⟨r2, hr2⟩ : ∃ r, r = wr.heap.size := ⟨_, rfl⟩
          rw [← hr2] at hr3 ⊢
          have hsz2 : r2 < (wr.alloc x).heap.size := by rw [hr2]; simp
          have hbb := HB2.out.alloc HB2.out.size x
          have hrw : w.heap.size ≤ r2 := by rw [hr2]; exact HB2.out.size
          have HR3 := hid hr3; have HB3 := hid hbb; have HS2 := hid hsz2
          clear hr3 hbb hrun q1 q6 hsz2 hr2
          generalize wr.alloc x = wr2 at *
          obtain ⟨a, ha⟩ : ∃ a, a = minF D V := ⟨_, rfl⟩
          rw [← ha]
          have HA := hid ha; clear ha
          go_wp2_with fail
          go_loopg [13] S.2.1.length (fun k l wr => ∃ V' R', R'.length = k ∧ wr.ownsRow (r2 + 1) 3 1 l (atF D a V').length ((atF D a V').map ekI) ∧ RangeAt ekI evB wr r2 mf S.2.1 V' R' ∧ Below w.heap.size w wr)
          case atStart => exact ⟨[], S.2.1, rfl, ⟨rfl, .inl ⟨rfl, rfl⟩⟩, HR3.out, HB3.out⟩
          case round =>
            rename_i wr3
            obtain ⟨V', R', hk, hown, hr, hb⟩ := hrel
            rcases run_next_gen (P := Try.prog) hr 0 with ⟨rfl, hrun⟩ | ⟨R1, k, v, R2, w2, rfl, hrun, hr2, hu, hsz, hent⟩
            · have K1 := hid hown; have K2 := hid hr; have K3 := hid hb
              clear hown hr hb hk
              go_wp2
              go_ret3
              refine ⟨a, 4, _, atF D a V', rfl, ?_, K3.out, .inr ⟨HE.out, V, V', by have := HR2.out.perm; rwa [List.append_nil] at this, by have := K2.out.perm; rwa [List.append_nil] at this, HA.out, by rw [← HA.out]⟩⟩
              exact ownsRow_base K1.out (by omega)
            · have hb2 : Below w.heap.size w w2 := hb.trans (hu.below (by have := hr.lt; omega) (fun y hy e => by omega))
              obtain ⟨q1, -, -, q⟩ := HQ.out w2 hb2
              obtain ⟨y, hl, hy, hfq⟩ := q k
              have hown2 : w2.ownsRow (r2 + 1) 3 1 u13 (atF D a V').length ((atF D a V').map ekI) := ownsRow_other hown hu (fun g hg e => by omega)
              have hxl : (atF D a V').length + 1 ≤ 1000001 := by
                have h1 : (atF D a V').length ≤ V'.length := by unfold atF; exact Nat.le_trans (List.length_filter_le _ _) (by simp)
                have h2 := hr.perm.length_eq
                have h3 := HFL.out
                simp at h2; omega
              have HR2 := hid hr2; have HB2 := hid hb2; have HK := hid hk; have HY := hid hfq; have HO := hid hown2
              have hs2 : r2 < w2.heap.size := by rw [hsz]; exact hr.lt
              clear hr hb hk hr2 hb2 hu hsz q hfq hown2 hown
              simp only [ekI, evB] at hrun hent
              by_cases ht : (y : Int) / 16777216 * 16777216 = a
              · have htb : ((y : Int) / 16777216 * 16777216 == a) = true := by rw [beq_iff_eq]; exact ht
                have HT := hid ht; clear ht
                go_wp2_with (at_builtin; refine wpList_append_own _ rfl (.tmp 100) (.tmp 102) 39 rfl (r2 + 1) 3 i0 (.int .i64 0) 1 8 Try.underlying39 hi hz0 hz1 hz2 rfl (by decide) _ (atF D a V').length _ rfl (HO.out.alloc _) ⟨w2.heap.size, 0, none⟩ 1 1 [.int .i64 k] rfl rfl (cell_one_new _ _ _) (ints_oneCell .i64 [k]) (by unfold maxLen; omega) (by omega) (by simp; omega) ?next)
                case next =>
                  intro v' w4 hown' hg _
                  have hrow : ∀ g, some g = u13.ownBlock → r2 + 1 ≤ g := by
                    intro g hgg
                    rcases HO.out.2 with ⟨e, _⟩ | ⟨g', _, _, e, hgb, _⟩
                    · rw [e] at hgg; cases hgg
                    · rw [e] at hgg; cases hgg; exact hgb
                  have hmf : mf < r2 := by have := H.out.hf.lt; omega
                  have K1 : Hid (RangeAt ekI evB w4 r2 mf S.2.1 (V' ++ [(k, v)]) (R1 ++ R2)) := HR2.out.congr
                    ((hg.block mf (by simp; omega) (fun e => by have := hrow mf e; omega)).trans (heap_alloc_old _ (by omega)))
                    ((hg.block r2 (by simp; omega) (fun e => by have := hrow r2 e; omega)).trans (heap_alloc_old _ hs2))
                  have K2 : Hid (Below w.heap.size w w4) := (HB2.out.alloc HB2.out.size _).grown hg (by simp; have := HB2.out.size; omega) (fun g hgg => by have := hrow g hgg.symm; omega)
                  have K3 := hid hown'
                  clear hown' hg hrow
                  go_wp2
                  go_roundg (R1 ++ R2).length
                  case measure => have := HK.out; simp at this ⊢; omega
                  case rel => exact ⟨V' ++ [(k, v)], R1 ++ R2, rfl, by rw [atF_snoc, HY.out, if_pos HT.out]; simpa [ekI] using K3.out, K1.out, K2.out⟩
              · have htb : ((y : Int) / 16777216 * 16777216 == a) = false := by rw [beq_eq_false_iff_ne]; exact ht
                have HT := hid ht; clear ht
                go_wp2
                go_roundg (R1 ++ R2).length
                case measure => have := HK.out; simp at this ⊢; omega
                case rel => exact ⟨V' ++ [(k, v)], R1 ++ R2, rfl, by rw [atF_snoc, HY.out, if_neg HT.out]; exact HO.out, HR2.out, HB2.out⟩
      · have hb2 : Below w.heap.size w w2 := hb.trans (hu.below (by have := hr.map.lt; have := hr.lt; exact Nat.le_of_lt (by omega)) (fun y hy e => by omega))
        have HR2 := hid hr2; have HB2 := hid hb2; have HK := hid hk
        obtain ⟨q1, -, -, q⟩ := HQ.out w2 hb2
        obtain ⟨y, hl, hy, hfq⟩ := q k
        have HY := hid hfq
        clear hr hb hk hr2 hb2 hu hsz q hfq
        simp only [ekI, evB] at hrun hent
        go_wp2
        · have hlt : (y : Int) / 16777216 * 16777216 < minF D V := by assumption
          go_roundg (R1 ++ R2).length
          case measure => have := HK.out; simp at this ⊢; omega
          case rel => exact ⟨V ++ [(k, v)], R1 ++ R2, rfl, by rw [minF_snoc, HY.out, if_pos hlt], HR2.out, HB2.out⟩
        · have hle : minF D V ≤ (y : Int) / 16777216 * 16777216 := by assumption
          go_roundg (R1 ++ R2).length
          case measure => have := HK.out; simp at this ⊢; omega
          case rel => exact ⟨V ++ [(k, v)], R1 ++ R2, rfl, by rw [minF_snoc, HY.out, if_neg (by omega)], HR2.out, HB2.out⟩
end Go.Proofs.Yteoecpggmchbkaa
