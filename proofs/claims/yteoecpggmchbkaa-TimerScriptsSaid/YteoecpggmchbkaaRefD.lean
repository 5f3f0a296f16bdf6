/- sandglassref08's Timer: Advance. -/
import Derived.Test.YteoecpggmchbkaaRefC
namespace Go.Proofs.Yteoecpggmchbkaa
open Go.RowKit

set_option maxRecDepth 100000 in
theorem radv_bad {q cap : Nat} {n : Int} {L : Al} {a : Option Addr} {G : List Nat} (to : Int) (w : World) (h : RefAt w q n L a cap G) (hb : to < n ∨ 1099511627776 < to) :
    Calls Try.prog 24 #[.pointer (some ⟨q, 0, none⟩), .int .i64 to] w fun e w' => e = .returned (.slice none 0 0) ∧ w = w' := by
  have c0 := h.c0
  clear h
  by_cases h1 : to < n
  · have t1 : decide (to < n) = true := by simpa using h1
    clear hb h1
    go_enter Try.func24, Try.ntmps24
    go_wp2
    go_ret
    exact ⟨rfl, rfl⟩
  · have t1 : decide (to < n) = false := by simpa using h1
    have h2 : 1099511627776 < to := by omega
    have t2 : decide ((1099511627776 : Int) < to) = true := by simpa using h2
    clear hb h1 h2
    go_enter Try.func24, Try.ntmps24
    go_wp2
    go_ret
    exact ⟨rfl, rfl⟩

theorem ref_tail {w : World} {q cap : Nat} {n : Int} {x : Int × Int} {R : Al} {a : Option Addr} {G : List Nat} (h : RefAt w q n (x :: R) a cap G) :
    ∃ b, (∀ W, (Instr.sliceAt 35 (.slice a (R.length + 1) cap) (some (.int .i64 1)) none none).run Try.prog W = .ok (.slice b R.length (cap - 1)) W) ∧
      ∀ (F : Nat → Prop) w', Upd F w w' → (∀ y ∈ G, ¬ F y) → RefAt (w'.setCell ⟨q, 1, none⟩ (.slice b R.length (cap - 1))) q n R b (cap - 1) G := by
  obtain ⟨g, o, rfl, -, -⟩ := h.at (i := 0) (x := x) rfl
  have hroom := h.room
  simp only [List.length_cons] at hroom
  refine ⟨if cap = 1 then some ⟨g, o, none⟩ else some ((⟨g, o, none⟩ : Addr).add 2), fun W => ?_, fun F w' hu hF => ?_⟩
  · have := (run_at W (.slice (some ⟨g, o, none⟩) (R.length + 1) cap) (some (.int .i64 ((1 : Nat) : Int))) none).trans (run_tail W (some ⟨g, o, none⟩) (R.length + 1) cap 1 (by omega))
    refine Eq.trans this ?_
    simp [sliced]
  · have h' := h.upd hu hF
    have hb : ∀ g', (Value.slice (if cap = 1 then some (⟨g, o, none⟩ : Addr) else some ((⟨g, o, none⟩ : Addr).add 2)) R.length (cap - 1)).ownBlock = some g' → g' = g := by
      intro g' hg
      by_cases hc : cap = 1
      · rw [if_pos hc] at hg; exact (Option.some.inj hg).symm
      · rw [if_neg hc] at hg
        have e : (⟨g, o, none⟩ : Addr).add 2 = ⟨g, o + 2, none⟩ := by unfold Addr.add; split <;> simp_all
        rw [e] at hg; exact (Option.some.inj hg).symm
    obtain ⟨o1, o2, o3⟩ := h'.own g rfl
    refine ⟨(heap_setCell_same h'.blk 1 _).trans rfl, by omega, fun j u hj => ?_, fun g' hg => ?_, h'.self, fun y hy => by simpa [World.setCell] using h'.foot y hy⟩
    · have hp := src_part h'.cells h'.room (l := 1) (h := R.length + 1) (by omega) (by simp)
      obtain ⟨a2, c2, e2, hc2⟩ := hp
      have hj' : (cells2 (List.drop 1 (List.take (R.length + 1) (x :: R))))[j]? = some u := by simpa using hj
      obtain ⟨g2, o2', e3, h3⟩ := hc2 j u hj'
      have e4 : sliced (some ⟨g, o, none⟩) 1 (R.length + 1) cap 2 = .slice (if cap = 1 then some (⟨g, o, none⟩ : Addr) else some ((⟨g, o, none⟩ : Addr).add 2)) R.length (cap - 1) := by simp [sliced]
      rw [e4] at e2
      have e5 := (Value.slice.inj e2).1
      refine ⟨g2, o2', by rw [e5, e3], ?_⟩
      have hg2 : g2 = g := hb g2 (by rw [e5, e3]; rfl)
      have : (w'.setCell ⟨q, 1, none⟩ (Value.slice (if cap = 1 then some (⟨g, o, none⟩ : Addr) else some ((⟨g, o, none⟩ : Addr).add 2)) R.length (cap - 1))).heap[g2]? = w'.heap[g2]? := heap_setCell_other _ (by rw [hg2]; exact o1)
      exact (World.cell?_of_block (a := ⟨g2, _, none⟩) this).trans h3
    · rw [hb g' hg]
      exact ⟨o1, o2, by simpa [World.setCell] using o3⟩

set_option maxRecDepth 100000 in
set_option maxHeartbeats 4000000 in
theorem radv_ok {q cap : Nat} {n : Int} {L : Al} {a : Option Addr} {G : List Nat} (to : Int) (w : World) (h : RefAt w q n L a cap G) (hl : L.length ≤ 1000000) (h1 : n ≤ to) (h2 : to ≤ 1099511627776) :
    Calls Try.prog 24 #[.pointer (some ⟨q, 0, none⟩), .int .i64 to] w fun e w' => ∃ v a' cap', e = .returned v ∧ RefAt w' q to (L.dropWhile (fun p => decide (p.2 ≤ to))) a' cap' G ∧ Upd (· ∈ G) w w' ∧
      w'.ownsRow w.heap.size 3 1 v ((L.takeWhile (fun p => decide (p.2 ≤ to))).map Prod.fst).length (((L.takeWhile (fun p => decide (p.2 ≤ to))).map Prod.fst).map ekI) := by
  obtain ⟨i0, hinf, hz0, hz1, hz2⟩ := info_parts Try.infoInt
  have t1 : decide (to < n) = false := by simpa using h1
  have t2 : decide ((1099511627776 : Int) < to) = false := by simpa using h2
  have c0 := h.c0
  have f0 := h.free 0
  obtain ⟨k1, k2, k3⟩ := while_parts L (fun p => decide (p.2 ≤ to))
  obtain ⟨k4, k5⟩ := while_get L (fun p => decide (p.2 ≤ to))
  rw [← k1, ← k2]
  generalize (L.takeWhile (fun p => decide (p.2 ≤ to))).length = J at *
  have H0 : Hid (RefAt (w.setCell ⟨q, 0, none⟩ (.int .i64 to)) q to L a cap G ∧ Upd (· ∈ G) w (w.setCell ⟨q, 0, none⟩ (.int .i64 to))) := by
    have hu : Upd (· = q) w (w.setCell ⟨q, 0, none⟩ (.int .i64 to)) := (Upd.refl (· = q) w).setCell (p := ⟨q, 0, none⟩) (fun _ => rfl) _
    refine ⟨⟨(heap_setCell_same h.blk 0 _).trans rfl, h.room, fun j u hj => ?_, fun g hg => ?_, h.self, fun y hy => Nat.lt_of_lt_of_le (h.foot y hy) hu.size⟩, hu.mono fun _ _ e => e ▸ h.self⟩
    · obtain ⟨g, o, rfl, h1⟩ := h.cells j u hj
      obtain ⟨h2, h3, h4⟩ := h.own g rfl
      exact ⟨g, o, rfl, (hu.cell (p := ⟨g, _, none⟩) h4 h2).trans h1⟩
    · obtain ⟨h1, h3, h4⟩ := h.own g hg
      exact ⟨h1, h3, Nat.lt_of_lt_of_le h4 hu.size⟩
  have HF : Hid (∀ y ∈ G, y < w.heap.size) := h.foot
  have HL := hid hl; have K4 := hid k4; have K5 := hid k5
  clear h h1 h2 hl k1 k2 k4 k5
  go_enter Try.func24, Try.ntmps24
  go_wp2_with fail
  generalize w.setCell ⟨q, 0, none⟩ (.int .i64 to) = w0 at *
  go_loopg [5] J (fun k t wr => ∃ (j : Nat) (v : Value) (aj : Option Addr) (capj : Nat), t = v ∧ j + k = J ∧ RefAt wr q to (L.drop j) aj capj G ∧ Upd (· ∈ G) w wr ∧ wr.ownsRow w.heap.size 3 1 v j (((L.take j).map Prod.fst).map ekI))
  case atStart => exact ⟨0, _, a, cap, rfl, by omega, H0.out.1, H0.out.2, World.ownsRow_nil _ _ _ _⟩
  case round =>
    obtain ⟨j, v, aj, capj, rfl, hjk, hr, hu, ho⟩ := hrel
    have c1 := hr.c1
    have hsz := hu.size
    by_cases hj : j < J
    · have hx : L[j]? = some L[j] := List.getElem?_eq_getElem (by omega)
      have hD : L.drop j = L[j] :: L.drop (j + 1) := List.drop_eq_getElem_cons (by omega)
      have hT : L.take (j + 1) = L.take j ++ [L[j]] := by rw [List.take_add_one, hx]; rfl
      generalize L[j] = x at *
      have hle := K4.out j x hj hx
      rw [hD] at hr c1
      obtain ⟨g, o, rfl, d1, d2⟩ := hr.at (i := 0) (x := x) rfl
      simp only [Nat.zero_mul, Nat.add_zero] at d1 d2
      obtain ⟨b, hb1, hb2⟩ := ref_tail hr
      simp only [List.length_cons] at c1
      have hfree := hr.free 1
      have hln : (L.drop (j + 1)).length ≤ 1000000 := by have := HL.out; simp; omega
      have HR := hid hr; have HU := hid hu; have HO := hid ho; have HJ := hid hjk; have HB1 := hid hb1; have HB2 := hid hb2; have HT := hid hT
      clear hr hu ho hjk hb1 hb2 hT hD hx
      generalize hRR : L.drop (j + 1) = R at *
      have HRR := hid hRR
      clear hRR
      go_wp2_with (at_builtin; refine Stay.out ?_)
      refine ⟨?_⟩
      refine wpList_append_src (P := Try.prog) rfl _ _ 39 rfl w.heap.size 3 i0 (.int .i64 0) 1 8 Try.underlying39 hinf hz0 hz1 hz2 rfl (by decide) _ j (((L.take j).map Prod.fst).map ekI) (by rfl) (HO.out.alloc _) (.slice (some ⟨wr.heap.size, 0, none⟩) 1 1) 1 [ekI x.1] (by rfl) (src_new wr #[ekI x.1] _ 1 1) rfl (by simp [ekI, Value.oneCell']) (by have := HL.out; unfold maxLen; omega) (by have := HL.out; omega) (by simp; omega) ?_
      intro v2 w2 ho2 hg2 hn2
      have K2 : Hid (RefAt w2 q to (x :: R) (some ⟨g, o, none⟩) capj G ∧ RefAt (w2.setCell ⟨q, 1, none⟩ (.slice b R.length (capj - 1))) q to R b (capj - 1) G ∧ Upd (· ∈ G) w (w2.setCell ⟨q, 1, none⟩ (.slice b R.length (capj - 1))) ∧ (w2.setCell ⟨q, 1, none⟩ (.slice b R.length (capj - 1))).ownsRow w.heap.size 3 1 v2 (j + 1) (((L.take (j + 1)).map Prod.fst).map ekI)) := by
        have hu2 := ((Upd.refl (fun _ => False) wr).alloc (.cells #[ekI x.1] 3)).mono (G := fun y => w.heap.size ≤ y) (fun _ _ f => f.elim)
        have hu3 := hu2.trans ((grown_upd hg2).mono (G := fun y => w.heap.size ≤ y) (fun y _ e => (HO.out.lt y e).1)) (fun _ _ h => h)
        have hF : ∀ y ∈ G, ¬ w.heap.size ≤ y := fun y hy hle => by have := HF.out y hy; omega
        refine ⟨HR.out.upd hu3 hF, HB2.out _ w2 hu3 hF, (HU.out.trans hu3 (fun y hy hle => by omega)).setCell (p := ⟨q, 1, none⟩) (fun _ => HR.out.self) _, ?_⟩
        have h5 : w2.ownsRow w.heap.size 3 1 v2 (j + 1) (((L.take (j + 1)).map Prod.fst).map ekI) := by
          rw [HT.out]; simpa [ekI] using ho2
        exact ownsRow_block h5 fun y hy => heap_setCell_other _ (fun e => by have := (ho2.lt y hy).1; have := HF.out q HR.out.self; omega)
      have c2 := K2.out.1.c1
      have f2 := K2.out.1.free 1
      simp only [List.length_cons] at c2
      clear ho2 hg2 hn2 c1 d1 d2 hfree
      go_wp2_with (refine wpList_slice_tail (o := ⟨some 52, _, _, _, _, _⟩) rfl _ _ rfl (.slice (some ⟨g, o, none⟩) (R.length + 1) capj) (.slice b R.length (capj - 1)) (.int .i64 1) (by rfl) (by rfl) (HB1.out _) ?_)
      go_roundg (gk - 1)
      case measure => have := HJ.out; omega
      case rel => exact ⟨j + 1, v2, b, capj - 1, rfl, by have := HJ.out; omega, by rw [HRR.out]; exact K2.out.2.1, K2.out.2.2.1, K2.out.2.2.2⟩
    · obtain rfl : j = J := by omega
      have HR := hid hr; have HU := hid hu; have HO := hid ho
      by_cases hjl : j < L.length
      · have hx : L[j]? = some L[j] := List.getElem?_eq_getElem (by omega)
        have hD : L.drop j = L[j] :: L.drop (j + 1) := List.drop_eq_getElem_cons (by omega)
        generalize L[j] = x at *
        have hgt := K5.out x hx
        rw [hD] at hr c1
        obtain ⟨g, o, rfl, d1, d2⟩ := hr.at (i := 0) (x := x) rfl
        simp only [Nat.zero_mul, Nat.add_zero] at d1 d2
        simp only [List.length_cons] at c1
        clear hr hu ho hjk hx hD
        go_wp2
        go_ret
        exact ⟨_, _, capj, rfl, HR.out, HU.out, by simpa [Nat.min_eq_left k3] using HO.out⟩
      · have hD : L.drop j = [] := List.drop_eq_nil_of_le (by omega)
        rw [hD] at hr c1
        simp only [List.length_nil] at c1
        clear hr hu ho hjk hD
        go_wp2
        go_ret
        exact ⟨_, aj, capj, rfl, HR.out, HU.out, by simpa [Nat.min_eq_left k3] using HO.out⟩
end Go.Proofs.Yteoecpggmchbkaa
