/- sandglassref08's Timer: what changes it. -/
import Derived.Test.YteoecpggmchbkaaRefA
namespace Go.Proofs.Yteoecpggmchbkaa
open Go.RowKit

theorem Try.infoOne : (Try.prog.info? 71).map (fun i => (i.zero, i.size, i.bytes)) = some (some (.agg #[.int .i64 0, .int .i64 0]), 2, 16) := by kernel_rfl

theorem RefAt.of_own {w : World} {q : Nat} {n : Int} {L : Al} {G : List Nat} {v : Value} {base : Nat} {e : TypeId} (hown : w.ownsRow base e 2 v L.length (cells2 L)) (hb : w.heap[q]? = some (.cells #[.int .i64 n, v] 37 (0, 0))) (hq : q < base) (hG : ∀ y ∈ G, y < w.heap.size) (hs : q ∈ G) :
    ∃ a cap, v = .slice a L.length cap ∧ RefAt w q n L a cap (G ++ v.ownBlock.toList) := by
  have hG' : ∀ y ∈ G ++ v.ownBlock.toList, y < w.heap.size := fun y hy => (List.mem_append.1 hy).elim (hG y) (fun h => (hown.lt y (by simpa using h)).2)
  have hcl := fun g hg => hown.cells (g := g) hg
  rcases hown.2 with ⟨rfl, h0⟩ | ⟨g, cap, cur, rfl, hg, hh, h1, h2, h3, h4⟩
  · have : L = [] := List.length_eq_zero_iff.1 h0
    subst this
    exact ⟨none, 0, rfl, hb, Nat.le_refl _, fun j u hj => by simp [cells2] at hj, fun g hg => (by cases hg), List.mem_append.2 (.inl hs), hG'⟩
  · refine ⟨some ⟨g, 0, none⟩, cap, rfl, hb, h1, fun j u hj => ⟨g, 0, rfl, ?_⟩, fun g' hg' => ?_, List.mem_append.2 (.inl hs), hG'⟩
    · have := hcl g rfl j u hj
      have e : (⟨g, 0, none⟩ : Addr).add j = ⟨g, 0 + j, none⟩ := by unfold Addr.add; split <;> simp_all
      rw [e] at this; exact this
    · have e : g = g' := Option.some.inj hg'
      subst e
      exact ⟨by omega, List.mem_append.2 (.inr (by simp [Value.ownBlock])), lt_of_heap hh⟩

/-- A part of a slice: what is read of it. -/
theorem src_part {w : World} {a : Option Addr} {cap : Nat} {L : Al} (hc : ∀ j u, (cells2 L)[j]? = some u → ∃ g o, a = some ⟨g, o, none⟩ ∧ w.cell? ⟨g, o + j, none⟩ = some u) (hr : L.length ≤ cap) {l h : Nat} (hl : l ≤ h) (hh : h ≤ L.length) :
    Src w (sliced a l h cap 2) (h - l) (cells2 ((L.take h).drop l)) := by
  refine ⟨_, _, rfl, fun j u hj => ?_⟩
  rw [cells2_drop, List.getElem?_drop, cells2_take] at hj
  have hlt : l * 2 + j < h * 2 := by
    have := (List.getElem?_eq_some_iff.1 hj).1
    rw [List.length_take] at this; omega
  rw [List.getElem?_take_of_lt hlt] at hj
  obtain ⟨g, o, rfl, h1⟩ := hc _ _ hj
  have hne : cap ≠ l := by omega
  refine ⟨g, o + l * 2, ?_, by rw [Nat.add_assoc]; exact h1⟩
  rw [if_neg hne]
  simp only [Option.map_some]
  have e : (⟨g, o, none⟩ : Addr).add (l * 2) = ⟨g, o + l * 2, none⟩ := by unfold Addr.add; split <;> simp_all
  rw [e]
theorem sizeOne (w : World) : (sizeOf 71).run Try.prog w = .ok 2 w := by kernel_rfl
theorem elemOne : Try.prog.underlying 35 = some (.slice (Try.prog.elem 35)) := by kernel_rfl
theorem elemOne' : Try.prog.elem 35 = 71 := by kernel_rfl
theorem run_head (w : World) (a : Option Addr) (len cap h : Nat) (hh : h ≤ cap) : (Instr.slice 35 (.slice a len cap) none (some (.int .i64 (h : Int))) none).run Try.prog w = .ok (sliced a 0 h cap 2) w := by
  rw [run_slice_h w 35 a len cap elemOne .i64 h (by omega) (by omega), elemOne', sizeOne]; simp [Result.andThen]
theorem run_tail (w : World) (a : Option Addr) (len cap l : Nat) (hh : l ≤ len) : (Instr.slice 35 (.slice a len cap) (some (.int .i64 (l : Int))) none none).run Try.prog w = .ok (sliced a l len cap 2) w := by
  rw [run_slice_l w 35 a len cap elemOne .i64 l (by omega) (by omega), elemOne', sizeOne]; simp [Result.andThen]
theorem run_at (w : World) (v : Value) (l h : Option Value) : (Instr.sliceAt 35 v l h none).run Try.prog w = (Instr.slice 35 v l h none).run Try.prog w := run_sliceAt_slice w _ _ _ _ _ elemOne

section
variable {P : Program} {t : TypeId} {w : World} {ops : Array Oper} {rest : List Oper} {o : Oper} {a : Act} {Q : Exit → Act → World → Prop}
theorem wpList_slice_head (hg : o.guard = none) (x y : Operand) (hop : o.op = Op.slice t x none (some y) none) (v u h : Value) (hx : a.eval x = v) (hy : a.eval y = h)
    (hrun : (Instr.sliceAt t v none (some h) none).run P w = .ok u w) (next : wpList P ops Q rest (a.put o.dst u) w) : wpList P ops Q (o :: rest) a w := by
  refine wpList_plain hg fun K' hK' => ?_
  unfold Oper.wp
  simp [execOp, hop, hx, hy, hrun, Result.andThen]
  exact hK' _ _ next
theorem wpList_slice_tail (hg : o.guard = none) (x y : Operand) (hop : o.op = Op.slice t x (some y) none none) (v u h : Value) (hx : a.eval x = v) (hy : a.eval y = h)
    (hrun : (Instr.sliceAt t v (some h) none none).run P w = .ok u w) (next : wpList P ops Q rest (a.put o.dst u) w) : wpList P ops Q (o :: rest) a w := by
  refine wpList_plain hg fun K' hK' => ?_
  unfold Oper.wp
  simp [execOp, hop, hx, hy, hrun, Result.andThen]
  exact hK' _ _ next
end

set_option maxRecDepth 100000 in
theorem rcancel_no {q cap : Nat} {n : Int} {L : Al} {a : Option Addr} {G : List Nat} (id : Int) (w : World) (h : RefAt w q n L a cap G) (hl : L.length ≤ 1000000) (hg : aget L id = none) :
    Calls Try.prog 22 #[.pointer (some ⟨q, 0, none⟩), .int .i64 id] w fun e w' => e = .returned (.bool false) ∧ w = w' := by
  have HP := hid (rplace_any id w h hl)
  rw [pos_none hg] at HP
  clear h hg
  go_enter Try.func22, Try.ntmps22
  go_wp2_with fail
  refine HP.out.mono ?_
  rintro e w' ⟨rfl, rfl⟩
  go_wp2
  go_ret
  exact ⟨rfl, rfl⟩
/-- Behind 't.L = v'. -/
theorem ref_store {w w3 : World} {q cap : Nat} {n : Int} {L L' : Al} {a : Option Addr} {G : List Nat} {v : Value} {m : Nat} {news : List Value} (h : RefAt w q n L a cap G) (hb : Below w.heap.size w w3)
    (ho : w3.ownsRow w.heap.size 71 2 v m news) (hm : m = L'.length) (hn : news = cells2 L') :
    ∃ a' cap' G', RefAt (w3.setCell ⟨q, 1, none⟩ v) q n L' a' cap' G' ∧ Step G G' w (w3.setCell ⟨q, 1, none⟩ v) := by
  subst hm; subst hn
  have hq := h.foot q h.self
  have hblk : (w3.setCell ⟨q, 1, none⟩ v).heap[q]? = some (.cells #[.int .i64 n, v] 37 (0, 0)) := (heap_setCell_same ((hb.block q hq).trans h.blk) 1 v).trans rfl
  have ho4 : (w3.setCell ⟨q, 1, none⟩ v).ownsRow w.heap.size 71 2 v L'.length (cells2 L') := ownsRow_block ho fun g hg => heap_setCell_other v (by have := (ho.lt g hg).1; omega)
  have hu : Upd (· ∈ G) w (w3.setCell ⟨q, 1, none⟩ v) := ((Upd.of_below hb (F := fun _ => False) (fun x a b => by omega)).mono (fun _ _ f => f.elim)).setCell (p := ⟨q, 1, none⟩) (fun _ => h.self) v
  obtain ⟨a', cap', _, hr⟩ := RefAt.of_own ho4 hblk hq (G := G) (fun y hy => Nat.lt_of_lt_of_le (h.foot y hy) hu.size) h.self
  refine ⟨a', cap', _, hr, hu, fun x hx => ?_⟩
  rcases List.mem_append.1 hx with hx | hx
  · exact .inl hx
  · exact .inr (ho.lt x (by simpa using hx)).1
theorem RefAt.below {w w' : World} {q cap : Nat} {n : Int} {L : Al} {a : Option Addr} {G : List Nat} (h : RefAt w q n L a cap G) (hb : Below w.heap.size w w') : RefAt w' q n L a cap G :=
  h.upd (Upd.of_below hb (F := fun _ => False) (fun x a b => by omega)) fun _ _ f => f

set_option maxRecDepth 100000 in
theorem rcancel_yes {q cap : Nat} {n : Int} {L : Al} {a : Option Addr} {G : List Nat} (id m : Int) (w : World) (h : RefAt w q n L a cap G) (hl : L.length ≤ 1000000) (hg : aget L id = some m) :
    Calls Try.prog 22 #[.pointer (some ⟨q, 0, none⟩), .int .i64 id] w fun e w' => e = .returned (.bool true) ∧ ∃ a' cap' G', RefAt w' q n (adel L id) a' cap' G' ∧ Step G G' w w' := by
  have HP := hid (rplace_any id w h hl)
  obtain ⟨i, h1, h2, h3, h4⟩ := pos_some hg
  rw [h1] at HP
  obtain ⟨i1, hinf, hz0, hz1, hz2⟩ := info_parts Try.infoOne
  have c1 := h.c1
  have hq : q < w.heap.size := h.foot q h.self
  have HH := hid h
  have HA := hid h4
  clear h hg h1 h2 h4
  have hwi : IntKind.i64.wrap ((i : Int) + 1) = (i : Int) + 1 := wrap_in64 (by omega) (by omega)
  go_enter Try.func22, Try.ntmps22
  go_wp2_with fail
  refine HP.out.mono ?_
  rintro e w' ⟨rfl, rfl⟩
  have HS1 : Hid (∀ W, (Instr.sliceAt 35 (.slice a L.length cap) none (some (.int .i64 (i : Int))) none).run Try.prog W = .ok (sliced a 0 i cap 2) W) := fun W => (run_at W _ _ _).trans (run_head W a L.length cap i (by have := HH.out.room; omega))
  have HS2 : Hid (∀ W, (Instr.sliceAt 35 (.slice a L.length cap) (some (.int .i64 ((i : Int) + 1))) none none).run Try.prog W = .ok (sliced a (i + 1) L.length cap 2) W) := fun W => (run_at W _ _ _).trans (run_tail W a L.length cap (i + 1) (by omega))
  have HX1 : Hid (∀ W, Below w.heap.size w W → Src W (sliced a 0 i cap 2) i (cells2 (L.take i))) := fun W hb => src_part (HH.out.below hb).cells HH.out.room (l := 0) (h := i) (by omega) (by omega)
  have HX2 : Hid (∀ W, Below w.heap.size w W → Src W (sliced a (i + 1) L.length cap 2) (L.length - (i + 1)) (cells2 (L.drop (i + 1)))) := fun W hb => by
    have := src_part (HH.out.below hb).cells HH.out.room (l := i + 1) (h := L.length) (by omega) (by omega)
    rwa [List.take_length] at this
  generalize sliced a 0 i cap 2 = x1 at HS1 HX1
  generalize sliced a (i + 1) L.length cap 2 = x2 at HS2 HX2
  go_wp2_with (first
    | (refine wpList_slice_head (o := ⟨some 18, _, _, _, _, _⟩) rfl _ _ rfl (.slice a L.length cap) x1 (.int .i64 (i : Int)) (by rfl) (by rfl) (HS1.out _) ?_)
    | (at_builtin; refine Stay.out ?_))
  refine ⟨?_⟩
  refine wpList_append_src (P := Try.prog) rfl _ _ 35 rfl w.heap.size 71 i1 (.agg #[.int .i64 0, .int .i64 0]) 2 16 Try.underlying35 hinf hz0 hz1 hz2 rfl (by decide) (.slice (some ⟨w.heap.size, 0, none⟩) 0 0) 0 [] (by rfl) (World.ownsRow_lit w #[] 0 (Nat.le_refl _) (by decide) rfl) x1 i (cells2 (L.take i)) (by rfl) (HX1.out _ ((Below.refl _ _).alloc (Nat.le_refl _) _)) (by rw [cells2_length, List.length_take]; omega) (cells2_one _) (by unfold maxLen; omega) (by omega) (by simp) ?_
  intro v2 w2 ho2 hg2 hn2
  have K2 : Hid (Below w.heap.size w w2 ∧ w2.ownsRow w.heap.size 71 2 v2 i (cells2 (L.take i))) := ⟨((Below.refl w.heap.size w).alloc (Nat.le_refl _) _).grown hg2 (by simp) (fun k hk => by cases hk; exact Nat.le_refl _), by simpa using ho2⟩
  have c2 := (HH.out.below K2.out.1).c1
  clear ho2 hg2 hn2
  go_wp2_with (first
    | (refine wpList_slice_tail (o := ⟨some 28, _, _, _, _, _⟩) rfl _ _ rfl (.slice a L.length cap) x2 (.int .i64 ((i : Int) + 1)) (by rfl) (by rfl) (HS2.out _) ?_)
    | (at_builtin; refine Stay.out ?_))
  refine ⟨?_⟩
  refine wpList_append_src (P := Try.prog) rfl _ _ 35 rfl w.heap.size 71 i1 (.agg #[.int .i64 0, .int .i64 0]) 2 16 Try.underlying35 hinf hz0 hz1 hz2 rfl (by decide) v2 i (cells2 (L.take i)) (by rfl) K2.out.2 x2 (L.length - (i + 1)) (cells2 (L.drop (i + 1))) (by rfl) (HX2.out _ K2.out.1) (by rw [cells2_length, List.length_drop]) (cells2_one _) (by unfold maxLen; omega) (by omega) K2.out.1.size ?_
  intro v3 w3 ho3 hg3 hn3
  obtain ⟨a3, cap3, rfl⟩ := ownsRow_form ho3
  have K3 : Hid (Below w.heap.size w w3) := K2.out.1.grown hg3 K2.out.1.size (fun k hk => (K2.out.2.lt k hk).1)
  have c3 := (HH.out.below K3.out).c1
  have f3 := (HH.out.below K3.out).free 1
  have K4 := hid (ref_store (L' := adel L id) HH.out K3.out ho3 (by rw [HA.out, List.length_append, List.length_take, List.length_drop]; omega) (by rw [HA.out, cells2_append]))
  clear ho3 hg3 hn3 c2
  go_wp2
  go_ret
  exact ⟨rfl, K4.out⟩
end Go.Proofs.Yteoecpggmchbkaa
