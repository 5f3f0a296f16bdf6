/- A region that draws its order, whose loads are of cells that stay till ONE operation c has been carried out (which itself waits for those loads): they are taken first. -/
import Derived.Test.YteoecpggmchbkaaHeapOps
import Derived.Deep.RegionHeld3
namespace Go.Proofs.Yteoecpggmchbkaa
open Go.RowKit

section
variable {P : Program} {ops : Array Oper} {Q : Exit → Act → World → Prop} {md : Region.Mode} {S : World → Prop} {c : Nat}

/-- Whatever order is picked from here on; and S holds behind each operation that comes up ahead of number c. -/
def Ahead (P : Program) (md : Region.Mode) (ops : Array Oper) (Q : Exit → Act → World → Prop) (S : World → Prop) (c : Nat) : Nat → Array Bool → Act → World → Prop
  | 0, l, a, w => Region.ready md ops l = [] ∧ Q .normal a w
  | n + 1, l, a, w => (Region.ready md ops l = [] → Q .normal a w) ∧ ∀ i ∈ Region.ready md ops l, wpOp P ops Q i (fun a' w' => ((l.setIfInBounds i true).getD c true = false → S w') ∧ Ahead P md ops Q S c n (l.setIfInBounds i true) a' w') a w

theorem Ahead.any : ∀ (n : Nat) (l : Array Bool) (a : Act) (w : World), Ahead P md ops Q S c n l a w → wpAny P md ops Q n l a w
  | 0, _, _, _, h => h
  | n + 1, _, _, _, h => ⟨h.1, fun i hi => wpOp_mono (fun a' w' k => Ahead.any n _ a' w' k.2) (h.2 i hi)⟩

/-- What has come up has come up behind all that it waits for. -/
def Shutd (md : Region.Mode) (ops : Array Oper) (l : Array Bool) : Prop := ∀ k ok, ops[k]? = some ok → l.getD k false = true → ∀ e ∈ ok.after, Region.binds md e = true → l.getD e.on false = true
theorem getD_set_self {l : Array Bool} {k j : Nat} (h : (l.setIfInBounds j true).getD k false = true) : k = j ∨ l.getD k false = true := by
  by_cases e : j = k
  · exact .inl e.symm
  · right; simpa [Array.getElem?_setIfInBounds_ne e] using h
theorem Shutd.step {l : Array Bool} (h : Shutd md ops l) {j : Nat} (hj : j ∈ Region.ready md ops l) : Shutd md ops (l.setIfInBounds j true) := by
  intro k ok hk hl e he hb
  rcases getD_set_self hl with rfl | hl
  · obtain ⟨_, o, ho, hall⟩ := mem_ready.1 hj
    rw [hk] at ho; cases ho
    exact getD_set_true (hall e he hb)
  · exact getD_set_true (h k ok hk hl e he hb)
theorem Shutd.none (n : Nat) : Shutd md ops (Array.replicate n false) := by
  intro k ok _ hl
  simp [Array.getElem?_replicate] at hl
  split at hl <;> simp at hl
theorem unlisted {l : Array Bool} {i : Nat} (h : l.getD i true = false) : l.getD i false = false := by
  rcases Nat.lt_or_ge i l.size with h' | h'
  · simpa [h'] using h
  · simp [Array.getElem?_eq_none h'] at h
/-- Number c comes up behind number i. -/
def Late (md : Region.Mode) (ops : Array Oper) (c i : Nat) : Prop := ∀ l, Shutd md ops l → l.getD i false = false → c ∉ Region.ready md ops l ∧ l.getD c false = false
/-- Does oc wait for number i? -/
def waits (md : Region.Mode) (ops : Array Oper) (c i : Nat) : Bool := match ops[c]? with
  | some oc => oc.after.any fun e => Region.binds md e && e.on == i
  | none => false
theorem waits_spec {i : Nat} (h : waits md ops c i = true) : ∃ oc, ops[c]? = some oc ∧ ∃ e ∈ oc.after, Region.binds md e = true ∧ e.on = i := by
  unfold waits at h
  cases e : ops[c]? with
  | none => rw [e] at h; cases h
  | some oc =>
    rw [e] at h
    obtain ⟨x, hx, hb⟩ := Array.any_eq_true'.1 h
    simp only [Bool.and_eq_true, beq_iff_eq] at hb
    exact ⟨oc, rfl, x, hx, hb⟩
theorem Late.one {i : Nat} (h : waits md ops c i = true) : Late md ops c i := by
  obtain ⟨oc, hc, e, he, hb, hon⟩ := waits_spec h
  refine fun l hl hi => ⟨fun hr => ?_, ?_⟩
  · obtain ⟨_, o, ho, hall⟩ := mem_ready.1 hr
    rw [hc] at ho; cases ho
    have := hall e he hb
    rw [hon, hi] at this; cases this
  · cases hx : l.getD c false with
    | false => rfl
    | true =>
      have := hl c oc hc hx e he hb
      rw [hon, hi] at this; cases this
theorem Late.trans {k i : Nat} (h : Late md ops c k) (g : Late md ops k i) : Late md ops c i := fun l hl hi => h l hl (g l hl hi).2

theorem Ahead.first {i : Nat} {oi : Oper} {v : Value} (hi : ops[i]? = some oi) (hw : Late md ops c i) (hsel : ∀ (j : Nat) (o : Oper) cs b, ops[j]? = some o → o.op ≠ .select cs b)
    (hQ : ∀ x a w, Q (.panic x) (a.put oi.dst v) w → Q (.panic x) a w) : ∀ (n : Nat) (l : Array Bool) (a : Act) (w : World),
      (∀ j oj, ops[j]? = some oj → j ≠ i → l.getD j true = false → (∀ e ∈ oj.after, Region.binds md e = true → e.on ≠ i) → oi.apart ops oj = true) →
      i ∈ Region.ready md ops l → Shutd md ops l → l.getD c true = false → c ≠ i → YieldsIf P ops S oi v a → S w → Ahead P md ops Q S c n (l.setIfInBounds i true) (a.put oi.dst v) w → Ahead P md ops Q S c (n + 1) l a w := by
  intro n
  induction n with
  | zero =>
    intro l a w _ hr _ hlc hne hy hS H
    refine ⟨fun h => (by rw [h] at hr; cases hr), fun j hj => ?_⟩
    by_cases hji : j = i
    · subst hji; exact hy.wpOp hi hS ⟨fun _ => hS, H⟩
    · have := ready_mono hj hji
      rw [H.1] at this
      cases this
  | succ n ih =>
    intro l a w hfree hr hsh hlc hne hy hS H
    refine ⟨fun h => (by rw [h] at hr; cases hr), fun j hj => ?_⟩
    by_cases hji : j = i
    · subst hji; exact hy.wpOp hi hS ⟨fun _ => hS, H⟩
    · have hjc : j ≠ c := fun e => (hw l hsh (unlisted (mem_ready.1 hr).1)).1 (e ▸ hj)
      have h1 := H.2 j (ready_mono hj hji)
      obtain ⟨hjun, oj, hoj, hall⟩ := mem_ready.1 hj
      have hnot : ∀ e ∈ oj.after, Region.binds md e = true → e.on ≠ i := fun e he hb heq => by
        have h1 := hall e he hb
        have h0 := unlisted (mem_ready.1 hr).1
        rw [heq, h0] at h1; cases h1
      have h2 := wpOp_putIf hoj (hfree j oj hoj hji hjun hnot) (fun cs b => hsel i oi cs b hi) (fun cs b => hsel j oj cs b hoj) hQ hy h1
      have hfree' : ∀ k ok, ops[k]? = some ok → k ≠ i → (l.setIfInBounds j true).getD k true = false → (∀ e ∈ ok.after, Region.binds md e = true → e.on ≠ i) → oi.apart ops ok = true := fun k ok hk hki hun hno => by
        refine hfree k ok hk hki ?_ hno
        by_cases hjk : j = k
        · subst hjk; exact hjun
        · rw [getD_set_ne true hjk] at hun; exact hun
      have hl1 : (l.setIfInBounds j true).getD c true = false := by rw [getD_set_ne true hjc]; exact hlc
      have hl2 : ((l.setIfInBounds i true).setIfInBounds j true).getD c true = false := by rw [getD_set_ne true hjc, getD_set_ne true (Ne.symm hne)]; exact hlc
      refine wpOp_mono (fun a' w' h3 => ⟨fun _ => h3.2.1 hl2, ih (l.setIfInBounds j true) a' w' hfree' (ready_mono hr (Ne.symm hji)) (hsh.step hj) hl1 hne h3.1 (h3.2.1 hl2) ?_⟩) h2
      rw [Array.setIfInBounds_comm _ _ hji]
      exact h3.2.2

/-- Number c waits for number i, over at most so many others between. -/
def lateB (md : Region.Mode) (ops : Array Oper) (c : Nat) : Nat → Nat → Bool
  | 0, i => waits md ops c i
  | n + 1, i => waits md ops c i || (List.range ops.size).any fun k => waits md ops k i && lateB md ops c n k
theorem lateB_spec : ∀ {n i : Nat}, lateB md ops c n i = true → Late md ops c i
  | 0, _, h => Late.one h
  | n + 1, i, h => by
    unfold lateB at h
    rw [Bool.or_eq_true, List.any_eq_true] at h
    rcases h with h | ⟨k, _, h⟩
    · exact Late.one h
    · rw [Bool.and_eq_true] at h
      exact (lateB_spec h.2).trans (Late.one h.1)
/-- A load, taken first (or whatever yields in each world that meets S). -/
theorem Ahead.take (i : Nat) {oi : Oper} {v : Value} {n : Nat} {l : Array Bool} {a : Act} {w : World} (hi : ops[i]? = some oi) (hs : Region.noSelect ops = true) (hf : Region.free md ops l i = true) (hr : (Region.ready md ops l).contains i = true)
    (hQ : ∀ x a w, Q (.panic x) (a.put oi.dst v) w → Q (.panic x) a w) (hw : lateB md ops c 9 i = true) (hlc : l.getD c true = false) (hne : (c != i) = true) (hy : YieldsIf P ops S oi v a) (hsh : Shutd md ops l) (hS : S w)
    (h : Shutd md ops (l.setIfInBounds i true) → Ahead P md ops Q S c n (l.setIfInBounds i true) (a.put oi.dst v) w) : Ahead P md ops Q S c (n + 1) l a w :=
  have hri : i ∈ Region.ready md ops l := by simpa using hr
  Ahead.first hi (lateB_spec hw) (Region.noSelect_spec hs) hQ n l a w (Region.free_spec hi hf) hri hsh hlc (by simpa using hne) hy hS (h (hsh.step hri))
/-- The beginning. -/
theorem Ahead.start {id : Nat} {a : Act} {w : World} (S : World → Prop) (c : Nat) (hm : P.follows .mixedOrders = true)
    (h : Shutd .any ops (Array.replicate ops.size false) → Ahead P .any ops Q S c ops.size (Array.replicate ops.size false) a w.drew) : (Code.region id ops true).wp P Q a w :=
  wp_region_any hm (Ahead.any _ _ _ _ (h (Shutd.none _)))
/-- Only number i may come up. -/
theorem Ahead.one (i : Nat) {o : Oper} {n : Nat} {l : Array Bool} {a : Act} {w : World} (hr : Region.ready md ops l = [i]) (ho : ops[i]? = some o) (hw : Region.wanted o (yielded ops a.tmps) = true)
    (h : ∀ K : Act → World → Prop, Shut (∀ a' w', ((l.setIfInBounds i true).getD c true = false → S w') → Ahead P md ops Q S c n (l.setIfInBounds i true) a' w' → K a' w') → Oper.wp P o a w K Q) : Ahead P md ops Q S c (n + 1) l a w := by
  refine ⟨fun h0 => (by rw [hr] at h0; cases h0), fun j hj => ?_⟩
  rw [hr] at hj
  obtain rfl : j = i := by simpa using hj
  unfold wpOp
  simp only [ho, hw, if_true]
  exact .inl (h _ fun a' w' h1 h2 => ⟨h1, h2⟩)
theorem Ahead.done {l : Array Bool} {a : Act} {w : World} (hr : Region.ready md ops l = []) (h : Q .normal a w) : ∀ n, Ahead P md ops Q S c n l a w
  | 0 => ⟨hr, h⟩
  | _ + 1 => ⟨fun _ => h, by rw [hr]; simp⟩
end
end Go.Proofs.Yteoecpggmchbkaa
