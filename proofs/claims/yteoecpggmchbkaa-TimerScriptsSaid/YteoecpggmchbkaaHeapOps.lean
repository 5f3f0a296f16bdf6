/- The laws on maps at the operation, for a walk. -/
import Derived.Test.YteoecpggmchbkaaHeap
import Derived.WalkLawsBesides
namespace Go.Proofs.Yteoecpggmchbkaa
open Go.RowKit
section
variable {κ β : Type} [DecidableEq κ] {P : Program} {K T E : TypeId} {ek : κ → Value} {ev : β → Value} {w : World} {l : List (κ × β)}
  {ops : Array Oper} {rest : List Oper} {o : Oper} {a : Act} {Q : Exit → Act → World → Prop}

theorem wpList_lookup_ok (hg : o.guard = none) (m x : Operand) (hop : o.op = Op.lookup T m x true) (hK : KeyOk P K ek) (ht : P.underlying T = some (.map K E)) {z : Value} (hz : ∀ w, (zeroValue E).run P w = .ok z w)
    (b : Nat) (hm : a.eval m = .map (some b)) (k : κ) (hx : a.eval x = ek k) (h : MapAt ek ev w b l)
    (next : wpList P ops Q rest (a.put o.dst (.tuple #[(aget l k).elim z ev, .bool (aget l k).isSome])) w) : wpList P ops Q (o :: rest) a w := by
  refine wpList_plain hg fun K' hK' => ?_
  unfold Oper.wp
  simp [execOp, hop, hm, hx, run_lookup_ok h hK ht hz k, Result.andThen]
  exact hK' _ _ next
theorem wpList_lookup_is (hg : o.guard = none) (m x : Operand) (hop : o.op = Op.lookup T m x false) (hK : KeyOk P K ek) (ht : P.underlying T = some (.map K E)) {z : Value} (hz : ∀ w, (zeroValue E).run P w = .ok z w)
    (b : Nat) (hm : a.eval m = .map (some b)) (k : κ) (hx : a.eval x = ek k) (h : MapAt ek ev w b l)
    (next : wpList P ops Q rest (a.put o.dst ((aget l k).elim z ev)) w) : wpList P ops Q (o :: rest) a w := by
  refine wpList_plain hg fun K' hK' => ?_
  unfold Oper.wp
  simp [execOp, hop, hm, hx, run_lookup h hK ht hz k, Result.andThen]
  exact hK' _ _ next
theorem wpList_update_is (hg : o.guard = none) (m x y : Operand) (hop : o.op = Op.mapUpdate T m x y) (hK : KeyOk P K ek) (ht : P.underlying T = some (.map K E))
    (b : Nat) (hm : a.eval m = .map (some b)) (k : κ) (hx : a.eval x = ek k) (v : β) (hy : a.eval y = ev v) (h : MapAt ek ev w b l)
    (next : ∀ w', MapAt ek ev w' b (aset l k v) → Upd (· = b) w w' → w'.heap.size = w.heap.size → wpList P ops Q rest (a.put o.dst undef) w') : wpList P ops Q (o :: rest) a w := by
  refine wpList_plain hg fun K' hK' => ?_
  obtain ⟨w', h1, h2, h3, h4⟩ := run_update h hK ht k v
  unfold Oper.wp
  simp [execOp, hop, hm, hx, hy, h1, Result.andThen]
  exact hK' _ _ (next w' h2 h3 h4)
theorem wpList_delete_is (hg : o.guard = none) (m x : Operand) (t : TypeId) (hop : o.op = Op.call { callee := Callee.builtin Builtin.delete, args := #[m, x], argTypes := #[T, t] }) (hK : KeyOk P K ek) (ht : P.underlying T = some (.map K E))
    (b : Nat) (hm : a.eval m = .map (some b)) (k : κ) (hx : a.eval x = ek k) (h : MapAt ek ev w b l)
    (next : ∀ w', MapAt ek ev w' b (adel l k) → Upd (· = b) w w' → w'.heap.size = w.heap.size → wpList P ops Q rest (a.put o.dst (.tuple #[])) w') : wpList P ops Q (o :: rest) a w := by
  refine wpList_plain hg fun K' hK' => ?_
  obtain ⟨w', h1, h2, h3, h4⟩ := run_delete h hK ht k o.type t
  unfold Oper.wp
  simp [execOp, hop, resolve, invoke, builtin, hm, hx, h1, Result.andThen]
  exact hK' _ _ (next w' h2 h3 h4)
omit [DecidableEq κ] in
theorem wpList_len_is (hg : o.guard = none) (m : Operand) (hop : o.op = Op.call { callee := Callee.builtin Builtin.len, args := #[m], argTypes := #[T] }) (ht : P.underlying T = some (.map K E))
    (b : Nat) (hm : a.eval m = .map (some b)) (h : MapAt ek ev w b l)
    (next : wpList P ops Q rest (a.put o.dst (.int .i64 l.length)) w) : wpList P ops Q (o :: rest) a w := by
  refine wpList_plain hg fun K' hK' => ?_
  unfold Oper.wp
  simp [execOp, hop, resolve, invoke, builtin, hm, run_len h ht, Result.andThen]
  exact hK' _ _ next
omit [DecidableEq κ] in
theorem wpList_range_is (hg : o.guard = none) (m : Operand) (hop : o.op = Op.range T m) (ht : P.underlying T = some (.map K E))
    (b : Nat) (hm : a.eval m = .map (some b)) (h : MapAt ek ev w b l)
    (next : ∀ x, RangeAt ek ev (w.alloc x) w.heap.size b l [] l → wpList P ops Q rest (a.put o.dst (.pointer (some ⟨w.heap.size, 0, none⟩))) (w.alloc x)) : wpList P ops Q (o :: rest) a w := by
  refine wpList_plain hg fun K' hK' => ?_
  obtain ⟨x, h1, h2⟩ := run_range h ht
  unfold Oper.wp
  simp [execOp, hop, hm, h1, Result.andThen]
  exact hK' _ _ (next x h2)
end
end Go.Proofs.Yteoecpggmchbkaa
