/- Whatever is called of a new Timer, each answer, where it is, and how many it has are the document's: sandglasslaw08.TimerScripts answers true at every input. -/
import Derived.Test.YteoecpggmchbkaaTimerSc
import Derived.Test.YteoecpggmchbkaaArgs
import Derived.Test.YteoecpggmchbkaaPost
import Derived.WalkKit
import Derived.ProofKit
import Derived.OpenShut
namespace Go.Proofs.Yteoecpggmchbkaa.timerScripts
open Go.ChangeShapes Go.WideShapes Go.ChangeAt Go.RowKit

theorem timerScripts_any (now : Int) {v : Value} {ops : List (Int × Int × Int)} (w : World) (hv : SliceOp w v ops) :
    Calls Try.prog 3 #[.int .i64 now, v] w fun e w' => e = .returned (.bool true) ∧ Below w.heap.size w w' := by
  by_cases h : now < 0 ∨ 1099511627776 < now
  · exact scripts_bad w hv h
  · obtain ⟨m, rfl⟩ := Int.eq_ofNat_of_zero_le (a := now) (by omega)
    exact scripts_ok w hv (by omega)

theorem own : ownKnob Try.prog.godebug = none := by kernel_rfl

/-! ### THE ROW's STEP: WRITTEN OUT: LEAVE IT -/
set_option maxRecDepth 100000 in
theorem lifted (os : Os) (started : os.Started) (H : Type) (enc : TypeId × Value → H) :
    ReturnsInHanded {} Try.checked os 3 .any (Rows.timerScriptsSpec.pre6 enc Try.prog Try.f3 Rows.timerScriptsRow.domain false) (Rows.timerScriptsSpec.post enc Try.prog Try.f3 false true false false) := by
  refine returnsInHanded_of_change (C := Try.checked) own started (by kernel_rfl) Try.func3
    (ChangeSpec.witness6 (enc := enc) (C := Try.checked) false ⟨#[], #[.int .i64 0, .slice none 0 0], []⟩ 8 (by kernel_rfl) (by kernel_rfl) (by kernel_rfl) (by kernel_rfl)) ?_
  intro W base args ds gs before hval0 hW hcnd _
  have hval : ∀ (j : Nat) t v, Try.f3.params[j]? = some t → args[j]? = some v → Value.okWide Try.prog W .any base t v := hval0
  have hW' := hW
  obtain ⟨p, q, hA0, hV, rfl, hfz, hnd⟩ := hW
  have hA : DataW.TrodAll enc Try.prog W 0 (fun _ => true) true Try.f3.params.toList args.toList ds p := hA0
  rw [Try.params3] at hA hval
  obtain ⟨v0, vs0, d0, ds0, p0, q0, hargs, rfl, rfl, h0, r0⟩ := trodAll_cons hA
  obtain ⟨v1, vs1, d1, ds1, p1, q1, rfl, rfl, rfl, h1, r1⟩ := trodAll_cons r0
  obtain ⟨rfl, rfl, rfl⟩ := trodAll_nil r1
  obtain rfl : args = #[v0, v1] := by cases args; simp_all
  obtain ⟨rfl, rfl⟩ := trodVars_none hV
  obtain ⟨a0, rfl, rfl, rfl, w0⟩ := open_int Try.underlying3 (hval 0 3 v0 rfl rfl) h0
  obtain ⟨ops, hops⟩ := open_ops (hval 1 22 v1 rfl rfl) h1
  clear hA0 hval0
  simp only [List.append_nil, List.nil_append] at hW'
  have hlt : ∀ x ∈ p1, x.block < W.heap.size := fun x hx => hW'.lt x (by simpa using hx)
  refine (timerScripts_any a0 W hops).mono fun e W' ⟨he, hb⟩ => ?_
  subst he
  exact ⟨_, rfl, post_of_kept (pa := p1) (pv := []) hW' (fun _ _ _ => (trodAll_cons_mk (shut_bool Try.underlying4 _) trodAll_mk0))
    (fun sp hsp => by
      have := trodAll_cons_mk (shut_int (spare := sp) (held := true) (base := 0) (w := W') (enc := enc) Try.underlying3 w0) (trodAll_cons_mk (WideElems.Trod_stays (sp' := sp) Try.laidOut (by kernel_rfl) (of_decide_eq_true (by kernel_rfl)) h1 (fun x hx => hb.same (hlt x hx)) (fun x hx => hsp x (by simpa using hx))) trodAll_mk0)
      simp only [List.append_nil, List.nil_append] at this
      exact this)
    (fun _ _ => rfl) (by simp) hb⟩

theorem over : Rows.timerScriptsRow.holds Try.pinned (OpenSpec.ofChange Rows.timerScriptsSpec) :=
  OpenClaim.holds_of_wide 3 Try.f3 rfl rfl rfl rfl rfl rfl rfl ⟨rfl, rfl, rfl, rfl, rfl⟩ rfl rfl rfl rfl rfl (by kernel_rfl) Try.func3 (by kernel_rfl)
    (of_decide_eq_true (by kernel_rfl)) (by unfold Func.isWrapper; first | (rw [if_pos (by decide +kernel)]; kernel_rfl) | (rw [if_neg (by decide +kernel)]; exact ⟨rfl, rfl⟩))
    (fun os started H enc _ => lifted os started H enc)

/-- ████ THE STATEMENT ████ -/
theorem proved : Rows.TimerScriptsSaid :=
  over
#print axioms proved
end Go.Proofs.Yteoecpggmchbkaa.timerScripts
