/- The law coffer/cofferlaw17.WalkWide holds at every input. -/
import Derived.Test.YtbcipfhhmkjigaaRows
import Derived.Test.YtbcipfhhmkjigaaWB
import Derived.Test.YtbcipfhhmkjigaaCfO
import Derived.WalkKit
import Derived.ProofKit
import Derived.OpenShut
import Derived.ShutString
import Derived.ChangeOld
import Derived.Below
import Derived.SizedLaws
import Derived.Carry
import Derived.WideShapes
namespace Go.Proofs.Ytbcipfhhmkjigaa.walkWide
open Go.Cf Go.ChangeShapes Go.WideShapes Go.ChangeAt Go.RowKit
open Go.ChangeMaps (open_string shut_string)
set_option linter.unusedVariables false
theorem own : ownKnob Try.prog.godebug = none := by kernel_rfl
theorem laidOut : laidOutB Try.prog = true := by kernel_rfl
set_option maxRecDepth 100000 in
theorem op3 : OpenAt Try.prog 3 (rInt .i64) := OpenAt.int Try.underlying3 (by kernel_rfl)
set_option maxRecDepth 100000 in
theorem lifted (os : Os) (started : os.Started) (H : Type) (enc : TypeId × Value → H) :
    ReturnsInHanded {} Try.checked os 7 .any (Rows.walkWideSpec.pre6 enc Try.prog Try.f7 Rows.walkWideRow.domain false) (Rows.walkWideSpec.post enc Try.prog Try.f7 false true false false) := by
  refine returnsInHanded_of_change_sized (C := Try.checked) own started (by kernel_rfl) Try.func7
    (ChangeSpec.witness6 (enc := enc) (C := Try.checked) false ⟨#[], #[.int .i64 0, .int .i64 0], []⟩ 8 (by kernel_rfl) (by kernel_rfl) (by kernel_rfl) (by kernel_rfl)) ?_
  intro W base args ds gs before hval0 hW hcnd hsz0 _
  have hsz : (DataW.weightsEach Try.prog (Try.f7.params.toList ++ Rows.walkWideSpec.plain.varTypes Try.prog) (ds ++ gs)).all (· ≤ reachBytes) = true := hsz0
  have hval : ∀ (j : Nat) t v, Try.f7.params[j]? = some t → args[j]? = some v → Value.okWide Try.prog W .any base t v := hval0
  have hW' := hW
  obtain ⟨p, q, hA0, hV, rfl, hfz, hnd⟩ := hW
  have hA : DataW.TrodAll enc Try.prog W 0 (fun _ => true) true Try.f7.params.toList args.toList ds p := hA0
  have hparams : Try.f7.params = #[3, 3] := rfl
  rw [hparams] at hA hval hsz
  obtain ⟨v0, vs0, d0, ds0, p0, q0, hargs, rfl, rfl, h0, r0⟩ := trodAll_cons hA
  obtain ⟨v1, vs1, d1, ds1, p1, q1, rfl, rfl, rfl, h1, r1⟩ := trodAll_cons r0
  obtain ⟨rfl, rfl, rfl⟩ := trodAll_nil r1
  obtain rfl : args = #[v0, v1] := by cases args; simp_all
  obtain ⟨rfl, rfl⟩ := trodVars_none hV
  obtain ⟨x0, rfl, rfl, rfl, w0⟩ := open_int Try.underlying3 (hval 0 3 v0 rfl rfl) h0
  have hx0 : (rInt .i64).val W [] (.int .i64 x0) x0 := ⟨[.int .i64 x0], ⟨rfl, Cf.wf_wrap w0⟩, rfl⟩
  obtain ⟨x1, rfl, rfl, rfl, w1⟩ := open_int Try.underlying3 (hval 1 3 v1 rfl rfl) h1
  have hx1 : (rInt .i64).val W [] (.int .i64 x1) x1 := ⟨[.int .i64 x1], ⟨rfl, Cf.wf_wrap w1⟩, rfl⟩
  obtain ⟨k, hk⟩ := WalkWide_pure x0 x1 (Rep.wf_val hx0) (Rep.wf_val hx1)
  clear hA0 hval0 hsz0 hsz
  refine (cofferlaw17_WalkWide_ok k x0 x1  true hk W [] (by intro b hb; cases hb) ⟨hx0, hx1⟩).mono fun e W' he => ?_
  obtain ⟨v, he, haft, hv⟩ := he
  obtain rfl := val_bool hv
  subst he
  have bel := haft.below
  exact ⟨_, rfl, _, _, _, [], _, [], hW', trodAll_mk1 (shut_bool Try.underlying4 _), (trodAll_cons_mk (shut_int Try.underlying3 w0) (trodAll_cons_mk (shut_int Try.underlying3 w1) trodAll_mk0)), rfl, bel.frame _, fun h => by cases h⟩
theorem over : Rows.walkWideRow.holds Try.pinned (OpenSpec.ofChange Rows.walkWideSpec) :=
  OpenClaim.holds_of_wide 7 Try.f7 rfl rfl rfl rfl rfl rfl rfl ⟨rfl, rfl, rfl, rfl, rfl⟩ rfl rfl rfl rfl rfl (by kernel_rfl) Try.func7 (by kernel_rfl)
    (of_decide_eq_true (by kernel_rfl)) (by unfold Func.isWrapper; first | (rw [if_pos (by decide +kernel)]; kernel_rfl) | (rw [if_neg (by decide +kernel)]; exact ⟨rfl, rfl⟩))
    (fun os started H enc _ => lifted os started H enc)
end Go.Proofs.Ytbcipfhhmkjigaa.walkWide
namespace Go.Proofs.Ytbcipfhhmkjigaa
/-- The row. -/
theorem walkWide_holds : Rows.WalkWideSaid := walkWide.over
#print axioms walkWide_holds
end Go.Proofs.Ytbcipfhhmkjigaa
