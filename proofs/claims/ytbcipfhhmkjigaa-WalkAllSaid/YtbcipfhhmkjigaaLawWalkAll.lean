/- The law coffer/cofferlaw17.WalkAll holds at every input. -/
import Derived.Test.YtbcipfhhmkjigaaRows
import Derived.Test.YtbcipfhhmkjigaaVC
import Derived.Test.YtbcipfhhmkjigaaCfO
import Derived.WalkKit
import Derived.ProofKit
import Derived.OpenShut
import Derived.ShutString
import Derived.ChangeOld
import Derived.Below
import Derived.SizedLaws
import Derived.Carry
import Derived.WideShapes
namespace Go.Proofs.Ytbcipfhhmkjigaa.walkAll
open Go.Cf Go.ChangeShapes Go.WideShapes Go.ChangeAt Go.RowKit
open Go.ChangeMaps (open_string shut_string)
set_option linter.unusedVariables false
theorem own : ownKnob Try.prog.godebug = none := by kernel_rfl
theorem laidOut : laidOutB Try.prog = true := by kernel_rfl
set_option maxRecDepth 100000 in
theorem op5 : OpenAt Try.prog 5 (rInt .u8) := OpenAt.int Try.underlying5 (by kernel_rfl)
set_option maxRecDepth 100000 in
theorem op29 : OpenAt Try.prog 29 (rArr 32 (rInt .u8)) := OpenAt.arr Try.underlying29 (by kernel_rfl) op5
set_option maxRecDepth 100000 in
theorem op32 : OpenAt Try.prog 32 (rSl 1 (rInt .u8)) := OpenAt.sl Try.underlying32 (by kernel_rfl) (by kernel_rfl) (by decide) (by decide) op5
set_option maxRecDepth 100000 in
theorem op34 : OpenAt Try.prog 34 rApi_Object := OpenAt.struct Try.underlying34 (by kernel_rfl) (OpenC.cons rfl op29 (OpenC.last rfl op32))
set_option maxRecDepth 100000 in
theorem op22 : OpenAt Try.prog 22 (rSl 56 rApi_Object) := OpenAt.sl Try.underlying22 (by kernel_rfl) (by kernel_rfl) (by decide) (by decide) op34
set_option maxRecDepth 100000 in
theorem lifted (os : Os) (started : os.Started) (H : Type) (enc : TypeId × Value → H) :
    ReturnsInHanded {} Try.checked os 6 .any (Rows.walkAllSpec.pre6 enc Try.prog Try.f6 Rows.walkAllRow.domain false) (Rows.walkAllSpec.post enc Try.prog Try.f6 false true false false) := by
  refine returnsInHanded_of_change_sized (C := Try.checked) own started (by kernel_rfl) Try.func6
    (ChangeSpec.witness6 (enc := enc) (C := Try.checked) false ⟨#[], #[.slice none 0 0, .agg #[.int .u8 0, .int .u8 0, .int .u8 0, .int .u8 0, .int .u8 0, .int .u8 0, .int .u8 0, .int .u8 0, .int .u8 0, .int .u8 0, .int .u8 0, .int .u8 0, .int .u8 0, .int .u8 0, .int .u8 0, .int .u8 0, .int .u8 0, .int .u8 0, .int .u8 0, .int .u8 0, .int .u8 0, .int .u8 0, .int .u8 0, .int .u8 0, .int .u8 0, .int .u8 0, .int .u8 0, .int .u8 0, .int .u8 0, .int .u8 0, .int .u8 0, .int .u8 0]], []⟩ 8 (by kernel_rfl) (by kernel_rfl) (by kernel_rfl) (by kernel_rfl)) ?_
  intro W base args ds gs before hval0 hW hcnd hsz0 _
  have hsz : (DataW.weightsEach Try.prog (Try.f6.params.toList ++ Rows.walkAllSpec.plain.varTypes Try.prog) (ds ++ gs)).all (· ≤ reachBytes) = true := hsz0
  have hval : ∀ (j : Nat) t v, Try.f6.params[j]? = some t → args[j]? = some v → Value.okWide Try.prog W .any base t v := hval0
  have hW' := hW
  obtain ⟨p, q, hA0, hV, rfl, hfz, hnd⟩ := hW
  have hA : DataW.TrodAll enc Try.prog W 0 (fun _ => true) true Try.f6.params.toList args.toList ds p := hA0
  have hparams : Try.f6.params = #[22, 29] := rfl
  rw [hparams] at hA hval hsz
  obtain ⟨v0, vs0, d0, ds0, p0, q0, hargs, rfl, rfl, h0, r0⟩ := trodAll_cons hA
  obtain ⟨v1, vs1, d1, ds1, p1, q1, rfl, rfl, rfl, h1, r1⟩ := trodAll_cons r0
  obtain ⟨rfl, rfl, rfl⟩ := trodAll_nil r1
  obtain rfl : args = #[v0, v1] := by cases args; simp_all
  obtain ⟨rfl, rfl⟩ := trodVars_none hV
  have k0 := h0
  have lt0 : ∀ x ∈ p0, x.block < W.heap.size := by obtain ⟨m, hm⟩ := k0; exact DataW.trod_lt m _ _ _ hm
  obtain ⟨b0, len0, cap0, rfl⟩ := okWide_slice Try.underlying22 (hval 0 22 v0 rfl rfl)
  obtain ⟨x0, hx0⟩ := OpenAt.arg op22 (arg_one rfl rfl) h0 (weight_arg hsz (j := 0) rfl rfl)
  have k1 := h1
  have lt1 : ∀ x ∈ p1, x.block < W.heap.size := by obtain ⟨m, hm⟩ := k1; exact DataW.trod_lt m _ _ _ hm
  have ok1 := (hval 1 29 v1 rfl rfl)
  unfold Value.okWide at ok1
  rw [Try.underlying29] at ok1
  obtain ⟨cs1, rfl, _, _⟩ := ok1
  obtain ⟨x1, hx1⟩ := OpenAt.arg op29 (arg_agg rfl) h1 (weight_arg hsz (j := 1) rfl rfl)
  obtain ⟨k, hk⟩ := WalkAll_pure x0 x1 (Rep.wf_val hx0) (Rep.wf_val hx1)
  clear hA0 hval0 hsz0 hsz
  refine (cofferlaw17_WalkAll_ok k x0 x1 _ _ true hk W [] (by intro b hb; cases hb) ⟨hx0, hx1⟩).mono fun e W' he => ?_
  obtain ⟨v, he, haft, hv⟩ := he
  obtain rfl := val_bool hv
  subst he
  have bel := haft.below
  exact ⟨_, rfl, _, _, _, [], _, [], hW', trodAll_mk1 (shut_bool Try.underlying4 _), (trodAll_cons_mk (Below.trod laidOut (by kernel_rfl) (of_decide_eq_true (by kernel_rfl)) k0 bel lt0) (trodAll_cons_mk (Below.trod laidOut (by kernel_rfl) (of_decide_eq_true (by kernel_rfl)) k1 bel lt1) trodAll_mk0)), rfl, bel.frame _, fun h => by cases h⟩
theorem over : Rows.walkAllRow.holds Try.pinned (OpenSpec.ofChange Rows.walkAllSpec) :=
  OpenClaim.holds_of_wide 6 Try.f6 rfl rfl rfl rfl rfl rfl rfl ⟨rfl, rfl, rfl, rfl, rfl⟩ rfl rfl rfl rfl rfl (by kernel_rfl) Try.func6 (by kernel_rfl)
    (of_decide_eq_true (by kernel_rfl)) (by unfold Func.isWrapper; first | (rw [if_pos (by decide +kernel)]; kernel_rfl) | (rw [if_neg (by decide +kernel)]; exact ⟨rfl, rfl⟩))
    (fun os started H enc _ => lifted os started H enc)
end Go.Proofs.Ytbcipfhhmkjigaa.walkAll
namespace Go.Proofs.Ytbcipfhhmkjigaa
/-- The row. -/
theorem walkAll_holds : Rows.WalkAllSaid := walkAll.over
#print axioms walkAll_holds
end Go.Proofs.Ytbcipfhhmkjigaa
