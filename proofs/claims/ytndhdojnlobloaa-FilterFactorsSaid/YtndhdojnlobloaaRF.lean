/- The law FilterFactors returns true for every input, and leaves its arguments as they were: no condition. -/
import Derived.Test.YtndhdojnlobloaaLawA
import Derived.Test.YtndhdojnlobloaaFr
import Derived.Test.YtndhdojnlobloaaRows
import Derived.WalkKit
import Derived.ProofKit
import Derived.OpenShut
import Derived.SizedLaws
namespace Go.Proofs.Ytndhdojnlobloaa.filterFactors
open Go Go.Proofs Go.ChangeShapes Go.WideShapes Go.ChangeAt Go.RowKit Go.Sx Go.Sh
set_option linter.unusedVariables false

theorem own : ownKnob Try.prog.godebug = none := by kernel_rfl

set_option maxRecDepth 100000 in
set_option maxHeartbeats 1000000 in
theorem contract (H : Type) (enc : TypeId × Value → H) (W : World) (base : Nat) (args : Array Value) (ds gs : List (DataW H)) (before : List MemPlace)
    (hval : ∀ (j : Nat) t v, Try.f3.params[j]? = some t → args[j]? = some v → Value.okWide Try.prog W .any base t v)
    (hW : DataW.Whole enc Try.prog Try.f3.params.toList Rows.filterFactorsSpec.vars false W args.toList ds gs before)
    (hsz : (DataW.weightsEach Try.prog (Try.f3.params.toList ++ Rows.filterFactorsSpec.plain.varTypes Try.prog) (ds ++ gs)).all (· ≤ reachBytes) = true) :
    Calls Try.prog 3 args W fun e W' => ∃ v, e = .returned v ∧ Rows.filterFactorsSpec.post enc Try.prog Try.f3 false true false false W args v W' := by
  have hW' := hW
  obtain ⟨p, q, hA0, hV, rfl, hfz, hnd⟩ := hW
  have hA : DataW.TrodAll enc Try.prog W 0 (fun _ => true) true Try.f3.params.toList args.toList ds p := hA0
  rw [Try.params3] at hA hval
  obtain ⟨v0, vs0, d0, ds0, p0, q0, hargs, rfl, rfl, h0, r0⟩ := trodAll_cons hA
  obtain ⟨v1, vs1, d1, ds1, p1, q1, rfl, rfl, rfl, h1, r1⟩ := trodAll_cons r0
  obtain ⟨rfl, rfl, rfl⟩ := trodAll_nil r1
  obtain rfl : args = #[v0, v1] := by cases args; simp_all
  obtain ⟨rfl, rfl⟩ := trodVars_none hV
  obtain ⟨a0, is0, c0, len0⟩ := arg_ints (t := 22) (e := 3) (d := 4) (by kernel_rfl) (by kernel_rfl) (by kernel_rfl) (hval 0 22 v0 rfl rfl) h0
  have z0 : a0.length ≤ 1000000000000000 := by
    have := len_of (j := 0) (t := 22) (e := 3) hsz (by rw [Try.params3]; rfl) rfl (by kernel_rfl) (of_decide_eq_true (by kernel_rfl)) len0
    have e1 : 1 ≤ Try.prog.bytesOf 3 := of_decide_eq_true (by kernel_rfl)
    have := Nat.mul_le_mul_left a0.length e1
    omega
  obtain ⟨a1, is1, c1, len1⟩ := arg_ints (t := 22) (e := 3) (d := 4) (by kernel_rfl) (by kernel_rfl) (by kernel_rfl) (hval 1 22 v1 rfl rfl) h1
  have z1 : a1.length ≤ 1000000000000000 := by
    have := len_of (j := 1) (t := 22) (e := 3) hsz (by rw [Try.params3]; rfl) rfl (by kernel_rfl) (of_decide_eq_true (by kernel_rfl)) len1
    have e1 : 1 ≤ Try.prog.bytesOf 3 := of_decide_eq_true (by kernel_rfl)
    have := Nat.mul_le_mul_left a1.length e1
    omega
  have hlaw : L06_FilterFactors a0 a1 = some true := filterFactors_true _ _ (by omega) (by omega)
  refine (law_calls (ax := [.r (.ints .i64 a0), .r (.ints .i64 a1)]) L06_FilterFactors_ok (.cons is0 (.cons is1 .nil)) rfl rfl (ok_of hlaw) (val_of hlaw)).mono fun e W' ⟨he, hb⟩ => ?_
  subst he
  exact ⟨_, rfl, law_post (tb := 4) rfl rfl (by kernel_rfl) rfl (by simp [Rows.filterFactorsSpec]) rfl (by kernel_rfl) (by rw [Try.params3]; intro t ht; simp only [List.mem_cons, List.not_mem_nil, or_false] at ht; rcases ht with rfl | rfl <;> exact ⟨by kernel_rfl, of_decide_eq_true (by kernel_rfl)⟩) hW' hb⟩

set_option maxRecDepth 100000 in
theorem lifted (os : Os) (started : os.Started) (H : Type) (enc : TypeId × Value → H) :
    ReturnsInHanded {} Try.checked os 3 .any (Rows.filterFactorsSpec.pre6 enc Try.prog Try.f3 Rows.filterFactorsRow.domain false) (Rows.filterFactorsSpec.post enc Try.prog Try.f3 false true false false) := by
  refine returnsInHanded_of_change_sized (C := Try.checked) (s := Rows.filterFactorsSpec) own started (by kernel_rfl) Try.func3
    (ChangeSpec.witness6 (enc := enc) (C := Try.checked) (s := Rows.filterFactorsSpec) false ⟨#[], #[.slice none 0 0, .slice none 0 0], []⟩ 8 (by kernel_rfl) (by kernel_rfl) (by kernel_rfl) (by kernel_rfl)) ?_
  intro W base args ds gs before hval hW _ hsz _
  exact contract H enc W base args ds gs before hval hW hsz

theorem over : Rows.filterFactorsRow.holds Try.pinned (OpenSpec.ofChange Rows.filterFactorsSpec) :=
  OpenClaim.holds_of_wide 3 Try.f3 rfl rfl rfl rfl rfl rfl rfl ⟨rfl, rfl, rfl, rfl, rfl⟩ rfl rfl rfl rfl rfl (by kernel_rfl) Try.func3 (by kernel_rfl)
    (of_decide_eq_true (by kernel_rfl)) (by unfold Func.isWrapper; first | (rw [if_pos (by decide +kernel)]; kernel_rfl) | (rw [if_neg (by decide +kernel)]; exact ⟨rfl, rfl⟩))
    (fun os started H enc _ => lifted os started H enc)

theorem proved : Rows.FilterFactorsSaid :=
  over
end Go.Proofs.Ytndhdojnlobloaa.filterFactors
