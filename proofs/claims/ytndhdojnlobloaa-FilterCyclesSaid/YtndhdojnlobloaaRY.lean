/- The law FilterCycles returns true for every input, and leaves its arguments as they were: no condition. -/
import Derived.Test.YtndhdojnlobloaaLawA
import Derived.Test.YtndhdojnlobloaaFr
import Derived.Test.YtndhdojnlobloaaRows
import Derived.WalkKit
import Derived.ProofKit
import Derived.OpenShut
import Derived.SizedLaws
set_option linter.unusedSectionVars false
set_option linter.unusedSimpArgs false
set_option linter.unusedVariables false
namespace Go.Proofs.Ytndhdojnlobloaa.filterCycles
open Go Go.Proofs Go.ChangeShapes Go.WideShapes Go.ChangeAt Go.RowKit Go.Sx Go.Sh
set_option linter.unusedVariables false

theorem own : ownKnob Try.prog.godebug = none := by kernel_rfl

set_option maxRecDepth 100000 in
set_option maxHeartbeats 1000000 in
theorem contract (H : Type) (enc : TypeId × Value → H) (W : World) (base : Nat) (args : Array Value) (ds gs : List (DataW H)) (before : List MemPlace)
    (hval : ∀ (j : Nat) t v, Try.f6.params[j]? = some t → args[j]? = some v → Value.okWide Try.prog W .any base t v)
    (hW : DataW.Whole enc Try.prog Try.f6.params.toList Rows.filterCyclesSpec.vars false W args.toList ds gs before)
    (hsz : (DataW.weightsEach Try.prog (Try.f6.params.toList ++ Rows.filterCyclesSpec.plain.varTypes Try.prog) (ds ++ gs)).all (· ≤ reachBytes) = true) :
    Calls Try.prog 6 args W fun e W' => ∃ v, e = .returned v ∧ Rows.filterCyclesSpec.post enc Try.prog Try.f6 false true false false W args v W' := by
  have hW' := hW
  obtain ⟨p, q, hA0, hV, rfl, hfz, hnd⟩ := hW
  have hA : DataW.TrodAll enc Try.prog W 0 (fun _ => true) true Try.f6.params.toList args.toList ds p := hA0
  rw [Try.params6] at hA hval
  obtain ⟨v0, vs0, d0, ds0, p0, q0, hargs, rfl, rfl, h0, r0⟩ := trodAll_cons hA
  obtain ⟨v1, vs1, d1, ds1, p1, q1, rfl, rfl, rfl, h1, r1⟩ := trodAll_cons r0
  obtain ⟨rfl, rfl, rfl⟩ := trodAll_nil r1
  obtain rfl : args = #[v0, v1] := by cases args; simp_all
  obtain ⟨rfl, rfl⟩ := trodVars_none hV
  obtain ⟨g0, is0, c0⟩ := arg_agg (t := 36) (d := 6) (ks := List.replicate 5 (.i .i64)) (by kernel_rfl) (by kernel_rfl) (hval 0 36 v0 rfl rfl) h0
  obtain ⟨w0, rfl, y0, c0'⟩ := ints_of c0
  obtain ⟨a0_0, a0_1, a0_2, a0_3, a0_4, rfl⟩ : ∃ a0_0 a0_1 a0_2 a0_3 a0_4 : Int, w0 = [a0_0, a0_1, a0_2, a0_3, a0_4] := by
    match w0, y0 with
    | [x0, x1, x2, x3, x4], _ => exact ⟨x0, x1, x2, x3, x4, rfl⟩
  obtain ⟨g1, is1, c1⟩ := arg_agg (t := 34) (d := 6) (ks := List.replicate 2 (.i .i64)) (by kernel_rfl) (by kernel_rfl) (hval 1 34 v1 rfl rfl) h1
  obtain ⟨w1, rfl, y1, c1'⟩ := ints_of c1
  obtain ⟨a1_0, a1_1, rfl⟩ : ∃ a1_0 a1_1 : Int, w1 = [a1_0, a1_1] := by
    match w1, y1 with
    | [x0, x1], _ => exact ⟨x0, x1, rfl⟩
  have hlaw : L06_FilterCycles a0_0 a0_1 a0_2 a0_3 a0_4 a1_0 a1_1 = some true := filterCycles_true _ _ _ _ _ _ _
  refine (law_calls (ax := [.s [.i .i64 a0_0, .i .i64 a0_1, .i .i64 a0_2, .i .i64 a0_3, .i .i64 a0_4], .s [.i .i64 a1_0, .i .i64 a1_1]]) L06_FilterCycles_ok (.cons is0 (.cons is1 .nil)) rfl rfl (ok_of hlaw) (val_of hlaw) Try.func6 rfl (by kernel_rfl) (fun _ _ h => by cases h)).mono fun e W' ⟨he, hb⟩ => ?_
  subst he
  exact ⟨_, rfl, law_post (tb := 4) rfl rfl (by kernel_rfl) rfl (by simp [Rows.filterCyclesSpec]) rfl (by kernel_rfl) (by rw [Try.params6]; intro t ht; simp only [List.mem_cons, List.not_mem_nil, or_false] at ht; rcases ht with rfl | rfl <;> exact ⟨by kernel_rfl, of_decide_eq_true (by kernel_rfl)⟩) hW' hb⟩

set_option maxRecDepth 100000 in
theorem lifted (os : Os) (started : os.Started) (H : Type) (enc : TypeId × Value → H) :
    ReturnsInHanded {} Try.checked os 6 .any (Rows.filterCyclesSpec.pre6 enc Try.prog Try.f6 Rows.filterCyclesRow.domain false) (Rows.filterCyclesSpec.post enc Try.prog Try.f6 false true false false) := by
  refine returnsInHanded_of_change_sized (C := Try.checked) (s := Rows.filterCyclesSpec) own started (by kernel_rfl) Try.func6
    (ChangeSpec.witness6 (enc := enc) (C := Try.checked) (s := Rows.filterCyclesSpec) false ⟨#[], #[.agg #[.int .i64 0, .int .i64 0, .int .i64 0, .int .i64 0, .int .i64 0], .agg #[.int .i64 0, .int .i64 0]], []⟩ 8 (by kernel_rfl) (by kernel_rfl) (by kernel_rfl) (by kernel_rfl)) ?_
  intro W base args ds gs before hval hW _ hsz _
  exact contract H enc W base args ds gs before hval hW hsz

theorem over : Rows.filterCyclesRow.holds Try.pinned (OpenSpec.ofChange Rows.filterCyclesSpec) :=
  OpenClaim.holds_of_wide 6 Try.f6 rfl rfl rfl rfl rfl rfl rfl ⟨rfl, rfl, rfl, rfl, rfl⟩ rfl rfl rfl rfl rfl (by kernel_rfl) Try.func6 (by kernel_rfl)
    (of_decide_eq_true (by kernel_rfl)) (by unfold Func.isWrapper; first | (rw [if_pos (by decide +kernel)]; kernel_rfl) | (rw [if_neg (by decide +kernel)]; exact ⟨rfl, rfl⟩))
    (fun os started H enc _ => lifted os started H enc)

theorem proved : Rows.FilterCyclesSaid :=
  over
end Go.Proofs.Ytndhdojnlobloaa.filterCycles
