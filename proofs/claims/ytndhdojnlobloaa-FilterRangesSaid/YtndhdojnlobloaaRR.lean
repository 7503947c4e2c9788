/- The law FilterRanges returns true for every input, and leaves its arguments as they were: no condition. -/
import Derived.Test.YtndhdojnlobloaaLRr
import Derived.Test.YtndhdojnlobloaaFr
import Derived.Test.YtndhdojnlobloaaRows
import Derived.WalkKit
import Derived.ProofKit
import Derived.OpenShut
import Derived.SizedLaws
namespace Go.Proofs.Ytndhdojnlobloaa.filterRanges
open Go Go.Proofs Go.ChangeShapes Go.WideShapes Go.ChangeAt Go.RowKit Go.Sx Go.Sh
set_option linter.unusedVariables false

theorem own : ownKnob Try.prog.godebug = none := by kernel_rfl

set_option maxRecDepth 100000 in
set_option maxHeartbeats 1000000 in
theorem contract (H : Type) (enc : TypeId × Value → H) (W : World) (base : Nat) (args : Array Value) (ds gs : List (DataW H)) (before : List MemPlace)
    (hval : ∀ (j : Nat) t v, Try.f8.params[j]? = some t → args[j]? = some v → Value.okWide Try.prog W .any base t v)
    (hW : DataW.Whole enc Try.prog Try.f8.params.toList Rows.filterRangesSpec.vars false W args.toList ds gs before)
    (hsz : (DataW.weightsEach Try.prog (Try.f8.params.toList ++ Rows.filterRangesSpec.plain.varTypes Try.prog) (ds ++ gs)).all (· ≤ reachBytes) = true) :
    Calls Try.prog 8 args W fun e W' => ∃ v, e = .returned v ∧ Rows.filterRangesSpec.post enc Try.prog Try.f8 false true false false W args v W' := by
  have hW' := hW
  obtain ⟨p, q, hA0, hV, rfl, hfz, hnd⟩ := hW
  have hA : DataW.TrodAll enc Try.prog W 0 (fun _ => true) true Try.f8.params.toList args.toList ds p := hA0
  rw [Try.params8] at hA hval
  obtain ⟨v0, vs0, d0, ds0, p0, q0, hargs, rfl, rfl, h0, r0⟩ := trodAll_cons hA
  obtain ⟨v1, vs1, d1, ds1, p1, q1, rfl, rfl, rfl, h1, r1⟩ := trodAll_cons r0
  obtain ⟨rfl, rfl, rfl⟩ := trodAll_nil r1
  obtain rfl : args = #[v0, v1] := by cases args; simp_all
  obtain ⟨rfl, rfl⟩ := trodVars_none hV
  obtain ⟨a0, is0, c0, len0⟩ := arg_recs (t := 32) (e := 36) (d := 4) (n := 5) (by kernel_rfl) (by kernel_rfl) (by kernel_rfl) (by omega) (hval 0 32 v0 rfl rfl) h0
  have z0 : a0.length ≤ 1000000000000000 := by
    have := len_of (j := 0) (t := 32) (e := 36) hsz (by rw [Try.params8]; rfl) rfl (by kernel_rfl) (of_decide_eq_true (by kernel_rfl)) len0
    have e1 : 1 ≤ Try.prog.bytesOf 36 := of_decide_eq_true (by kernel_rfl)
    have := Nat.mul_le_mul_left a0.length e1
    omega
  obtain ⟨g1, is1, c1⟩ := arg_agg (t := 74) (d := 6) (ks := List.replicate 3 (.i .i64)) (by kernel_rfl) (by kernel_rfl) (hval 1 74 v1 rfl rfl) h1
  obtain ⟨w1, rfl, y1, c1'⟩ := ints_of c1
  obtain ⟨a1_0, a1_1, a1_2, rfl⟩ : ∃ a1_0 a1_1 a1_2 : Int, w1 = [a1_0, a1_1, a1_2] := by
    match w1, y1 with
    | [x0, x1, x2], _ => exact ⟨x0, x1, x2, rfl⟩
  have hlaw : L06_FilterRanges a0 a1_0 a1_1 a1_2 = some true := filterRanges_true (by omega) (c1' _ (by simp)) (c1' _ (by simp))
  refine (law_calls (ax := [.r (.recs 5 a0), .s [.i .i64 a1_0, .i .i64 a1_1, .i .i64 a1_2]]) L06_FilterRanges_ok (.cons is0 (.cons is1 .nil)) rfl rfl (ok_of hlaw) (val_of hlaw)).mono fun e W' ⟨he, hb⟩ => ?_
  subst he
  exact ⟨_, rfl, law_post (tb := 4) rfl rfl (by kernel_rfl) rfl (by simp [Rows.filterRangesSpec]) rfl (by kernel_rfl) (by rw [Try.params8]; intro t ht; simp only [List.mem_cons, List.not_mem_nil, or_false] at ht; rcases ht with rfl | rfl <;> exact ⟨by kernel_rfl, of_decide_eq_true (by kernel_rfl)⟩) hW' hb⟩

set_option maxRecDepth 100000 in
theorem lifted (os : Os) (started : os.Started) (H : Type) (enc : TypeId × Value → H) :
    ReturnsInHanded {} Try.checked os 8 .any (Rows.filterRangesSpec.pre6 enc Try.prog Try.f8 Rows.filterRangesRow.domain false) (Rows.filterRangesSpec.post enc Try.prog Try.f8 false true false false) := by
  refine returnsInHanded_of_change_sized (C := Try.checked) (s := Rows.filterRangesSpec) own started (by kernel_rfl) Try.func8
    (ChangeSpec.witness6 (enc := enc) (C := Try.checked) (s := Rows.filterRangesSpec) false ⟨#[], #[.slice none 0 0, .agg #[.int .i64 0, .int .i64 0, .int .i64 0]], []⟩ 8 (by kernel_rfl) (by kernel_rfl) (by kernel_rfl) (by kernel_rfl)) ?_
  intro W base args ds gs before hval hW _ hsz _
  exact contract H enc W base args ds gs before hval hW hsz

theorem over : Rows.filterRangesRow.holds Try.pinned (OpenSpec.ofChange Rows.filterRangesSpec) :=
  OpenClaim.holds_of_wide 8 Try.f8 rfl rfl rfl rfl rfl rfl rfl ⟨rfl, rfl, rfl, rfl, rfl⟩ rfl rfl rfl rfl rfl (by kernel_rfl) Try.func8 (by kernel_rfl)
    (of_decide_eq_true (by kernel_rfl)) (by unfold Func.isWrapper; first | (rw [if_pos (by decide +kernel)]; kernel_rfl) | (rw [if_neg (by decide +kernel)]; exact ⟨rfl, rfl⟩))
    (fun os started H enc _ => lifted os started H enc)

theorem proved : Rows.FilterRangesSaid :=
  over
end Go.Proofs.Ytndhdojnlobloaa.filterRanges
