/- The law FilterLists returns true for every input, and leaves its arguments as they were: no condition. -/
import Derived.Test.YtndhdojnlobloaaLawA
import Derived.Test.YtndhdojnlobloaaFr
import Derived.Test.YtndhdojnlobloaaRows
import Derived.WalkKit
import Derived.ProofKit
import Derived.OpenShut
import Derived.SizedLaws
set_option linter.unusedSectionVars false
set_option linter.unusedSimpArgs false
set_option linter.unusedVariables false
namespace Go.Proofs.Ytndhdojnlobloaa.filterLists
open Go Go.Proofs Go.ChangeShapes Go.WideShapes Go.ChangeAt Go.RowKit Go.Sx Go.Sh
set_option linter.unusedVariables false

theorem own : ownKnob Try.prog.godebug = none := by kernel_rfl

set_option maxRecDepth 100000 in
set_option maxHeartbeats 1000000 in
theorem contract (H : Type) (enc : TypeId × Value → H) (W : World) (base : Nat) (args : Array Value) (ds gs : List (DataW H)) (before : List MemPlace)
    (hval : ∀ (j : Nat) t v, Try.f12.params[j]? = some t → args[j]? = some v → Value.okWide Try.prog W .any base t v)
    (hW : DataW.Whole enc Try.prog Try.f12.params.toList Rows.filterListsSpec.vars false W args.toList ds gs before)
    (hsz : (DataW.weightsEach Try.prog (Try.f12.params.toList ++ Rows.filterListsSpec.plain.varTypes Try.prog) (ds ++ gs)).all (· ≤ reachBytes) = true) :
    Calls Try.prog 12 args W fun e W' => ∃ v, e = .returned v ∧ Rows.filterListsSpec.post enc Try.prog Try.f12 false true false false W args v W' := by
  have hW' := hW
  obtain ⟨p, q, hA0, hV, rfl, hfz, hnd⟩ := hW
  have hA : DataW.TrodAll enc Try.prog W 0 (fun _ => true) true Try.f12.params.toList args.toList ds p := hA0
  rw [Try.params12] at hA hval
  obtain ⟨v0, vs0, d0, ds0, p0, q0, hargs, rfl, rfl, h0, r0⟩ := trodAll_cons hA
  obtain ⟨v1, vs1, d1, ds1, p1, q1, rfl, rfl, rfl, h1, r1⟩ := trodAll_cons r0
  obtain ⟨v2, vs2, d2, ds2, p2, q2, rfl, rfl, rfl, h2, r2⟩ := trodAll_cons r1
  obtain ⟨rfl, rfl, rfl⟩ := trodAll_nil r2
  obtain rfl : args = #[v0, v1, v2] := by cases args; simp_all
  obtain ⟨rfl, rfl⟩ := trodVars_none hV
  obtain ⟨a0, is0, c0, len0⟩ := arg_recs (t := 32) (e := 36) (d := 4) (n := 5) (by kernel_rfl) (by kernel_rfl) (by kernel_rfl) (by omega) (hval 0 32 v0 rfl rfl) h0
  have z0 : a0.length ≤ 1000000000000000 := by
    have := len_of (j := 0) (t := 32) (e := 36) hsz (by rw [Try.params12]; rfl) rfl (by kernel_rfl) (of_decide_eq_true (by kernel_rfl)) len0
    have e1 : 1 ≤ Try.prog.bytesOf 36 := of_decide_eq_true (by kernel_rfl)
    have := Nat.mul_le_mul_left a0.length e1
    omega
  obtain ⟨a1, is1, c1, len1⟩ := arg_ints (t := 22) (e := 3) (d := 4) (by kernel_rfl) (by kernel_rfl) (by kernel_rfl) (hval 1 22 v1 rfl rfl) h1
  have z1 : a1.length ≤ 1000000000000000 := by
    have := len_of (j := 1) (t := 22) (e := 3) hsz (by rw [Try.params12]; rfl) rfl (by kernel_rfl) (of_decide_eq_true (by kernel_rfl)) len1
    have e1 : 1 ≤ Try.prog.bytesOf 3 := of_decide_eq_true (by kernel_rfl)
    have := Nat.mul_le_mul_left a1.length e1
    omega
  obtain ⟨g2, is2, c2⟩ := arg_agg (t := 34) (d := 6) (ks := List.replicate 2 (.i .i64)) (by kernel_rfl) (by kernel_rfl) (hval 2 34 v2 rfl rfl) h2
  obtain ⟨w2, rfl, y2, c2'⟩ := ints_of c2
  obtain ⟨a2_0, a2_1, rfl⟩ : ∃ a2_0 a2_1 : Int, w2 = [a2_0, a2_1] := by
    match w2, y2 with
    | [x0, x1], _ => exact ⟨x0, x1, rfl⟩
  have hlaw : L06_FilterLists a0 a1 a2_0 a2_1 = some true := filterLists_true a2_0 a2_1 (by omega) (by omega)
  refine (law_calls (ax := [.r (.recs 5 a0), .r (.ints .i64 a1), .s [.i .i64 a2_0, .i .i64 a2_1]]) L06_FilterLists_ok (.cons is0 (.cons is1 (.cons is2 .nil))) rfl rfl (ok_of hlaw) (val_of hlaw) Try.func12 rfl (by kernel_rfl) (fun _ _ h => by cases h)).mono fun e W' ⟨he, hb⟩ => ?_
  subst he
  exact ⟨_, rfl, law_post (tb := 4) rfl rfl (by kernel_rfl) rfl (by simp [Rows.filterListsSpec]) rfl (by kernel_rfl) (by rw [Try.params12]; intro t ht; simp only [List.mem_cons, List.not_mem_nil, or_false] at ht; rcases ht with rfl | rfl | rfl <;> exact ⟨by kernel_rfl, of_decide_eq_true (by kernel_rfl)⟩) hW' hb⟩

set_option maxRecDepth 100000 in
theorem lifted (os : Os) (started : os.Started) (H : Type) (enc : TypeId × Value → H) :
    ReturnsInHanded {} Try.checked os 12 .any (Rows.filterListsSpec.pre6 enc Try.prog Try.f12 Rows.filterListsRow.domain false) (Rows.filterListsSpec.post enc Try.prog Try.f12 false true false false) := by
  refine returnsInHanded_of_change_sized (C := Try.checked) (s := Rows.filterListsSpec) own started (by kernel_rfl) Try.func12
    (ChangeSpec.witness6 (enc := enc) (C := Try.checked) (s := Rows.filterListsSpec) false ⟨#[], #[.slice none 0 0, .slice none 0 0, .agg #[.int .i64 0, .int .i64 0]], []⟩ 8 (by kernel_rfl) (by kernel_rfl) (by kernel_rfl) (by kernel_rfl)) ?_
  intro W base args ds gs before hval hW _ hsz _
  exact contract H enc W base args ds gs before hval hW hsz

theorem over : Rows.filterListsRow.holds Try.pinned (OpenSpec.ofChange Rows.filterListsSpec) :=
  OpenClaim.holds_of_wide 12 Try.f12 rfl rfl rfl rfl rfl rfl rfl ⟨rfl, rfl, rfl, rfl, rfl⟩ rfl rfl rfl rfl rfl (by kernel_rfl) Try.func12 (by kernel_rfl)
    (of_decide_eq_true (by kernel_rfl)) (by unfold Func.isWrapper; first | (rw [if_pos (by decide +kernel)]; kernel_rfl) | (rw [if_neg (by decide +kernel)]; exact ⟨rfl, rfl⟩))
    (fun os started H enc _ => lifted os started H enc)

theorem proved : Rows.FilterListsSaid :=
  over
end Go.Proofs.Ytndhdojnlobloaa.filterLists
