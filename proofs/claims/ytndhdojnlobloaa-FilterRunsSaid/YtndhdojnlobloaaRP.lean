/- The law FilterRuns returns true for every input, and leaves its arguments as they were: no condition. -/
import Derived.Test.YtndhdojnlobloaaLawA
import Derived.Test.YtndhdojnlobloaaFs
import Derived.Test.YtndhdojnlobloaaRows
import Derived.WalkKit
import Derived.ProofKit
import Derived.OpenShut
import Derived.SizedLaws
set_option linter.unusedSectionVars false
set_option linter.unusedSimpArgs false
set_option linter.unusedVariables false
namespace Go.Proofs.Ytndhdojnlobloaa.filterRuns
open Go Go.Proofs Go.ChangeShapes Go.WideShapes Go.ChangeAt Go.RowKit Go.Sx Go.Sh
set_option linter.unusedVariables false

theorem own : ownKnob Try.prog.godebug = none := by kernel_rfl

set_option maxRecDepth 100000 in
set_option maxHeartbeats 1000000 in
theorem contract (H : Type) (enc : TypeId × Value → H) (W : World) (base : Nat) (args : Array Value) (ds gs : List (DataW H)) (before : List MemPlace)
    (hval : ∀ (j : Nat) t v, Try.f13.params[j]? = some t → args[j]? = some v → Value.okWide Try.prog W .any base t v)
    (hW : DataW.Whole enc Try.prog Try.f13.params.toList Rows.filterRunsSpec.vars false W args.toList ds gs before)
    (hsz : (DataW.weightsEach Try.prog (Try.f13.params.toList ++ Rows.filterRunsSpec.plain.varTypes Try.prog) (ds ++ gs)).all (· ≤ reachBytes) = true) :
    Calls Try.prog 13 args W fun e W' => ∃ v, e = .returned v ∧ Rows.filterRunsSpec.post enc Try.prog Try.f13 false true false false W args v W' := by
  have hW' := hW
  obtain ⟨p, q, hA0, hV, rfl, hfz, hnd⟩ := hW
  have hA : DataW.TrodAll enc Try.prog W 0 (fun _ => true) true Try.f13.params.toList args.toList ds p := hA0
  rw [Try.params13] at hA hval
  obtain ⟨v0, vs0, d0, ds0, p0, q0, hargs, rfl, rfl, h0, r0⟩ := trodAll_cons hA
  obtain ⟨v1, vs1, d1, ds1, p1, q1, rfl, rfl, rfl, h1, r1⟩ := trodAll_cons r0
  obtain ⟨v2, vs2, d2, ds2, p2, q2, rfl, rfl, rfl, h2, r2⟩ := trodAll_cons r1
  obtain ⟨rfl, rfl, rfl⟩ := trodAll_nil r2
  obtain rfl : args = #[v0, v1, v2] := by cases args; simp_all
  obtain ⟨rfl, rfl⟩ := trodVars_none hV
  obtain ⟨a0, is0, c0, len0⟩ := arg_recs (t := 32) (e := 36) (d := 4) (n := 5) (by kernel_rfl) (by kernel_rfl) (by kernel_rfl) (by omega) (hval 0 32 v0 rfl rfl) h0
  have z0 : a0.length ≤ 1000000000000000 := by
    have := len_of (j := 0) (t := 32) (e := 36) hsz (by rw [Try.params13]; rfl) rfl (by kernel_rfl) (of_decide_eq_true (by kernel_rfl)) len0
    have e1 : 1 ≤ Try.prog.bytesOf 36 := of_decide_eq_true (by kernel_rfl)
    have := Nat.mul_le_mul_left a0.length e1
    omega
  obtain ⟨a1, is1, c1, len1⟩ := arg_ints (t := 22) (e := 3) (d := 4) (by kernel_rfl) (by kernel_rfl) (by kernel_rfl) (hval 1 22 v1 rfl rfl) h1
  have z1 : a1.length ≤ 1000000000000000 := by
    have := len_of (j := 1) (t := 22) (e := 3) hsz (by rw [Try.params13]; rfl) rfl (by kernel_rfl) (of_decide_eq_true (by kernel_rfl)) len1
    have e1 : 1 ≤ Try.prog.bytesOf 3 := of_decide_eq_true (by kernel_rfl)
    have := Nat.mul_le_mul_left a1.length e1
    omega
  obtain ⟨vs2', ts2, rfl, hc2⟩ := arg_cells2 (t := 120) (d := 6) (ks := [.s (List.replicate 4 (.i .i64)), .s [.f .f32]]) (by kernel_rfl) (by kernel_rfl) (hval 2 120 v2 rfl rfl) h2
  rcases hc2 with _ | ⟨k2_0, rr2_0⟩
  rcases rr2_0 with _ | ⟨k2_1, rr2_1⟩
  cases rr2_1
  obtain ⟨a2_0, e2_0, b2_0⟩ := cell_recs k2_0
  obtain ⟨a2_1, e2_1, b2_1⟩ := cell_flts k2_1
  have hlaw : L06_FilterRuns a0 a1 a2_0 a2_1 = some true := filterRuns_true (by omega)
  refine (law_callsT (ts := [.c (.r (.recs 5 a0)), .c (.r (.ints .i64 a1)), .a [.r (.recs 4 a2_0), .r (.floats .f32 a2_1)]]) (ls := [.r (.recs 5 a0), .r (.ints .i64 a1), .r (.recs 4 a2_0), .r (.floats .f32 a2_1)]) (am := [.o 0, .o 1, .o 2, .o 3]) L06_FilterRuns_ok (.cons (.c (t1_of is0)) (.cons (.c (t1_of is1)) (.cons (.a (.cons e2_0 (.cons e2_1 .nil))) .nil))) (by kernel_rfl) rfl (ok_of hlaw) (val_of hlaw) Try.func13 rfl (by kernel_rfl) (fun _ _ h => by cases h)).mono fun e W' ⟨he, hb⟩ => ?_
  subst he
  exact ⟨_, rfl, law_post (tb := 4) rfl rfl (by kernel_rfl) rfl (by simp [Rows.filterRunsSpec]) rfl (by kernel_rfl) (by rw [Try.params13]; intro t ht; simp only [List.mem_cons, List.not_mem_nil, or_false] at ht; rcases ht with rfl | rfl | rfl <;> exact ⟨by kernel_rfl, of_decide_eq_true (by kernel_rfl)⟩) hW' hb⟩

set_option maxRecDepth 100000 in
theorem lifted (os : Os) (started : os.Started) (H : Type) (enc : TypeId × Value → H) :
    ReturnsInHanded {} Try.checked os 13 .any (Rows.filterRunsSpec.pre6 enc Try.prog Try.f13 Rows.filterRunsRow.domain false) (Rows.filterRunsSpec.post enc Try.prog Try.f13 false true false false) := by
  refine returnsInHanded_of_change_sized (C := Try.checked) (s := Rows.filterRunsSpec) own started (by kernel_rfl) Try.func13
    (ChangeSpec.witness6 (enc := enc) (C := Try.checked) (s := Rows.filterRunsSpec) false ⟨#[], #[.slice none 0 0, .slice none 0 0, .agg #[.slice none 0 0, .slice none 0 0]], []⟩ 8 (by kernel_rfl) (by kernel_rfl) (by kernel_rfl) (by kernel_rfl)) ?_
  intro W base args ds gs before hval hW _ hsz _
  exact contract H enc W base args ds gs before hval hW hsz

theorem over : Rows.filterRunsRow.holds Try.pinned (OpenSpec.ofChange Rows.filterRunsSpec) :=
  OpenClaim.holds_of_wide 13 Try.f13 rfl rfl rfl rfl rfl rfl rfl ⟨rfl, rfl, rfl, rfl, rfl⟩ rfl rfl rfl rfl rfl (by kernel_rfl) Try.func13 (by kernel_rfl)
    (of_decide_eq_true (by kernel_rfl)) (by unfold Func.isWrapper; first | (rw [if_pos (by decide +kernel)]; kernel_rfl) | (rw [if_neg (by decide +kernel)]; exact ⟨rfl, rfl⟩))
    (fun os started H enc _ => lifted os started H enc)

theorem proved : Rows.FilterRunsSaid :=
  over
end Go.Proofs.Ytndhdojnlobloaa.filterRuns
