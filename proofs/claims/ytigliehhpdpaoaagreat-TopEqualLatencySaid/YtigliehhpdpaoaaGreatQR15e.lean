/- The law TopEqualLatency returns true for every input, and leaves its arguments as they were: no condition. -/
import Derived.Test.YtigliehhpdpaoaaGreatPG
import Derived.Test.YtigliehhpdpaoaaGreatRows
import Derived.WalkKit
import Derived.ProofKit
import Derived.OpenShut
import Derived.SizedLaws
set_option maxRecDepth 100000
set_option linter.unusedSectionVars false
set_option linter.unusedSimpArgs false
set_option linter.unusedVariables false
section
namespace Go.Proofs.YtigliehhpdpaoaaGreat.topEqualLatency
open Go Go.Proofs Go.ChangeShapes Go.WideShapes Go.ChangeAt Go.RowKit Go.Sx Go.Sh
theorem own : ownKnob Tryz.prog.godebug = none := by kernel_rfl
set_option maxHeartbeats 1000000 in
theorem contract (H : Type) (enc : TypeId × Value → H) (W : World) (base : Nat) (args : Array Value) (ds gs : List (DataW H)) (before : List MemPlace)
  (hval : ∀ (j : Nat) t v, Tryz.f15.params[j]? = some t → args[j]? = some v → Value.okWide Tryz.prog W .any base t v)
  (hW : DataW.Whole enc Tryz.prog Tryz.f15.params.toList Rows.topEqualLatencySpec.vars false W args.toList ds gs before)
  (hsz : (DataW.weightsEach Tryz.prog (Tryz.f15.params.toList ++ Rows.topEqualLatencySpec.plain.varTypes Tryz.prog) (ds ++ gs)).all (·≤ reachBytes) = true) :
  Calls Tryz.prog 15 args W fun e W' => ∃ v, e = .returned v ∧ Rows.topEqualLatencySpec.post enc Tryz.prog Tryz.f15 false true false false W args v W' := by
 have hW' := hW
 obtain ⟨p, q, hA0, hV, rfl, hfz, hnd⟩ := hW
 have hA : DataW.TrodAll enc Tryz.prog W 0 (fun _ => true) true Tryz.f15.params.toList args.toList ds p := hA0
 rw [Tryz.params15] at hA hval
 obtain ⟨v0, vs0, d0, ds0, p0, q0, hargs, rfl, rfl, h0, r0⟩ := trodAll_cons hA
 obtain ⟨v1, vs1, d1, ds1, p1, q1, rfl, rfl, rfl, h1, r1⟩ := trodAll_cons r0
 obtain ⟨rfl, rfl, rfl⟩ := trodAll_nil r1
 obtain rfl : args = #[v0, v1] := by cases args; simp_all
 obtain ⟨rfl, rfl⟩ := trodVars_none hV
 obtain ⟨vs0', rfl, hc0⟩ := jCk (t := 24) (d := 12) (ks := [.k (.d .s), .x jCl]) (by kernel_rfl) (by kernel_rfl) (hval 0 24 v0 rfl rfl) h0
 rcases hc0 with _ | ⟨k0_0, rr0_0⟩
 rcases rr0_0 with _ | ⟨k0_1, rr0_1⟩
 cases rr0_1
 obtain ⟨t0, k0_0⟩ : ∃ t, Cell2 W (.d .s) _ t := by
  cases k0_0 with
  | k _ _ t h => exact ⟨t, h⟩
 obtain ⟨a0, e0, b0⟩ := jyw k0_0
 obtain ⟨u0, e0'⟩ := jCm k0_1
 obtain ⟨a1, is1, c1⟩ := jHv (t := 3) (by kernel_rfl) (hval 1 3 v1 rfl rfl) h1
 have hlaw : y45 a0 u0 a1 = some true := jlo _ _ _
 refine (jCi (ts := [.a [.d (.s a0), .xl (.st jfA u0)], .c (.d (.i .i64 a1))]) (ls := [.d (.s a0), .x (.st jfA u0), .d (.i .i64 a1)]) (am := [.o 0]) jln (.cons (.a (.cons e0 (.cons e0' .nil))) (.cons (.c (t1_d is1)) .nil)) (by kernel_rfl) rfl (jGz hlaw) (jrG hlaw) Tryz.func15 rfl (by kernel_rfl) ⟨(fun _ _ h => by cases h), jl6 (fun _ => rfl) _ _⟩).mono fun e W' ⟨he, hb⟩ => ?_
 subst he
 exact ⟨_, rfl, jGp (tb := 4) rfl rfl (by kernel_rfl) rfl (by simp [Rows.topEqualLatencySpec]) rfl (by kernel_rfl) (by rw [Tryz.params15]; intro t ht; simp only [List.mem_cons, List.not_mem_nil, or_false] at ht; rcases ht with rfl | rfl <;> exact ⟨by kernel_rfl, of_decide_eq_true (by kernel_rfl)⟩) hW' hb⟩
theorem lifted (os : Os) (started : os.Started) (H : Type) (enc : TypeId × Value → H) :
  ReturnsInHanded {} Tryz.checked os 15 .any (Rows.topEqualLatencySpec.pre6 enc Tryz.prog Tryz.f15 Rows.topEqualLatencyRow.domain false) (Rows.topEqualLatencySpec.post enc Tryz.prog Tryz.f15 false true false false) := by
 refine returnsInHanded_of_change_sized (C := Tryz.checked) (s := Rows.topEqualLatencySpec) own started (by kernel_rfl) Tryz.func15
  (ChangeSpec.witness6 (enc := enc) (C := Tryz.checked) (s := Rows.topEqualLatencySpec) false ⟨#[], #[.agg #[.string ByteArray.empty, .slice none 0 0], .int .i64 0], []⟩ 8 (by kernel_rfl) (by kernel_rfl) (by kernel_rfl) (by kernel_rfl)) ?_
 intro W base args ds gs before hval hW _ hsz _
 exact contract H enc W base args ds gs before hval hW hsz
theorem over : Rows.topEqualLatencyRow.holds Tryz.pinned (OpenSpec.ofChange Rows.topEqualLatencySpec) :=
 OpenClaim.holds_of_wide 15 Tryz.f15 rfl rfl rfl rfl rfl rfl rfl ⟨rfl, rfl, rfl, rfl, rfl⟩ rfl rfl rfl rfl rfl (by kernel_rfl) Tryz.func15 (by kernel_rfl)
  (of_decide_eq_true (by kernel_rfl)) (by unfold Func.isWrapper; first | (rw [if_pos (by decide +kernel)]; kernel_rfl) | (rw [if_neg (by decide +kernel)]; exact ⟨rfl, rfl⟩))
  (fun os started H enc _ => lifted os started H enc)
theorem proved : Rows.TopEqualLatencySaid :=
 over
end Go.Proofs.YtigliehhpdpaoaaGreat.topEqualLatency
end
