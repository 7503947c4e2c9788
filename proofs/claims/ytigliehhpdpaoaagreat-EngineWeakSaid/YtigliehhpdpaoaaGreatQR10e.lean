/- The law EngineWeak returns true for every input, and leaves its arguments as they were: no condition. -/
import Derived.Test.YtigliehhpdpaoaaGreatPF
import Derived.Test.YtigliehhpdpaoaaGreatRows
import Derived.WalkKit
import Derived.ProofKit
import Derived.OpenShut
import Derived.SizedLaws
set_option maxRecDepth 100000
set_option linter.unusedSectionVars false
set_option linter.unusedSimpArgs false
set_option linter.unusedVariables false
section
namespace Go.Proofs.YtigliehhpdpaoaaGreat.engineWeak
open Go Go.Proofs Go.ChangeShapes Go.WideShapes Go.ChangeAt Go.RowKit Go.Sx Go.Sh
theorem own : ownKnob Tryz.prog.godebug = none := by kernel_rfl
set_option maxHeartbeats 1000000 in
theorem contract (H : Type) (enc : TypeId × Value → H) (W : World) (base : Nat) (args : Array Value) (ds gs : List (DataW H)) (before : List MemPlace)
  (hval : ∀ (j : Nat) t v, Tryz.f10.params[j]? = some t → args[j]? = some v → Value.okWide Tryz.prog W .any base t v)
  (hW : DataW.Whole enc Tryz.prog Tryz.f10.params.toList Rows.engineWeakSpec.vars false W args.toList ds gs before)
  (hsz : (DataW.weightsEach Tryz.prog (Tryz.f10.params.toList ++ Rows.engineWeakSpec.plain.varTypes Tryz.prog) (ds ++ gs)).all (·≤ reachBytes) = true) :
  Calls Tryz.prog 10 args W fun e W' => ∃ v, e = .returned v ∧ Rows.engineWeakSpec.post enc Tryz.prog Tryz.f10 false true false false W args v W' := by
 have hW' := hW
 obtain ⟨p, q, hA0, hV, rfl, hfz, hnd⟩ := hW
 have hA : DataW.TrodAll enc Tryz.prog W 0 (fun _ => true) true Tryz.f10.params.toList args.toList ds p := hA0
 rw [Tryz.params10] at hA hval
 obtain ⟨v0, vs0, d0, ds0, p0, q0, hargs, rfl, rfl, h0, r0⟩ := trodAll_cons hA
 obtain ⟨rfl, rfl, rfl⟩ := trodAll_nil r0
 obtain rfl : args = #[v0] := by cases args; simp_all
 obtain ⟨rfl, rfl⟩ := trodVars_none hV
 obtain ⟨vs0', rfl, hc0⟩ := jwv (t := 24) (d := 12) (ks := [.k (.d .s), .x jww]) (by kernel_rfl) (by kernel_rfl) (hval 0 24 v0 rfl rfl) h0
 rcases hc0 with _ | ⟨k0_0, rr0_0⟩
 rcases rr0_0 with _ | ⟨k0_1, rr0_1⟩
 cases rr0_1
 obtain ⟨t0, k0_0⟩ : ∃ t, Cell2 W (.d .s) _ t := by
  cases k0_0 with
  | k _ _ t h => exact ⟨t, h⟩
 obtain ⟨a0, e0, b0⟩ := js7 k0_0
 obtain ⟨a1, e1⟩ := jwx k0_1
 have hlaw : jbG a0 a1 = some true := joH _ _
 refine (jwt (ts := [.a [.d (.s a0), .xl (.st jff a1)]]) (ls := [.d (.s a0), .x (.st jff a1)]) (am := [.o 0]) jlZ (.cons (.a (.cons e0 (.cons e1 .nil))) .nil) (by kernel_rfl) rfl (jf2 hlaw) (jn4 hlaw) Tryz.func10 rfl (by kernel_rfl) ⟨(fun _ _ h => by cases h), jpF (fun _ => rfl) _ _⟩).mono fun e W' ⟨he, hb⟩ => ?_
 subst he
 exact ⟨_, rfl, jzy (tb := 4) rfl rfl (by kernel_rfl) rfl (by simp [Rows.engineWeakSpec]) rfl (by kernel_rfl) (by rw [Tryz.params10]; intro t ht; simp only [List.mem_cons, List.not_mem_nil, or_false] at ht; rcases ht with rfl; exact ⟨by kernel_rfl, of_decide_eq_true (by kernel_rfl)⟩) hW' hb⟩
theorem lifted (os : Os) (started : os.Started) (H : Type) (enc : TypeId × Value → H) :
  ReturnsInHanded {} Tryz.checked os 10 .any (Rows.engineWeakSpec.pre6 enc Tryz.prog Tryz.f10 Rows.engineWeakRow.domain false) (Rows.engineWeakSpec.post enc Tryz.prog Tryz.f10 false true false false) := by
 refine returnsInHanded_of_change_sized (C := Tryz.checked) (s := Rows.engineWeakSpec) own started (by kernel_rfl) Tryz.func10
  (ChangeSpec.witness6 (enc := enc) (C := Tryz.checked) (s := Rows.engineWeakSpec) false ⟨#[], #[.agg #[.string ByteArray.empty, .slice none 0 0]], []⟩ 8 (by kernel_rfl) (by kernel_rfl) (by kernel_rfl) (by kernel_rfl)) ?_
 intro W base args ds gs before hval hW _ hsz _
 exact contract H enc W base args ds gs before hval hW hsz
theorem over : Rows.engineWeakRow.holds Tryz.pinned (OpenSpec.ofChange Rows.engineWeakSpec) :=
 OpenClaim.holds_of_wide 10 Tryz.f10 rfl rfl rfl rfl rfl rfl rfl ⟨rfl, rfl, rfl, rfl, rfl⟩ rfl rfl rfl rfl rfl (by kernel_rfl) Tryz.func10 (by kernel_rfl)
  (of_decide_eq_true (by kernel_rfl)) (by unfold Func.isWrapper; first | (rw [if_pos (by decide +kernel)]; kernel_rfl) | (rw [if_neg (by decide +kernel)]; exact ⟨rfl, rfl⟩))
  (fun os started H enc _ => lifted os started H enc)
theorem proved : Rows.EngineWeakSaid :=
 over
end Go.Proofs.YtigliehhpdpaoaaGreat.engineWeak
end
