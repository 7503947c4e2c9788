/- The law EngineBlocks returns true for every input, and leaves its arguments as they were: no condition. -/
import Derived.Test.YtigliehhpdpaoaaGreatPF
import Derived.Test.YtigliehhpdpaoaaGreatRows
import Derived.WalkKit
import Derived.ProofKit
import Derived.OpenShut
import Derived.SizedLaws
set_option maxRecDepth 100000
set_option linter.unusedSectionVars false
set_option linter.unusedSimpArgs false
set_option linter.unusedVariables false
section
namespace Go.Proofs.YtigliehhpdpaoaaGreat.engineBlocks
open Go Go.Proofs Go.ChangeShapes Go.WideShapes Go.ChangeAt Go.RowKit Go.Sx Go.Sh
theorem own : ownKnob Tryz.prog.godebug = none := by kernel_rfl
set_option maxHeartbeats 1000000 in
theorem contract (H : Type) (enc : TypeId × Value → H) (W : World) (base : Nat) (args : Array Value) (ds gs : List (DataW H)) (before : List MemPlace)
  (hval : ∀ (j : Nat) t v, Tryz.f14.params[j]? = some t → args[j]? = some v → Value.okWide Tryz.prog W .any base t v)
  (hW : DataW.Whole enc Tryz.prog Tryz.f14.params.toList Rows.engineBlocksSpec.vars false W args.toList ds gs before)
  (hsz : (DataW.weightsEach Tryz.prog (Tryz.f14.params.toList ++ Rows.engineBlocksSpec.plain.varTypes Tryz.prog) (ds ++ gs)).all (·≤ reachBytes) = true) :
  Calls Tryz.prog 14 args W fun e W' => ∃ v, e = .returned v ∧ Rows.engineBlocksSpec.post enc Tryz.prog Tryz.f14 false true false false W args v W' := by
 have hW' := hW
 obtain ⟨p, q, hA0, hV, rfl, hfz, hnd⟩ := hW
 have hA : DataW.TrodAll enc Tryz.prog W 0 (fun _ => true) true Tryz.f14.params.toList args.toList ds p := hA0
 rw [Tryz.params14] at hA hval
 obtain ⟨v0, vs0, d0, ds0, p0, q0, hargs, rfl, rfl, h0, r0⟩ := trodAll_cons hA
 obtain ⟨v1, vs1, d1, ds1, p1, q1, rfl, rfl, rfl, h1, r1⟩ := trodAll_cons r0
 obtain ⟨v2, vs2, d2, ds2, p2, q2, rfl, rfl, rfl, h2, r2⟩ := trodAll_cons r1
 obtain ⟨rfl, rfl, rfl⟩ := trodAll_nil r2
 obtain rfl : args = #[v0, v1, v2] := by cases args; simp_all
 obtain ⟨rfl, rfl⟩ := trodVars_none hV
 obtain ⟨vs0', rfl, hc0⟩ := jy1 (t := 24) (d := 12) (ks := [.k (.d .s), .x jy2]) (by kernel_rfl) (by kernel_rfl) (hval 0 24 v0 rfl rfl) h0
 rcases hc0 with _ | ⟨k0_0, rr0_0⟩
 rcases rr0_0 with _ | ⟨k0_1, rr0_1⟩
 cases rr0_1
 obtain ⟨t0, k0_0⟩ : ∃ t, Cell2 W (.d .s) _ t := by
  cases k0_0 with
  | k _ _ t h => exact ⟨t, h⟩
 obtain ⟨a0, e0, b0⟩ := jvU k0_0
 obtain ⟨u0, e0'⟩ := jy3 k0_1
 obtain ⟨a1, e1, b1⟩ := jCc (t := 98) (e := 79) (d := 5) (by kernel_rfl) (by kernel_rfl) (by kernel_rfl) (hval 1 98 v1 rfl rfl) h1
 obtain ⟨a2, is2, c2, len2⟩ := jB4 (t := 63) (e := 153) (d := 4) (n := 2) (by kernel_rfl) (by kernel_rfl) (by kernel_rfl) (by omega) (hval 2 63 v2 rfl rfl) h2
 have z2 : a2.length ≤ 1000000000000000 := by
  have := jEp (j := 2) (t := 63) (e := 153) hsz (by rw [Tryz.params14]; rfl) rfl (by kernel_rfl) (of_decide_eq_true (by kernel_rfl)) len2
  have e1 : 1 ≤ Tryz.prog.bytesOf 153 := of_decide_eq_true (by kernel_rfl)
  have := Nat.mul_le_mul_left a2.length e1
  omega
 have hlaw : jbj a0 u0 a1 a2 = some true := jnm _ _ b1 _
 refine (jyZ (ts := [.a [.d (.s a0), .xl (.st jfl u0)], .c (.xl (.bb .f32 32 a1)), .c (.r (.recs 2 a2))]) (ls := [.d (.s a0), .x (.st jfl u0), .x (.bb .f32 32 a1), .r (.recs 2 a2)]) (am := [.o 0, .o 1, .o 2]) jkK (.cons (.a (.cons e0 (.cons e0' .nil))) (.cons (.c e1) (.cons (.c (t1_of is2)) .nil))) (by kernel_rfl) rfl (jCi hlaw) (jpN hlaw) Tryz.func14 rfl (by kernel_rfl) ⟨(fun _ _ h => by cases h), jkL (fun _ => rfl) _ _⟩).mono fun e W' ⟨he, hb⟩ => ?_
 subst he
 exact ⟨_, rfl, jB3 (tb := 4) rfl rfl (by kernel_rfl) rfl (by simp [Rows.engineBlocksSpec]) rfl (by kernel_rfl) (by rw [Tryz.params14]; intro t ht; simp only [List.mem_cons, List.not_mem_nil, or_false] at ht; rcases ht with rfl | rfl | rfl <;> exact ⟨by kernel_rfl, of_decide_eq_true (by kernel_rfl)⟩) hW' hb⟩
theorem lifted (os : Os) (started : os.Started) (H : Type) (enc : TypeId × Value → H) :
  ReturnsInHanded {} Tryz.checked os 14 .any (Rows.engineBlocksSpec.pre6 enc Tryz.prog Tryz.f14 Rows.engineBlocksRow.domain false) (Rows.engineBlocksSpec.post enc Tryz.prog Tryz.f14 false true false false) := by
 refine returnsInHanded_of_change_sized (C := Tryz.checked) (s := Rows.engineBlocksSpec) own started (by kernel_rfl) Tryz.func14
  (ChangeSpec.witness6 (enc := enc) (C := Tryz.checked) (s := Rows.engineBlocksSpec) false ⟨#[], #[.agg #[.string ByteArray.empty, .slice none 0 0], .slice none 0 0, .slice none 0 0], []⟩ 8 (by kernel_rfl) (by kernel_rfl) (by kernel_rfl) (by kernel_rfl)) ?_
 intro W base args ds gs before hval hW _ hsz _
 exact contract H enc W base args ds gs before hval hW hsz
theorem over : Rows.engineBlocksRow.holds Tryz.pinned (OpenSpec.ofChange Rows.engineBlocksSpec) :=
 OpenClaim.holds_of_wide 14 Tryz.f14 rfl rfl rfl rfl rfl rfl rfl ⟨rfl, rfl, rfl, rfl, rfl⟩ rfl rfl rfl rfl rfl (by kernel_rfl) Tryz.func14 (by kernel_rfl)
  (of_decide_eq_true (by kernel_rfl)) (by unfold Func.isWrapper; first | (rw [if_pos (by decide +kernel)]; kernel_rfl) | (rw [if_neg (by decide +kernel)]; exact ⟨rfl, rfl⟩))
  (fun os started H enc _ => lifted os started H enc)
theorem proved : Rows.EngineBlocksSaid :=
 over
end Go.Proofs.YtigliehhpdpaoaaGreat.engineBlocks
end
