/- The law FigureSheetsCard returns true for every input, and leaves its arguments as they were: no condition. -/
import Derived.Test.YtcklfboglnfepaaGreatDoorPF
import Derived.Test.YtcklfboglnfepaaGreatDoorRows
import Derived.Test.YtcklfboglnfepaaGreatDoorCards
import Derived.Test.YtcklfboglnfepaaGreatDoorTie
import Derived.SevenTiedAt
import Derived.WalkKit
import Derived.ProofKit
import Derived.OpenShut
import Derived.SizedLaws
import Derived.Lay
import Derived.ChangeMaps5
set_option maxRecDepth 100000
set_option linter.unusedSectionVars false
set_option linter.unusedSimpArgs false
set_option linter.unusedVariables false
section
namespace Go.Proofs.YtcklfboglnfepaaGreatDoor.figureSheets
open Go Go.Proofs Go.ChangeShapes Go.WideShapes Go.ChangeAt Go.RowKit Go.Sx Go.Sh
theorem own : ownKnob Tryz.prog.godebug = none := by kernel_rfl
set_option maxHeartbeats 1000000 in
theorem contract (H : Type) (enc : TypeId × Value → H) (W : World) (base : Nat) (args : Array Value) (ds gs : List (DataW H)) (before : List MemPlace)
  (hval : ∀ (j : Nat) t v, Tryz.f13.params[j]? = some t → args[j]? = some v → Value.okWide Tryz.prog W .any base t v)
  (hW : DataW.Whole enc Tryz.prog Tryz.f13.params.toList Rows.figureSheetsSpec.vars false W args.toList ds gs before)
  (hsz : (DataW.weightsEach Tryz.prog (Tryz.f13.params.toList ++ Rows.figureSheetsSpec.plain.varTypes Tryz.prog) (ds ++ gs)).all (·≤ reachBytes) = true) (hL : laidMetH Tryz.prog Rows.figureSheetsRow.laid W) (hS : W.ShapedOpen Tryz.prog) :
  Calls Tryz.prog 13 args W fun e W' => ∃ v, e = .returned v ∧ Rows.figureSheetsSpec.post enc Tryz.prog Tryz.f13 false true false false W args v W' := by
 have hW' := hW
 obtain ⟨p, q, hA0, hV, rfl, hfz, hnd⟩ := hW
 have hA : DataW.TrodAll enc Tryz.prog W 0 (fun _ => true) true Tryz.f13.params.toList args.toList ds p := hA0
 rw [Tryz.params13] at hA hval
 obtain ⟨v0, vs0, d0, ds0, p0, q0, hargs, rfl, rfl, h0, r0⟩ := trodAll_cons hA
 obtain ⟨rfl, rfl, rfl⟩ := trodAll_nil r0
 obtain rfl : args = #[v0] := by cases args; simp_all
 obtain ⟨rfl, rfl⟩ := trodVars_none hV
 obtain ⟨vs0', ts0, rfl, hc0⟩ := jvx (t := 26) (d := 6) (ks := [.d (.i .i64), .s [.f .f32], .d (.i .i64), .d (.i .i64)]) (by kernel_rfl) (by kernel_rfl) (hval 0 26 v0 rfl rfl) h0
 rcases hc0 with _ | ⟨k0_0, rr0_0⟩
 rcases rr0_0 with _ | ⟨k0_1, rr0_1⟩
 rcases rr0_1 with _ | ⟨k0_2, rr0_2⟩
 rcases rr0_2 with _ | ⟨k0_3, rr0_3⟩
 cases rr0_3
 obtain ⟨a0_0, e0_0, b0_0⟩ := jmT k0_0
 obtain ⟨a0_1, e0_1, b0_1⟩ := jwR k0_1
 obtain ⟨a0_2, e0_2, b0_2⟩ := jmT k0_2
 obtain ⟨a0_3, e0_3, b0_3⟩ := jmT k0_3
 have hlaw : jbM a0_0 a0_1 a0_2 a0_3 = some true := jlA _ _ _
 refine (jvy (ts := [.a [.d (.i .i64 a0_0), .r (.floats .f32 a0_1), .d (.i .i64 a0_2), .d (.i .i64 a0_3)]]) (ls := [.d (.i .i64 a0_0), .r (.floats .f32 a0_1), .d (.i .i64 a0_2), .d (.i .i64 a0_3)]) (am := [.o 0]) jjm (.cons (.a (.cons e0_0 (.cons e0_1 (.cons e0_2 (.cons e0_3 .nil))))) .nil) (by kernel_rfl) rfl (ok_of hlaw) (jAa hlaw) Tryz.func13 rfl (by kernel_rfl) (jy6 (by kernel_rfl) (fun x hx => by simp only [List.mem_cons, List.not_mem_nil, or_false] at hx; rcases hx with rfl | rfl | rfl | rfl | rfl | rfl | rfl <;> simp [Rows.figureSheetsRow]) hL hS)).mono fun e W' ⟨he, hb⟩ => ?_
 subst he
 exact ⟨_, rfl, jy2 (tb := 4) rfl rfl (by kernel_rfl) rfl (by simp [Rows.figureSheetsSpec]) rfl (by kernel_rfl) (by rw [Tryz.params13]; intro t ht; simp only [List.mem_cons, List.not_mem_nil, or_false] at ht; rcases ht with rfl <;> exact ⟨by kernel_rfl, of_decide_eq_true (by kernel_rfl)⟩) hW' hb⟩
theorem door_met (os : Os) (args : Array Value) : laidMetH Tryz.prog Rows.figureSheetsRow.laid ((World.laidAll Tryz.prog os Rows.figureSheetsRow.laid).forCall (fun _ _ => 0) ⟨#[], args, []⟩).memory := by
 rw [MakeChecks.laidMetH_plain _ _ _ (by kernel_rfl)]
 exact laidMet_laidAll _ (by kernel_rfl) (by kernel_rfl)
theorem lifted (os : Os) (started : os.Started) (H : Type) (enc : TypeId × Value → H) :
  ReturnsInHanded {} Tryz.checked os 13 .any (fun w args => (Rows.figureSheetsSpec.pre enc Tryz.prog Tryz.f13 [] false w args ∧ laidMetH Tryz.prog Rows.figureSheetsRow.laid w) ∧ sizedMet enc Tryz.prog Tryz.f13 (OpenSpec.ofChange Rows.figureSheetsSpec) false w args)
   (Rows.figureSheetsSpec.post enc Tryz.prog Tryz.f13 false true false false) := by
 refine jlB (C := Tryz.checked) (X := fun w _ => laidMetH Tryz.prog Rows.figureSheetsRow.laid w) (fun _ _ _ hh h => h.of_heap hh) own started (by kernel_rfl) Tryz.func13
  (ChangeSpec.witness_shaped (enc := enc) (C := Tryz.checked) (os := os) (X := fun w _ => laidMetH Tryz.prog Rows.figureSheetsRow.laid w) false (World.laidAll Tryz.prog os Rows.figureSheetsRow.laid) #[.agg #[.int .i64 0, .slice none 0 0, .int .i64 0, .int .i64 0]] 8 (World.laidAll_os _ _ _) (World.shaped_of_ZipB (by kernel_rfl) (by kernel_rfl)) (by kernel_rfl) (by kernel_rfl) (by kernel_rfl) (door_met os _)) ?_
 intro W base args ds gs before hval hW hsz hL hS
 exact contract H enc W base args ds gs before hval hW hsz hL hS
theorem over : Rows.FigureSheetsSaid :=
 OpenClaim.holds_of_wide 13 Tryz.f13 rfl rfl rfl rfl rfl rfl rfl ⟨rfl, rfl, rfl, rfl, rfl⟩ rfl rfl rfl rfl rfl (by kernel_rfl) Tryz.func13 (by kernel_rfl)
  (of_decide_eq_true (by kernel_rfl)) (by unfold Func.isWrapper; first | (rw [if_pos (by decide +kernel)]; kernel_rfl) | (rw [if_neg (by decide +kernel)]; exact ⟨rfl, rfl⟩))
  (fun os started H enc _ => lifted os started H enc)
theorem proved : Rows.FigureSheetsCardSaid :=
 Claim7.holds_tied_plain_at .later [] Rows.figureSheetsCard.laidKinds true Rows.figureSheetsCard.stood.harness true
  over (fun _ h => by cases h) (by kernel_rfl) (fun _ h => by cases h) figureSheets_row_tie rfl ⟨rfl, rfl⟩ (by kernel_rfl) rfl
  (fun f fn hf hfn => by
   obtain rfl : f = 13 := Option.some.inj ((show Tryz.prog.funcNamed Rows.figureSheetsRow.func = some 13 by kernel_rfl).symm.trans hf) |>.symm
   obtain rfl : fn = Tryz.f13 := (Option.some.inj (Tryz.func13.symm.trans hfn)).symm
   exact ⟨by kernel_rfl, fun j t ht => by
    rw [Tryz.params13] at ht
    have hm : t ∈ [26] := by simpa using Array.mem_of_getElem? ht
    have hall : ([26].all fun u => !Tryz.prog.wantsStandIn u) = true := by kernel_rfl
    exact (show Tryz.prog.wantsStandIn t = false by simpa using List.all_eq_true.1 hall t hm)⟩)
  (by kernel_rfl)
end Go.Proofs.YtcklfboglnfepaaGreatDoor.figureSheets
end
