/- The law FigureComparesCard returns true for every input, and leaves its arguments as they were: no condition. -/
import Derived.Test.YtcklfboglnfepaaGreatDoorPF
import Derived.Test.YtcklfboglnfepaaGreatDoorRows
import Derived.Test.YtcklfboglnfepaaGreatDoorCards
import Derived.Test.YtcklfboglnfepaaGreatDoorTie
import Derived.SevenTiedAt
import Derived.WalkKit
import Derived.ProofKit
import Derived.OpenShut
import Derived.SizedLaws
set_option maxRecDepth 100000
set_option linter.unusedSectionVars false
set_option linter.unusedSimpArgs false
set_option linter.unusedVariables false
section
namespace Go.Proofs.YtcklfboglnfepaaGreatDoor.figureCompares
open Go Go.Proofs Go.ChangeShapes Go.WideShapes Go.ChangeAt Go.RowKit Go.Sx Go.Sh
theorem own : ownKnob Tryz.prog.godebug = none := by kernel_rfl
set_option maxHeartbeats 1000000 in
theorem contract (H : Type) (enc : TypeId × Value → H) (W : World) (base : Nat) (args : Array Value) (ds gs : List (DataW H)) (before : List MemPlace)
  (hval : ∀ (j : Nat) t v, Tryz.f12.params[j]? = some t → args[j]? = some v → Value.okWide Tryz.prog W .any base t v)
  (hW : DataW.Whole enc Tryz.prog Tryz.f12.params.toList Rows.figureComparesSpec.vars false W args.toList ds gs before)
  (hsz : (DataW.weightsEach Tryz.prog (Tryz.f12.params.toList ++ Rows.figureComparesSpec.plain.varTypes Tryz.prog) (ds ++ gs)).all (·≤ reachBytes) = true) (hL : laidMetH Tryz.prog Rows.figureComparesRow.laid W) :
  Calls Tryz.prog 12 args W fun e W' => ∃ v, e = .returned v ∧ Rows.figureComparesSpec.post enc Tryz.prog Tryz.f12 false true false false W args v W' := by
 have hW' := hW
 obtain ⟨p, q, hA0, hV, rfl, hfz, hnd⟩ := hW
 have hA : DataW.TrodAll enc Tryz.prog W 0 (fun _ => true) true Tryz.f12.params.toList args.toList ds p := hA0
 rw [Tryz.params12] at hA hval
 obtain ⟨v0, vs0, d0, ds0, p0, q0, hargs, rfl, rfl, h0, r0⟩ := trodAll_cons hA
 obtain ⟨v1, vs1, d1, ds1, p1, q1, rfl, rfl, rfl, h1, r1⟩ := trodAll_cons r0
 obtain ⟨rfl, rfl, rfl⟩ := trodAll_nil r1
 obtain rfl : args = #[v0, v1] := by cases args; simp_all
 obtain ⟨rfl, rfl⟩ := trodVars_none hV
 obtain ⟨vs0', ts0, rfl, hc0⟩ := jnh (t := 26) (d := 6) (ks := [.d (.i .i64), .s [.f .f32], .d (.i .i64), .d (.i .i64)]) (by kernel_rfl) (by kernel_rfl) (hval 0 26 v0 rfl rfl) h0
 rcases hc0 with _ | ⟨k0_0, rr0_0⟩
 rcases rr0_0 with _ | ⟨k0_1, rr0_1⟩
 rcases rr0_1 with _ | ⟨k0_2, rr0_2⟩
 rcases rr0_2 with _ | ⟨k0_3, rr0_3⟩
 cases rr0_3
 obtain ⟨a0_0, e0_0, b0_0⟩ := jeq k0_0
 obtain ⟨a0_1, e0_1, b0_1⟩ := jo7 k0_1
 obtain ⟨a0_2, e0_2, b0_2⟩ := jeq k0_2
 obtain ⟨a0_3, e0_3, b0_3⟩ := jeq k0_3
 obtain ⟨vs1', ts1, rfl, hc1⟩ := jnh (t := 26) (d := 6) (ks := [.d (.i .i64), .s [.f .f32], .d (.i .i64), .d (.i .i64)]) (by kernel_rfl) (by kernel_rfl) (hval 1 26 v1 rfl rfl) h1
 rcases hc1 with _ | ⟨k1_0, rr1_0⟩
 rcases rr1_0 with _ | ⟨k1_1, rr1_1⟩
 rcases rr1_1 with _ | ⟨k1_2, rr1_2⟩
 rcases rr1_2 with _ | ⟨k1_3, rr1_3⟩
 cases rr1_3
 obtain ⟨a1_0, e1_0, b1_0⟩ := jeq k1_0
 obtain ⟨a1_1, e1_1, b1_1⟩ := jo7 k1_1
 obtain ⟨a1_2, e1_2, b1_2⟩ := jeq k1_2
 obtain ⟨a1_3, e1_3, b1_3⟩ := jeq k1_3
 have hlaw : jbB a0_0 a0_1 a0_2 a0_3 a1_0 a1_1 a1_2 a1_3 = some true := jiF _ _ _ _ _ _
 refine (jt2 (ts := [.a [.d (.i .i64 a0_0), .r (.floats .f32 a0_1), .d (.i .i64 a0_2), .d (.i .i64 a0_3)], .a [.d (.i .i64 a1_0), .r (.floats .f32 a1_1), .d (.i .i64 a1_2), .d (.i .i64 a1_3)]]) (ls := [.d (.i .i64 a0_0), .r (.floats .f32 a0_1), .d (.i .i64 a0_2), .d (.i .i64 a0_3), .d (.i .i64 a1_0), .r (.floats .f32 a1_1), .d (.i .i64 a1_2), .d (.i .i64 a1_3)]) (am := [.o 0, .o 1]) jhg (.cons (.a (.cons e0_0 (.cons e0_1 (.cons e0_2 (.cons e0_3 .nil))))) (.cons (.a (.cons e1_0 (.cons e1_1 (.cons e1_2 (.cons e1_3 .nil))))) .nil)) (by kernel_rfl) rfl (ok_of hlaw) (jx3 hlaw) Tryz.func12 rfl (by kernel_rfl) (jw9 (by kernel_rfl) (fun x hx => by simp only [List.mem_cons, List.not_mem_nil, or_false] at hx; rcases hx with rfl | rfl | rfl | rfl | rfl | rfl <;> simp [Rows.figureComparesRow]) hL)).mono fun e W' ⟨he, hb⟩ => ?_
 subst he
 exact ⟨_, rfl, jw5 (tb := 4) rfl rfl (by kernel_rfl) rfl (by simp [Rows.figureComparesSpec]) rfl (by kernel_rfl) (by rw [Tryz.params12]; intro t ht; simp only [List.mem_cons, List.not_mem_nil, or_false] at ht; rcases ht with rfl | rfl <;> exact ⟨by kernel_rfl, of_decide_eq_true (by kernel_rfl)⟩) hW' hb⟩
theorem door_met (os : Os) (args : Array Value) : laidMetH Tryz.prog Rows.figureComparesRow.laid ((World.doorLaid Tryz.prog 2000 os).forCall (fun _ _ => 0) ⟨#[], args, []⟩).memory :=
 laidMetH_of_parts3 (fuel := 8) (laidMet_of_run' 8 (by kernel_rfl) (by kernel_rfl)) (by kernel_rfl) (by kernel_rfl)
theorem lifted (os : Os) (started : os.Started) (H : Type) (enc : TypeId × Value → H) :
  ReturnsInHanded {} Tryz.checked os 12 .any (fun w args => (Rows.figureComparesSpec.pre enc Tryz.prog Tryz.f12 [] false w args ∧ laidMetH Tryz.prog Rows.figureComparesRow.laid w) ∧ sizedMet enc Tryz.prog Tryz.f12 (OpenSpec.ofChange Rows.figureComparesSpec) false w args)
   (Rows.figureComparesSpec.post enc Tryz.prog Tryz.f12 false true false false) := by
 refine returnsInHanded_of_change_and (C := Tryz.checked) (X := fun w _ => laidMetH Tryz.prog Rows.figureComparesRow.laid w) (fun _ _ _ hh h => h.of_heap hh) own started (by kernel_rfl) Tryz.func12
  (ChangeSpec.witness_shaped (enc := enc) (C := Tryz.checked) (os := os) (X := fun w _ => laidMetH Tryz.prog Rows.figureComparesRow.laid w) false (World.doorLaid Tryz.prog 2000 os) #[.agg #[.int .i64 0, .slice none 0 0, .int .i64 0, .int .i64 0], .agg #[.int .i64 0, .slice none 0 0, .int .i64 0, .int .i64 0]] 8 rfl (World.shaped_of_RefB (by kernel_rfl) (by kernel_rfl)) (by kernel_rfl) (by kernel_rfl) (by kernel_rfl) (door_met os _)) ?_
 intro W base args ds gs before hval hW _ hsz hL _
 exact contract H enc W base args ds gs before hval hW hsz hL
theorem over : Rows.FigureComparesSaid :=
 OpenClaim.holds_of_wide 12 Tryz.f12 rfl rfl rfl rfl rfl rfl rfl ⟨rfl, rfl, rfl, rfl, rfl⟩ rfl rfl rfl rfl rfl (by kernel_rfl) Tryz.func12 (by kernel_rfl)
  (of_decide_eq_true (by kernel_rfl)) (by unfold Func.isWrapper; first | (rw [if_pos (by decide +kernel)]; kernel_rfl) | (rw [if_neg (by decide +kernel)]; exact ⟨rfl, rfl⟩))
  (fun os started H enc _ => lifted os started H enc)
theorem proved : Rows.FigureComparesCardSaid :=
 Claim7.holds_tied_plain_at .later [] Rows.figureComparesCard.laidKinds true Rows.figureComparesCard.stood.harness true
  over (fun _ h => by cases h) (by kernel_rfl) (fun _ h => by cases h) figureCompares_row_tie rfl ⟨rfl, rfl⟩ (by kernel_rfl) rfl
  (fun f fn hf hfn => by
   obtain rfl : f = 12 := Option.some.inj ((show Tryz.prog.funcNamed Rows.figureComparesRow.func = some 12 by kernel_rfl).symm.trans hf) |>.symm
   obtain rfl : fn = Tryz.f12 := (Option.some.inj (Tryz.func12.symm.trans hfn)).symm
   exact ⟨by kernel_rfl, fun j t ht => by
    rw [Tryz.params12] at ht
    have hm : t ∈ [26, 26] := by simpa using Array.mem_of_getElem? ht
    have hall : ([26, 26].all fun u => !Tryz.prog.wantsStandIn u) = true := by kernel_rfl
    exact (show Tryz.prog.wantsStandIn t = false by simpa using List.all_eq_true.1 hall t hm)⟩)
  (by kernel_rfl)
end Go.Proofs.YtcklfboglnfepaaGreatDoor.figureCompares
end
