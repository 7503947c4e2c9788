/- The law FigureWithinCard returns true for every input, and leaves its arguments as they were: no condition. -/
import Derived.Test.YtcklfboglnfepaaDoorPF
import Derived.Test.YtcklfboglnfepaaDoorRows
import Derived.Test.YtcklfboglnfepaaDoorCards
import Derived.Test.YtcklfboglnfepaaDoorTie
import Derived.SevenTiedAt
import Derived.WalkKit
import Derived.ProofKit
import Derived.OpenShut
import Derived.SizedLaws
set_option linter.unusedSectionVars false
set_option linter.unusedSimpArgs false
set_option linter.unusedVariables false
section
namespace Go.Proofs.YtcklfboglnfepaaDoor.figureWithin
open Go Go.Proofs Go.ChangeShapes Go.WideShapes Go.ChangeAt Go.RowKit Go.Sx Go.Sh
set_option linter.unusedVariables false
theorem own : ownKnob Tryd.prog.godebug = none := by kernel_rfl
set_option maxRecDepth 100000 in
set_option maxHeartbeats 1000000 in
theorem contract (H : Type) (enc : TypeId × Value → H) (W : World) (base : Nat) (args : Array Value) (ds gs : List (DataW H)) (before : List MemPlace)
    (hval : ∀ (j : Nat) t v, Tryd.f5.params[j]? = some t → args[j]? = some v → Value.okWide Tryd.prog W .any base t v)
    (hW : DataW.Whole enc Tryd.prog Tryd.f5.params.toList Rows.figureWithinSpec.vars false W args.toList ds gs before)
    (hsz : (DataW.weightsEach Tryd.prog (Tryd.f5.params.toList ++ Rows.figureWithinSpec.plain.varTypes Tryd.prog) (ds ++ gs)).all (· ≤ reachBytes) = true) (hL : laidMetH Tryd.prog Rows.figureWithinRow.laid W) :
    Calls Tryd.prog 5 args W fun e W' => ∃ v, e = .returned v ∧ Rows.figureWithinSpec.post enc Tryd.prog Tryd.f5 false true false false W args v W' := by
  have hW' := hW
  obtain ⟨p, q, hA0, hV, rfl, hfz, hnd⟩ := hW
  have hA : DataW.TrodAll enc Tryd.prog W 0 (fun _ => true) true Tryd.f5.params.toList args.toList ds p := hA0
  rw [Tryd.params5] at hA hval
  obtain ⟨v0, vs0, d0, ds0, p0, q0, hargs, rfl, rfl, h0, r0⟩ := trodAll_cons hA
  obtain ⟨v1, vs1, d1, ds1, p1, q1, rfl, rfl, rfl, h1, r1⟩ := trodAll_cons r0
  obtain ⟨v2, vs2, d2, ds2, p2, q2, rfl, rfl, rfl, h2, r2⟩ := trodAll_cons r1
  obtain ⟨rfl, rfl, rfl⟩ := trodAll_nil r2
  obtain rfl : args = #[v0, v1, v2] := by cases args; simp_all
  obtain ⟨rfl, rfl⟩ := trodVars_none hV
  obtain ⟨vs0', ts0, rfl, hc0⟩ := arg_cells2 (t := 36) (d := 6) (ks := [.d (.i .i64), .s [.f .f32], .d (.i .i64), .d (.i .i64)]) (by kernel_rfl) (by kernel_rfl) (hval 0 36 v0 rfl rfl) h0
  rcases hc0 with _ | ⟨k0_0, rr0_0⟩
  rcases rr0_0 with _ | ⟨k0_1, rr0_1⟩
  rcases rr0_1 with _ | ⟨k0_2, rr0_2⟩
  rcases rr0_2 with _ | ⟨k0_3, rr0_3⟩
  cases rr0_3
  obtain ⟨a0_0, e0_0, b0_0⟩ := cell_int k0_0
  obtain ⟨a0_1, e0_1, b0_1⟩ := cell_flts k0_1
  obtain ⟨a0_2, e0_2, b0_2⟩ := cell_int k0_2
  obtain ⟨a0_3, e0_3, b0_3⟩ := cell_int k0_3
  obtain ⟨vs1', ts1, rfl, hc1⟩ := arg_cells2 (t := 51) (d := 6) (ks := [.s [.i .i64], .s [.i .i64]]) (by kernel_rfl) (by kernel_rfl) (hval 1 51 v1 rfl rfl) h1
  rcases hc1 with _ | ⟨k1_0, rr1_0⟩
  rcases rr1_0 with _ | ⟨k1_1, rr1_1⟩
  cases rr1_1
  obtain ⟨a1_0, e1_0, b1_0⟩ := cell_ints k1_0
  obtain ⟨a1_1, e1_1, b1_1⟩ := cell_ints k1_1
  obtain ⟨a2, is2, c2⟩ := arg_int (t := 3) (by kernel_rfl) (hval 2 3 v2 rfl rfl) h2
  have hlaw : L05_FigureWithin a0_0 a0_1 a0_2 a0_3 a1_0 a1_1 a2 = some true := figureWithin_true _ _ _ _ _ _
  refine (law_callsT (ts := [.a [.d (.i .i64 a0_0), .r (.floats .f32 a0_1), .d (.i .i64 a0_2), .d (.i .i64 a0_3)], .a [.r (.ints .i64 a1_0), .r (.ints .i64 a1_1)], .c (.d (.i .i64 a2))]) (ls := [.d (.i .i64 a0_0), .r (.floats .f32 a0_1), .d (.i .i64 a0_2), .d (.i .i64 a0_3), .r (.ints .i64 a1_0), .r (.ints .i64 a1_1), .d (.i .i64 a2)]) (am := [.o 0, .o 1, .o 2]) L05_FigureWithin_ok (.cons (.a (.cons e0_0 (.cons e0_1 (.cons e0_2 (.cons e0_3 .nil))))) (.cons (.a (.cons e1_0 (.cons e1_1 .nil))) (.cons (.c (t1_d is2)) .nil))) (by kernel_rfl) rfl (ok_of hlaw) (val_of hlaw) Tryd.func5 rfl (by kernel_rfl) (globs_ok (by kernel_rfl) (fun x hx => by simp only [List.mem_cons, List.not_mem_nil, or_false] at hx; rcases hx with rfl | rfl | rfl | rfl | rfl <;> simp [Rows.figureWithinRow]) hL)).mono fun e W' ⟨he, hb⟩ => ?_
  subst he
  exact ⟨_, rfl, law_post (tb := 4) rfl rfl (by kernel_rfl) rfl (by simp [Rows.figureWithinSpec]) rfl (by kernel_rfl) (by rw [Tryd.params5]; intro t ht; simp only [List.mem_cons, List.not_mem_nil, or_false] at ht; rcases ht with rfl | rfl | rfl <;> exact ⟨by kernel_rfl, of_decide_eq_true (by kernel_rfl)⟩) hW' hb⟩
set_option maxRecDepth 100000 in
theorem door_met (os : Os) (args : Array Value) : laidMetH Tryd.prog Rows.figureWithinRow.laid ((World.doorLaid Tryd.prog 2000 os).forCall (fun _ _ => 0) ⟨#[], args, []⟩).memory :=
  laidMetH_of_parts3 (fuel := 8) (laidMet_of_run' 8 (by kernel_rfl) (by kernel_rfl)) (by kernel_rfl) (by kernel_rfl)
set_option maxRecDepth 100000 in
theorem lifted (os : Os) (started : os.Started) (H : Type) (enc : TypeId × Value → H) :
    ReturnsInHanded {} Tryd.checked os 5 .any (fun w args => (Rows.figureWithinSpec.pre enc Tryd.prog Tryd.f5 [] false w args ∧ laidMetH Tryd.prog Rows.figureWithinRow.laid w) ∧ sizedMet enc Tryd.prog Tryd.f5 (OpenSpec.ofChange Rows.figureWithinSpec) false w args)
      (Rows.figureWithinSpec.post enc Tryd.prog Tryd.f5 false true false false) := by
  refine returnsInHanded_of_change_and (C := Tryd.checked) (X := fun w _ => laidMetH Tryd.prog Rows.figureWithinRow.laid w) (fun _ _ _ hh h => h.of_heap hh) own started (by kernel_rfl) Tryd.func5
    (ChangeSpec.witness_shaped (enc := enc) (C := Tryd.checked) (os := os) (X := fun w _ => laidMetH Tryd.prog Rows.figureWithinRow.laid w) false (World.doorLaid Tryd.prog 2000 os) #[.agg #[.int .i64 0, .slice none 0 0, .int .i64 0, .int .i64 0], .agg #[.slice none 0 0, .slice none 0 0], .int .i64 0] 8 rfl (World.shaped_of_RefB (by kernel_rfl) (by kernel_rfl)) (by kernel_rfl) (by kernel_rfl) (by kernel_rfl) (door_met os _)) ?_
  intro W base args ds gs before hval hW _ hsz hL _
  exact contract H enc W base args ds gs before hval hW hsz hL
set_option maxRecDepth 100000 in
theorem over : Rows.FigureWithinSaid :=
  OpenClaim.holds_of_wide 5 Tryd.f5 rfl rfl rfl rfl rfl rfl rfl ⟨rfl, rfl, rfl, rfl, rfl⟩ rfl rfl rfl rfl rfl (by kernel_rfl) Tryd.func5 (by kernel_rfl)
    (of_decide_eq_true (by kernel_rfl)) (by unfold Func.isWrapper; first | (rw [if_pos (by decide +kernel)]; kernel_rfl) | (rw [if_neg (by decide +kernel)]; exact ⟨rfl, rfl⟩))
    (fun os started H enc _ => lifted os started H enc)
set_option maxRecDepth 100000 in
theorem proved : Rows.FigureWithinCardSaid :=
  Claim7.holds_tied_plain_at .later [] Rows.figureWithinCard.laidKinds true Rows.figureWithinCard.stood.harness false
    over (fun _ h => by cases h) (by kernel_rfl) (fun _ h => by cases h) figureWithin_row_tie rfl ⟨rfl, rfl⟩ (by kernel_rfl) rfl
    (fun f fn hf hfn => by
      obtain rfl : f = 5 := Option.some.inj ((show Tryd.prog.funcNamed Rows.figureWithinRow.func = some 5 by kernel_rfl).symm.trans hf) |>.symm
      obtain rfl : fn = Tryd.f5 := (Option.some.inj (Tryd.func5.symm.trans hfn)).symm
      exact ⟨by kernel_rfl, fun j t ht => by
        rw [Tryd.params5] at ht
        have hm : t ∈ [36, 51, 3] := by simpa using Array.mem_of_getElem? ht
        have hall : ([36, 51, 3].all fun u => !Tryd.prog.wantsStandIn u) = true := by kernel_rfl
        exact (show Tryd.prog.wantsStandIn t = false by simpa using List.all_eq_true.1 hall t hm)⟩)
    (by kernel_rfl)
end Go.Proofs.YtcklfboglnfepaaDoor.figureWithin
end
