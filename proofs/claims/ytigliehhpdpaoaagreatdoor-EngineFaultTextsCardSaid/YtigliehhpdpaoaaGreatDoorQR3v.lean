/- The law EngineFaultTextsCard returns true for every input, and leaves its arguments as they were: no condition. -/
import Derived.Test.YtigliehhpdpaoaaGreatDoorPE
import Derived.Test.YtigliehhpdpaoaaGreatDoorRows
import Derived.Test.YtigliehhpdpaoaaGreatDoorCards
import Derived.Test.YtigliehhpdpaoaaGreatDoorTie
import Derived.SevenTiedAt
import Derived.WalkKit
import Derived.ProofKit
import Derived.OpenShut
import Derived.SizedLaws
import Derived.Lay
import Derived.ChangeMaps5
set_option maxRecDepth 100000
set_option linter.unusedSectionVars false
set_option linter.unusedSimpArgs false
set_option linter.unusedVariables false
section
namespace Go.Proofs.YtigliehhpdpaoaaGreatDoor.engineFaultTexts
open Go Go.Proofs Go.ChangeShapes Go.WideShapes Go.ChangeAt Go.RowKit Go.Sx Go.Sh
theorem own : ownKnob Tryz.prog.godebug = none := by kernel_rfl
set_option maxHeartbeats 1000000 in
theorem contract (H : Type) (enc : TypeId × Value → H) (W : World) (base : Nat) (args : Array Value) (ds gs : List (DataW H)) (before : List MemPlace)
  (hval : ∀ (j : Nat) t v, Tryz.f3.params[j]? = some t → args[j]? = some v → Value.okWide Tryz.prog W .any base t v)
  (hW : DataW.Whole enc Tryz.prog Tryz.f3.params.toList Rows.engineFaultTextsSpec.vars false W args.toList ds gs before)
  (hL : laidMetH Tryz.prog Rows.engineFaultTextsRow.laid W) (hS : W.ShapedOpen Tryz.prog) :
  Calls Tryz.prog 3 args W fun e W' => ∃ v, e = .returned v ∧ Rows.engineFaultTextsSpec.post enc Tryz.prog Tryz.f3 false true false false W args v W' := by
 have hW' := hW
 obtain ⟨p, q, hA0, hV, rfl, hfz, hnd⟩ := hW
 have hA : DataW.TrodAll enc Tryz.prog W 0 (fun _ => true) true Tryz.f3.params.toList args.toList ds p := hA0
 rw [Tryz.params3] at hA hval
 obtain ⟨v0, vs0, d0, ds0, p0, q0, hargs, rfl, rfl, h0, r0⟩ := trodAll_cons hA
 obtain ⟨v1, vs1, d1, ds1, p1, q1, rfl, rfl, rfl, h1, r1⟩ := trodAll_cons r0
 obtain ⟨rfl, rfl, rfl⟩ := trodAll_nil r1
 obtain rfl : args = #[v0, v1] := by cases args; simp_all
 obtain ⟨rfl, rfl⟩ := trodVars_none hV
 obtain ⟨ds0', is0, hf0⟩ := jtl (t := 23) (d := 4) (ks := [.i .i64, .i .i64]) (by kernel_rfl) (by kernel_rfl) (hval 0 23 v0 rfl rfl) h0
 obtain ⟨a1, rfl, _⟩ := Go.ChangeMaps.open_string (t := 9) (by kernel_rfl) (hval 1 9 v1 rfl rfl) h1
 obtain ⟨l, rfl, hl, hr⟩ := jpb (n := 2) hf0
 obtain ⟨u, b, rfl⟩ : ∃ u b, l = [u, b] := by
  match l, hl with
  | [u, b], _ => exact ⟨u, b, rfl⟩
 have hlaw : y2 u b a1 = some true := jgv a1 (hr u (by simp)) (hr b (by simp))
 have hgl : ja8 (fun k => k < W.heap.size) W := jsA (by kernel_rfl) (fun x hx => by
  simp only [List.mem_cons, List.not_mem_nil, or_false] at hx
  rcases hx with rfl | rfl | rfl <;> simp [Rows.engineFaultTextsRow]) hL hS
 refine (jrq (ax := [.s [.i .i64 u, .i .i64 b], .d (.s a1)]) y16 (.cons is0 (.cons (.d (.s a1)) .nil)) rfl rfl (jfL hlaw) (jtw hlaw) Tryz.func3 rfl (by kernel_rfl) hgl).mono fun e W' ⟨he, hb⟩ => ?_
 subst he
 exact ⟨_, rfl, jsy (tb := 4) rfl rfl (by kernel_rfl) rfl (by simp [Rows.engineFaultTextsSpec]) rfl (by kernel_rfl) (by rw [Tryz.params3]; intro t ht; simp only [List.mem_cons, List.not_mem_nil, or_false] at ht; rcases ht with rfl | rfl <;> exact ⟨by kernel_rfl, of_decide_eq_true (by kernel_rfl)⟩) hW' hb⟩
theorem door_met (os : Os) (args : Array Value) : laidMetH Tryz.prog Rows.engineFaultTextsRow.laid ((World.laidAll Tryz.prog os Rows.engineFaultTextsRow.laid).forCall (fun _ _ => 0) ⟨#[], args, []⟩).memory := by
 rw [MakeChecks.laidMetH_plain _ _ _ (by kernel_rfl)]
 exact laidMet_laidAll _ (by kernel_rfl) (by kernel_rfl)
theorem lifted (os : Os) (started : os.Started) (H : Type) (enc : TypeId × Value → H) :
  ReturnsInHanded {} Tryz.checked os 3 .any (fun w args => (Rows.engineFaultTextsSpec.pre enc Tryz.prog Tryz.f3 [] false w args ∧ laidMetH Tryz.prog Rows.engineFaultTextsRow.laid w) ∧ sizedMet enc Tryz.prog Tryz.f3 (OpenSpec.ofChange Rows.engineFaultTextsSpec) false w args)
   (Rows.engineFaultTextsSpec.post enc Tryz.prog Tryz.f3 false true false false) := by
 refine jiZ (C := Tryz.checked) (X := fun w _ => laidMetH Tryz.prog Rows.engineFaultTextsRow.laid w) (fun _ _ _ hh h => h.of_heap hh) own started (by kernel_rfl) Tryz.func3
  (ChangeSpec.witness_shaped (enc := enc) (C := Tryz.checked) (os := os) (X := fun w _ => laidMetH Tryz.prog Rows.engineFaultTextsRow.laid w) false (World.laidAll Tryz.prog os Rows.engineFaultTextsRow.laid) #[.agg #[.int .i64 0, .int .i64 0], .string ⟨#[]⟩] 8 (World.laidAll_os _ _ _) (World.shaped_of_ZipB (by kernel_rfl) (by kernel_rfl)) (by kernel_rfl) (by kernel_rfl) (by kernel_rfl) (door_met os _)) ?_
 intro W base args ds gs before hval hW hsz hL hS
 exact contract H enc W base args ds gs before hval hW hL hS
theorem over : Rows.EngineFaultTextsSaid :=
 OpenClaim.holds_of_wide 3 Tryz.f3 rfl rfl rfl rfl rfl rfl rfl ⟨rfl, rfl, rfl, rfl, rfl⟩ rfl rfl rfl rfl rfl (by kernel_rfl) Tryz.func3 (by kernel_rfl)
  (of_decide_eq_true (by kernel_rfl)) (by unfold Func.isWrapper; first | (rw [if_pos (by decide +kernel)]; kernel_rfl) | (rw [if_neg (by decide +kernel)]; exact ⟨rfl, rfl⟩))
  (fun os started H enc _ => lifted os started H enc)
theorem proved : Rows.EngineFaultTextsCardSaid :=
 Claim7.holds_tied_plain_at .later [] Rows.engineFaultTextsCard.laidKinds true Rows.engineFaultTextsCard.stood.harness true
  over (fun _ h => by cases h) (by kernel_rfl) (fun _ h => by cases h) engineFaultTexts_row_tie rfl ⟨rfl, rfl⟩ (by kernel_rfl) rfl
  (fun f fn hf hfn => by
   obtain rfl : f = 3 := Option.some.inj ((show Tryz.prog.funcNamed Rows.engineFaultTextsRow.func = some 3 by kernel_rfl).symm.trans hf) |>.symm
   obtain rfl : fn = Tryz.f3 := (Option.some.inj (Tryz.func3.symm.trans hfn)).symm
   exact ⟨by kernel_rfl, fun j t ht => by
    rw [Tryz.params3] at ht
    have hm : t ∈ [23, 9] := by simpa using Array.mem_of_getElem? ht
    have hall : ([23, 9].all fun u => !Tryz.prog.wantsStandIn u) = true := by kernel_rfl
    exact (show Tryz.prog.wantsStandIn t = false by simpa using List.all_eq_true.1 hall t hm)⟩)
  (by kernel_rfl)
end Go.Proofs.YtigliehhpdpaoaaGreatDoor.engineFaultTexts
end
