/- The law FilterTextsCard returns true for every input, and leaves its arguments as they were: no condition. -/
import Derived.Test.YtdhkaolcbnihlaaGreatDoorPF
import Derived.Test.YtdhkaolcbnihlaaGreatDoorRows
import Derived.Test.YtdhkaolcbnihlaaGreatDoorCards
import Derived.Test.YtdhkaolcbnihlaaGreatDoorTie
import Derived.SevenTiedAt
import Derived.WalkKit
import Derived.ProofKit
import Derived.OpenShut
import Derived.SizedLaws
import Derived.Lay
import Derived.ChangeMaps5
set_option maxRecDepth 100000
set_option linter.unusedSectionVars false
set_option linter.unusedSimpArgs false
set_option linter.unusedVariables false
section
namespace Go.Proofs.YtdhkaolcbnihlaaGreatDoor.filterTexts
open Go Go.Proofs Go.ChangeShapes Go.WideShapes Go.ChangeAt Go.RowKit Go.Sx Go.Sh
theorem own : ownKnob Tryz.prog.godebug = none := by kernel_rfl
set_option maxHeartbeats 1000000 in
theorem contract (H : Type) (enc : TypeId × Value → H) (W : World) (base : Nat) (args : Array Value) (ds gs : List (DataW H)) (before : List MemPlace)
  (hval : ∀ (j : Nat) t v, Tryz.f3.params[j]? = some t → args[j]? = some v → Value.okWide Tryz.prog W .any base t v)
  (hW : DataW.Whole enc Tryz.prog Tryz.f3.params.toList Rows.filterTextsSpec.vars false W args.toList ds gs before)
  (hL : laidMetH Tryz.prog Rows.filterTextsRow.laid W) (hS : W.ShapedOpen Tryz.prog) :
  Calls Tryz.prog 3 args W fun e W' => ∃ v, e = .returned v ∧ Rows.filterTextsSpec.post enc Tryz.prog Tryz.f3 false true false false W args v W' := by
 have hW' := hW
 obtain ⟨p, q, hA0, hV, rfl, hfz, hnd⟩ := hW
 have hA : DataW.TrodAll enc Tryz.prog W 0 (fun _ => true) true Tryz.f3.params.toList args.toList ds p := hA0
 rw [Tryz.params3] at hA hval
 obtain ⟨v0, vs0, d0, ds0, p0, q0, hargs, rfl, rfl, h0, r0⟩ := trodAll_cons hA
 obtain ⟨v1, vs1, d1, ds1, p1, q1, rfl, rfl, rfl, h1, r1⟩ := trodAll_cons r0
 obtain ⟨rfl, rfl, rfl⟩ := trodAll_nil r1
 obtain rfl : args = #[v0, v1] := by cases args; simp_all
 obtain ⟨rfl, rfl⟩ := trodVars_none hV
 obtain ⟨a0, is0, c0, len0⟩ := jqN (t := 22) (e := 42) (d := 4) (n := 5) (by kernel_rfl) (by kernel_rfl) (by kernel_rfl) (by omega) (hval 0 22 v0 rfl rfl) h0
 obtain ⟨a1, rfl, _⟩ := Go.ChangeMaps.open_string (t := 9) (by kernel_rfl) (hval 1 9 v1 rfl rfl) h1
 have hlaw : jbF a0 a1 = some true := ji5 a0 a1 c0
 have hgl : jbC (fun k => k < W.heap.size) W := jqO (by kernel_rfl) (fun x hx => by
  simp only [List.mem_cons, List.not_mem_nil, or_false] at hx
  rcases hx with rfl | rfl | rfl <;> simp [Rows.filterTextsRow]) hL hS
 refine (jpL (ax := [.r (.recs 5 a0), .d (.s a1)]) jhT (.cons is0 (.cons (.d (.s a1)) .nil)) rfl rfl (ok_of hlaw) (jrG hlaw) Tryz.func3 rfl (by kernel_rfl) hgl).mono fun e W' ⟨he, hb⟩ => ?_
 subst he
 exact ⟨_, rfl, jqL (tb := 4) rfl rfl (by kernel_rfl) rfl (by simp [Rows.filterTextsSpec]) rfl (by kernel_rfl) (by rw [Tryz.params3]; intro t ht; simp only [List.mem_cons, List.not_mem_nil, or_false] at ht; rcases ht with rfl | rfl <;> exact ⟨by kernel_rfl, of_decide_eq_true (by kernel_rfl)⟩) hW' hb⟩
theorem door_met (os : Os) (args : Array Value) : laidMetH Tryz.prog Rows.filterTextsRow.laid ((World.laidAll Tryz.prog os Rows.filterTextsRow.laid).forCall (fun _ _ => 0) ⟨#[], args, []⟩).memory := by
 rw [MakeChecks.laidMetH_plain _ _ _ (by kernel_rfl)]
 exact laidMet_laidAll _ (by kernel_rfl) (by kernel_rfl)
theorem lifted (os : Os) (started : os.Started) (H : Type) (enc : TypeId × Value → H) :
  ReturnsInHanded {} Tryz.checked os 3 .any (fun w args => (Rows.filterTextsSpec.pre enc Tryz.prog Tryz.f3 [] false w args ∧ laidMetH Tryz.prog Rows.filterTextsRow.laid w) ∧ sizedMet enc Tryz.prog Tryz.f3 (OpenSpec.ofChange Rows.filterTextsSpec) false w args)
   (Rows.filterTextsSpec.post enc Tryz.prog Tryz.f3 false true false false) := by
 refine jim (C := Tryz.checked) (X := fun w _ => laidMetH Tryz.prog Rows.filterTextsRow.laid w) (fun _ _ _ hh h => h.of_heap hh) own started (by kernel_rfl) Tryz.func3
  (ChangeSpec.witness_shaped (enc := enc) (C := Tryz.checked) (os := os) (X := fun w _ => laidMetH Tryz.prog Rows.filterTextsRow.laid w) false (World.laidAll Tryz.prog os Rows.filterTextsRow.laid) #[.slice none 0 0, .string ⟨#[]⟩] 8 (World.laidAll_os _ _ _) (World.shaped_of_ZipB (by kernel_rfl) (by kernel_rfl)) (by kernel_rfl) (by kernel_rfl) (by kernel_rfl) (door_met os _)) ?_
 intro W base args ds gs before hval hW hsz hL hS
 exact contract H enc W base args ds gs before hval hW hL hS
theorem over : Rows.FilterTextsSaid :=
 OpenClaim.holds_of_wide 3 Tryz.f3 rfl rfl rfl rfl rfl rfl rfl ⟨rfl, rfl, rfl, rfl, rfl⟩ rfl rfl rfl rfl rfl (by kernel_rfl) Tryz.func3 (by kernel_rfl)
  (of_decide_eq_true (by kernel_rfl)) (by unfold Func.isWrapper; first | (rw [if_pos (by decide +kernel)]; kernel_rfl) | (rw [if_neg (by decide +kernel)]; exact ⟨rfl, rfl⟩))
  (fun os started H enc _ => lifted os started H enc)
theorem proved : Rows.FilterTextsCardSaid :=
 Claim7.holds_tied_plain_at .later [] Rows.filterTextsCard.laidKinds true Rows.filterTextsCard.stood.harness true
  over (fun _ h => by cases h) (by kernel_rfl) (fun _ h => by cases h) filterTexts_row_tie rfl ⟨rfl, rfl⟩ (by kernel_rfl) rfl
  (fun f fn hf hfn => by
   obtain rfl : f = 3 := Option.some.inj ((show Tryz.prog.funcNamed Rows.filterTextsRow.func = some 3 by kernel_rfl).symm.trans hf) |>.symm
   obtain rfl : fn = Tryz.f3 := (Option.some.inj (Tryz.func3.symm.trans hfn)).symm
   exact ⟨by kernel_rfl, fun j t ht => by
    rw [Tryz.params3] at ht
    have hm : t ∈ [22, 9] := by simpa using Array.mem_of_getElem? ht
    have hall : ([22, 9].all fun u => !Tryz.prog.wantsStandIn u) = true := by kernel_rfl
    exact (show Tryz.prog.wantsStandIn t = false by simpa using List.all_eq_true.1 hall t hm)⟩)
  (by kernel_rfl)
end Go.Proofs.YtdhkaolcbnihlaaGreatDoor.filterTexts
end
