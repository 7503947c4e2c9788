/- The law FigureTextsCard returns true for every input, and leaves its arguments as they were: no condition. -/
import Derived.Test.YtcklfboglnfepaaGreatDoorPE
import Derived.Test.YtcklfboglnfepaaGreatDoorRows
import Derived.Test.YtcklfboglnfepaaGreatDoorCards
import Derived.Test.YtcklfboglnfepaaGreatDoorTie
import Derived.SevenTiedAt
import Derived.WalkKit
import Derived.ProofKit
import Derived.OpenShut
import Derived.SizedLaws
import Derived.Lay
import Derived.ChangeMaps5
set_option maxRecDepth 100000
set_option linter.unusedSectionVars false
set_option linter.unusedSimpArgs false
set_option linter.unusedVariables false
section
namespace Go.Proofs.YtcklfboglnfepaaGreatDoor.figureTexts
open Go Go.Proofs Go.ChangeShapes Go.WideShapes Go.ChangeAt Go.RowKit Go.Sx Go.Sh
theorem fits_b {ks : List K} {ds : List D} (h : jbG (.b :: ks) ds) : ∃ b r, ds = .b b :: r ∧ jbG ks r := by
 match ds, h with
 | .b x :: r, h => exact ⟨x, r, rfl, h.2⟩
 | .i _ _ :: _, h => exact h.1.elim
 | .f _ _ :: _, h => exact h.1.elim
 | .s _ :: _, h => exact h.1.elim
 | .v _ :: _, h => exact h.1.elim
theorem own : ownKnob Tryz.prog.godebug = none := by kernel_rfl
set_option maxHeartbeats 1000000 in
theorem contract (H : Type) (enc : TypeId × Value → H) (W : World) (base : Nat) (args : Array Value) (ds gs : List (DataW H)) (before : List MemPlace)
  (hval : ∀ (j : Nat) t v, Tryz.f14.params[j]? = some t → args[j]? = some v → Value.okWide Tryz.prog W .any base t v)
  (hW : DataW.Whole enc Tryz.prog Tryz.f14.params.toList Rows.figureTextsSpec.vars false W args.toList ds gs before)
  (hL : laidMetH Tryz.prog Rows.figureTextsRow.laid W) (hS : W.ShapedOpen Tryz.prog) :
  Calls Tryz.prog 14 args W fun e W' => ∃ v, e = .returned v ∧ Rows.figureTextsSpec.post enc Tryz.prog Tryz.f14 false true false false W args v W' := by
 have hW' := hW
 obtain ⟨p, q, hA0, hV, rfl, hfz, hnd⟩ := hW
 have hA : DataW.TrodAll enc Tryz.prog W 0 (fun _ => true) true Tryz.f14.params.toList args.toList ds p := hA0
 rw [Tryz.params14] at hA hval
 obtain ⟨v0, vs0, d0, ds0, p0, q0, hargs, rfl, rfl, h0, r0⟩ := trodAll_cons hA
 obtain ⟨v1, vs1, d1, ds1, p1, q1, rfl, rfl, rfl, h1, r1⟩ := trodAll_cons r0
 obtain ⟨rfl, rfl, rfl⟩ := trodAll_nil r1
 obtain rfl : args = #[v0, v1] := by cases args; simp_all
 obtain ⟨rfl, rfl⟩ := trodVars_none hV
 obtain ⟨ds0', is0, hf0⟩ := jud (t := 95) (d := 6) (ks := [.b, .b, .b, .b, .b, .b, .i .i64, .i .i64, .i .i64, .i .i64, .i .i64, .i .i64, .i .i64, .i .i64, .i .i64, .i .i64, .i .i64, .i .i64]) (by kernel_rfl) (by kernel_rfl) (hval 0 95 v0 rfl rfl) h0
 obtain ⟨a1, rfl, _⟩ := Go.ChangeMaps.open_string (t := 9) (by kernel_rfl) (hval 1 9 v1 rfl rfl) h1
 obtain ⟨k0, e0, rfl, hf1⟩ := fits_b hf0
 obtain ⟨k1, e1, rfl, hf2⟩ := fits_b hf1
 obtain ⟨k2, e2, rfl, hf3⟩ := fits_b hf2
 obtain ⟨k3, e3, rfl, hf4⟩ := fits_b hf3
 obtain ⟨k4, e4, rfl, hf5⟩ := fits_b hf4
 obtain ⟨k5, e5, rfl, hf6⟩ := fits_b hf5
 obtain ⟨l, rfl, hl, hr⟩ := jpn (n := 12) hf6
 obtain ⟨v0_, v1_, v2_, v3_, v4_, v5_, v6_, v7_, v8_, v9_, v10_, v11_, rfl⟩ : ∃ v0_ v1_ v2_ v3_ v4_ v5_ v6_ v7_ v8_ v9_ v10_ v11_, l = [v0_, v1_, v2_, v3_, v4_, v5_, v6_, v7_, v8_, v9_, v10_, v11_] := by
  match l, hl with
  | [v0_, v1_, v2_, v3_, v4_, v5_, v6_, v7_, v8_, v9_, v10_, v11_], _ => exact ⟨v0_, v1_, v2_, v3_, v4_, v5_, v6_, v7_, v8_, v9_, v10_, v11_, rfl⟩
 have hlaw : jbF k0 k1 k2 k3 k4 k5 v0_ v1_ v2_ v3_ v4_ v5_ v6_ v7_ v8_ v9_ v10_ v11_ a1 = some true := jko _ _ _ _ _ _ _ _ _ _ _ _ _ _ _ _ _ _ _ (fun x hx => hr x hx)
 have hgl : jbK (fun k => k < W.heap.size) W := jtr (by kernel_rfl) (fun x hx => by
  simp only [List.mem_cons, List.not_mem_nil, or_false] at hx
  rcases hx with rfl | rfl | rfl | rfl | rfl | rfl | rfl <;> simp [Rows.figureTextsRow]) hL hS
 refine (jrH (ax := [.s [.b k0, .b k1, .b k2, .b k3, .b k4, .b k5, .i .i64 v0_, .i .i64 v1_, .i .i64 v2_, .i .i64 v3_, .i .i64 v4_, .i .i64 v5_, .i .i64 v6_, .i .i64 v7_, .i .i64 v8_, .i .i64 v9_, .i .i64 v10_, .i .i64 v11_], .d (.s a1)]) jiJ (.cons is0 (.cons (.d (.s a1)) .nil)) rfl rfl (ok_of hlaw) (jup hlaw) Tryz.func14 rfl (by kernel_rfl) hgl).mono fun e W' ⟨he, hb⟩ => ?_
 subst he
 exact ⟨_, rfl, jtq (tb := 4) rfl rfl (by kernel_rfl) rfl (by simp [Rows.figureTextsSpec]) rfl (by kernel_rfl) (by rw [Tryz.params14]; intro t ht; simp only [List.mem_cons, List.not_mem_nil, or_false] at ht; rcases ht with rfl | rfl <;> exact ⟨by kernel_rfl, of_decide_eq_true (by kernel_rfl)⟩) hW' hb⟩
theorem door_met (os : Os) (args : Array Value) : laidMetH Tryz.prog Rows.figureTextsRow.laid ((World.laidAll Tryz.prog os Rows.figureTextsRow.laid).forCall (fun _ _ => 0) ⟨#[], args, []⟩).memory := by
 rw [MakeChecks.laidMetH_plain _ _ _ (by kernel_rfl)]
 exact laidMet_laidAll _ (by kernel_rfl) (by kernel_rfl)
theorem lifted (os : Os) (started : os.Started) (H : Type) (enc : TypeId × Value → H) :
  ReturnsInHanded {} Tryz.checked os 14 .any (fun w args => (Rows.figureTextsSpec.pre enc Tryz.prog Tryz.f14 [] false w args ∧ laidMetH Tryz.prog Rows.figureTextsRow.laid w) ∧ sizedMet enc Tryz.prog Tryz.f14 (OpenSpec.ofChange Rows.figureTextsSpec) false w args)
   (Rows.figureTextsSpec.post enc Tryz.prog Tryz.f14 false true false false) := by
 refine jjo (C := Tryz.checked) (X := fun w _ => laidMetH Tryz.prog Rows.figureTextsRow.laid w) (fun _ _ _ hh h => h.of_heap hh) own started (by kernel_rfl) Tryz.func14
  (ChangeSpec.witness_shaped (enc := enc) (C := Tryz.checked) (os := os) (X := fun w _ => laidMetH Tryz.prog Rows.figureTextsRow.laid w) false (World.laidAll Tryz.prog os Rows.figureTextsRow.laid) #[.agg #[.bool false, .bool false, .bool false, .bool false, .bool false, .bool false, .int .i64 0, .int .i64 0, .int .i64 0, .int .i64 0, .int .i64 0, .int .i64 0, .int .i64 0, .int .i64 0, .int .i64 0, .int .i64 0, .int .i64 0, .int .i64 0], .string ⟨#[]⟩] 8 (World.laidAll_os _ _ _) (World.shaped_of_ZipB (by kernel_rfl) (by kernel_rfl)) (by kernel_rfl) (by kernel_rfl) (by kernel_rfl) (door_met os _)) ?_
 intro W base args ds gs before hval hW hsz hL hS
 exact contract H enc W base args ds gs before hval hW hL hS
theorem over : Rows.FigureTextsSaid :=
 OpenClaim.holds_of_wide 14 Tryz.f14 rfl rfl rfl rfl rfl rfl rfl ⟨rfl, rfl, rfl, rfl, rfl⟩ rfl rfl rfl rfl rfl (by kernel_rfl) Tryz.func14 (by kernel_rfl)
  (of_decide_eq_true (by kernel_rfl)) (by unfold Func.isWrapper; first | (rw [if_pos (by decide +kernel)]; kernel_rfl) | (rw [if_neg (by decide +kernel)]; exact ⟨rfl, rfl⟩))
  (fun os started H enc _ => lifted os started H enc)
theorem proved : Rows.FigureTextsCardSaid :=
 Claim7.holds_tied_plain_at .later [] Rows.figureTextsCard.laidKinds true Rows.figureTextsCard.stood.harness true
  over (fun _ h => by cases h) (by kernel_rfl) (fun _ h => by cases h) figureTexts_row_tie rfl ⟨rfl, rfl⟩ (by kernel_rfl) rfl
  (fun f fn hf hfn => by
   obtain rfl : f = 14 := Option.some.inj ((show Tryz.prog.funcNamed Rows.figureTextsRow.func = some 14 by kernel_rfl).symm.trans hf) |>.symm
   obtain rfl : fn = Tryz.f14 := (Option.some.inj (Tryz.func14.symm.trans hfn)).symm
   exact ⟨by kernel_rfl, fun j t ht => by
    rw [Tryz.params14] at ht
    have hm : t ∈ [95, 9] := by simpa using Array.mem_of_getElem? ht
    have hall : ([95, 9].all fun u => !Tryz.prog.wantsStandIn u) = true := by kernel_rfl
    exact (show Tryz.prog.wantsStandIn t = false by simpa using List.all_eq_true.1 hall t hm)⟩)
  (by kernel_rfl)
end Go.Proofs.YtcklfboglnfepaaGreatDoor.figureTexts
end
