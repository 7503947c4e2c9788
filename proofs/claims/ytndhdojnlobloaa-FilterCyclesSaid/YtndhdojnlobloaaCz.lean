/- The contracts of chapter 6 that were proved by hand, for the mirrors. -/
import Derived.Test.YtndhdojnlobloaaC13
import Derived.Test.YtndhdojnlobloaaSb
set_option linter.unusedSectionVars false
set_option linter.unusedSimpArgs false
set_option linter.unusedVariables false
namespace Go.Sh
open Go Go.Proofs Go.RowKit Go.Sx
instance (u : List Int) : Decidable (Sx06.okU u) :=
  decidable_of_iff (u.length = 10 ∧ (∀ j, j < 5 → -32768 ≤ u.getD j 0 ∧ u.getD j 0 ≤ 32768) ∧ (∀ j, j < 9 → 5 ≤ j → -32767 ≤ u.getD j 0 ∧ u.getD j 0 ≤ 32767) ∧ 0 ≤ u.getD 9 0 ∧ u.getD 9 0 ≤ 1000000000)
    ⟨fun ⟨a, b, c, d, e⟩ => ⟨a, b, fun j h1 h2 => c j h2 h1, d, e⟩, fun ⟨a, b, c, d, e⟩ => ⟨a, b, fun j h1 h2 => c j h2 h1, d, e⟩⟩
abbrev sp_104 : Specs → Specs := addK 104 true (pureS Sx06.gWithin)
theorem sp_104_ok {sp : Specs} (h : SpecsOK Try.prog sp) : SpecsOK Try.prog (sp_104 sp) := addK_ok Sx06.within_ok h
abbrev sp_57 : Specs → Specs := addK 57 true (pureS Sx06.gCheckSection)
theorem sp_57_ok {sp : Specs} (h : SpecsOK Try.prog sp) : SpecsOK Try.prog (sp_57 sp) := addK_ok Sx06.checkSection_ok h
abbrev sp_60 : Specs → Specs := addK 60 true (pureS Sx06.gImpulse)
theorem sp_60_ok {sp : Specs} (h : SpecsOK Try.prog sp) : SpecsOK Try.prog (sp_60 sp) := addK_ok Sx06.impulse_ok h
abbrev sp_26 : Specs → Specs := addK 26 true (pureS Sx06.gCascadeBound)
theorem sp_26_ok {sp : Specs} (h : SpecsOK Try.prog sp) : SpecsOK Try.prog (sp_26 sp) := addK_ok Sx06.cascadeBound_ok h
abbrev sp_25 : Specs → Specs := addK 25 true (pureS Sx06.gBoundOf)
theorem sp_25_ok {sp : Specs} (h : SpecsOK Try.prog sp) : SpecsOK Try.prog (sp_25 sp) := addK_ok Sx06.boundOf_ok h
abbrev sp_50 : Specs → Specs := addK 50 true (pureS Sx06.gBWithin)
theorem sp_50_ok {sp : Specs} (h : SpecsOK Try.prog sp) : SpecsOK Try.prog (sp_50 sp) := addK_ok Sx06.bWithin_ok h
abbrev sp_23 : Specs → Specs := addK 23 true (pureS Sx06.gBSize)
theorem sp_23_ok {sp : Specs} (h : SpecsOK Try.prog sp) : SpecsOK Try.prog (sp_23 sp) := addK_ok Sx06.bSize_ok h
abbrev sp_22 : Specs → Specs := addK 22 true (pureS Sx06.gCopyInts)
theorem sp_22_ok {sp : Specs} (h : SpecsOK Try.prog sp) : SpecsOK Try.prog (sp_22 sp) := addK_ok Sx06.copyInts_ok h
abbrev sp_19 : Specs → Specs := addK 19 true (pureS Sx06.gRefPolyErr)
theorem sp_19_ok {sp : Specs} (h : SpecsOK Try.prog sp) : SpecsOK Try.prog (sp_19 sp) := addK_ok Sx06.refPolyErr_ok h
abbrev sp_34 : Specs → Specs := addK 34 true (pureS Sx06.gInts)
theorem sp_34_ok {sp : Specs} (h : SpecsOK Try.prog sp) : SpecsOK Try.prog (sp_34 sp) := addK_ok Sx06.ints_ok h
abbrev sp_97 : Specs → Specs := addK 97 true (pureS Sx06.gTurnErr)
theorem sp_97_ok {sp : Specs} (h : SpecsOK Try.prog sp) : SpecsOK Try.prog (sp_97 sp) := addK_ok Sx06.turnErr_ok h
abbrev sp_127 : Specs → Specs := addK 127 true (pureS Sx06.gSquare)
theorem sp_127_ok {sp : Specs} (h : SpecsOK Try.prog sp) : SpecsOK Try.prog (sp_127 sp) := addK_ok Sx06.square_ok h
abbrev sp_98 : Specs → Specs := addK 98 true (pureS Sx06.gGain)
theorem sp_98_ok {sp : Specs} (h : SpecsOK Try.prog sp) : SpecsOK Try.prog (sp_98 sp) := addK_ok Sx06.gain_ok h
abbrev sp_91 : Specs → Specs := addK 91 true (pureS Sx06.gSmall)
theorem sp_91_ok {sp : Specs} (h : SpecsOK Try.prog sp) : SpecsOK Try.prog (sp_91 sp) := addK_ok Sx06.small_ok h
abbrev sp_105 : Specs → Specs := addK 105 true (pureS Sx06.gSize)
theorem sp_105_ok {sp : Specs} (h : SpecsOK Try.prog sp) : SpecsOK Try.prog (sp_105 sp) := addK_ok Sx06.size_ok h
abbrev sp_125 : Specs → Specs := addK 125 true (pureS Sx06.gFloor)
theorem sp_125_ok {sp : Specs} (h : SpecsOK Try.prog sp) : SpecsOK Try.prog (sp_125 sp) := addK_ok Sx06.floor_ok h
abbrev sp_95 : Specs → Specs := addK 95 true (pureS Sx06.gRounded)
theorem sp_95_ok {sp : Specs} (h : SpecsOK Try.prog sp) : SpecsOK Try.prog (sp_95 sp) := addK_ok Sx06.rounded_ok h
abbrev sp_87 : Specs → Specs := addK 87 true (pureS Sx06.gUnless)
theorem sp_87_ok {sp : Specs} (h : SpecsOK Try.prog sp) : SpecsOK Try.prog (sp_87 sp) := addK_ok Sx06.unless_ok h
abbrev sp_96 : Specs → Specs := addK 96 true (pureS Sx06.gIsPart)
theorem sp_96_ok {sp : Specs} (h : SpecsOK Try.prog sp) : SpecsOK Try.prog (sp_96 sp) := addK_ok Sx06.isPart_ok h
abbrev sp_88 : Specs → Specs := addK 88 true (pureS Sx06.gIsSample)
theorem sp_88_ok {sp : Specs} (h : SpecsOK Try.prog sp) : SpecsOK Try.prog (sp_88 sp) := addK_ok Sx06.isSample_ok h
abbrev sp_85 : Specs → Specs := addK 85 true (pureS Sx06.gFirst)
theorem sp_85_ok {sp : Specs} (h : SpecsOK Try.prog sp) : SpecsOK Try.prog (sp_85 sp) := addK_ok Sx06.first_ok h
abbrev sp_106 : Specs → Specs := addK 106 true (pureS Sx06.gStable)
theorem sp_106_ok {sp : Specs} (h : SpecsOK Try.prog sp) : SpecsOK Try.prog (sp_106 sp) := addK_ok Sx06.stable_ok h
abbrev sp_89 : Specs → Specs := addK 89 true (pureS Sx06.gBound)
theorem sp_89_ok {sp : Specs} (h : SpecsOK Try.prog sp) : SpecsOK Try.prog (sp_89 sp) := addK_ok Sx06.bound_ok h
abbrev sp_83 : Specs → Specs := addK 83 true (pureS Sx06.gLeads)
theorem sp_83_ok {sp : Specs} (h : SpecsOK Try.prog sp) : SpecsOK Try.prog (sp_83 sp) := addK_ok Sx06.leads_ok h
abbrev sp_124 : Specs → Specs := addK 124 true (pureS Sx06.gPolyTest)
theorem sp_124_ok {sp : Specs} (h : SpecsOK Try.prog sp) : SpecsOK Try.prog (sp_124 sp) := addK_ok Sx06.polyTest_ok h
abbrev sp_134 : Specs → Specs := addK 134 true (pureS Sx06.gIndexFunc)
theorem sp_134_ok {sp : Specs} (h : SpecsOK Try.prog sp) : SpecsOK Try.prog (sp_134 sp) := addK_ok Sx06.indexFunc_ok h
abbrev sp_123 : Specs → Specs := addK 123 true (pureS Sx06.gContainsFunc)
theorem sp_123_ok {sp : Specs} (h : SpecsOK Try.prog sp) : SpecsOK Try.prog (sp_123 sp) := addK_ok Sx06.containsFunc_ok h
abbrev sp_82 : Specs → Specs := addK 82 true (pureS Sx06.gPolyErr)
theorem sp_82_ok {sp : Specs} (h : SpecsOK Try.prog sp) : SpecsOK Try.prog (sp_82 sp) := addK_ok Sx06.polyErr_ok h
abbrev sp_84 : Specs → Specs := addK 84 true (pureS Sx06.gDown)
theorem sp_84_ok {sp : Specs} (h : SpecsOK Try.prog sp) : SpecsOK Try.prog (sp_84 sp) := addK_ok Sx06.down_ok h
abbrev sp_21 : Specs → Specs := addK 21 true (pureS Sx06.gSchur)
theorem sp_21_ok {sp : Specs} (h : SpecsOK Try.prog sp) : SpecsOK Try.prog (sp_21 sp) := addK_ok Sx06.schur_ok h
abbrev sp_53 : Specs → Specs := addK 53 true (pureS Sx06.gCheckCascade)
theorem sp_53_ok {sp : Specs} (h : SpecsOK Try.prog sp) : SpecsOK Try.prog (sp_53 sp) := addK_ok Sx06.checkCascade_ok h
abbrev sp_86 : Specs → Specs := addK 86 true (pureS Sx06.gCascadeErr)
theorem sp_86_ok {sp : Specs} (h : SpecsOK Try.prog sp) : SpecsOK Try.prog (sp_86 sp) := addK_ok Sx06.cascadeErr_ok h
abbrev sp_92 : Specs → Specs := addK 92 false (effS Sx06.gUnitPut)
theorem sp_92_ok {sp : Specs} (h : SpecsOK Try.prog sp) : SpecsOK Try.prog (sp_92 sp) := addK_ok Sx06.unitPut_ok h
abbrev sp_108 : Specs → Specs := addK 108 true (pureS Sx06.gNewChain)
theorem sp_108_ok {sp : Specs} (h : SpecsOK Try.prog sp) : SpecsOK Try.prog (sp_108 sp) := addK_ok Sx06.newChain_ok h
abbrev sp_109 : Specs → Specs := addK 109 false (effS Sx06.gChainPut)
theorem sp_109_ok {sp : Specs} (h : SpecsOK Try.prog sp) : SpecsOK Try.prog (sp_109 sp) := addK_ok Sx06.chainPut_ok h
end Go.Sh
