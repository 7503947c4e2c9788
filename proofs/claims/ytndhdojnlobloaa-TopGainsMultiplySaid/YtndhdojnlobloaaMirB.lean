/- Mirrors of functions, and their contracts: made by a program of mine. -/
import Derived.Test.YtndhdojnlobloaaMirA
namespace Go.Sh
open Go Go.Proofs Go.RowKit Go.Sx
set_option linter.unusedVariables false

/-- shoebox/shoeboxtop.TopGainsMultiply -/
def T_TopGainsMultiply (aB0 : Int) (aB1 : Int) (aB2 : Int) (aA0 : Int) (aA1 : Int) (bB0 : Int) (bB1 : Int) (bB2 : Int) (bA0 : Int) (bA1 : Int) (tP : Int) (tQ : Int) (tR : Int) : Option Bool :=
  Option.bind (F_GainRange [[aB0, aB1, aB2, aA0, aA1], [bB0, bB1, bB2, bA0, bA1]] tP tQ tR) fun r0 =>
  Option.bind (F_GainRange [[bB0, bB1, bB2, bA0, bA1], [aB0, aB1, aB2, aA0, aA1]] tP tQ tR) fun r1 =>
  if (r0.2.2 != (0 : Int)) = true then
   some true
  else
   if (r1.2.2 != (0 : Int)) = true then
    some true
   else
    if (if r1.1 > r0.1 then r1.1 else r0.1) > if r1.2.1 < r0.2.1 then r1.2.1 else r0.2.1 then
     some false
    else
     Option.bind (F_GainSquare aB0 aB1 aB2 aA0 aA1 tP tQ tR) fun r2 =>
     Option.bind (F_GainSquare bB0 bB1 bB2 bA0 bA1 tP tQ tR) fun r3 =>
     if (r2.2.2 != (0 : Int)) = true then
      some true
     else
      if (r3.2.2 != (0 : Int)) = true then
       some true
      else
       if r2.1 > (1000000 : Int) then
        some true
       else
        if r2.2.1 > (1000000 : Int) then
         some true
        else
         if r3.1 > (1000000 : Int) then
          some true
         else
          if r3.2.1 > (1000000 : Int) then
           some true
          else
           Option.bind (B_Compare r0.1 (1048576 : Int) (IntKind.wrap IntKind.i64 (r2.1 * r3.1)) (IntKind.wrap IntKind.i64 (r2.2.1 * r3.2.1))) fun r4 =>
           if r4 ≤ (0 : Int) then
            Option.bind (B_Compare r0.2.1 (1048576 : Int) (IntKind.wrap IntKind.i64 (r2.1 * r3.1)) (IntKind.wrap IntKind.i64 (r2.2.1 * r3.2.1))) fun r5 =>
            some (decide (r5 ≥ (0 : Int)))
           else
            some false
def g_T_TopGainsMultiply : List A → Option (Prop × List RV)
  | [.s [.i .i64 aB0, .i .i64 aB1, .i .i64 aB2, .i .i64 aA0, .i .i64 aA1], .s [.i .i64 bB0, .i .i64 bB1, .i .i64 bB2, .i .i64 bA0, .i .i64 bA1], .s [.i .i64 tP, .i .i64 tQ, .i .i64 tR]] => some (ok (T_TopGainsMultiply aB0 aB1 aB2 aA0 aA1 bB0 bB1 bB2 bA0 bA1 tP tQ tR), [.d (.b ((val (T_TopGainsMultiply aB0 aB1 aB2 aA0 aA1 bB0 bB1 bB2 bA0 bA1 tP tQ tR))))])
  | _ => none
def k_T_TopGainsMultiply : List (Option Cont) := [none, none, none]
abbrev sp_17 : Specs → Specs := addK 17 true (pureK k_T_TopGainsMultiply g_T_TopGainsMultiply)
set_option maxRecDepth 100000 in
theorem T_TopGainsMultiply_vc (aB0 : Int) (aB1 : Int) (aB2 : Int) (aA0 : Int) (aA1 : Int) (bB0 : Int) (bB1 : Int) (bB2 : Int) (bA0 : Int) (bA1 : Int) (tP : Int) (tQ : Int) (tR : Int) (r : Bool) (h : Option.bind (T_TopGainsMultiply aB0 aB1 aB2 aA0 aA1 bB0 bB1 bB2 bA0 bA1 tP tQ tR) some = some r) : runF Try.f17 ((sp_80 (sp_41 (sp_44 (sp_45 sp0))))) (fun _ _ _ => none) [.s [.i .i64 aB0, .i .i64 aB1, .i .i64 aB2, .i .i64 aA0, .i .i64 aA1], .s [.i .i64 bB0, .i .i64 bB1, .i .i64 bB2, .i .i64 bA0, .i .i64 bA1], .s [.i .i64 tP, .i .i64 tQ, .i .i64 tR]] [.d (.b r)] := by
  refine Eq.mp (by kernel_rfl : (
  (Ob (ok T_filtered) ∧
   (Ob (ok (F_GainRange [[aB0, aB1, aB2, aA0, aA1], [bB0, bB1, bB2, bA0, bA1]] tP tQ tR)) ∧
   (Ob (ok (F_GainRange [[bB0, bB1, bB2, bA0, bA1], [aB0, aB1, aB2, aA0, aA1]] tP tQ tR)) ∧
   Br ((val (F_GainRange [[aB0, aB1, aB2, aA0, aA1], [bB0, bB1, bB2, bA0, bA1]] tP tQ tR)).2.2 != (0 : Int))
   ((Ob (True) ∧
   (Ob (true = r) ∧
   True)))
   (Br ((val (F_GainRange [[bB0, bB1, bB2, bA0, bA1], [aB0, aB1, aB2, aA0, aA1]] tP tQ tR)).2.2 != (0 : Int))
   ((Ob (True) ∧
   (Ob (true = r) ∧
   True)))
   (Br (decide ((if (val (F_GainRange [[bB0, bB1, bB2, bA0, bA1], [aB0, aB1, aB2, aA0, aA1]] tP tQ tR)).1 > (val (F_GainRange [[aB0, aB1, aB2, aA0, aA1], [bB0, bB1, bB2, bA0, bA1]] tP tQ tR)).1 then (val (F_GainRange [[bB0, bB1, bB2, bA0, bA1], [aB0, aB1, aB2, aA0, aA1]] tP tQ tR)).1 else (val (F_GainRange [[aB0, aB1, aB2, aA0, aA1], [bB0, bB1, bB2, bA0, bA1]] tP tQ tR)).1) > if (val (F_GainRange [[bB0, bB1, bB2, bA0, bA1], [aB0, aB1, aB2, aA0, aA1]] tP tQ tR)).2.1 < (val (F_GainRange [[aB0, aB1, aB2, aA0, aA1], [bB0, bB1, bB2, bA0, bA1]] tP tQ tR)).2.1 then (val (F_GainRange [[bB0, bB1, bB2, bA0, bA1], [aB0, aB1, aB2, aA0, aA1]] tP tQ tR)).2.1 else (val (F_GainRange [[aB0, aB1, aB2, aA0, aA1], [bB0, bB1, bB2, bA0, bA1]] tP tQ tR)).2.1))
   ((Ob (True) ∧
   (Ob (false = r) ∧
   True)))
   ((Ob (ok (F_GainSquare aB0 aB1 aB2 aA0 aA1 tP tQ tR)) ∧
   (Ob (ok (F_GainSquare bB0 bB1 bB2 bA0 bA1 tP tQ tR)) ∧
   Br ((val (F_GainSquare aB0 aB1 aB2 aA0 aA1 tP tQ tR)).2.2 != (0 : Int))
   ((Ob (True) ∧
   (Ob (true = r) ∧
   True)))
   (Br ((val (F_GainSquare bB0 bB1 bB2 bA0 bA1 tP tQ tR)).2.2 != (0 : Int))
   ((Ob (True) ∧
   (Ob (true = r) ∧
   True)))
   (Br (decide ((val (F_GainSquare aB0 aB1 aB2 aA0 aA1 tP tQ tR)).1 > (1000000 : Int)))
   ((Ob (True) ∧
   (Ob (true = r) ∧
   True)))
   (Br (decide ((val (F_GainSquare aB0 aB1 aB2 aA0 aA1 tP tQ tR)).2.1 > (1000000 : Int)))
   ((Ob (True) ∧
   (Ob (true = r) ∧
   True)))
   (Br (decide ((val (F_GainSquare bB0 bB1 bB2 bA0 bA1 tP tQ tR)).1 > (1000000 : Int)))
   ((Ob (True) ∧
   (Ob (true = r) ∧
   True)))
   (Br (decide ((val (F_GainSquare bB0 bB1 bB2 bA0 bA1 tP tQ tR)).2.1 > (1000000 : Int)))
   ((Ob (True) ∧
   (Ob (true = r) ∧
   True)))
   ((Ob (ok (B_Compare (val (F_GainRange [[aB0, aB1, aB2, aA0, aA1], [bB0, bB1, bB2, bA0, bA1]] tP tQ tR)).1 (1048576 : Int) (IntKind.wrap IntKind.i64 ((val (F_GainSquare aB0 aB1 aB2 aA0 aA1 tP tQ tR)).1 * (val (F_GainSquare bB0 bB1 bB2 bA0 bA1 tP tQ tR)).1)) (IntKind.wrap IntKind.i64 ((val (F_GainSquare aB0 aB1 aB2 aA0 aA1 tP tQ tR)).2.1 * (val (F_GainSquare bB0 bB1 bB2 bA0 bA1 tP tQ tR)).2.1)))) ∧
   Br (decide (val (B_Compare (val (F_GainRange [[aB0, aB1, aB2, aA0, aA1], [bB0, bB1, bB2, bA0, bA1]] tP tQ tR)).1 (1048576 : Int) (IntKind.wrap IntKind.i64 ((val (F_GainSquare aB0 aB1 aB2 aA0 aA1 tP tQ tR)).1 * (val (F_GainSquare bB0 bB1 bB2 bA0 bA1 tP tQ tR)).1)) (IntKind.wrap IntKind.i64 ((val (F_GainSquare aB0 aB1 aB2 aA0 aA1 tP tQ tR)).2.1 * (val (F_GainSquare bB0 bB1 bB2 bA0 bA1 tP tQ tR)).2.1))) ≤ (0 : Int)))
   ((Ob (ok (B_Compare (val (F_GainRange [[aB0, aB1, aB2, aA0, aA1], [bB0, bB1, bB2, bA0, bA1]] tP tQ tR)).2.1 (1048576 : Int) (IntKind.wrap IntKind.i64 ((val (F_GainSquare aB0 aB1 aB2 aA0 aA1 tP tQ tR)).1 * (val (F_GainSquare bB0 bB1 bB2 bA0 bA1 tP tQ tR)).1)) (IntKind.wrap IntKind.i64 ((val (F_GainSquare aB0 aB1 aB2 aA0 aA1 tP tQ tR)).2.1 * (val (F_GainSquare bB0 bB1 bB2 bA0 bA1 tP tQ tR)).2.1)))) ∧
   (Ob (True) ∧
   (Ob (decide (val (B_Compare (val (F_GainRange [[aB0, aB1, aB2, aA0, aA1], [bB0, bB1, bB2, bA0, bA1]] tP tQ tR)).2.1 (1048576 : Int) (IntKind.wrap IntKind.i64 ((val (F_GainSquare aB0 aB1 aB2 aA0 aA1 tP tQ tR)).1 * (val (F_GainSquare bB0 bB1 bB2 bA0 bA1 tP tQ tR)).1)) (IntKind.wrap IntKind.i64 ((val (F_GainSquare aB0 aB1 aB2 aA0 aA1 tP tQ tR)).2.1 * (val (F_GainSquare bB0 bB1 bB2 bA0 bA1 tP tQ tR)).2.1))) ≥ (0 : Int)) = r) ∧
   True))))
   ((Ob (True) ∧
   (Ob (false = r) ∧
   True))))))))))))))))))) = _) ?_
  refine ob_c (p := ok T_filtered) (by decide) ?_
  refine call_s h fun h => ?_
  refine call_s h fun h => ?_
  refine br_b h (fun h => ?_) (fun h => ?_)
  · refine ob_t ?_
    exact ret_s h (fun e => by subst e; exact (by repeat' (first | exact trivial | exact ⟨rfl⟩ | refine And.intro ?_ ?_)))
  · refine br_b h (fun h => ?_) (fun h => ?_)
    · refine ob_t ?_
      exact ret_s h (fun e => by subst e; exact (by repeat' (first | exact trivial | exact ⟨rfl⟩ | refine And.intro ?_ ?_)))
    · refine br_d h (fun h => ?_) (fun h => ?_)
      · refine ob_t ?_
        exact ret_s h (fun e => by subst e; exact (by repeat' (first | exact trivial | exact ⟨rfl⟩ | refine And.intro ?_ ?_)))
      · refine call_s h fun h => ?_
        refine call_s h fun h => ?_
        refine br_b h (fun h => ?_) (fun h => ?_)
        · refine ob_t ?_
          exact ret_s h (fun e => by subst e; exact (by repeat' (first | exact trivial | exact ⟨rfl⟩ | refine And.intro ?_ ?_)))
        · refine br_b h (fun h => ?_) (fun h => ?_)
          · refine ob_t ?_
            exact ret_s h (fun e => by subst e; exact (by repeat' (first | exact trivial | exact ⟨rfl⟩ | refine And.intro ?_ ?_)))
          · refine br_d h (fun h => ?_) (fun h => ?_)
            · refine ob_t ?_
              exact ret_s h (fun e => by subst e; exact (by repeat' (first | exact trivial | exact ⟨rfl⟩ | refine And.intro ?_ ?_)))
            · refine br_d h (fun h => ?_) (fun h => ?_)
              · refine ob_t ?_
                exact ret_s h (fun e => by subst e; exact (by repeat' (first | exact trivial | exact ⟨rfl⟩ | refine And.intro ?_ ?_)))
              · refine br_d h (fun h => ?_) (fun h => ?_)
                · refine ob_t ?_
                  exact ret_s h (fun e => by subst e; exact (by repeat' (first | exact trivial | exact ⟨rfl⟩ | refine And.intro ?_ ?_)))
                · refine br_d h (fun h => ?_) (fun h => ?_)
                  · refine ob_t ?_
                    exact ret_s h (fun e => by subst e; exact (by repeat' (first | exact trivial | exact ⟨rfl⟩ | refine And.intro ?_ ?_)))
                  · refine call_s h fun h => ?_
                    refine br_d h (fun h => ?_) (fun h => ?_)
                    · refine call_s h fun h => ?_
                      refine ob_t ?_
                      exact ret_s h (fun e => by subst e; exact (by repeat' (first | exact trivial | exact ⟨rfl⟩ | refine And.intro ?_ ?_)))
                    · refine ob_t ?_
                      exact ret_s h (fun e => by subst e; exact (by repeat' (first | exact trivial | exact ⟨rfl⟩ | refine And.intro ?_ ?_)))
set_option maxRecDepth 100000 in
theorem T_TopGainsMultiply_ok : SpecOK Try.prog 17 true (pureK k_T_TopGainsMultiply g_T_TopGainsMultiply) := by
  refine pureK_ok (sp := (sp_80 (sp_41 (sp_44 (sp_45 sp0))))) (fn := Try.f17) (body := bodyOf Try.f17) mixed (sp_80_ok (sp_41_ok (sp_44_ok (sp_45_ok sp0_ok)))) Try.func17 (by kernel_rfl) (by kernel_rfl) fun as_ ob rs h ho => ?_
  unfold g_T_TopGainsMultiply at h
  split at h
  · rename_i aB0 aB1 aB2 aA0 aA1 bB0 bB1 bB2 bA0 bA1 tP tQ tR
    cases h
    exact ⟨Nat.le_of_ble_eq_true rfl, _, _, T_TopGainsMultiply_vc aB0 aB1 aB2 aA0 aA1 bB0 bB1 bB2 bA0 bA1 tP tQ tR _ (ok_some ho)⟩
  · cases h
theorem sp_17_ok {sp : Specs} (h : SpecsOK Try.prog sp) : SpecsOK Try.prog (sp_17 sp) := addK_ok T_TopGainsMultiply_ok h
end Go.Sh
