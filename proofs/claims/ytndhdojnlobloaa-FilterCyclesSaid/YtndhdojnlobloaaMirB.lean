/- Mirrors of functions, and their contracts: made by a program of mine. -/
import Derived.Test.YtndhdojnlobloaaMirA
set_option linter.unusedSectionVars false
set_option linter.unusedSimpArgs false
set_option linter.unusedVariables false
namespace Go.Sh
open Go Go.Proofs Go.RowKit Go.Sx
set_option linter.unusedVariables false
def k_F_CycleOf : List (Option Cont) := [none, none]
def F_CycleOf_b0 (sB0 : Int) (sB1 : Int) (sB2 : Int) (sA0 : Int) (sA1 : Int) (x0 : (Int × Int × Int × Int × List ((Int × Int) × Int))) : Option ((Int × Int × Int × Int × List ((Int × Int) × Int)) ⊕ ((Int × Int) ⊕ Unit)) :=
  if x0.1 < (1001 : Int) then
   if (Option.isSome (mapGet x0.2.2.2.2 x0.2.1 x0.2.2.1)) = true then
   some (.inr ((.inl ((Option.getD (mapGet x0.2.2.2.2 x0.2.1 x0.2.2.1) (0 : Int), IntKind.wrap IntKind.i64 (x0.1 - Option.getD (mapGet x0.2.2.2.2 x0.2.1 x0.2.2.1) (0 : Int)))))))
   else
   if (-4611686018427387904 : Int) < (2 : Int) * nB sB0 sB1 sB2 sA0 sA1 (0 : Int) (0 : Int) x0.2.1 x0.2.2.1 (0 : Int) + (16384 : Int) ∧ (2 : Int) * nB sB0 sB1 sB2 sA0 sA1 (0 : Int) (0 : Int) x0.2.1 x0.2.2.1 (0 : Int) + (16384 : Int) < (4611686018427387904 : Int) then
   some (.inl ((IntKind.wrap IntKind.i64 (x0.1 + (1 : Int)), oB sB0 sB1 sB2 sA0 sA1 (0 : Int) (0 : Int) x0.2.1 x0.2.2.1 (0 : Int), x0.2.1, cB sB0 sB1 sB2 sA0 sA1 (0 : Int) (0 : Int) x0.2.1 x0.2.2.1 x0.2.2.2.1 (0 : Int), mapPut x0.2.2.2.2 x0.2.1 x0.2.2.1 x0.1)))
   else none
  else
   some (.inr ((.inr ())))
def F_CycleOf_r0_0 (y0_0 : Int × Int) : Option (Int × Int × Int) :=
  some ((y0_0.1, y0_0.2, (0 : Int)))
def F_CycleOf_r0_1 (y0_1 : Unit) : Option (Int × Int × Int) :=
  some (((0 : Int), (0 : Int), (8 : Int)))
def F_CycleOf_r0 : ((Int × Int) ⊕ Unit) → Option (Int × Int × Int) :=
  (Sum.elim (F_CycleOf_r0_0) (F_CycleOf_r0_1))
/-- shoebox/filter.CycleOf -/
def F_CycleOf (sB0 : Int) (sB1 : Int) (sB2 : Int) (sA0 : Int) (sA1 : Int) (y_0 : Int) (y_1 : Int) : Option (Int × Int × Int) :=
  if (decide ((-32767 : Int) ≤ y_0) && decide (y_0 ≤ (32767 : Int))) = true then
   if List.length [Sx06.chkS sB0 sB1 sB2 sA0 sA1, if (decide ((-32767 : Int) ≤ y_1) && decide (y_1 ≤ (32767 : Int))) = true then (0 : Int) else (2 : Int)] ≤ (1000000 : Nat) then
   if (Option.getD (List.find? (fun x => x != (0 : Int)) [Sx06.chkS sB0 sB1 sB2 sA0 sA1, if (decide ((-32767 : Int) ≤ y_1) && decide (y_1 ≤ (32767 : Int))) = true then (0 : Int) else (2 : Int)]) (0 : Int) != (0 : Int)) = true then
   some (((0 : Int), (0 : Int), Option.getD (List.find? (fun x => x != (0 : Int)) [Sx06.chkS sB0 sB1 sB2 sA0 sA1, if (decide ((-32767 : Int) ≤ y_1) && decide (y_1 ≤ (32767 : Int))) = true then (0 : Int) else (2 : Int)]) (0 : Int)))
   else
   Option.bind (iter (F_CycleOf_b0 sB0 sB1 sB2 sA0 sA1) big (((0 : Int), y_0, y_1, (0 : Int), []))) (F_CycleOf_r0)
   else none
  else
   if List.length [Sx06.chkS sB0 sB1 sB2 sA0 sA1, if false = true then (0 : Int) else (2 : Int)] ≤ (1000000 : Nat) then
   if (Option.getD (List.find? (fun x => x != (0 : Int)) [Sx06.chkS sB0 sB1 sB2 sA0 sA1, if false = true then (0 : Int) else (2 : Int)]) (0 : Int) != (0 : Int)) = true then
   some (((0 : Int), (0 : Int), Option.getD (List.find? (fun x => x != (0 : Int)) [Sx06.chkS sB0 sB1 sB2 sA0 sA1, if false = true then (0 : Int) else (2 : Int)]) (0 : Int)))
   else
   Option.bind (iter (F_CycleOf_b0 sB0 sB1 sB2 sA0 sA1) big (((0 : Int), y_0, y_1, (0 : Int), []))) (F_CycleOf_r0)
   else none
def g_F_CycleOf : List A → Option (Prop × List RV)
  | [.s [.i .i64 sB0, .i .i64 sB1, .i .i64 sB2, .i .i64 sA0, .i .i64 sA1], .s [.i .i64 y_0, .i .i64 y_1]] => some (ok (F_CycleOf sB0 sB1 sB2 sA0 sA1 y_0 y_1), [.s [.i .i64 ((val (F_CycleOf sB0 sB1 sB2 sA0 sA1 y_0 y_1)).1), .i .i64 ((val (F_CycleOf sB0 sB1 sB2 sA0 sA1 y_0 y_1)).2.1)], .d (.i .i64 ((val (F_CycleOf sB0 sB1 sB2 sA0 sA1 y_0 y_1)).2.2))])
  | _ => none
abbrev sp_36 : Specs → Specs := addK 36 true (pureK k_F_CycleOf g_F_CycleOf)
set_option maxRecDepth 100000 in
theorem F_CycleOf_vc (sB0 : Int) (sB1 : Int) (sB2 : Int) (sA0 : Int) (sA1 : Int) (y_0 : Int) (y_1 : Int) (r : Int × Int × Int) (h : Option.bind (F_CycleOf sB0 sB1 sB2 sA0 sA1 y_0 y_1) some = some r) : runF Try.f36 ((sp_57 (sp_91 (sp_87 (sp_85 (sp_92b sp0)))))) (fun gs id _ => match id with
 | 0 => some ⟨(Int × Int × Int × Int × List ((Int × Int) × Int)) × Nat, fun z => ⟨[(4, .w (.c (.p 2 (0 : Nat) 1 (0 : Nat)))), (7, .w (.c (.p 3 (0 : Nat) 1 (0 : Nat)))), (8, .w (.c (.o 4))), (34, .w (.c (.d (.i .i64 (Prod.fst (Prod.fst z))))))], [(2, .box 54 [.d (.i .i64 (0 : Int)), .d (.i .i64 (0 : Int))]), (3, .box 158 [.d (.i .i64 sB0), .d (.i .i64 sB1), .d (.i .i64 sB2), .d (.i .i64 sA0), .d (.i .i64 sA1), .d (.i .i64 (0 : Int)), .d (.i .i64 (0 : Int)), .d (.i .i64 (Prod.fst (Prod.snd (Prod.fst z)))), .d (.i .i64 (Prod.fst (Prod.snd (Prod.snd (Prod.fst z))))), .d (.i .i64 (Prod.fst (Prod.snd (Prod.snd (Prod.snd (Prod.fst z))))))]), (4, .map (Prod.snd (Prod.snd (Prod.snd (Prod.snd (Prod.fst z))))))], 5⟩, fun z => Option.bind (iter (F_CycleOf_b0 sB0 sB1 sB2 sA0 sA1) (Prod.snd z) (Prod.fst z)) (fun y0 => Option.bind (F_CycleOf_r0 y0) some) = some r, fun z => Prod.snd z⟩
 | _ => none) [.s [.i .i64 sB0, .i .i64 sB1, .i .i64 sB2, .i .i64 sA0, .i .i64 sA1], .s [.i .i64 y_0, .i .i64 y_1]] [.s [.i .i64 r.1, .i .i64 r.2.1], .d (.i .i64 r.2.2)] := by
  refine Eq.mp (by kernel_rfl : (
  (Ob (True) ∧
   (Ob ((0 : Int) ≤ (0 : Int) ∧ (0 : Int) < (↑(2 : Nat) : Int)) ∧
   (Ob ((-9223372036854775807 : Int) ≤ (32767 : Int) ∧ (32767 : Int) ≤ (9223372036854775807 : Int)) ∧
   Br (decide ((-32767 : Int) ≤ y_0) && decide (y_0 ≤ (32767 : Int)))
   ((Ob ((0 : Int) ≤ (1 : Int) ∧ (1 : Int) < (↑(2 : Nat) : Int)) ∧
   (Ob ((-9223372036854775807 : Int) ≤ (32767 : Int) ∧ (32767 : Int) ≤ (9223372036854775807 : Int)) ∧
   (Ob (True) ∧
   (Ob (List.length [Sx06.chkS sB0 sB1 sB2 sA0 sA1, if (decide ((-32767 : Int) ≤ y_1) && decide (y_1 ≤ (32767 : Int))) = true then (0 : Int) else (2 : Int)] ≤ (1000000 : Nat)) ∧
   Br (Option.getD (List.find? (fun x => x != (0 : Int)) [Sx06.chkS sB0 sB1 sB2 sA0 sA1, if (decide ((-32767 : Int) ≤ y_1) && decide (y_1 ≤ (32767 : Int))) = true then (0 : Int) else (2 : Int)]) (0 : Int) != (0 : Int))
   ((Ob (True) ∧
   (Ob (True) ∧
   (Ob ((0 : Int) = r.1) ∧
   (Ob ((0 : Int) = r.2.1) ∧
   (Ob (Option.getD (List.find? (fun x => x != (0 : Int)) [Sx06.chkS sB0 sB1 sB2 sA0 sA1, if (decide ((-32767 : Int) ≤ y_1) && decide (y_1 ≤ (32767 : Int))) = true then (0 : Int) else (2 : Int)]) (0 : Int) = r.2.2) ∧
   True))))))
   ((Ob (True) ∧
   ((∃ (v0 : (Int × Int × Int × Int × List ((Int × Int) × Int)) × Nat), (Ob ((Option.bind (iter (F_CycleOf_b0 sB0 sB1 sB2 sA0 sA1) v0.2 v0.1) fun y0 => Option.bind (F_CycleOf_r0 y0) some) = some r) ∧
   (Ob ((0 : Nat) = (0 : Nat)) ∧
   (Ob ((0 : Nat) = (0 : Nat)) ∧
   (Ob ((0 : Int) = v0.1.1) ∧
   (Ob ((0 : Int) = (0 : Int)) ∧
   (Ob ((0 : Int) = (0 : Int)) ∧
   (Ob (sB0 = sB0) ∧
   (Ob (sB1 = sB1) ∧
   (Ob (sB2 = sB2) ∧
   (Ob (sA0 = sA0) ∧
   (Ob (sA1 = sA1) ∧
   (Ob ((0 : Int) = (0 : Int)) ∧
   (Ob ((0 : Int) = (0 : Int)) ∧
   (Ob (y_0 = v0.1.2.1) ∧
   (Ob (y_1 = v0.1.2.2.1) ∧
   (Ob ((0 : Int) = v0.1.2.2.2.1) ∧
   (Ob ([] = v0.1.2.2.2.2) ∧
   True)))))))))))))))))) ∧
   (∀ (v0 : (Int × Int × Int × Int × List ((Int × Int) × Int)) × Nat), ((Option.bind (iter (F_CycleOf_b0 sB0 sB1 sB2 sA0 sA1) v0.2 v0.1) fun y0 => Option.bind (F_CycleOf_r0 y0) some) = some r →
   Br (decide (v0.1.1 < (1001 : Int)))
   ((Ob (True) ∧
   Br (Option.isSome (mapGet v0.1.2.2.2.2 v0.1.2.1 v0.1.2.2.1))
   ((Ob (True) ∧
   (Ob (True) ∧
   (Ob (Option.getD (mapGet v0.1.2.2.2.2 v0.1.2.1 v0.1.2.2.1) (0 : Int) = r.1) ∧
   (Ob (IntKind.wrap IntKind.i64 (v0.1.1 - Option.getD (mapGet v0.1.2.2.2.2 v0.1.2.1 v0.1.2.2.1) (0 : Int)) = r.2.1) ∧
   (Ob ((0 : Int) = r.2.2) ∧
   True))))))
   ((Ob (True) ∧
   (Ob ((-4611686018427387904 : Int) < (2 : Int) * nB sB0 sB1 sB2 sA0 sA1 (0 : Int) (0 : Int) v0.1.2.1 v0.1.2.2.1 (0 : Int) + (16384 : Int) ∧ (2 : Int) * nB sB0 sB1 sB2 sA0 sA1 (0 : Int) (0 : Int) v0.1.2.1 v0.1.2.2.1 (0 : Int) + (16384 : Int) < (4611686018427387904 : Int)) ∧
   (∃ (v1 : (Int × Int × Int × Int × List ((Int × Int) × Int)) × Nat), (Ob ((Option.bind (iter (F_CycleOf_b0 sB0 sB1 sB2 sA0 sA1) v1.2 v1.1) fun y0 => Option.bind (F_CycleOf_r0 y0) some) = some r) ∧
   (Ob (v1.2 < v0.2) ∧
   (Ob ((0 : Nat) = (0 : Nat)) ∧
   (Ob ((0 : Nat) = (0 : Nat)) ∧
   (Ob (IntKind.wrap IntKind.i64 (v0.1.1 + (1 : Int)) = v1.1.1) ∧
   (Ob ((0 : Int) = (0 : Int)) ∧
   (Ob ((0 : Int) = (0 : Int)) ∧
   (Ob (sB0 = sB0) ∧
   (Ob (sB1 = sB1) ∧
   (Ob (sB2 = sB2) ∧
   (Ob (sA0 = sA0) ∧
   (Ob (sA1 = sA1) ∧
   (Ob ((0 : Int) = (0 : Int)) ∧
   (Ob ((0 : Int) = (0 : Int)) ∧
   (Ob (oB sB0 sB1 sB2 sA0 sA1 (0 : Int) (0 : Int) v0.1.2.1 v0.1.2.2.1 (0 : Int) = v1.1.2.1) ∧
   (Ob (v0.1.2.1 = v1.1.2.2.1) ∧
   (Ob (cB sB0 sB1 sB2 sA0 sA1 (0 : Int) (0 : Int) v0.1.2.1 v0.1.2.2.1 v0.1.2.2.2.1 (0 : Int) = v1.1.2.2.2.1) ∧
   (Ob (mapPut v0.1.2.2.2.2 v0.1.2.1 v0.1.2.2.1 v0.1.1 = v1.1.2.2.2.2) ∧
   True))))))))))))))))))))))))
   ((Ob (True) ∧
   (Ob (True) ∧
   (Ob ((0 : Int) = r.1) ∧
   (Ob ((0 : Int) = r.2.1) ∧
   (Ob ((8 : Int) = r.2.2) ∧
   True))))))))))))))))
   ((Ob (True) ∧
   (Ob (List.length [Sx06.chkS sB0 sB1 sB2 sA0 sA1, if false = true then (0 : Int) else (2 : Int)] ≤ (1000000 : Nat)) ∧
   Br (Option.getD (List.find? (fun x => x != (0 : Int)) [Sx06.chkS sB0 sB1 sB2 sA0 sA1, if false = true then (0 : Int) else (2 : Int)]) (0 : Int) != (0 : Int))
   ((Ob (True) ∧
   (Ob (True) ∧
   (Ob ((0 : Int) = r.1) ∧
   (Ob ((0 : Int) = r.2.1) ∧
   (Ob (Option.getD (List.find? (fun x => x != (0 : Int)) [Sx06.chkS sB0 sB1 sB2 sA0 sA1, if false = true then (0 : Int) else (2 : Int)]) (0 : Int) = r.2.2) ∧
   True))))))
   ((Ob (True) ∧
   ((∃ (v0 : (Int × Int × Int × Int × List ((Int × Int) × Int)) × Nat), (Ob ((Option.bind (iter (F_CycleOf_b0 sB0 sB1 sB2 sA0 sA1) v0.2 v0.1) fun y0 => Option.bind (F_CycleOf_r0 y0) some) = some r) ∧
   (Ob ((0 : Nat) = (0 : Nat)) ∧
   (Ob ((0 : Nat) = (0 : Nat)) ∧
   (Ob ((0 : Int) = v0.1.1) ∧
   (Ob ((0 : Int) = (0 : Int)) ∧
   (Ob ((0 : Int) = (0 : Int)) ∧
   (Ob (sB0 = sB0) ∧
   (Ob (sB1 = sB1) ∧
   (Ob (sB2 = sB2) ∧
   (Ob (sA0 = sA0) ∧
   (Ob (sA1 = sA1) ∧
   (Ob ((0 : Int) = (0 : Int)) ∧
   (Ob ((0 : Int) = (0 : Int)) ∧
   (Ob (y_0 = v0.1.2.1) ∧
   (Ob (y_1 = v0.1.2.2.1) ∧
   (Ob ((0 : Int) = v0.1.2.2.2.1) ∧
   (Ob ([] = v0.1.2.2.2.2) ∧
   True)))))))))))))))))) ∧
   (∀ (v0 : (Int × Int × Int × Int × List ((Int × Int) × Int)) × Nat), ((Option.bind (iter (F_CycleOf_b0 sB0 sB1 sB2 sA0 sA1) v0.2 v0.1) fun y0 => Option.bind (F_CycleOf_r0 y0) some) = some r →
   Br (decide (v0.1.1 < (1001 : Int)))
   ((Ob (True) ∧
   Br (Option.isSome (mapGet v0.1.2.2.2.2 v0.1.2.1 v0.1.2.2.1))
   ((Ob (True) ∧
   (Ob (True) ∧
   (Ob (Option.getD (mapGet v0.1.2.2.2.2 v0.1.2.1 v0.1.2.2.1) (0 : Int) = r.1) ∧
   (Ob (IntKind.wrap IntKind.i64 (v0.1.1 - Option.getD (mapGet v0.1.2.2.2.2 v0.1.2.1 v0.1.2.2.1) (0 : Int)) = r.2.1) ∧
   (Ob ((0 : Int) = r.2.2) ∧
   True))))))
   ((Ob (True) ∧
   (Ob ((-4611686018427387904 : Int) < (2 : Int) * nB sB0 sB1 sB2 sA0 sA1 (0 : Int) (0 : Int) v0.1.2.1 v0.1.2.2.1 (0 : Int) + (16384 : Int) ∧ (2 : Int) * nB sB0 sB1 sB2 sA0 sA1 (0 : Int) (0 : Int) v0.1.2.1 v0.1.2.2.1 (0 : Int) + (16384 : Int) < (4611686018427387904 : Int)) ∧
   (∃ (v1 : (Int × Int × Int × Int × List ((Int × Int) × Int)) × Nat), (Ob ((Option.bind (iter (F_CycleOf_b0 sB0 sB1 sB2 sA0 sA1) v1.2 v1.1) fun y0 => Option.bind (F_CycleOf_r0 y0) some) = some r) ∧
   (Ob (v1.2 < v0.2) ∧
   (Ob ((0 : Nat) = (0 : Nat)) ∧
   (Ob ((0 : Nat) = (0 : Nat)) ∧
   (Ob (IntKind.wrap IntKind.i64 (v0.1.1 + (1 : Int)) = v1.1.1) ∧
   (Ob ((0 : Int) = (0 : Int)) ∧
   (Ob ((0 : Int) = (0 : Int)) ∧
   (Ob (sB0 = sB0) ∧
   (Ob (sB1 = sB1) ∧
   (Ob (sB2 = sB2) ∧
   (Ob (sA0 = sA0) ∧
   (Ob (sA1 = sA1) ∧
   (Ob ((0 : Int) = (0 : Int)) ∧
   (Ob ((0 : Int) = (0 : Int)) ∧
   (Ob (oB sB0 sB1 sB2 sA0 sA1 (0 : Int) (0 : Int) v0.1.2.1 v0.1.2.2.1 (0 : Int) = v1.1.2.1) ∧
   (Ob (v0.1.2.1 = v1.1.2.2.1) ∧
   (Ob (cB sB0 sB1 sB2 sA0 sA1 (0 : Int) (0 : Int) v0.1.2.1 v0.1.2.2.1 v0.1.2.2.2.1 (0 : Int) = v1.1.2.2.2.1) ∧
   (Ob (mapPut v0.1.2.2.2.2 v0.1.2.1 v0.1.2.2.1 v0.1.1 = v1.1.2.2.2.2) ∧
   True))))))))))))))))))))))))
   ((Ob (True) ∧
   (Ob (True) ∧
   (Ob ((0 : Int) = r.1) ∧
   (Ob ((0 : Int) = r.2.1) ∧
   (Ob ((8 : Int) = r.2.2) ∧
   True)))))))))))))))))) = _) ?_
  refine ob_t ?_
  refine ob_c (p := (0 : Int) ≤ (0 : Int) ∧ (0 : Int) < (↑(2 : Nat) : Int)) (by decide) ?_
  refine ob_c (p := (-9223372036854775807 : Int) ≤ (32767 : Int) ∧ (32767 : Int) ≤ (9223372036854775807 : Int)) (by decide) ?_
  refine br_b h (fun h => ?_) (fun h => ?_)
  · refine ob_c (p := (0 : Int) ≤ (1 : Int) ∧ (1 : Int) < (↑(2 : Nat) : Int)) (by decide) ?_
    refine ob_c (p := (-9223372036854775807 : Int) ≤ (32767 : Int) ∧ (32767 : Int) ≤ (9223372036854775807 : Int)) (by decide) ?_
    refine ob_t ?_
    refine ob_s h fun h => ?_
    refine br_b h (fun h => ?_) (fun h => ?_)
    · refine ob_t ?_
      refine ob_t ?_
      exact ret_s h (fun e => by subst e; exact (by repeat' (first | exact trivial | exact ⟨rfl⟩ | refine And.intro ?_ ?_)))
    · refine ob_t ?_
      refine ⟨⟨(((0 : Int), y_0, y_1, (0 : Int), []), big), ⟨loop_s h⟩, (by repeat' (first | exact trivial | exact ⟨rfl⟩ | refine And.intro ?_ ?_))⟩, fun z0 hz0 => ?_⟩
      obtain ⟨k0, hm0, h⟩ := iter_pos hz0
      refine br_d h (fun h => ?_) (fun h => ?_)
      · refine ob_t ?_
        refine br_b h (fun h => ?_) (fun h => ?_)
        · have h := exit_s h
          refine ob_t ?_
          refine ob_t ?_
          exact ret_s h (fun e => by subst e; exact (by repeat' (first | exact trivial | exact ⟨rfl⟩ | refine And.intro ?_ ?_)))
        · refine ob_t ?_
          refine ob_s h fun h => ?_
          exact ⟨((IntKind.wrap IntKind.i64 ((Prod.fst z0).1 + (1 : Int)), oB sB0 sB1 sB2 sA0 sA1 (0 : Int) (0 : Int) (Prod.fst z0).2.1 (Prod.fst z0).2.2.1 (0 : Int), (Prod.fst z0).2.1, cB sB0 sB1 sB2 sA0 sA1 (0 : Int) (0 : Int) (Prod.fst z0).2.1 (Prod.fst z0).2.2.1 (Prod.fst z0).2.2.2.1 (0 : Int), mapPut (Prod.fst z0).2.2.2.2 (Prod.fst z0).2.1 (Prod.fst z0).2.2.1 (Prod.fst z0).1), k0), ⟨next_s h⟩, ⟨lt_gs hm0.symm⟩, (by repeat' (first | exact trivial | exact ⟨rfl⟩ | refine And.intro ?_ ?_))⟩
      · have h := exit_s h
        refine ob_t ?_
        refine ob_t ?_
        exact ret_s h (fun e => by subst e; exact (by repeat' (first | exact trivial | exact ⟨rfl⟩ | refine And.intro ?_ ?_)))
  · refine ob_t ?_
    refine ob_s h fun h => ?_
    refine br_b h (fun h => ?_) (fun h => ?_)
    · refine ob_t ?_
      refine ob_t ?_
      exact ret_s h (fun e => by subst e; exact (by repeat' (first | exact trivial | exact ⟨rfl⟩ | refine And.intro ?_ ?_)))
    · refine ob_t ?_
      refine ⟨⟨(((0 : Int), y_0, y_1, (0 : Int), []), big), ⟨loop_s h⟩, (by repeat' (first | exact trivial | exact ⟨rfl⟩ | refine And.intro ?_ ?_))⟩, fun z1 hz1 => ?_⟩
      obtain ⟨k1, hm1, h⟩ := iter_pos hz1
      refine br_d h (fun h => ?_) (fun h => ?_)
      · refine ob_t ?_
        refine br_b h (fun h => ?_) (fun h => ?_)
        · have h := exit_s h
          refine ob_t ?_
          refine ob_t ?_
          exact ret_s h (fun e => by subst e; exact (by repeat' (first | exact trivial | exact ⟨rfl⟩ | refine And.intro ?_ ?_)))
        · refine ob_t ?_
          refine ob_s h fun h => ?_
          exact ⟨((IntKind.wrap IntKind.i64 ((Prod.fst z1).1 + (1 : Int)), oB sB0 sB1 sB2 sA0 sA1 (0 : Int) (0 : Int) (Prod.fst z1).2.1 (Prod.fst z1).2.2.1 (0 : Int), (Prod.fst z1).2.1, cB sB0 sB1 sB2 sA0 sA1 (0 : Int) (0 : Int) (Prod.fst z1).2.1 (Prod.fst z1).2.2.1 (Prod.fst z1).2.2.2.1 (0 : Int), mapPut (Prod.fst z1).2.2.2.2 (Prod.fst z1).2.1 (Prod.fst z1).2.2.1 (Prod.fst z1).1), k1), ⟨next_s h⟩, ⟨lt_gs hm1.symm⟩, (by repeat' (first | exact trivial | exact ⟨rfl⟩ | refine And.intro ?_ ?_))⟩
      · have h := exit_s h
        refine ob_t ?_
        refine ob_t ?_
        exact ret_s h (fun e => by subst e; exact (by repeat' (first | exact trivial | exact ⟨rfl⟩ | refine And.intro ?_ ?_)))
set_option maxRecDepth 100000 in
theorem F_CycleOf_ok : SpecOK Try.prog 36 true (pureK k_F_CycleOf g_F_CycleOf) := by
  refine pureK_ok (sp := (sp_57 (sp_91 (sp_87 (sp_85 (sp_92b sp0)))))) (fn := Try.f36) (body := bodyOf Try.f36) mixed (sp_57_ok (sp_91_ok (sp_87_ok (sp_85_ok (sp_92b_ok sp0_ok))))) Try.func36 (by kernel_rfl) (by kernel_rfl) fun as_ ob rs h ho => ?_
  unfold g_F_CycleOf at h
  split at h
  · rename_i sB0 sB1 sB2 sA0 sA1 y_0 y_1
    cases h
    exact ⟨Nat.le_of_ble_eq_true rfl, _, _, F_CycleOf_vc sB0 sB1 sB2 sA0 sA1 y_0 y_1 _ (ok_some ho)⟩
  · cases h
theorem sp_36_ok {sp : Specs} (h : SpecsOK Try.prog sp) : SpecsOK Try.prog (sp_36 sp) := addK_ok F_CycleOf_ok h

def k_R06_CycleOf : List (Option Cont) := [none, none]
def R06_CycleOf_b1 (x0 : Int × Int × Int × Int × Int × List (List Int)) (r2 : Int × Bool × Int × Int × Int × Int) (x1 : Int) : Option (Int ⊕ ((Int × Int) ⊕ Unit)) :=
  if x1 < (↑(List.length x0.2.2.2.2.2) : Int) then
   if (0 : Int) ≤ x1 ∧ x1 < (↑(List.length x0.2.2.2.2.2) : Int) then
   if Int.toNat x1 < List.length x0.2.2.2.2.2 then
   if (List.getD (List.getD x0.2.2.2.2.2 (Int.toNat x1) []) (0 : Nat) (0 : Int) == r2.2.2.2.2.1 && List.getD (List.getD x0.2.2.2.2.2 (Int.toNat x1) []) (1 : Nat) (0 : Int) == r2.2.2.2.2.2) = true then
   some (.inr ((.inl ((x1, IntKind.wrap IntKind.i64 (x0.1 - x1))))))
   else
   some (.inl (IntKind.wrap IntKind.i64 (x1 + (1 : Int))))
   else none
   else none
  else
   some (.inr ((.inr ())))
def R06_CycleOf_r1_0 (x0 : Int × Int × Int × Int × Int × List (List Int)) (r2 : Int × Bool × Int × Int × Int × Int) (y1_0 : Int × Int) : Option ((Int × Int × Int × Int × Int × List (List Int)) ⊕ ((Int × Int) ⊕ Unit)) :=
  some (.inr ((.inl (Prod.fst y1_0, Prod.snd y1_0))))
def R06_CycleOf_r1_1 (x0 : Int × Int × Int × Int × Int × List (List Int)) (r2 : Int × Bool × Int × Int × Int × Int) (y1_1 : Unit) : Option ((Int × Int × Int × Int × Int × List (List Int)) ⊕ ((Int × Int) ⊕ Unit)) :=
  if (List.length x0.2.2.2.2.2 + List.length [[r2.2.2.2.2.1, r2.2.2.2.2.2]]) * (16 : Nat) ≤ (140737488355328 : Nat) ∧ List.length x0.2.2.2.2.2 + List.length [[r2.2.2.2.2.1, r2.2.2.2.2.2]] ≤ (9223372036854775807 : Nat) then
   some (.inl ((IntKind.wrap IntKind.i64 (x0.1 + (1 : Int)), r2.2.2.1, r2.2.2.2.1, r2.2.2.2.2.1, r2.2.2.2.2.2, x0.2.2.2.2.2 ++ [[r2.2.2.2.2.1, r2.2.2.2.2.2]])))
  else none
def R06_CycleOf_r1 (x0 : Int × Int × Int × Int × Int × List (List Int)) (r2 : Int × Bool × Int × Int × Int × Int) : ((Int × Int) ⊕ Unit) → Option ((Int × Int × Int × Int × Int × List (List Int)) ⊕ ((Int × Int) ⊕ Unit)) :=
  (Sum.elim (R06_CycleOf_r1_0 x0 r2) (R06_CycleOf_r1_1 x0 r2))
def R06_CycleOf_b0 (sB0 : Int) (sB1 : Int) (sB2 : Int) (sA0 : Int) (sA1 : Int) (x0 : (Int × Int × Int × Int × Int × List (List Int))) : Option ((Int × Int × Int × Int × Int × List (List Int)) ⊕ ((Int × Int) ⊕ Unit)) :=
  if x0.1 ≤ (1000 : Int) then
   Option.bind (R06_Out sB0 sB1 sB2 sA0 sA1 x0.2.1 x0.2.2.1 x0.2.2.2.1 x0.2.2.2.2.1 (0 : Int)) fun r2 =>
   Option.bind (iter (R06_CycleOf_b1 x0 r2) big (0 : Int)) (R06_CycleOf_r1 x0 r2)
  else
   some (.inr ((.inr ())))
def R06_CycleOf_r0_0 (y0_0 : Int × Int) : Option (Int × Int × Int) :=
  some ((y0_0.1, y0_0.2, (0 : Int)))
def R06_CycleOf_r0_1 (y0_1 : Unit) : Option (Int × Int × Int) :=
  some (((0 : Int), (0 : Int), (8 : Int)))
def R06_CycleOf_r0 : ((Int × Int) ⊕ Unit) → Option (Int × Int × Int) :=
  (Sum.elim (R06_CycleOf_r0_0) (R06_CycleOf_r0_1))
/-- shoebox/shoeboxref06.CycleOf -/
def R06_CycleOf (sB0 : Int) (sB1 : Int) (sB2 : Int) (sA0 : Int) (sA1 : Int) (y_0 : Int) (y_1 : Int) : Option (Int × Int × Int) :=
  Option.bind (R06_isSample y_0) fun r0 =>
  if (!r0) = true then
   some (((0 : Int), (0 : Int), (2 : Int)))
  else
   Option.bind (R06_isSample y_1) fun r1 =>
   if (!r1) = true then
   some (((0 : Int), (0 : Int), (2 : Int)))
   else
   Option.bind (iter (R06_CycleOf_b0 sB0 sB1 sB2 sA0 sA1) big (((1 : Int), (0 : Int), (0 : Int), y_0, y_1, [[y_0, y_1]]))) (R06_CycleOf_r0)
def g_R06_CycleOf : List A → Option (Prop × List RV)
  | [.s [.i .i64 sB0, .i .i64 sB1, .i .i64 sB2, .i .i64 sA0, .i .i64 sA1], .s [.i .i64 y_0, .i .i64 y_1]] => some (ok (R06_CycleOf sB0 sB1 sB2 sA0 sA1 y_0 y_1), [.s [.i .i64 ((val (R06_CycleOf sB0 sB1 sB2 sA0 sA1 y_0 y_1)).1), .i .i64 ((val (R06_CycleOf sB0 sB1 sB2 sA0 sA1 y_0 y_1)).2.1)], .d (.i .i64 ((val (R06_CycleOf sB0 sB1 sB2 sA0 sA1 y_0 y_1)).2.2))])
  | _ => none
abbrev sp_37 : Specs → Specs := addK 37 true (pureK k_R06_CycleOf g_R06_CycleOf)
set_option maxRecDepth 100000 in
theorem R06_CycleOf_vc (sB0 : Int) (sB1 : Int) (sB2 : Int) (sA0 : Int) (sA1 : Int) (y_0 : Int) (y_1 : Int) (r : Int × Int × Int) (h : Option.bind (R06_CycleOf sB0 sB1 sB2 sA0 sA1 y_0 y_1) some = some r) : runF Try.f37 ((sp_93 (sp_38 sp0))) (fun gs id _ => match id with
 | 0 => some ⟨(Int × Int × Int × Int × Int × List (List Int)) × Nat, fun z => ⟨[(2, .w (.c (.p 2 (0 : Nat) 1 (0 : Nat)))), (4, .w (.c (.p 3 (0 : Nat) 1 (0 : Nat)))), (6, .w (.c (.p 4 (0 : Nat) 1 (0 : Nat)))), (7, .w (.c (.o 5))), (8, .w (.c (.d (.i .i64 (Prod.fst (Prod.fst z))))))], [(2, .box 36 [.d (.i .i64 sB0), .d (.i .i64 sB1), .d (.i .i64 sB2), .d (.i .i64 sA0), .d (.i .i64 sA1)]), (3, .box 54 [.d (.i .i64 (0 : Int)), .d (.i .i64 (0 : Int))]), (4, .box 60 [.d (.i .i64 (Prod.fst (Prod.snd (Prod.fst z)))), .d (.i .i64 (Prod.fst (Prod.snd (Prod.snd (Prod.fst z))))), .d (.i .i64 (Prod.fst (Prod.snd (Prod.snd (Prod.snd (Prod.fst z)))))), .d (.i .i64 (Prod.fst (Prod.snd (Prod.snd (Prod.snd (Prod.snd (Prod.fst z)))))))]), (5, .row 34 (.recs 2 (Prod.snd (Prod.snd (Prod.snd (Prod.snd (Prod.snd (Prod.fst z))))))))], 6⟩, fun z => Option.bind (iter (R06_CycleOf_b0 sB0 sB1 sB2 sA0 sA1) (Prod.snd z) (Prod.fst z)) (fun y0 => Option.bind (R06_CycleOf_r0 y0) some) = some r, fun z => Prod.snd z⟩
 | 2 => some ⟨(Int × Int × Int × Int × Int × List (List Int)) × Nat × Int × Nat, fun z => ⟨[(2, .w (.c (.p 2 (0 : Nat) 1 (0 : Nat)))), (4, .w (.c (.p 3 (0 : Nat) 1 (0 : Nat)))), (6, .w (.c (.p 4 (0 : Nat) 1 (0 : Nat)))), (7, .w (.c (.o 5))), (8, .w (.c (.d (.i .i64 ((Prod.fst z).1))))), (9, .w (.c (.d (.i .i64 (Prod.fst (Prod.snd (Prod.snd z)))))))], [(2, .box 36 [.d (.i .i64 sB0), .d (.i .i64 sB1), .d (.i .i64 sB2), .d (.i .i64 sA0), .d (.i .i64 sA1)]), (3, .box 54 [.d (.i .i64 (0 : Int)), .d (.i .i64 (0 : Int))]), (4, .box 60 [.d (.i .i64 ((val (R06_Out sB0 sB1 sB2 sA0 sA1 (Prod.fst z).2.1 (Prod.fst z).2.2.1 (Prod.fst z).2.2.2.1 (Prod.fst z).2.2.2.2.1 (0 : Int))).2.2.1)), .d (.i .i64 ((val (R06_Out sB0 sB1 sB2 sA0 sA1 (Prod.fst z).2.1 (Prod.fst z).2.2.1 (Prod.fst z).2.2.2.1 (Prod.fst z).2.2.2.2.1 (0 : Int))).2.2.2.1)), .d (.i .i64 ((val (R06_Out sB0 sB1 sB2 sA0 sA1 (Prod.fst z).2.1 (Prod.fst z).2.2.1 (Prod.fst z).2.2.2.1 (Prod.fst z).2.2.2.2.1 (0 : Int))).2.2.2.2.1)), .d (.i .i64 ((val (R06_Out sB0 sB1 sB2 sA0 sA1 (Prod.fst z).2.1 (Prod.fst z).2.2.1 (Prod.fst z).2.2.2.1 (Prod.fst z).2.2.2.2.1 (0 : Int))).2.2.2.2.2))]), (5, .row 34 (.recs 2 ((Prod.fst z).2.2.2.2.2)))], 6⟩, fun z => Prod.fst (Prod.snd z) + 1 = gs.getD 0 0 ∧ Option.bind (iter (R06_CycleOf_b1 (Prod.fst z) (val (R06_Out sB0 sB1 sB2 sA0 sA1 (Prod.fst z).2.1 (Prod.fst z).2.2.1 (Prod.fst z).2.2.2.1 (Prod.fst z).2.2.2.2.1 (0 : Int)))) (Prod.snd (Prod.snd (Prod.snd z))) (Prod.fst (Prod.snd (Prod.snd z)))) (fun y0 => Option.bind (R06_CycleOf_r1 (Prod.fst z) (val (R06_Out sB0 sB1 sB2 sA0 sA1 (Prod.fst z).2.1 (Prod.fst z).2.2.1 (Prod.fst z).2.2.2.1 (Prod.fst z).2.2.2.2.1 (0 : Int))) y0) (stepK (R06_CycleOf_b0 sB0 sB1 sB2 sA0 sA1) (Prod.fst (Prod.snd z)) (fun y1 => Option.bind (R06_CycleOf_r0 y1) some))) = some r, fun z => Prod.snd (Prod.snd (Prod.snd z))⟩
 | _ => none) [.s [.i .i64 sB0, .i .i64 sB1, .i .i64 sB2, .i .i64 sA0, .i .i64 sA1], .s [.i .i64 y_0, .i .i64 y_1]] [.s [.i .i64 r.1, .i .i64 r.2.1], .d (.i .i64 r.2.2)] := by
  refine Eq.mp (by kernel_rfl : (
  (Ob ((0 : Int) ≤ (0 : Int) ∧ (0 : Int) < (↑(2 : Nat) : Int)) ∧
   (Ob (ok (R06_isSample y_0)) ∧
   Br (!val (R06_isSample y_0))
   ((Ob (True) ∧
   (Ob (True) ∧
   (Ob ((0 : Int) = r.1) ∧
   (Ob ((0 : Int) = r.2.1) ∧
   (Ob ((2 : Int) = r.2.2) ∧
   True))))))
   ((Ob ((0 : Int) ≤ (1 : Int) ∧ (1 : Int) < (↑(2 : Nat) : Int)) ∧
   (Ob (ok (R06_isSample y_1)) ∧
   Br (!val (R06_isSample y_1))
   ((Ob (True) ∧
   (Ob (True) ∧
   (Ob ((0 : Int) = r.1) ∧
   (Ob ((0 : Int) = r.2.1) ∧
   (Ob ((2 : Int) = r.2.2) ∧
   True))))))
   (((∃ (v0 : (Int × Int × Int × Int × Int × List (List Int)) × Nat), (Ob ((Option.bind (iter (R06_CycleOf_b0 sB0 sB1 sB2 sA0 sA1) v0.2 v0.1) fun y0 => Option.bind (R06_CycleOf_r0 y0) some) = some r) ∧
   (Ob ((0 : Nat) = (0 : Nat)) ∧
   (Ob ((0 : Nat) = (0 : Nat)) ∧
   (Ob ((0 : Nat) = (0 : Nat)) ∧
   (Ob ((1 : Int) = v0.1.1) ∧
   (Ob (sB0 = sB0) ∧
   (Ob (sB1 = sB1) ∧
   (Ob (sB2 = sB2) ∧
   (Ob (sA0 = sA0) ∧
   (Ob (sA1 = sA1) ∧
   (Ob ((0 : Int) = (0 : Int)) ∧
   (Ob ((0 : Int) = (0 : Int)) ∧
   (Ob ((0 : Int) = v0.1.2.1) ∧
   (Ob ((0 : Int) = v0.1.2.2.1) ∧
   (Ob (y_0 = v0.1.2.2.2.1) ∧
   (Ob (y_1 = v0.1.2.2.2.2.1) ∧
   (Ob ([[y_0, y_1]] = v0.1.2.2.2.2.2) ∧
   True)))))))))))))))))) ∧
   (∀ (v0 : (Int × Int × Int × Int × Int × List (List Int)) × Nat), ((Option.bind (iter (R06_CycleOf_b0 sB0 sB1 sB2 sA0 sA1) v0.2 v0.1) fun y0 => Option.bind (R06_CycleOf_r0 y0) some) = some r →
   Br (decide (v0.1.1 ≤ (1000 : Int)))
   ((Ob (ok (R06_Out sB0 sB1 sB2 sA0 sA1 v0.1.2.1 v0.1.2.2.1 v0.1.2.2.2.1 v0.1.2.2.2.2.1 (0 : Int))) ∧
   ((∃ (v1 : (Int × Int × Int × Int × Int × List (List Int)) × Nat × Int × Nat), (Ob (v1.2.1 + (1 : Nat) = List.getD [v0.2] (0 : Nat) (0 : Nat) ∧ (Option.bind (iter (R06_CycleOf_b1 v1.1 (val (R06_Out sB0 sB1 sB2 sA0 sA1 v1.1.2.1 v1.1.2.2.1 v1.1.2.2.2.1 v1.1.2.2.2.2.1 (0 : Int)))) v1.2.2.2 v1.2.2.1) fun y0 => Option.bind (R06_CycleOf_r1 v1.1 (val (R06_Out sB0 sB1 sB2 sA0 sA1 v1.1.2.1 v1.1.2.2.1 v1.1.2.2.2.1 v1.1.2.2.2.2.1 (0 : Int))) y0) (stepK (R06_CycleOf_b0 sB0 sB1 sB2 sA0 sA1) v1.2.1 fun y1 => Option.bind (R06_CycleOf_r0 y1) some)) = some r) ∧
   (Ob ((0 : Nat) = (0 : Nat)) ∧
   (Ob ((0 : Nat) = (0 : Nat)) ∧
   (Ob ((0 : Nat) = (0 : Nat)) ∧
   (Ob (v0.1.1 = v1.1.1) ∧
   (Ob ((0 : Int) = v1.2.2.1) ∧
   (Ob (sB0 = sB0) ∧
   (Ob (sB1 = sB1) ∧
   (Ob (sB2 = sB2) ∧
   (Ob (sA0 = sA0) ∧
   (Ob (sA1 = sA1) ∧
   (Ob ((0 : Int) = (0 : Int)) ∧
   (Ob ((0 : Int) = (0 : Int)) ∧
   (Ob ((val (R06_Out sB0 sB1 sB2 sA0 sA1 v0.1.2.1 v0.1.2.2.1 v0.1.2.2.2.1 v0.1.2.2.2.2.1 (0 : Int))).2.2.1 = (val (R06_Out sB0 sB1 sB2 sA0 sA1 v1.1.2.1 v1.1.2.2.1 v1.1.2.2.2.1 v1.1.2.2.2.2.1 (0 : Int))).2.2.1) ∧
   (Ob ((val (R06_Out sB0 sB1 sB2 sA0 sA1 v0.1.2.1 v0.1.2.2.1 v0.1.2.2.2.1 v0.1.2.2.2.2.1 (0 : Int))).2.2.2.1 = (val (R06_Out sB0 sB1 sB2 sA0 sA1 v1.1.2.1 v1.1.2.2.1 v1.1.2.2.2.1 v1.1.2.2.2.2.1 (0 : Int))).2.2.2.1) ∧
   (Ob ((val (R06_Out sB0 sB1 sB2 sA0 sA1 v0.1.2.1 v0.1.2.2.1 v0.1.2.2.2.1 v0.1.2.2.2.2.1 (0 : Int))).2.2.2.2.1 = (val (R06_Out sB0 sB1 sB2 sA0 sA1 v1.1.2.1 v1.1.2.2.1 v1.1.2.2.2.1 v1.1.2.2.2.2.1 (0 : Int))).2.2.2.2.1) ∧
   (Ob ((val (R06_Out sB0 sB1 sB2 sA0 sA1 v0.1.2.1 v0.1.2.2.1 v0.1.2.2.2.1 v0.1.2.2.2.2.1 (0 : Int))).2.2.2.2.2 = (val (R06_Out sB0 sB1 sB2 sA0 sA1 v1.1.2.1 v1.1.2.2.1 v1.1.2.2.2.1 v1.1.2.2.2.2.1 (0 : Int))).2.2.2.2.2) ∧
   (Ob (v0.1.2.2.2.2.2 = v1.1.2.2.2.2.2) ∧
   True))))))))))))))))))) ∧
   (∀ (v1 : (Int × Int × Int × Int × Int × List (List Int)) × Nat × Int × Nat), (v1.2.1 + (1 : Nat) = List.getD [v0.2] (0 : Nat) (0 : Nat) ∧ (Option.bind (iter (R06_CycleOf_b1 v1.1 (val (R06_Out sB0 sB1 sB2 sA0 sA1 v1.1.2.1 v1.1.2.2.1 v1.1.2.2.2.1 v1.1.2.2.2.2.1 (0 : Int)))) v1.2.2.2 v1.2.2.1) fun y0 => Option.bind (R06_CycleOf_r1 v1.1 (val (R06_Out sB0 sB1 sB2 sA0 sA1 v1.1.2.1 v1.1.2.2.1 v1.1.2.2.2.1 v1.1.2.2.2.2.1 (0 : Int))) y0) (stepK (R06_CycleOf_b0 sB0 sB1 sB2 sA0 sA1) v1.2.1 fun y1 => Option.bind (R06_CycleOf_r0 y1) some)) = some r →
   Br (decide (v1.2.2.1 < (↑(List.length v1.1.2.2.2.2.2) : Int)))
   ((Ob ((0 : Int) ≤ v1.2.2.1 ∧ v1.2.2.1 < (↑(List.length v1.1.2.2.2.2.2) : Int)) ∧
   (Ob (Int.toNat v1.2.2.1 < List.length v1.1.2.2.2.2.2) ∧
   Br (List.getD (List.getD v1.1.2.2.2.2.2 (Int.toNat v1.2.2.1) []) (0 : Nat) (0 : Int) == (val (R06_Out sB0 sB1 sB2 sA0 sA1 v1.1.2.1 v1.1.2.2.1 v1.1.2.2.2.1 v1.1.2.2.2.2.1 (0 : Int))).2.2.2.2.1 && List.getD (List.getD v1.1.2.2.2.2.2 (Int.toNat v1.2.2.1) []) (1 : Nat) (0 : Int) == (val (R06_Out sB0 sB1 sB2 sA0 sA1 v1.1.2.1 v1.1.2.2.1 v1.1.2.2.2.1 v1.1.2.2.2.2.1 (0 : Int))).2.2.2.2.2)
   ((Ob (True) ∧
   (Ob (True) ∧
   (Ob (v1.2.2.1 = r.1) ∧
   (Ob (IntKind.wrap IntKind.i64 (v1.1.1 - v1.2.2.1) = r.2.1) ∧
   (Ob ((0 : Int) = r.2.2) ∧
   True))))))
   ((∃ (v2 : (Int × Int × Int × Int × Int × List (List Int)) × Nat × Int × Nat), (Ob (v2.2.1 + (1 : Nat) = List.getD [v0.2] (0 : Nat) (0 : Nat) ∧ (Option.bind (iter (R06_CycleOf_b1 v2.1 (val (R06_Out sB0 sB1 sB2 sA0 sA1 v2.1.2.1 v2.1.2.2.1 v2.1.2.2.2.1 v2.1.2.2.2.2.1 (0 : Int)))) v2.2.2.2 v2.2.2.1) fun y0 => Option.bind (R06_CycleOf_r1 v2.1 (val (R06_Out sB0 sB1 sB2 sA0 sA1 v2.1.2.1 v2.1.2.2.1 v2.1.2.2.2.1 v2.1.2.2.2.2.1 (0 : Int))) y0) (stepK (R06_CycleOf_b0 sB0 sB1 sB2 sA0 sA1) v2.2.1 fun y1 => Option.bind (R06_CycleOf_r0 y1) some)) = some r) ∧
   (Ob (v2.2.2.2 < v1.2.2.2) ∧
   (Ob ((0 : Nat) = (0 : Nat)) ∧
   (Ob ((0 : Nat) = (0 : Nat)) ∧
   (Ob ((0 : Nat) = (0 : Nat)) ∧
   (Ob (v1.1.1 = v2.1.1) ∧
   (Ob (IntKind.wrap IntKind.i64 (v1.2.2.1 + (1 : Int)) = v2.2.2.1) ∧
   (Ob (sB0 = sB0) ∧
   (Ob (sB1 = sB1) ∧
   (Ob (sB2 = sB2) ∧
   (Ob (sA0 = sA0) ∧
   (Ob (sA1 = sA1) ∧
   (Ob ((0 : Int) = (0 : Int)) ∧
   (Ob ((0 : Int) = (0 : Int)) ∧
   (Ob ((val (R06_Out sB0 sB1 sB2 sA0 sA1 v1.1.2.1 v1.1.2.2.1 v1.1.2.2.2.1 v1.1.2.2.2.2.1 (0 : Int))).2.2.1 = (val (R06_Out sB0 sB1 sB2 sA0 sA1 v2.1.2.1 v2.1.2.2.1 v2.1.2.2.2.1 v2.1.2.2.2.2.1 (0 : Int))).2.2.1) ∧
   (Ob ((val (R06_Out sB0 sB1 sB2 sA0 sA1 v1.1.2.1 v1.1.2.2.1 v1.1.2.2.2.1 v1.1.2.2.2.2.1 (0 : Int))).2.2.2.1 = (val (R06_Out sB0 sB1 sB2 sA0 sA1 v2.1.2.1 v2.1.2.2.1 v2.1.2.2.2.1 v2.1.2.2.2.2.1 (0 : Int))).2.2.2.1) ∧
   (Ob ((val (R06_Out sB0 sB1 sB2 sA0 sA1 v1.1.2.1 v1.1.2.2.1 v1.1.2.2.2.1 v1.1.2.2.2.2.1 (0 : Int))).2.2.2.2.1 = (val (R06_Out sB0 sB1 sB2 sA0 sA1 v2.1.2.1 v2.1.2.2.1 v2.1.2.2.2.1 v2.1.2.2.2.2.1 (0 : Int))).2.2.2.2.1) ∧
   (Ob ((val (R06_Out sB0 sB1 sB2 sA0 sA1 v1.1.2.1 v1.1.2.2.1 v1.1.2.2.2.1 v1.1.2.2.2.2.1 (0 : Int))).2.2.2.2.2 = (val (R06_Out sB0 sB1 sB2 sA0 sA1 v2.1.2.1 v2.1.2.2.1 v2.1.2.2.2.1 v2.1.2.2.2.2.1 (0 : Int))).2.2.2.2.2) ∧
   (Ob (v1.1.2.2.2.2.2 = v2.1.2.2.2.2.2) ∧
   True))))))))))))))))))))))))
   ((Ob ((List.length v1.1.2.2.2.2.2 + List.length [[(val (R06_Out sB0 sB1 sB2 sA0 sA1 v1.1.2.1 v1.1.2.2.1 v1.1.2.2.2.1 v1.1.2.2.2.2.1 (0 : Int))).2.2.2.2.1, (val (R06_Out sB0 sB1 sB2 sA0 sA1 v1.1.2.1 v1.1.2.2.1 v1.1.2.2.2.1 v1.1.2.2.2.2.1 (0 : Int))).2.2.2.2.2]]) * (16 : Nat) ≤ (140737488355328 : Nat) ∧ List.length v1.1.2.2.2.2.2 + List.length [[(val (R06_Out sB0 sB1 sB2 sA0 sA1 v1.1.2.1 v1.1.2.2.1 v1.1.2.2.2.1 v1.1.2.2.2.2.1 (0 : Int))).2.2.2.2.1, (val (R06_Out sB0 sB1 sB2 sA0 sA1 v1.1.2.1 v1.1.2.2.1 v1.1.2.2.2.1 v1.1.2.2.2.2.1 (0 : Int))).2.2.2.2.2]] ≤ (9223372036854775807 : Nat)) ∧
   (∃ (v2 : (Int × Int × Int × Int × Int × List (List Int)) × Nat), (Ob ((Option.bind (iter (R06_CycleOf_b0 sB0 sB1 sB2 sA0 sA1) v2.2 v2.1) fun y0 => Option.bind (R06_CycleOf_r0 y0) some) = some r) ∧
   (Ob (v2.2 < v0.2) ∧
   (Ob ((0 : Nat) = (0 : Nat)) ∧
   (Ob ((0 : Nat) = (0 : Nat)) ∧
   (Ob ((0 : Nat) = (0 : Nat)) ∧
   (Ob (IntKind.wrap IntKind.i64 (v1.1.1 + (1 : Int)) = v2.1.1) ∧
   (Ob (sB0 = sB0) ∧
   (Ob (sB1 = sB1) ∧
   (Ob (sB2 = sB2) ∧
   (Ob (sA0 = sA0) ∧
   (Ob (sA1 = sA1) ∧
   (Ob ((0 : Int) = (0 : Int)) ∧
   (Ob ((0 : Int) = (0 : Int)) ∧
   (Ob ((val (R06_Out sB0 sB1 sB2 sA0 sA1 v1.1.2.1 v1.1.2.2.1 v1.1.2.2.2.1 v1.1.2.2.2.2.1 (0 : Int))).2.2.1 = v2.1.2.1) ∧
   (Ob ((val (R06_Out sB0 sB1 sB2 sA0 sA1 v1.1.2.1 v1.1.2.2.1 v1.1.2.2.2.1 v1.1.2.2.2.2.1 (0 : Int))).2.2.2.1 = v2.1.2.2.1) ∧
   (Ob ((val (R06_Out sB0 sB1 sB2 sA0 sA1 v1.1.2.1 v1.1.2.2.1 v1.1.2.2.2.1 v1.1.2.2.2.2.1 (0 : Int))).2.2.2.2.1 = v2.1.2.2.2.1) ∧
   (Ob ((val (R06_Out sB0 sB1 sB2 sA0 sA1 v1.1.2.1 v1.1.2.2.1 v1.1.2.2.2.1 v1.1.2.2.2.2.1 (0 : Int))).2.2.2.2.2 = v2.1.2.2.2.2.1) ∧
   (Ob (v1.1.2.2.2.2.2 ++ [[(val (R06_Out sB0 sB1 sB2 sA0 sA1 v1.1.2.1 v1.1.2.2.1 v1.1.2.2.2.1 v1.1.2.2.2.2.1 (0 : Int))).2.2.2.2.1, (val (R06_Out sB0 sB1 sB2 sA0 sA1 v1.1.2.1 v1.1.2.2.1 v1.1.2.2.2.1 v1.1.2.2.2.2.1 (0 : Int))).2.2.2.2.2]] = v2.1.2.2.2.2.2) ∧
   True))))))))))))))))))))))))))
   ((Ob (True) ∧
   (Ob (True) ∧
   (Ob ((0 : Int) = r.1) ∧
   (Ob ((0 : Int) = r.2.1) ∧
   (Ob ((8 : Int) = r.2.2) ∧
   True)))))))))))))))) = _) ?_
  refine ob_c (p := (0 : Int) ≤ (0 : Int) ∧ (0 : Int) < (↑(2 : Nat) : Int)) (by decide) ?_
  refine call_s h fun h => ?_
  refine br_b h (fun h => ?_) (fun h => ?_)
  · refine ob_t ?_
    refine ob_t ?_
    exact ret_s h (fun e => by subst e; exact (by repeat' (first | exact trivial | exact ⟨rfl⟩ | refine And.intro ?_ ?_)))
  · refine ob_c (p := (0 : Int) ≤ (1 : Int) ∧ (1 : Int) < (↑(2 : Nat) : Int)) (by decide) ?_
    refine call_s h fun h => ?_
    refine br_b h (fun h => ?_) (fun h => ?_)
    · refine ob_t ?_
      refine ob_t ?_
      exact ret_s h (fun e => by subst e; exact (by repeat' (first | exact trivial | exact ⟨rfl⟩ | refine And.intro ?_ ?_)))
    · refine ⟨⟨(((1 : Int), (0 : Int), (0 : Int), y_0, y_1, [[y_0, y_1]]), big), ⟨loop_s h⟩, (by repeat' (first | exact trivial | exact ⟨rfl⟩ | refine And.intro ?_ ?_))⟩, fun z3 hz3 => ?_⟩
      obtain ⟨k3, hm3, h⟩ := iter_pos hz3
      refine br_d h (fun h => ?_) (fun h => ?_)
      · refine call_s h fun h => ?_
        refine ⟨⟨(Prod.fst z3, k3, (0 : Int), big), ⟨⟨hm3.symm, loop_s h⟩⟩, (by repeat' (first | exact trivial | exact ⟨rfl⟩ | refine And.intro ?_ ?_))⟩, fun z4 hz4 => ?_⟩
        obtain ⟨k4, hm4, h⟩ := iter_pos hz4.2
        refine br_d h (fun h => ?_) (fun h => ?_)
        · refine ob_s h fun h => ?_
          refine ob_s h fun h => ?_
          refine br_b h (fun h => ?_) (fun h => ?_)
          · have h := exit_s h
            have h := exit_s h
            refine ob_t ?_
            refine ob_t ?_
            exact ret_s h (fun e => by subst e; exact (by repeat' (first | exact trivial | exact ⟨rfl⟩ | refine And.intro ?_ ?_)))
          · exact ⟨(Prod.fst z4, Prod.fst (Prod.snd z4), IntKind.wrap IntKind.i64 (Prod.fst (Prod.snd (Prod.snd z4)) + (1 : Int)), k4), ⟨⟨hz4.1, next_s h⟩⟩, ⟨lt_gs hm4.symm⟩, (by repeat' (first | exact trivial | exact ⟨rfl⟩ | refine And.intro ?_ ?_))⟩
        · have h := exit_s h
          refine ob_s h fun h => ?_
          exact ⟨((IntKind.wrap IntKind.i64 ((Prod.fst z4).1 + (1 : Int)), (val (R06_Out sB0 sB1 sB2 sA0 sA1 (Prod.fst z4).2.1 (Prod.fst z4).2.2.1 (Prod.fst z4).2.2.2.1 (Prod.fst z4).2.2.2.2.1 (0 : Int))).2.2.1, (val (R06_Out sB0 sB1 sB2 sA0 sA1 (Prod.fst z4).2.1 (Prod.fst z4).2.2.1 (Prod.fst z4).2.2.2.1 (Prod.fst z4).2.2.2.2.1 (0 : Int))).2.2.2.1, (val (R06_Out sB0 sB1 sB2 sA0 sA1 (Prod.fst z4).2.1 (Prod.fst z4).2.2.1 (Prod.fst z4).2.2.2.1 (Prod.fst z4).2.2.2.2.1 (0 : Int))).2.2.2.2.1, (val (R06_Out sB0 sB1 sB2 sA0 sA1 (Prod.fst z4).2.1 (Prod.fst z4).2.2.1 (Prod.fst z4).2.2.2.1 (Prod.fst z4).2.2.2.2.1 (0 : Int))).2.2.2.2.2, (Prod.fst z4).2.2.2.2.2 ++ [[(val (R06_Out sB0 sB1 sB2 sA0 sA1 (Prod.fst z4).2.1 (Prod.fst z4).2.2.1 (Prod.fst z4).2.2.2.1 (Prod.fst z4).2.2.2.2.1 (0 : Int))).2.2.2.2.1, (val (R06_Out sB0 sB1 sB2 sA0 sA1 (Prod.fst z4).2.1 (Prod.fst z4).2.2.1 (Prod.fst z4).2.2.2.1 (Prod.fst z4).2.2.2.2.1 (0 : Int))).2.2.2.2.2]]), Prod.fst (Prod.snd z4)), ⟨next_s h⟩, ⟨lt_gs hz4.1⟩, (by repeat' (first | exact trivial | exact ⟨rfl⟩ | refine And.intro ?_ ?_))⟩
      · have h := exit_s h
        refine ob_t ?_
        refine ob_t ?_
        exact ret_s h (fun e => by subst e; exact (by repeat' (first | exact trivial | exact ⟨rfl⟩ | refine And.intro ?_ ?_)))
set_option maxRecDepth 100000 in
theorem R06_CycleOf_ok : SpecOK Try.prog 37 true (pureK k_R06_CycleOf g_R06_CycleOf) := by
  refine pureK_ok (sp := (sp_93 (sp_38 sp0))) (fn := Try.f37) (body := bodyOf Try.f37) mixed (sp_93_ok (sp_38_ok sp0_ok)) Try.func37 (by kernel_rfl) (by kernel_rfl) fun as_ ob rs h ho => ?_
  unfold g_R06_CycleOf at h
  split at h
  · rename_i sB0 sB1 sB2 sA0 sA1 y_0 y_1
    cases h
    exact ⟨Nat.le_of_ble_eq_true rfl, _, _, R06_CycleOf_vc sB0 sB1 sB2 sA0 sA1 y_0 y_1 _ (ok_some ho)⟩
  · cases h
theorem sp_37_ok {sp : Specs} (h : SpecsOK Try.prog sp) : SpecsOK Try.prog (sp_37 sp) := addK_ok R06_CycleOf_ok h
def k_L06_FilterCycles : List (Option Cont) := [none, none]
def L06_FilterCycles_b0 (sB0 : Int) (sB1 : Int) (sB2 : Int) (sA0 : Int) (sA1 : Int) (r0 : Int × Int × Int) (x0 : (Int × Int × Int × Int × Int × Int × Int)) : Option ((Int × Int × Int × Int × Int × Int × Int) ⊕ (Unit ⊕ Unit)) :=
  if x0.1 ≤ IntKind.wrap IntKind.i64 (r0.1 + r0.2.1) then
   if (x0.1 == r0.1) = true then
   if (x0.1 == IntKind.wrap IntKind.i64 (r0.1 + r0.2.1)) = true then
   if (!(x0.2.2.2.1 == x0.2.2.2.1 && x0.2.2.2.2.1 == x0.2.2.2.2.1)) = true then
   some (.inr ((.inl ())))
   else
   Option.bind (R06_Out sB0 sB1 sB2 sA0 sA1 x0.2.1 x0.2.2.1 x0.2.2.2.1 x0.2.2.2.2.1 (0 : Int)) fun r3 =>
   some (.inl ((IntKind.wrap IntKind.i64 (x0.1 + (1 : Int)), r3.2.2.1, r3.2.2.2.1, r3.2.2.2.2.1, r3.2.2.2.2.2, x0.2.2.2.1, x0.2.2.2.2.1)))
   else
   Option.bind (R06_Out sB0 sB1 sB2 sA0 sA1 x0.2.1 x0.2.2.1 x0.2.2.2.1 x0.2.2.2.2.1 (0 : Int)) fun r3 =>
   some (.inl ((IntKind.wrap IntKind.i64 (x0.1 + (1 : Int)), r3.2.2.1, r3.2.2.2.1, r3.2.2.2.2.1, r3.2.2.2.2.2, x0.2.2.2.1, x0.2.2.2.2.1)))
   else
   if (x0.1 == IntKind.wrap IntKind.i64 (r0.1 + r0.2.1)) = true then
   if (!(x0.2.2.2.1 == x0.2.2.2.2.2.1 && x0.2.2.2.2.1 == x0.2.2.2.2.2.2)) = true then
   some (.inr ((.inl ())))
   else
   Option.bind (R06_Out sB0 sB1 sB2 sA0 sA1 x0.2.1 x0.2.2.1 x0.2.2.2.1 x0.2.2.2.2.1 (0 : Int)) fun r3 =>
   some (.inl ((IntKind.wrap IntKind.i64 (x0.1 + (1 : Int)), r3.2.2.1, r3.2.2.2.1, r3.2.2.2.2.1, r3.2.2.2.2.2, x0.2.2.2.2.2.1, x0.2.2.2.2.2.2)))
   else
   Option.bind (R06_Out sB0 sB1 sB2 sA0 sA1 x0.2.1 x0.2.2.1 x0.2.2.2.1 x0.2.2.2.2.1 (0 : Int)) fun r3 =>
   some (.inl ((IntKind.wrap IntKind.i64 (x0.1 + (1 : Int)), r3.2.2.1, r3.2.2.2.1, r3.2.2.2.2.1, r3.2.2.2.2.2, x0.2.2.2.2.2.1, x0.2.2.2.2.2.2)))
  else
   some (.inr ((.inr ())))
def L06_FilterCycles_r0_0 (sA0 : Int) (sA1 : Int) (r0 : Int × Int × Int) (y0_0 : Unit) : Option Bool :=
  some false
def L06_FilterCycles_r0_1 (sA0 : Int) (sA1 : Int) (r0 : Int × Int × Int) (y0_1 : Unit) : Option Bool :=
  if (!(sA0 == (0 : Int) && sA1 == (0 : Int))) = true then
   some true
  else
   some (r0.1 == r0.1 && r0.2.1 == (1 : Int))
def L06_FilterCycles_r0 (sA0 : Int) (sA1 : Int) (r0 : Int × Int × Int) : (Unit ⊕ Unit) → Option Bool :=
  (Sum.elim (L06_FilterCycles_r0_0 sA0 sA1 r0) (L06_FilterCycles_r0_1 sA0 sA1 r0))
/-- shoebox/shoeboxlaw06.FilterCycles -/
def L06_FilterCycles (sB0 : Int) (sB1 : Int) (sB2 : Int) (sA0 : Int) (sA1 : Int) (y_0 : Int) (y_1 : Int) : Option Bool :=
  Option.bind (F_CycleOf sB0 sB1 sB2 sA0 sA1 y_0 y_1) fun r0 =>
  Option.bind (R06_CheckSection sB0 sB1 sB2 sA0 sA1) fun r1 =>
  if (r1 == (0 : Int)) = true then
   Option.bind (R06_CycleOf sB0 sB1 sB2 sA0 sA1 y_0 y_1) fun r2 =>
   if (r0.2.2 != r2.2.2) = true then
   some false
   else
   if (!(r0.1 == r2.1 && r0.2.1 == r2.2.1)) = true then
   some false
   else
   if (r2.2.2 != (0 : Int)) = true then
   some true
   else
   if IntKind.wrap IntKind.i64 (r0.1 + r0.2.1) > (200 : Int) then
   some true
   else
   Option.bind (iter (L06_FilterCycles_b0 sB0 sB1 sB2 sA0 sA1 r0) big (((0 : Int), (0 : Int), (0 : Int), y_0, y_1, (0 : Int), (0 : Int)))) (L06_FilterCycles_r0 sA0 sA1 r0)
  else
   if (r0.2.2 != r1) = true then
   some false
   else
   if (!(r0.1 == (0 : Int) && r0.2.1 == (0 : Int))) = true then
   some false
   else
   if (r1 != (0 : Int)) = true then
   some true
   else
   none /- decided -/
def g_L06_FilterCycles : List A → Option (Prop × List RV)
  | [.s [.i .i64 sB0, .i .i64 sB1, .i .i64 sB2, .i .i64 sA0, .i .i64 sA1], .s [.i .i64 y_0, .i .i64 y_1]] => some (ok (L06_FilterCycles sB0 sB1 sB2 sA0 sA1 y_0 y_1), [.d (.b ((val (L06_FilterCycles sB0 sB1 sB2 sA0 sA1 y_0 y_1))))])
  | _ => none
abbrev sp_6 : Specs → Specs := addK 6 true (pureK k_L06_FilterCycles g_L06_FilterCycles)
set_option maxRecDepth 100000 in
theorem L06_FilterCycles_vc (sB0 : Int) (sB1 : Int) (sB2 : Int) (sA0 : Int) (sA1 : Int) (y_0 : Int) (y_1 : Int) (r : Bool) (h : Option.bind (L06_FilterCycles sB0 sB1 sB2 sA0 sA1 y_0 y_1) some = some r) : runF Try.f6 ((sp_18 (sp_36 (sp_28 (sp_37 (sp_38 sp0)))))) (fun gs id _ => match id with
 | 0 => some ⟨(Int × Int × Int × Int × Int × Int × Int) × Nat, fun z => ⟨[(2, .w (.c (.p 2 (0 : Nat) 1 (0 : Nat)))), (5, .w (.c (.p 3 (0 : Nat) 1 (0 : Nat)))), (9, .w (.c (.p 4 (0 : Nat) 1 (0 : Nat)))), (10, .w (.c (.p 5 (0 : Nat) 1 (0 : Nat)))), (11, .w (.c (.d (.i .i64 (Prod.fst (Prod.fst z))))))], [(2, .box 36 [.d (.i .i64 sB0), .d (.i .i64 sB1), .d (.i .i64 sB2), .d (.i .i64 sA0), .d (.i .i64 sA1)]), (3, .box 54 [.d (.i .i64 ((val (F_CycleOf sB0 sB1 sB2 sA0 sA1 y_0 y_1)).1)), .d (.i .i64 ((val (F_CycleOf sB0 sB1 sB2 sA0 sA1 y_0 y_1)).2.1))]), (4, .box 60 [.d (.i .i64 (Prod.fst (Prod.snd (Prod.fst z)))), .d (.i .i64 (Prod.fst (Prod.snd (Prod.snd (Prod.fst z))))), .d (.i .i64 (Prod.fst (Prod.snd (Prod.snd (Prod.snd (Prod.fst z)))))), .d (.i .i64 (Prod.fst (Prod.snd (Prod.snd (Prod.snd (Prod.snd (Prod.fst z)))))))]), (5, .box 34 [.d (.i .i64 (Prod.fst (Prod.snd (Prod.snd (Prod.snd (Prod.snd (Prod.snd (Prod.fst z)))))))), .d (.i .i64 (Prod.snd (Prod.snd (Prod.snd (Prod.snd (Prod.snd (Prod.snd (Prod.fst z))))))))])], 6⟩, fun z => Option.bind (iter (L06_FilterCycles_b0 sB0 sB1 sB2 sA0 sA1 (val (F_CycleOf sB0 sB1 sB2 sA0 sA1 y_0 y_1))) (Prod.snd z) (Prod.fst z)) (fun y0 => Option.bind (L06_FilterCycles_r0 sA0 sA1 (val (F_CycleOf sB0 sB1 sB2 sA0 sA1 y_0 y_1)) y0) some) = some r, fun z => Prod.snd z⟩
 | _ => none) [.s [.i .i64 sB0, .i .i64 sB1, .i .i64 sB2, .i .i64 sA0, .i .i64 sA1], .s [.i .i64 y_0, .i .i64 y_1]] [.d (.b r)] := by
  refine Eq.mp (by kernel_rfl : (
  (Ob (ok L06_awake) ∧
   (Ob (ok (F_CycleOf sB0 sB1 sB2 sA0 sA1 y_0 y_1)) ∧
   (Ob (ok (R06_CheckSection sB0 sB1 sB2 sA0 sA1)) ∧
   Br (val (R06_CheckSection sB0 sB1 sB2 sA0 sA1) == (0 : Int))
   ((Ob (ok (R06_CycleOf sB0 sB1 sB2 sA0 sA1 y_0 y_1)) ∧
   Br ((val (F_CycleOf sB0 sB1 sB2 sA0 sA1 y_0 y_1)).2.2 != (val (R06_CycleOf sB0 sB1 sB2 sA0 sA1 y_0 y_1)).2.2)
   ((Ob (True) ∧
   (Ob (false = r) ∧
   True)))
   (Br (!((val (F_CycleOf sB0 sB1 sB2 sA0 sA1 y_0 y_1)).1 == (val (R06_CycleOf sB0 sB1 sB2 sA0 sA1 y_0 y_1)).1 && (val (F_CycleOf sB0 sB1 sB2 sA0 sA1 y_0 y_1)).2.1 == (val (R06_CycleOf sB0 sB1 sB2 sA0 sA1 y_0 y_1)).2.1))
   ((Ob (True) ∧
   (Ob (false = r) ∧
   True)))
   (Br ((val (R06_CycleOf sB0 sB1 sB2 sA0 sA1 y_0 y_1)).2.2 != (0 : Int))
   ((Ob (True) ∧
   (Ob (true = r) ∧
   True)))
   (Br (decide (IntKind.wrap IntKind.i64 ((val (F_CycleOf sB0 sB1 sB2 sA0 sA1 y_0 y_1)).1 + (val (F_CycleOf sB0 sB1 sB2 sA0 sA1 y_0 y_1)).2.1) > (200 : Int)))
   ((Ob (True) ∧
   (Ob (true = r) ∧
   True)))
   (((∃ (v0 : (Int × Int × Int × Int × Int × Int × Int) × Nat), (Ob ((Option.bind (iter (L06_FilterCycles_b0 sB0 sB1 sB2 sA0 sA1 (val (F_CycleOf sB0 sB1 sB2 sA0 sA1 y_0 y_1))) v0.2 v0.1) fun y0 => Option.bind (L06_FilterCycles_r0 sA0 sA1 (val (F_CycleOf sB0 sB1 sB2 sA0 sA1 y_0 y_1)) y0) some) = some r) ∧
   (Ob ((0 : Nat) = (0 : Nat)) ∧
   (Ob ((0 : Nat) = (0 : Nat)) ∧
   (Ob ((0 : Nat) = (0 : Nat)) ∧
   (Ob ((0 : Nat) = (0 : Nat)) ∧
   (Ob ((0 : Int) = v0.1.1) ∧
   (Ob (sB0 = sB0) ∧
   (Ob (sB1 = sB1) ∧
   (Ob (sB2 = sB2) ∧
   (Ob (sA0 = sA0) ∧
   (Ob (sA1 = sA1) ∧
   (Ob ((val (F_CycleOf sB0 sB1 sB2 sA0 sA1 y_0 y_1)).1 = (val (F_CycleOf sB0 sB1 sB2 sA0 sA1 y_0 y_1)).1) ∧
   (Ob ((val (F_CycleOf sB0 sB1 sB2 sA0 sA1 y_0 y_1)).2.1 = (val (F_CycleOf sB0 sB1 sB2 sA0 sA1 y_0 y_1)).2.1) ∧
   (Ob ((0 : Int) = v0.1.2.1) ∧
   (Ob ((0 : Int) = v0.1.2.2.1) ∧
   (Ob (y_0 = v0.1.2.2.2.1) ∧
   (Ob (y_1 = v0.1.2.2.2.2.1) ∧
   (Ob ((0 : Int) = v0.1.2.2.2.2.2.1) ∧
   (Ob ((0 : Int) = v0.1.2.2.2.2.2.2) ∧
   True)))))))))))))))))))) ∧
   (∀ (v0 : (Int × Int × Int × Int × Int × Int × Int) × Nat), ((Option.bind (iter (L06_FilterCycles_b0 sB0 sB1 sB2 sA0 sA1 (val (F_CycleOf sB0 sB1 sB2 sA0 sA1 y_0 y_1))) v0.2 v0.1) fun y0 => Option.bind (L06_FilterCycles_r0 sA0 sA1 (val (F_CycleOf sB0 sB1 sB2 sA0 sA1 y_0 y_1)) y0) some) = some r →
   Br (decide (v0.1.1 ≤ IntKind.wrap IntKind.i64 ((val (F_CycleOf sB0 sB1 sB2 sA0 sA1 y_0 y_1)).1 + (val (F_CycleOf sB0 sB1 sB2 sA0 sA1 y_0 y_1)).2.1)))
   (Br (v0.1.1 == (val (F_CycleOf sB0 sB1 sB2 sA0 sA1 y_0 y_1)).1)
   (Br (v0.1.1 == IntKind.wrap IntKind.i64 ((val (F_CycleOf sB0 sB1 sB2 sA0 sA1 y_0 y_1)).1 + (val (F_CycleOf sB0 sB1 sB2 sA0 sA1 y_0 y_1)).2.1))
   (Br (!(v0.1.2.2.2.1 == v0.1.2.2.2.1 && v0.1.2.2.2.2.1 == v0.1.2.2.2.2.1))
   ((Ob (True) ∧
   (Ob (false = r) ∧
   True)))
   ((Ob (ok (R06_Out sB0 sB1 sB2 sA0 sA1 v0.1.2.1 v0.1.2.2.1 v0.1.2.2.2.1 v0.1.2.2.2.2.1 (0 : Int))) ∧
   (∃ (v1 : (Int × Int × Int × Int × Int × Int × Int) × Nat), (Ob ((Option.bind (iter (L06_FilterCycles_b0 sB0 sB1 sB2 sA0 sA1 (val (F_CycleOf sB0 sB1 sB2 sA0 sA1 y_0 y_1))) v1.2 v1.1) fun y0 => Option.bind (L06_FilterCycles_r0 sA0 sA1 (val (F_CycleOf sB0 sB1 sB2 sA0 sA1 y_0 y_1)) y0) some) = some r) ∧
   (Ob (v1.2 < v0.2) ∧
   (Ob ((0 : Nat) = (0 : Nat)) ∧
   (Ob ((0 : Nat) = (0 : Nat)) ∧
   (Ob ((0 : Nat) = (0 : Nat)) ∧
   (Ob ((0 : Nat) = (0 : Nat)) ∧
   (Ob (IntKind.wrap IntKind.i64 (v0.1.1 + (1 : Int)) = v1.1.1) ∧
   (Ob (sB0 = sB0) ∧
   (Ob (sB1 = sB1) ∧
   (Ob (sB2 = sB2) ∧
   (Ob (sA0 = sA0) ∧
   (Ob (sA1 = sA1) ∧
   (Ob ((val (F_CycleOf sB0 sB1 sB2 sA0 sA1 y_0 y_1)).1 = (val (F_CycleOf sB0 sB1 sB2 sA0 sA1 y_0 y_1)).1) ∧
   (Ob ((val (F_CycleOf sB0 sB1 sB2 sA0 sA1 y_0 y_1)).2.1 = (val (F_CycleOf sB0 sB1 sB2 sA0 sA1 y_0 y_1)).2.1) ∧
   (Ob ((val (R06_Out sB0 sB1 sB2 sA0 sA1 v0.1.2.1 v0.1.2.2.1 v0.1.2.2.2.1 v0.1.2.2.2.2.1 (0 : Int))).2.2.1 = v1.1.2.1) ∧
   (Ob ((val (R06_Out sB0 sB1 sB2 sA0 sA1 v0.1.2.1 v0.1.2.2.1 v0.1.2.2.2.1 v0.1.2.2.2.2.1 (0 : Int))).2.2.2.1 = v1.1.2.2.1) ∧
   (Ob ((val (R06_Out sB0 sB1 sB2 sA0 sA1 v0.1.2.1 v0.1.2.2.1 v0.1.2.2.2.1 v0.1.2.2.2.2.1 (0 : Int))).2.2.2.2.1 = v1.1.2.2.2.1) ∧
   (Ob ((val (R06_Out sB0 sB1 sB2 sA0 sA1 v0.1.2.1 v0.1.2.2.1 v0.1.2.2.2.1 v0.1.2.2.2.2.1 (0 : Int))).2.2.2.2.2 = v1.1.2.2.2.2.1) ∧
   (Ob (v0.1.2.2.2.1 = v1.1.2.2.2.2.2.1) ∧
   (Ob (v0.1.2.2.2.2.1 = v1.1.2.2.2.2.2.2) ∧
   True))))))))))))))))))))))))
   ((Ob (ok (R06_Out sB0 sB1 sB2 sA0 sA1 v0.1.2.1 v0.1.2.2.1 v0.1.2.2.2.1 v0.1.2.2.2.2.1 (0 : Int))) ∧
   (∃ (v1 : (Int × Int × Int × Int × Int × Int × Int) × Nat), (Ob ((Option.bind (iter (L06_FilterCycles_b0 sB0 sB1 sB2 sA0 sA1 (val (F_CycleOf sB0 sB1 sB2 sA0 sA1 y_0 y_1))) v1.2 v1.1) fun y0 => Option.bind (L06_FilterCycles_r0 sA0 sA1 (val (F_CycleOf sB0 sB1 sB2 sA0 sA1 y_0 y_1)) y0) some) = some r) ∧
   (Ob (v1.2 < v0.2) ∧
   (Ob ((0 : Nat) = (0 : Nat)) ∧
   (Ob ((0 : Nat) = (0 : Nat)) ∧
   (Ob ((0 : Nat) = (0 : Nat)) ∧
   (Ob ((0 : Nat) = (0 : Nat)) ∧
   (Ob (IntKind.wrap IntKind.i64 (v0.1.1 + (1 : Int)) = v1.1.1) ∧
   (Ob (sB0 = sB0) ∧
   (Ob (sB1 = sB1) ∧
   (Ob (sB2 = sB2) ∧
   (Ob (sA0 = sA0) ∧
   (Ob (sA1 = sA1) ∧
   (Ob ((val (F_CycleOf sB0 sB1 sB2 sA0 sA1 y_0 y_1)).1 = (val (F_CycleOf sB0 sB1 sB2 sA0 sA1 y_0 y_1)).1) ∧
   (Ob ((val (F_CycleOf sB0 sB1 sB2 sA0 sA1 y_0 y_1)).2.1 = (val (F_CycleOf sB0 sB1 sB2 sA0 sA1 y_0 y_1)).2.1) ∧
   (Ob ((val (R06_Out sB0 sB1 sB2 sA0 sA1 v0.1.2.1 v0.1.2.2.1 v0.1.2.2.2.1 v0.1.2.2.2.2.1 (0 : Int))).2.2.1 = v1.1.2.1) ∧
   (Ob ((val (R06_Out sB0 sB1 sB2 sA0 sA1 v0.1.2.1 v0.1.2.2.1 v0.1.2.2.2.1 v0.1.2.2.2.2.1 (0 : Int))).2.2.2.1 = v1.1.2.2.1) ∧
   (Ob ((val (R06_Out sB0 sB1 sB2 sA0 sA1 v0.1.2.1 v0.1.2.2.1 v0.1.2.2.2.1 v0.1.2.2.2.2.1 (0 : Int))).2.2.2.2.1 = v1.1.2.2.2.1) ∧
   (Ob ((val (R06_Out sB0 sB1 sB2 sA0 sA1 v0.1.2.1 v0.1.2.2.1 v0.1.2.2.2.1 v0.1.2.2.2.2.1 (0 : Int))).2.2.2.2.2 = v1.1.2.2.2.2.1) ∧
   (Ob (v0.1.2.2.2.1 = v1.1.2.2.2.2.2.1) ∧
   (Ob (v0.1.2.2.2.2.1 = v1.1.2.2.2.2.2.2) ∧
   True))))))))))))))))))))))))
   (Br (v0.1.1 == IntKind.wrap IntKind.i64 ((val (F_CycleOf sB0 sB1 sB2 sA0 sA1 y_0 y_1)).1 + (val (F_CycleOf sB0 sB1 sB2 sA0 sA1 y_0 y_1)).2.1))
   (Br (!(v0.1.2.2.2.1 == v0.1.2.2.2.2.2.1 && v0.1.2.2.2.2.1 == v0.1.2.2.2.2.2.2))
   ((Ob (True) ∧
   (Ob (false = r) ∧
   True)))
   ((Ob (ok (R06_Out sB0 sB1 sB2 sA0 sA1 v0.1.2.1 v0.1.2.2.1 v0.1.2.2.2.1 v0.1.2.2.2.2.1 (0 : Int))) ∧
   (∃ (v1 : (Int × Int × Int × Int × Int × Int × Int) × Nat), (Ob ((Option.bind (iter (L06_FilterCycles_b0 sB0 sB1 sB2 sA0 sA1 (val (F_CycleOf sB0 sB1 sB2 sA0 sA1 y_0 y_1))) v1.2 v1.1) fun y0 => Option.bind (L06_FilterCycles_r0 sA0 sA1 (val (F_CycleOf sB0 sB1 sB2 sA0 sA1 y_0 y_1)) y0) some) = some r) ∧
   (Ob (v1.2 < v0.2) ∧
   (Ob ((0 : Nat) = (0 : Nat)) ∧
   (Ob ((0 : Nat) = (0 : Nat)) ∧
   (Ob ((0 : Nat) = (0 : Nat)) ∧
   (Ob ((0 : Nat) = (0 : Nat)) ∧
   (Ob (IntKind.wrap IntKind.i64 (v0.1.1 + (1 : Int)) = v1.1.1) ∧
   (Ob (sB0 = sB0) ∧
   (Ob (sB1 = sB1) ∧
   (Ob (sB2 = sB2) ∧
   (Ob (sA0 = sA0) ∧
   (Ob (sA1 = sA1) ∧
   (Ob ((val (F_CycleOf sB0 sB1 sB2 sA0 sA1 y_0 y_1)).1 = (val (F_CycleOf sB0 sB1 sB2 sA0 sA1 y_0 y_1)).1) ∧
   (Ob ((val (F_CycleOf sB0 sB1 sB2 sA0 sA1 y_0 y_1)).2.1 = (val (F_CycleOf sB0 sB1 sB2 sA0 sA1 y_0 y_1)).2.1) ∧
   (Ob ((val (R06_Out sB0 sB1 sB2 sA0 sA1 v0.1.2.1 v0.1.2.2.1 v0.1.2.2.2.1 v0.1.2.2.2.2.1 (0 : Int))).2.2.1 = v1.1.2.1) ∧
   (Ob ((val (R06_Out sB0 sB1 sB2 sA0 sA1 v0.1.2.1 v0.1.2.2.1 v0.1.2.2.2.1 v0.1.2.2.2.2.1 (0 : Int))).2.2.2.1 = v1.1.2.2.1) ∧
   (Ob ((val (R06_Out sB0 sB1 sB2 sA0 sA1 v0.1.2.1 v0.1.2.2.1 v0.1.2.2.2.1 v0.1.2.2.2.2.1 (0 : Int))).2.2.2.2.1 = v1.1.2.2.2.1) ∧
   (Ob ((val (R06_Out sB0 sB1 sB2 sA0 sA1 v0.1.2.1 v0.1.2.2.1 v0.1.2.2.2.1 v0.1.2.2.2.2.1 (0 : Int))).2.2.2.2.2 = v1.1.2.2.2.2.1) ∧
   (Ob (v0.1.2.2.2.2.2.1 = v1.1.2.2.2.2.2.1) ∧
   (Ob (v0.1.2.2.2.2.2.2 = v1.1.2.2.2.2.2.2) ∧
   True))))))))))))))))))))))))
   ((Ob (ok (R06_Out sB0 sB1 sB2 sA0 sA1 v0.1.2.1 v0.1.2.2.1 v0.1.2.2.2.1 v0.1.2.2.2.2.1 (0 : Int))) ∧
   (∃ (v1 : (Int × Int × Int × Int × Int × Int × Int) × Nat), (Ob ((Option.bind (iter (L06_FilterCycles_b0 sB0 sB1 sB2 sA0 sA1 (val (F_CycleOf sB0 sB1 sB2 sA0 sA1 y_0 y_1))) v1.2 v1.1) fun y0 => Option.bind (L06_FilterCycles_r0 sA0 sA1 (val (F_CycleOf sB0 sB1 sB2 sA0 sA1 y_0 y_1)) y0) some) = some r) ∧
   (Ob (v1.2 < v0.2) ∧
   (Ob ((0 : Nat) = (0 : Nat)) ∧
   (Ob ((0 : Nat) = (0 : Nat)) ∧
   (Ob ((0 : Nat) = (0 : Nat)) ∧
   (Ob ((0 : Nat) = (0 : Nat)) ∧
   (Ob (IntKind.wrap IntKind.i64 (v0.1.1 + (1 : Int)) = v1.1.1) ∧
   (Ob (sB0 = sB0) ∧
   (Ob (sB1 = sB1) ∧
   (Ob (sB2 = sB2) ∧
   (Ob (sA0 = sA0) ∧
   (Ob (sA1 = sA1) ∧
   (Ob ((val (F_CycleOf sB0 sB1 sB2 sA0 sA1 y_0 y_1)).1 = (val (F_CycleOf sB0 sB1 sB2 sA0 sA1 y_0 y_1)).1) ∧
   (Ob ((val (F_CycleOf sB0 sB1 sB2 sA0 sA1 y_0 y_1)).2.1 = (val (F_CycleOf sB0 sB1 sB2 sA0 sA1 y_0 y_1)).2.1) ∧
   (Ob ((val (R06_Out sB0 sB1 sB2 sA0 sA1 v0.1.2.1 v0.1.2.2.1 v0.1.2.2.2.1 v0.1.2.2.2.2.1 (0 : Int))).2.2.1 = v1.1.2.1) ∧
   (Ob ((val (R06_Out sB0 sB1 sB2 sA0 sA1 v0.1.2.1 v0.1.2.2.1 v0.1.2.2.2.1 v0.1.2.2.2.2.1 (0 : Int))).2.2.2.1 = v1.1.2.2.1) ∧
   (Ob ((val (R06_Out sB0 sB1 sB2 sA0 sA1 v0.1.2.1 v0.1.2.2.1 v0.1.2.2.2.1 v0.1.2.2.2.2.1 (0 : Int))).2.2.2.2.1 = v1.1.2.2.2.1) ∧
   (Ob ((val (R06_Out sB0 sB1 sB2 sA0 sA1 v0.1.2.1 v0.1.2.2.1 v0.1.2.2.2.1 v0.1.2.2.2.2.1 (0 : Int))).2.2.2.2.2 = v1.1.2.2.2.2.1) ∧
   (Ob (v0.1.2.2.2.2.2.1 = v1.1.2.2.2.2.2.1) ∧
   (Ob (v0.1.2.2.2.2.2.2 = v1.1.2.2.2.2.2.2) ∧
   True)))))))))))))))))))))))))
   (Br (!(sA0 == (0 : Int) && sA1 == (0 : Int)))
   ((Ob (True) ∧
   (Ob (true = r) ∧
   True)))
   ((Ob (True) ∧
   (Ob (((val (F_CycleOf sB0 sB1 sB2 sA0 sA1 y_0 y_1)).1 == (val (F_CycleOf sB0 sB1 sB2 sA0 sA1 y_0 y_1)).1 && (val (F_CycleOf sB0 sB1 sB2 sA0 sA1 y_0 y_1)).2.1 == (1 : Int)) = r) ∧
   True)))))))))))))
   (Br ((val (F_CycleOf sB0 sB1 sB2 sA0 sA1 y_0 y_1)).2.2 != val (R06_CheckSection sB0 sB1 sB2 sA0 sA1))
   ((Ob (True) ∧
   (Ob (false = r) ∧
   True)))
   (Br (!((val (F_CycleOf sB0 sB1 sB2 sA0 sA1 y_0 y_1)).1 == (0 : Int) && (val (F_CycleOf sB0 sB1 sB2 sA0 sA1 y_0 y_1)).2.1 == (0 : Int)))
   ((Ob (True) ∧
   (Ob (false = r) ∧
   True)))
   (Br (val (R06_CheckSection sB0 sB1 sB2 sA0 sA1) != (0 : Int))
   ((Ob (True) ∧
   (Ob (true = r) ∧
   True)))
   (Br (decide (IntKind.wrap IntKind.i64 ((val (F_CycleOf sB0 sB1 sB2 sA0 sA1 y_0 y_1)).1 + (val (F_CycleOf sB0 sB1 sB2 sA0 sA1 y_0 y_1)).2.1) > (200 : Int)))
   ((Ob (True) ∧
   (Ob (true = r) ∧
   True)))
   (((∃ (v0 : (Int × Int × Int × Int × Int × Int × Int) × Nat), (Ob ((Option.bind (iter (L06_FilterCycles_b0 sB0 sB1 sB2 sA0 sA1 (val (F_CycleOf sB0 sB1 sB2 sA0 sA1 y_0 y_1))) v0.2 v0.1) fun y0 => Option.bind (L06_FilterCycles_r0 sA0 sA1 (val (F_CycleOf sB0 sB1 sB2 sA0 sA1 y_0 y_1)) y0) some) = some r) ∧
   (Ob ((0 : Nat) = (0 : Nat)) ∧
   (Ob ((0 : Nat) = (0 : Nat)) ∧
   (Ob ((0 : Nat) = (0 : Nat)) ∧
   (Ob ((0 : Nat) = (0 : Nat)) ∧
   (Ob ((0 : Int) = v0.1.1) ∧
   (Ob (sB0 = sB0) ∧
   (Ob (sB1 = sB1) ∧
   (Ob (sB2 = sB2) ∧
   (Ob (sA0 = sA0) ∧
   (Ob (sA1 = sA1) ∧
   (Ob ((val (F_CycleOf sB0 sB1 sB2 sA0 sA1 y_0 y_1)).1 = (val (F_CycleOf sB0 sB1 sB2 sA0 sA1 y_0 y_1)).1) ∧
   (Ob ((val (F_CycleOf sB0 sB1 sB2 sA0 sA1 y_0 y_1)).2.1 = (val (F_CycleOf sB0 sB1 sB2 sA0 sA1 y_0 y_1)).2.1) ∧
   (Ob ((0 : Int) = v0.1.2.1) ∧
   (Ob ((0 : Int) = v0.1.2.2.1) ∧
   (Ob (y_0 = v0.1.2.2.2.1) ∧
   (Ob (y_1 = v0.1.2.2.2.2.1) ∧
   (Ob ((0 : Int) = v0.1.2.2.2.2.2.1) ∧
   (Ob ((0 : Int) = v0.1.2.2.2.2.2.2) ∧
   True)))))))))))))))))))) ∧
   (∀ (v0 : (Int × Int × Int × Int × Int × Int × Int) × Nat), ((Option.bind (iter (L06_FilterCycles_b0 sB0 sB1 sB2 sA0 sA1 (val (F_CycleOf sB0 sB1 sB2 sA0 sA1 y_0 y_1))) v0.2 v0.1) fun y0 => Option.bind (L06_FilterCycles_r0 sA0 sA1 (val (F_CycleOf sB0 sB1 sB2 sA0 sA1 y_0 y_1)) y0) some) = some r →
   Br (decide (v0.1.1 ≤ IntKind.wrap IntKind.i64 ((val (F_CycleOf sB0 sB1 sB2 sA0 sA1 y_0 y_1)).1 + (val (F_CycleOf sB0 sB1 sB2 sA0 sA1 y_0 y_1)).2.1)))
   (Br (v0.1.1 == (val (F_CycleOf sB0 sB1 sB2 sA0 sA1 y_0 y_1)).1)
   (Br (v0.1.1 == IntKind.wrap IntKind.i64 ((val (F_CycleOf sB0 sB1 sB2 sA0 sA1 y_0 y_1)).1 + (val (F_CycleOf sB0 sB1 sB2 sA0 sA1 y_0 y_1)).2.1))
   (Br (!(v0.1.2.2.2.1 == v0.1.2.2.2.1 && v0.1.2.2.2.2.1 == v0.1.2.2.2.2.1))
   ((Ob (True) ∧
   (Ob (false = r) ∧
   True)))
   ((Ob (ok (R06_Out sB0 sB1 sB2 sA0 sA1 v0.1.2.1 v0.1.2.2.1 v0.1.2.2.2.1 v0.1.2.2.2.2.1 (0 : Int))) ∧
   (∃ (v1 : (Int × Int × Int × Int × Int × Int × Int) × Nat), (Ob ((Option.bind (iter (L06_FilterCycles_b0 sB0 sB1 sB2 sA0 sA1 (val (F_CycleOf sB0 sB1 sB2 sA0 sA1 y_0 y_1))) v1.2 v1.1) fun y0 => Option.bind (L06_FilterCycles_r0 sA0 sA1 (val (F_CycleOf sB0 sB1 sB2 sA0 sA1 y_0 y_1)) y0) some) = some r) ∧
   (Ob (v1.2 < v0.2) ∧
   (Ob ((0 : Nat) = (0 : Nat)) ∧
   (Ob ((0 : Nat) = (0 : Nat)) ∧
   (Ob ((0 : Nat) = (0 : Nat)) ∧
   (Ob ((0 : Nat) = (0 : Nat)) ∧
   (Ob (IntKind.wrap IntKind.i64 (v0.1.1 + (1 : Int)) = v1.1.1) ∧
   (Ob (sB0 = sB0) ∧
   (Ob (sB1 = sB1) ∧
   (Ob (sB2 = sB2) ∧
   (Ob (sA0 = sA0) ∧
   (Ob (sA1 = sA1) ∧
   (Ob ((val (F_CycleOf sB0 sB1 sB2 sA0 sA1 y_0 y_1)).1 = (val (F_CycleOf sB0 sB1 sB2 sA0 sA1 y_0 y_1)).1) ∧
   (Ob ((val (F_CycleOf sB0 sB1 sB2 sA0 sA1 y_0 y_1)).2.1 = (val (F_CycleOf sB0 sB1 sB2 sA0 sA1 y_0 y_1)).2.1) ∧
   (Ob ((val (R06_Out sB0 sB1 sB2 sA0 sA1 v0.1.2.1 v0.1.2.2.1 v0.1.2.2.2.1 v0.1.2.2.2.2.1 (0 : Int))).2.2.1 = v1.1.2.1) ∧
   (Ob ((val (R06_Out sB0 sB1 sB2 sA0 sA1 v0.1.2.1 v0.1.2.2.1 v0.1.2.2.2.1 v0.1.2.2.2.2.1 (0 : Int))).2.2.2.1 = v1.1.2.2.1) ∧
   (Ob ((val (R06_Out sB0 sB1 sB2 sA0 sA1 v0.1.2.1 v0.1.2.2.1 v0.1.2.2.2.1 v0.1.2.2.2.2.1 (0 : Int))).2.2.2.2.1 = v1.1.2.2.2.1) ∧
   (Ob ((val (R06_Out sB0 sB1 sB2 sA0 sA1 v0.1.2.1 v0.1.2.2.1 v0.1.2.2.2.1 v0.1.2.2.2.2.1 (0 : Int))).2.2.2.2.2 = v1.1.2.2.2.2.1) ∧
   (Ob (v0.1.2.2.2.1 = v1.1.2.2.2.2.2.1) ∧
   (Ob (v0.1.2.2.2.2.1 = v1.1.2.2.2.2.2.2) ∧
   True))))))))))))))))))))))))
   ((Ob (ok (R06_Out sB0 sB1 sB2 sA0 sA1 v0.1.2.1 v0.1.2.2.1 v0.1.2.2.2.1 v0.1.2.2.2.2.1 (0 : Int))) ∧
   (∃ (v1 : (Int × Int × Int × Int × Int × Int × Int) × Nat), (Ob ((Option.bind (iter (L06_FilterCycles_b0 sB0 sB1 sB2 sA0 sA1 (val (F_CycleOf sB0 sB1 sB2 sA0 sA1 y_0 y_1))) v1.2 v1.1) fun y0 => Option.bind (L06_FilterCycles_r0 sA0 sA1 (val (F_CycleOf sB0 sB1 sB2 sA0 sA1 y_0 y_1)) y0) some) = some r) ∧
   (Ob (v1.2 < v0.2) ∧
   (Ob ((0 : Nat) = (0 : Nat)) ∧
   (Ob ((0 : Nat) = (0 : Nat)) ∧
   (Ob ((0 : Nat) = (0 : Nat)) ∧
   (Ob ((0 : Nat) = (0 : Nat)) ∧
   (Ob (IntKind.wrap IntKind.i64 (v0.1.1 + (1 : Int)) = v1.1.1) ∧
   (Ob (sB0 = sB0) ∧
   (Ob (sB1 = sB1) ∧
   (Ob (sB2 = sB2) ∧
   (Ob (sA0 = sA0) ∧
   (Ob (sA1 = sA1) ∧
   (Ob ((val (F_CycleOf sB0 sB1 sB2 sA0 sA1 y_0 y_1)).1 = (val (F_CycleOf sB0 sB1 sB2 sA0 sA1 y_0 y_1)).1) ∧
   (Ob ((val (F_CycleOf sB0 sB1 sB2 sA0 sA1 y_0 y_1)).2.1 = (val (F_CycleOf sB0 sB1 sB2 sA0 sA1 y_0 y_1)).2.1) ∧
   (Ob ((val (R06_Out sB0 sB1 sB2 sA0 sA1 v0.1.2.1 v0.1.2.2.1 v0.1.2.2.2.1 v0.1.2.2.2.2.1 (0 : Int))).2.2.1 = v1.1.2.1) ∧
   (Ob ((val (R06_Out sB0 sB1 sB2 sA0 sA1 v0.1.2.1 v0.1.2.2.1 v0.1.2.2.2.1 v0.1.2.2.2.2.1 (0 : Int))).2.2.2.1 = v1.1.2.2.1) ∧
   (Ob ((val (R06_Out sB0 sB1 sB2 sA0 sA1 v0.1.2.1 v0.1.2.2.1 v0.1.2.2.2.1 v0.1.2.2.2.2.1 (0 : Int))).2.2.2.2.1 = v1.1.2.2.2.1) ∧
   (Ob ((val (R06_Out sB0 sB1 sB2 sA0 sA1 v0.1.2.1 v0.1.2.2.1 v0.1.2.2.2.1 v0.1.2.2.2.2.1 (0 : Int))).2.2.2.2.2 = v1.1.2.2.2.2.1) ∧
   (Ob (v0.1.2.2.2.1 = v1.1.2.2.2.2.2.1) ∧
   (Ob (v0.1.2.2.2.2.1 = v1.1.2.2.2.2.2.2) ∧
   True))))))))))))))))))))))))
   (Br (v0.1.1 == IntKind.wrap IntKind.i64 ((val (F_CycleOf sB0 sB1 sB2 sA0 sA1 y_0 y_1)).1 + (val (F_CycleOf sB0 sB1 sB2 sA0 sA1 y_0 y_1)).2.1))
   (Br (!(v0.1.2.2.2.1 == v0.1.2.2.2.2.2.1 && v0.1.2.2.2.2.1 == v0.1.2.2.2.2.2.2))
   ((Ob (True) ∧
   (Ob (false = r) ∧
   True)))
   ((Ob (ok (R06_Out sB0 sB1 sB2 sA0 sA1 v0.1.2.1 v0.1.2.2.1 v0.1.2.2.2.1 v0.1.2.2.2.2.1 (0 : Int))) ∧
   (∃ (v1 : (Int × Int × Int × Int × Int × Int × Int) × Nat), (Ob ((Option.bind (iter (L06_FilterCycles_b0 sB0 sB1 sB2 sA0 sA1 (val (F_CycleOf sB0 sB1 sB2 sA0 sA1 y_0 y_1))) v1.2 v1.1) fun y0 => Option.bind (L06_FilterCycles_r0 sA0 sA1 (val (F_CycleOf sB0 sB1 sB2 sA0 sA1 y_0 y_1)) y0) some) = some r) ∧
   (Ob (v1.2 < v0.2) ∧
   (Ob ((0 : Nat) = (0 : Nat)) ∧
   (Ob ((0 : Nat) = (0 : Nat)) ∧
   (Ob ((0 : Nat) = (0 : Nat)) ∧
   (Ob ((0 : Nat) = (0 : Nat)) ∧
   (Ob (IntKind.wrap IntKind.i64 (v0.1.1 + (1 : Int)) = v1.1.1) ∧
   (Ob (sB0 = sB0) ∧
   (Ob (sB1 = sB1) ∧
   (Ob (sB2 = sB2) ∧
   (Ob (sA0 = sA0) ∧
   (Ob (sA1 = sA1) ∧
   (Ob ((val (F_CycleOf sB0 sB1 sB2 sA0 sA1 y_0 y_1)).1 = (val (F_CycleOf sB0 sB1 sB2 sA0 sA1 y_0 y_1)).1) ∧
   (Ob ((val (F_CycleOf sB0 sB1 sB2 sA0 sA1 y_0 y_1)).2.1 = (val (F_CycleOf sB0 sB1 sB2 sA0 sA1 y_0 y_1)).2.1) ∧
   (Ob ((val (R06_Out sB0 sB1 sB2 sA0 sA1 v0.1.2.1 v0.1.2.2.1 v0.1.2.2.2.1 v0.1.2.2.2.2.1 (0 : Int))).2.2.1 = v1.1.2.1) ∧
   (Ob ((val (R06_Out sB0 sB1 sB2 sA0 sA1 v0.1.2.1 v0.1.2.2.1 v0.1.2.2.2.1 v0.1.2.2.2.2.1 (0 : Int))).2.2.2.1 = v1.1.2.2.1) ∧
   (Ob ((val (R06_Out sB0 sB1 sB2 sA0 sA1 v0.1.2.1 v0.1.2.2.1 v0.1.2.2.2.1 v0.1.2.2.2.2.1 (0 : Int))).2.2.2.2.1 = v1.1.2.2.2.1) ∧
   (Ob ((val (R06_Out sB0 sB1 sB2 sA0 sA1 v0.1.2.1 v0.1.2.2.1 v0.1.2.2.2.1 v0.1.2.2.2.2.1 (0 : Int))).2.2.2.2.2 = v1.1.2.2.2.2.1) ∧
   (Ob (v0.1.2.2.2.2.2.1 = v1.1.2.2.2.2.2.1) ∧
   (Ob (v0.1.2.2.2.2.2.2 = v1.1.2.2.2.2.2.2) ∧
   True))))))))))))))))))))))))
   ((Ob (ok (R06_Out sB0 sB1 sB2 sA0 sA1 v0.1.2.1 v0.1.2.2.1 v0.1.2.2.2.1 v0.1.2.2.2.2.1 (0 : Int))) ∧
   (∃ (v1 : (Int × Int × Int × Int × Int × Int × Int) × Nat), (Ob ((Option.bind (iter (L06_FilterCycles_b0 sB0 sB1 sB2 sA0 sA1 (val (F_CycleOf sB0 sB1 sB2 sA0 sA1 y_0 y_1))) v1.2 v1.1) fun y0 => Option.bind (L06_FilterCycles_r0 sA0 sA1 (val (F_CycleOf sB0 sB1 sB2 sA0 sA1 y_0 y_1)) y0) some) = some r) ∧
   (Ob (v1.2 < v0.2) ∧
   (Ob ((0 : Nat) = (0 : Nat)) ∧
   (Ob ((0 : Nat) = (0 : Nat)) ∧
   (Ob ((0 : Nat) = (0 : Nat)) ∧
   (Ob ((0 : Nat) = (0 : Nat)) ∧
   (Ob (IntKind.wrap IntKind.i64 (v0.1.1 + (1 : Int)) = v1.1.1) ∧
   (Ob (sB0 = sB0) ∧
   (Ob (sB1 = sB1) ∧
   (Ob (sB2 = sB2) ∧
   (Ob (sA0 = sA0) ∧
   (Ob (sA1 = sA1) ∧
   (Ob ((val (F_CycleOf sB0 sB1 sB2 sA0 sA1 y_0 y_1)).1 = (val (F_CycleOf sB0 sB1 sB2 sA0 sA1 y_0 y_1)).1) ∧
   (Ob ((val (F_CycleOf sB0 sB1 sB2 sA0 sA1 y_0 y_1)).2.1 = (val (F_CycleOf sB0 sB1 sB2 sA0 sA1 y_0 y_1)).2.1) ∧
   (Ob ((val (R06_Out sB0 sB1 sB2 sA0 sA1 v0.1.2.1 v0.1.2.2.1 v0.1.2.2.2.1 v0.1.2.2.2.2.1 (0 : Int))).2.2.1 = v1.1.2.1) ∧
   (Ob ((val (R06_Out sB0 sB1 sB2 sA0 sA1 v0.1.2.1 v0.1.2.2.1 v0.1.2.2.2.1 v0.1.2.2.2.2.1 (0 : Int))).2.2.2.1 = v1.1.2.2.1) ∧
   (Ob ((val (R06_Out sB0 sB1 sB2 sA0 sA1 v0.1.2.1 v0.1.2.2.1 v0.1.2.2.2.1 v0.1.2.2.2.2.1 (0 : Int))).2.2.2.2.1 = v1.1.2.2.2.1) ∧
   (Ob ((val (R06_Out sB0 sB1 sB2 sA0 sA1 v0.1.2.1 v0.1.2.2.1 v0.1.2.2.2.1 v0.1.2.2.2.2.1 (0 : Int))).2.2.2.2.2 = v1.1.2.2.2.2.1) ∧
   (Ob (v0.1.2.2.2.2.2.1 = v1.1.2.2.2.2.2.1) ∧
   (Ob (v0.1.2.2.2.2.2.2 = v1.1.2.2.2.2.2.2) ∧
   True)))))))))))))))))))))))))
   (Br (!(sA0 == (0 : Int) && sA1 == (0 : Int)))
   ((Ob (True) ∧
   (Ob (true = r) ∧
   True)))
   ((Ob (True) ∧
   (Ob (((val (F_CycleOf sB0 sB1 sB2 sA0 sA1 y_0 y_1)).1 == (val (F_CycleOf sB0 sB1 sB2 sA0 sA1 y_0 y_1)).1 && (val (F_CycleOf sB0 sB1 sB2 sA0 sA1 y_0 y_1)).2.1 == (1 : Int)) = r) ∧
   True)))))))))))))))) = _) ?_
  refine ob_c (p := ok L06_awake) (by decide) ?_
  refine call_s h fun h => ?_
  refine call_s h fun h => ?_
  refine br_b h (fun h => ?_) (fun h => ?_)
  · refine call_s h fun h => ?_
    refine br_b h (fun h => ?_) (fun h => ?_)
    · refine ob_t ?_
      exact ret_s h (fun e => by subst e; exact (by repeat' (first | exact trivial | exact ⟨rfl⟩ | refine And.intro ?_ ?_)))
    · refine br_b h (fun h => ?_) (fun h => ?_)
      · refine ob_t ?_
        exact ret_s h (fun e => by subst e; exact (by repeat' (first | exact trivial | exact ⟨rfl⟩ | refine And.intro ?_ ?_)))
      · refine br_b h (fun h => ?_) (fun h => ?_)
        · refine ob_t ?_
          exact ret_s h (fun e => by subst e; exact (by repeat' (first | exact trivial | exact ⟨rfl⟩ | refine And.intro ?_ ?_)))
        · refine br_d h (fun h => ?_) (fun h => ?_)
          · refine ob_t ?_
            exact ret_s h (fun e => by subst e; exact (by repeat' (first | exact trivial | exact ⟨rfl⟩ | refine And.intro ?_ ?_)))
          · refine ⟨⟨(((0 : Int), (0 : Int), (0 : Int), y_0, y_1, (0 : Int), (0 : Int)), big), ⟨loop_s h⟩, (by repeat' (first | exact trivial | exact ⟨rfl⟩ | refine And.intro ?_ ?_))⟩, fun z4 hz4 => ?_⟩
            obtain ⟨k4, hm4, h⟩ := iter_pos hz4
            refine br_d h (fun h => ?_) (fun h => ?_)
            · refine br_b h (fun h => ?_) (fun h => ?_)
              · refine br_b h (fun h => ?_) (fun h => ?_)
                · refine br_b h (fun h => ?_) (fun h => ?_)
                  · have h := exit_s h
                    refine ob_t ?_
                    exact ret_s h (fun e => by subst e; exact (by repeat' (first | exact trivial | exact ⟨rfl⟩ | refine And.intro ?_ ?_)))
                  · refine call_s h fun h => ?_
                    exact ⟨((IntKind.wrap IntKind.i64 ((Prod.fst z4).1 + (1 : Int)), (val (R06_Out sB0 sB1 sB2 sA0 sA1 (Prod.fst z4).2.1 (Prod.fst z4).2.2.1 (Prod.fst z4).2.2.2.1 (Prod.fst z4).2.2.2.2.1 (0 : Int))).2.2.1, (val (R06_Out sB0 sB1 sB2 sA0 sA1 (Prod.fst z4).2.1 (Prod.fst z4).2.2.1 (Prod.fst z4).2.2.2.1 (Prod.fst z4).2.2.2.2.1 (0 : Int))).2.2.2.1, (val (R06_Out sB0 sB1 sB2 sA0 sA1 (Prod.fst z4).2.1 (Prod.fst z4).2.2.1 (Prod.fst z4).2.2.2.1 (Prod.fst z4).2.2.2.2.1 (0 : Int))).2.2.2.2.1, (val (R06_Out sB0 sB1 sB2 sA0 sA1 (Prod.fst z4).2.1 (Prod.fst z4).2.2.1 (Prod.fst z4).2.2.2.1 (Prod.fst z4).2.2.2.2.1 (0 : Int))).2.2.2.2.2, (Prod.fst z4).2.2.2.1, (Prod.fst z4).2.2.2.2.1), k4), ⟨next_s h⟩, ⟨lt_gs hm4.symm⟩, (by repeat' (first | exact trivial | exact ⟨rfl⟩ | refine And.intro ?_ ?_))⟩
                · refine call_s h fun h => ?_
                  exact ⟨((IntKind.wrap IntKind.i64 ((Prod.fst z4).1 + (1 : Int)), (val (R06_Out sB0 sB1 sB2 sA0 sA1 (Prod.fst z4).2.1 (Prod.fst z4).2.2.1 (Prod.fst z4).2.2.2.1 (Prod.fst z4).2.2.2.2.1 (0 : Int))).2.2.1, (val (R06_Out sB0 sB1 sB2 sA0 sA1 (Prod.fst z4).2.1 (Prod.fst z4).2.2.1 (Prod.fst z4).2.2.2.1 (Prod.fst z4).2.2.2.2.1 (0 : Int))).2.2.2.1, (val (R06_Out sB0 sB1 sB2 sA0 sA1 (Prod.fst z4).2.1 (Prod.fst z4).2.2.1 (Prod.fst z4).2.2.2.1 (Prod.fst z4).2.2.2.2.1 (0 : Int))).2.2.2.2.1, (val (R06_Out sB0 sB1 sB2 sA0 sA1 (Prod.fst z4).2.1 (Prod.fst z4).2.2.1 (Prod.fst z4).2.2.2.1 (Prod.fst z4).2.2.2.2.1 (0 : Int))).2.2.2.2.2, (Prod.fst z4).2.2.2.1, (Prod.fst z4).2.2.2.2.1), k4), ⟨next_s h⟩, ⟨lt_gs hm4.symm⟩, (by repeat' (first | exact trivial | exact ⟨rfl⟩ | refine And.intro ?_ ?_))⟩
              · refine br_b h (fun h => ?_) (fun h => ?_)
                · refine br_b h (fun h => ?_) (fun h => ?_)
                  · have h := exit_s h
                    refine ob_t ?_
                    exact ret_s h (fun e => by subst e; exact (by repeat' (first | exact trivial | exact ⟨rfl⟩ | refine And.intro ?_ ?_)))
                  · refine call_s h fun h => ?_
                    exact ⟨((IntKind.wrap IntKind.i64 ((Prod.fst z4).1 + (1 : Int)), (val (R06_Out sB0 sB1 sB2 sA0 sA1 (Prod.fst z4).2.1 (Prod.fst z4).2.2.1 (Prod.fst z4).2.2.2.1 (Prod.fst z4).2.2.2.2.1 (0 : Int))).2.2.1, (val (R06_Out sB0 sB1 sB2 sA0 sA1 (Prod.fst z4).2.1 (Prod.fst z4).2.2.1 (Prod.fst z4).2.2.2.1 (Prod.fst z4).2.2.2.2.1 (0 : Int))).2.2.2.1, (val (R06_Out sB0 sB1 sB2 sA0 sA1 (Prod.fst z4).2.1 (Prod.fst z4).2.2.1 (Prod.fst z4).2.2.2.1 (Prod.fst z4).2.2.2.2.1 (0 : Int))).2.2.2.2.1, (val (R06_Out sB0 sB1 sB2 sA0 sA1 (Prod.fst z4).2.1 (Prod.fst z4).2.2.1 (Prod.fst z4).2.2.2.1 (Prod.fst z4).2.2.2.2.1 (0 : Int))).2.2.2.2.2, (Prod.fst z4).2.2.2.2.2.1, (Prod.fst z4).2.2.2.2.2.2), k4), ⟨next_s h⟩, ⟨lt_gs hm4.symm⟩, (by repeat' (first | exact trivial | exact ⟨rfl⟩ | refine And.intro ?_ ?_))⟩
                · refine call_s h fun h => ?_
                  exact ⟨((IntKind.wrap IntKind.i64 ((Prod.fst z4).1 + (1 : Int)), (val (R06_Out sB0 sB1 sB2 sA0 sA1 (Prod.fst z4).2.1 (Prod.fst z4).2.2.1 (Prod.fst z4).2.2.2.1 (Prod.fst z4).2.2.2.2.1 (0 : Int))).2.2.1, (val (R06_Out sB0 sB1 sB2 sA0 sA1 (Prod.fst z4).2.1 (Prod.fst z4).2.2.1 (Prod.fst z4).2.2.2.1 (Prod.fst z4).2.2.2.2.1 (0 : Int))).2.2.2.1, (val (R06_Out sB0 sB1 sB2 sA0 sA1 (Prod.fst z4).2.1 (Prod.fst z4).2.2.1 (Prod.fst z4).2.2.2.1 (Prod.fst z4).2.2.2.2.1 (0 : Int))).2.2.2.2.1, (val (R06_Out sB0 sB1 sB2 sA0 sA1 (Prod.fst z4).2.1 (Prod.fst z4).2.2.1 (Prod.fst z4).2.2.2.1 (Prod.fst z4).2.2.2.2.1 (0 : Int))).2.2.2.2.2, (Prod.fst z4).2.2.2.2.2.1, (Prod.fst z4).2.2.2.2.2.2), k4), ⟨next_s h⟩, ⟨lt_gs hm4.symm⟩, (by repeat' (first | exact trivial | exact ⟨rfl⟩ | refine And.intro ?_ ?_))⟩
            · have h := exit_s h
              refine br_b h (fun h => ?_) (fun h => ?_)
              · refine ob_t ?_
                exact ret_s h (fun e => by subst e; exact (by repeat' (first | exact trivial | exact ⟨rfl⟩ | refine And.intro ?_ ?_)))
              · refine ob_t ?_
                exact ret_s h (fun e => by subst e; exact (by repeat' (first | exact trivial | exact ⟨rfl⟩ | refine And.intro ?_ ?_)))
  · refine br_b h (fun h => ?_) (fun h => ?_)
    · refine ob_t ?_
      exact ret_s h (fun e => by subst e; exact (by repeat' (first | exact trivial | exact ⟨rfl⟩ | refine And.intro ?_ ?_)))
    · refine br_b h (fun h => ?_) (fun h => ?_)
      · refine ob_t ?_
        exact ret_s h (fun e => by subst e; exact (by repeat' (first | exact trivial | exact ⟨rfl⟩ | refine And.intro ?_ ?_)))
      · refine br_b h (fun h => ?_) (fun h => ?_)
        · refine ob_t ?_
          exact ret_s h (fun e => by subst e; exact (by repeat' (first | exact trivial | exact ⟨rfl⟩ | refine And.intro ?_ ?_)))
        · exact nomatch h
set_option maxRecDepth 100000 in
theorem L06_FilterCycles_ok : SpecOK Try.prog 6 true (pureK k_L06_FilterCycles g_L06_FilterCycles) := by
  refine pureK_ok (sp := (sp_18 (sp_36 (sp_28 (sp_37 (sp_38 sp0)))))) (fn := Try.f6) (body := bodyOf Try.f6) mixed (sp_18_ok (sp_36_ok (sp_28_ok (sp_37_ok (sp_38_ok sp0_ok))))) Try.func6 (by kernel_rfl) (by kernel_rfl) fun as_ ob rs h ho => ?_
  unfold g_L06_FilterCycles at h
  split at h
  · rename_i sB0 sB1 sB2 sA0 sA1 y_0 y_1
    cases h
    exact ⟨Nat.le_of_ble_eq_true rfl, _, _, L06_FilterCycles_vc sB0 sB1 sB2 sA0 sA1 y_0 y_1 _ (ok_some ho)⟩
  · cases h
theorem sp_6_ok {sp : Specs} (h : SpecsOK Try.prog sp) : SpecsOK Try.prog (sp_6 sp) := addK_ok L06_FilterCycles_ok h
end Go.Sh
