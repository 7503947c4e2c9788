/- Part 6 of the proof of FigureComparesCard: the executor, the mirrors of the functions, the plain facts. -/
import Derived.Test.YtcklfboglnfepaaGreatDoorPE
import Derived.Carry
import Derived.ChangeArms
import Derived.OpenShut
import Derived.ChangeShapes
import Derived.ChangeSame
import Derived.SizedLaws
import Derived.WideShapes
import Derived.LaidLaws
import Derived.LaidHandle
import Derived.LaidMore
import Derived.MakeChecks
import Derived.Handed
import Derived.Test.YtcklfboglnfepaaGreatDoorRows
set_option maxRecDepth 100000
set_option linter.unusedSectionVars false
set_option linter.unusedSimpArgs false
set_option linter.unusedVariables false
section
namespace Go.Sh
open Go Go.Proofs Go.RowKit Go.Sx
theorem jaw : (true = true) := by decide
theorem jax : (true = true ∧ true = true) := by decide
theorem ju9 : ((0 : Int) ≤ 1 ∧ (1 : Int) < 6) := by decide
theorem jnd : ((0 : Int) ≤ 2 ∧ (2 : Int) < 6) := by decide
theorem jeI : ((0 : Int) ≤ 3 ∧ (3 : Int) < 6) := by decide
theorem jbS : ((0 : Int) ≤ 4 ∧ (4 : Int) < 6) := by decide
theorem ja4 : ((0 : Int) ≤ 5 ∧ (5 : Int) < 6) := by decide
def y195 : List SV := [.a [.d, .r (.floats .f32 []), .d, .d]]
def y2 (u4 : Int) (u0 : List Nat) (u6 : Int) (u5 : Int) : Option (Bool × Bool × Bool × Bool × Bool × Bool × Int × Int × Int × Int × Int × Int × Int × Int × Int × Int × Int × Int) :=
 Option.bind (y13 u4 u0 u6 u5 (0 : Int)) fun r0 =>
 if (r0.2.2 == 0) = true then
  Option.bind (y13 u4 u0 u6 u5 (1 : Int)) fun r1 =>
  if (r1.2.2 == 0) = true then
  Option.bind (y13 u4 u0 u6 u5 (2 : Int)) fun r2 =>
  if (r2.2.2 == 0) = true then
   Option.bind (y22 u4 u0 u6 u5 (80000 : Int)) fun r3 =>
   if (r3.2.2 == 0) = true then
   Option.bind (y7 u4 u0 u6 u5 (50000 : Int)) fun r4 =>
   if (r4.2.2 == 0) = true then
    Option.bind (y5 u4 u0 u6 u5) fun r5 =>
    if (r5.2.2 == 0) = true then
    some ((r0.2.2 == 0, r1.2.2 == 0, r2.2.2 == 0, r3.2.2 == 0, r4.2.2 == 0, r5.2.2 == 0, r0.1, r0.2.1, r1.1, r1.2.1, r2.1, r2.2.1, r3.1, r3.2.1, r4.1, r4.2.1, r5.1, r5.2.1))
    else
    some ((r0.2.2 == 0, r1.2.2 == 0, r2.2.2 == 0, r3.2.2 == 0, r4.2.2 == 0, r5.2.2 == 0, r0.1, r0.2.1, r1.1, r1.2.1, r2.1, r2.2.1, r3.1, r3.2.1, r4.1, r4.2.1, 0, 0))
   else
    Option.bind (y5 u4 u0 u6 u5) fun r5 =>
    if (r5.2.2 == 0) = true then
    some ((r0.2.2 == 0, r1.2.2 == 0, r2.2.2 == 0, r3.2.2 == 0, r4.2.2 == 0, r5.2.2 == 0, r0.1, r0.2.1, r1.1, r1.2.1, r2.1, r2.2.1, r3.1, r3.2.1, 0, 0, r5.1, r5.2.1))
    else
    some ((r0.2.2 == 0, r1.2.2 == 0, r2.2.2 == 0, r3.2.2 == 0, r4.2.2 == 0, r5.2.2 == 0, r0.1, r0.2.1, r1.1, r1.2.1, r2.1, r2.2.1, r3.1, r3.2.1, 0, 0, 0, 0))
   else
   Option.bind (y7 u4 u0 u6 u5 (50000 : Int)) fun r4 =>
   if (r4.2.2 == 0) = true then
    Option.bind (y5 u4 u0 u6 u5) fun r5 =>
    if (r5.2.2 == 0) = true then
    some ((r0.2.2 == 0, r1.2.2 == 0, r2.2.2 == 0, r3.2.2 == 0, r4.2.2 == 0, r5.2.2 == 0, r0.1, r0.2.1, r1.1, r1.2.1, r2.1, r2.2.1, 0, 0, r4.1, r4.2.1, r5.1, r5.2.1))
    else
    some ((r0.2.2 == 0, r1.2.2 == 0, r2.2.2 == 0, r3.2.2 == 0, r4.2.2 == 0, r5.2.2 == 0, r0.1, r0.2.1, r1.1, r1.2.1, r2.1, r2.2.1, 0, 0, r4.1, r4.2.1, 0, 0))
   else
    Option.bind (y5 u4 u0 u6 u5) fun r5 =>
    if (r5.2.2 == 0) = true then
    some ((r0.2.2 == 0, r1.2.2 == 0, r2.2.2 == 0, r3.2.2 == 0, r4.2.2 == 0, r5.2.2 == 0, r0.1, r0.2.1, r1.1, r1.2.1, r2.1, r2.2.1, 0, 0, 0, 0, r5.1, r5.2.1))
    else
    some ((r0.2.2 == 0, r1.2.2 == 0, r2.2.2 == 0, r3.2.2 == 0, r4.2.2 == 0, r5.2.2 == 0, r0.1, r0.2.1, r1.1, r1.2.1, r2.1, r2.2.1, 0, 0, 0, 0, 0, 0))
  else
   Option.bind (y22 u4 u0 u6 u5 (80000 : Int)) fun r3 =>
   if (r3.2.2 == 0) = true then
   Option.bind (y7 u4 u0 u6 u5 (50000 : Int)) fun r4 =>
   if (r4.2.2 == 0) = true then
    Option.bind (y5 u4 u0 u6 u5) fun r5 =>
    if (r5.2.2 == 0) = true then
    some ((r0.2.2 == 0, r1.2.2 == 0, r2.2.2 == 0, r3.2.2 == 0, r4.2.2 == 0, r5.2.2 == 0, r0.1, r0.2.1, r1.1, r1.2.1, 0, 0, r3.1, r3.2.1, r4.1, r4.2.1, r5.1, r5.2.1))
    else
    some ((r0.2.2 == 0, r1.2.2 == 0, r2.2.2 == 0, r3.2.2 == 0, r4.2.2 == 0, r5.2.2 == 0, r0.1, r0.2.1, r1.1, r1.2.1, 0, 0, r3.1, r3.2.1, r4.1, r4.2.1, 0, 0))
   else
    Option.bind (y5 u4 u0 u6 u5) fun r5 =>
    if (r5.2.2 == 0) = true then
    some ((r0.2.2 == 0, r1.2.2 == 0, r2.2.2 == 0, r3.2.2 == 0, r4.2.2 == 0, r5.2.2 == 0, r0.1, r0.2.1, r1.1, r1.2.1, 0, 0, r3.1, r3.2.1, 0, 0, r5.1, r5.2.1))
    else
    some ((r0.2.2 == 0, r1.2.2 == 0, r2.2.2 == 0, r3.2.2 == 0, r4.2.2 == 0, r5.2.2 == 0, r0.1, r0.2.1, r1.1, r1.2.1, 0, 0, r3.1, r3.2.1, 0, 0, 0, 0))
   else
   Option.bind (y7 u4 u0 u6 u5 (50000 : Int)) fun r4 =>
   if (r4.2.2 == 0) = true then
    Option.bind (y5 u4 u0 u6 u5) fun r5 =>
    if (r5.2.2 == 0) = true then
    some ((r0.2.2 == 0, r1.2.2 == 0, r2.2.2 == 0, r3.2.2 == 0, r4.2.2 == 0, r5.2.2 == 0, r0.1, r0.2.1, r1.1, r1.2.1, 0, 0, 0, 0, r4.1, r4.2.1, r5.1, r5.2.1))
    else
    some ((r0.2.2 == 0, r1.2.2 == 0, r2.2.2 == 0, r3.2.2 == 0, r4.2.2 == 0, r5.2.2 == 0, r0.1, r0.2.1, r1.1, r1.2.1, 0, 0, 0, 0, r4.1, r4.2.1, 0, 0))
   else
    Option.bind (y5 u4 u0 u6 u5) fun r5 =>
    if (r5.2.2 == 0) = true then
    some ((r0.2.2 == 0, r1.2.2 == 0, r2.2.2 == 0, r3.2.2 == 0, r4.2.2 == 0, r5.2.2 == 0, r0.1, r0.2.1, r1.1, r1.2.1, 0, 0, 0, 0, 0, 0, r5.1, r5.2.1))
    else
    some ((r0.2.2 == 0, r1.2.2 == 0, r2.2.2 == 0, r3.2.2 == 0, r4.2.2 == 0, r5.2.2 == 0, r0.1, r0.2.1, r1.1, r1.2.1, 0, 0, 0, 0, 0, 0, 0, 0))
  else
  Option.bind (y13 u4 u0 u6 u5 (2 : Int)) fun r2 =>
  if (r2.2.2 == 0) = true then
   Option.bind (y22 u4 u0 u6 u5 (80000 : Int)) fun r3 =>
   if (r3.2.2 == 0) = true then
   Option.bind (y7 u4 u0 u6 u5 (50000 : Int)) fun r4 =>
   if (r4.2.2 == 0) = true then
    Option.bind (y5 u4 u0 u6 u5) fun r5 =>
    if (r5.2.2 == 0) = true then
    some ((r0.2.2 == 0, r1.2.2 == 0, r2.2.2 == 0, r3.2.2 == 0, r4.2.2 == 0, r5.2.2 == 0, r0.1, r0.2.1, 0, 0, r2.1, r2.2.1, r3.1, r3.2.1, r4.1, r4.2.1, r5.1, r5.2.1))
    else
    some ((r0.2.2 == 0, r1.2.2 == 0, r2.2.2 == 0, r3.2.2 == 0, r4.2.2 == 0, r5.2.2 == 0, r0.1, r0.2.1, 0, 0, r2.1, r2.2.1, r3.1, r3.2.1, r4.1, r4.2.1, 0, 0))
   else
    Option.bind (y5 u4 u0 u6 u5) fun r5 =>
    if (r5.2.2 == 0) = true then
    some ((r0.2.2 == 0, r1.2.2 == 0, r2.2.2 == 0, r3.2.2 == 0, r4.2.2 == 0, r5.2.2 == 0, r0.1, r0.2.1, 0, 0, r2.1, r2.2.1, r3.1, r3.2.1, 0, 0, r5.1, r5.2.1))
    else
    some ((r0.2.2 == 0, r1.2.2 == 0, r2.2.2 == 0, r3.2.2 == 0, r4.2.2 == 0, r5.2.2 == 0, r0.1, r0.2.1, 0, 0, r2.1, r2.2.1, r3.1, r3.2.1, 0, 0, 0, 0))
   else
   Option.bind (y7 u4 u0 u6 u5 (50000 : Int)) fun r4 =>
   if (r4.2.2 == 0) = true then
    Option.bind (y5 u4 u0 u6 u5) fun r5 =>
    if (r5.2.2 == 0) = true then
    some ((r0.2.2 == 0, r1.2.2 == 0, r2.2.2 == 0, r3.2.2 == 0, r4.2.2 == 0, r5.2.2 == 0, r0.1, r0.2.1, 0, 0, r2.1, r2.2.1, 0, 0, r4.1, r4.2.1, r5.1, r5.2.1))
    else
    some ((r0.2.2 == 0, r1.2.2 == 0, r2.2.2 == 0, r3.2.2 == 0, r4.2.2 == 0, r5.2.2 == 0, r0.1, r0.2.1, 0, 0, r2.1, r2.2.1, 0, 0, r4.1, r4.2.1, 0, 0))
   else
    Option.bind (y5 u4 u0 u6 u5) fun r5 =>
    if (r5.2.2 == 0) = true then
    some ((r0.2.2 == 0, r1.2.2 == 0, r2.2.2 == 0, r3.2.2 == 0, r4.2.2 == 0, r5.2.2 == 0, r0.1, r0.2.1, 0, 0, r2.1, r2.2.1, 0, 0, 0, 0, r5.1, r5.2.1))
    else
    some ((r0.2.2 == 0, r1.2.2 == 0, r2.2.2 == 0, r3.2.2 == 0, r4.2.2 == 0, r5.2.2 == 0, r0.1, r0.2.1, 0, 0, r2.1, r2.2.1, 0, 0, 0, 0, 0, 0))
  else
   Option.bind (y22 u4 u0 u6 u5 (80000 : Int)) fun r3 =>
   if (r3.2.2 == 0) = true then
   Option.bind (y7 u4 u0 u6 u5 (50000 : Int)) fun r4 =>
   if (r4.2.2 == 0) = true then
    Option.bind (y5 u4 u0 u6 u5) fun r5 =>
    if (r5.2.2 == 0) = true then
    some ((r0.2.2 == 0, r1.2.2 == 0, r2.2.2 == 0, r3.2.2 == 0, r4.2.2 == 0, r5.2.2 == 0, r0.1, r0.2.1, 0, 0, 0, 0, r3.1, r3.2.1, r4.1, r4.2.1, r5.1, r5.2.1))
    else
    some ((r0.2.2 == 0, r1.2.2 == 0, r2.2.2 == 0, r3.2.2 == 0, r4.2.2 == 0, r5.2.2 == 0, r0.1, r0.2.1, 0, 0, 0, 0, r3.1, r3.2.1, r4.1, r4.2.1, 0, 0))
   else
    Option.bind (y5 u4 u0 u6 u5) fun r5 =>
    if (r5.2.2 == 0) = true then
    some ((r0.2.2 == 0, r1.2.2 == 0, r2.2.2 == 0, r3.2.2 == 0, r4.2.2 == 0, r5.2.2 == 0, r0.1, r0.2.1, 0, 0, 0, 0, r3.1, r3.2.1, 0, 0, r5.1, r5.2.1))
    else
    some ((r0.2.2 == 0, r1.2.2 == 0, r2.2.2 == 0, r3.2.2 == 0, r4.2.2 == 0, r5.2.2 == 0, r0.1, r0.2.1, 0, 0, 0, 0, r3.1, r3.2.1, 0, 0, 0, 0))
   else
   Option.bind (y7 u4 u0 u6 u5 (50000 : Int)) fun r4 =>
   if (r4.2.2 == 0) = true then
    Option.bind (y5 u4 u0 u6 u5) fun r5 =>
    if (r5.2.2 == 0) = true then
    some ((r0.2.2 == 0, r1.2.2 == 0, r2.2.2 == 0, r3.2.2 == 0, r4.2.2 == 0, r5.2.2 == 0, r0.1, r0.2.1, 0, 0, 0, 0, 0, 0, r4.1, r4.2.1, r5.1, r5.2.1))
    else
    some ((r0.2.2 == 0, r1.2.2 == 0, r2.2.2 == 0, r3.2.2 == 0, r4.2.2 == 0, r5.2.2 == 0, r0.1, r0.2.1, 0, 0, 0, 0, 0, 0, r4.1, r4.2.1, 0, 0))
   else
    Option.bind (y5 u4 u0 u6 u5) fun r5 =>
    if (r5.2.2 == 0) = true then
    some ((r0.2.2 == 0, r1.2.2 == 0, r2.2.2 == 0, r3.2.2 == 0, r4.2.2 == 0, r5.2.2 == 0, r0.1, r0.2.1, 0, 0, 0, 0, 0, 0, 0, 0, r5.1, r5.2.1))
    else
    some ((r0.2.2 == 0, r1.2.2 == 0, r2.2.2 == 0, r3.2.2 == 0, r4.2.2 == 0, r5.2.2 == 0, r0.1, r0.2.1, 0, 0, 0, 0, 0, 0, 0, 0, 0, 0))
 else
  Option.bind (y13 u4 u0 u6 u5 (1 : Int)) fun r1 =>
  if (r1.2.2 == 0) = true then
  Option.bind (y13 u4 u0 u6 u5 (2 : Int)) fun r2 =>
  if (r2.2.2 == 0) = true then
   Option.bind (y22 u4 u0 u6 u5 (80000 : Int)) fun r3 =>
   if (r3.2.2 == 0) = true then
   Option.bind (y7 u4 u0 u6 u5 (50000 : Int)) fun r4 =>
   if (r4.2.2 == 0) = true then
    Option.bind (y5 u4 u0 u6 u5) fun r5 =>
    if (r5.2.2 == 0) = true then
    some ((r0.2.2 == 0, r1.2.2 == 0, r2.2.2 == 0, r3.2.2 == 0, r4.2.2 == 0, r5.2.2 == 0, 0, 0, r1.1, r1.2.1, r2.1, r2.2.1, r3.1, r3.2.1, r4.1, r4.2.1, r5.1, r5.2.1))
    else
    some ((r0.2.2 == 0, r1.2.2 == 0, r2.2.2 == 0, r3.2.2 == 0, r4.2.2 == 0, r5.2.2 == 0, 0, 0, r1.1, r1.2.1, r2.1, r2.2.1, r3.1, r3.2.1, r4.1, r4.2.1, 0, 0))
   else
    Option.bind (y5 u4 u0 u6 u5) fun r5 =>
    if (r5.2.2 == 0) = true then
    some ((r0.2.2 == 0, r1.2.2 == 0, r2.2.2 == 0, r3.2.2 == 0, r4.2.2 == 0, r5.2.2 == 0, 0, 0, r1.1, r1.2.1, r2.1, r2.2.1, r3.1, r3.2.1, 0, 0, r5.1, r5.2.1))
    else
    some ((r0.2.2 == 0, r1.2.2 == 0, r2.2.2 == 0, r3.2.2 == 0, r4.2.2 == 0, r5.2.2 == 0, 0, 0, r1.1, r1.2.1, r2.1, r2.2.1, r3.1, r3.2.1, 0, 0, 0, 0))
   else
   Option.bind (y7 u4 u0 u6 u5 (50000 : Int)) fun r4 =>
   if (r4.2.2 == 0) = true then
    Option.bind (y5 u4 u0 u6 u5) fun r5 =>
    if (r5.2.2 == 0) = true then
    some ((r0.2.2 == 0, r1.2.2 == 0, r2.2.2 == 0, r3.2.2 == 0, r4.2.2 == 0, r5.2.2 == 0, 0, 0, r1.1, r1.2.1, r2.1, r2.2.1, 0, 0, r4.1, r4.2.1, r5.1, r5.2.1))
    else
    some ((r0.2.2 == 0, r1.2.2 == 0, r2.2.2 == 0, r3.2.2 == 0, r4.2.2 == 0, r5.2.2 == 0, 0, 0, r1.1, r1.2.1, r2.1, r2.2.1, 0, 0, r4.1, r4.2.1, 0, 0))
   else
    Option.bind (y5 u4 u0 u6 u5) fun r5 =>
    if (r5.2.2 == 0) = true then
    some ((r0.2.2 == 0, r1.2.2 == 0, r2.2.2 == 0, r3.2.2 == 0, r4.2.2 == 0, r5.2.2 == 0, 0, 0, r1.1, r1.2.1, r2.1, r2.2.1, 0, 0, 0, 0, r5.1, r5.2.1))
    else
    some ((r0.2.2 == 0, r1.2.2 == 0, r2.2.2 == 0, r3.2.2 == 0, r4.2.2 == 0, r5.2.2 == 0, 0, 0, r1.1, r1.2.1, r2.1, r2.2.1, 0, 0, 0, 0, 0, 0))
  else
   Option.bind (y22 u4 u0 u6 u5 (80000 : Int)) fun r3 =>
   if (r3.2.2 == 0) = true then
   Option.bind (y7 u4 u0 u6 u5 (50000 : Int)) fun r4 =>
   if (r4.2.2 == 0) = true then
    Option.bind (y5 u4 u0 u6 u5) fun r5 =>
    if (r5.2.2 == 0) = true then
    some ((r0.2.2 == 0, r1.2.2 == 0, r2.2.2 == 0, r3.2.2 == 0, r4.2.2 == 0, r5.2.2 == 0, 0, 0, r1.1, r1.2.1, 0, 0, r3.1, r3.2.1, r4.1, r4.2.1, r5.1, r5.2.1))
    else
    some ((r0.2.2 == 0, r1.2.2 == 0, r2.2.2 == 0, r3.2.2 == 0, r4.2.2 == 0, r5.2.2 == 0, 0, 0, r1.1, r1.2.1, 0, 0, r3.1, r3.2.1, r4.1, r4.2.1, 0, 0))
   else
    Option.bind (y5 u4 u0 u6 u5) fun r5 =>
    if (r5.2.2 == 0) = true then
    some ((r0.2.2 == 0, r1.2.2 == 0, r2.2.2 == 0, r3.2.2 == 0, r4.2.2 == 0, r5.2.2 == 0, 0, 0, r1.1, r1.2.1, 0, 0, r3.1, r3.2.1, 0, 0, r5.1, r5.2.1))
    else
    some ((r0.2.2 == 0, r1.2.2 == 0, r2.2.2 == 0, r3.2.2 == 0, r4.2.2 == 0, r5.2.2 == 0, 0, 0, r1.1, r1.2.1, 0, 0, r3.1, r3.2.1, 0, 0, 0, 0))
   else
   Option.bind (y7 u4 u0 u6 u5 (50000 : Int)) fun r4 =>
   if (r4.2.2 == 0) = true then
    Option.bind (y5 u4 u0 u6 u5) fun r5 =>
    if (r5.2.2 == 0) = true then
    some ((r0.2.2 == 0, r1.2.2 == 0, r2.2.2 == 0, r3.2.2 == 0, r4.2.2 == 0, r5.2.2 == 0, 0, 0, r1.1, r1.2.1, 0, 0, 0, 0, r4.1, r4.2.1, r5.1, r5.2.1))
    else
    some ((r0.2.2 == 0, r1.2.2 == 0, r2.2.2 == 0, r3.2.2 == 0, r4.2.2 == 0, r5.2.2 == 0, 0, 0, r1.1, r1.2.1, 0, 0, 0, 0, r4.1, r4.2.1, 0, 0))
   else
    Option.bind (y5 u4 u0 u6 u5) fun r5 =>
    if (r5.2.2 == 0) = true then
    some ((r0.2.2 == 0, r1.2.2 == 0, r2.2.2 == 0, r3.2.2 == 0, r4.2.2 == 0, r5.2.2 == 0, 0, 0, r1.1, r1.2.1, 0, 0, 0, 0, 0, 0, r5.1, r5.2.1))
    else
    some ((r0.2.2 == 0, r1.2.2 == 0, r2.2.2 == 0, r3.2.2 == 0, r4.2.2 == 0, r5.2.2 == 0, 0, 0, r1.1, r1.2.1, 0, 0, 0, 0, 0, 0, 0, 0))
  else
  Option.bind (y13 u4 u0 u6 u5 (2 : Int)) fun r2 =>
  if (r2.2.2 == 0) = true then
   Option.bind (y22 u4 u0 u6 u5 (80000 : Int)) fun r3 =>
   if (r3.2.2 == 0) = true then
   Option.bind (y7 u4 u0 u6 u5 (50000 : Int)) fun r4 =>
   if (r4.2.2 == 0) = true then
    Option.bind (y5 u4 u0 u6 u5) fun r5 =>
    if (r5.2.2 == 0) = true then
    some ((r0.2.2 == 0, r1.2.2 == 0, r2.2.2 == 0, r3.2.2 == 0, r4.2.2 == 0, r5.2.2 == 0, 0, 0, 0, 0, r2.1, r2.2.1, r3.1, r3.2.1, r4.1, r4.2.1, r5.1, r5.2.1))
    else
    some ((r0.2.2 == 0, r1.2.2 == 0, r2.2.2 == 0, r3.2.2 == 0, r4.2.2 == 0, r5.2.2 == 0, 0, 0, 0, 0, r2.1, r2.2.1, r3.1, r3.2.1, r4.1, r4.2.1, 0, 0))
   else
    Option.bind (y5 u4 u0 u6 u5) fun r5 =>
    if (r5.2.2 == 0) = true then
    some ((r0.2.2 == 0, r1.2.2 == 0, r2.2.2 == 0, r3.2.2 == 0, r4.2.2 == 0, r5.2.2 == 0, 0, 0, 0, 0, r2.1, r2.2.1, r3.1, r3.2.1, 0, 0, r5.1, r5.2.1))
    else
    some ((r0.2.2 == 0, r1.2.2 == 0, r2.2.2 == 0, r3.2.2 == 0, r4.2.2 == 0, r5.2.2 == 0, 0, 0, 0, 0, r2.1, r2.2.1, r3.1, r3.2.1, 0, 0, 0, 0))
   else
   Option.bind (y7 u4 u0 u6 u5 (50000 : Int)) fun r4 =>
   if (r4.2.2 == 0) = true then
    Option.bind (y5 u4 u0 u6 u5) fun r5 =>
    if (r5.2.2 == 0) = true then
    some ((r0.2.2 == 0, r1.2.2 == 0, r2.2.2 == 0, r3.2.2 == 0, r4.2.2 == 0, r5.2.2 == 0, 0, 0, 0, 0, r2.1, r2.2.1, 0, 0, r4.1, r4.2.1, r5.1, r5.2.1))
    else
    some ((r0.2.2 == 0, r1.2.2 == 0, r2.2.2 == 0, r3.2.2 == 0, r4.2.2 == 0, r5.2.2 == 0, 0, 0, 0, 0, r2.1, r2.2.1, 0, 0, r4.1, r4.2.1, 0, 0))
   else
    Option.bind (y5 u4 u0 u6 u5) fun r5 =>
    if (r5.2.2 == 0) = true then
    some ((r0.2.2 == 0, r1.2.2 == 0, r2.2.2 == 0, r3.2.2 == 0, r4.2.2 == 0, r5.2.2 == 0, 0, 0, 0, 0, r2.1, r2.2.1, 0, 0, 0, 0, r5.1, r5.2.1))
    else
    some ((r0.2.2 == 0, r1.2.2 == 0, r2.2.2 == 0, r3.2.2 == 0, r4.2.2 == 0, r5.2.2 == 0, 0, 0, 0, 0, r2.1, r2.2.1, 0, 0, 0, 0, 0, 0))
  else
   Option.bind (y22 u4 u0 u6 u5 (80000 : Int)) fun r3 =>
   if (r3.2.2 == 0) = true then
   Option.bind (y7 u4 u0 u6 u5 (50000 : Int)) fun r4 =>
   if (r4.2.2 == 0) = true then
    Option.bind (y5 u4 u0 u6 u5) fun r5 =>
    if (r5.2.2 == 0) = true then
    some ((r0.2.2 == 0, r1.2.2 == 0, r2.2.2 == 0, r3.2.2 == 0, r4.2.2 == 0, r5.2.2 == 0, 0, 0, 0, 0, 0, 0, r3.1, r3.2.1, r4.1, r4.2.1, r5.1, r5.2.1))
    else
    some ((r0.2.2 == 0, r1.2.2 == 0, r2.2.2 == 0, r3.2.2 == 0, r4.2.2 == 0, r5.2.2 == 0, 0, 0, 0, 0, 0, 0, r3.1, r3.2.1, r4.1, r4.2.1, 0, 0))
   else
    Option.bind (y5 u4 u0 u6 u5) fun r5 =>
    if (r5.2.2 == 0) = true then
    some ((r0.2.2 == 0, r1.2.2 == 0, r2.2.2 == 0, r3.2.2 == 0, r4.2.2 == 0, r5.2.2 == 0, 0, 0, 0, 0, 0, 0, r3.1, r3.2.1, 0, 0, r5.1, r5.2.1))
    else
    some ((r0.2.2 == 0, r1.2.2 == 0, r2.2.2 == 0, r3.2.2 == 0, r4.2.2 == 0, r5.2.2 == 0, 0, 0, 0, 0, 0, 0, r3.1, r3.2.1, 0, 0, 0, 0))
   else
   Option.bind (y7 u4 u0 u6 u5 (50000 : Int)) fun r4 =>
   if (r4.2.2 == 0) = true then
    Option.bind (y5 u4 u0 u6 u5) fun r5 =>
    if (r5.2.2 == 0) = true then
    some ((r0.2.2 == 0, r1.2.2 == 0, r2.2.2 == 0, r3.2.2 == 0, r4.2.2 == 0, r5.2.2 == 0, 0, 0, 0, 0, 0, 0, 0, 0, r4.1, r4.2.1, r5.1, r5.2.1))
    else
    some ((r0.2.2 == 0, r1.2.2 == 0, r2.2.2 == 0, r3.2.2 == 0, r4.2.2 == 0, r5.2.2 == 0, 0, 0, 0, 0, 0, 0, 0, 0, r4.1, r4.2.1, 0, 0))
   else
    Option.bind (y5 u4 u0 u6 u5) fun r5 =>
    if (r5.2.2 == 0) = true then
    some ((r0.2.2 == 0, r1.2.2 == 0, r2.2.2 == 0, r3.2.2 == 0, r4.2.2 == 0, r5.2.2 == 0, 0, 0, 0, 0, 0, 0, 0, 0, 0, 0, r5.1, r5.2.1))
    else
    some ((r0.2.2 == 0, r1.2.2 == 0, r2.2.2 == 0, r3.2.2 == 0, r4.2.2 == 0, r5.2.2 == 0, 0, 0, 0, 0, 0, 0, 0, 0, 0, 0, 0, 0))
def y196 : List Lf → Option GT
 | [.d (.i .i64 u4), .r (.floats .f32 u0), .d (.i .i64 u6), .d (.i .i64 u5)] => some (.leaf (ok (y2 u4 u0 u6 u5)) [.s [.d (.b ((val (y2 u4 u0 u6 u5)).1)), .d (.b ((val (y2 u4 u0 u6 u5)).2.1)), .d (.b ((val (y2 u4 u0 u6 u5)).2.2.1)), .d (.b ((val (y2 u4 u0 u6 u5)).2.2.2.1)), .d (.b ((val (y2 u4 u0 u6 u5)).2.2.2.2.1)), .d (.b ((val (y2 u4 u0 u6 u5)).2.2.2.2.2.1)), .d (.i .i64 ((val (y2 u4 u0 u6 u5)).2.2.2.2.2.2.1)), .d (.i .i64 ((val (y2 u4 u0 u6 u5)).2.2.2.2.2.2.2.1)), .d (.i .i64 ((val (y2 u4 u0 u6 u5)).2.2.2.2.2.2.2.2.1)), .d (.i .i64 ((val (y2 u4 u0 u6 u5)).2.2.2.2.2.2.2.2.2.1)), .d (.i .i64 ((val (y2 u4 u0 u6 u5)).2.2.2.2.2.2.2.2.2.2.1)), .d (.i .i64 ((val (y2 u4 u0 u6 u5)).2.2.2.2.2.2.2.2.2.2.2.1)), .d (.i .i64 ((val (y2 u4 u0 u6 u5)).2.2.2.2.2.2.2.2.2.2.2.2.1)), .d (.i .i64 ((val (y2 u4 u0 u6 u5)).2.2.2.2.2.2.2.2.2.2.2.2.2.1)), .d (.i .i64 ((val (y2 u4 u0 u6 u5)).2.2.2.2.2.2.2.2.2.2.2.2.2.2.1)), .d (.i .i64 ((val (y2 u4 u0 u6 u5)).2.2.2.2.2.2.2.2.2.2.2.2.2.2.2.1)), .d (.i .i64 ((val (y2 u4 u0 u6 u5)).2.2.2.2.2.2.2.2.2.2.2.2.2.2.2.2.1)), .d (.i .i64 ((val (y2 u4 u0 u6 u5)).2.2.2.2.2.2.2.2.2.2.2.2.2.2.2.2.2))]])
 | _ => none
abbrev sp_63 : jab → jab := jav 63 true (jal y195 y196)
abbrev ja5  := ((0 : Int) ≤ 5 ∧ (5 : Int) < 6)
abbrev jbT  := ((0 : Int) ≤ 4 ∧ (4 : Int) < 6)
abbrev jeJ  := ((0 : Int) ≤ 3 ∧ (3 : Int) < 6)
abbrev jbU (u4 : Int) (u0 : List Nat) (u6 : Int) (u5 : Int) := (y7 u4 u0 u6 u5 (50000 : Int))
def jne (u4 : Int) (u0 : List Nat) (u6 : Int) (u5 : Int) : T (Bool × Bool × Bool × Bool × Bool × Bool × Int × Int × Int × Int × Int × Int × Int × Int × Int × Int × Int × Int) :=
 .call (y13 u4 u0 u6 u5 (0 : Int)) fun r0 =>
 .obC ((0 : Int) ≤ 0 ∧ (0 : Int) < 6) (by decide)
 (.obC _ jaw
 (.brB (r0.2.2 == 0)
 (.obC ((0 : Int) ≤ 0 ∧ (0 : Int) < 6) (by decide)
 (.obC _ jax
 (.call (y13 u4 u0 u6 u5 (1 : Int)) fun r1 =>
 .obC ((0 : Int) ≤ 1 ∧ (1 : Int) < 6) (by decide)
 (.obC _ jaw
 (.brB (r1.2.2 == 0)
 (.obC _ ju9
 (.obC _ jax
 (.call (y13 u4 u0 u6 u5 (2 : Int)) fun r2 =>
 .obC ((0 : Int) ≤ 2 ∧ (2 : Int) < 6) (by decide)
 (.obC _ jaw
 (.brB (r2.2.2 == 0)
 (.obC _ jnd
 (.obC _ jax
 (.call (y22 u4 u0 u6 u5 (80000 : Int)) fun r3 =>
 .obC (jeJ) (by decide)
 (.obC _ jaw
 (.brB (r3.2.2 == 0)
 (.obC _ jeI
 (.obC _ jax
 (.call (jbU u4 u0 u6 u5) fun r4 =>
 .obC (jbT) (by decide)
 (.obC _ jaw
 (.brB (r4.2.2 == 0)
 (.obC _ jbS
 (.obC _ jax
 (.call (y5 u4 u0 u6 u5) fun r5 =>
 .obC (ja5) (by decide)
 (.obC _ jaw
 (.brB (r5.2.2 == 0)
 (.obC _ ja4
 (.obC _ jax
 (.obT
 (.rc (((r0.2.2 == 0, r1.2.2 == 0, r2.2.2 == 0, r3.2.2 == 0, r4.2.2 == 0, r5.2.2 == 0, r0.1, r0.2.1, r1.1, r1.2.1, r2.1, r2.2.1, r3.1, r3.2.1, r4.1, r4.2.1, r5.1, r5.2.1)))))))
 (.obT
 (.rc (((r0.2.2 == 0, r1.2.2 == 0, r2.2.2 == 0, r3.2.2 == 0, r4.2.2 == 0, r5.2.2 == 0, r0.1, r0.2.1, r1.1, r1.2.1, r2.1, r2.2.1, r3.1, r3.2.1, r4.1, r4.2.1, 0, 0))))))))))
 (.call (y5 u4 u0 u6 u5) fun r5 =>
 .obC (ja5) (by decide)
 (.obC _ jaw
 (.brB (r5.2.2 == 0)
 (.obC _ ja4
 (.obC _ jax
 (.obT
 (.rc (((r0.2.2 == 0, r1.2.2 == 0, r2.2.2 == 0, r3.2.2 == 0, r4.2.2 == 0, r5.2.2 == 0, r0.1, r0.2.1, r1.1, r1.2.1, r2.1, r2.2.1, r3.1, r3.2.1, 0, 0, r5.1, r5.2.1)))))))
 (.obT
 (.rc (((r0.2.2 == 0, r1.2.2 == 0, r2.2.2 == 0, r3.2.2 == 0, r4.2.2 == 0, r5.2.2 == 0, r0.1, r0.2.1, r1.1, r1.2.1, r2.1, r2.2.1, r3.1, r3.2.1, 0, 0, 0, 0)))))))))))))
 (.call (jbU u4 u0 u6 u5) fun r4 =>
 .obC (jbT) (by decide)
 (.obC _ jaw
 (.brB (r4.2.2 == 0)
 (.obC _ jbS
 (.obC _ jax
 (.call (y5 u4 u0 u6 u5) fun r5 =>
 .obC (ja5) (by decide)
 (.obC _ jaw
 (.brB (r5.2.2 == 0)
 (.obC _ ja4
 (.obC _ jax
 (.obT
 (.rc (((r0.2.2 == 0, r1.2.2 == 0, r2.2.2 == 0, r3.2.2 == 0, r4.2.2 == 0, r5.2.2 == 0, r0.1, r0.2.1, r1.1, r1.2.1, r2.1, r2.2.1, 0, 0, r4.1, r4.2.1, r5.1, r5.2.1)))))))
 (.obT
 (.rc (((r0.2.2 == 0, r1.2.2 == 0, r2.2.2 == 0, r3.2.2 == 0, r4.2.2 == 0, r5.2.2 == 0, r0.1, r0.2.1, r1.1, r1.2.1, r2.1, r2.2.1, 0, 0, r4.1, r4.2.1, 0, 0))))))))))
 (.call (y5 u4 u0 u6 u5) fun r5 =>
 .obC (ja5) (by decide)
 (.obC _ jaw
 (.brB (r5.2.2 == 0)
 (.obC _ ja4
 (.obC _ jax
 (.obT
 (.rc (((r0.2.2 == 0, r1.2.2 == 0, r2.2.2 == 0, r3.2.2 == 0, r4.2.2 == 0, r5.2.2 == 0, r0.1, r0.2.1, r1.1, r1.2.1, r2.1, r2.2.1, 0, 0, 0, 0, r5.1, r5.2.1)))))))
 (.obT
 (.rc (((r0.2.2 == 0, r1.2.2 == 0, r2.2.2 == 0, r3.2.2 == 0, r4.2.2 == 0, r5.2.2 == 0, r0.1, r0.2.1, r1.1, r1.2.1, r2.1, r2.2.1, 0, 0, 0, 0, 0, 0))))))))))))))))
 (.call (y22 u4 u0 u6 u5 (80000 : Int)) fun r3 =>
 .obC (jeJ) (by decide)
 (.obC _ jaw
 (.brB (r3.2.2 == 0)
 (.obC _ jeI
 (.obC _ jax
 (.call (jbU u4 u0 u6 u5) fun r4 =>
 .obC (jbT) (by decide)
 (.obC _ jaw
 (.brB (r4.2.2 == 0)
 (.obC _ jbS
 (.obC _ jax
 (.call (y5 u4 u0 u6 u5) fun r5 =>
 .obC (ja5) (by decide)
 (.obC _ jaw
 (.brB (r5.2.2 == 0)
 (.obC _ ja4
 (.obC _ jax
 (.obT
 (.rc (((r0.2.2 == 0, r1.2.2 == 0, r2.2.2 == 0, r3.2.2 == 0, r4.2.2 == 0, r5.2.2 == 0, r0.1, r0.2.1, r1.1, r1.2.1, 0, 0, r3.1, r3.2.1, r4.1, r4.2.1, r5.1, r5.2.1)))))))
 (.obT
 (.rc (((r0.2.2 == 0, r1.2.2 == 0, r2.2.2 == 0, r3.2.2 == 0, r4.2.2 == 0, r5.2.2 == 0, r0.1, r0.2.1, r1.1, r1.2.1, 0, 0, r3.1, r3.2.1, r4.1, r4.2.1, 0, 0))))))))))
 (.call (y5 u4 u0 u6 u5) fun r5 =>
 .obC (ja5) (by decide)
 (.obC _ jaw
 (.brB (r5.2.2 == 0)
 (.obC _ ja4
 (.obC _ jax
 (.obT
 (.rc (((r0.2.2 == 0, r1.2.2 == 0, r2.2.2 == 0, r3.2.2 == 0, r4.2.2 == 0, r5.2.2 == 0, r0.1, r0.2.1, r1.1, r1.2.1, 0, 0, r3.1, r3.2.1, 0, 0, r5.1, r5.2.1)))))))
 (.obT
 (.rc (((r0.2.2 == 0, r1.2.2 == 0, r2.2.2 == 0, r3.2.2 == 0, r4.2.2 == 0, r5.2.2 == 0, r0.1, r0.2.1, r1.1, r1.2.1, 0, 0, r3.1, r3.2.1, 0, 0, 0, 0)))))))))))))
 (.call (jbU u4 u0 u6 u5) fun r4 =>
 .obC (jbT) (by decide)
 (.obC _ jaw
 (.brB (r4.2.2 == 0)
 (.obC _ jbS
 (.obC _ jax
 (.call (y5 u4 u0 u6 u5) fun r5 =>
 .obC (ja5) (by decide)
 (.obC _ jaw
 (.brB (r5.2.2 == 0)
 (.obC _ ja4
 (.obC _ jax
 (.obT
 (.rc (((r0.2.2 == 0, r1.2.2 == 0, r2.2.2 == 0, r3.2.2 == 0, r4.2.2 == 0, r5.2.2 == 0, r0.1, r0.2.1, r1.1, r1.2.1, 0, 0, 0, 0, r4.1, r4.2.1, r5.1, r5.2.1)))))))
 (.obT
 (.rc (((r0.2.2 == 0, r1.2.2 == 0, r2.2.2 == 0, r3.2.2 == 0, r4.2.2 == 0, r5.2.2 == 0, r0.1, r0.2.1, r1.1, r1.2.1, 0, 0, 0, 0, r4.1, r4.2.1, 0, 0))))))))))
 (.call (y5 u4 u0 u6 u5) fun r5 =>
 .obC (ja5) (by decide)
 (.obC _ jaw
 (.brB (r5.2.2 == 0)
 (.obC _ ja4
 (.obC _ jax
 (.obT
 (.rc (((r0.2.2 == 0, r1.2.2 == 0, r2.2.2 == 0, r3.2.2 == 0, r4.2.2 == 0, r5.2.2 == 0, r0.1, r0.2.1, r1.1, r1.2.1, 0, 0, 0, 0, 0, 0, r5.1, r5.2.1)))))))
 (.obT
 (.rc (((r0.2.2 == 0, r1.2.2 == 0, r2.2.2 == 0, r3.2.2 == 0, r4.2.2 == 0, r5.2.2 == 0, r0.1, r0.2.1, r1.1, r1.2.1, 0, 0, 0, 0, 0, 0, 0, 0)))))))))))))))))))
 (.call (y13 u4 u0 u6 u5 (2 : Int)) fun r2 =>
 .obC ((0 : Int) ≤ 2 ∧ (2 : Int) < 6) (by decide)
 (.obC _ jaw
 (.brB (r2.2.2 == 0)
 (.obC _ jnd
 (.obC _ jax
 (.call (y22 u4 u0 u6 u5 (80000 : Int)) fun r3 =>
 .obC (jeJ) (by decide)
 (.obC _ jaw
 (.brB (r3.2.2 == 0)
 (.obC _ jeI
 (.obC _ jax
 (.call (jbU u4 u0 u6 u5) fun r4 =>
 .obC (jbT) (by decide)
 (.obC _ jaw
 (.brB (r4.2.2 == 0)
 (.obC _ jbS
 (.obC _ jax
 (.call (y5 u4 u0 u6 u5) fun r5 =>
 .obC (ja5) (by decide)
 (.obC _ jaw
 (.brB (r5.2.2 == 0)
 (.obC _ ja4
 (.obC _ jax
 (.obT
 (.rc (((r0.2.2 == 0, r1.2.2 == 0, r2.2.2 == 0, r3.2.2 == 0, r4.2.2 == 0, r5.2.2 == 0, r0.1, r0.2.1, 0, 0, r2.1, r2.2.1, r3.1, r3.2.1, r4.1, r4.2.1, r5.1, r5.2.1)))))))
 (.obT
 (.rc (((r0.2.2 == 0, r1.2.2 == 0, r2.2.2 == 0, r3.2.2 == 0, r4.2.2 == 0, r5.2.2 == 0, r0.1, r0.2.1, 0, 0, r2.1, r2.2.1, r3.1, r3.2.1, r4.1, r4.2.1, 0, 0))))))))))
 (.call (y5 u4 u0 u6 u5) fun r5 =>
 .obC (ja5) (by decide)
 (.obC _ jaw
 (.brB (r5.2.2 == 0)
 (.obC _ ja4
 (.obC _ jax
 (.obT
 (.rc (((r0.2.2 == 0, r1.2.2 == 0, r2.2.2 == 0, r3.2.2 == 0, r4.2.2 == 0, r5.2.2 == 0, r0.1, r0.2.1, 0, 0, r2.1, r2.2.1, r3.1, r3.2.1, 0, 0, r5.1, r5.2.1)))))))
 (.obT
 (.rc (((r0.2.2 == 0, r1.2.2 == 0, r2.2.2 == 0, r3.2.2 == 0, r4.2.2 == 0, r5.2.2 == 0, r0.1, r0.2.1, 0, 0, r2.1, r2.2.1, r3.1, r3.2.1, 0, 0, 0, 0)))))))))))))
 (.call (jbU u4 u0 u6 u5) fun r4 =>
 .obC (jbT) (by decide)
 (.obC _ jaw
 (.brB (r4.2.2 == 0)
 (.obC _ jbS
 (.obC _ jax
 (.call (y5 u4 u0 u6 u5) fun r5 =>
 .obC (ja5) (by decide)
 (.obC _ jaw
 (.brB (r5.2.2 == 0)
 (.obC _ ja4
 (.obC _ jax
 (.obT
 (.rc (((r0.2.2 == 0, r1.2.2 == 0, r2.2.2 == 0, r3.2.2 == 0, r4.2.2 == 0, r5.2.2 == 0, r0.1, r0.2.1, 0, 0, r2.1, r2.2.1, 0, 0, r4.1, r4.2.1, r5.1, r5.2.1)))))))
 (.obT
 (.rc (((r0.2.2 == 0, r1.2.2 == 0, r2.2.2 == 0, r3.2.2 == 0, r4.2.2 == 0, r5.2.2 == 0, r0.1, r0.2.1, 0, 0, r2.1, r2.2.1, 0, 0, r4.1, r4.2.1, 0, 0))))))))))
 (.call (y5 u4 u0 u6 u5) fun r5 =>
 .obC (ja5) (by decide)
 (.obC _ jaw
 (.brB (r5.2.2 == 0)
 (.obC _ ja4
 (.obC _ jax
 (.obT
 (.rc (((r0.2.2 == 0, r1.2.2 == 0, r2.2.2 == 0, r3.2.2 == 0, r4.2.2 == 0, r5.2.2 == 0, r0.1, r0.2.1, 0, 0, r2.1, r2.2.1, 0, 0, 0, 0, r5.1, r5.2.1)))))))
 (.obT
 (.rc (((r0.2.2 == 0, r1.2.2 == 0, r2.2.2 == 0, r3.2.2 == 0, r4.2.2 == 0, r5.2.2 == 0, r0.1, r0.2.1, 0, 0, r2.1, r2.2.1, 0, 0, 0, 0, 0, 0))))))))))))))))
 (.call (y22 u4 u0 u6 u5 (80000 : Int)) fun r3 =>
 .obC (jeJ) (by decide)
 (.obC _ jaw
 (.brB (r3.2.2 == 0)
 (.obC _ jeI
 (.obC _ jax
 (.call (jbU u4 u0 u6 u5) fun r4 =>
 .obC (jbT) (by decide)
 (.obC _ jaw
 (.brB (r4.2.2 == 0)
 (.obC _ jbS
 (.obC _ jax
 (.call (y5 u4 u0 u6 u5) fun r5 =>
 .obC (ja5) (by decide)
 (.obC _ jaw
 (.brB (r5.2.2 == 0)
 (.obC _ ja4
 (.obC _ jax
 (.obT
 (.rc (((r0.2.2 == 0, r1.2.2 == 0, r2.2.2 == 0, r3.2.2 == 0, r4.2.2 == 0, r5.2.2 == 0, r0.1, r0.2.1, 0, 0, 0, 0, r3.1, r3.2.1, r4.1, r4.2.1, r5.1, r5.2.1)))))))
 (.obT
 (.rc (((r0.2.2 == 0, r1.2.2 == 0, r2.2.2 == 0, r3.2.2 == 0, r4.2.2 == 0, r5.2.2 == 0, r0.1, r0.2.1, 0, 0, 0, 0, r3.1, r3.2.1, r4.1, r4.2.1, 0, 0))))))))))
 (.call (y5 u4 u0 u6 u5) fun r5 =>
 .obC (ja5) (by decide)
 (.obC _ jaw
 (.brB (r5.2.2 == 0)
 (.obC _ ja4
 (.obC _ jax
 (.obT
 (.rc (((r0.2.2 == 0, r1.2.2 == 0, r2.2.2 == 0, r3.2.2 == 0, r4.2.2 == 0, r5.2.2 == 0, r0.1, r0.2.1, 0, 0, 0, 0, r3.1, r3.2.1, 0, 0, r5.1, r5.2.1)))))))
 (.obT
 (.rc (((r0.2.2 == 0, r1.2.2 == 0, r2.2.2 == 0, r3.2.2 == 0, r4.2.2 == 0, r5.2.2 == 0, r0.1, r0.2.1, 0, 0, 0, 0, r3.1, r3.2.1, 0, 0, 0, 0)))))))))))))
 (.call (jbU u4 u0 u6 u5) fun r4 =>
 .obC (jbT) (by decide)
 (.obC _ jaw
 (.brB (r4.2.2 == 0)
 (.obC _ jbS
 (.obC _ jax
 (.call (y5 u4 u0 u6 u5) fun r5 =>
 .obC (ja5) (by decide)
 (.obC _ jaw
 (.brB (r5.2.2 == 0)
 (.obC _ ja4
 (.obC _ jax
 (.obT
 (.rc (((r0.2.2 == 0, r1.2.2 == 0, r2.2.2 == 0, r3.2.2 == 0, r4.2.2 == 0, r5.2.2 == 0, r0.1, r0.2.1, 0, 0, 0, 0, 0, 0, r4.1, r4.2.1, r5.1, r5.2.1)))))))
 (.obT
 (.rc (((r0.2.2 == 0, r1.2.2 == 0, r2.2.2 == 0, r3.2.2 == 0, r4.2.2 == 0, r5.2.2 == 0, r0.1, r0.2.1, 0, 0, 0, 0, 0, 0, r4.1, r4.2.1, 0, 0))))))))))
 (.call (y5 u4 u0 u6 u5) fun r5 =>
 .obC (ja5) (by decide)
 (.obC _ jaw
 (.brB (r5.2.2 == 0)
 (.obC _ ja4
 (.obC _ jax
 (.obT
 (.rc (((r0.2.2 == 0, r1.2.2 == 0, r2.2.2 == 0, r3.2.2 == 0, r4.2.2 == 0, r5.2.2 == 0, r0.1, r0.2.1, 0, 0, 0, 0, 0, 0, 0, 0, r5.1, r5.2.1)))))))
 (.obT
 (.rc (((r0.2.2 == 0, r1.2.2 == 0, r2.2.2 == 0, r3.2.2 == 0, r4.2.2 == 0, r5.2.2 == 0, r0.1, r0.2.1, 0, 0, 0, 0, 0, 0, 0, 0, 0, 0))))))))))))))))))))))
 (.call (y13 u4 u0 u6 u5 (1 : Int)) fun r1 =>
 .obC ((0 : Int) ≤ 1 ∧ (1 : Int) < 6) (by decide)
 (.obC _ jaw
 (.brB (r1.2.2 == 0)
 (.obC _ ju9
 (.obC _ jax
 (.call (y13 u4 u0 u6 u5 (2 : Int)) fun r2 =>
 .obC ((0 : Int) ≤ 2 ∧ (2 : Int) < 6) (by decide)
 (.obC _ jaw
 (.brB (r2.2.2 == 0)
 (.obC _ jnd
 (.obC _ jax
 (.call (y22 u4 u0 u6 u5 (80000 : Int)) fun r3 =>
 .obC (jeJ) (by decide)
 (.obC _ jaw
 (.brB (r3.2.2 == 0)
 (.obC _ jeI
 (.obC _ jax
 (.call (jbU u4 u0 u6 u5) fun r4 =>
 .obC (jbT) (by decide)
 (.obC _ jaw
 (.brB (r4.2.2 == 0)
 (.obC _ jbS
 (.obC _ jax
 (.call (y5 u4 u0 u6 u5) fun r5 =>
 .obC (ja5) (by decide)
 (.obC _ jaw
 (.brB (r5.2.2 == 0)
 (.obC _ ja4
 (.obC _ jax
 (.obT
 (.rc (((r0.2.2 == 0, r1.2.2 == 0, r2.2.2 == 0, r3.2.2 == 0, r4.2.2 == 0, r5.2.2 == 0, 0, 0, r1.1, r1.2.1, r2.1, r2.2.1, r3.1, r3.2.1, r4.1, r4.2.1, r5.1, r5.2.1)))))))
 (.obT
 (.rc (((r0.2.2 == 0, r1.2.2 == 0, r2.2.2 == 0, r3.2.2 == 0, r4.2.2 == 0, r5.2.2 == 0, 0, 0, r1.1, r1.2.1, r2.1, r2.2.1, r3.1, r3.2.1, r4.1, r4.2.1, 0, 0))))))))))
 (.call (y5 u4 u0 u6 u5) fun r5 =>
 .obC (ja5) (by decide)
 (.obC _ jaw
 (.brB (r5.2.2 == 0)
 (.obC _ ja4
 (.obC _ jax
 (.obT
 (.rc (((r0.2.2 == 0, r1.2.2 == 0, r2.2.2 == 0, r3.2.2 == 0, r4.2.2 == 0, r5.2.2 == 0, 0, 0, r1.1, r1.2.1, r2.1, r2.2.1, r3.1, r3.2.1, 0, 0, r5.1, r5.2.1)))))))
 (.obT
 (.rc (((r0.2.2 == 0, r1.2.2 == 0, r2.2.2 == 0, r3.2.2 == 0, r4.2.2 == 0, r5.2.2 == 0, 0, 0, r1.1, r1.2.1, r2.1, r2.2.1, r3.1, r3.2.1, 0, 0, 0, 0)))))))))))))
 (.call (jbU u4 u0 u6 u5) fun r4 =>
 .obC (jbT) (by decide)
 (.obC _ jaw
 (.brB (r4.2.2 == 0)
 (.obC _ jbS
 (.obC _ jax
 (.call (y5 u4 u0 u6 u5) fun r5 =>
 .obC (ja5) (by decide)
 (.obC _ jaw
 (.brB (r5.2.2 == 0)
 (.obC _ ja4
 (.obC _ jax
 (.obT
 (.rc (((r0.2.2 == 0, r1.2.2 == 0, r2.2.2 == 0, r3.2.2 == 0, r4.2.2 == 0, r5.2.2 == 0, 0, 0, r1.1, r1.2.1, r2.1, r2.2.1, 0, 0, r4.1, r4.2.1, r5.1, r5.2.1)))))))
 (.obT
 (.rc (((r0.2.2 == 0, r1.2.2 == 0, r2.2.2 == 0, r3.2.2 == 0, r4.2.2 == 0, r5.2.2 == 0, 0, 0, r1.1, r1.2.1, r2.1, r2.2.1, 0, 0, r4.1, r4.2.1, 0, 0))))))))))
 (.call (y5 u4 u0 u6 u5) fun r5 =>
 .obC (ja5) (by decide)
 (.obC _ jaw
 (.brB (r5.2.2 == 0)
 (.obC _ ja4
 (.obC _ jax
 (.obT
 (.rc (((r0.2.2 == 0, r1.2.2 == 0, r2.2.2 == 0, r3.2.2 == 0, r4.2.2 == 0, r5.2.2 == 0, 0, 0, r1.1, r1.2.1, r2.1, r2.2.1, 0, 0, 0, 0, r5.1, r5.2.1)))))))
 (.obT
 (.rc (((r0.2.2 == 0, r1.2.2 == 0, r2.2.2 == 0, r3.2.2 == 0, r4.2.2 == 0, r5.2.2 == 0, 0, 0, r1.1, r1.2.1, r2.1, r2.2.1, 0, 0, 0, 0, 0, 0))))))))))))))))
 (.call (y22 u4 u0 u6 u5 (80000 : Int)) fun r3 =>
 .obC (jeJ) (by decide)
 (.obC _ jaw
 (.brB (r3.2.2 == 0)
 (.obC _ jeI
 (.obC _ jax
 (.call (jbU u4 u0 u6 u5) fun r4 =>
 .obC (jbT) (by decide)
 (.obC _ jaw
 (.brB (r4.2.2 == 0)
 (.obC _ jbS
 (.obC _ jax
 (.call (y5 u4 u0 u6 u5) fun r5 =>
 .obC (ja5) (by decide)
 (.obC _ jaw
 (.brB (r5.2.2 == 0)
 (.obC _ ja4
 (.obC _ jax
 (.obT
 (.rc (((r0.2.2 == 0, r1.2.2 == 0, r2.2.2 == 0, r3.2.2 == 0, r4.2.2 == 0, r5.2.2 == 0, 0, 0, r1.1, r1.2.1, 0, 0, r3.1, r3.2.1, r4.1, r4.2.1, r5.1, r5.2.1)))))))
 (.obT
 (.rc (((r0.2.2 == 0, r1.2.2 == 0, r2.2.2 == 0, r3.2.2 == 0, r4.2.2 == 0, r5.2.2 == 0, 0, 0, r1.1, r1.2.1, 0, 0, r3.1, r3.2.1, r4.1, r4.2.1, 0, 0))))))))))
 (.call (y5 u4 u0 u6 u5) fun r5 =>
 .obC (ja5) (by decide)
 (.obC _ jaw
 (.brB (r5.2.2 == 0)
 (.obC _ ja4
 (.obC _ jax
 (.obT
 (.rc (((r0.2.2 == 0, r1.2.2 == 0, r2.2.2 == 0, r3.2.2 == 0, r4.2.2 == 0, r5.2.2 == 0, 0, 0, r1.1, r1.2.1, 0, 0, r3.1, r3.2.1, 0, 0, r5.1, r5.2.1)))))))
 (.obT
 (.rc (((r0.2.2 == 0, r1.2.2 == 0, r2.2.2 == 0, r3.2.2 == 0, r4.2.2 == 0, r5.2.2 == 0, 0, 0, r1.1, r1.2.1, 0, 0, r3.1, r3.2.1, 0, 0, 0, 0)))))))))))))
 (.call (jbU u4 u0 u6 u5) fun r4 =>
 .obC (jbT) (by decide)
 (.obC _ jaw
 (.brB (r4.2.2 == 0)
 (.obC _ jbS
 (.obC _ jax
 (.call (y5 u4 u0 u6 u5) fun r5 =>
 .obC (ja5) (by decide)
 (.obC _ jaw
 (.brB (r5.2.2 == 0)
 (.obC _ ja4
 (.obC _ jax
 (.obT
 (.rc (((r0.2.2 == 0, r1.2.2 == 0, r2.2.2 == 0, r3.2.2 == 0, r4.2.2 == 0, r5.2.2 == 0, 0, 0, r1.1, r1.2.1, 0, 0, 0, 0, r4.1, r4.2.1, r5.1, r5.2.1)))))))
 (.obT
 (.rc (((r0.2.2 == 0, r1.2.2 == 0, r2.2.2 == 0, r3.2.2 == 0, r4.2.2 == 0, r5.2.2 == 0, 0, 0, r1.1, r1.2.1, 0, 0, 0, 0, r4.1, r4.2.1, 0, 0))))))))))
 (.call (y5 u4 u0 u6 u5) fun r5 =>
 .obC (ja5) (by decide)
 (.obC _ jaw
 (.brB (r5.2.2 == 0)
 (.obC _ ja4
 (.obC _ jax
 (.obT
 (.rc (((r0.2.2 == 0, r1.2.2 == 0, r2.2.2 == 0, r3.2.2 == 0, r4.2.2 == 0, r5.2.2 == 0, 0, 0, r1.1, r1.2.1, 0, 0, 0, 0, 0, 0, r5.1, r5.2.1)))))))
 (.obT
 (.rc (((r0.2.2 == 0, r1.2.2 == 0, r2.2.2 == 0, r3.2.2 == 0, r4.2.2 == 0, r5.2.2 == 0, 0, 0, r1.1, r1.2.1, 0, 0, 0, 0, 0, 0, 0, 0)))))))))))))))))))
 (.call (y13 u4 u0 u6 u5 (2 : Int)) fun r2 =>
 .obC ((0 : Int) ≤ 2 ∧ (2 : Int) < 6) (by decide)
 (.obC _ jaw
 (.brB (r2.2.2 == 0)
 (.obC _ jnd
 (.obC _ jax
 (.call (y22 u4 u0 u6 u5 (80000 : Int)) fun r3 =>
 .obC (jeJ) (by decide)
 (.obC _ jaw
 (.brB (r3.2.2 == 0)
 (.obC _ jeI
 (.obC _ jax
 (.call (jbU u4 u0 u6 u5) fun r4 =>
 .obC (jbT) (by decide)
 (.obC _ jaw
 (.brB (r4.2.2 == 0)
 (.obC _ jbS
 (.obC _ jax
 (.call (y5 u4 u0 u6 u5) fun r5 =>
 .obC (ja5) (by decide)
 (.obC _ jaw
 (.brB (r5.2.2 == 0)
 (.obC _ ja4
 (.obC _ jax
 (.obT
 (.rc (((r0.2.2 == 0, r1.2.2 == 0, r2.2.2 == 0, r3.2.2 == 0, r4.2.2 == 0, r5.2.2 == 0, 0, 0, 0, 0, r2.1, r2.2.1, r3.1, r3.2.1, r4.1, r4.2.1, r5.1, r5.2.1)))))))
 (.obT
 (.rc (((r0.2.2 == 0, r1.2.2 == 0, r2.2.2 == 0, r3.2.2 == 0, r4.2.2 == 0, r5.2.2 == 0, 0, 0, 0, 0, r2.1, r2.2.1, r3.1, r3.2.1, r4.1, r4.2.1, 0, 0))))))))))
 (.call (y5 u4 u0 u6 u5) fun r5 =>
 .obC (ja5) (by decide)
 (.obC _ jaw
 (.brB (r5.2.2 == 0)
 (.obC _ ja4
 (.obC _ jax
 (.obT
 (.rc (((r0.2.2 == 0, r1.2.2 == 0, r2.2.2 == 0, r3.2.2 == 0, r4.2.2 == 0, r5.2.2 == 0, 0, 0, 0, 0, r2.1, r2.2.1, r3.1, r3.2.1, 0, 0, r5.1, r5.2.1)))))))
 (.obT
 (.rc (((r0.2.2 == 0, r1.2.2 == 0, r2.2.2 == 0, r3.2.2 == 0, r4.2.2 == 0, r5.2.2 == 0, 0, 0, 0, 0, r2.1, r2.2.1, r3.1, r3.2.1, 0, 0, 0, 0)))))))))))))
 (.call (jbU u4 u0 u6 u5) fun r4 =>
 .obC (jbT) (by decide)
 (.obC _ jaw
 (.brB (r4.2.2 == 0)
 (.obC _ jbS
 (.obC _ jax
 (.call (y5 u4 u0 u6 u5) fun r5 =>
 .obC (ja5) (by decide)
 (.obC _ jaw
 (.brB (r5.2.2 == 0)
 (.obC _ ja4
 (.obC _ jax
 (.obT
 (.rc (((r0.2.2 == 0, r1.2.2 == 0, r2.2.2 == 0, r3.2.2 == 0, r4.2.2 == 0, r5.2.2 == 0, 0, 0, 0, 0, r2.1, r2.2.1, 0, 0, r4.1, r4.2.1, r5.1, r5.2.1)))))))
 (.obT
 (.rc (((r0.2.2 == 0, r1.2.2 == 0, r2.2.2 == 0, r3.2.2 == 0, r4.2.2 == 0, r5.2.2 == 0, 0, 0, 0, 0, r2.1, r2.2.1, 0, 0, r4.1, r4.2.1, 0, 0))))))))))
 (.call (y5 u4 u0 u6 u5) fun r5 =>
 .obC (ja5) (by decide)
 (.obC _ jaw
 (.brB (r5.2.2 == 0)
 (.obC _ ja4
 (.obC _ jax
 (.obT
 (.rc (((r0.2.2 == 0, r1.2.2 == 0, r2.2.2 == 0, r3.2.2 == 0, r4.2.2 == 0, r5.2.2 == 0, 0, 0, 0, 0, r2.1, r2.2.1, 0, 0, 0, 0, r5.1, r5.2.1)))))))
 (.obT
 (.rc (((r0.2.2 == 0, r1.2.2 == 0, r2.2.2 == 0, r3.2.2 == 0, r4.2.2 == 0, r5.2.2 == 0, 0, 0, 0, 0, r2.1, r2.2.1, 0, 0, 0, 0, 0, 0))))))))))))))))
 (.call (y22 u4 u0 u6 u5 (80000 : Int)) fun r3 =>
 .obC (jeJ) (by decide)
 (.obC _ jaw
 (.brB (r3.2.2 == 0)
 (.obC _ jeI
 (.obC _ jax
 (.call (jbU u4 u0 u6 u5) fun r4 =>
 .obC (jbT) (by decide)
 (.obC _ jaw
 (.brB (r4.2.2 == 0)
 (.obC _ jbS
 (.obC _ jax
 (.call (y5 u4 u0 u6 u5) fun r5 =>
 .obC (ja5) (by decide)
 (.obC _ jaw
 (.brB (r5.2.2 == 0)
 (.obC _ ja4
 (.obC _ jax
 (.obT
 (.rc (((r0.2.2 == 0, r1.2.2 == 0, r2.2.2 == 0, r3.2.2 == 0, r4.2.2 == 0, r5.2.2 == 0, 0, 0, 0, 0, 0, 0, r3.1, r3.2.1, r4.1, r4.2.1, r5.1, r5.2.1)))))))
 (.obT
 (.rc (((r0.2.2 == 0, r1.2.2 == 0, r2.2.2 == 0, r3.2.2 == 0, r4.2.2 == 0, r5.2.2 == 0, 0, 0, 0, 0, 0, 0, r3.1, r3.2.1, r4.1, r4.2.1, 0, 0))))))))))
 (.call (y5 u4 u0 u6 u5) fun r5 =>
 .obC (ja5) (by decide)
 (.obC _ jaw
 (.brB (r5.2.2 == 0)
 (.obC _ ja4
 (.obC _ jax
 (.obT
 (.rc (((r0.2.2 == 0, r1.2.2 == 0, r2.2.2 == 0, r3.2.2 == 0, r4.2.2 == 0, r5.2.2 == 0, 0, 0, 0, 0, 0, 0, r3.1, r3.2.1, 0, 0, r5.1, r5.2.1)))))))
 (.obT
 (.rc (((r0.2.2 == 0, r1.2.2 == 0, r2.2.2 == 0, r3.2.2 == 0, r4.2.2 == 0, r5.2.2 == 0, 0, 0, 0, 0, 0, 0, r3.1, r3.2.1, 0, 0, 0, 0)))))))))))))
 (.call (jbU u4 u0 u6 u5) fun r4 =>
 .obC (jbT) (by decide)
 (.obC _ jaw
 (.brB (r4.2.2 == 0)
 (.obC _ jbS
 (.obC _ jax
 (.call (y5 u4 u0 u6 u5) fun r5 =>
 .obC (ja5) (by decide)
 (.obC _ jaw
 (.brB (r5.2.2 == 0)
 (.obC _ ja4
 (.obC _ jax
 (.obT
 (.rc (((r0.2.2 == 0, r1.2.2 == 0, r2.2.2 == 0, r3.2.2 == 0, r4.2.2 == 0, r5.2.2 == 0, 0, 0, 0, 0, 0, 0, 0, 0, r4.1, r4.2.1, r5.1, r5.2.1)))))))
 (.obT
 (.rc (((r0.2.2 == 0, r1.2.2 == 0, r2.2.2 == 0, r3.2.2 == 0, r4.2.2 == 0, r5.2.2 == 0, 0, 0, 0, 0, 0, 0, 0, 0, r4.1, r4.2.1, 0, 0))))))))))
 (.call (y5 u4 u0 u6 u5) fun r5 =>
 .obC (ja5) (by decide)
 (.obC _ jaw
 (.brB (r5.2.2 == 0)
 (.obC _ ja4
 (.obC _ jax
 (.obT
 (.rc (((r0.2.2 == 0, r1.2.2 == 0, r2.2.2 == 0, r3.2.2 == 0, r4.2.2 == 0, r5.2.2 == 0, 0, 0, 0, 0, 0, 0, 0, 0, 0, 0, r5.1, r5.2.1)))))))
 (.obT
 (.rc (((r0.2.2 == 0, r1.2.2 == 0, r2.2.2 == 0, r3.2.2 == 0, r4.2.2 == 0, r5.2.2 == 0, 0, 0, 0, 0, 0, 0, 0, 0, 0, 0, 0, 0))))))))))))))))))))))
theorem jlT (u4 : Int) (u0 : List Nat) (u6 : Int) (u5 : Int) (r : Bool × Bool × Bool × Bool × Bool × Bool × Int × Int × Int × Int × Int × Int × Int × Int × Int × Int × Int × Int) (h : Option.bind (y2 u4 u0 u6 u5) some = some r) : ja0 Tryz.f63 ((sp_24 (sp_28 (sp_46 (sp_30 sp0))))) (fun _ _ _ => none) (jaO y195 [.d (.i .i64 u4), .r (.floats .f32 u0), .d (.i .i64 u6), .d (.i .i64 u5)]) [.s [.d (.b r.1), .d (.b r.2.1), .d (.b r.2.2.1), .d (.b r.2.2.2.1), .d (.b r.2.2.2.2.1), .d (.b r.2.2.2.2.2.1), .d (.i .i64 r.2.2.2.2.2.2.1), .d (.i .i64 r.2.2.2.2.2.2.2.1), .d (.i .i64 r.2.2.2.2.2.2.2.2.1), .d (.i .i64 r.2.2.2.2.2.2.2.2.2.1), .d (.i .i64 r.2.2.2.2.2.2.2.2.2.2.1), .d (.i .i64 r.2.2.2.2.2.2.2.2.2.2.2.1), .d (.i .i64 r.2.2.2.2.2.2.2.2.2.2.2.2.1), .d (.i .i64 r.2.2.2.2.2.2.2.2.2.2.2.2.2.1), .d (.i .i64 r.2.2.2.2.2.2.2.2.2.2.2.2.2.2.1), .d (.i .i64 r.2.2.2.2.2.2.2.2.2.2.2.2.2.2.2.1), .d (.i .i64 r.2.2.2.2.2.2.2.2.2.2.2.2.2.2.2.2.1), .d (.i .i64 r.2.2.2.2.2.2.2.2.2.2.2.2.2.2.2.2.2)]] :=
 T.vc (t := jne u4 u0 u6 u5) (by kernel_rfl) (by kernel_rfl) h
theorem jlU : jag Tryz.prog 63 true (jal y195 y196) := by
 refine jat (sp := (sp_24 (sp_28 (sp_46 (sp_30 sp0))))) (fn := Tryz.f63) (body := jaj Tryz.f63) mixed (sp_24_ok (sp_28_ok (sp_46_ok (sp_30_ok jak)))) Tryz.func63 (by kernel_rfl) (by kernel_rfl) fun ls t h ho b hb => ?_
 unfold y196 at h
 split at h
 ·rename_i u4 u0 u6 u5
  cases h
  obtain rfl := jaB hb
  exact ⟨Nat.le_of_ble_eq_true (by kernel_rfl), _, _, jlT u4 u0 u6 u5 _ (jai ho)⟩
 ·cases h
theorem sp_63_ok {sp : jab} (h : jac Tryz.prog sp) : jac Tryz.prog (sp_63 sp) := jah jlU h
end Go.Sh
end

section
namespace Go.Sh
open Go Go.Proofs Go.RowKit Go.Sx
open Go.IntKind (wrap)
def jel : List SV := [.a [.d, .r (.floats .f32 []), .d, .d], .a [.d, .r (.floats .f32 []), .d, .d]]
def y20 (r0 : Bool × Bool × Bool × Bool × Bool × Bool × Int × Int × Int × Int × Int × Int × Int × Int × Int × Int × Int × Int) (r1 : Bool × Bool × Bool × Bool × Bool × Bool × Int × Int × Int × Int × Int × Int × Int × Int × Int × Int × Int × Int) (x0 : (Int × Int × Int × Int × Int × Int × Int)) : Option ((Int × Int × Int × Int × Int × Int × Int) ⊕ (Int × Int × Int × Int × Int × Int)) :=
 if x0.1 < 6 then
  if 0 ≤ x0.1 ∧ x0.1 < (↑(6 : Nat) : Int) then
  if List.getD [true, true, true, true, true, true] (0 + Int.toNat x0.1 * 1) false = true then
   if 0 ≤ x0.1 ∧ x0.1 < (↑(6 : Nat) : Int) then
   if List.getD [true, true, true, true, true, true, false, false, false, false, false, false, false, false, false, false, false, false] (0 + Int.toNat x0.1 * 1) false = true then
    if (List.getD [r0.1, r0.2.1, r0.2.2.1, r0.2.2.2.1, r0.2.2.2.2.1, r0.2.2.2.2.2.1, false, false, false, false, false, false, false, false, false, false, false, false] (0 + Int.toNat x0.1 * 1) false) = true then
    if 0 ≤ x0.1 ∧ x0.1 < (↑(6 : Nat) : Int) then
     if List.getD [true, true, true, true, true, true, false, false, false, false, false, false, false, false, false, false, false, false] (0 + Int.toNat x0.1 * 1) false = true then
     if (List.getD [r1.1, r1.2.1, r1.2.2.1, r1.2.2.2.1, r1.2.2.2.2.1, r1.2.2.2.2.2.1, false, false, false, false, false, false, false, false, false, false, false, false] (0 + Int.toNat x0.1 * 1) false) = true then
      if 0 ≤ x0.1 ∧ x0.1 < (↑(6 : Nat) : Int) then
      if List.getD [false, false, false, false, false, false, true, true, true, true, true, true, true, true, true, true, true, true] (6 + Int.toNat x0.1 * 2) false = true ∧ List.getD [false, false, false, false, false, false, true, true, true, true, true, true, true, true, true, true, true, true] (6 + Int.toNat x0.1 * 2 + 1) false = true then
       if 0 ≤ x0.1 ∧ x0.1 < (↑(6 : Nat) : Int) then
       if List.getD [false, false, false, false, false, false, true, true, true, true, true, true, true, true, true, true, true, true] (6 + Int.toNat x0.1 * 2) false = true ∧ List.getD [false, false, false, false, false, false, true, true, true, true, true, true, true, true, true, true, true, true] (6 + Int.toNat x0.1 * 2 + 1) false = true then
        Option.bind (y93 x0.1 (List.getD [(0 : Int), 0, 0, 0, 0, 0, r0.2.2.2.2.2.2.1, r0.2.2.2.2.2.2.2.1, r0.2.2.2.2.2.2.2.2.1, r0.2.2.2.2.2.2.2.2.2.1, r0.2.2.2.2.2.2.2.2.2.2.1, r0.2.2.2.2.2.2.2.2.2.2.2.1, r0.2.2.2.2.2.2.2.2.2.2.2.2.1, r0.2.2.2.2.2.2.2.2.2.2.2.2.2.1, r0.2.2.2.2.2.2.2.2.2.2.2.2.2.2.1, r0.2.2.2.2.2.2.2.2.2.2.2.2.2.2.2.1, r0.2.2.2.2.2.2.2.2.2.2.2.2.2.2.2.2.1, r0.2.2.2.2.2.2.2.2.2.2.2.2.2.2.2.2.2] (6 + Int.toNat x0.1 * 2) (0 : Int)) (List.getD [(0 : Int), 0, 0, 0, 0, 0, r0.2.2.2.2.2.2.1, r0.2.2.2.2.2.2.2.1, r0.2.2.2.2.2.2.2.2.1, r0.2.2.2.2.2.2.2.2.2.1, r0.2.2.2.2.2.2.2.2.2.2.1, r0.2.2.2.2.2.2.2.2.2.2.2.1, r0.2.2.2.2.2.2.2.2.2.2.2.2.1, r0.2.2.2.2.2.2.2.2.2.2.2.2.2.1, r0.2.2.2.2.2.2.2.2.2.2.2.2.2.2.1, r0.2.2.2.2.2.2.2.2.2.2.2.2.2.2.2.1, r0.2.2.2.2.2.2.2.2.2.2.2.2.2.2.2.2.1, r0.2.2.2.2.2.2.2.2.2.2.2.2.2.2.2.2.2] (6 + Int.toNat x0.1 * 2 + 1) (0 : Int)) (List.getD [(0 : Int), 0, 0, 0, 0, 0, r1.2.2.2.2.2.2.1, r1.2.2.2.2.2.2.2.1, r1.2.2.2.2.2.2.2.2.1, r1.2.2.2.2.2.2.2.2.2.1, r1.2.2.2.2.2.2.2.2.2.2.1, r1.2.2.2.2.2.2.2.2.2.2.2.1, r1.2.2.2.2.2.2.2.2.2.2.2.2.1, r1.2.2.2.2.2.2.2.2.2.2.2.2.2.1, r1.2.2.2.2.2.2.2.2.2.2.2.2.2.2.1, r1.2.2.2.2.2.2.2.2.2.2.2.2.2.2.2.1, r1.2.2.2.2.2.2.2.2.2.2.2.2.2.2.2.2.1, r1.2.2.2.2.2.2.2.2.2.2.2.2.2.2.2.2.2] (6 + Int.toNat x0.1 * 2) (0 : Int)) (List.getD [(0 : Int), 0, 0, 0, 0, 0, r1.2.2.2.2.2.2.1, r1.2.2.2.2.2.2.2.1, r1.2.2.2.2.2.2.2.2.1, r1.2.2.2.2.2.2.2.2.2.1, r1.2.2.2.2.2.2.2.2.2.2.1, r1.2.2.2.2.2.2.2.2.2.2.2.1, r1.2.2.2.2.2.2.2.2.2.2.2.2.1, r1.2.2.2.2.2.2.2.2.2.2.2.2.2.1, r1.2.2.2.2.2.2.2.2.2.2.2.2.2.2.1, r1.2.2.2.2.2.2.2.2.2.2.2.2.2.2.2.1, r1.2.2.2.2.2.2.2.2.2.2.2.2.2.2.2.2.1, r1.2.2.2.2.2.2.2.2.2.2.2.2.2.2.2.2.2] (6 + Int.toNat x0.1 * 2 + 1) (0 : Int))) fun r2 =>
        if 0 ≤ x0.1 ∧ x0.1 < (↑(6 : Nat) : Int) then
        if List.getD [true, true, true, true, true, true] (0 + Int.toNat x0.1 * 1) false = true then
         some (.inl ((wrap .i64 (x0.1 + 1), bif Nat.beq (0 + Int.toNat x0.1 * 1) 0 then r2 else bif Nat.beq (0 + Int.toNat x0.1 * 1) 0 then (1 : Int) else x0.2.1, bif Nat.beq (0 + Int.toNat x0.1 * 1) 1 then r2 else bif Nat.beq (0 + Int.toNat x0.1 * 1) 1 then (1 : Int) else x0.2.2.1, bif Nat.beq (0 + Int.toNat x0.1 * 1) 2 then r2 else bif Nat.beq (0 + Int.toNat x0.1 * 1) 2 then (1 : Int) else x0.2.2.2.1, bif Nat.beq (0 + Int.toNat x0.1 * 1) 3 then r2 else bif Nat.beq (0 + Int.toNat x0.1 * 1) 3 then (1 : Int) else x0.2.2.2.2.1, bif Nat.beq (0 + Int.toNat x0.1 * 1) 4 then r2 else bif Nat.beq (0 + Int.toNat x0.1 * 1) 4 then (1 : Int) else x0.2.2.2.2.2.1, bif Nat.beq (0 + Int.toNat x0.1 * 1) 5 then r2 else bif Nat.beq (0 + Int.toNat x0.1 * 1) 5 then (1 : Int) else x0.2.2.2.2.2.2)))
        else none
        else none
       else none
       else none
      else none
      else none
     else
      some (.inl ((wrap .i64 (x0.1 + 1), bif Nat.beq (0 + Int.toNat x0.1 * 1) 0 then (1 : Int) else x0.2.1, bif Nat.beq (0 + Int.toNat x0.1 * 1) 1 then (1 : Int) else x0.2.2.1, bif Nat.beq (0 + Int.toNat x0.1 * 1) 2 then (1 : Int) else x0.2.2.2.1, bif Nat.beq (0 + Int.toNat x0.1 * 1) 3 then (1 : Int) else x0.2.2.2.2.1, bif Nat.beq (0 + Int.toNat x0.1 * 1) 4 then (1 : Int) else x0.2.2.2.2.2.1, bif Nat.beq (0 + Int.toNat x0.1 * 1) 5 then (1 : Int) else x0.2.2.2.2.2.2)))
     else none
    else none
    else
    some (.inl ((wrap .i64 (x0.1 + 1), bif Nat.beq (0 + Int.toNat x0.1 * 1) 0 then (1 : Int) else x0.2.1, bif Nat.beq (0 + Int.toNat x0.1 * 1) 1 then (1 : Int) else x0.2.2.1, bif Nat.beq (0 + Int.toNat x0.1 * 1) 2 then (1 : Int) else x0.2.2.2.1, bif Nat.beq (0 + Int.toNat x0.1 * 1) 3 then (1 : Int) else x0.2.2.2.2.1, bif Nat.beq (0 + Int.toNat x0.1 * 1) 4 then (1 : Int) else x0.2.2.2.2.2.1, bif Nat.beq (0 + Int.toNat x0.1 * 1) 5 then (1 : Int) else x0.2.2.2.2.2.2)))
   else none
   else none
  else none
  else none
 else
  some (.inr (x0.2.1, x0.2.2.1, x0.2.2.2.1, x0.2.2.2.2.1, x0.2.2.2.2.2.1, x0.2.2.2.2.2.2))
def y62 (u15 : Int × Int × Int × Int × Int × Int) : Option (Int × Int × Int × Int × Int × Int) :=
 some (u15.1, u15.2.1, u15.2.2.1, u15.2.2.2.1, u15.2.2.2.2.1, u15.2.2.2.2.2)
def y27 (u4 : Int) (u0 : List Nat) (u6 : Int) (u5 : Int) (u36 : Int) (u37 : List Nat) (u38 : Int) (u39 : Int) : Option (Int × Int × Int × Int × Int × Int) :=
 Option.bind (y2 u4 u0 u6 u5) fun r0 =>
 Option.bind (y2 u36 u37 u38 u39) fun r1 =>
 Option.bind (jae (y20 r0 r1) big (((0 : Int), 0, 0, 0, 0, 0, 0))) (y62)
def jem : List Lf → Option GT
 | [.d (.i .i64 u4), .r (.floats .f32 u0), .d (.i .i64 u6), .d (.i .i64 u5), .d (.i .i64 u36), .r (.floats .f32 u37), .d (.i .i64 u38), .d (.i .i64 u39)] => some (.leaf (ok (y27 u4 u0 u6 u5 u36 u37 u38 u39)) [.s [.d (.i .i64 ((val (y27 u4 u0 u6 u5 u36 u37 u38 u39)).1)), .d (.i .i64 ((val (y27 u4 u0 u6 u5 u36 u37 u38 u39)).2.1)), .d (.i .i64 ((val (y27 u4 u0 u6 u5 u36 u37 u38 u39)).2.2.1)), .d (.i .i64 ((val (y27 u4 u0 u6 u5 u36 u37 u38 u39)).2.2.2.1)), .d (.i .i64 ((val (y27 u4 u0 u6 u5 u36 u37 u38 u39)).2.2.2.2.1)), .d (.i .i64 ((val (y27 u4 u0 u6 u5 u36 u37 u38 u39)).2.2.2.2.2))]])
 | _ => none
abbrev sp_59 : jab → jab := jav 59 true (jal jel jem)
def jpU (fn : Func) (sp : jab) (u73 : jev) (b : Bv) (rs : List RR) : Prop := ja0 fn sp u73 b rs
theorem jva {fn : Func} {sp : jab} {u73 : jev} {b : Bv} {rs : List RR} (h : jpU fn sp u73 b rs) : ja0 fn sp u73 b rs := h
attribute [irreducible] jpU
theorem jvb {f : Nat} {fn : Func} {shs : List SV} {g : List Lf → Option GT} {sp : jab} (hm : Tryz.prog.follows .mixedOrders = true) (hsp : jac Tryz.prog sp) (hf : Tryz.prog.funcs[f]? = some fn) (hb : fn.body = some (jaj fn)) (hn : (fn.name == "runtime.NumGoroutine") = false)
  (h : ∀ ls t, g ls = some t → t.sel.1 → ∀ b : Bv, jgf shs 0 ls = some b → b.vs.length ≤ fn.ntmps ∧ ∃ u73, jpU fn sp u73 b t.sel.2) : jag Tryz.prog f true (jal shs g) :=
 jat hm hsp hf hb hn fun ls t h1 h2 b h3 => by
  obtain ⟨p, u73, q⟩ := h ls t h1 h2 b h3
  exact ⟨p, 40, u73, jva q⟩
private abbrev u0q0 (u4 : Int) (u0 : List Nat) (u6 : Int) (u5 : Int) (v0 : (Int × Int × Int × Int × Int × Int × Int) × Nat) := (List.getD [(0 : Int), 0, 0, 0, 0, 0, (val (y2 u4 u0 u6 u5)).2.2.2.2.2.2.1, (val (y2 u4 u0 u6 u5)).2.2.2.2.2.2.2.1, (val (y2 u4 u0 u6 u5)).2.2.2.2.2.2.2.2.1, (val (y2 u4 u0 u6 u5)).2.2.2.2.2.2.2.2.2.1, (val (y2 u4 u0 u6 u5)).2.2.2.2.2.2.2.2.2.2.1, (val (y2 u4 u0 u6 u5)).2.2.2.2.2.2.2.2.2.2.2.1, (val (y2 u4 u0 u6 u5)).2.2.2.2.2.2.2.2.2.2.2.2.1, (val (y2 u4 u0 u6 u5)).2.2.2.2.2.2.2.2.2.2.2.2.2.1, (val (y2 u4 u0 u6 u5)).2.2.2.2.2.2.2.2.2.2.2.2.2.2.1, (val (y2 u4 u0 u6 u5)).2.2.2.2.2.2.2.2.2.2.2.2.2.2.2.1, (val (y2 u4 u0 u6 u5)).2.2.2.2.2.2.2.2.2.2.2.2.2.2.2.2.1, (val (y2 u4 u0 u6 u5)).2.2.2.2.2.2.2.2.2.2.2.2.2.2.2.2.2] (6 + Int.toNat v0.1.1 * 2 + 1) (0 : Int))
private abbrev u0q1 (u36 : Int) (u37 : List Nat) (u38 : Int) (u39 : Int) (v0 : (Int × Int × Int × Int × Int × Int × Int) × Nat) := (List.getD [(0 : Int), 0, 0, 0, 0, 0, (val (y2 u36 u37 u38 u39)).2.2.2.2.2.2.1, (val (y2 u36 u37 u38 u39)).2.2.2.2.2.2.2.1, (val (y2 u36 u37 u38 u39)).2.2.2.2.2.2.2.2.1, (val (y2 u36 u37 u38 u39)).2.2.2.2.2.2.2.2.2.1, (val (y2 u36 u37 u38 u39)).2.2.2.2.2.2.2.2.2.2.1, (val (y2 u36 u37 u38 u39)).2.2.2.2.2.2.2.2.2.2.2.1, (val (y2 u36 u37 u38 u39)).2.2.2.2.2.2.2.2.2.2.2.2.1, (val (y2 u36 u37 u38 u39)).2.2.2.2.2.2.2.2.2.2.2.2.2.1, (val (y2 u36 u37 u38 u39)).2.2.2.2.2.2.2.2.2.2.2.2.2.2.1, (val (y2 u36 u37 u38 u39)).2.2.2.2.2.2.2.2.2.2.2.2.2.2.2.1, (val (y2 u36 u37 u38 u39)).2.2.2.2.2.2.2.2.2.2.2.2.2.2.2.2.1, (val (y2 u36 u37 u38 u39)).2.2.2.2.2.2.2.2.2.2.2.2.2.2.2.2.2] (6 + Int.toNat v0.1.1 * 2 + 1) (0 : Int))
abbrev jlV (u4 : Int) (u0 : List Nat) (u6 : Int) (u5 : Int) (u36 : Int) (u37 : List Nat) (u38 : Int) (u39 : Int) (v0 : (Int × Int × Int × Int × Int × Int × Int) × Nat) := (y93 v0.1.1 (List.getD [(0 : Int), 0, 0, 0, 0, 0, (val (y2 u4 u0 u6 u5)).2.2.2.2.2.2.1, (val (y2 u4 u0 u6 u5)).2.2.2.2.2.2.2.1, (val (y2 u4 u0 u6 u5)).2.2.2.2.2.2.2.2.1, (val (y2 u4 u0 u6 u5)).2.2.2.2.2.2.2.2.2.1, (val (y2 u4 u0 u6 u5)).2.2.2.2.2.2.2.2.2.2.1, (val (y2 u4 u0 u6 u5)).2.2.2.2.2.2.2.2.2.2.2.1, (val (y2 u4 u0 u6 u5)).2.2.2.2.2.2.2.2.2.2.2.2.1, (val (y2 u4 u0 u6 u5)).2.2.2.2.2.2.2.2.2.2.2.2.2.1, (val (y2 u4 u0 u6 u5)).2.2.2.2.2.2.2.2.2.2.2.2.2.2.1, (val (y2 u4 u0 u6 u5)).2.2.2.2.2.2.2.2.2.2.2.2.2.2.2.1, (val (y2 u4 u0 u6 u5)).2.2.2.2.2.2.2.2.2.2.2.2.2.2.2.2.1, (val (y2 u4 u0 u6 u5)).2.2.2.2.2.2.2.2.2.2.2.2.2.2.2.2.2] (6 + Int.toNat v0.1.1 * 2) (0 : Int)) (u0q0 u4 u0 u6 u5 v0) (List.getD [(0 : Int), 0, 0, 0, 0, 0, (val (y2 u36 u37 u38 u39)).2.2.2.2.2.2.1, (val (y2 u36 u37 u38 u39)).2.2.2.2.2.2.2.1, (val (y2 u36 u37 u38 u39)).2.2.2.2.2.2.2.2.1, (val (y2 u36 u37 u38 u39)).2.2.2.2.2.2.2.2.2.1, (val (y2 u36 u37 u38 u39)).2.2.2.2.2.2.2.2.2.2.1, (val (y2 u36 u37 u38 u39)).2.2.2.2.2.2.2.2.2.2.2.1, (val (y2 u36 u37 u38 u39)).2.2.2.2.2.2.2.2.2.2.2.2.1, (val (y2 u36 u37 u38 u39)).2.2.2.2.2.2.2.2.2.2.2.2.2.1, (val (y2 u36 u37 u38 u39)).2.2.2.2.2.2.2.2.2.2.2.2.2.2.1, (val (y2 u36 u37 u38 u39)).2.2.2.2.2.2.2.2.2.2.2.2.2.2.2.1, (val (y2 u36 u37 u38 u39)).2.2.2.2.2.2.2.2.2.2.2.2.2.2.2.2.1, (val (y2 u36 u37 u38 u39)).2.2.2.2.2.2.2.2.2.2.2.2.2.2.2.2.2] (6 + Int.toNat v0.1.1 * 2) (0 : Int)) (u0q1 u36 u37 u38 u39 v0))
abbrev ja7 (u4 : Int) (u0 : List Nat) (u6 : Int) (u5 : Int) := (val (y2 u4 u0 u6 u5))
abbrev ja8 (u36 : Int) (u37 : List Nat) (u38 : Int) (u39 : Int) := (val (y2 u36 u37 u38 u39))
abbrev jbF (v0 : (Int × Int × Int × Int × Int × Int × Int) × Nat) := (0 + Int.toNat v0.1.1 * 1)
private abbrev u0q6 (v0 : (Int × Int × Int × Int × Int × Int × Int) × Nat) := (List.getD [false, false, false, false, false, false, true, true, true, true, true, true, true, true, true, true, true, true] (6 + Int.toNat v0.1.1 * 2) false = true ∧ List.getD [false, false, false, false, false, false, true, true, true, true, true, true, true, true, true, true, true, true] (6 + Int.toNat v0.1.1 * 2 + 1) false = true)
private abbrev u0q7 (u4 : Int) (u0 : List Nat) (u6 : Int) (u5 : Int) := ((ja7 u4 u0 u6 u5).2.2.2.2.2.2.2.2.2.2.2.2.2.2.2.2.1 = (ja7 u4 u0 u6 u5).2.2.2.2.2.2.2.2.2.2.2.2.2.2.2.2.1)
private abbrev u0q8 (u4 : Int) (u0 : List Nat) (u6 : Int) (u5 : Int) := ((ja7 u4 u0 u6 u5).2.2.2.2.2.2.2.2.2.2.2.2.2.2.2.2.2 = (ja7 u4 u0 u6 u5).2.2.2.2.2.2.2.2.2.2.2.2.2.2.2.2.2)
private abbrev u0q9 (u36 : Int) (u37 : List Nat) (u38 : Int) (u39 : Int) := ((ja8 u36 u37 u38 u39).2.2.2.2.2.2.2.2.2.2.2.2.2.2.2.2.1 = (ja8 u36 u37 u38 u39).2.2.2.2.2.2.2.2.2.2.2.2.2.2.2.2.1)
private abbrev u0q10 (u36 : Int) (u37 : List Nat) (u38 : Int) (u39 : Int) := ((ja8 u36 u37 u38 u39).2.2.2.2.2.2.2.2.2.2.2.2.2.2.2.2.2 = (ja8 u36 u37 u38 u39).2.2.2.2.2.2.2.2.2.2.2.2.2.2.2.2.2)
private abbrev u0q11 (u4 : Int) (u0 : List Nat) (u6 : Int) (u5 : Int) := ((ja7 u4 u0 u6 u5).2.2.2.2.2.2.2.2.2.2.2.2.2.2.2.1 = (ja7 u4 u0 u6 u5).2.2.2.2.2.2.2.2.2.2.2.2.2.2.2.1)
private abbrev u0q12 (u36 : Int) (u37 : List Nat) (u38 : Int) (u39 : Int) := ((ja8 u36 u37 u38 u39).2.2.2.2.2.2.2.2.2.2.2.2.2.2.2.1 = (ja8 u36 u37 u38 u39).2.2.2.2.2.2.2.2.2.2.2.2.2.2.2.1)
private abbrev u0q13 (u4 : Int) (u0 : List Nat) (u6 : Int) (u5 : Int) := ((ja7 u4 u0 u6 u5).2.2.2.2.2.2.2.2.2.2.2.2.2.2.1 = (ja7 u4 u0 u6 u5).2.2.2.2.2.2.2.2.2.2.2.2.2.2.1)
private abbrev u0q14 (u36 : Int) (u37 : List Nat) (u38 : Int) (u39 : Int) := ((ja8 u36 u37 u38 u39).2.2.2.2.2.2.2.2.2.2.2.2.2.2.1 = (ja8 u36 u37 u38 u39).2.2.2.2.2.2.2.2.2.2.2.2.2.2.1)
private abbrev u0q15 (u4 : Int) (u0 : List Nat) (u6 : Int) (u5 : Int) := ((ja7 u4 u0 u6 u5).2.2.2.2.2.2.2.2.2.2.2.2.2.1 = (ja7 u4 u0 u6 u5).2.2.2.2.2.2.2.2.2.2.2.2.2.1)
private abbrev u0q16 (u36 : Int) (u37 : List Nat) (u38 : Int) (u39 : Int) := ((ja8 u36 u37 u38 u39).2.2.2.2.2.2.2.2.2.2.2.2.2.1 = (ja8 u36 u37 u38 u39).2.2.2.2.2.2.2.2.2.2.2.2.2.1)
private abbrev u0q17 (u4 : Int) (u0 : List Nat) (u6 : Int) (u5 : Int) := ((ja7 u4 u0 u6 u5).2.2.2.2.2.2.2.2.2.2.2.2.1 = (ja7 u4 u0 u6 u5).2.2.2.2.2.2.2.2.2.2.2.2.1)
private abbrev u0q18 (u36 : Int) (u37 : List Nat) (u38 : Int) (u39 : Int) := ((ja8 u36 u37 u38 u39).2.2.2.2.2.2.2.2.2.2.2.2.1 = (ja8 u36 u37 u38 u39).2.2.2.2.2.2.2.2.2.2.2.2.1)
private abbrev zrl0 (u4 : Int) (u0 : List Nat) (u6 : Int) (u5 : Int) (u36 : Int) (u37 : List Nat) (u38 : Int) (u39 : Int) (k : Prop) : Prop :=
 (Ob ((0 : Int) = (0 : Int)) ∧
 (Ob ((0 : Int) = (0 : Int)) ∧
 (Ob ((0 : Int) = (0 : Int)) ∧
 (Ob ((0 : Int) = (0 : Int)) ∧
 (Ob ((0 : Int) = (0 : Int)) ∧
 (Ob ((0 : Int) = (0 : Int)) ∧
 (Ob ((ja7 u4 u0 u6 u5).1 = (ja7 u4 u0 u6 u5).1) ∧
 (Ob ((ja7 u4 u0 u6 u5).2.1 = (ja7 u4 u0 u6 u5).2.1) ∧
 (Ob ((ja7 u4 u0 u6 u5).2.2.1 = (ja7 u4 u0 u6 u5).2.2.1) ∧
 (Ob ((ja7 u4 u0 u6 u5).2.2.2.1 = (ja7 u4 u0 u6 u5).2.2.2.1) ∧
 (Ob ((ja7 u4 u0 u6 u5).2.2.2.2.1 = (ja7 u4 u0 u6 u5).2.2.2.2.1) ∧
 (Ob ((ja7 u4 u0 u6 u5).2.2.2.2.2.1 = (ja7 u4 u0 u6 u5).2.2.2.2.2.1) ∧
 (Ob ((ja7 u4 u0 u6 u5).2.2.2.2.2.2.1 = (ja7 u4 u0 u6 u5).2.2.2.2.2.2.1) ∧
 (Ob ((ja7 u4 u0 u6 u5).2.2.2.2.2.2.2.1 = (ja7 u4 u0 u6 u5).2.2.2.2.2.2.2.1) ∧
 (Ob ((ja7 u4 u0 u6 u5).2.2.2.2.2.2.2.2.1 = (ja7 u4 u0 u6 u5).2.2.2.2.2.2.2.2.1) ∧
 (Ob ((ja7 u4 u0 u6 u5).2.2.2.2.2.2.2.2.2.1 = (ja7 u4 u0 u6 u5).2.2.2.2.2.2.2.2.2.1) ∧
 (Ob ((ja7 u4 u0 u6 u5).2.2.2.2.2.2.2.2.2.2.1 = (ja7 u4 u0 u6 u5).2.2.2.2.2.2.2.2.2.2.1) ∧
 (Ob ((ja7 u4 u0 u6 u5).2.2.2.2.2.2.2.2.2.2.2.1 = (ja7 u4 u0 u6 u5).2.2.2.2.2.2.2.2.2.2.2.1) ∧
 (Ob (u0q17 u4 u0 u6 u5) ∧
 (Ob (u0q15 u4 u0 u6 u5) ∧
 (Ob (u0q13 u4 u0 u6 u5) ∧
 (Ob (u0q11 u4 u0 u6 u5) ∧
 (Ob (u0q7 u4 u0 u6 u5) ∧
 (Ob (u0q8 u4 u0 u6 u5) ∧
 (Ob ((ja8 u36 u37 u38 u39).1 = (ja8 u36 u37 u38 u39).1) ∧
 (Ob ((ja8 u36 u37 u38 u39).2.1 = (ja8 u36 u37 u38 u39).2.1) ∧
 (Ob ((ja8 u36 u37 u38 u39).2.2.1 = (ja8 u36 u37 u38 u39).2.2.1) ∧
 (Ob ((ja8 u36 u37 u38 u39).2.2.2.1 = (ja8 u36 u37 u38 u39).2.2.2.1) ∧
 (Ob ((ja8 u36 u37 u38 u39).2.2.2.2.1 = (ja8 u36 u37 u38 u39).2.2.2.2.1) ∧
 (Ob ((ja8 u36 u37 u38 u39).2.2.2.2.2.1 = (ja8 u36 u37 u38 u39).2.2.2.2.2.1) ∧
 (Ob ((ja8 u36 u37 u38 u39).2.2.2.2.2.2.1 = (ja8 u36 u37 u38 u39).2.2.2.2.2.2.1) ∧
 (Ob ((ja8 u36 u37 u38 u39).2.2.2.2.2.2.2.1 = (ja8 u36 u37 u38 u39).2.2.2.2.2.2.2.1) ∧
 (Ob ((ja8 u36 u37 u38 u39).2.2.2.2.2.2.2.2.1 = (ja8 u36 u37 u38 u39).2.2.2.2.2.2.2.2.1) ∧
 (Ob ((ja8 u36 u37 u38 u39).2.2.2.2.2.2.2.2.2.1 = (ja8 u36 u37 u38 u39).2.2.2.2.2.2.2.2.2.1) ∧
 (Ob ((ja8 u36 u37 u38 u39).2.2.2.2.2.2.2.2.2.2.1 = (ja8 u36 u37 u38 u39).2.2.2.2.2.2.2.2.2.2.1) ∧
 (Ob ((ja8 u36 u37 u38 u39).2.2.2.2.2.2.2.2.2.2.2.1 = (ja8 u36 u37 u38 u39).2.2.2.2.2.2.2.2.2.2.2.1) ∧
 (Ob (u0q18 u36 u37 u38 u39) ∧
 (Ob (u0q16 u36 u37 u38 u39) ∧
 (Ob (u0q14 u36 u37 u38 u39) ∧
 (Ob (u0q12 u36 u37 u38 u39) ∧
 (Ob (u0q9 u36 u37 u38 u39) ∧
 (Ob (u0q10 u36 u37 u38 u39) ∧
 k))))))))))))))))))))))))))))))))))))))))))
theorem jnf (u4 : Int) (u0 : List Nat) (u6 : Int) (u5 : Int) (u36 : Int) (u37 : List Nat) (u38 : Int) (u39 : Int) (r : Int × Int × Int × Int × Int × Int) (h : Option.bind (y27 u4 u0 u6 u5 u36 u37 u38 u39) some = some r) : jpU Tryz.f59 ((sp_63 (sp_101 sp0))) (fun gs id _ => match id with
 | 0 => some ⟨(Int × Int × Int × Int × Int × Int × Int) × Nat, fun z => ⟨[(4, .w (.c (.p 2 0 1 0))), (5, .w (.c (.p 3 0 1 0))), (6, .w (.c (.p 4 0 1 0))), (7, .w (.c (.p 5 0 1 0))), (8, .w (.c (.d (.i .i64 (Prod.fst (Prod.fst z))))))], [(2, .box 87 [.d (.i .i64 0), .d (.i .i64 0), .d (.i .i64 0), .d (.i .i64 0), .d (.i .i64 0), .d (.i .i64 0)]), (3, .box 95 [.d (.b ((val (y2 u4 u0 u6 u5)).1)), .d (.b ((val (y2 u4 u0 u6 u5)).2.1)), .d (.b ((val (y2 u4 u0 u6 u5)).2.2.1)), .d (.b ((val (y2 u4 u0 u6 u5)).2.2.2.1)), .d (.b ((val (y2 u4 u0 u6 u5)).2.2.2.2.1)), .d (.b ((val (y2 u4 u0 u6 u5)).2.2.2.2.2.1)), .d (.i .i64 ((val (y2 u4 u0 u6 u5)).2.2.2.2.2.2.1)), .d (.i .i64 ((val (y2 u4 u0 u6 u5)).2.2.2.2.2.2.2.1)), .d (.i .i64 ((val (y2 u4 u0 u6 u5)).2.2.2.2.2.2.2.2.1)), .d (.i .i64 ((val (y2 u4 u0 u6 u5)).2.2.2.2.2.2.2.2.2.1)), .d (.i .i64 ((val (y2 u4 u0 u6 u5)).2.2.2.2.2.2.2.2.2.2.1)), .d (.i .i64 ((val (y2 u4 u0 u6 u5)).2.2.2.2.2.2.2.2.2.2.2.1)), .d (.i .i64 ((val (y2 u4 u0 u6 u5)).2.2.2.2.2.2.2.2.2.2.2.2.1)), .d (.i .i64 ((val (y2 u4 u0 u6 u5)).2.2.2.2.2.2.2.2.2.2.2.2.2.1)), .d (.i .i64 ((val (y2 u4 u0 u6 u5)).2.2.2.2.2.2.2.2.2.2.2.2.2.2.1)), .d (.i .i64 ((val (y2 u4 u0 u6 u5)).2.2.2.2.2.2.2.2.2.2.2.2.2.2.2.1)), .d (.i .i64 ((val (y2 u4 u0 u6 u5)).2.2.2.2.2.2.2.2.2.2.2.2.2.2.2.2.1)), .d (.i .i64 ((val (y2 u4 u0 u6 u5)).2.2.2.2.2.2.2.2.2.2.2.2.2.2.2.2.2))]), (4, .box 95 [.d (.b ((val (y2 u36 u37 u38 u39)).1)), .d (.b ((val (y2 u36 u37 u38 u39)).2.1)), .d (.b ((val (y2 u36 u37 u38 u39)).2.2.1)), .d (.b ((val (y2 u36 u37 u38 u39)).2.2.2.1)), .d (.b ((val (y2 u36 u37 u38 u39)).2.2.2.2.1)), .d (.b ((val (y2 u36 u37 u38 u39)).2.2.2.2.2.1)), .d (.i .i64 ((val (y2 u36 u37 u38 u39)).2.2.2.2.2.2.1)), .d (.i .i64 ((val (y2 u36 u37 u38 u39)).2.2.2.2.2.2.2.1)), .d (.i .i64 ((val (y2 u36 u37 u38 u39)).2.2.2.2.2.2.2.2.1)), .d (.i .i64 ((val (y2 u36 u37 u38 u39)).2.2.2.2.2.2.2.2.2.1)), .d (.i .i64 ((val (y2 u36 u37 u38 u39)).2.2.2.2.2.2.2.2.2.2.1)), .d (.i .i64 ((val (y2 u36 u37 u38 u39)).2.2.2.2.2.2.2.2.2.2.2.1)), .d (.i .i64 ((val (y2 u36 u37 u38 u39)).2.2.2.2.2.2.2.2.2.2.2.2.1)), .d (.i .i64 ((val (y2 u36 u37 u38 u39)).2.2.2.2.2.2.2.2.2.2.2.2.2.1)), .d (.i .i64 ((val (y2 u36 u37 u38 u39)).2.2.2.2.2.2.2.2.2.2.2.2.2.2.1)), .d (.i .i64 ((val (y2 u36 u37 u38 u39)).2.2.2.2.2.2.2.2.2.2.2.2.2.2.2.1)), .d (.i .i64 ((val (y2 u36 u37 u38 u39)).2.2.2.2.2.2.2.2.2.2.2.2.2.2.2.2.1)), .d (.i .i64 ((val (y2 u36 u37 u38 u39)).2.2.2.2.2.2.2.2.2.2.2.2.2.2.2.2.2))]), (5, .box 87 [.d (.i .i64 (Prod.fst (Prod.snd (Prod.fst z)))), .d (.i .i64 (Prod.fst (Prod.snd (Prod.snd (Prod.fst z))))), .d (.i .i64 (Prod.fst (Prod.snd (Prod.snd (Prod.snd (Prod.fst z)))))), .d (.i .i64 (Prod.fst (Prod.snd (Prod.snd (Prod.snd (Prod.snd (Prod.fst z))))))), .d (.i .i64 (Prod.fst (Prod.snd (Prod.snd (Prod.snd (Prod.snd (Prod.snd (Prod.fst z)))))))), .d (.i .i64 (Prod.snd (Prod.snd (Prod.snd (Prod.snd (Prod.snd (Prod.snd (Prod.fst z))))))))])], 6⟩, fun z => Option.bind (jae (y20 (val (y2 u4 u0 u6 u5)) (val (y2 u36 u37 u38 u39))) (Prod.snd z) (Prod.fst z)) (fun y0 => Option.bind (y62 y0) some) = some r, fun z => Prod.snd z⟩
 | _ => none) (jaO jel [.d (.i .i64 u4), .r (.floats .f32 u0), .d (.i .i64 u6), .d (.i .i64 u5), .d (.i .i64 u36), .r (.floats .f32 u37), .d (.i .i64 u38), .d (.i .i64 u39)]) [.s [.d (.i .i64 r.1), .d (.i .i64 r.2.1), .d (.i .i64 r.2.2.1), .d (.i .i64 r.2.2.2.1), .d (.i .i64 r.2.2.2.2.1), .d (.i .i64 r.2.2.2.2.2)]] := by
 refine Eq.mp (by kernel_rfl : (
 (Ob (ok (y2 u4 u0 u6 u5)) ∧
 (Ob (ok (y2 u36 u37 u38 u39)) ∧
  ((∃ (v0 : (Int × Int × Int × Int × Int × Int × Int) × Nat), (Ob ((Option.bind (jae (y20 (ja7 u4 u0 u6 u5) (ja8 u36 u37 u38 u39)) v0.2 v0.1) fun y0 => Option.bind (y62 y0) some) = some r) ∧
 (Ob (0 = 0) ∧
 (Ob (0 = 0) ∧
 (Ob (0 = 0) ∧
 (Ob (0 = 0) ∧
 (Ob ((0 : Int) = v0.1.1) ∧
  (zrl0 u4 u0 u6 u5 u36 u37 u38 u39 (
 (Ob ((0 : Int) = v0.1.2.1) ∧
 (Ob ((0 : Int) = v0.1.2.2.1) ∧
 (Ob ((0 : Int) = v0.1.2.2.2.1) ∧
 (Ob ((0 : Int) = v0.1.2.2.2.2.1) ∧
 (Ob ((0 : Int) = v0.1.2.2.2.2.2.1) ∧
 (Ob ((0 : Int) = v0.1.2.2.2.2.2.2) ∧
 True))))))))))))))) ∧
  (∀ (v0 : (Int × Int × Int × Int × Int × Int × Int) × Nat), ((Option.bind (jae (y20 (ja7 u4 u0 u6 u5) (ja8 u36 u37 u38 u39)) v0.2 v0.1) fun y0 => Option.bind (y62 y0) some) = some r →
 Br (decide (v0.1.1 < 6))
  ((Ob (0 ≤ v0.1.1 ∧ v0.1.1 < (↑(6 : Nat) : Int)) ∧
 (Ob (List.getD [true, true, true, true, true, true] (jbF v0) false = true) ∧
 (Ob (0 ≤ v0.1.1 ∧ v0.1.1 < (↑(6 : Nat) : Int)) ∧
 (Ob (List.getD [true, true, true, true, true, true, false, false, false, false, false, false, false, false, false, false, false, false] (jbF v0) false = true) ∧
 Br (List.getD [(ja7 u4 u0 u6 u5).1, (ja7 u4 u0 u6 u5).2.1, (ja7 u4 u0 u6 u5).2.2.1, (ja7 u4 u0 u6 u5).2.2.2.1, (ja7 u4 u0 u6 u5).2.2.2.2.1, (ja7 u4 u0 u6 u5).2.2.2.2.2.1, false, false, false, false, false, false, false, false, false, false, false, false] (jbF v0) false)
  ((Ob (0 ≤ v0.1.1 ∧ v0.1.1 < (↑(6 : Nat) : Int)) ∧
 (Ob (List.getD [true, true, true, true, true, true, false, false, false, false, false, false, false, false, false, false, false, false] (jbF v0) false = true) ∧
 Br (List.getD [(ja8 u36 u37 u38 u39).1, (ja8 u36 u37 u38 u39).2.1, (ja8 u36 u37 u38 u39).2.2.1, (ja8 u36 u37 u38 u39).2.2.2.1, (ja8 u36 u37 u38 u39).2.2.2.2.1, (ja8 u36 u37 u38 u39).2.2.2.2.2.1, false, false, false, false, false, false, false, false, false, false, false, false] (jbF v0) false)
  ((Ob (0 ≤ v0.1.1 ∧ v0.1.1 < (↑(6 : Nat) : Int)) ∧
 (Ob (u0q6 v0) ∧
 (Ob (0 ≤ v0.1.1 ∧ v0.1.1 < (↑(6 : Nat) : Int)) ∧
 (Ob (u0q6 v0) ∧
 (Ob (ok (jlV u4 u0 u6 u5 u36 u37 u38 u39 v0)) ∧
 (Ob (0 ≤ v0.1.1 ∧ v0.1.1 < (↑(6 : Nat) : Int)) ∧
 (Ob (List.getD [true, true, true, true, true, true] (jbF v0) false = true) ∧
  (∃ (v1 : (Int × Int × Int × Int × Int × Int × Int) × Nat), (Ob ((Option.bind (jae (y20 (ja7 u4 u0 u6 u5) (ja8 u36 u37 u38 u39)) v1.2 v1.1) fun y0 => Option.bind (y62 y0) some) = some r) ∧
 (Ob (v1.2 < v0.2) ∧
 (Ob (0 = 0) ∧
 (Ob (0 = 0) ∧
 (Ob (0 = 0) ∧
 (Ob (0 = 0) ∧
 (Ob (wrap .i64 (v0.1.1 + 1) = v1.1.1) ∧
  (zrl0 u4 u0 u6 u5 u36 u37 u38 u39 (
 (Ob ((bif Nat.beq (jbF v0) 0 then val (jlV u4 u0 u6 u5 u36 u37 u38 u39 v0) else bif Nat.beq (jbF v0) 0 then (1 : Int) else v0.1.2.1) = v1.1.2.1) ∧
 (Ob ((bif Nat.beq (jbF v0) 1 then val (jlV u4 u0 u6 u5 u36 u37 u38 u39 v0) else bif Nat.beq (jbF v0) 1 then (1 : Int) else v0.1.2.2.1) = v1.1.2.2.1) ∧
 (Ob ((bif Nat.beq (jbF v0) 2 then val (jlV u4 u0 u6 u5 u36 u37 u38 u39 v0) else bif Nat.beq (jbF v0) 2 then (1 : Int) else v0.1.2.2.2.1) = v1.1.2.2.2.1) ∧
 (Ob ((bif Nat.beq (jbF v0) 3 then val (jlV u4 u0 u6 u5 u36 u37 u38 u39 v0) else bif Nat.beq (jbF v0) 3 then (1 : Int) else v0.1.2.2.2.2.1) = v1.1.2.2.2.2.1) ∧
 (Ob ((bif Nat.beq (jbF v0) 4 then val (jlV u4 u0 u6 u5 u36 u37 u38 u39 v0) else bif Nat.beq (jbF v0) 4 then (1 : Int) else v0.1.2.2.2.2.2.1) = v1.1.2.2.2.2.2.1) ∧
 (Ob ((bif Nat.beq (jbF v0) 5 then val (jlV u4 u0 u6 u5 u36 u37 u38 u39 v0) else bif Nat.beq (jbF v0) 5 then (1 : Int) else v0.1.2.2.2.2.2.2) = v1.1.2.2.2.2.2.2) ∧
 True))))))))))))))))))))))))
  ((∃ (v1 : (Int × Int × Int × Int × Int × Int × Int) × Nat), (Ob ((Option.bind (jae (y20 (ja7 u4 u0 u6 u5) (ja8 u36 u37 u38 u39)) v1.2 v1.1) fun y0 => Option.bind (y62 y0) some) = some r) ∧
 (Ob (v1.2 < v0.2) ∧
 (Ob (0 = 0) ∧
 (Ob (0 = 0) ∧
 (Ob (0 = 0) ∧
 (Ob (0 = 0) ∧
 (Ob (wrap .i64 (v0.1.1 + 1) = v1.1.1) ∧
  (zrl0 u4 u0 u6 u5 u36 u37 u38 u39 (
 (Ob ((bif Nat.beq (jbF v0) 0 then (1 : Int) else v0.1.2.1) = v1.1.2.1) ∧
 (Ob ((bif Nat.beq (jbF v0) 1 then (1 : Int) else v0.1.2.2.1) = v1.1.2.2.1) ∧
 (Ob ((bif Nat.beq (jbF v0) 2 then (1 : Int) else v0.1.2.2.2.1) = v1.1.2.2.2.1) ∧
 (Ob ((bif Nat.beq (jbF v0) 3 then (1 : Int) else v0.1.2.2.2.2.1) = v1.1.2.2.2.2.1) ∧
 (Ob ((bif Nat.beq (jbF v0) 4 then (1 : Int) else v0.1.2.2.2.2.2.1) = v1.1.2.2.2.2.2.1) ∧
 (Ob ((bif Nat.beq (jbF v0) 5 then (1 : Int) else v0.1.2.2.2.2.2.2) = v1.1.2.2.2.2.2.2) ∧
 True))))))))))))))))))))
  ((∃ (v1 : (Int × Int × Int × Int × Int × Int × Int) × Nat), (Ob ((Option.bind (jae (y20 (ja7 u4 u0 u6 u5) (ja8 u36 u37 u38 u39)) v1.2 v1.1) fun y0 => Option.bind (y62 y0) some) = some r) ∧
 (Ob (v1.2 < v0.2) ∧
 (Ob (0 = 0) ∧
 (Ob (0 = 0) ∧
 (Ob (0 = 0) ∧
 (Ob (0 = 0) ∧
 (Ob (wrap .i64 (v0.1.1 + 1) = v1.1.1) ∧
  (zrl0 u4 u0 u6 u5 u36 u37 u38 u39 (
 (Ob ((bif Nat.beq (jbF v0) 0 then (1 : Int) else v0.1.2.1) = v1.1.2.1) ∧
 (Ob ((bif Nat.beq (jbF v0) 1 then (1 : Int) else v0.1.2.2.1) = v1.1.2.2.1) ∧
 (Ob ((bif Nat.beq (jbF v0) 2 then (1 : Int) else v0.1.2.2.2.1) = v1.1.2.2.2.1) ∧
 (Ob ((bif Nat.beq (jbF v0) 3 then (1 : Int) else v0.1.2.2.2.2.1) = v1.1.2.2.2.2.1) ∧
 (Ob ((bif Nat.beq (jbF v0) 4 then (1 : Int) else v0.1.2.2.2.2.2.1) = v1.1.2.2.2.2.2.1) ∧
 (Ob ((bif Nat.beq (jbF v0) 5 then (1 : Int) else v0.1.2.2.2.2.2.2) = v1.1.2.2.2.2.2.2) ∧
 True))))))))))))))))))))))
  ((Ob True ∧
 (Ob (v0.1.2.1 = r.1) ∧
 (Ob (v0.1.2.2.1 = r.2.1) ∧
 (Ob (v0.1.2.2.2.1 = r.2.2.1) ∧
 (Ob (v0.1.2.2.2.2.1 = r.2.2.2.1) ∧
 (Ob (v0.1.2.2.2.2.2.1 = r.2.2.2.2.1) ∧
 (Ob (v0.1.2.2.2.2.2.2 = r.2.2.2.2.2) ∧
 True)))))))))))))) = _) ?_
 refine jau h fun h => ?_
 refine jau h fun h => ?_
 refine ⟨⟨(((0 : Int), 0, 0, 0, 0, 0, 0), big), ⟨jbd h⟩, (by repeat' constructor)⟩, fun z3 hz3 => ?_⟩
 obtain ⟨k3, hm3, h⟩ := jaT hz3
 refine jaN h (fun h => ?_) (fun h => ?_)
 ·refine jao h fun h => ?_
  refine jao h fun h => ?_
  refine jao h fun h => ?_
  refine jao h fun h => ?_
  refine jaW h (fun h => ?_) (fun h => ?_)
  ·refine jao h fun h => ?_
   refine jao h fun h => ?_
   refine jaW h (fun h => ?_) (fun h => ?_)
   ·refine jao h fun h => ?_
    refine jao h fun h => ?_
    refine jao h fun h => ?_
    refine jao h fun h => ?_
    refine jau h fun h => ?_
    refine jao h fun h => ?_
    refine jao h fun h => ?_
    exact ⟨(_, k3), ⟨jaL h⟩, ⟨jaZ hm3.symm⟩, (by repeat' constructor)⟩
   ·exact ⟨(_, k3), ⟨jaL h⟩, ⟨jaZ hm3.symm⟩, (by repeat' constructor)⟩
  ·exact ⟨(_, k3), ⟨jaL h⟩, ⟨jaZ hm3.symm⟩, (by repeat' constructor)⟩
 ·have h := jaA h
  refine jad ?_
  exact rcs h
theorem jng : jag Tryz.prog 59 true (jal jel jem) := by
 refine jvb (sp := (sp_63 (sp_101 sp0))) (fn := Tryz.f59) mixed (sp_63_ok (sp_101_ok jak)) Tryz.func59 (by kernel_rfl) (by kernel_rfl) fun ls t h ho b hb => ?_
 unfold jem at h
 split at h
 ·rename_i u4 u0 u6 u5 u36 u37 u38 u39
  cases h
  obtain rfl := jaB hb
  exact ⟨Nat.le_of_ble_eq_true (by kernel_rfl), _, jnf u4 u0 u6 u5 u36 u37 u38 u39 _ (jai ho)⟩
 ·cases h
theorem sp_59_ok {sp : jab} (h : jac Tryz.prog sp) : jac Tryz.prog (sp_59 sp) := jah jng h
end Go.Sh
end

section
namespace Go.Sh
open Go Go.Proofs Go.RowKit Go.Sx
def jdU : List SV := [.a [.d, .r (.floats .f32 []), .d, .d], .a [.d, .r (.floats .f32 []), .d, .d]]
def jbB (u4 : Int) (u0 : List Nat) (u6 : Int) (u5 : Int) (u36 : Int) (u37 : List Nat) (u38 : Int) (u39 : Int) : Option Bool :=
 Option.bind (jc8 u4 u0) fun r0 =>
 if (!r0) = true then
  some true
 else
  Option.bind (jc8 u36 u37) fun r1 =>
  if (!r1) = true then
  some true
  else
  Option.bind (y59 u4 u0 u6 u5) fun r2 =>
  Option.bind (y59 u36 u37 u38 u39) fun r3 =>
  Option.bind (y25 r2.1 r2.2.1 r2.2.2.1 r2.2.2.2 r3.1 r3.2.1 r3.2.2.1 r3.2.2.2) fun r4 =>
  Option.bind (jh1 u4 u0 u6 u5) fun r5 =>
  if (r5 == 0) = true then
   Option.bind (jh1 u36 u37 u38 u39) fun r6 =>
   if (r6 != 0) = true then
   if (r4.2.2.2.2.2.2 == r6) = true then
    some (r4.1 == 0 && (r4.2.1 == 0 && (r4.2.2.1 == 0 && (r4.2.2.2.1 == 0 && (r4.2.2.2.2.1 == 0 && r4.2.2.2.2.2.1 == 0)))))
   else
    some false
   else
   Option.bind (y59 u36 u37 u38 u39) fun r7 =>
   Option.bind (y59 u4 u0 u6 u5) fun r8 =>
   Option.bind (y25 r3.1 r3.2.1 r3.2.2.1 r3.2.2.2 r2.1 r2.2.1 r2.2.2.1 r2.2.2.2) fun r9 =>
   if (r4.2.2.2.2.2.2 == 0) = true then
    Option.bind (y27 u4 u0 u6 u5 u36 u37 u38 u39) fun r10 =>
    if (r4.1 == r10.1 && (r4.2.1 == r10.2.1 && (r4.2.2.1 == r10.2.2.1 && (r4.2.2.2.1 == r10.2.2.2.1 && (r4.2.2.2.2.1 == r10.2.2.2.2.1 && r4.2.2.2.2.2.1 == r10.2.2.2.2.2))))) = true then
    if (r9.2.2.2.2.2.2 == 0) = true then
     some (r9.1 == r4.1 && (r9.2.1 == r4.2.1 && (r9.2.2.1 == r4.2.2.1 && (r9.2.2.2.1 == r4.2.2.2.1 && (r9.2.2.2.2.1 == r4.2.2.2.2.1 && r9.2.2.2.2.2.1 == r4.2.2.2.2.2.1)))))
    else
     some false
    else
    some false
   else
    some false
  else
   if (r5 != 0) = true then
   if (r4.2.2.2.2.2.2 == r5) = true then
    some (r4.1 == 0 && (r4.2.1 == 0 && (r4.2.2.1 == 0 && (r4.2.2.2.1 == 0 && (r4.2.2.2.2.1 == 0 && r4.2.2.2.2.2.1 == 0)))))
   else
    some false
   else
   none def g_L05_FigureCompares : List Lf → Option GT
 | [.d (.i .i64 u4), .r (.floats .f32 u0), .d (.i .i64 u6), .d (.i .i64 u5), .d (.i .i64 u36), .r (.floats .f32 u37), .d (.i .i64 u38), .d (.i .i64 u39)] => some (.leaf (ok (jbB u4 u0 u6 u5 u36 u37 u38 u39)) [.c (.d (.b ((val (jbB u4 u0 u6 u5 u36 u37 u38 u39)))))])
 | _ => none
def jil (u4 : Int) (u0 : List Nat) (u6 : Int) (u5 : Int) (u36 : Int) (u37 : List Nat) (u38 : Int) (u39 : Int) : T (Bool) :=
 .obT
 (.call (jc8 u4 u0) fun r0 =>
 .brB (!r0)
 (.obT
 (.rc (true)))
 (.call (jc8 u36 u37) fun r1 =>
 .brB (!r1)
 (.obT
 (.rc (true)))
 (.call (y59 u4 u0 u6 u5) fun r2 =>
 .call (y59 u36 u37 u38 u39) fun r3 =>
 .call (y25 r2.1 r2.2.1 r2.2.2.1 r2.2.2.2 r3.1 r3.2.1 r3.2.2.1 r3.2.2.2) fun r4 =>
 .call (jh1 u4 u0 u6 u5) fun r5 =>
 .brB (r5 == 0)
 (.call (jh1 u36 u37 u38 u39) fun r6 =>
 .brB (r6 != 0)
 (.brB (r4.2.2.2.2.2.2 == r6)
 (.obT
 (.rc ((r4.1 == 0 && (r4.2.1 == 0 && (r4.2.2.1 == 0 && (r4.2.2.2.1 == 0 && (r4.2.2.2.2.1 == 0 && r4.2.2.2.2.2.1 == 0))))))))
 (.obT
 (.rc (false))))
 (.call (y59 u36 u37 u38 u39) fun r7 =>
 .call (y59 u4 u0 u6 u5) fun r8 =>
 .call (y25 r3.1 r3.2.1 r3.2.2.1 r3.2.2.2 r2.1 r2.2.1 r2.2.2.1 r2.2.2.2) fun r9 =>
 .brB (r4.2.2.2.2.2.2 == 0)
 (.call (y27 u4 u0 u6 u5 u36 u37 u38 u39) fun r10 =>
 .brB (r4.1 == r10.1 && (r4.2.1 == r10.2.1 && (r4.2.2.1 == r10.2.2.1 && (r4.2.2.2.1 == r10.2.2.2.1 && (r4.2.2.2.2.1 == r10.2.2.2.2.1 && r4.2.2.2.2.2.1 == r10.2.2.2.2.2)))))
 (.brB (r9.2.2.2.2.2.2 == 0)
 (.obT
 (.rc ((r9.1 == r4.1 && (r9.2.1 == r4.2.1 && (r9.2.2.1 == r4.2.2.1 && (r9.2.2.2.1 == r4.2.2.2.1 && (r9.2.2.2.2.1 == r4.2.2.2.2.1 && r9.2.2.2.2.2.1 == r4.2.2.2.2.2.1))))))))
 (.obT
 (.rc (false))))
 (.obT
 (.rc (false))))
 (.obT
 (.rc (false)))))
 (.brB (r5 != 0)
 (.brB (r4.2.2.2.2.2.2 == r5)
 (.obT
 (.rc ((r4.1 == 0 && (r4.2.1 == 0 && (r4.2.2.1 == 0 && (r4.2.2.2.1 == 0 && (r4.2.2.2.2.1 == 0 && r4.2.2.2.2.2.1 == 0))))))))
 (.obT
 (.rc (false))))
 (.bad (fun r => (Ob (ok (y59 u36 u37 u38 u39)) ∧
 (Ob (ok (y59 u4 u0 u6 u5)) ∧
 (Ob (ok (y25 r3.1 r3.2.1 r3.2.2.1 r3.2.2.2 r2.1 r2.2.1 r2.2.2.1 r2.2.2.2)) ∧
 Br (r4.2.2.2.2.2.2 == 0)
 ((Ob (ok (y27 u4 u0 u6 u5 u36 u37 u38 u39)) ∧
 Br (r4.1 == (val (y27 u4 u0 u6 u5 u36 u37 u38 u39)).1 && (r4.2.1 == (val (y27 u4 u0 u6 u5 u36 u37 u38 u39)).2.1 && (r4.2.2.1 == (val (y27 u4 u0 u6 u5 u36 u37 u38 u39)).2.2.1 && (r4.2.2.2.1 == (val (y27 u4 u0 u6 u5 u36 u37 u38 u39)).2.2.2.1 && (r4.2.2.2.2.1 == (val (y27 u4 u0 u6 u5 u36 u37 u38 u39)).2.2.2.2.1 && r4.2.2.2.2.2.1 == (val (y27 u4 u0 u6 u5 u36 u37 u38 u39)).2.2.2.2.2)))))
 (
 Br ((val (y25 r3.1 r3.2.1 r3.2.2.1 r3.2.2.2 r2.1 r2.2.1 r2.2.2.1 r2.2.2.2)).2.2.2.2.2.2 == 0)
 ((Ob True ∧
 (Ob (((val (y25 r3.1 r3.2.1 r3.2.2.1 r3.2.2.2 r2.1 r2.2.1 r2.2.2.1 r2.2.2.2)).1 == r4.1 && ((val (y25 r3.1 r3.2.1 r3.2.2.1 r3.2.2.2 r2.1 r2.2.1 r2.2.2.1 r2.2.2.2)).2.1 == r4.2.1 && ((val (y25 r3.1 r3.2.1 r3.2.2.1 r3.2.2.2 r2.1 r2.2.1 r2.2.2.1 r2.2.2.2)).2.2.1 == r4.2.2.1 && ((val (y25 r3.1 r3.2.1 r3.2.2.1 r3.2.2.2 r2.1 r2.2.1 r2.2.2.1 r2.2.2.2)).2.2.2.1 == r4.2.2.2.1 && ((val (y25 r3.1 r3.2.1 r3.2.2.1 r3.2.2.2 r2.1 r2.2.1 r2.2.2.1 r2.2.2.2)).2.2.2.2.1 == r4.2.2.2.2.1 && (val (y25 r3.1 r3.2.1 r3.2.2.1 r3.2.2.2 r2.1 r2.2.1 r2.2.2.1 r2.2.2.2)).2.2.2.2.2.1 == r4.2.2.2.2.2.1))))) = r) ∧
 True)))
 ((Ob True ∧
 (Ob (false = r) ∧
 True))))
 ((Ob True ∧
 (Ob (false = r) ∧
 True)))))
 ((Ob True ∧
 (Ob (false = r) ∧
 True))))))))))))
theorem jhf (u4 : Int) (u0 : List Nat) (u6 : Int) (u5 : Int) (u36 : Int) (u37 : List Nat) (u38 : Int) (u39 : Int) (r : Bool) (h : Option.bind (jbB u4 u0 u6 u5 u36 u37 u38 u39) some = some r) : ja0 Tryz.f12 ((sp_15b (sp_16 (sp_22 (sp_20 (sp_58 (sp_59 sp0))))))) (fun _ _ _ => none) (jaO jdU [.d (.i .i64 u4), .r (.floats .f32 u0), .d (.i .i64 u6), .d (.i .i64 u5), .d (.i .i64 u36), .r (.floats .f32 u37), .d (.i .i64 u38), .d (.i .i64 u39)]) [.c (.d (.b r))] :=
 T.vc (t := jil u4 u0 u6 u5 u36 u37 u38 u39) (by kernel_rfl) (by kernel_rfl) h
theorem jhg : jag Tryz.prog 12 true (jal jdU g_L05_FigureCompares) := by
 refine jat (sp := (sp_15b (sp_16 (sp_22 (sp_20 (sp_58 (sp_59 sp0))))))) (fn := Tryz.f12) (body := jaj Tryz.f12) mixed (sp_15b_ok (sp_16_ok (sp_22_ok (sp_20_ok (sp_58_ok (sp_59_ok jak)))))) Tryz.func12 (by kernel_rfl) (by kernel_rfl) fun ls t h ho b hb => ?_
 unfold g_L05_FigureCompares at h
 split at h
 ·rename_i u4 u0 u6 u5 u36 u37 u38 u39
  cases h
  obtain rfl := jaB hb
  exact ⟨Nat.le_of_ble_eq_true (by kernel_rfl), _, _, jhf u4 u0 u6 u5 u36 u37 u38 u39 _ (jai ho)⟩
 ·cases h
end Go.Sh
end

section
namespace Go.Sh
open Go Go.Proofs Go.RowKit Go.Sx Go.Sx06 Ieee Go.Fl
open Go.IntKind (wrap)
def kn (e : Int × Int × Int) : Bool := e.2.2 == 0
def lo_ (e : Int × Int × Int) : Int := if kn e = true then e.1 else 0
def hi_ (e : Int × Int × Int) : Int := if kn e = true then e.2.1 else 0
section
variable {rate noise tail : Int} {l : List Nat}
def fgs (rate : Int) (l : List Nat) (noise tail : Int) (i : Nat) : Int × Int × Int := match i with
 | 0 => jbz rate (zsO noise l) tail 0
 | 1 => jbz rate (zsO noise l) tail 1
 | 2 => jbz rate (zsO noise l) tail 2
 | 3 => clS rate (zsO noise l) tail 80000
 | 4 => dwW rate l noise tail 50000
 | _ => ceW rate (zsO noise l) tail
def fgT (f : Nat → Int × Int × Int) : Bool × Bool × Bool × Bool × Bool × Bool × Int × Int × Int × Int × Int × Int × Int × Int × Int × Int × Int × Int :=
 (kn (f 0), kn (f 1), kn (f 2), kn (f 3), kn (f 4), kn (f 5), lo_ (f 0), hi_ (f 0), lo_ (f 1), hi_ (f 1), lo_ (f 2), hi_ (f 2), lo_ (f 3), hi_ (f 3), lo_ (f 4), hi_ (f 4), lo_ (f 5), hi_ (f 5))
def fgG (f : Nat → Int × Int × Int) (e : Int) : Bool × Bool × Bool × Bool × Bool × Bool × Int × Int × Int × Int × Int × Int × Int × Int × Int × Int × Int × Int × Int :=
 (kn (f 0), kn (f 1), kn (f 2), kn (f 3), kn (f 4), kn (f 5), lo_ (f 0), hi_ (f 0), lo_ (f 1), hi_ (f 1), lo_ (f 2), hi_ (f 2), lo_ (f 3), hi_ (f 3), lo_ (f 4), hi_ (f 4), lo_ (f 5), hi_ (f 5), e)
def bad0 : Nat → Int × Int × Int := fun _ => (0, 0, 1)
theorem tm8 : tmE 80000 = 0 := by decide
theorem tm5 : tmE 50000 = 0 := by decide
set_option maxHeartbeats 2000000 in
theorem jk2 (h : (jbp rate l noise tail).2 = 0) : y2 rate l noise tail = some (fgT (fgs rate l noise tail)) := by
 obtain ⟨hz, hr, hs, hl2, hn, ht, hp⟩ := jhb h
 unfold y2
 rw [jjQ (kind := 0) hs hl2 hn ht hr (by omega), jjQ (kind := 1) hs hl2 hn ht hr (by omega), jjQ (kind := 2) hs hl2 hn ht hr (by omega), jsj h tm8, jig h tm5, jtV h]
 unfold fgT
 show _ = some (kn (jbz rate (zsO noise l) tail 0), kn (jbz rate (zsO noise l) tail 1), kn (jbz rate (zsO noise l) tail 2), kn (clS rate (zsO noise l) tail 80000), kn (dwW rate l noise tail 50000), kn (ceW rate (zsO noise l) tail),
  lo_ (jbz rate (zsO noise l) tail 0), hi_ (jbz rate (zsO noise l) tail 0), lo_ (jbz rate (zsO noise l) tail 1), hi_ (jbz rate (zsO noise l) tail 1), lo_ (jbz rate (zsO noise l) tail 2), hi_ (jbz rate (zsO noise l) tail 2),
  lo_ (clS rate (zsO noise l) tail 80000), hi_ (clS rate (zsO noise l) tail 80000), lo_ (dwW rate l noise tail 50000), hi_ (dwW rate l noise tail 50000), lo_ (ceW rate (zsO noise l) tail), hi_ (ceW rate (zsO noise l) tail))
 simp only [jaa]
 generalize jbz rate (zsO noise l) tail 0 = e0
 generalize jbz rate (zsO noise l) tail 1 = e1
 generalize jbz rate (zsO noise l) tail 2 = e2
 generalize clS rate (zsO noise l) tail 80000 = e3
 generalize dwW rate l noise tail 50000 = e4
 generalize ceW rate (zsO noise l) tail = e5
 unfold lo_ hi_ kn
 cases h0 : (e0.2.2 == (0 : Int)) <;> simp only [if_true, if_false, Bool.false_eq_true] <;> cases h1 : (e1.2.2 == (0 : Int)) <;> simp only [if_true, if_false, Bool.false_eq_true] <;> cases h2 : (e2.2.2 == (0 : Int)) <;> simp only [if_true, if_false, Bool.false_eq_true] <;>
  cases h3 : (e3.2.2 == (0 : Int)) <;> simp only [if_true, if_false, Bool.false_eq_true] <;> cases h4 : (e4.2.2 == (0 : Int)) <;> simp only [if_true, if_false, Bool.false_eq_true] <;> cases h5 : (e5.2.2 == (0 : Int)) <;> simp only [if_true, if_false, Bool.false_eq_true]
set_option maxHeartbeats 2000000 in
theorem jcN (h : (jbp rate l noise tail).2 = 0) : y3 rate l noise tail = some (fgG (fgs rate l noise tail) 0) := by
 obtain ⟨hz, hr, hs, hl2, hn, ht, hp⟩ := jhb h
 have hl : l.length < 1000000000000 := by omega
 unfold y3 y14 y6 y21
 rw [juV rate noise tail hl, jpR h, if_neg Bool.false_ne_true, ju3 hl h]
 simp only [jaa]
 rw [je0 (kind := 0) hz hr (by omega), je0 (kind := 1) hz hr (by omega), je0 (kind := 2) hz hr (by omega), jyg hz hr (by omega), jyh hz hr (by omega), ju7 hz hr (by rw [jb8]; exact hp), jb8]
 have hd : dwS (sLo ((zsO noise l).take (jaE rate 50000 l.length))) (sHi ((zsO noise l).take (jaE rate 50000 l.length))) (sLo ((zsO noise l).drop (jaE rate 50000 l.length))) (sHi ((zsO noise l).drop (jaE rate 50000 l.length)) + tail) = dwW rate l noise tail 50000 := by
  unfold dwW
  rw [if_neg (show ¬ (jbp rate l noise tail).2 ≠ 0 from fun hh => hh h), if_neg (show ¬ tmE 50000 ≠ 0 from fun hh => hh tm5)]
 rw [hd]
 unfold fgG
 show _ = some (kn (jbz rate (zsO noise l) tail 0), kn (jbz rate (zsO noise l) tail 1), kn (jbz rate (zsO noise l) tail 2), kn (clS rate (zsO noise l) tail 80000), kn (dwW rate l noise tail 50000), kn (ceW rate (zsO noise l) tail),
  lo_ (jbz rate (zsO noise l) tail 0), hi_ (jbz rate (zsO noise l) tail 0), lo_ (jbz rate (zsO noise l) tail 1), hi_ (jbz rate (zsO noise l) tail 1), lo_ (jbz rate (zsO noise l) tail 2), hi_ (jbz rate (zsO noise l) tail 2),
  lo_ (clS rate (zsO noise l) tail 80000), hi_ (clS rate (zsO noise l) tail 80000), lo_ (dwW rate l noise tail 50000), hi_ (dwW rate l noise tail 50000), lo_ (ceW rate (zsO noise l) tail), hi_ (ceW rate (zsO noise l) tail), 0)
 simp only [jaa]
 generalize jbz rate (zsO noise l) tail 0 = e0
 generalize jbz rate (zsO noise l) tail 1 = e1
 generalize jbz rate (zsO noise l) tail 2 = e2
 generalize clS rate (zsO noise l) tail 80000 = e3
 generalize dwW rate l noise tail 50000 = e4
 generalize ceW rate (zsO noise l) tail = e5
 unfold lo_ hi_ kn
 cases h0 : (e0.2.2 == (0 : Int)) <;> simp only [if_true, if_false, Bool.false_eq_true] <;> cases h1 : (e1.2.2 == (0 : Int)) <;> simp only [if_true, if_false, Bool.false_eq_true] <;> cases h2 : (e2.2.2 == (0 : Int)) <;> simp only [if_true, if_false, Bool.false_eq_true] <;>
  cases h3 : (e3.2.2 == (0 : Int)) <;> simp only [if_true, if_false, Bool.false_eq_true] <;> cases h4 : (e4.2.2 == (0 : Int)) <;> simp only [if_true, if_false, Bool.false_eq_true] <;> cases h5 : (e5.2.2 == (0 : Int)) <;> simp only [if_true, if_false, Bool.false_eq_true]
theorem jdV (hl : l.length < 1000000000000) (h : (jbp rate l noise tail).2 ≠ 0) : y3 rate l noise tail = some (fgG bad0 (jbp rate l noise tail).2) := by
 unfold y3
 rw [juV rate noise tail hl, jdT h, if_pos rfl, jwH hl h, jaa]
 dsimp only
 rw [jdT h, if_pos rfl]
 rfl
end
theorem jw3 {i a b c d : Int} (h : 0 ≤ i ∧ i < 6) : jfl i a b c d = y93 i a b c d := by
 have h6 : i = 0 ∨ i = 1 ∨ i = 2 ∨ i = 3 ∨ i = 4 ∨ i = 5 := by omega
 rcases h6 with rfl | rfl | rfl | rfl | rfl | rfl <;> rfl
theorem jsM (p q : Int) : (if p > q then p else q) = if q > p then q else p := by split <;> split <;> omega
theorem jxS (p q : Int) : (if p < q then p else q) = if q < p then q else p := by split <;> split <;> omega
theorem jxT (u v : Int) : (if u > if v > 0 then v else 0 then u else if v > 0 then v else 0) = if v > if u > 0 then u else 0 then v else if u > 0 then u else 0 := by
 by_cases hu : u > 0 <;> by_cases hv : v > 0 <;> by_cases huv : u > v <;> by_cases hvu : v > u <;> simp only [hu, hv, huv, hvu, if_true, if_false] <;> omega
theorem jt0 (i a b c d : Int) : y93 i a b c d = y93 i c d a b := by
 unfold y93
 rw [jsM (wrap .i64 (d - a)), jxT (wrap .i64 (c - b)), jxS c a, jsM d b]
theorem jxU (f g : Nat → Int × Int × Int) (e e' : Int) : y67 (fgG f e) (fgG g e') = y20 (fgT f) (fgT g) := by
 funext x
 unfold y67 y20 fgG fgT
 dsimp only
 by_cases h6 : x.1 < 6
 ·by_cases h0 : 0 ≤ x.1
  ·simp only [jw3 (i := x.1) ⟨h0, h6⟩]
  ·simp only [h0, false_and, if_false]
 ·simp only [h6, if_false]
theorem jvc (f g : Nat → Int × Int × Int) : y20 (fgT f) (fgT g) = y20 (fgT g) (fgT f) := by
 funext x
 unfold y20 fgT
 dsimp only
 generalize List.getD [kn (f 0), kn (f 1), kn (f 2), kn (f 3), kn (f 4), kn (f 5), false, false, false, false, false, false, false, false, false, false, false, false] ((0 : Nat) + Int.toNat x.1 * (1 : Nat)) false = k1
 generalize List.getD [kn (g 0), kn (g 1), kn (g 2), kn (g 3), kn (g 4), kn (g 5), false, false, false, false, false, false, false, false, false, false, false, false] ((0 : Nat) + Int.toNat x.1 * (1 : Nat)) false = k2
 by_cases h6 : x.1 < 6
 ·by_cases h0 : (0 : Int) ≤ x.1 ∧ x.1 < (↑(6 : Nat) : Int)
  ·by_cases hk : List.getD [true, true, true, true, true, true, false, false, false, false, false, false, false, false, false, false, false, false] ((0 : Nat) + Int.toNat x.1 * (1 : Nat)) false = true
   ·simp only [h6, h0, hk, and_self, if_true]
    cases k1 <;> cases k2 <;> simp only [if_true, if_false, Bool.false_eq_true]
    rw [jt0]
   ·simp only [hk, if_false, Bool.false_eq_true]
  ·simp only [h0, if_false]
 ·simp only [h6, if_false]
theorem jdf {ra na ta rb nb tb e e' : Int} {la lb : List Nat} {f g : Nat → Int × Int × Int} (h1 : y3 ra la na ta = some (fgG f e)) (h2 : y3 rb lb nb tb = some (fgG g e')) :
  y25 ra la na ta rb lb nb tb = if ((if e ≠ 0 then e else e') != 0) = true then some (0, 0, 0, 0, 0, 0, if e ≠ 0 then e else e') else Option.bind (jae (y20 (fgT f) (fgT g)) big ((0 : Int), (0 : Int), (0 : Int), (0 : Int), (0 : Int), (0 : Int), (0 : Int))) y68 := by
 have hf := jls (l := [e, e']) (by simp)
 rw [jxh] at hf
 unfold y25
 rw [h1, jaa, h2, jaa, ← jxU f g e e']
 show (Option.bind (y30 [e, e']) fun r2 => if (r2 != (0 : Int)) = true then some (0, 0, 0, 0, 0, 0, r2) else Option.bind (jae (y67 (fgG f e) (fgG g e')) big ((0 : Int), (0 : Int), (0 : Int), (0 : Int), (0 : Int), (0 : Int), (0 : Int))) y68) = _
 rw [hf, jaa]
theorem jt1 (i a b c d : Int) : ∃ v, y93 i a b c d = some v := by
 unfold y93
 repeat' split
 all_goals exact ⟨_, rfl⟩
theorem jsN {S Y : Type} {body : Int × S → Option ((Int × S) ⊕ Y)} {k : Nat} (h : ∀ i : Nat, i < k → ∀ s, ∃ s', body ((i : Int), s) = some (.inl ((i : Int) + 1, s'))) (h2 : ∀ s, ∃ y, body ((k : Int), s) = some (.inr y)) :
  ∀ (m j : Nat) (s : S) (N : Nat), j + m = k → m < N → ∃ y, jae body N ((j : Int), s) = some y
 | 0, j, s, N, hj, hN => by
  obtain ⟨M, rfl⟩ : ∃ M, N = M + 1 := ⟨N - 1, by omega⟩
  obtain rfl : j = k := by omega
  obtain ⟨y, hy⟩ := h2 s
  exact ⟨y, by unfold jae; rw [hy]⟩
 | m + 1, j, s, N, hj, hN => by
  obtain ⟨M, rfl⟩ : ∃ M, N = M + 1 := ⟨N - 1, by omega⟩
  obtain ⟨s', hs⟩ := h j (by omega) s
  obtain ⟨y, hy⟩ := jsN h h2 m (j + 1) s' M (by omega) (by omega)
  refine ⟨y, ?_⟩
  unfold jae
  rw [hs]
  exact hy
theorem jvd (f g : Nat → Int × Int × Int) (i : Nat) (hi : i < 6) (s : Int × Int × Int × Int × Int × Int) : ∃ s', y20 (fgT f) (fgT g) ((i : Int), s) = some (.inl ((i : Int) + 1, s')) := by
 have h6 : i = 0 ∨ i = 1 ∨ i = 2 ∨ i = 3 ∨ i = 4 ∨ i = 5 := by omega
 unfold y20 fgT
 dsimp only
 generalize List.getD [kn (f 0), kn (f 1), kn (f 2), kn (f 3), kn (f 4), kn (f 5), false, false, false, false, false, false, false, false, false, false, false, false] ((0 : Nat) + Int.toNat (i : Int) * (1 : Nat)) false = k1
 generalize List.getD [kn (g 0), kn (g 1), kn (g 2), kn (g 3), kn (g 4), kn (g 5), false, false, false, false, false, false, false, false, false, false, false, false] ((0 : Nat) + Int.toNat (i : Int) * (1 : Nat)) false = k2
 generalize hq : y93 (i : Int) _ _ _ _ = q
 obtain ⟨v, hv⟩ : ∃ v, q = some v := by rw [← hq]; exact jt1 _ _ _ _ _
 subst hv
 clear hq
 rcases h6 with rfl | rfl | rfl | rfl | rfl | rfl <;> cases k1 <;> cases k2 <;> exact ⟨_, rfl⟩
theorem jxV (f g : Nat → Int × Int × Int) : ∃ y, jae (y20 (fgT f) (fgT g)) big ((0 : Int), (0 : Int), (0 : Int), (0 : Int), (0 : Int), (0 : Int), (0 : Int)) = some y :=
 jsN (body := y20 (fgT f) (fgT g)) (k := 6) (fun i hi s => jvd f g i hi s) (fun s => ⟨_, rfl⟩) 6 0 _ big rfl (by decide)
theorem jiF (ra : Int) {la : List Nat} (na ta rb : Int) {lb : List Nat} (nb tb : Int) : jbB ra la na ta rb lb nb tb = some true := by
 unfold jbB
 rw [ju4, jaa, ju4, jaa]
 by_cases hfa : jjR la = false
 ·rw [hfa]; rfl
 have hfa : jjR la = true := by simpa using hfa
 have hla : la.length < 1000000000000 := jsK hfa
 rw [hfa, if_neg (by decide)]
 by_cases hfb : jjR lb = false
 ·rw [hfb]; rfl
 have hfb : jjR lb = true := by simpa using hfb
 have hlb : lb.length < 1000000000000 := jsK hfb
 rw [hfb, if_neg (by decide)]
 simp only [jry ra na ta hla, jry rb nb tb hlb, jaa, joO ra na ta hla, joO rb nb tb hlb]
 by_cases ha : (jbp ra la na ta).2 = 0
 ·by_cases hb : (jbp rb lb nb tb).2 = 0
  ·have hab := jdf (jcN ha) (jcN hb)
   have hba := jdf (jcN hb) (jcN ha)
   rw [if_neg (show ¬ ((if (0 : Int) ≠ 0 then (0 : Int) else 0) != 0) = true by decide)] at hab hba
   rw [jvc] at hba
   have hr : y27 ra la na ta rb lb nb tb = Option.bind (jae (y20 (fgT (fgs ra la na ta)) (fgT (fgs rb lb nb tb))) big ((0 : Int), (0 : Int), (0 : Int), (0 : Int), (0 : Int), (0 : Int), (0 : Int))) y62 := by
    unfold y27
    rw [jk2 ha, jaa, jk2 hb, jaa]
   rw [hab, hba, hr]
   obtain ⟨y, hy⟩ := jxV (fgs ra la na ta) (fgs rb lb nb tb)
   rw [hy]
   unfold y68 y62
   simp only [ha, hb, jaa, beq_self_eq_true, if_true, bne_self_eq_false, Bool.false_eq_true, if_false, Bool.and_self]
  ·have hab := jdf (jcN ha) (jdV hlb hb)
   rw [if_neg (show ¬ (0 : Int) ≠ 0 by decide), jdT hb, if_pos rfl] at hab
   rw [hab]
   simp only [ha, jaa, beq_self_eq_true, if_true, jdT hb, Bool.and_self]
 ·have hab : y25 ra la na ta rb lb nb tb = some (0, 0, 0, 0, 0, 0, (jbp ra la na ta).2) := by
   by_cases hb : (jbp rb lb nb tb).2 = 0
   ·rw [jdf (jdV hla ha) (jcN hb), if_pos (show (jbp ra la na ta).2 ≠ 0 from ha), jdT ha, if_pos rfl]
   ·rw [jdf (jdV hla ha) (jdV hlb hb), if_pos (show (jbp ra la na ta).2 ≠ 0 from ha), jdT ha, if_pos rfl]
  rw [hab]
  simp only [jaa, beq_f ha, jdT ha, beq_self_eq_true, if_true, Bool.false_eq_true, if_false, Bool.and_self]
end Go.Sh
end

section
namespace Go.Sx
open Go.RowKit Go.ChangeShapes Go.WideShapes
inductive K where
 | i (k : IntKind) | b | f (k : FloatKind) | s
def K.fits : K → D → Prop
 | .i k, .i k' n => k' = k ∧ (Lit.int k n).wf = true
 | .b, .b _ => True
 | .f k, .f k' n => k' = k ∧ (Lit.float k n).wf = true
 | .s, .s x => x.size ≤ maxLen
 | _, _ => False
def jbu : List K → List D → Prop
 | [], [] => True
 | k :: ks, d :: ds => k.fits d ∧ jbu ks ds
 | _, _ => False
theorem jen : ∀ {ks : List K} {ds : List D} {ks' : List K} {ds' : List D}, jbu ks ds → jbu ks' ds' → jbu (ks ++ ks') (ds ++ ds')
 | [], [], _, _, _, h => h
 | _ :: _, _ :: _, _, _, h, h' => ⟨h.1, jen h.2 h'⟩
 | [], _ :: _, _, _, h, _ => h.elim
 | _ :: _, [], _, _, h, _ => h.elim
theorem jeo : ∀ {ks : List K} {ds : List D}, jbu ks ds → ds.length = ks.length
 | [], [], _ => rfl
 | _ :: _, _ :: _, h => by simp [jeo h.2]
 | [], _ :: _, h => h.elim
 | _ :: _, [], h => h.elim
def jfm (g : TypeId → Option (List K)) (P : Program) : Nat → List Field → Option (List K)
 | _, [] => some []
 | n, f :: fs => match g f.type with
  | none => none
  | some ks => if f.offset = n ∧ P.cellsOf f.type = ks.length then (jfm g P (n + ks.length) fs).map (ks ++ ·) else none
def kinds (P : Program) : Nat → TypeId → Option (List K)
 | 0, _ => none
 | d + 1, t => match P.underlying t with
  | some .bool => some [.b]
  | some (.int k) => some [.i k]
  | some (.float k) => some [.f k]
  | some .string => some [.s]
  | some (.struct fs) => match jfm (kinds P d) P 0 fs.toList with
   | some ks => if P.cellsOf t = ks.length then some ks else none
   | none => none
  | some (.array n e) => match kinds P d e with
   | some ks => if P.cellsOf t = n * ks.length ∧ P.cellsOf e = ks.length then some (List.replicate n ks).flatten else none
   | none => none
  | _ => none
section
variable {H : Type} {enc : TypeId × Value → H} {P : Program} {w : World} {base : Nat} {spare : Nat → Bool} {held : Bool}
theorem jk3 {ks : List K} {e : TypeId} {m : Nat} (ih : ∀ cs x, DataW.trod enc P w base spare held m e cs = some x → ∃ ds : List D, cs = ds.map D.val ∧ jbu ks ds) :
  ∀ (n : Nat) (cs : List Value), cs.length = n * ks.length → (∀ i, i < n → ∃ x, DataW.trod enc P w base spare held m e ((cs.drop (i * ks.length)).take ks.length) = some x) → ∃ ds : List D, cs = ds.map D.val ∧ jbu (List.replicate n ks).flatten ds
 | 0, cs, hl, _ => ⟨[], by simpa using hl, trivial⟩
 | n + 1, cs, hl, h => by
  obtain ⟨x, hx⟩ := h 0 (by omega)
  obtain ⟨ds0, h0, h1⟩ := ih _ x hx
  obtain ⟨ds1, h2, h3⟩ := jk3 ih n (cs.drop ks.length) (by rw [List.length_drop, hl, Nat.add_mul]; omega) (fun i hi => by
   obtain ⟨y, hy⟩ := h (i + 1) (by omega)
   refine ⟨y, ?_⟩
   rw [List.drop_drop]
   rw [show ks.length + i * ks.length = (i + 1) * ks.length by rw [Nat.add_mul]; omega]
   exact hy)
  refine ⟨ds0 ++ ds1, ?_, jen h1 h3⟩
  rw [List.map_append, ← h0, ← h2]
  simp
theorem jj1 {g : TypeId → Option (List K)} {m : Nat} (ih : ∀ t ks cs x, g t = some ks → DataW.trod enc P w base spare held m t cs = some x → ∃ ds : List D, cs = ds.map D.val ∧ jbu ks ds) :
  ∀ (fs : List Field) (n : Nat) (ks : List K) (cs : List Value), jfm g P n fs = some ks → cs.length = n + ks.length → (∀ f ∈ fs, ∃ x, DataW.trod enc P w base spare held m f.type ((cs.drop f.offset).take (P.cellsOf f.type)) = some x) →
   ∃ ds : List D, cs.drop n = ds.map D.val ∧ jbu ks ds
 | [], n, ks, cs, hk, hl, _ => by
  simp only [jfm, Option.some.injEq] at hk
  subst hk
  refine ⟨[], ?_, trivial⟩
  simp at hl
  simp [hl]
 | f :: fs, n, ks, cs, hk, hl, h => by
  simp only [jfm] at hk
  split at hk
  ·cases hk
  ·rename_i kf hg
   split at hk
   ·rename_i hc
    cases hr : jfm g P (n + kf.length) fs with
    | none => simp [hr] at hk
    | some kr =>
     simp only [hr, Option.map_some, Option.some.injEq] at hk
     subst hk
     obtain ⟨x, hx⟩ := h f List.mem_cons_self
     rw [hc.1, hc.2] at hx
     obtain ⟨ds0, h0, h1⟩ := ih f.type kf _ x hg hx
     obtain ⟨ds1, h2, h3⟩ := jj1 ih fs (n + kf.length) kr cs hr (by rw [hl, List.length_append]; omega) (fun f' hf' => h f' (List.mem_cons_of_mem _ hf'))
     refine ⟨ds0 ++ ds1, ?_, jen h1 h3⟩
     rw [List.map_append, ← h0, ← h2, ← List.drop_drop]
     exact (List.take_append_drop _ _).symm
   ·cases hk
theorem jfg : ∀ (d : Nat) (t : TypeId) (ks : List K) (fuel : Nat) (cs : List Value) (x : DataW H × List MemPlace), kinds P d t = some ks → DataW.trod enc P w base spare held fuel t cs = some x →
  ∃ ds : List D, cs = ds.map D.val ∧ jbu ks ds
 | 0, _, _, _, _, _, h, _ => by cases h
 | d + 1, t, ks, fuel, cs, x, hk, hx => by
  unfold kinds at hk
  split at hk
  ·rename_i ht
   cases hk
   obtain ⟨b, rfl, _⟩ := DataW.trod_bool ht hx
   exact ⟨[.b b], rfl, trivial, trivial⟩
  ·rename_i k ht
   cases hk
   obtain ⟨n, rfl, _, hw⟩ := DataW.trod_int ht hx
   exact ⟨[.i k n], rfl, ⟨rfl, hw⟩, trivial⟩
  ·rename_i k ht
   cases hk
   cases fuel with
   | zero => simp [DataW.trod] at hx
   | succ n =>
    rcases cs with _ | ⟨v, _ | ⟨v', r⟩⟩
    ·simp [DataW.trod, ht] at hx
    ·cases v with
     | float k2 n2 =>
      simp only [DataW.trod, ht] at hx
      split at hx
      ·rename_i hh
       exact ⟨[.f k2 n2], rfl, ⟨hh.1, hh.2⟩, trivial⟩
      ·cases hx
     | _ => simp [DataW.trod, ht] at hx
    ·simp [DataW.trod, ht] at hx
  ·rename_i ht
   cases hk
   obtain ⟨z, rfl, _, hw⟩ := DataW.trod_string ht hx
   exact ⟨[.s z], rfl, hw, trivial⟩
  ·rename_i fs ht
   split at hk
   ·rename_i ks' hks
    split at hk
    ·rename_i hc
     cases hk
     obtain ⟨xs, n, rfl, _, hl, hxl, hf⟩ := DataW.trod_struct ht hx
     have := jj1 (enc := enc) (w := w) (base := base) (spare := spare) (held := held) (g := kinds P d) (m := n) (fun t ks cs x h1 h2 => jfg d t ks n cs x h1 h2) fs.toList 0 ks cs hks (by rw [hl, hc]; omega) (fun f hfm => by
      obtain ⟨i, hi, hfi⟩ := List.mem_iff_getElem.1 hfm
      have hi' : i < fs.size := by simpa using hi
      have h1 := hf i f (by rw [Array.getElem?_eq_getElem hi']; simpa using hfi)
      exact ⟨xs[i]'(by omega), by rw [h1, List.getElem?_eq_getElem]⟩)
     simpa using this
    ·cases hk
   ·cases hk
  ·rename_i n e ht
   split at hk
   ·rename_i ks' hks
    split at hk
    ·rename_i hc
     cases hk
     obtain ⟨xs, m, rfl, _, hl, hxl, hf⟩ := DataW.trod_array ht hx
     exact jk3 (fun cs x h => jfg d e ks' m cs x hks h) n cs (by rw [hl, hc.1]) (fun i hi => by
      have h1 := hf i hi
      rw [hc.2] at h1
      exact ⟨xs[i]'(by omega), by rw [h1, List.getElem?_eq_getElem]⟩)
    ·cases hk
   ·cases hk
  ·cases hk
theorem jve {t e : TypeId} {ks : List K} {d fuel : Nat} {cs : List Value} {x : DataW H × List MemPlace} (ht : P.underlying t = some (.slice e)) (hk : kinds P d e = some ks) (hc : P.cellsOf e = ks.length) (h0 : 0 < ks.length)
  (hx : DataW.trod enc P w base spare held fuel t cs = some x) :
  ∃ (v : Value) (rows : List (List D)), cs = [v] ∧ (∀ r ∈ rows, jbu ks r) ∧ jbc w v (.lits ks.length rows) ∧ (x.1 = .nil ∧ rows = [] ∨ ∃ el sp, x.1 = .slice el sp ∧ el.length = rows.length) := by
 rcases DataW.trod_slice ht hx with ⟨rfl, rfl⟩ | ⟨a, len, cap, elems, rest, n, rfl, rfl, rfl, hb, hl, hm, hel, hi, _, _⟩
 ·exact ⟨_, [], rfl, (fun _ h => by cases h), ⟨none, 0, rfl, ⟨by simp [Cont.n], fun _ => rfl⟩, fun h => absurd h (by simp [Cont.n])⟩, .inl ⟨rfl, rfl⟩⟩
 ·-- each element's cells
  have hget : ∀ i, i < len → ∃ ds : List D, jbu ks ds ∧ ∀ j, j < ks.length → w.cell? ((a.add (i * ks.length)).add j) = (ds[j]?).map D.val := fun i hil => by
   have h1 := hi i hil
   rw [hc] at h1
   have h2 : elems[i]? = some (elems[i]'(by omega)) := List.getElem?_eq_getElem (by omega)
   rw [h2] at h1
   obtain ⟨cs', hcs, htr⟩ := Option.bind_eq_some_iff.1 h1
   obtain ⟨ds, hds, hfit⟩ := jfg d e ks n cs' _ hk htr
   obtain ⟨_, hcl, hat⟩ := World.cells?_some hcs
   refine ⟨ds, hfit, fun j hj => ?_⟩
   rw [hat j hj, hds, List.getElem?_map]
  let R : Nat → List D := fun i => if h : i < len then Classical.choose (hget i h) else []
  have hR : ∀ i (h : i < len), jbu ks (R i) ∧ ∀ j, j < ks.length → w.cell? ((a.add (i * ks.length)).add j) = ((R i)[j]?).map D.val := fun i h => by
   show jbu ks (if h : i < len then _ else _) ∧ _
   simp only [R, dif_pos h]
   exact Classical.choose_spec (hget i h)
  refine ⟨_, (List.range len).map R, rfl, fun r hr => ?_, ?_, .inr ⟨_, _, rfl, by simp [hel]⟩⟩
  ·obtain ⟨i, hi', rfl⟩ := List.mem_map.1 hr
   exact (hR i (by simpa using hi')).1
  ·refine ⟨some a, cap, by simp [Cont.n], ⟨by simpa [Cont.n] using hl, fun h => by cases h⟩, fun hn => ?_⟩
   have hn : 0 < len := by simpa [Cont.n] using hn
   have hsp : a.spot = none := by
    have h1 := (hR 0 hn).2 0 h0
    have hfl := jeo (hR 0 hn).1
    rw [List.getElem?_eq_getElem (by omega)] at h1
    simp [Addr.add] at h1
    cases hs : a.spot with
    | none => rfl
    | some s =>
     exfalso
     unfold World.cell? at h1
     simp only [hs] at h1
     split at h1
     ·simp at h1
     ·cases h1
   obtain ⟨b, off, sp⟩ := a
   simp only at hsp
   subst hsp
   refine ⟨b, off, rfl, fun j y hj => ?_⟩
   have hne : 0 < ks.length := h0
   have hjl : j < (Cont.lits ks.length ((List.range len).map R)).flat.length := (List.getElem?_eq_some_iff.1 hj).1
   rw [Cont.flat_length] at hjl
   simp only [Cont.n, Cont.e, List.length_map, List.length_range] at hjl
   have hq : j / ks.length < len := Nat.div_lt_of_lt_mul (by rw [Nat.mul_comm]; exact hjl)
   have hr : j % ks.length < ks.length := Nat.mod_lt _ hne
   have hg := Cont.flat_get (.lits ks.length ((List.range len).map R)) (i := j / ks.length) (j := j % ks.length) (by simpa [Cont.n] using hq) hr
   have ej : j / ks.length * ks.length + j % ks.length = j := by rw [Nat.mul_comm]; exact Nat.div_add_mod j _
   simp only [Cont.e] at hg
   rw [ej, hj] at hg
   have hcell := (hR (j / ks.length) hq).2 (j % ks.length) hr
   have hfl := jeo (hR (j / ks.length) hq).1
   rw [jbo, jbo, Nat.add_assoc, ej, List.getElem?_eq_getElem (by omega)] at hcell
   rw [hcell]
   simp only [Option.some.injEq] at hg
   simp [hg, Cont.cell, List.getD, hq, List.getElem?_eq_getElem (show j % ks.length < (R (j / ks.length)).length by omega)]
theorem jw4 {v : Value} {c c' : Cont} (h : jbc w v c) (hn : c'.n = c.n) (hf : c'.flat = c.flat) : jbc w v c' := by
 obtain ⟨a, cap, hv, hc, hcell⟩ := h
 exact ⟨a, cap, by rw [hn]; exact hv, by rw [hn]; exact hc, fun h => by
  obtain ⟨b, off, e, hx⟩ := hcell (by rw [← hn]; exact h)
  exact ⟨b, off, e, by rw [hf]; exact hx⟩⟩
end
section
variable [Globs] {P : Program} {w : World}
end
section
variable {H : Type} {enc : TypeId × Value → H} {P : Program}
theorem jrG {sp : Nat → Bool} (hl : laidOutB P = true) {W W' : World} (hb : Below W.heap.size W W') : ∀ (ts : List TypeId) (vs : List Value) (ds : List (DataW H)) (ps : List MemPlace), (∀ t ∈ ts, P.readableRec t = true ∧ t < P.types.size) →
  DataW.TrodAll enc P W 0 (fun _ => true) true ts vs ds ps → (∀ p ∈ ps, p.block < W.heap.size) → (∀ p ∈ ps, sp p.block = true) → DataW.TrodAll enc P W' 0 sp true ts vs ds ps
 | [], [], [], _, _, h, _, _ => h
 | t :: ts, v :: vs, d :: ds, ps, ht, h, hlt, hs => by
  obtain ⟨p, q, h1, h2, rfl⟩ := h
  have htt := ht t List.mem_cons_self
  exact ⟨p, q, WideElems.Trod_stays hl htt.1 htt.2 h1 (fun x hx => hb.same (hlt x (List.mem_append_left _ hx))) (fun x hx => hs x (List.mem_append_left _ hx)),
   jrG hl hb ts vs ds q (fun t ht' => ht t (List.mem_cons_of_mem _ ht')) h2 (fun x hx => hlt x (List.mem_append_right _ hx)) (fun x hx => hs x (List.mem_append_right _ hx)), rfl⟩
 | [], _ :: _, _, _, _, h, _, _ => h.elim
 | _ :: _, [], _, _, _, h, _, _ => h.elim
 | [], [], _ :: _, _, _, h, _, _ => h.elim
 | _ :: _, _ :: _, [], _, _, h, _, _ => h.elim
theorem jw5 {f : Func} {s : ChangeSpec} {apart fresh handsOn again : Bool} {W W' : World} {args : Array Value} {ds gs : List (DataW H)} {before : List MemPlace} {tb : TypeId} (hvars : s.vars = []) (hrt : f.resultTypes = #[tb]) (htb : P.underlying tb = some .bool)
  (hres : (s.fn H (ds ++ gs)).results = [.lit (.bool true)]) (hargs : (s.fn H (ds ++ gs)).args = ds) (hsv : (s.fn H (ds ++ gs)).vars = []) (hl : laidOutB P = true) (hread : ∀ t ∈ f.params.toList, P.readableRec t = true ∧ t < P.types.size)
  (hW : DataW.Whole enc P f.params.toList s.vars apart W args.toList ds gs before) (hb : Below W.heap.size W W') : s.post enc P f apart fresh handsOn again W args (.bool true) W' := by
 have hlt : ∀ p ∈ before, p.block < W.heap.size := fun p hp => hW.lt p hp
 have hW' := hW
 obtain ⟨p, q, h1, h2, rfl, hfz, hnd⟩ := hW'
 rw [hvars] at h2
 have hq : q = [] := by
  cases gs with
  | nil => exact h2
  | cons _ _ => exact h2.elim
 subst hq
 rw [List.append_nil] at hlt hfz hnd
 have hA : ∀ sp : Nat → Bool, (∀ x ∈ p, sp x.block = true) → DataW.TrodAll enc P W' 0 sp true f.params.toList args.toList ds p := fun sp hs => jrG hl hb _ _ _ _ hread h1 hlt hs
 have hR : ∀ (b : Nat) (sp : Nat → Bool) (hd : Bool), DataW.TrodAll enc P W' b sp hd [tb] [.bool true] [.lit (.bool true)] [] := fun b sp hd => ⟨[], [], ⟨1, by simp [DataW.trod, htb, Value.cells]⟩, rfl, rfl⟩
 have hrl : (Value.bool true).resultList f.resultTypes.size = [.bool true] := by rw [hrt]; rfl
 have hrt' : f.resultTypes.toList = [tb] := by rw [hrt]
 refine ⟨ds, gs, p ++ [], [], p, [], hW, ?_, ?_, ?_, World.keptBut_mono (fun x hx => ⟨hx, .inr (.inl (by simpa using hx))⟩) (hb.frame (·∈ p ++ [])), fun _ => ⟨fun j t r hj hr => ?_, ?_⟩⟩
 ·rw [hrl, hrt', hres]; exact hR _ _ _
 ·rw [hargs]; exact hA _ (fun x hx => by simpa using hlt x hx)
 ·rw [hvars, hsv]; rfl
 ·rw [hrt] at hj
  rw [hrl] at hr
  cases j with
  | zero =>
   simp at hj hr
   subst hj; subst hr
   exact okWide_bool_mk htb _
  | succ j => simp at hj
 ·refine ⟨[.lit (.bool true)] ++ ds, [], p, ⟨p, [], ?_, by rw [hvars]; rfl, by simp, ?_, ?_⟩, fun x hx _ => by simpa using hx⟩
  ·rw [hrl, hrt']
   exact ⟨[], p, ⟨1, by simp [DataW.trod, htb, Value.cells]⟩, hA _ (fun _ _ => rfl), rfl⟩
  ·intro b off hp
   rw [hb.frozen (hlt _ hp)]
   exact hfz b off hp
  ·exact hnd
end
section
variable {H : Type} {enc : TypeId × Value → H} {P : Program} {w : World} {base : Nat} {spare : Nat → Bool} {held : Bool} {r : Reach} {b0 : Nat}
end
end Go.Sx
end

section
namespace Go.Sx
open Go.RowKit Go.ChangeShapes Go.WideShapes
inductive K2 where
 | d (k : K)
 | s (ks : List K)
inductive T1 where
 | d (x : D)
 | r (c : Cont)
inductive Cell2 (w : World) : K2 → Value → T1 → Prop where
 | d (k : K) (x : D) (h : k.fits x) : Cell2 w (.d k) x.val (.d x)
 | s (ks : List K) (v : Value) (rows : List (List D)) (h0 : 0 < ks.length) (h : ∀ r ∈ rows, jbu ks r) (hr : jbc w v (.lits ks.length rows)) : Cell2 w (.s ks) v (.r (.lits ks.length rows))
inductive Cells2 (w : World) : List K2 → List Value → List T1 → Prop where
 | nil : Cells2 w [] [] []
 | cons {k : K2} {v : Value} {t : T1} {ks : List K2} {vs : List Value} {ts : List T1} (h : Cell2 w k v t) (r : Cells2 w ks vs ts) : Cells2 w (k :: ks) (v :: vs) (t :: ts)
theorem Cells2.append {w : World} {ks ks' : List K2} {vs vs' : List Value} {ts ts' : List T1} (h : Cells2 w ks vs ts) (h' : Cells2 w ks' vs' ts') : Cells2 w (ks ++ ks') (vs ++ vs') (ts ++ ts') := by
 induction h with
 | nil => exact h'
 | cons h r ih => exact .cons h ih
def jep (g : TypeId → Option (List K2)) (P : Program) : Nat → List Field → Option (List K2)
 | _, [] => some []
 | n, f :: fs => match g f.type with
  | none => none
  | some ks => if f.offset = n ∧ P.cellsOf f.type = ks.length then (jep g P (n + ks.length) fs).map (ks ++ ·) else none
def jj2 (P : Program) : Nat → TypeId → Option (List K2)
 | 0, _ => none
 | d + 1, t => match kinds P d t with
  | some ks => some (ks.map .d)
  | none => match P.underlying t with
   | some (.slice e) => match kinds P d e with
    | some (k :: ks) => if P.cellsOf e = ks.length + 1 then some [.s (k :: ks)] else none
    | _ => none
   | some (.struct fs) => match jep (jj2 P d) P 0 fs.toList with
    | some ks => if P.cellsOf t = ks.length then some ks else none
    | none => none
   | _ => none
section
variable {H : Type} {enc : TypeId × Value → H} {P : Program} {w : World} {base : Nat} {spare : Nat → Bool} {held : Bool}
theorem jw6 {ks : List K} {ds : List D} (h : jbu ks ds) : Cells2 w (ks.map .d) (ds.map D.val) (ds.map .d) := by
 induction ks generalizing ds with
 | nil => cases ds with
  | nil => exact .nil
  | cons _ _ => exact h.elim
 | cons k ks ih => cases ds with
  | nil => exact h.elim
  | cons d ds => exact .cons (.d k d h.1) (ih h.2)
theorem jix {g : TypeId → Option (List K2)} {m : Nat} (ih : ∀ t ks cs x, g t = some ks → DataW.trod enc P w base spare held m t cs = some x → ∃ ts, Cells2 w ks cs ts) :
  ∀ (fs : List Field) (n : Nat) (ks : List K2) (cs : List Value), jep g P n fs = some ks → cs.length = n + ks.length → (∀ f ∈ fs, ∃ x, DataW.trod enc P w base spare held m f.type ((cs.drop f.offset).take (P.cellsOf f.type)) = some x) →
   ∃ ts, Cells2 w ks (cs.drop n) ts
 | [], n, ks, cs, hk, hl, _ => by
  simp only [jep, Option.some.injEq] at hk
  subst hk
  refine ⟨[], ?_⟩
  simp at hl
  rw [List.drop_eq_nil_of_le (by omega)]
  exact .nil
 | f :: fs, n, ks, cs, hk, hl, h => by
  simp only [jep] at hk
  split at hk
  ·cases hk
  ·rename_i kf hg
   split at hk
   ·rename_i hc
    cases hr : jep g P (n + kf.length) fs with
    | none => simp [hr] at hk
    | some kr =>
     simp only [hr, Option.map_some, Option.some.injEq] at hk
     subst hk
     obtain ⟨x, hx⟩ := h f List.mem_cons_self
     rw [hc.1, hc.2] at hx
     obtain ⟨ts0, h0⟩ := ih f.type kf _ x hg hx
     obtain ⟨ts1, h1⟩ := jix ih fs (n + kf.length) kr cs hr (by rw [hl, List.length_append]; omega) (fun f' hf' => h f' (List.mem_cons_of_mem _ hf'))
     refine ⟨ts0 ++ ts1, ?_⟩
     have e : cs.drop n = (cs.drop n).take kf.length ++ cs.drop (n + kf.length) := by rw [← List.drop_drop]; exact (List.take_append_drop _ _).symm
     rw [e]
     exact h0.append h1
   ·cases hk
theorem jk4 : ∀ (d : Nat) (t : TypeId) (ks : List K2) (fuel : Nat) (cs : List Value) (x : DataW H × List MemPlace), jj2 P d t = some ks → DataW.trod enc P w base spare held fuel t cs = some x → ∃ ts, Cells2 w ks cs ts
 | 0, _, _, _, _, _, h, _ => by cases h
 | d + 1, t, ks, fuel, cs, x, hk, hx => by
  unfold jj2 at hk
  split at hk
  ·rename_i ks' hks
   cases hk
   obtain ⟨ds, rfl, h2⟩ := jfg d t ks' fuel cs x hks hx
   exact ⟨_, jw6 h2⟩
  ·split at hk
   ·rename_i e ht
    split at hk
    ·rename_i k ks' hks
     split at hk
     ·rename_i hc
      cases hk
      obtain ⟨v, rows, rfl, h2, h3, _⟩ := jve ht hks (by simpa using hc) (by simp) hx
      exact ⟨_, .cons (.s _ v rows (by simp) h2 h3) .nil⟩
     ·cases hk
    ·cases hk
   ·rename_i fs ht
    split at hk
    ·rename_i ks' hks
     split at hk
     ·rename_i hc
      cases hk
      obtain ⟨xs, n, rfl, _, hl, hxl, hf⟩ := DataW.trod_struct ht hx
      have := jix (enc := enc) (w := w) (base := base) (spare := spare) (held := held) (g := jj2 P d) (m := n) (fun t ks cs x h1 h2 => jk4 d t ks n cs x h1 h2) fs.toList 0 ks cs hks (by rw [hl, hc]; omega) (fun f hfm => by
       obtain ⟨i, hi, hfi⟩ := List.mem_iff_getElem.1 hfm
       have hi' : i < fs.size := by simpa using hi
       have h1 := hf i f (by rw [Array.getElem?_eq_getElem hi']; simpa using hfi)
       exact ⟨xs[i]'(by omega), by rw [h1, List.getElem?_eq_getElem]⟩)
      simpa using this
     ·cases hk
    ·cases hk
   ·cases hk
end
inductive T1Is (w : World) : Value → T1 → Prop where
 | d (x : D) : T1Is w x.val (.d x)
 | r (v : Value) (c : Cont) (he : 0 < c.e) (h : jbc w v c) : T1Is w v (.r c)
theorem jeq {w : World} {v : Value} {t : T1} (h : Cell2 w (.d (.i .i64)) v t) : ∃ n : Int, T1Is w v (.d (.i .i64 n)) ∧ inI n := by
 cases h with
 | d k x h =>
  cases x with
  | i k n =>
   obtain ⟨rfl, hw⟩ := h
   exact ⟨n, .d _, by unfold inI; simpa [Lit.wf, IntKind.min, IntKind.max, IntKind.signed, IntKind.bits] using hw⟩
  | _ => exact h.elim
theorem jxW {k : FloatKind} {r : List D} (h : jbu [.f k] r) : ∃ n : Nat, r = [.f k n] ∧ (Lit.float k n).wf = true := by
 match r, h with
 | [.f k' n], h => obtain ⟨⟨rfl, hw⟩, _⟩ := h; exact ⟨n, rfl, hw⟩
theorem jo7 {w : World} {k : FloatKind} {v : Value} {t : T1} (h : Cell2 w (.s [.f k]) v t) : ∃ l : List Nat, T1Is w v (.r (.floats k l)) ∧ ∀ x ∈ l, (Lit.float k x).wf = true := by
 cases h with
 | s ks v rows h0 h2 h3 =>
  have key : ∀ rows : List (List D), (∀ r ∈ rows, jbu [.f k] r) → ∃ l : List Nat, rows = l.map (fun n => [D.f k n]) ∧ ∀ x ∈ l, (Lit.float k x).wf = true := fun rows => by
   induction rows with
   | nil => exact fun _ => ⟨[], rfl, fun _ h => by cases h⟩
   | cons r rows ih =>
    intro h
    obtain ⟨l, e1, e2⟩ := ih fun r hr => h r (List.mem_cons_of_mem _ hr)
    obtain ⟨n, e3, e4⟩ := jxW (h r List.mem_cons_self)
    refine ⟨n :: l, by rw [e1, e3]; rfl, fun x hx => ?_⟩
    rcases List.mem_cons.1 hx with rfl | hx
    ·exact e4
    ·exact e2 x hx
  obtain ⟨l, rfl, e2⟩ := key rows h2
  refine ⟨l, .r v _ (Nat.succ_pos 0) (jw4 h3 (by simp [Cont.n]) ?_), e2⟩
  simp only [Cont.flat]
  clear h3 e2 h2
  induction l with
  | nil => rfl
  | cons n l ih =>
   rw [List.map_cons, List.flatMap_cons, List.flatMap_cons, ih]
   rfl
theorem jnh {H : Type} {enc : TypeId × Value → H} {P : Program} {w : World} {base : Nat} {spare : Nat → Bool} {held : Bool} {r : Reach} {b0 : Nat} {t : TypeId} {d : Nat} {ks : List K2} {v : Value} {x : DataW H} {p : List MemPlace} (ht : jbP P t = some true) (hk : jj2 P d t = some ks)
  (hval : Value.okWide P w r b0 t v) (h : DataW.Trod enc P w base spare held t v x p) : ∃ vs ts, v = .agg (List.toArray vs) ∧ Cells2 w ks vs ts := by
 obtain ⟨fuel, hx⟩ := h
 obtain ⟨ts, h1⟩ := jk4 d t ks fuel _ _ hk hx
 have hv : ∃ cs, v = .agg cs := by
  unfold Value.okWide at hval
  cases hU : P.underlying t with
  | none => simp [jbP, hU] at ht
  | some u =>
   rw [hU] at hval
   cases u with
   | struct fs => obtain ⟨cs, h, _⟩ := hval; exact ⟨cs, h⟩
   | array n e => obtain ⟨cs, h, _⟩ := hval; exact ⟨cs, h⟩
   | _ => simp [jbP, hU] at ht
 obtain ⟨cs, rfl⟩ := hv
 exact ⟨cs.toList, ts, by simp, h1⟩
section
variable [Globs]
inductive T2 where
 | c (t : T1)
 | a (l : List T1)
inductive T1sAre (w : World) : List Value → List T1 → Prop where
 | nil : T1sAre w [] []
 | cons {v : Value} {t : T1} {vs : List Value} {ts : List T1} (h : T1Is w v t) (r : T1sAre w vs ts) : T1sAre w (v :: vs) (t :: ts)
inductive T2Is (w : World) : Value → T2 → Prop where
 | c {v : Value} {t : T1} (h : T1Is w v t) : T2Is w v (.c t)
 | a {vs : List Value} {ts : List T1} (h : T1sAre w vs ts) : T2Is w (.agg vs.toArray) (.a ts)
inductive T2sAre (w : World) : List Value → List T2 → Prop where
 | nil : T2sAre w [] []
 | cons {v : Value} {t : T2} {vs : List Value} {ts : List T2} (h : T2Is w v t) (r : T2sAre w vs ts) : T2sAre w (v :: vs) (t :: ts)
structure TB where
 cs : List C
 hp : Hp
 n : Nat
def T1.bld (n : Nat) : T1 → TB
 | .d x => ⟨[.d x], [], n⟩
 | .r c => ⟨[.o n], [(n, .ext c)], n + 1⟩
def jni : Nat → List T1 → TB
 | n, [] => ⟨[], [], n⟩
 | n, t :: l => let a := t.bld n; let b := jni a.n l; ⟨a.cs ++ b.cs, b.hp ++ a.hp, b.n⟩
structure TV where
 vs : List V
 hp : Hp
 n : Nat
def T2.bld (n : Nat) : T2 → TV
 | .c t => let a := t.bld n; ⟨[.w (.c (jge a.cs))], a.hp, a.n⟩
 | .a l => let a := jni n l; ⟨[.w (.a a.cs)], a.hp, a.n⟩
def jcr : Nat → List T2 → TV
 | n, [] => ⟨[], [], n⟩
 | n, t :: l => let a := t.bld n; let b := jcr a.n l; ⟨a.vs ++ b.vs, b.hp ++ a.hp, b.n⟩
structure TOK (w : World) (n : Nat) (ρ ρ' : Env) (vals : List Value) (cs : List C) (hp : Hp) (n' : Nat) : Prop where
 agree : jap n ρ ρ'
 le : n ≤ n'
 val : cs.map (C.val ρ') = vals
 lt : ∀ c ∈ cs, C.lt n' c
 heap : ∀ k o, find hp k = some o → n ≤ k ∧ k < n' ∧ ∃ c, o = .ext c ∧ jbc w (ρ' k) c ∧ 0 < c.e
theorem T1.bld_ok {w : World} {v : Value} {t : T1} (h : T1Is w v t) (n : Nat) (ρ : Env) : ∃ ρ', TOK w n ρ ρ' [v] (t.bld n).cs (t.bld n).hp (t.bld n).n := by
 cases h with
 | d x => exact ⟨ρ, jap.refl _ _, Nat.le_refl _, rfl, (fun c hc => by simp only [T1.bld, List.mem_singleton] at hc; subst hc; trivial), fun _ _ h => by cases h⟩
 | r v c he h =>
  refine ⟨upd ρ n v, jaC _ _ _, Nat.le_succ _, by simp [T1.bld, C.val], (fun c hc => by simp only [T1.bld, List.mem_singleton] at hc; subst hc; exact Nat.lt_succ_self n), fun k o hf => ?_⟩
  simp only [T1.bld, find] at hf
  split at hf
  ·rename_i e
   subst e
   cases hf
   exact ⟨Nat.le_refl _, Nat.lt_succ_self _, c, rfl, by rw [upd_same]; exact h, he⟩
  ·cases hf
theorem TOK.append {w : World} {n n1 n2 : Nat} {ρ ρ1 ρ2 : Env} {a b : List Value} {ca cb : List C} {ha hb : Hp} (h1 : TOK w n ρ ρ1 a ca ha n1) (h2 : TOK w n1 ρ1 ρ2 b cb hb n2) : TOK w n ρ ρ2 (a ++ b) (ca ++ cb) (hb ++ ha) n2 := by
 refine ⟨h1.agree.trans h2.agree h1.le, Nat.le_trans h1.le h2.le, ?_, ?_, ?_⟩
 ·rw [List.map_append, h2.val, ← h1.val]
  congr 1
  exact List.map_congr_left fun c hc => C.val_agree h2.agree (h1.lt c hc)
 ·intro c hc
  rcases List.mem_append.1 hc with hc | hc
  ·exact C.lt_mono h2.le (h1.lt c hc)
  ·exact h2.lt c hc
 ·intro k o hf
  rw [jaI] at hf
  cases hg : find hb k with
  | some o2 =>
   rw [hg] at hf
   cases hf
   obtain ⟨q1, q2, q3⟩ := h2.heap k o hg
   exact ⟨Nat.le_trans h1.le q1, q2, q3⟩
  | none =>
   rw [hg] at hf
   obtain ⟨q1, q2, c, q3, q4, q5⟩ := h1.heap k o hf
   exact ⟨q1, Nat.lt_of_lt_of_le q2 h2.le, c, q3, by rw [h2.agree k q2]; exact q4, q5⟩
theorem jw7 {w : World} {vs : List Value} {ts : List T1} (h : T1sAre w vs ts) : ∀ (n : Nat) (ρ : Env), ∃ ρ', TOK w n ρ ρ' vs (jni n ts).cs (jni n ts).hp (jni n ts).n := by
 induction h with
 | nil => exact fun n ρ => ⟨ρ, jap.refl _ _, Nat.le_refl _, rfl, (fun _ h => by cases h), fun _ _ h => by cases h⟩
 | cons h r ih =>
  intro n ρ
  obtain ⟨ρ1, k1⟩ := T1.bld_ok h n ρ
  obtain ⟨ρ2, k2⟩ := ih _ ρ1
  exact ⟨ρ2, k1.append k2⟩
structure TVOK (w : World) (n : Nat) (ρ ρ' : Env) (vals : List Value) (vs : List V) (hp : Hp) (n' : Nat) : Prop where
 agree : jap n ρ ρ'
 le : n ≤ n'
 val : vs.map (V.val ρ') = vals
 lt : ∀ c ∈ vs, V.lt n' c
 heap : ∀ k o, find hp k = some o → n ≤ k ∧ k < n' ∧ ∃ c, o = .ext c ∧ jbc w (ρ' k) c ∧ 0 < c.e
theorem T2.bld_ok {w : World} {v : Value} {t : T2} (h : T2Is w v t) (n : Nat) (ρ : Env) : ∃ ρ', TVOK w n ρ ρ' [v] (t.bld n).vs (t.bld n).hp (t.bld n).n := by
 cases h with
 | @c v t h =>
  obtain ⟨ρ', k⟩ := T1.bld_ok h n ρ
  have hone : ∃ c, (t.bld n).cs = [c] := by cases t <;> exact ⟨_, rfl⟩
  obtain ⟨c, hc⟩ := hone
  have hval := k.val
  have hlt := k.lt
  rw [hc] at hval hlt
  refine ⟨ρ', k.agree, k.le, ?_, ?_, k.heap⟩
  ·simp only [T2.bld, hc, jge, List.map_cons, List.map_nil, V.val, W.val]
   simpa using hval
  ·intro y hy
   simp only [T2.bld, hc, jge, List.mem_singleton] at hy
   subst hy
   exact hlt c List.mem_cons_self
 | @a vs ts h =>
  obtain ⟨ρ', k⟩ := jw7 h n ρ
  refine ⟨ρ', k.agree, k.le, ?_, ?_, k.heap⟩
  ·simp only [T2.bld, List.map_cons, List.map_nil, V.val, W.val, k.val]
  ·intro y hy
   simp only [T2.bld, List.mem_singleton] at hy
   subst hy
   exact k.lt
theorem jw8 {w : World} {vs : List Value} {ts : List T2} (h : T2sAre w vs ts) : ∀ (n : Nat) (ρ : Env), ∃ ρ', TVOK w n ρ ρ' vs (jcr n ts).vs (jcr n ts).hp (jcr n ts).n := by
 induction h with
 | nil => exact fun n ρ => ⟨ρ, jap.refl _ _, Nat.le_refl _, rfl, (fun _ h => by cases h), fun _ _ h => by cases h⟩
 | @cons v t vs ts h r ih =>
  intro n ρ
  obtain ⟨ρ1, k1⟩ := T2.bld_ok h n ρ
  obtain ⟨ρ2, k2⟩ := ih (t.bld n).n ρ1
  refine ⟨ρ2, k1.agree.trans k2.agree k1.le, Nat.le_trans k1.le k2.le, ?_, ?_, ?_⟩
  ·simp only [jcr, List.map_append, k2.val]
   have : (t.bld n).vs.map (V.val ρ2) = [v] := by
    rw [← k1.val]
    exact List.map_congr_left fun c hc => V.val_agree k2.agree (k1.lt c hc)
   rw [this]
   rfl
  ·intro c hc
   rcases List.mem_append.1 hc with hc | hc
   ·exact V.lt_mono k2.le (k1.lt c hc)
   ·exact k2.lt c hc
  ·intro k o hf
   have hf : find ((jcr (t.bld n).n ts).hp ++ (t.bld n).hp) k = some o := hf
   rw [jaI] at hf
   cases hg : find (jcr (t.bld n).n ts).hp k with
   | some o2 =>
    rw [hg] at hf
    cases hf
    obtain ⟨q1, q2, q3⟩ := k2.heap k o hg
    exact ⟨Nat.le_trans k1.le q1, q2, q3⟩
   | none =>
    rw [hg] at hf
    obtain ⟨q1, q2, c, q3, q4, q5⟩ := k1.heap k o hf
    exact ⟨q1, Nat.lt_of_lt_of_le q2 k2.le, c, q3, by rw [k2.agree k q2]; exact q4, q5⟩
theorem jt2 {P : Program} {w : World} {f : Nat} {shs : List SV} {g : List Lf → Option GT} {vs : List Value} {ts : List T2} {ls : List Lf} {am : List C} {ob : Prop} {b : Bool} {fn : Func} (hok : jag P f true (jal shs g)) (hargs : T2sAre w vs ts)
  (hto : ji2 (jcr 0 ts).hp shs (jcr 0 ts).vs = some (ls, am)) (hg : g ls = some (.leaf ob [.c (.d (.b b))])) (ho : ob) (hb : b = true)
  (hfn : P.funcs[f]? = some fn) (hbody : fn.body = some (fn.body.getD .skip)) (hn : (fn.name == "runtime.NumGoroutine") = false) (hgl : jb3 (fun k => k < w.heap.size) w) :
  Calls P f vs.toArray w fun e w' => e = .returned (.bool true) ∧ Below w.heap.size w w' := by
 subst hb
 obtain ⟨ρ, k⟩ := jw8 hargs 0 (fun _ => undef)
 have hh : HRel ρ (fun k => k < w.heap.size) (jcr 0 ts).hp (jcr 0 ts).n w := by
  refine ⟨fun x o hf => ?_, fun x o x' o' q hf hf' _ hb => ?_, hgl⟩
  ·obtain ⟨_, q2, c, rfl, q4, q5⟩ := k.heap x o hf
   exact ⟨q2, trivial, q4, jbc.lt q4 q5⟩
  ·obtain ⟨_, _, c, rfl, _, _⟩ := k.heap x o hf
   cases hb
 have := (hok.sound hfn hbody hn).sound ρ (fun k => k < w.heap.size) w (jcr 0 ts).vs (jcr 0 ts).hp (jcr 0 ts).n ((GT.leaf ob [.c (.d (.b true))]).toRT am (jcr 0 ts).hp (jcr 0 ts).n) (by
  unfold jal
  rw [hto]
  dsimp only
  rw [hg]) ho k.lt hh (fun k hk => hk)
 rw [k.val] at this
 refine this.mono ?_
 rintro e w' ⟨ρ', rfl, hl⟩
 exact ⟨rfl, hl.mono rfl⟩
end
end Go.Sx
end

section
namespace Go.Sx
open Go.RowKit Go.ChangeShapes Go.WideShapes
section
variable {P : Program} {w : World}
theorem jdr : ∀ {l : List (String × DataW Unit)} {ps : List MemPlace} {n : String} {d : DataW Unit}, DataW.LaidVars P w l ps → (n, d) ∈ l →
  ∃ g t cs fuel p, P.globalNamed n = some g ∧ (P.globals[g]?).map (·.type) = some t ∧ w.var? P n = some cs ∧ DataW.trod (fun _ => ()) P w 0 (fun _ => true) false fuel t cs.toList = some (d, p)
 | (n', d') :: r, ps, n, d, h, hm => by
  obtain ⟨g, t, cs, fuel, p, q, h1, h2, h3, h4, h5, _⟩ := h
  rcases List.mem_cons.1 hm with e | hm
  ·cases e
   exact ⟨g, t, cs, fuel, p, h1, h2, h3, h4⟩
  ·exact jdr h5 hm
variable {enc : TypeId × Value → Unit} {base : Nat} {spare : Nat → Bool} {held : Bool} {fuel : Nat}
theorem jrH {α : Type} {l : List α} {i : Nat} (h : i < l.length) : (l.drop i).take 1 = [l[i]] := by
 rw [List.drop_eq_getElem_cons h]
 rfl
theorem jeK {t e n : Nat} {k : IntKind} {l : List Int} {cs : List Value} {p : List MemPlace} (hu : P.underlying t = some (.array n e)) (he : P.underlying e = some (.int k)) (hc : P.cellsOf e = 1) (hct : P.cellsOf t = n) (hl : l.length = n)
  (h : DataW.trod enc P w base spare held fuel t cs = some (.agg (l.map fun x => .lit (.int k x)), p)) : cs = (Cont.ints k l).flat.map D.val := by
 obtain ⟨xs, m, _, hx, hlen, hn, hel⟩ := DataW.trod_array hu h
 have hx1 : l.map (fun x => DataW.lit (H := Unit) (.int k x)) = xs.map (·.1) := by
  have := congrArg Prod.fst hx
  simpa using this
 have hf : (Cont.ints k l).flat.map D.val = l.map fun x => Value.int k x := by
  simp only [Cont.flat, List.map_flatMap, List.map_cons, List.map_nil, D.val]
  rw [← List.flatMap_singleton' (l.map fun x => Value.int k x), List.flatMap_map]
 rw [hf]
 apply List.ext_getElem
 ·rw [hlen, hct, List.length_map, hl]
 ·intro i h1 h2
  have hi : i < n := by rw [hlen, hct] at h1; exact h1
  have h3 := hel i hi
  rw [hc, Nat.mul_one, jrH h1] at h3
  have hxi : i < xs.length := by omega
  rw [List.getElem?_eq_getElem hxi] at h3
  obtain ⟨a, ha, hb, _⟩ := DataW.trod_int he h3
  have h4 : (l.map (fun x => DataW.lit (H := Unit) (.int k x)))[i]? = (xs.map (·.1))[i]? := by rw [hx1]
  rw [List.getElem?_map, List.getElem?_map, List.getElem?_eq_getElem hxi, List.getElem?_eq_getElem (show i < l.length by omega), hb] at h4
  simp only [Option.map_some, Option.some.injEq] at h4
  have e1 : l[i] = a := by cases h4; rfl
  have e2 : cs[i] = .int k a := by simpa using ha
  rw [e2, List.getElem_map, e1]
theorem jt3 {t e n a b c : Nat} {fs : Array Field} {l : List (List Int)} {cs : List Value} {p : List MemPlace} (hu : P.underlying t = some (.array n e)) (he : P.underlying e = some (.struct fs))
  (hfs : fs.toList.map (fun f => (f.type, f.offset)) = [(a, 0), (b, 1), (c, 2)]) (ha : P.underlying a = some (.int .i64)) (hb : P.underlying b = some (.int .i64)) (hc : P.underlying c = some (.int .i64)) (hca : P.cellsOf a = 1) (hcb : P.cellsOf b = 1) (hcc : P.cellsOf c = 1)
  (hce : P.cellsOf e = 3) (hct : P.cellsOf t = 3 * n) (hl : l.length = n)
  (h : DataW.trod enc P w base spare held fuel t cs = some (.agg (l.map fun x => .agg [.lit (.int .i64 (x.getD 0 0)), .lit (.int .i64 (x.getD 1 0)), .lit (.int .i64 (x.getD 2 0))]), p)) : cs = (Cont.recs 3 l).flat.map D.val := by
 obtain ⟨xs, m, _, hx, hlen, hn, hel⟩ := DataW.trod_array hu h
 have hx1 : l.map (fun x => DataW.agg (H := Unit) [.lit (.int .i64 (x.getD 0 0)), .lit (.int .i64 (x.getD 1 0)), .lit (.int .i64 (x.getD 2 0))]) = xs.map (·.1) := by
  have := congrArg Prod.fst hx
  simpa using this
 have hrow : ∀ i, i < n → (cs.drop (i * 3)).take 3 = [Value.int .i64 ((l.getD i []).getD 0 0), .int .i64 ((l.getD i []).getD 1 0), .int .i64 ((l.getD i []).getD 2 0)] := by
  intro i hi
  have h3 := hel i hi
  rw [hce] at h3
  have hxi : i < xs.length := by omega
  have hli : i < l.length := by omega
  rw [List.getElem?_eq_getElem hxi] at h3
  have h4 : (l.map (fun x => DataW.agg (H := Unit) [.lit (.int .i64 (x.getD 0 0)), .lit (.int .i64 (x.getD 1 0)), .lit (.int .i64 (x.getD 2 0))]))[i]? = (xs.map (·.1))[i]? := by rw [hx1]
  rw [List.getElem?_map, List.getElem?_map, List.getElem?_eq_getElem hxi, List.getElem?_eq_getElem hli] at h4
  simp only [Option.map_some, Option.some.injEq] at h4
  have hgl : l.getD i [] = l[i] := by simp [List.getD, hli]
  rw [hgl]
  obtain ⟨ys, m2, _, hy, hyl, hyn, hye⟩ := DataW.trod_struct he h3
  rw [hce] at hyl
  have hy1 : xs[i].1 = .agg (ys.map (·.1)) := by rw [hy]
  rw [hy1] at h4
  have h5 : [DataW.lit (H := Unit) (.int .i64 (l[i].getD 0 0)), .lit (.int .i64 (l[i].getD 1 0)), .lit (.int .i64 (l[i].getD 2 0))] = ys.map (·.1) := by
   rw [DataW.agg.injEq] at h4
   exact h4
  have hfl : fs.size = 3 := by
   have := congrArg List.length hfs
   simpa using this
  have field : ∀ (j : Nat) (tj : Nat), j < 3 → (fs.toList.map (fun f => (f.type, f.offset)))[j]? = some (tj, j) → P.underlying tj = some (.int .i64) → P.cellsOf tj = 1 → ∃ v, ((cs.drop (i * 3)).take 3)[j]? = some (Value.int .i64 v) ∧ (ys.map (·.1))[j]? = some (.lit (.int .i64 v)) := by
   intro j tj hj hf htj hcj
   rw [List.getElem?_map] at hf
   cases hfj : fs.toList[j]? with
   | none => rw [hfj] at hf; cases hf
   | some f =>
    rw [hfj] at hf
    simp only [Option.map_some, Option.some.injEq, Prod.mk.injEq] at hf
    obtain ⟨e1, e2⟩ := hf
    have h6 := hye j f (by simpa using hfj)
    rw [e1, e2, hcj, jrH (by rw [hyl]; exact hj)] at h6
    have hyj : j < ys.length := by omega
    rw [List.getElem?_eq_getElem hyj] at h6
    obtain ⟨v, hv1, hv2, _⟩ := DataW.trod_int htj h6
    refine ⟨v, ?_, ?_⟩
    ·rw [List.getElem?_eq_getElem (by rw [hyl]; exact hj)]
     simpa using hv1
    ·rw [List.getElem?_map, List.getElem?_eq_getElem hyj, hv2]
     rfl
  obtain ⟨v0, a0, b0⟩ := field 0 a (by omega) (by rw [hfs]; rfl) ha hca
  obtain ⟨v1, a1, b1⟩ := field 1 b (by omega) (by rw [hfs]; rfl) hb hcb
  obtain ⟨v2, a2, b2⟩ := field 2 c (by omega) (by rw [hfs]; rfl) hc hcc
  rw [← h5] at b0 b1 b2
  have e0 : l[i].getD 0 0 = v0 := by simpa using b0
  have e1 : l[i].getD 1 0 = v1 := by simpa using b1
  have e2 : l[i].getD 2 0 = v2 := by simpa using b2
  rw [e0, e1, e2]
  generalize (cs.drop (i * 3)).take 3 = L at *
  match L, hyl with
  | [x, y, z], _ =>
   simp only [List.getElem?_cons_zero, List.getElem?_cons_succ, Option.some.injEq] at a0 a1 a2
   rw [a0, a1, a2]
 apply List.ext_getElem?
 intro j
 have hfl := (Cont.recs 3 l).flat_length
 have hn3 : (Cont.recs 3 l).n * (Cont.recs 3 l).e = n * 3 := by simp [Cont.n, Cont.e, hl]
 by_cases hj : j < n * 3
 ·have hi : j / 3 < n := by omega
  have h7 := hrow (j / 3) hi
  have h8 := (Cont.recs 3 l).flat_get (i := j / 3) (j := j % 3) (by simpa [Cont.n, hl] using hi) (by simp only [Cont.e]; omega)
  have e9 : j / 3 * (Cont.recs 3 l).e + j % 3 = j := by simp only [Cont.e]; omega
  rw [e9] at h8
  rw [List.getElem?_map, h8]
  have h10 : cs[j]? = ((cs.drop (j / 3 * 3)).take 3)[j % 3]? := by
   rw [List.getElem?_take, if_pos (by omega), List.getElem?_drop]
   congr 1
   omega
  rw [h10, h7]
  have hm : j % 3 = 0 ∨ j % 3 = 1 ∨ j % 3 = 2 := by omega
  rcases hm with h | h | h <;> rw [h] <;> rfl
 ·rw [List.getElem?_eq_none (by rw [hlen, hct]; omega), List.getElem?_eq_none (by rw [List.length_map, hfl, hn3]; omega)]
theorem jhh {n : String} {g : Nat} {cs : Array Value} {c : Cont} (hg : P.globalNamed n = some g) (hv : w.var? P n = some cs) (hc : cs.toList = c.flat.map D.val) :
  g < w.heap.size ∧ (∀ j x, c.flat[j]? = some x → w.cell? ⟨g, j, none⟩ = some x.val) ∧ ∃ cs t f, w.heap[g]? = some (.cells cs t f) ∧ cs.size = c.flat.length := by
 have hcell := World.var?_cell hg hv
 have hsz : cs.size = c.flat.length := by
  have := congrArg List.length hc
  simpa using this
 simp only [World.var?, hg, Option.bind_some] at hv
 split at hv
 ·rename_i cs' t f hh
  cases hv
  refine ⟨(Array.getElem?_eq_some_iff.1 hh).1, fun j x hj => ?_, cs, t, f, hh, hsz⟩
  rw [hcell j]
  have : cs.toList[j]? = some x.val := by rw [hc, List.getElem?_map, hj]; rfl
  simpa using this
 ·cases hv
end
end Go.Sx
end

section
namespace Go.Proofs.YtcklfboglnfepaaGreatDoor
open Go Go.Proofs Go.RowKit Go.Sx
set_option maxRecDepth 100000
theorem jw9 {W : World} {laid : List (String × DataW Unit)} (hp : (laid.all fun x => x.2.handleName?.isNone) = true)
  (hm : ∀ x ∈ [("internal/strconv.uint64pow10", Rows.laid_internal_strconv_uint64pow10 (H := Unit)), ("shoebox/figure.powers", Rows.laid_shoebox_figure_powers), ("shoebox/figure.slopes", Rows.laid_shoebox_figure_slopes), ("shoebox/figure.tenths", Rows.laid_shoebox_figure_tenths), ("shoebox/figure.decayKinds", Rows.laid_shoebox_figure_decayKinds), ("shoebox/figure.audible", Rows.laid_shoebox_figure_audible)], x ∈ laid)
  (h : laidMetH Tryz.prog laid W) : jb3 (fun k => k < W.heap.size) W := by
 rw [MakeChecks.laidMetH_plain _ _ _ hp] at h
 obtain ⟨ps, hl, _, _⟩ := h
 have t0 : (Tryz.prog.globals[0]?).map (·.type) = some 141 := by kernel_rfl
 have t1 : (Tryz.prog.globals[1]?).map (·.type) = some 159 := by kernel_rfl
 have t3 : (Tryz.prog.globals[3]?).map (·.type) = some 169 := by kernel_rfl
 have t4 : (Tryz.prog.globals[4]?).map (·.type) = some 87 := by kernel_rfl
 have t7 : (Tryz.prog.globals[7]?).map (·.type) = some 198 := by kernel_rfl
 have t11 : (Tryz.prog.globals[11]?).map (·.type) = some 227 := by kernel_rfl
 refine ⟨fun g c hg => ?_, jt5 (fun g => rfl) _ _⟩
 have hg : tabZ g = some c := hg
 unfold tabZ at hg
 split at hg
 ·cases hg
  obtain ⟨g, t, cs, fuel, p, h1, h2, h3, h4⟩ := jdr hl (hm ("shoebox/figure.decayKinds", Rows.laid_shoebox_figure_decayKinds) (by simp))
  obtain rfl := Option.some.inj ((show Tryz.prog.globalNamed "shoebox/figure.decayKinds" = some 0 by kernel_rfl).symm.trans h1)
  obtain rfl := Option.some.inj (t0.symm.trans h2)
  have hc := jeK (n := 3) (e := 3) (k := .i64) (l := jur) (by kernel_rfl) (by kernel_rfl) (by kernel_rfl) (by kernel_rfl) rfl h4
  exact jhh h1 h3 hc
 ·cases hg
  obtain ⟨g, t, cs, fuel, p, h1, h2, h3, h4⟩ := jdr hl (hm ("shoebox/figure.slopes", Rows.laid_shoebox_figure_slopes) (by simp))
  obtain rfl := Option.some.inj ((show Tryz.prog.globalNamed "shoebox/figure.slopes" = some 1 by kernel_rfl).symm.trans h1)
  obtain rfl := Option.some.inj (t1.symm.trans h2)
  have hu : ∃ fs, Tryz.prog.underlying 158 = some (.struct fs) ∧ fs.toList.map (fun f => (f.type, f.offset)) = [(3, 0), (3, 1), (3, 2)] := by
   have u := Tryz.underlying158
   exact ⟨_, u, by kernel_rfl⟩
  obtain ⟨fs, u2, u3⟩ := hu
  have hc := jt3 (n := 3) (l := jaY) (e := 158) (by kernel_rfl) u2 u3 (by kernel_rfl) (by kernel_rfl) (by kernel_rfl) (by kernel_rfl) (by kernel_rfl) (by kernel_rfl) (by kernel_rfl) (by kernel_rfl) rfl h4
  exact jhh h1 h3 hc
 ·cases hg
  obtain ⟨g, t, cs, fuel, p, h1, h2, h3, h4⟩ := jdr hl (hm ("shoebox/figure.powers", Rows.laid_shoebox_figure_powers) (by simp))
  obtain rfl := Option.some.inj ((show Tryz.prog.globalNamed "shoebox/figure.powers" = some 3 by kernel_rfl).symm.trans h1)
  obtain rfl := Option.some.inj (t3.symm.trans h2)
  have hc := jeK (n := 13) (l := jay) (e := 134) (k := .u64) (by kernel_rfl) (by kernel_rfl) (by kernel_rfl) (by kernel_rfl) rfl h4
  exact jhh h1 h3 hc
 ·cases hg
  obtain ⟨g, t, cs, fuel, p, h1, h2, h3, h4⟩ := jdr hl (hm ("shoebox/figure.audible", Rows.laid_shoebox_figure_audible) (by simp))
  obtain rfl := Option.some.inj ((show Tryz.prog.globalNamed "shoebox/figure.audible" = some 4 by kernel_rfl).symm.trans h1)
  obtain rfl := Option.some.inj (t4.symm.trans h2)
  have hc := jeK (n := 6) (e := 3) (k := .i64) (l := jcl) (by kernel_rfl) (by kernel_rfl) (by kernel_rfl) (by kernel_rfl) rfl h4
  exact jhh h1 h3 hc
 ·cases hg
  obtain ⟨g, t, cs, fuel, p, h1, h2, h3, h4⟩ := jdr hl (hm ("shoebox/figure.tenths", Rows.laid_shoebox_figure_tenths) (by simp))
  obtain rfl := Option.some.inj ((show Tryz.prog.globalNamed "shoebox/figure.tenths" = some 7 by kernel_rfl).symm.trans h1)
  obtain rfl := Option.some.inj (t7.symm.trans h2)
  have hc := jeK (n := 10) (l := ja3) (e := 134) (k := .u64) (by kernel_rfl) (by kernel_rfl) (by kernel_rfl) (by kernel_rfl) rfl h4
  exact jhh h1 h3 hc
 ·cases hg
  obtain ⟨g, t, cs, fuel, p, h1, h2, h3, h4⟩ := jdr hl (hm ("internal/strconv.uint64pow10", Rows.laid_internal_strconv_uint64pow10) (by simp))
  obtain rfl := Option.some.inj ((show Tryz.prog.globalNamed "internal/strconv.uint64pow10" = some 11 by kernel_rfl).symm.trans h1)
  obtain rfl := Option.some.inj (t11.symm.trans h2)
  have hc := jeK (n := 20) (l := jus) (e := 134) (k := .u64) (by kernel_rfl) (by kernel_rfl) (by kernel_rfl) (by kernel_rfl) rfl h4
  exact jhh h1 h3 hc
 ·cases hg
end Go.Proofs.YtcklfboglnfepaaGreatDoor
end
