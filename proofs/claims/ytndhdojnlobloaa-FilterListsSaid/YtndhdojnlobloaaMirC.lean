/- Mirrors of functions, and their contracts: made by a program of mine. -/
import Derived.Test.YtndhdojnlobloaaMirB
set_option linter.unusedSectionVars false
set_option linter.unusedSimpArgs false
set_option linter.unusedVariables false
namespace Go.Sh
open Go Go.Proofs Go.RowKit Go.Sx
set_option linter.unusedVariables false
def k_L06_FilterLists : List (Option Cont) := [some (.recs 5 []), some (.ints .i64 []), none]
/-- shoebox/shoeboxlaw06.FilterLists -/
def L06_FilterLists (c : List (List Int)) (l : List Int) (x_0 : Int) (x_1 : Int) : Option Bool :=
  Option.bind (L06_few c) fun r0 =>
  if (!r0) = true then
   some true
  else
   if (↑(List.length l) : Int) > (100 : Int) then
   if (↑(List.length l) : Int) ≤ (1024 : Int) then
   some true
   else
   if (↑(List.length l) : Int) > (1026 : Int) then
   some true
   else
   if x_1 > (100 : Int) then
   if x_1 ≤ (1024 : Int) then
   some true
   else
   Option.bind (R06_Copy c) fun r1 =>
   Option.bind (L06_raw l) fun r2 =>
   Option.bind (F_RunAll r1 r2) fun r3 =>
   Option.bind (R06_Copy c) fun r4 =>
   if List.length r1 ≤ (1000000000 : Nat) then
   Option.bind (R06_CheckCascade c) fun r5 =>
   if (r5.2 != (0 : Int)) = true then
   if (r3.2.2 == r5.2) = true then
   if (Sx06.impE r1 x_0 x_1 == r5.2) = true then
   if (IntKind.wrap IntKind.i64 ((↑(List.length r3.1) : Int) + (↑(List.length (Sx06.impL r1 x_0 x_1)) : Int)) == (0 : Int)) = true then
   some (r3.2.1 == (0 : Int))
   else
   some false
   else
   some false
   else
   some false
   else
   if (↑(List.length l) : Int) > (1024 : Int) then
   if (r3.2.2 != (8 : Int)) = true then
   some false
   else
   if ((↑(List.length r3.1) : Int) != (0 : Int)) = true then
   some false
   else
   if (r3.2.1 != (0 : Int)) = true then
   some false
   else
   if (!(decide ((-32767 : Int) ≤ x_0) && decide (x_0 ≤ (32767 : Int)))) = true then
   if (Sx06.impE r1 x_0 x_1 == (2 : Int)) = true then
   some ((↑(List.length (Sx06.impL r1 x_0 x_1)) : Int) == (0 : Int))
   else
   some false
   else
   if (!(decide ((0 : Int) ≤ x_1) && decide (x_1 ≤ (1024 : Int)))) = true then
   if (Sx06.impE r1 x_0 x_1 == (2 : Int)) = true then
   some ((↑(List.length (Sx06.impL r1 x_0 x_1)) : Int) == (0 : Int))
   else
   some false
   else
   if (0 : Int) ≤ x_1 ∧ x_1 = x_1 ∧ (↑(8 : Nat) : Int) * x_1 ≤ (281474976710656 : Int) ∧ x_1 ≤ (9223372036854775807 : Int) then
   if x_1 > (0 : Int) then
   if (0 : Int) ≤ (0 : Int) ∧ (0 : Int) < (↑(List.length (List.replicate (Int.toNat x_1) (0 : Int))) : Int) then
   if (0 : Nat) < List.length (List.replicate (Int.toNat x_1) (0 : Int)) then
   Option.bind (R06_NewState c) fun r6 =>
   Option.bind (R06_Through c (List.set (List.replicate (Int.toNat x_1) (0 : Int)) (0 : Nat) x_0) r6) fun r7 =>
   if (Sx06.impE r1 x_0 x_1 == (0 : Int)) = true then
   if List.length (Sx06.impL r1 x_0 x_1) ≤ (1000000000 : Nat) then
   some (decide (Sx06.impL r1 x_0 x_1 = r7.1))
   else none
   else
   some false
   else none
   else none
   else
   Option.bind (R06_NewState c) fun r8 =>
   Option.bind (R06_Through c (List.replicate (Int.toNat x_1) (0 : Int)) r8) fun r9 =>
   if (Sx06.impE r1 x_0 x_1 == (0 : Int)) = true then
   if List.length (Sx06.impL r1 x_0 x_1) ≤ (1000000000 : Nat) then
   some (decide (Sx06.impL r1 x_0 x_1 = r9.1))
   else none
   else
   some false
   else none
   else
   Option.bind (L06_raw l) fun r10 =>
   Option.bind (R06_SamplesErr r2) fun r11 =>
   if (r11 != (0 : Int)) = true then
   if (r3.2.2 != r11) = true then
   some false
   else
   if ((↑(List.length r3.1) : Int) != (0 : Int)) = true then
   some false
   else
   if (r3.2.1 != (0 : Int)) = true then
   some false
   else
   if (r11 == (0 : Int)) = true then
   none /- decided -/
   else
   if (!(decide ((-32767 : Int) ≤ x_0) && decide (x_0 ≤ (32767 : Int)))) = true then
   if (Sx06.impE r1 x_0 x_1 == (2 : Int)) = true then
   some ((↑(List.length (Sx06.impL r1 x_0 x_1)) : Int) == (0 : Int))
   else
   some false
   else
   if (!(decide ((0 : Int) ≤ x_1) && decide (x_1 ≤ (1024 : Int)))) = true then
   if (Sx06.impE r1 x_0 x_1 == (2 : Int)) = true then
   some ((↑(List.length (Sx06.impL r1 x_0 x_1)) : Int) == (0 : Int))
   else
   some false
   else
   if (0 : Int) ≤ x_1 ∧ x_1 = x_1 ∧ (↑(8 : Nat) : Int) * x_1 ≤ (281474976710656 : Int) ∧ x_1 ≤ (9223372036854775807 : Int) then
   if x_1 > (0 : Int) then
   if (0 : Int) ≤ (0 : Int) ∧ (0 : Int) < (↑(List.length (List.replicate (Int.toNat x_1) (0 : Int))) : Int) then
   if (0 : Nat) < List.length (List.replicate (Int.toNat x_1) (0 : Int)) then
   Option.bind (R06_NewState c) fun r12 =>
   Option.bind (R06_Through c (List.set (List.replicate (Int.toNat x_1) (0 : Int)) (0 : Nat) x_0) r12) fun r13 =>
   if (Sx06.impE r1 x_0 x_1 == (0 : Int)) = true then
   if List.length (Sx06.impL r1 x_0 x_1) ≤ (1000000000 : Nat) then
   some (decide (Sx06.impL r1 x_0 x_1 = r13.1))
   else none
   else
   some false
   else none
   else none
   else
   Option.bind (R06_NewState c) fun r14 =>
   Option.bind (R06_Through c (List.replicate (Int.toNat x_1) (0 : Int)) r14) fun r15 =>
   if (Sx06.impE r1 x_0 x_1 == (0 : Int)) = true then
   if List.length (Sx06.impL r1 x_0 x_1) ≤ (1000000000 : Nat) then
   some (decide (Sx06.impL r1 x_0 x_1 = r15.1))
   else none
   else
   some false
   else none
   else
   if (r11 == (0 : Int)) = true then
   Option.bind (L06_raw l) fun r16 =>
   Option.bind (R06_Numbers r2) fun r17 =>
   Option.bind (R06_NewState c) fun r18 =>
   Option.bind (R06_Through c r17 r18) fun r19 =>
   if (r3.2.2 != (0 : Int)) = true then
   some false
   else
   Option.bind (R06_Floats r19.1) fun r20 =>
   Option.bind (B_SameFloats r3.1 r20) fun r21 =>
   if (!r21) = true then
   some false
   else
   if (r3.2.1 != r19.2.2) = true then
   some false
   else
   if (!(decide ((-32767 : Int) ≤ x_0) && decide (x_0 ≤ (32767 : Int)))) = true then
   if (Sx06.impE r1 x_0 x_1 == (2 : Int)) = true then
   some ((↑(List.length (Sx06.impL r1 x_0 x_1)) : Int) == (0 : Int))
   else
   some false
   else
   if (!(decide ((0 : Int) ≤ x_1) && decide (x_1 ≤ (1024 : Int)))) = true then
   if (Sx06.impE r1 x_0 x_1 == (2 : Int)) = true then
   some ((↑(List.length (Sx06.impL r1 x_0 x_1)) : Int) == (0 : Int))
   else
   some false
   else
   if (0 : Int) ≤ x_1 ∧ x_1 = x_1 ∧ (↑(8 : Nat) : Int) * x_1 ≤ (281474976710656 : Int) ∧ x_1 ≤ (9223372036854775807 : Int) then
   if x_1 > (0 : Int) then
   if (0 : Int) ≤ (0 : Int) ∧ (0 : Int) < (↑(List.length (List.replicate (Int.toNat x_1) (0 : Int))) : Int) then
   if (0 : Nat) < List.length (List.replicate (Int.toNat x_1) (0 : Int)) then
   Option.bind (R06_NewState c) fun r22 =>
   Option.bind (R06_Through c (List.set (List.replicate (Int.toNat x_1) (0 : Int)) (0 : Nat) x_0) r18) fun r23 =>
   if (Sx06.impE r1 x_0 x_1 == (0 : Int)) = true then
   if List.length (Sx06.impL r1 x_0 x_1) ≤ (1000000000 : Nat) then
   some (decide (Sx06.impL r1 x_0 x_1 = r23.1))
   else none
   else
   some false
   else none
   else none
   else
   Option.bind (R06_NewState c) fun r24 =>
   Option.bind (R06_Through c (List.replicate (Int.toNat x_1) (0 : Int)) r18) fun r25 =>
   if (Sx06.impE r1 x_0 x_1 == (0 : Int)) = true then
   if List.length (Sx06.impL r1 x_0 x_1) ≤ (1000000000 : Nat) then
   some (decide (Sx06.impL r1 x_0 x_1 = r25.1))
   else none
   else
   some false
   else none
   else
   none /- decided -/
   else none
   else
   Option.bind (R06_Copy c) fun r26 =>
   Option.bind (L06_raw l) fun r27 =>
   Option.bind (F_RunAll r26 r27) fun r28 =>
   Option.bind (R06_Copy c) fun r29 =>
   if List.length r26 ≤ (1000000000 : Nat) then
   Option.bind (R06_CheckCascade c) fun r30 =>
   if (r30.2 != (0 : Int)) = true then
   if (r28.2.2 == r30.2) = true then
   if (Sx06.impE r26 x_0 x_1 == r30.2) = true then
   if (IntKind.wrap IntKind.i64 ((↑(List.length r28.1) : Int) + (↑(List.length (Sx06.impL r26 x_0 x_1)) : Int)) == (0 : Int)) = true then
   some (r28.2.1 == (0 : Int))
   else
   some false
   else
   some false
   else
   some false
   else
   if (↑(List.length l) : Int) > (1024 : Int) then
   if (r28.2.2 != (8 : Int)) = true then
   some false
   else
   if ((↑(List.length r28.1) : Int) != (0 : Int)) = true then
   some false
   else
   if (r28.2.1 != (0 : Int)) = true then
   some false
   else
   if (!(decide ((-32767 : Int) ≤ x_0) && decide (x_0 ≤ (32767 : Int)))) = true then
   if (Sx06.impE r26 x_0 x_1 == (2 : Int)) = true then
   some ((↑(List.length (Sx06.impL r26 x_0 x_1)) : Int) == (0 : Int))
   else
   some false
   else
   if (!(decide ((0 : Int) ≤ x_1) && decide (x_1 ≤ (1024 : Int)))) = true then
   if (Sx06.impE r26 x_0 x_1 == (2 : Int)) = true then
   some ((↑(List.length (Sx06.impL r26 x_0 x_1)) : Int) == (0 : Int))
   else
   some false
   else
   if (0 : Int) ≤ x_1 ∧ x_1 = x_1 ∧ (↑(8 : Nat) : Int) * x_1 ≤ (281474976710656 : Int) ∧ x_1 ≤ (9223372036854775807 : Int) then
   if x_1 > (0 : Int) then
   if (0 : Int) ≤ (0 : Int) ∧ (0 : Int) < (↑(List.length (List.replicate (Int.toNat x_1) (0 : Int))) : Int) then
   if (0 : Nat) < List.length (List.replicate (Int.toNat x_1) (0 : Int)) then
   Option.bind (R06_NewState c) fun r31 =>
   Option.bind (R06_Through c (List.set (List.replicate (Int.toNat x_1) (0 : Int)) (0 : Nat) x_0) r31) fun r32 =>
   if (Sx06.impE r26 x_0 x_1 == (0 : Int)) = true then
   if List.length (Sx06.impL r26 x_0 x_1) ≤ (1000000000 : Nat) then
   some (decide (Sx06.impL r26 x_0 x_1 = r32.1))
   else none
   else
   some false
   else none
   else none
   else
   Option.bind (R06_NewState c) fun r33 =>
   Option.bind (R06_Through c (List.replicate (Int.toNat x_1) (0 : Int)) r33) fun r34 =>
   if (Sx06.impE r26 x_0 x_1 == (0 : Int)) = true then
   if List.length (Sx06.impL r26 x_0 x_1) ≤ (1000000000 : Nat) then
   some (decide (Sx06.impL r26 x_0 x_1 = r34.1))
   else none
   else
   some false
   else none
   else
   Option.bind (L06_raw l) fun r35 =>
   Option.bind (R06_SamplesErr r27) fun r36 =>
   if (r36 != (0 : Int)) = true then
   if (r28.2.2 != r36) = true then
   some false
   else
   if ((↑(List.length r28.1) : Int) != (0 : Int)) = true then
   some false
   else
   if (r28.2.1 != (0 : Int)) = true then
   some false
   else
   if (r36 == (0 : Int)) = true then
   none /- decided -/
   else
   if (!(decide ((-32767 : Int) ≤ x_0) && decide (x_0 ≤ (32767 : Int)))) = true then
   if (Sx06.impE r26 x_0 x_1 == (2 : Int)) = true then
   some ((↑(List.length (Sx06.impL r26 x_0 x_1)) : Int) == (0 : Int))
   else
   some false
   else
   if (!(decide ((0 : Int) ≤ x_1) && decide (x_1 ≤ (1024 : Int)))) = true then
   if (Sx06.impE r26 x_0 x_1 == (2 : Int)) = true then
   some ((↑(List.length (Sx06.impL r26 x_0 x_1)) : Int) == (0 : Int))
   else
   some false
   else
   if (0 : Int) ≤ x_1 ∧ x_1 = x_1 ∧ (↑(8 : Nat) : Int) * x_1 ≤ (281474976710656 : Int) ∧ x_1 ≤ (9223372036854775807 : Int) then
   if x_1 > (0 : Int) then
   if (0 : Int) ≤ (0 : Int) ∧ (0 : Int) < (↑(List.length (List.replicate (Int.toNat x_1) (0 : Int))) : Int) then
   if (0 : Nat) < List.length (List.replicate (Int.toNat x_1) (0 : Int)) then
   Option.bind (R06_NewState c) fun r37 =>
   Option.bind (R06_Through c (List.set (List.replicate (Int.toNat x_1) (0 : Int)) (0 : Nat) x_0) r37) fun r38 =>
   if (Sx06.impE r26 x_0 x_1 == (0 : Int)) = true then
   if List.length (Sx06.impL r26 x_0 x_1) ≤ (1000000000 : Nat) then
   some (decide (Sx06.impL r26 x_0 x_1 = r38.1))
   else none
   else
   some false
   else none
   else none
   else
   Option.bind (R06_NewState c) fun r39 =>
   Option.bind (R06_Through c (List.replicate (Int.toNat x_1) (0 : Int)) r39) fun r40 =>
   if (Sx06.impE r26 x_0 x_1 == (0 : Int)) = true then
   if List.length (Sx06.impL r26 x_0 x_1) ≤ (1000000000 : Nat) then
   some (decide (Sx06.impL r26 x_0 x_1 = r40.1))
   else none
   else
   some false
   else none
   else
   if (r36 == (0 : Int)) = true then
   Option.bind (L06_raw l) fun r41 =>
   Option.bind (R06_Numbers r27) fun r42 =>
   Option.bind (R06_NewState c) fun r43 =>
   Option.bind (R06_Through c r42 r43) fun r44 =>
   if (r28.2.2 != (0 : Int)) = true then
   some false
   else
   Option.bind (R06_Floats r44.1) fun r45 =>
   Option.bind (B_SameFloats r28.1 r45) fun r46 =>
   if (!r46) = true then
   some false
   else
   if (r28.2.1 != r44.2.2) = true then
   some false
   else
   if (!(decide ((-32767 : Int) ≤ x_0) && decide (x_0 ≤ (32767 : Int)))) = true then
   if (Sx06.impE r26 x_0 x_1 == (2 : Int)) = true then
   some ((↑(List.length (Sx06.impL r26 x_0 x_1)) : Int) == (0 : Int))
   else
   some false
   else
   if (!(decide ((0 : Int) ≤ x_1) && decide (x_1 ≤ (1024 : Int)))) = true then
   if (Sx06.impE r26 x_0 x_1 == (2 : Int)) = true then
   some ((↑(List.length (Sx06.impL r26 x_0 x_1)) : Int) == (0 : Int))
   else
   some false
   else
   if (0 : Int) ≤ x_1 ∧ x_1 = x_1 ∧ (↑(8 : Nat) : Int) * x_1 ≤ (281474976710656 : Int) ∧ x_1 ≤ (9223372036854775807 : Int) then
   if x_1 > (0 : Int) then
   if (0 : Int) ≤ (0 : Int) ∧ (0 : Int) < (↑(List.length (List.replicate (Int.toNat x_1) (0 : Int))) : Int) then
   if (0 : Nat) < List.length (List.replicate (Int.toNat x_1) (0 : Int)) then
   Option.bind (R06_NewState c) fun r47 =>
   Option.bind (R06_Through c (List.set (List.replicate (Int.toNat x_1) (0 : Int)) (0 : Nat) x_0) r43) fun r48 =>
   if (Sx06.impE r26 x_0 x_1 == (0 : Int)) = true then
   if List.length (Sx06.impL r26 x_0 x_1) ≤ (1000000000 : Nat) then
   some (decide (Sx06.impL r26 x_0 x_1 = r48.1))
   else none
   else
   some false
   else none
   else none
   else
   Option.bind (R06_NewState c) fun r49 =>
   Option.bind (R06_Through c (List.replicate (Int.toNat x_1) (0 : Int)) r43) fun r50 =>
   if (Sx06.impE r26 x_0 x_1 == (0 : Int)) = true then
   if List.length (Sx06.impL r26 x_0 x_1) ≤ (1000000000 : Nat) then
   some (decide (Sx06.impL r26 x_0 x_1 = r50.1))
   else none
   else
   some false
   else none
   else
   none /- decided -/
   else none
   else
   if (↑(List.length l) : Int) > (1026 : Int) then
   some true
   else
   if x_1 > (100 : Int) then
   if x_1 ≤ (1024 : Int) then
   some true
   else
   Option.bind (R06_Copy c) fun r51 =>
   Option.bind (L06_raw l) fun r52 =>
   Option.bind (F_RunAll r51 r52) fun r53 =>
   Option.bind (R06_Copy c) fun r54 =>
   if List.length r51 ≤ (1000000000 : Nat) then
   Option.bind (R06_CheckCascade c) fun r55 =>
   if (r55.2 != (0 : Int)) = true then
   if (r53.2.2 == r55.2) = true then
   if (Sx06.impE r51 x_0 x_1 == r55.2) = true then
   if (IntKind.wrap IntKind.i64 ((↑(List.length r53.1) : Int) + (↑(List.length (Sx06.impL r51 x_0 x_1)) : Int)) == (0 : Int)) = true then
   some (r53.2.1 == (0 : Int))
   else
   some false
   else
   some false
   else
   some false
   else
   if (↑(List.length l) : Int) > (1024 : Int) then
   if (r53.2.2 != (8 : Int)) = true then
   some false
   else
   if ((↑(List.length r53.1) : Int) != (0 : Int)) = true then
   some false
   else
   if (r53.2.1 != (0 : Int)) = true then
   some false
   else
   if (!(decide ((-32767 : Int) ≤ x_0) && decide (x_0 ≤ (32767 : Int)))) = true then
   if (Sx06.impE r51 x_0 x_1 == (2 : Int)) = true then
   some ((↑(List.length (Sx06.impL r51 x_0 x_1)) : Int) == (0 : Int))
   else
   some false
   else
   if (!(decide ((0 : Int) ≤ x_1) && decide (x_1 ≤ (1024 : Int)))) = true then
   if (Sx06.impE r51 x_0 x_1 == (2 : Int)) = true then
   some ((↑(List.length (Sx06.impL r51 x_0 x_1)) : Int) == (0 : Int))
   else
   some false
   else
   if (0 : Int) ≤ x_1 ∧ x_1 = x_1 ∧ (↑(8 : Nat) : Int) * x_1 ≤ (281474976710656 : Int) ∧ x_1 ≤ (9223372036854775807 : Int) then
   if x_1 > (0 : Int) then
   if (0 : Int) ≤ (0 : Int) ∧ (0 : Int) < (↑(List.length (List.replicate (Int.toNat x_1) (0 : Int))) : Int) then
   if (0 : Nat) < List.length (List.replicate (Int.toNat x_1) (0 : Int)) then
   Option.bind (R06_NewState c) fun r56 =>
   Option.bind (R06_Through c (List.set (List.replicate (Int.toNat x_1) (0 : Int)) (0 : Nat) x_0) r56) fun r57 =>
   if (Sx06.impE r51 x_0 x_1 == (0 : Int)) = true then
   if List.length (Sx06.impL r51 x_0 x_1) ≤ (1000000000 : Nat) then
   some (decide (Sx06.impL r51 x_0 x_1 = r57.1))
   else none
   else
   some false
   else none
   else none
   else
   Option.bind (R06_NewState c) fun r58 =>
   Option.bind (R06_Through c (List.replicate (Int.toNat x_1) (0 : Int)) r58) fun r59 =>
   if (Sx06.impE r51 x_0 x_1 == (0 : Int)) = true then
   if List.length (Sx06.impL r51 x_0 x_1) ≤ (1000000000 : Nat) then
   some (decide (Sx06.impL r51 x_0 x_1 = r59.1))
   else none
   else
   some false
   else none
   else
   Option.bind (L06_raw l) fun r60 =>
   Option.bind (R06_SamplesErr r52) fun r61 =>
   if (r61 != (0 : Int)) = true then
   if (r53.2.2 != r61) = true then
   some false
   else
   if ((↑(List.length r53.1) : Int) != (0 : Int)) = true then
   some false
   else
   if (r53.2.1 != (0 : Int)) = true then
   some false
   else
   if (r61 == (0 : Int)) = true then
   none /- decided -/
   else
   if (!(decide ((-32767 : Int) ≤ x_0) && decide (x_0 ≤ (32767 : Int)))) = true then
   if (Sx06.impE r51 x_0 x_1 == (2 : Int)) = true then
   some ((↑(List.length (Sx06.impL r51 x_0 x_1)) : Int) == (0 : Int))
   else
   some false
   else
   if (!(decide ((0 : Int) ≤ x_1) && decide (x_1 ≤ (1024 : Int)))) = true then
   if (Sx06.impE r51 x_0 x_1 == (2 : Int)) = true then
   some ((↑(List.length (Sx06.impL r51 x_0 x_1)) : Int) == (0 : Int))
   else
   some false
   else
   if (0 : Int) ≤ x_1 ∧ x_1 = x_1 ∧ (↑(8 : Nat) : Int) * x_1 ≤ (281474976710656 : Int) ∧ x_1 ≤ (9223372036854775807 : Int) then
   if x_1 > (0 : Int) then
   if (0 : Int) ≤ (0 : Int) ∧ (0 : Int) < (↑(List.length (List.replicate (Int.toNat x_1) (0 : Int))) : Int) then
   if (0 : Nat) < List.length (List.replicate (Int.toNat x_1) (0 : Int)) then
   Option.bind (R06_NewState c) fun r62 =>
   Option.bind (R06_Through c (List.set (List.replicate (Int.toNat x_1) (0 : Int)) (0 : Nat) x_0) r62) fun r63 =>
   if (Sx06.impE r51 x_0 x_1 == (0 : Int)) = true then
   if List.length (Sx06.impL r51 x_0 x_1) ≤ (1000000000 : Nat) then
   some (decide (Sx06.impL r51 x_0 x_1 = r63.1))
   else none
   else
   some false
   else none
   else none
   else
   Option.bind (R06_NewState c) fun r64 =>
   Option.bind (R06_Through c (List.replicate (Int.toNat x_1) (0 : Int)) r64) fun r65 =>
   if (Sx06.impE r51 x_0 x_1 == (0 : Int)) = true then
   if List.length (Sx06.impL r51 x_0 x_1) ≤ (1000000000 : Nat) then
   some (decide (Sx06.impL r51 x_0 x_1 = r65.1))
   else none
   else
   some false
   else none
   else
   if (r61 == (0 : Int)) = true then
   Option.bind (L06_raw l) fun r66 =>
   Option.bind (R06_Numbers r52) fun r67 =>
   Option.bind (R06_NewState c) fun r68 =>
   Option.bind (R06_Through c r67 r68) fun r69 =>
   if (r53.2.2 != (0 : Int)) = true then
   some false
   else
   Option.bind (R06_Floats r69.1) fun r70 =>
   Option.bind (B_SameFloats r53.1 r70) fun r71 =>
   if (!r71) = true then
   some false
   else
   if (r53.2.1 != r69.2.2) = true then
   some false
   else
   if (!(decide ((-32767 : Int) ≤ x_0) && decide (x_0 ≤ (32767 : Int)))) = true then
   if (Sx06.impE r51 x_0 x_1 == (2 : Int)) = true then
   some ((↑(List.length (Sx06.impL r51 x_0 x_1)) : Int) == (0 : Int))
   else
   some false
   else
   if (!(decide ((0 : Int) ≤ x_1) && decide (x_1 ≤ (1024 : Int)))) = true then
   if (Sx06.impE r51 x_0 x_1 == (2 : Int)) = true then
   some ((↑(List.length (Sx06.impL r51 x_0 x_1)) : Int) == (0 : Int))
   else
   some false
   else
   if (0 : Int) ≤ x_1 ∧ x_1 = x_1 ∧ (↑(8 : Nat) : Int) * x_1 ≤ (281474976710656 : Int) ∧ x_1 ≤ (9223372036854775807 : Int) then
   if x_1 > (0 : Int) then
   if (0 : Int) ≤ (0 : Int) ∧ (0 : Int) < (↑(List.length (List.replicate (Int.toNat x_1) (0 : Int))) : Int) then
   if (0 : Nat) < List.length (List.replicate (Int.toNat x_1) (0 : Int)) then
   Option.bind (R06_NewState c) fun r72 =>
   Option.bind (R06_Through c (List.set (List.replicate (Int.toNat x_1) (0 : Int)) (0 : Nat) x_0) r68) fun r73 =>
   if (Sx06.impE r51 x_0 x_1 == (0 : Int)) = true then
   if List.length (Sx06.impL r51 x_0 x_1) ≤ (1000000000 : Nat) then
   some (decide (Sx06.impL r51 x_0 x_1 = r73.1))
   else none
   else
   some false
   else none
   else none
   else
   Option.bind (R06_NewState c) fun r74 =>
   Option.bind (R06_Through c (List.replicate (Int.toNat x_1) (0 : Int)) r68) fun r75 =>
   if (Sx06.impE r51 x_0 x_1 == (0 : Int)) = true then
   if List.length (Sx06.impL r51 x_0 x_1) ≤ (1000000000 : Nat) then
   some (decide (Sx06.impL r51 x_0 x_1 = r75.1))
   else none
   else
   some false
   else none
   else
   none /- decided -/
   else none
   else
   Option.bind (R06_Copy c) fun r76 =>
   Option.bind (L06_raw l) fun r77 =>
   Option.bind (F_RunAll r76 r77) fun r78 =>
   Option.bind (R06_Copy c) fun r79 =>
   if List.length r76 ≤ (1000000000 : Nat) then
   Option.bind (R06_CheckCascade c) fun r80 =>
   if (r80.2 != (0 : Int)) = true then
   if (r78.2.2 == r80.2) = true then
   if (Sx06.impE r76 x_0 x_1 == r80.2) = true then
   if (IntKind.wrap IntKind.i64 ((↑(List.length r78.1) : Int) + (↑(List.length (Sx06.impL r76 x_0 x_1)) : Int)) == (0 : Int)) = true then
   some (r78.2.1 == (0 : Int))
   else
   some false
   else
   some false
   else
   some false
   else
   if (↑(List.length l) : Int) > (1024 : Int) then
   if (r78.2.2 != (8 : Int)) = true then
   some false
   else
   if ((↑(List.length r78.1) : Int) != (0 : Int)) = true then
   some false
   else
   if (r78.2.1 != (0 : Int)) = true then
   some false
   else
   if (!(decide ((-32767 : Int) ≤ x_0) && decide (x_0 ≤ (32767 : Int)))) = true then
   if (Sx06.impE r76 x_0 x_1 == (2 : Int)) = true then
   some ((↑(List.length (Sx06.impL r76 x_0 x_1)) : Int) == (0 : Int))
   else
   some false
   else
   if (!(decide ((0 : Int) ≤ x_1) && decide (x_1 ≤ (1024 : Int)))) = true then
   if (Sx06.impE r76 x_0 x_1 == (2 : Int)) = true then
   some ((↑(List.length (Sx06.impL r76 x_0 x_1)) : Int) == (0 : Int))
   else
   some false
   else
   if (0 : Int) ≤ x_1 ∧ x_1 = x_1 ∧ (↑(8 : Nat) : Int) * x_1 ≤ (281474976710656 : Int) ∧ x_1 ≤ (9223372036854775807 : Int) then
   if x_1 > (0 : Int) then
   if (0 : Int) ≤ (0 : Int) ∧ (0 : Int) < (↑(List.length (List.replicate (Int.toNat x_1) (0 : Int))) : Int) then
   if (0 : Nat) < List.length (List.replicate (Int.toNat x_1) (0 : Int)) then
   Option.bind (R06_NewState c) fun r81 =>
   Option.bind (R06_Through c (List.set (List.replicate (Int.toNat x_1) (0 : Int)) (0 : Nat) x_0) r81) fun r82 =>
   if (Sx06.impE r76 x_0 x_1 == (0 : Int)) = true then
   if List.length (Sx06.impL r76 x_0 x_1) ≤ (1000000000 : Nat) then
   some (decide (Sx06.impL r76 x_0 x_1 = r82.1))
   else none
   else
   some false
   else none
   else none
   else
   Option.bind (R06_NewState c) fun r83 =>
   Option.bind (R06_Through c (List.replicate (Int.toNat x_1) (0 : Int)) r83) fun r84 =>
   if (Sx06.impE r76 x_0 x_1 == (0 : Int)) = true then
   if List.length (Sx06.impL r76 x_0 x_1) ≤ (1000000000 : Nat) then
   some (decide (Sx06.impL r76 x_0 x_1 = r84.1))
   else none
   else
   some false
   else none
   else
   Option.bind (L06_raw l) fun r85 =>
   Option.bind (R06_SamplesErr r77) fun r86 =>
   if (r86 != (0 : Int)) = true then
   if (r78.2.2 != r86) = true then
   some false
   else
   if ((↑(List.length r78.1) : Int) != (0 : Int)) = true then
   some false
   else
   if (r78.2.1 != (0 : Int)) = true then
   some false
   else
   if (r86 == (0 : Int)) = true then
   none /- decided -/
   else
   if (!(decide ((-32767 : Int) ≤ x_0) && decide (x_0 ≤ (32767 : Int)))) = true then
   if (Sx06.impE r76 x_0 x_1 == (2 : Int)) = true then
   some ((↑(List.length (Sx06.impL r76 x_0 x_1)) : Int) == (0 : Int))
   else
   some false
   else
   if (!(decide ((0 : Int) ≤ x_1) && decide (x_1 ≤ (1024 : Int)))) = true then
   if (Sx06.impE r76 x_0 x_1 == (2 : Int)) = true then
   some ((↑(List.length (Sx06.impL r76 x_0 x_1)) : Int) == (0 : Int))
   else
   some false
   else
   if (0 : Int) ≤ x_1 ∧ x_1 = x_1 ∧ (↑(8 : Nat) : Int) * x_1 ≤ (281474976710656 : Int) ∧ x_1 ≤ (9223372036854775807 : Int) then
   if x_1 > (0 : Int) then
   if (0 : Int) ≤ (0 : Int) ∧ (0 : Int) < (↑(List.length (List.replicate (Int.toNat x_1) (0 : Int))) : Int) then
   if (0 : Nat) < List.length (List.replicate (Int.toNat x_1) (0 : Int)) then
   Option.bind (R06_NewState c) fun r87 =>
   Option.bind (R06_Through c (List.set (List.replicate (Int.toNat x_1) (0 : Int)) (0 : Nat) x_0) r87) fun r88 =>
   if (Sx06.impE r76 x_0 x_1 == (0 : Int)) = true then
   if List.length (Sx06.impL r76 x_0 x_1) ≤ (1000000000 : Nat) then
   some (decide (Sx06.impL r76 x_0 x_1 = r88.1))
   else none
   else
   some false
   else none
   else none
   else
   Option.bind (R06_NewState c) fun r89 =>
   Option.bind (R06_Through c (List.replicate (Int.toNat x_1) (0 : Int)) r89) fun r90 =>
   if (Sx06.impE r76 x_0 x_1 == (0 : Int)) = true then
   if List.length (Sx06.impL r76 x_0 x_1) ≤ (1000000000 : Nat) then
   some (decide (Sx06.impL r76 x_0 x_1 = r90.1))
   else none
   else
   some false
   else none
   else
   if (r86 == (0 : Int)) = true then
   Option.bind (L06_raw l) fun r91 =>
   Option.bind (R06_Numbers r77) fun r92 =>
   Option.bind (R06_NewState c) fun r93 =>
   Option.bind (R06_Through c r92 r93) fun r94 =>
   if (r78.2.2 != (0 : Int)) = true then
   some false
   else
   Option.bind (R06_Floats r94.1) fun r95 =>
   Option.bind (B_SameFloats r78.1 r95) fun r96 =>
   if (!r96) = true then
   some false
   else
   if (r78.2.1 != r94.2.2) = true then
   some false
   else
   if (!(decide ((-32767 : Int) ≤ x_0) && decide (x_0 ≤ (32767 : Int)))) = true then
   if (Sx06.impE r76 x_0 x_1 == (2 : Int)) = true then
   some ((↑(List.length (Sx06.impL r76 x_0 x_1)) : Int) == (0 : Int))
   else
   some false
   else
   if (!(decide ((0 : Int) ≤ x_1) && decide (x_1 ≤ (1024 : Int)))) = true then
   if (Sx06.impE r76 x_0 x_1 == (2 : Int)) = true then
   some ((↑(List.length (Sx06.impL r76 x_0 x_1)) : Int) == (0 : Int))
   else
   some false
   else
   if (0 : Int) ≤ x_1 ∧ x_1 = x_1 ∧ (↑(8 : Nat) : Int) * x_1 ≤ (281474976710656 : Int) ∧ x_1 ≤ (9223372036854775807 : Int) then
   if x_1 > (0 : Int) then
   if (0 : Int) ≤ (0 : Int) ∧ (0 : Int) < (↑(List.length (List.replicate (Int.toNat x_1) (0 : Int))) : Int) then
   if (0 : Nat) < List.length (List.replicate (Int.toNat x_1) (0 : Int)) then
   Option.bind (R06_NewState c) fun r97 =>
   Option.bind (R06_Through c (List.set (List.replicate (Int.toNat x_1) (0 : Int)) (0 : Nat) x_0) r93) fun r98 =>
   if (Sx06.impE r76 x_0 x_1 == (0 : Int)) = true then
   if List.length (Sx06.impL r76 x_0 x_1) ≤ (1000000000 : Nat) then
   some (decide (Sx06.impL r76 x_0 x_1 = r98.1))
   else none
   else
   some false
   else none
   else none
   else
   Option.bind (R06_NewState c) fun r99 =>
   Option.bind (R06_Through c (List.replicate (Int.toNat x_1) (0 : Int)) r93) fun r100 =>
   if (Sx06.impE r76 x_0 x_1 == (0 : Int)) = true then
   if List.length (Sx06.impL r76 x_0 x_1) ≤ (1000000000 : Nat) then
   some (decide (Sx06.impL r76 x_0 x_1 = r100.1))
   else none
   else
   some false
   else none
   else
   none /- decided -/
   else none
def g_L06_FilterLists : List A → Option (Prop × List RV)
  | [.r (.recs 5 c), .r (.ints .i64 l), .s [.i .i64 x_0, .i .i64 x_1]] => some (ok (L06_FilterLists c l x_0 x_1), [.d (.b ((val (L06_FilterLists c l x_0 x_1))))])
  | _ => none
abbrev sp_12 : Specs → Specs := addK 12 true (pureK k_L06_FilterLists g_L06_FilterLists)
set_option maxRecDepth 100000 in
theorem L06_FilterLists_vc (c : List (List Int)) (l : List Int) (x_0 : Int) (x_1 : Int) (r : Bool) (h : Option.bind (L06_FilterLists c l x_0 x_1) some = some r) : runF Try.f12 ((sp_18 (sp_24 (sp_52 (sp_27 (sp_60 (sp_30 (sp_61 (sp_59 (sp_63 (sp_66 (sp_65 (sp_50 (sp_64 (sp_62 (sp_34 sp0)))))))))))))))) (fun _ _ _ => none) [.r (.recs 5 c), .r (.ints .i64 l), .s [.i .i64 x_0, .i .i64 x_1]] [.d (.b r)] := by
  refine Eq.mp (by kernel_rfl : (
  (Ob (ok L06_awake) ∧
   (Ob (ok (L06_few c)) ∧
   Br (!val (L06_few c))
   ((Ob (True) ∧
   (Ob (true = r) ∧
   True)))
   (Br (decide ((↑(List.length l) : Int) > (100 : Int)))
   (Br (decide ((↑(List.length l) : Int) ≤ (1024 : Int)))
   ((Ob (True) ∧
   (Ob (true = r) ∧
   True)))
   (Br (decide ((↑(List.length l) : Int) > (1026 : Int)))
   ((Ob (True) ∧
   (Ob (true = r) ∧
   True)))
   ((Ob ((0 : Int) ≤ (1 : Int) ∧ (1 : Int) < (↑(2 : Nat) : Int)) ∧
   Br (decide (x_1 > (100 : Int)))
   ((Ob ((0 : Int) ≤ (1 : Int) ∧ (1 : Int) < (↑(2 : Nat) : Int)) ∧
   Br (decide (x_1 ≤ (1024 : Int)))
   ((Ob (True) ∧
   (Ob (true = r) ∧
   True)))
   ((Ob (ok (R06_Copy c)) ∧
   (Ob (ok (L06_raw l)) ∧
   (Ob (ok (F_RunAll (val (R06_Copy c)) (val (L06_raw l)))) ∧
   (Ob (ok (R06_Copy c)) ∧
   (Ob ((0 : Int) ≤ (0 : Int) ∧ (0 : Int) < (↑(2 : Nat) : Int)) ∧
   (Ob ((0 : Int) ≤ (1 : Int) ∧ (1 : Int) < (↑(2 : Nat) : Int)) ∧
   (Ob (List.length (val (R06_Copy c)) ≤ (1000000000 : Nat)) ∧
   (Ob (ok (R06_CheckCascade c)) ∧
   Br ((val (R06_CheckCascade c)).2 != (0 : Int))
   (Br ((val (F_RunAll (val (R06_Copy c)) (val (L06_raw l)))).2.2 == (val (R06_CheckCascade c)).2)
   (Br (Sx06.impE (val (R06_Copy c)) x_0 x_1 == (val (R06_CheckCascade c)).2)
   (Br (IntKind.wrap IntKind.i64 ((↑(List.length (val (F_RunAll (val (R06_Copy c)) (val (L06_raw l)))).1) : Int) + (↑(List.length (Sx06.impL (val (R06_Copy c)) x_0 x_1)) : Int)) == (0 : Int))
   ((Ob (True) ∧
   (Ob (((val (F_RunAll (val (R06_Copy c)) (val (L06_raw l)))).2.1 == (0 : Int)) = r) ∧
   True)))
   ((Ob (True) ∧
   (Ob (false = r) ∧
   True))))
   ((Ob (True) ∧
   (Ob (false = r) ∧
   True))))
   ((Ob (True) ∧
   (Ob (false = r) ∧
   True))))
   (Br (decide ((↑(List.length l) : Int) > (1024 : Int)))
   (Br ((val (F_RunAll (val (R06_Copy c)) (val (L06_raw l)))).2.2 != (8 : Int))
   ((Ob (True) ∧
   (Ob (false = r) ∧
   True)))
   (Br ((↑(List.length (val (F_RunAll (val (R06_Copy c)) (val (L06_raw l)))).1) : Int) != (0 : Int))
   ((Ob (True) ∧
   (Ob (false = r) ∧
   True)))
   (Br ((val (F_RunAll (val (R06_Copy c)) (val (L06_raw l)))).2.1 != (0 : Int))
   ((Ob (True) ∧
   (Ob (false = r) ∧
   True)))
   ((Ob ((0 : Int) ≤ (0 : Int) ∧ (0 : Int) < (↑(2 : Nat) : Int)) ∧
   (Ob (True) ∧
   Br (!(decide ((-32767 : Int) ≤ x_0) && decide (x_0 ≤ (32767 : Int))))
   (Br (Sx06.impE (val (R06_Copy c)) x_0 x_1 == (2 : Int))
   ((Ob (True) ∧
   (Ob (((↑(List.length (Sx06.impL (val (R06_Copy c)) x_0 x_1)) : Int) == (0 : Int)) = r) ∧
   True)))
   ((Ob (True) ∧
   (Ob (false = r) ∧
   True))))
   ((Ob ((0 : Int) ≤ (1 : Int) ∧ (1 : Int) < (↑(2 : Nat) : Int)) ∧
   (Ob (True) ∧
   Br (!(decide ((0 : Int) ≤ x_1) && decide (x_1 ≤ (1024 : Int))))
   (Br (Sx06.impE (val (R06_Copy c)) x_0 x_1 == (2 : Int))
   ((Ob (True) ∧
   (Ob (((↑(List.length (Sx06.impL (val (R06_Copy c)) x_0 x_1)) : Int) == (0 : Int)) = r) ∧
   True)))
   ((Ob (True) ∧
   (Ob (false = r) ∧
   True))))
   ((Ob ((0 : Int) ≤ (1 : Int) ∧ (1 : Int) < (↑(2 : Nat) : Int)) ∧
   (Ob ((0 : Int) ≤ x_1 ∧ x_1 = x_1 ∧ (↑(8 : Nat) : Int) * x_1 ≤ (281474976710656 : Int) ∧ x_1 ≤ (9223372036854775807 : Int)) ∧
   (Ob ((0 : Int) ≤ (1 : Int) ∧ (1 : Int) < (↑(2 : Nat) : Int)) ∧
   Br (decide (x_1 > (0 : Int)))
   ((Ob ((0 : Int) ≤ (0 : Int) ∧ (0 : Int) < (↑(2 : Nat) : Int)) ∧
   (Ob ((0 : Int) ≤ (0 : Int) ∧ (0 : Int) < (↑(List.length (List.replicate (Int.toNat x_1) (0 : Int))) : Int)) ∧
   (Ob ((0 : Nat) < List.length (List.replicate (Int.toNat x_1) (0 : Int))) ∧
   (Ob (ok (R06_NewState c)) ∧
   (Ob (ok (R06_Through c (List.set (List.replicate (Int.toNat x_1) (0 : Int)) (0 : Nat) x_0) (val (R06_NewState c)))) ∧
   Br (Sx06.impE (val (R06_Copy c)) x_0 x_1 == (0 : Int))
   ((Ob (List.length (Sx06.impL (val (R06_Copy c)) x_0 x_1) ≤ (1000000000 : Nat)) ∧
   (Ob (True) ∧
   (Ob (decide (Sx06.impL (val (R06_Copy c)) x_0 x_1 = (val (R06_Through c (List.set (List.replicate (Int.toNat x_1) (0 : Int)) (0 : Nat) x_0) (val (R06_NewState c)))).1) = r) ∧
   True))))
   ((Ob (True) ∧
   (Ob (false = r) ∧
   True)))))))))
   ((Ob (ok (R06_NewState c)) ∧
   (Ob (ok (R06_Through c (List.replicate (Int.toNat x_1) (0 : Int)) (val (R06_NewState c)))) ∧
   Br (Sx06.impE (val (R06_Copy c)) x_0 x_1 == (0 : Int))
   ((Ob (List.length (Sx06.impL (val (R06_Copy c)) x_0 x_1) ≤ (1000000000 : Nat)) ∧
   (Ob (True) ∧
   (Ob (decide (Sx06.impL (val (R06_Copy c)) x_0 x_1 = (val (R06_Through c (List.replicate (Int.toNat x_1) (0 : Int)) (val (R06_NewState c)))).1) = r) ∧
   True))))
   ((Ob (True) ∧
   (Ob (false = r) ∧
   True)))))))))))))))))))
   ((Ob (ok (L06_raw l)) ∧
   (Ob (ok (R06_SamplesErr (val (L06_raw l)))) ∧
   Br (val (R06_SamplesErr (val (L06_raw l))) != (0 : Int))
   (Br ((val (F_RunAll (val (R06_Copy c)) (val (L06_raw l)))).2.2 != val (R06_SamplesErr (val (L06_raw l))))
   ((Ob (True) ∧
   (Ob (false = r) ∧
   True)))
   (Br ((↑(List.length (val (F_RunAll (val (R06_Copy c)) (val (L06_raw l)))).1) : Int) != (0 : Int))
   ((Ob (True) ∧
   (Ob (false = r) ∧
   True)))
   (Br ((val (F_RunAll (val (R06_Copy c)) (val (L06_raw l)))).2.1 != (0 : Int))
   ((Ob (True) ∧
   (Ob (false = r) ∧
   True)))
   (Br (val (R06_SamplesErr (val (L06_raw l))) == (0 : Int))
   ((Ob (ok (L06_raw l)) ∧
   (Ob (ok (R06_Numbers (val (L06_raw l)))) ∧
   (Ob (ok (R06_NewState c)) ∧
   (Ob (ok (R06_Through c (val (R06_Numbers (val (L06_raw l)))) (val (R06_NewState c)))) ∧
   Br ((val (F_RunAll (val (R06_Copy c)) (val (L06_raw l)))).2.2 != (0 : Int))
   ((Ob (True) ∧
   (Ob (false = r) ∧
   True)))
   ((Ob (ok (R06_Floats (val (R06_Through c (val (R06_Numbers (val (L06_raw l)))) (val (R06_NewState c)))).1)) ∧
   (Ob (ok (B_SameFloats (val (F_RunAll (val (R06_Copy c)) (val (L06_raw l)))).1 (val (R06_Floats (val (R06_Through c (val (R06_Numbers (val (L06_raw l)))) (val (R06_NewState c)))).1)))) ∧
   Br (!val (B_SameFloats (val (F_RunAll (val (R06_Copy c)) (val (L06_raw l)))).1 (val (R06_Floats (val (R06_Through c (val (R06_Numbers (val (L06_raw l)))) (val (R06_NewState c)))).1))))
   ((Ob (True) ∧
   (Ob (false = r) ∧
   True)))
   (Br ((val (F_RunAll (val (R06_Copy c)) (val (L06_raw l)))).2.1 != (val (R06_Through c (val (R06_Numbers (val (L06_raw l)))) (val (R06_NewState c)))).2.2)
   ((Ob (True) ∧
   (Ob (false = r) ∧
   True)))
   ((Ob ((0 : Int) ≤ (0 : Int) ∧ (0 : Int) < (↑(2 : Nat) : Int)) ∧
   (Ob (True) ∧
   Br (!(decide ((-32767 : Int) ≤ x_0) && decide (x_0 ≤ (32767 : Int))))
   (Br (Sx06.impE (val (R06_Copy c)) x_0 x_1 == (2 : Int))
   ((Ob (True) ∧
   (Ob (((↑(List.length (Sx06.impL (val (R06_Copy c)) x_0 x_1)) : Int) == (0 : Int)) = r) ∧
   True)))
   ((Ob (True) ∧
   (Ob (false = r) ∧
   True))))
   ((Ob ((0 : Int) ≤ (1 : Int) ∧ (1 : Int) < (↑(2 : Nat) : Int)) ∧
   (Ob (True) ∧
   Br (!(decide ((0 : Int) ≤ x_1) && decide (x_1 ≤ (1024 : Int))))
   (Br (Sx06.impE (val (R06_Copy c)) x_0 x_1 == (2 : Int))
   ((Ob (True) ∧
   (Ob (((↑(List.length (Sx06.impL (val (R06_Copy c)) x_0 x_1)) : Int) == (0 : Int)) = r) ∧
   True)))
   ((Ob (True) ∧
   (Ob (false = r) ∧
   True))))
   ((Ob ((0 : Int) ≤ (1 : Int) ∧ (1 : Int) < (↑(2 : Nat) : Int)) ∧
   (Ob ((0 : Int) ≤ x_1 ∧ x_1 = x_1 ∧ (↑(8 : Nat) : Int) * x_1 ≤ (281474976710656 : Int) ∧ x_1 ≤ (9223372036854775807 : Int)) ∧
   (Ob ((0 : Int) ≤ (1 : Int) ∧ (1 : Int) < (↑(2 : Nat) : Int)) ∧
   Br (decide (x_1 > (0 : Int)))
   ((Ob ((0 : Int) ≤ (0 : Int) ∧ (0 : Int) < (↑(2 : Nat) : Int)) ∧
   (Ob ((0 : Int) ≤ (0 : Int) ∧ (0 : Int) < (↑(List.length (List.replicate (Int.toNat x_1) (0 : Int))) : Int)) ∧
   (Ob ((0 : Nat) < List.length (List.replicate (Int.toNat x_1) (0 : Int))) ∧
   (Ob (ok (R06_NewState c)) ∧
   (Ob (ok (R06_Through c (List.set (List.replicate (Int.toNat x_1) (0 : Int)) (0 : Nat) x_0) (val (R06_NewState c)))) ∧
   Br (Sx06.impE (val (R06_Copy c)) x_0 x_1 == (0 : Int))
   ((Ob (List.length (Sx06.impL (val (R06_Copy c)) x_0 x_1) ≤ (1000000000 : Nat)) ∧
   (Ob (True) ∧
   (Ob (decide (Sx06.impL (val (R06_Copy c)) x_0 x_1 = (val (R06_Through c (List.set (List.replicate (Int.toNat x_1) (0 : Int)) (0 : Nat) x_0) (val (R06_NewState c)))).1) = r) ∧
   True))))
   ((Ob (True) ∧
   (Ob (false = r) ∧
   True)))))))))
   ((Ob (ok (R06_NewState c)) ∧
   (Ob (ok (R06_Through c (List.replicate (Int.toNat x_1) (0 : Int)) (val (R06_NewState c)))) ∧
   Br (Sx06.impE (val (R06_Copy c)) x_0 x_1 == (0 : Int))
   ((Ob (List.length (Sx06.impL (val (R06_Copy c)) x_0 x_1) ≤ (1000000000 : Nat)) ∧
   (Ob (True) ∧
   (Ob (decide (Sx06.impL (val (R06_Copy c)) x_0 x_1 = (val (R06_Through c (List.replicate (Int.toNat x_1) (0 : Int)) (val (R06_NewState c)))).1) = r) ∧
   True))))
   ((Ob (True) ∧
   (Ob (false = r) ∧
   True)))))))))))))))))))))))))
   ((Ob ((0 : Int) ≤ (0 : Int) ∧ (0 : Int) < (↑(2 : Nat) : Int)) ∧
   (Ob (True) ∧
   Br (!(decide ((-32767 : Int) ≤ x_0) && decide (x_0 ≤ (32767 : Int))))
   (Br (Sx06.impE (val (R06_Copy c)) x_0 x_1 == (2 : Int))
   ((Ob (True) ∧
   (Ob (((↑(List.length (Sx06.impL (val (R06_Copy c)) x_0 x_1)) : Int) == (0 : Int)) = r) ∧
   True)))
   ((Ob (True) ∧
   (Ob (false = r) ∧
   True))))
   ((Ob ((0 : Int) ≤ (1 : Int) ∧ (1 : Int) < (↑(2 : Nat) : Int)) ∧
   (Ob (True) ∧
   Br (!(decide ((0 : Int) ≤ x_1) && decide (x_1 ≤ (1024 : Int))))
   (Br (Sx06.impE (val (R06_Copy c)) x_0 x_1 == (2 : Int))
   ((Ob (True) ∧
   (Ob (((↑(List.length (Sx06.impL (val (R06_Copy c)) x_0 x_1)) : Int) == (0 : Int)) = r) ∧
   True)))
   ((Ob (True) ∧
   (Ob (false = r) ∧
   True))))
   ((Ob ((0 : Int) ≤ (1 : Int) ∧ (1 : Int) < (↑(2 : Nat) : Int)) ∧
   (Ob ((0 : Int) ≤ x_1 ∧ x_1 = x_1 ∧ (↑(8 : Nat) : Int) * x_1 ≤ (281474976710656 : Int) ∧ x_1 ≤ (9223372036854775807 : Int)) ∧
   (Ob ((0 : Int) ≤ (1 : Int) ∧ (1 : Int) < (↑(2 : Nat) : Int)) ∧
   Br (decide (x_1 > (0 : Int)))
   ((Ob ((0 : Int) ≤ (0 : Int) ∧ (0 : Int) < (↑(2 : Nat) : Int)) ∧
   (Ob ((0 : Int) ≤ (0 : Int) ∧ (0 : Int) < (↑(List.length (List.replicate (Int.toNat x_1) (0 : Int))) : Int)) ∧
   (Ob ((0 : Nat) < List.length (List.replicate (Int.toNat x_1) (0 : Int))) ∧
   (Ob (ok (R06_NewState c)) ∧
   (Ob (ok (R06_Through c (List.set (List.replicate (Int.toNat x_1) (0 : Int)) (0 : Nat) x_0) (val (R06_NewState c)))) ∧
   Br (Sx06.impE (val (R06_Copy c)) x_0 x_1 == (0 : Int))
   ((Ob (List.length (Sx06.impL (val (R06_Copy c)) x_0 x_1) ≤ (1000000000 : Nat)) ∧
   (Ob (True) ∧
   (Ob (decide (Sx06.impL (val (R06_Copy c)) x_0 x_1 = (val (R06_Through c (List.set (List.replicate (Int.toNat x_1) (0 : Int)) (0 : Nat) x_0) (val (R06_NewState c)))).1) = r) ∧
   True))))
   ((Ob (True) ∧
   (Ob (false = r) ∧
   True)))))))))
   ((Ob (ok (R06_NewState c)) ∧
   (Ob (ok (R06_Through c (List.replicate (Int.toNat x_1) (0 : Int)) (val (R06_NewState c)))) ∧
   Br (Sx06.impE (val (R06_Copy c)) x_0 x_1 == (0 : Int))
   ((Ob (List.length (Sx06.impL (val (R06_Copy c)) x_0 x_1) ≤ (1000000000 : Nat)) ∧
   (Ob (True) ∧
   (Ob (decide (Sx06.impL (val (R06_Copy c)) x_0 x_1 = (val (R06_Through c (List.replicate (Int.toNat x_1) (0 : Int)) (val (R06_NewState c)))).1) = r) ∧
   True))))
   ((Ob (True) ∧
   (Ob (false = r) ∧
   True))))))))))))))))))))
   (Br (val (R06_SamplesErr (val (L06_raw l))) == (0 : Int))
   ((Ob (ok (L06_raw l)) ∧
   (Ob (ok (R06_Numbers (val (L06_raw l)))) ∧
   (Ob (ok (R06_NewState c)) ∧
   (Ob (ok (R06_Through c (val (R06_Numbers (val (L06_raw l)))) (val (R06_NewState c)))) ∧
   Br ((val (F_RunAll (val (R06_Copy c)) (val (L06_raw l)))).2.2 != (0 : Int))
   ((Ob (True) ∧
   (Ob (false = r) ∧
   True)))
   ((Ob (ok (R06_Floats (val (R06_Through c (val (R06_Numbers (val (L06_raw l)))) (val (R06_NewState c)))).1)) ∧
   (Ob (ok (B_SameFloats (val (F_RunAll (val (R06_Copy c)) (val (L06_raw l)))).1 (val (R06_Floats (val (R06_Through c (val (R06_Numbers (val (L06_raw l)))) (val (R06_NewState c)))).1)))) ∧
   Br (!val (B_SameFloats (val (F_RunAll (val (R06_Copy c)) (val (L06_raw l)))).1 (val (R06_Floats (val (R06_Through c (val (R06_Numbers (val (L06_raw l)))) (val (R06_NewState c)))).1))))
   ((Ob (True) ∧
   (Ob (false = r) ∧
   True)))
   (Br ((val (F_RunAll (val (R06_Copy c)) (val (L06_raw l)))).2.1 != (val (R06_Through c (val (R06_Numbers (val (L06_raw l)))) (val (R06_NewState c)))).2.2)
   ((Ob (True) ∧
   (Ob (false = r) ∧
   True)))
   ((Ob ((0 : Int) ≤ (0 : Int) ∧ (0 : Int) < (↑(2 : Nat) : Int)) ∧
   (Ob (True) ∧
   Br (!(decide ((-32767 : Int) ≤ x_0) && decide (x_0 ≤ (32767 : Int))))
   (Br (Sx06.impE (val (R06_Copy c)) x_0 x_1 == (2 : Int))
   ((Ob (True) ∧
   (Ob (((↑(List.length (Sx06.impL (val (R06_Copy c)) x_0 x_1)) : Int) == (0 : Int)) = r) ∧
   True)))
   ((Ob (True) ∧
   (Ob (false = r) ∧
   True))))
   ((Ob ((0 : Int) ≤ (1 : Int) ∧ (1 : Int) < (↑(2 : Nat) : Int)) ∧
   (Ob (True) ∧
   Br (!(decide ((0 : Int) ≤ x_1) && decide (x_1 ≤ (1024 : Int))))
   (Br (Sx06.impE (val (R06_Copy c)) x_0 x_1 == (2 : Int))
   ((Ob (True) ∧
   (Ob (((↑(List.length (Sx06.impL (val (R06_Copy c)) x_0 x_1)) : Int) == (0 : Int)) = r) ∧
   True)))
   ((Ob (True) ∧
   (Ob (false = r) ∧
   True))))
   ((Ob ((0 : Int) ≤ (1 : Int) ∧ (1 : Int) < (↑(2 : Nat) : Int)) ∧
   (Ob ((0 : Int) ≤ x_1 ∧ x_1 = x_1 ∧ (↑(8 : Nat) : Int) * x_1 ≤ (281474976710656 : Int) ∧ x_1 ≤ (9223372036854775807 : Int)) ∧
   (Ob ((0 : Int) ≤ (1 : Int) ∧ (1 : Int) < (↑(2 : Nat) : Int)) ∧
   Br (decide (x_1 > (0 : Int)))
   ((Ob ((0 : Int) ≤ (0 : Int) ∧ (0 : Int) < (↑(2 : Nat) : Int)) ∧
   (Ob ((0 : Int) ≤ (0 : Int) ∧ (0 : Int) < (↑(List.length (List.replicate (Int.toNat x_1) (0 : Int))) : Int)) ∧
   (Ob ((0 : Nat) < List.length (List.replicate (Int.toNat x_1) (0 : Int))) ∧
   (Ob (ok (R06_NewState c)) ∧
   (Ob (ok (R06_Through c (List.set (List.replicate (Int.toNat x_1) (0 : Int)) (0 : Nat) x_0) (val (R06_NewState c)))) ∧
   Br (Sx06.impE (val (R06_Copy c)) x_0 x_1 == (0 : Int))
   ((Ob (List.length (Sx06.impL (val (R06_Copy c)) x_0 x_1) ≤ (1000000000 : Nat)) ∧
   (Ob (True) ∧
   (Ob (decide (Sx06.impL (val (R06_Copy c)) x_0 x_1 = (val (R06_Through c (List.set (List.replicate (Int.toNat x_1) (0 : Int)) (0 : Nat) x_0) (val (R06_NewState c)))).1) = r) ∧
   True))))
   ((Ob (True) ∧
   (Ob (false = r) ∧
   True)))))))))
   ((Ob (ok (R06_NewState c)) ∧
   (Ob (ok (R06_Through c (List.replicate (Int.toNat x_1) (0 : Int)) (val (R06_NewState c)))) ∧
   Br (Sx06.impE (val (R06_Copy c)) x_0 x_1 == (0 : Int))
   ((Ob (List.length (Sx06.impL (val (R06_Copy c)) x_0 x_1) ≤ (1000000000 : Nat)) ∧
   (Ob (True) ∧
   (Ob (decide (Sx06.impL (val (R06_Copy c)) x_0 x_1 = (val (R06_Through c (List.replicate (Int.toNat x_1) (0 : Int)) (val (R06_NewState c)))).1) = r) ∧
   True))))
   ((Ob (True) ∧
   (Ob (false = r) ∧
   True)))))))))))))))))))))))))
   ((Ob ((0 : Int) ≤ (0 : Int) ∧ (0 : Int) < (↑(2 : Nat) : Int)) ∧
   (Ob (True) ∧
   Br (!(decide ((-32767 : Int) ≤ x_0) && decide (x_0 ≤ (32767 : Int))))
   (Br (Sx06.impE (val (R06_Copy c)) x_0 x_1 == (2 : Int))
   ((Ob (True) ∧
   (Ob (((↑(List.length (Sx06.impL (val (R06_Copy c)) x_0 x_1)) : Int) == (0 : Int)) = r) ∧
   True)))
   ((Ob (True) ∧
   (Ob (false = r) ∧
   True))))
   ((Ob ((0 : Int) ≤ (1 : Int) ∧ (1 : Int) < (↑(2 : Nat) : Int)) ∧
   (Ob (True) ∧
   Br (!(decide ((0 : Int) ≤ x_1) && decide (x_1 ≤ (1024 : Int))))
   (Br (Sx06.impE (val (R06_Copy c)) x_0 x_1 == (2 : Int))
   ((Ob (True) ∧
   (Ob (((↑(List.length (Sx06.impL (val (R06_Copy c)) x_0 x_1)) : Int) == (0 : Int)) = r) ∧
   True)))
   ((Ob (True) ∧
   (Ob (false = r) ∧
   True))))
   ((Ob ((0 : Int) ≤ (1 : Int) ∧ (1 : Int) < (↑(2 : Nat) : Int)) ∧
   (Ob ((0 : Int) ≤ x_1 ∧ x_1 = x_1 ∧ (↑(8 : Nat) : Int) * x_1 ≤ (281474976710656 : Int) ∧ x_1 ≤ (9223372036854775807 : Int)) ∧
   (Ob ((0 : Int) ≤ (1 : Int) ∧ (1 : Int) < (↑(2 : Nat) : Int)) ∧
   Br (decide (x_1 > (0 : Int)))
   ((Ob ((0 : Int) ≤ (0 : Int) ∧ (0 : Int) < (↑(2 : Nat) : Int)) ∧
   (Ob ((0 : Int) ≤ (0 : Int) ∧ (0 : Int) < (↑(List.length (List.replicate (Int.toNat x_1) (0 : Int))) : Int)) ∧
   (Ob ((0 : Nat) < List.length (List.replicate (Int.toNat x_1) (0 : Int))) ∧
   (Ob (ok (R06_NewState c)) ∧
   (Ob (ok (R06_Through c (List.set (List.replicate (Int.toNat x_1) (0 : Int)) (0 : Nat) x_0) (val (R06_NewState c)))) ∧
   Br (Sx06.impE (val (R06_Copy c)) x_0 x_1 == (0 : Int))
   ((Ob (List.length (Sx06.impL (val (R06_Copy c)) x_0 x_1) ≤ (1000000000 : Nat)) ∧
   (Ob (True) ∧
   (Ob (decide (Sx06.impL (val (R06_Copy c)) x_0 x_1 = (val (R06_Through c (List.set (List.replicate (Int.toNat x_1) (0 : Int)) (0 : Nat) x_0) (val (R06_NewState c)))).1) = r) ∧
   True))))
   ((Ob (True) ∧
   (Ob (false = r) ∧
   True)))))))))
   ((Ob (ok (R06_NewState c)) ∧
   (Ob (ok (R06_Through c (List.replicate (Int.toNat x_1) (0 : Int)) (val (R06_NewState c)))) ∧
   Br (Sx06.impE (val (R06_Copy c)) x_0 x_1 == (0 : Int))
   ((Ob (List.length (Sx06.impL (val (R06_Copy c)) x_0 x_1) ≤ (1000000000 : Nat)) ∧
   (Ob (True) ∧
   (Ob (decide (Sx06.impL (val (R06_Copy c)) x_0 x_1 = (val (R06_Through c (List.replicate (Int.toNat x_1) (0 : Int)) (val (R06_NewState c)))).1) = r) ∧
   True))))
   ((Ob (True) ∧
   (Ob (false = r) ∧
   True))))))))))))))))))))))))))))))))
   ((Ob (ok (R06_Copy c)) ∧
   (Ob (ok (L06_raw l)) ∧
   (Ob (ok (F_RunAll (val (R06_Copy c)) (val (L06_raw l)))) ∧
   (Ob (ok (R06_Copy c)) ∧
   (Ob ((0 : Int) ≤ (0 : Int) ∧ (0 : Int) < (↑(2 : Nat) : Int)) ∧
   (Ob ((0 : Int) ≤ (1 : Int) ∧ (1 : Int) < (↑(2 : Nat) : Int)) ∧
   (Ob (List.length (val (R06_Copy c)) ≤ (1000000000 : Nat)) ∧
   (Ob (ok (R06_CheckCascade c)) ∧
   Br ((val (R06_CheckCascade c)).2 != (0 : Int))
   (Br ((val (F_RunAll (val (R06_Copy c)) (val (L06_raw l)))).2.2 == (val (R06_CheckCascade c)).2)
   (Br (Sx06.impE (val (R06_Copy c)) x_0 x_1 == (val (R06_CheckCascade c)).2)
   (Br (IntKind.wrap IntKind.i64 ((↑(List.length (val (F_RunAll (val (R06_Copy c)) (val (L06_raw l)))).1) : Int) + (↑(List.length (Sx06.impL (val (R06_Copy c)) x_0 x_1)) : Int)) == (0 : Int))
   ((Ob (True) ∧
   (Ob (((val (F_RunAll (val (R06_Copy c)) (val (L06_raw l)))).2.1 == (0 : Int)) = r) ∧
   True)))
   ((Ob (True) ∧
   (Ob (false = r) ∧
   True))))
   ((Ob (True) ∧
   (Ob (false = r) ∧
   True))))
   ((Ob (True) ∧
   (Ob (false = r) ∧
   True))))
   (Br (decide ((↑(List.length l) : Int) > (1024 : Int)))
   (Br ((val (F_RunAll (val (R06_Copy c)) (val (L06_raw l)))).2.2 != (8 : Int))
   ((Ob (True) ∧
   (Ob (false = r) ∧
   True)))
   (Br ((↑(List.length (val (F_RunAll (val (R06_Copy c)) (val (L06_raw l)))).1) : Int) != (0 : Int))
   ((Ob (True) ∧
   (Ob (false = r) ∧
   True)))
   (Br ((val (F_RunAll (val (R06_Copy c)) (val (L06_raw l)))).2.1 != (0 : Int))
   ((Ob (True) ∧
   (Ob (false = r) ∧
   True)))
   ((Ob ((0 : Int) ≤ (0 : Int) ∧ (0 : Int) < (↑(2 : Nat) : Int)) ∧
   (Ob (True) ∧
   Br (!(decide ((-32767 : Int) ≤ x_0) && decide (x_0 ≤ (32767 : Int))))
   (Br (Sx06.impE (val (R06_Copy c)) x_0 x_1 == (2 : Int))
   ((Ob (True) ∧
   (Ob (((↑(List.length (Sx06.impL (val (R06_Copy c)) x_0 x_1)) : Int) == (0 : Int)) = r) ∧
   True)))
   ((Ob (True) ∧
   (Ob (false = r) ∧
   True))))
   ((Ob ((0 : Int) ≤ (1 : Int) ∧ (1 : Int) < (↑(2 : Nat) : Int)) ∧
   (Ob (True) ∧
   Br (!(decide ((0 : Int) ≤ x_1) && decide (x_1 ≤ (1024 : Int))))
   (Br (Sx06.impE (val (R06_Copy c)) x_0 x_1 == (2 : Int))
   ((Ob (True) ∧
   (Ob (((↑(List.length (Sx06.impL (val (R06_Copy c)) x_0 x_1)) : Int) == (0 : Int)) = r) ∧
   True)))
   ((Ob (True) ∧
   (Ob (false = r) ∧
   True))))
   ((Ob ((0 : Int) ≤ (1 : Int) ∧ (1 : Int) < (↑(2 : Nat) : Int)) ∧
   (Ob ((0 : Int) ≤ x_1 ∧ x_1 = x_1 ∧ (↑(8 : Nat) : Int) * x_1 ≤ (281474976710656 : Int) ∧ x_1 ≤ (9223372036854775807 : Int)) ∧
   (Ob ((0 : Int) ≤ (1 : Int) ∧ (1 : Int) < (↑(2 : Nat) : Int)) ∧
   Br (decide (x_1 > (0 : Int)))
   ((Ob ((0 : Int) ≤ (0 : Int) ∧ (0 : Int) < (↑(2 : Nat) : Int)) ∧
   (Ob ((0 : Int) ≤ (0 : Int) ∧ (0 : Int) < (↑(List.length (List.replicate (Int.toNat x_1) (0 : Int))) : Int)) ∧
   (Ob ((0 : Nat) < List.length (List.replicate (Int.toNat x_1) (0 : Int))) ∧
   (Ob (ok (R06_NewState c)) ∧
   (Ob (ok (R06_Through c (List.set (List.replicate (Int.toNat x_1) (0 : Int)) (0 : Nat) x_0) (val (R06_NewState c)))) ∧
   Br (Sx06.impE (val (R06_Copy c)) x_0 x_1 == (0 : Int))
   ((Ob (List.length (Sx06.impL (val (R06_Copy c)) x_0 x_1) ≤ (1000000000 : Nat)) ∧
   (Ob (True) ∧
   (Ob (decide (Sx06.impL (val (R06_Copy c)) x_0 x_1 = (val (R06_Through c (List.set (List.replicate (Int.toNat x_1) (0 : Int)) (0 : Nat) x_0) (val (R06_NewState c)))).1) = r) ∧
   True))))
   ((Ob (True) ∧
   (Ob (false = r) ∧
   True)))))))))
   ((Ob (ok (R06_NewState c)) ∧
   (Ob (ok (R06_Through c (List.replicate (Int.toNat x_1) (0 : Int)) (val (R06_NewState c)))) ∧
   Br (Sx06.impE (val (R06_Copy c)) x_0 x_1 == (0 : Int))
   ((Ob (List.length (Sx06.impL (val (R06_Copy c)) x_0 x_1) ≤ (1000000000 : Nat)) ∧
   (Ob (True) ∧
   (Ob (decide (Sx06.impL (val (R06_Copy c)) x_0 x_1 = (val (R06_Through c (List.replicate (Int.toNat x_1) (0 : Int)) (val (R06_NewState c)))).1) = r) ∧
   True))))
   ((Ob (True) ∧
   (Ob (false = r) ∧
   True)))))))))))))))))))
   ((Ob (ok (L06_raw l)) ∧
   (Ob (ok (R06_SamplesErr (val (L06_raw l)))) ∧
   Br (val (R06_SamplesErr (val (L06_raw l))) != (0 : Int))
   (Br ((val (F_RunAll (val (R06_Copy c)) (val (L06_raw l)))).2.2 != val (R06_SamplesErr (val (L06_raw l))))
   ((Ob (True) ∧
   (Ob (false = r) ∧
   True)))
   (Br ((↑(List.length (val (F_RunAll (val (R06_Copy c)) (val (L06_raw l)))).1) : Int) != (0 : Int))
   ((Ob (True) ∧
   (Ob (false = r) ∧
   True)))
   (Br ((val (F_RunAll (val (R06_Copy c)) (val (L06_raw l)))).2.1 != (0 : Int))
   ((Ob (True) ∧
   (Ob (false = r) ∧
   True)))
   (Br (val (R06_SamplesErr (val (L06_raw l))) == (0 : Int))
   ((Ob (ok (L06_raw l)) ∧
   (Ob (ok (R06_Numbers (val (L06_raw l)))) ∧
   (Ob (ok (R06_NewState c)) ∧
   (Ob (ok (R06_Through c (val (R06_Numbers (val (L06_raw l)))) (val (R06_NewState c)))) ∧
   Br ((val (F_RunAll (val (R06_Copy c)) (val (L06_raw l)))).2.2 != (0 : Int))
   ((Ob (True) ∧
   (Ob (false = r) ∧
   True)))
   ((Ob (ok (R06_Floats (val (R06_Through c (val (R06_Numbers (val (L06_raw l)))) (val (R06_NewState c)))).1)) ∧
   (Ob (ok (B_SameFloats (val (F_RunAll (val (R06_Copy c)) (val (L06_raw l)))).1 (val (R06_Floats (val (R06_Through c (val (R06_Numbers (val (L06_raw l)))) (val (R06_NewState c)))).1)))) ∧
   Br (!val (B_SameFloats (val (F_RunAll (val (R06_Copy c)) (val (L06_raw l)))).1 (val (R06_Floats (val (R06_Through c (val (R06_Numbers (val (L06_raw l)))) (val (R06_NewState c)))).1))))
   ((Ob (True) ∧
   (Ob (false = r) ∧
   True)))
   (Br ((val (F_RunAll (val (R06_Copy c)) (val (L06_raw l)))).2.1 != (val (R06_Through c (val (R06_Numbers (val (L06_raw l)))) (val (R06_NewState c)))).2.2)
   ((Ob (True) ∧
   (Ob (false = r) ∧
   True)))
   ((Ob ((0 : Int) ≤ (0 : Int) ∧ (0 : Int) < (↑(2 : Nat) : Int)) ∧
   (Ob (True) ∧
   Br (!(decide ((-32767 : Int) ≤ x_0) && decide (x_0 ≤ (32767 : Int))))
   (Br (Sx06.impE (val (R06_Copy c)) x_0 x_1 == (2 : Int))
   ((Ob (True) ∧
   (Ob (((↑(List.length (Sx06.impL (val (R06_Copy c)) x_0 x_1)) : Int) == (0 : Int)) = r) ∧
   True)))
   ((Ob (True) ∧
   (Ob (false = r) ∧
   True))))
   ((Ob ((0 : Int) ≤ (1 : Int) ∧ (1 : Int) < (↑(2 : Nat) : Int)) ∧
   (Ob (True) ∧
   Br (!(decide ((0 : Int) ≤ x_1) && decide (x_1 ≤ (1024 : Int))))
   (Br (Sx06.impE (val (R06_Copy c)) x_0 x_1 == (2 : Int))
   ((Ob (True) ∧
   (Ob (((↑(List.length (Sx06.impL (val (R06_Copy c)) x_0 x_1)) : Int) == (0 : Int)) = r) ∧
   True)))
   ((Ob (True) ∧
   (Ob (false = r) ∧
   True))))
   ((Ob ((0 : Int) ≤ (1 : Int) ∧ (1 : Int) < (↑(2 : Nat) : Int)) ∧
   (Ob ((0 : Int) ≤ x_1 ∧ x_1 = x_1 ∧ (↑(8 : Nat) : Int) * x_1 ≤ (281474976710656 : Int) ∧ x_1 ≤ (9223372036854775807 : Int)) ∧
   (Ob ((0 : Int) ≤ (1 : Int) ∧ (1 : Int) < (↑(2 : Nat) : Int)) ∧
   Br (decide (x_1 > (0 : Int)))
   ((Ob ((0 : Int) ≤ (0 : Int) ∧ (0 : Int) < (↑(2 : Nat) : Int)) ∧
   (Ob ((0 : Int) ≤ (0 : Int) ∧ (0 : Int) < (↑(List.length (List.replicate (Int.toNat x_1) (0 : Int))) : Int)) ∧
   (Ob ((0 : Nat) < List.length (List.replicate (Int.toNat x_1) (0 : Int))) ∧
   (Ob (ok (R06_NewState c)) ∧
   (Ob (ok (R06_Through c (List.set (List.replicate (Int.toNat x_1) (0 : Int)) (0 : Nat) x_0) (val (R06_NewState c)))) ∧
   Br (Sx06.impE (val (R06_Copy c)) x_0 x_1 == (0 : Int))
   ((Ob (List.length (Sx06.impL (val (R06_Copy c)) x_0 x_1) ≤ (1000000000 : Nat)) ∧
   (Ob (True) ∧
   (Ob (decide (Sx06.impL (val (R06_Copy c)) x_0 x_1 = (val (R06_Through c (List.set (List.replicate (Int.toNat x_1) (0 : Int)) (0 : Nat) x_0) (val (R06_NewState c)))).1) = r) ∧
   True))))
   ((Ob (True) ∧
   (Ob (false = r) ∧
   True)))))))))
   ((Ob (ok (R06_NewState c)) ∧
   (Ob (ok (R06_Through c (List.replicate (Int.toNat x_1) (0 : Int)) (val (R06_NewState c)))) ∧
   Br (Sx06.impE (val (R06_Copy c)) x_0 x_1 == (0 : Int))
   ((Ob (List.length (Sx06.impL (val (R06_Copy c)) x_0 x_1) ≤ (1000000000 : Nat)) ∧
   (Ob (True) ∧
   (Ob (decide (Sx06.impL (val (R06_Copy c)) x_0 x_1 = (val (R06_Through c (List.replicate (Int.toNat x_1) (0 : Int)) (val (R06_NewState c)))).1) = r) ∧
   True))))
   ((Ob (True) ∧
   (Ob (false = r) ∧
   True)))))))))))))))))))))))))
   ((Ob ((0 : Int) ≤ (0 : Int) ∧ (0 : Int) < (↑(2 : Nat) : Int)) ∧
   (Ob (True) ∧
   Br (!(decide ((-32767 : Int) ≤ x_0) && decide (x_0 ≤ (32767 : Int))))
   (Br (Sx06.impE (val (R06_Copy c)) x_0 x_1 == (2 : Int))
   ((Ob (True) ∧
   (Ob (((↑(List.length (Sx06.impL (val (R06_Copy c)) x_0 x_1)) : Int) == (0 : Int)) = r) ∧
   True)))
   ((Ob (True) ∧
   (Ob (false = r) ∧
   True))))
   ((Ob ((0 : Int) ≤ (1 : Int) ∧ (1 : Int) < (↑(2 : Nat) : Int)) ∧
   (Ob (True) ∧
   Br (!(decide ((0 : Int) ≤ x_1) && decide (x_1 ≤ (1024 : Int))))
   (Br (Sx06.impE (val (R06_Copy c)) x_0 x_1 == (2 : Int))
   ((Ob (True) ∧
   (Ob (((↑(List.length (Sx06.impL (val (R06_Copy c)) x_0 x_1)) : Int) == (0 : Int)) = r) ∧
   True)))
   ((Ob (True) ∧
   (Ob (false = r) ∧
   True))))
   ((Ob ((0 : Int) ≤ (1 : Int) ∧ (1 : Int) < (↑(2 : Nat) : Int)) ∧
   (Ob ((0 : Int) ≤ x_1 ∧ x_1 = x_1 ∧ (↑(8 : Nat) : Int) * x_1 ≤ (281474976710656 : Int) ∧ x_1 ≤ (9223372036854775807 : Int)) ∧
   (Ob ((0 : Int) ≤ (1 : Int) ∧ (1 : Int) < (↑(2 : Nat) : Int)) ∧
   Br (decide (x_1 > (0 : Int)))
   ((Ob ((0 : Int) ≤ (0 : Int) ∧ (0 : Int) < (↑(2 : Nat) : Int)) ∧
   (Ob ((0 : Int) ≤ (0 : Int) ∧ (0 : Int) < (↑(List.length (List.replicate (Int.toNat x_1) (0 : Int))) : Int)) ∧
   (Ob ((0 : Nat) < List.length (List.replicate (Int.toNat x_1) (0 : Int))) ∧
   (Ob (ok (R06_NewState c)) ∧
   (Ob (ok (R06_Through c (List.set (List.replicate (Int.toNat x_1) (0 : Int)) (0 : Nat) x_0) (val (R06_NewState c)))) ∧
   Br (Sx06.impE (val (R06_Copy c)) x_0 x_1 == (0 : Int))
   ((Ob (List.length (Sx06.impL (val (R06_Copy c)) x_0 x_1) ≤ (1000000000 : Nat)) ∧
   (Ob (True) ∧
   (Ob (decide (Sx06.impL (val (R06_Copy c)) x_0 x_1 = (val (R06_Through c (List.set (List.replicate (Int.toNat x_1) (0 : Int)) (0 : Nat) x_0) (val (R06_NewState c)))).1) = r) ∧
   True))))
   ((Ob (True) ∧
   (Ob (false = r) ∧
   True)))))))))
   ((Ob (ok (R06_NewState c)) ∧
   (Ob (ok (R06_Through c (List.replicate (Int.toNat x_1) (0 : Int)) (val (R06_NewState c)))) ∧
   Br (Sx06.impE (val (R06_Copy c)) x_0 x_1 == (0 : Int))
   ((Ob (List.length (Sx06.impL (val (R06_Copy c)) x_0 x_1) ≤ (1000000000 : Nat)) ∧
   (Ob (True) ∧
   (Ob (decide (Sx06.impL (val (R06_Copy c)) x_0 x_1 = (val (R06_Through c (List.replicate (Int.toNat x_1) (0 : Int)) (val (R06_NewState c)))).1) = r) ∧
   True))))
   ((Ob (True) ∧
   (Ob (false = r) ∧
   True))))))))))))))))))))
   (Br (val (R06_SamplesErr (val (L06_raw l))) == (0 : Int))
   ((Ob (ok (L06_raw l)) ∧
   (Ob (ok (R06_Numbers (val (L06_raw l)))) ∧
   (Ob (ok (R06_NewState c)) ∧
   (Ob (ok (R06_Through c (val (R06_Numbers (val (L06_raw l)))) (val (R06_NewState c)))) ∧
   Br ((val (F_RunAll (val (R06_Copy c)) (val (L06_raw l)))).2.2 != (0 : Int))
   ((Ob (True) ∧
   (Ob (false = r) ∧
   True)))
   ((Ob (ok (R06_Floats (val (R06_Through c (val (R06_Numbers (val (L06_raw l)))) (val (R06_NewState c)))).1)) ∧
   (Ob (ok (B_SameFloats (val (F_RunAll (val (R06_Copy c)) (val (L06_raw l)))).1 (val (R06_Floats (val (R06_Through c (val (R06_Numbers (val (L06_raw l)))) (val (R06_NewState c)))).1)))) ∧
   Br (!val (B_SameFloats (val (F_RunAll (val (R06_Copy c)) (val (L06_raw l)))).1 (val (R06_Floats (val (R06_Through c (val (R06_Numbers (val (L06_raw l)))) (val (R06_NewState c)))).1))))
   ((Ob (True) ∧
   (Ob (false = r) ∧
   True)))
   (Br ((val (F_RunAll (val (R06_Copy c)) (val (L06_raw l)))).2.1 != (val (R06_Through c (val (R06_Numbers (val (L06_raw l)))) (val (R06_NewState c)))).2.2)
   ((Ob (True) ∧
   (Ob (false = r) ∧
   True)))
   ((Ob ((0 : Int) ≤ (0 : Int) ∧ (0 : Int) < (↑(2 : Nat) : Int)) ∧
   (Ob (True) ∧
   Br (!(decide ((-32767 : Int) ≤ x_0) && decide (x_0 ≤ (32767 : Int))))
   (Br (Sx06.impE (val (R06_Copy c)) x_0 x_1 == (2 : Int))
   ((Ob (True) ∧
   (Ob (((↑(List.length (Sx06.impL (val (R06_Copy c)) x_0 x_1)) : Int) == (0 : Int)) = r) ∧
   True)))
   ((Ob (True) ∧
   (Ob (false = r) ∧
   True))))
   ((Ob ((0 : Int) ≤ (1 : Int) ∧ (1 : Int) < (↑(2 : Nat) : Int)) ∧
   (Ob (True) ∧
   Br (!(decide ((0 : Int) ≤ x_1) && decide (x_1 ≤ (1024 : Int))))
   (Br (Sx06.impE (val (R06_Copy c)) x_0 x_1 == (2 : Int))
   ((Ob (True) ∧
   (Ob (((↑(List.length (Sx06.impL (val (R06_Copy c)) x_0 x_1)) : Int) == (0 : Int)) = r) ∧
   True)))
   ((Ob (True) ∧
   (Ob (false = r) ∧
   True))))
   ((Ob ((0 : Int) ≤ (1 : Int) ∧ (1 : Int) < (↑(2 : Nat) : Int)) ∧
   (Ob ((0 : Int) ≤ x_1 ∧ x_1 = x_1 ∧ (↑(8 : Nat) : Int) * x_1 ≤ (281474976710656 : Int) ∧ x_1 ≤ (9223372036854775807 : Int)) ∧
   (Ob ((0 : Int) ≤ (1 : Int) ∧ (1 : Int) < (↑(2 : Nat) : Int)) ∧
   Br (decide (x_1 > (0 : Int)))
   ((Ob ((0 : Int) ≤ (0 : Int) ∧ (0 : Int) < (↑(2 : Nat) : Int)) ∧
   (Ob ((0 : Int) ≤ (0 : Int) ∧ (0 : Int) < (↑(List.length (List.replicate (Int.toNat x_1) (0 : Int))) : Int)) ∧
   (Ob ((0 : Nat) < List.length (List.replicate (Int.toNat x_1) (0 : Int))) ∧
   (Ob (ok (R06_NewState c)) ∧
   (Ob (ok (R06_Through c (List.set (List.replicate (Int.toNat x_1) (0 : Int)) (0 : Nat) x_0) (val (R06_NewState c)))) ∧
   Br (Sx06.impE (val (R06_Copy c)) x_0 x_1 == (0 : Int))
   ((Ob (List.length (Sx06.impL (val (R06_Copy c)) x_0 x_1) ≤ (1000000000 : Nat)) ∧
   (Ob (True) ∧
   (Ob (decide (Sx06.impL (val (R06_Copy c)) x_0 x_1 = (val (R06_Through c (List.set (List.replicate (Int.toNat x_1) (0 : Int)) (0 : Nat) x_0) (val (R06_NewState c)))).1) = r) ∧
   True))))
   ((Ob (True) ∧
   (Ob (false = r) ∧
   True)))))))))
   ((Ob (ok (R06_NewState c)) ∧
   (Ob (ok (R06_Through c (List.replicate (Int.toNat x_1) (0 : Int)) (val (R06_NewState c)))) ∧
   Br (Sx06.impE (val (R06_Copy c)) x_0 x_1 == (0 : Int))
   ((Ob (List.length (Sx06.impL (val (R06_Copy c)) x_0 x_1) ≤ (1000000000 : Nat)) ∧
   (Ob (True) ∧
   (Ob (decide (Sx06.impL (val (R06_Copy c)) x_0 x_1 = (val (R06_Through c (List.replicate (Int.toNat x_1) (0 : Int)) (val (R06_NewState c)))).1) = r) ∧
   True))))
   ((Ob (True) ∧
   (Ob (false = r) ∧
   True)))))))))))))))))))))))))
   ((Ob ((0 : Int) ≤ (0 : Int) ∧ (0 : Int) < (↑(2 : Nat) : Int)) ∧
   (Ob (True) ∧
   Br (!(decide ((-32767 : Int) ≤ x_0) && decide (x_0 ≤ (32767 : Int))))
   (Br (Sx06.impE (val (R06_Copy c)) x_0 x_1 == (2 : Int))
   ((Ob (True) ∧
   (Ob (((↑(List.length (Sx06.impL (val (R06_Copy c)) x_0 x_1)) : Int) == (0 : Int)) = r) ∧
   True)))
   ((Ob (True) ∧
   (Ob (false = r) ∧
   True))))
   ((Ob ((0 : Int) ≤ (1 : Int) ∧ (1 : Int) < (↑(2 : Nat) : Int)) ∧
   (Ob (True) ∧
   Br (!(decide ((0 : Int) ≤ x_1) && decide (x_1 ≤ (1024 : Int))))
   (Br (Sx06.impE (val (R06_Copy c)) x_0 x_1 == (2 : Int))
   ((Ob (True) ∧
   (Ob (((↑(List.length (Sx06.impL (val (R06_Copy c)) x_0 x_1)) : Int) == (0 : Int)) = r) ∧
   True)))
   ((Ob (True) ∧
   (Ob (false = r) ∧
   True))))
   ((Ob ((0 : Int) ≤ (1 : Int) ∧ (1 : Int) < (↑(2 : Nat) : Int)) ∧
   (Ob ((0 : Int) ≤ x_1 ∧ x_1 = x_1 ∧ (↑(8 : Nat) : Int) * x_1 ≤ (281474976710656 : Int) ∧ x_1 ≤ (9223372036854775807 : Int)) ∧
   (Ob ((0 : Int) ≤ (1 : Int) ∧ (1 : Int) < (↑(2 : Nat) : Int)) ∧
   Br (decide (x_1 > (0 : Int)))
   ((Ob ((0 : Int) ≤ (0 : Int) ∧ (0 : Int) < (↑(2 : Nat) : Int)) ∧
   (Ob ((0 : Int) ≤ (0 : Int) ∧ (0 : Int) < (↑(List.length (List.replicate (Int.toNat x_1) (0 : Int))) : Int)) ∧
   (Ob ((0 : Nat) < List.length (List.replicate (Int.toNat x_1) (0 : Int))) ∧
   (Ob (ok (R06_NewState c)) ∧
   (Ob (ok (R06_Through c (List.set (List.replicate (Int.toNat x_1) (0 : Int)) (0 : Nat) x_0) (val (R06_NewState c)))) ∧
   Br (Sx06.impE (val (R06_Copy c)) x_0 x_1 == (0 : Int))
   ((Ob (List.length (Sx06.impL (val (R06_Copy c)) x_0 x_1) ≤ (1000000000 : Nat)) ∧
   (Ob (True) ∧
   (Ob (decide (Sx06.impL (val (R06_Copy c)) x_0 x_1 = (val (R06_Through c (List.set (List.replicate (Int.toNat x_1) (0 : Int)) (0 : Nat) x_0) (val (R06_NewState c)))).1) = r) ∧
   True))))
   ((Ob (True) ∧
   (Ob (false = r) ∧
   True)))))))))
   ((Ob (ok (R06_NewState c)) ∧
   (Ob (ok (R06_Through c (List.replicate (Int.toNat x_1) (0 : Int)) (val (R06_NewState c)))) ∧
   Br (Sx06.impE (val (R06_Copy c)) x_0 x_1 == (0 : Int))
   ((Ob (List.length (Sx06.impL (val (R06_Copy c)) x_0 x_1) ≤ (1000000000 : Nat)) ∧
   (Ob (True) ∧
   (Ob (decide (Sx06.impL (val (R06_Copy c)) x_0 x_1 = (val (R06_Through c (List.replicate (Int.toNat x_1) (0 : Int)) (val (R06_NewState c)))).1) = r) ∧
   True))))
   ((Ob (True) ∧
   (Ob (false = r) ∧
   True))))))))))))))))))))))))))))))))))
   (Br (decide ((↑(List.length l) : Int) > (1026 : Int)))
   ((Ob (True) ∧
   (Ob (true = r) ∧
   True)))
   ((Ob ((0 : Int) ≤ (1 : Int) ∧ (1 : Int) < (↑(2 : Nat) : Int)) ∧
   Br (decide (x_1 > (100 : Int)))
   ((Ob ((0 : Int) ≤ (1 : Int) ∧ (1 : Int) < (↑(2 : Nat) : Int)) ∧
   Br (decide (x_1 ≤ (1024 : Int)))
   ((Ob (True) ∧
   (Ob (true = r) ∧
   True)))
   ((Ob (ok (R06_Copy c)) ∧
   (Ob (ok (L06_raw l)) ∧
   (Ob (ok (F_RunAll (val (R06_Copy c)) (val (L06_raw l)))) ∧
   (Ob (ok (R06_Copy c)) ∧
   (Ob ((0 : Int) ≤ (0 : Int) ∧ (0 : Int) < (↑(2 : Nat) : Int)) ∧
   (Ob ((0 : Int) ≤ (1 : Int) ∧ (1 : Int) < (↑(2 : Nat) : Int)) ∧
   (Ob (List.length (val (R06_Copy c)) ≤ (1000000000 : Nat)) ∧
   (Ob (ok (R06_CheckCascade c)) ∧
   Br ((val (R06_CheckCascade c)).2 != (0 : Int))
   (Br ((val (F_RunAll (val (R06_Copy c)) (val (L06_raw l)))).2.2 == (val (R06_CheckCascade c)).2)
   (Br (Sx06.impE (val (R06_Copy c)) x_0 x_1 == (val (R06_CheckCascade c)).2)
   (Br (IntKind.wrap IntKind.i64 ((↑(List.length (val (F_RunAll (val (R06_Copy c)) (val (L06_raw l)))).1) : Int) + (↑(List.length (Sx06.impL (val (R06_Copy c)) x_0 x_1)) : Int)) == (0 : Int))
   ((Ob (True) ∧
   (Ob (((val (F_RunAll (val (R06_Copy c)) (val (L06_raw l)))).2.1 == (0 : Int)) = r) ∧
   True)))
   ((Ob (True) ∧
   (Ob (false = r) ∧
   True))))
   ((Ob (True) ∧
   (Ob (false = r) ∧
   True))))
   ((Ob (True) ∧
   (Ob (false = r) ∧
   True))))
   (Br (decide ((↑(List.length l) : Int) > (1024 : Int)))
   (Br ((val (F_RunAll (val (R06_Copy c)) (val (L06_raw l)))).2.2 != (8 : Int))
   ((Ob (True) ∧
   (Ob (false = r) ∧
   True)))
   (Br ((↑(List.length (val (F_RunAll (val (R06_Copy c)) (val (L06_raw l)))).1) : Int) != (0 : Int))
   ((Ob (True) ∧
   (Ob (false = r) ∧
   True)))
   (Br ((val (F_RunAll (val (R06_Copy c)) (val (L06_raw l)))).2.1 != (0 : Int))
   ((Ob (True) ∧
   (Ob (false = r) ∧
   True)))
   ((Ob ((0 : Int) ≤ (0 : Int) ∧ (0 : Int) < (↑(2 : Nat) : Int)) ∧
   (Ob (True) ∧
   Br (!(decide ((-32767 : Int) ≤ x_0) && decide (x_0 ≤ (32767 : Int))))
   (Br (Sx06.impE (val (R06_Copy c)) x_0 x_1 == (2 : Int))
   ((Ob (True) ∧
   (Ob (((↑(List.length (Sx06.impL (val (R06_Copy c)) x_0 x_1)) : Int) == (0 : Int)) = r) ∧
   True)))
   ((Ob (True) ∧
   (Ob (false = r) ∧
   True))))
   ((Ob ((0 : Int) ≤ (1 : Int) ∧ (1 : Int) < (↑(2 : Nat) : Int)) ∧
   (Ob (True) ∧
   Br (!(decide ((0 : Int) ≤ x_1) && decide (x_1 ≤ (1024 : Int))))
   (Br (Sx06.impE (val (R06_Copy c)) x_0 x_1 == (2 : Int))
   ((Ob (True) ∧
   (Ob (((↑(List.length (Sx06.impL (val (R06_Copy c)) x_0 x_1)) : Int) == (0 : Int)) = r) ∧
   True)))
   ((Ob (True) ∧
   (Ob (false = r) ∧
   True))))
   ((Ob ((0 : Int) ≤ (1 : Int) ∧ (1 : Int) < (↑(2 : Nat) : Int)) ∧
   (Ob ((0 : Int) ≤ x_1 ∧ x_1 = x_1 ∧ (↑(8 : Nat) : Int) * x_1 ≤ (281474976710656 : Int) ∧ x_1 ≤ (9223372036854775807 : Int)) ∧
   (Ob ((0 : Int) ≤ (1 : Int) ∧ (1 : Int) < (↑(2 : Nat) : Int)) ∧
   Br (decide (x_1 > (0 : Int)))
   ((Ob ((0 : Int) ≤ (0 : Int) ∧ (0 : Int) < (↑(2 : Nat) : Int)) ∧
   (Ob ((0 : Int) ≤ (0 : Int) ∧ (0 : Int) < (↑(List.length (List.replicate (Int.toNat x_1) (0 : Int))) : Int)) ∧
   (Ob ((0 : Nat) < List.length (List.replicate (Int.toNat x_1) (0 : Int))) ∧
   (Ob (ok (R06_NewState c)) ∧
   (Ob (ok (R06_Through c (List.set (List.replicate (Int.toNat x_1) (0 : Int)) (0 : Nat) x_0) (val (R06_NewState c)))) ∧
   Br (Sx06.impE (val (R06_Copy c)) x_0 x_1 == (0 : Int))
   ((Ob (List.length (Sx06.impL (val (R06_Copy c)) x_0 x_1) ≤ (1000000000 : Nat)) ∧
   (Ob (True) ∧
   (Ob (decide (Sx06.impL (val (R06_Copy c)) x_0 x_1 = (val (R06_Through c (List.set (List.replicate (Int.toNat x_1) (0 : Int)) (0 : Nat) x_0) (val (R06_NewState c)))).1) = r) ∧
   True))))
   ((Ob (True) ∧
   (Ob (false = r) ∧
   True)))))))))
   ((Ob (ok (R06_NewState c)) ∧
   (Ob (ok (R06_Through c (List.replicate (Int.toNat x_1) (0 : Int)) (val (R06_NewState c)))) ∧
   Br (Sx06.impE (val (R06_Copy c)) x_0 x_1 == (0 : Int))
   ((Ob (List.length (Sx06.impL (val (R06_Copy c)) x_0 x_1) ≤ (1000000000 : Nat)) ∧
   (Ob (True) ∧
   (Ob (decide (Sx06.impL (val (R06_Copy c)) x_0 x_1 = (val (R06_Through c (List.replicate (Int.toNat x_1) (0 : Int)) (val (R06_NewState c)))).1) = r) ∧
   True))))
   ((Ob (True) ∧
   (Ob (false = r) ∧
   True)))))))))))))))))))
   ((Ob (ok (L06_raw l)) ∧
   (Ob (ok (R06_SamplesErr (val (L06_raw l)))) ∧
   Br (val (R06_SamplesErr (val (L06_raw l))) != (0 : Int))
   (Br ((val (F_RunAll (val (R06_Copy c)) (val (L06_raw l)))).2.2 != val (R06_SamplesErr (val (L06_raw l))))
   ((Ob (True) ∧
   (Ob (false = r) ∧
   True)))
   (Br ((↑(List.length (val (F_RunAll (val (R06_Copy c)) (val (L06_raw l)))).1) : Int) != (0 : Int))
   ((Ob (True) ∧
   (Ob (false = r) ∧
   True)))
   (Br ((val (F_RunAll (val (R06_Copy c)) (val (L06_raw l)))).2.1 != (0 : Int))
   ((Ob (True) ∧
   (Ob (false = r) ∧
   True)))
   (Br (val (R06_SamplesErr (val (L06_raw l))) == (0 : Int))
   ((Ob (ok (L06_raw l)) ∧
   (Ob (ok (R06_Numbers (val (L06_raw l)))) ∧
   (Ob (ok (R06_NewState c)) ∧
   (Ob (ok (R06_Through c (val (R06_Numbers (val (L06_raw l)))) (val (R06_NewState c)))) ∧
   Br ((val (F_RunAll (val (R06_Copy c)) (val (L06_raw l)))).2.2 != (0 : Int))
   ((Ob (True) ∧
   (Ob (false = r) ∧
   True)))
   ((Ob (ok (R06_Floats (val (R06_Through c (val (R06_Numbers (val (L06_raw l)))) (val (R06_NewState c)))).1)) ∧
   (Ob (ok (B_SameFloats (val (F_RunAll (val (R06_Copy c)) (val (L06_raw l)))).1 (val (R06_Floats (val (R06_Through c (val (R06_Numbers (val (L06_raw l)))) (val (R06_NewState c)))).1)))) ∧
   Br (!val (B_SameFloats (val (F_RunAll (val (R06_Copy c)) (val (L06_raw l)))).1 (val (R06_Floats (val (R06_Through c (val (R06_Numbers (val (L06_raw l)))) (val (R06_NewState c)))).1))))
   ((Ob (True) ∧
   (Ob (false = r) ∧
   True)))
   (Br ((val (F_RunAll (val (R06_Copy c)) (val (L06_raw l)))).2.1 != (val (R06_Through c (val (R06_Numbers (val (L06_raw l)))) (val (R06_NewState c)))).2.2)
   ((Ob (True) ∧
   (Ob (false = r) ∧
   True)))
   ((Ob ((0 : Int) ≤ (0 : Int) ∧ (0 : Int) < (↑(2 : Nat) : Int)) ∧
   (Ob (True) ∧
   Br (!(decide ((-32767 : Int) ≤ x_0) && decide (x_0 ≤ (32767 : Int))))
   (Br (Sx06.impE (val (R06_Copy c)) x_0 x_1 == (2 : Int))
   ((Ob (True) ∧
   (Ob (((↑(List.length (Sx06.impL (val (R06_Copy c)) x_0 x_1)) : Int) == (0 : Int)) = r) ∧
   True)))
   ((Ob (True) ∧
   (Ob (false = r) ∧
   True))))
   ((Ob ((0 : Int) ≤ (1 : Int) ∧ (1 : Int) < (↑(2 : Nat) : Int)) ∧
   (Ob (True) ∧
   Br (!(decide ((0 : Int) ≤ x_1) && decide (x_1 ≤ (1024 : Int))))
   (Br (Sx06.impE (val (R06_Copy c)) x_0 x_1 == (2 : Int))
   ((Ob (True) ∧
   (Ob (((↑(List.length (Sx06.impL (val (R06_Copy c)) x_0 x_1)) : Int) == (0 : Int)) = r) ∧
   True)))
   ((Ob (True) ∧
   (Ob (false = r) ∧
   True))))
   ((Ob ((0 : Int) ≤ (1 : Int) ∧ (1 : Int) < (↑(2 : Nat) : Int)) ∧
   (Ob ((0 : Int) ≤ x_1 ∧ x_1 = x_1 ∧ (↑(8 : Nat) : Int) * x_1 ≤ (281474976710656 : Int) ∧ x_1 ≤ (9223372036854775807 : Int)) ∧
   (Ob ((0 : Int) ≤ (1 : Int) ∧ (1 : Int) < (↑(2 : Nat) : Int)) ∧
   Br (decide (x_1 > (0 : Int)))
   ((Ob ((0 : Int) ≤ (0 : Int) ∧ (0 : Int) < (↑(2 : Nat) : Int)) ∧
   (Ob ((0 : Int) ≤ (0 : Int) ∧ (0 : Int) < (↑(List.length (List.replicate (Int.toNat x_1) (0 : Int))) : Int)) ∧
   (Ob ((0 : Nat) < List.length (List.replicate (Int.toNat x_1) (0 : Int))) ∧
   (Ob (ok (R06_NewState c)) ∧
   (Ob (ok (R06_Through c (List.set (List.replicate (Int.toNat x_1) (0 : Int)) (0 : Nat) x_0) (val (R06_NewState c)))) ∧
   Br (Sx06.impE (val (R06_Copy c)) x_0 x_1 == (0 : Int))
   ((Ob (List.length (Sx06.impL (val (R06_Copy c)) x_0 x_1) ≤ (1000000000 : Nat)) ∧
   (Ob (True) ∧
   (Ob (decide (Sx06.impL (val (R06_Copy c)) x_0 x_1 = (val (R06_Through c (List.set (List.replicate (Int.toNat x_1) (0 : Int)) (0 : Nat) x_0) (val (R06_NewState c)))).1) = r) ∧
   True))))
   ((Ob (True) ∧
   (Ob (false = r) ∧
   True)))))))))
   ((Ob (ok (R06_NewState c)) ∧
   (Ob (ok (R06_Through c (List.replicate (Int.toNat x_1) (0 : Int)) (val (R06_NewState c)))) ∧
   Br (Sx06.impE (val (R06_Copy c)) x_0 x_1 == (0 : Int))
   ((Ob (List.length (Sx06.impL (val (R06_Copy c)) x_0 x_1) ≤ (1000000000 : Nat)) ∧
   (Ob (True) ∧
   (Ob (decide (Sx06.impL (val (R06_Copy c)) x_0 x_1 = (val (R06_Through c (List.replicate (Int.toNat x_1) (0 : Int)) (val (R06_NewState c)))).1) = r) ∧
   True))))
   ((Ob (True) ∧
   (Ob (false = r) ∧
   True)))))))))))))))))))))))))
   ((Ob ((0 : Int) ≤ (0 : Int) ∧ (0 : Int) < (↑(2 : Nat) : Int)) ∧
   (Ob (True) ∧
   Br (!(decide ((-32767 : Int) ≤ x_0) && decide (x_0 ≤ (32767 : Int))))
   (Br (Sx06.impE (val (R06_Copy c)) x_0 x_1 == (2 : Int))
   ((Ob (True) ∧
   (Ob (((↑(List.length (Sx06.impL (val (R06_Copy c)) x_0 x_1)) : Int) == (0 : Int)) = r) ∧
   True)))
   ((Ob (True) ∧
   (Ob (false = r) ∧
   True))))
   ((Ob ((0 : Int) ≤ (1 : Int) ∧ (1 : Int) < (↑(2 : Nat) : Int)) ∧
   (Ob (True) ∧
   Br (!(decide ((0 : Int) ≤ x_1) && decide (x_1 ≤ (1024 : Int))))
   (Br (Sx06.impE (val (R06_Copy c)) x_0 x_1 == (2 : Int))
   ((Ob (True) ∧
   (Ob (((↑(List.length (Sx06.impL (val (R06_Copy c)) x_0 x_1)) : Int) == (0 : Int)) = r) ∧
   True)))
   ((Ob (True) ∧
   (Ob (false = r) ∧
   True))))
   ((Ob ((0 : Int) ≤ (1 : Int) ∧ (1 : Int) < (↑(2 : Nat) : Int)) ∧
   (Ob ((0 : Int) ≤ x_1 ∧ x_1 = x_1 ∧ (↑(8 : Nat) : Int) * x_1 ≤ (281474976710656 : Int) ∧ x_1 ≤ (9223372036854775807 : Int)) ∧
   (Ob ((0 : Int) ≤ (1 : Int) ∧ (1 : Int) < (↑(2 : Nat) : Int)) ∧
   Br (decide (x_1 > (0 : Int)))
   ((Ob ((0 : Int) ≤ (0 : Int) ∧ (0 : Int) < (↑(2 : Nat) : Int)) ∧
   (Ob ((0 : Int) ≤ (0 : Int) ∧ (0 : Int) < (↑(List.length (List.replicate (Int.toNat x_1) (0 : Int))) : Int)) ∧
   (Ob ((0 : Nat) < List.length (List.replicate (Int.toNat x_1) (0 : Int))) ∧
   (Ob (ok (R06_NewState c)) ∧
   (Ob (ok (R06_Through c (List.set (List.replicate (Int.toNat x_1) (0 : Int)) (0 : Nat) x_0) (val (R06_NewState c)))) ∧
   Br (Sx06.impE (val (R06_Copy c)) x_0 x_1 == (0 : Int))
   ((Ob (List.length (Sx06.impL (val (R06_Copy c)) x_0 x_1) ≤ (1000000000 : Nat)) ∧
   (Ob (True) ∧
   (Ob (decide (Sx06.impL (val (R06_Copy c)) x_0 x_1 = (val (R06_Through c (List.set (List.replicate (Int.toNat x_1) (0 : Int)) (0 : Nat) x_0) (val (R06_NewState c)))).1) = r) ∧
   True))))
   ((Ob (True) ∧
   (Ob (false = r) ∧
   True)))))))))
   ((Ob (ok (R06_NewState c)) ∧
   (Ob (ok (R06_Through c (List.replicate (Int.toNat x_1) (0 : Int)) (val (R06_NewState c)))) ∧
   Br (Sx06.impE (val (R06_Copy c)) x_0 x_1 == (0 : Int))
   ((Ob (List.length (Sx06.impL (val (R06_Copy c)) x_0 x_1) ≤ (1000000000 : Nat)) ∧
   (Ob (True) ∧
   (Ob (decide (Sx06.impL (val (R06_Copy c)) x_0 x_1 = (val (R06_Through c (List.replicate (Int.toNat x_1) (0 : Int)) (val (R06_NewState c)))).1) = r) ∧
   True))))
   ((Ob (True) ∧
   (Ob (false = r) ∧
   True))))))))))))))))))))
   (Br (val (R06_SamplesErr (val (L06_raw l))) == (0 : Int))
   ((Ob (ok (L06_raw l)) ∧
   (Ob (ok (R06_Numbers (val (L06_raw l)))) ∧
   (Ob (ok (R06_NewState c)) ∧
   (Ob (ok (R06_Through c (val (R06_Numbers (val (L06_raw l)))) (val (R06_NewState c)))) ∧
   Br ((val (F_RunAll (val (R06_Copy c)) (val (L06_raw l)))).2.2 != (0 : Int))
   ((Ob (True) ∧
   (Ob (false = r) ∧
   True)))
   ((Ob (ok (R06_Floats (val (R06_Through c (val (R06_Numbers (val (L06_raw l)))) (val (R06_NewState c)))).1)) ∧
   (Ob (ok (B_SameFloats (val (F_RunAll (val (R06_Copy c)) (val (L06_raw l)))).1 (val (R06_Floats (val (R06_Through c (val (R06_Numbers (val (L06_raw l)))) (val (R06_NewState c)))).1)))) ∧
   Br (!val (B_SameFloats (val (F_RunAll (val (R06_Copy c)) (val (L06_raw l)))).1 (val (R06_Floats (val (R06_Through c (val (R06_Numbers (val (L06_raw l)))) (val (R06_NewState c)))).1))))
   ((Ob (True) ∧
   (Ob (false = r) ∧
   True)))
   (Br ((val (F_RunAll (val (R06_Copy c)) (val (L06_raw l)))).2.1 != (val (R06_Through c (val (R06_Numbers (val (L06_raw l)))) (val (R06_NewState c)))).2.2)
   ((Ob (True) ∧
   (Ob (false = r) ∧
   True)))
   ((Ob ((0 : Int) ≤ (0 : Int) ∧ (0 : Int) < (↑(2 : Nat) : Int)) ∧
   (Ob (True) ∧
   Br (!(decide ((-32767 : Int) ≤ x_0) && decide (x_0 ≤ (32767 : Int))))
   (Br (Sx06.impE (val (R06_Copy c)) x_0 x_1 == (2 : Int))
   ((Ob (True) ∧
   (Ob (((↑(List.length (Sx06.impL (val (R06_Copy c)) x_0 x_1)) : Int) == (0 : Int)) = r) ∧
   True)))
   ((Ob (True) ∧
   (Ob (false = r) ∧
   True))))
   ((Ob ((0 : Int) ≤ (1 : Int) ∧ (1 : Int) < (↑(2 : Nat) : Int)) ∧
   (Ob (True) ∧
   Br (!(decide ((0 : Int) ≤ x_1) && decide (x_1 ≤ (1024 : Int))))
   (Br (Sx06.impE (val (R06_Copy c)) x_0 x_1 == (2 : Int))
   ((Ob (True) ∧
   (Ob (((↑(List.length (Sx06.impL (val (R06_Copy c)) x_0 x_1)) : Int) == (0 : Int)) = r) ∧
   True)))
   ((Ob (True) ∧
   (Ob (false = r) ∧
   True))))
   ((Ob ((0 : Int) ≤ (1 : Int) ∧ (1 : Int) < (↑(2 : Nat) : Int)) ∧
   (Ob ((0 : Int) ≤ x_1 ∧ x_1 = x_1 ∧ (↑(8 : Nat) : Int) * x_1 ≤ (281474976710656 : Int) ∧ x_1 ≤ (9223372036854775807 : Int)) ∧
   (Ob ((0 : Int) ≤ (1 : Int) ∧ (1 : Int) < (↑(2 : Nat) : Int)) ∧
   Br (decide (x_1 > (0 : Int)))
   ((Ob ((0 : Int) ≤ (0 : Int) ∧ (0 : Int) < (↑(2 : Nat) : Int)) ∧
   (Ob ((0 : Int) ≤ (0 : Int) ∧ (0 : Int) < (↑(List.length (List.replicate (Int.toNat x_1) (0 : Int))) : Int)) ∧
   (Ob ((0 : Nat) < List.length (List.replicate (Int.toNat x_1) (0 : Int))) ∧
   (Ob (ok (R06_NewState c)) ∧
   (Ob (ok (R06_Through c (List.set (List.replicate (Int.toNat x_1) (0 : Int)) (0 : Nat) x_0) (val (R06_NewState c)))) ∧
   Br (Sx06.impE (val (R06_Copy c)) x_0 x_1 == (0 : Int))
   ((Ob (List.length (Sx06.impL (val (R06_Copy c)) x_0 x_1) ≤ (1000000000 : Nat)) ∧
   (Ob (True) ∧
   (Ob (decide (Sx06.impL (val (R06_Copy c)) x_0 x_1 = (val (R06_Through c (List.set (List.replicate (Int.toNat x_1) (0 : Int)) (0 : Nat) x_0) (val (R06_NewState c)))).1) = r) ∧
   True))))
   ((Ob (True) ∧
   (Ob (false = r) ∧
   True)))))))))
   ((Ob (ok (R06_NewState c)) ∧
   (Ob (ok (R06_Through c (List.replicate (Int.toNat x_1) (0 : Int)) (val (R06_NewState c)))) ∧
   Br (Sx06.impE (val (R06_Copy c)) x_0 x_1 == (0 : Int))
   ((Ob (List.length (Sx06.impL (val (R06_Copy c)) x_0 x_1) ≤ (1000000000 : Nat)) ∧
   (Ob (True) ∧
   (Ob (decide (Sx06.impL (val (R06_Copy c)) x_0 x_1 = (val (R06_Through c (List.replicate (Int.toNat x_1) (0 : Int)) (val (R06_NewState c)))).1) = r) ∧
   True))))
   ((Ob (True) ∧
   (Ob (false = r) ∧
   True)))))))))))))))))))))))))
   ((Ob ((0 : Int) ≤ (0 : Int) ∧ (0 : Int) < (↑(2 : Nat) : Int)) ∧
   (Ob (True) ∧
   Br (!(decide ((-32767 : Int) ≤ x_0) && decide (x_0 ≤ (32767 : Int))))
   (Br (Sx06.impE (val (R06_Copy c)) x_0 x_1 == (2 : Int))
   ((Ob (True) ∧
   (Ob (((↑(List.length (Sx06.impL (val (R06_Copy c)) x_0 x_1)) : Int) == (0 : Int)) = r) ∧
   True)))
   ((Ob (True) ∧
   (Ob (false = r) ∧
   True))))
   ((Ob ((0 : Int) ≤ (1 : Int) ∧ (1 : Int) < (↑(2 : Nat) : Int)) ∧
   (Ob (True) ∧
   Br (!(decide ((0 : Int) ≤ x_1) && decide (x_1 ≤ (1024 : Int))))
   (Br (Sx06.impE (val (R06_Copy c)) x_0 x_1 == (2 : Int))
   ((Ob (True) ∧
   (Ob (((↑(List.length (Sx06.impL (val (R06_Copy c)) x_0 x_1)) : Int) == (0 : Int)) = r) ∧
   True)))
   ((Ob (True) ∧
   (Ob (false = r) ∧
   True))))
   ((Ob ((0 : Int) ≤ (1 : Int) ∧ (1 : Int) < (↑(2 : Nat) : Int)) ∧
   (Ob ((0 : Int) ≤ x_1 ∧ x_1 = x_1 ∧ (↑(8 : Nat) : Int) * x_1 ≤ (281474976710656 : Int) ∧ x_1 ≤ (9223372036854775807 : Int)) ∧
   (Ob ((0 : Int) ≤ (1 : Int) ∧ (1 : Int) < (↑(2 : Nat) : Int)) ∧
   Br (decide (x_1 > (0 : Int)))
   ((Ob ((0 : Int) ≤ (0 : Int) ∧ (0 : Int) < (↑(2 : Nat) : Int)) ∧
   (Ob ((0 : Int) ≤ (0 : Int) ∧ (0 : Int) < (↑(List.length (List.replicate (Int.toNat x_1) (0 : Int))) : Int)) ∧
   (Ob ((0 : Nat) < List.length (List.replicate (Int.toNat x_1) (0 : Int))) ∧
   (Ob (ok (R06_NewState c)) ∧
   (Ob (ok (R06_Through c (List.set (List.replicate (Int.toNat x_1) (0 : Int)) (0 : Nat) x_0) (val (R06_NewState c)))) ∧
   Br (Sx06.impE (val (R06_Copy c)) x_0 x_1 == (0 : Int))
   ((Ob (List.length (Sx06.impL (val (R06_Copy c)) x_0 x_1) ≤ (1000000000 : Nat)) ∧
   (Ob (True) ∧
   (Ob (decide (Sx06.impL (val (R06_Copy c)) x_0 x_1 = (val (R06_Through c (List.set (List.replicate (Int.toNat x_1) (0 : Int)) (0 : Nat) x_0) (val (R06_NewState c)))).1) = r) ∧
   True))))
   ((Ob (True) ∧
   (Ob (false = r) ∧
   True)))))))))
   ((Ob (ok (R06_NewState c)) ∧
   (Ob (ok (R06_Through c (List.replicate (Int.toNat x_1) (0 : Int)) (val (R06_NewState c)))) ∧
   Br (Sx06.impE (val (R06_Copy c)) x_0 x_1 == (0 : Int))
   ((Ob (List.length (Sx06.impL (val (R06_Copy c)) x_0 x_1) ≤ (1000000000 : Nat)) ∧
   (Ob (True) ∧
   (Ob (decide (Sx06.impL (val (R06_Copy c)) x_0 x_1 = (val (R06_Through c (List.replicate (Int.toNat x_1) (0 : Int)) (val (R06_NewState c)))).1) = r) ∧
   True))))
   ((Ob (True) ∧
   (Ob (false = r) ∧
   True))))))))))))))))))))))))))))))))
   ((Ob (ok (R06_Copy c)) ∧
   (Ob (ok (L06_raw l)) ∧
   (Ob (ok (F_RunAll (val (R06_Copy c)) (val (L06_raw l)))) ∧
   (Ob (ok (R06_Copy c)) ∧
   (Ob ((0 : Int) ≤ (0 : Int) ∧ (0 : Int) < (↑(2 : Nat) : Int)) ∧
   (Ob ((0 : Int) ≤ (1 : Int) ∧ (1 : Int) < (↑(2 : Nat) : Int)) ∧
   (Ob (List.length (val (R06_Copy c)) ≤ (1000000000 : Nat)) ∧
   (Ob (ok (R06_CheckCascade c)) ∧
   Br ((val (R06_CheckCascade c)).2 != (0 : Int))
   (Br ((val (F_RunAll (val (R06_Copy c)) (val (L06_raw l)))).2.2 == (val (R06_CheckCascade c)).2)
   (Br (Sx06.impE (val (R06_Copy c)) x_0 x_1 == (val (R06_CheckCascade c)).2)
   (Br (IntKind.wrap IntKind.i64 ((↑(List.length (val (F_RunAll (val (R06_Copy c)) (val (L06_raw l)))).1) : Int) + (↑(List.length (Sx06.impL (val (R06_Copy c)) x_0 x_1)) : Int)) == (0 : Int))
   ((Ob (True) ∧
   (Ob (((val (F_RunAll (val (R06_Copy c)) (val (L06_raw l)))).2.1 == (0 : Int)) = r) ∧
   True)))
   ((Ob (True) ∧
   (Ob (false = r) ∧
   True))))
   ((Ob (True) ∧
   (Ob (false = r) ∧
   True))))
   ((Ob (True) ∧
   (Ob (false = r) ∧
   True))))
   (Br (decide ((↑(List.length l) : Int) > (1024 : Int)))
   (Br ((val (F_RunAll (val (R06_Copy c)) (val (L06_raw l)))).2.2 != (8 : Int))
   ((Ob (True) ∧
   (Ob (false = r) ∧
   True)))
   (Br ((↑(List.length (val (F_RunAll (val (R06_Copy c)) (val (L06_raw l)))).1) : Int) != (0 : Int))
   ((Ob (True) ∧
   (Ob (false = r) ∧
   True)))
   (Br ((val (F_RunAll (val (R06_Copy c)) (val (L06_raw l)))).2.1 != (0 : Int))
   ((Ob (True) ∧
   (Ob (false = r) ∧
   True)))
   ((Ob ((0 : Int) ≤ (0 : Int) ∧ (0 : Int) < (↑(2 : Nat) : Int)) ∧
   (Ob (True) ∧
   Br (!(decide ((-32767 : Int) ≤ x_0) && decide (x_0 ≤ (32767 : Int))))
   (Br (Sx06.impE (val (R06_Copy c)) x_0 x_1 == (2 : Int))
   ((Ob (True) ∧
   (Ob (((↑(List.length (Sx06.impL (val (R06_Copy c)) x_0 x_1)) : Int) == (0 : Int)) = r) ∧
   True)))
   ((Ob (True) ∧
   (Ob (false = r) ∧
   True))))
   ((Ob ((0 : Int) ≤ (1 : Int) ∧ (1 : Int) < (↑(2 : Nat) : Int)) ∧
   (Ob (True) ∧
   Br (!(decide ((0 : Int) ≤ x_1) && decide (x_1 ≤ (1024 : Int))))
   (Br (Sx06.impE (val (R06_Copy c)) x_0 x_1 == (2 : Int))
   ((Ob (True) ∧
   (Ob (((↑(List.length (Sx06.impL (val (R06_Copy c)) x_0 x_1)) : Int) == (0 : Int)) = r) ∧
   True)))
   ((Ob (True) ∧
   (Ob (false = r) ∧
   True))))
   ((Ob ((0 : Int) ≤ (1 : Int) ∧ (1 : Int) < (↑(2 : Nat) : Int)) ∧
   (Ob ((0 : Int) ≤ x_1 ∧ x_1 = x_1 ∧ (↑(8 : Nat) : Int) * x_1 ≤ (281474976710656 : Int) ∧ x_1 ≤ (9223372036854775807 : Int)) ∧
   (Ob ((0 : Int) ≤ (1 : Int) ∧ (1 : Int) < (↑(2 : Nat) : Int)) ∧
   Br (decide (x_1 > (0 : Int)))
   ((Ob ((0 : Int) ≤ (0 : Int) ∧ (0 : Int) < (↑(2 : Nat) : Int)) ∧
   (Ob ((0 : Int) ≤ (0 : Int) ∧ (0 : Int) < (↑(List.length (List.replicate (Int.toNat x_1) (0 : Int))) : Int)) ∧
   (Ob ((0 : Nat) < List.length (List.replicate (Int.toNat x_1) (0 : Int))) ∧
   (Ob (ok (R06_NewState c)) ∧
   (Ob (ok (R06_Through c (List.set (List.replicate (Int.toNat x_1) (0 : Int)) (0 : Nat) x_0) (val (R06_NewState c)))) ∧
   Br (Sx06.impE (val (R06_Copy c)) x_0 x_1 == (0 : Int))
   ((Ob (List.length (Sx06.impL (val (R06_Copy c)) x_0 x_1) ≤ (1000000000 : Nat)) ∧
   (Ob (True) ∧
   (Ob (decide (Sx06.impL (val (R06_Copy c)) x_0 x_1 = (val (R06_Through c (List.set (List.replicate (Int.toNat x_1) (0 : Int)) (0 : Nat) x_0) (val (R06_NewState c)))).1) = r) ∧
   True))))
   ((Ob (True) ∧
   (Ob (false = r) ∧
   True)))))))))
   ((Ob (ok (R06_NewState c)) ∧
   (Ob (ok (R06_Through c (List.replicate (Int.toNat x_1) (0 : Int)) (val (R06_NewState c)))) ∧
   Br (Sx06.impE (val (R06_Copy c)) x_0 x_1 == (0 : Int))
   ((Ob (List.length (Sx06.impL (val (R06_Copy c)) x_0 x_1) ≤ (1000000000 : Nat)) ∧
   (Ob (True) ∧
   (Ob (decide (Sx06.impL (val (R06_Copy c)) x_0 x_1 = (val (R06_Through c (List.replicate (Int.toNat x_1) (0 : Int)) (val (R06_NewState c)))).1) = r) ∧
   True))))
   ((Ob (True) ∧
   (Ob (false = r) ∧
   True)))))))))))))))))))
   ((Ob (ok (L06_raw l)) ∧
   (Ob (ok (R06_SamplesErr (val (L06_raw l)))) ∧
   Br (val (R06_SamplesErr (val (L06_raw l))) != (0 : Int))
   (Br ((val (F_RunAll (val (R06_Copy c)) (val (L06_raw l)))).2.2 != val (R06_SamplesErr (val (L06_raw l))))
   ((Ob (True) ∧
   (Ob (false = r) ∧
   True)))
   (Br ((↑(List.length (val (F_RunAll (val (R06_Copy c)) (val (L06_raw l)))).1) : Int) != (0 : Int))
   ((Ob (True) ∧
   (Ob (false = r) ∧
   True)))
   (Br ((val (F_RunAll (val (R06_Copy c)) (val (L06_raw l)))).2.1 != (0 : Int))
   ((Ob (True) ∧
   (Ob (false = r) ∧
   True)))
   (Br (val (R06_SamplesErr (val (L06_raw l))) == (0 : Int))
   ((Ob (ok (L06_raw l)) ∧
   (Ob (ok (R06_Numbers (val (L06_raw l)))) ∧
   (Ob (ok (R06_NewState c)) ∧
   (Ob (ok (R06_Through c (val (R06_Numbers (val (L06_raw l)))) (val (R06_NewState c)))) ∧
   Br ((val (F_RunAll (val (R06_Copy c)) (val (L06_raw l)))).2.2 != (0 : Int))
   ((Ob (True) ∧
   (Ob (false = r) ∧
   True)))
   ((Ob (ok (R06_Floats (val (R06_Through c (val (R06_Numbers (val (L06_raw l)))) (val (R06_NewState c)))).1)) ∧
   (Ob (ok (B_SameFloats (val (F_RunAll (val (R06_Copy c)) (val (L06_raw l)))).1 (val (R06_Floats (val (R06_Through c (val (R06_Numbers (val (L06_raw l)))) (val (R06_NewState c)))).1)))) ∧
   Br (!val (B_SameFloats (val (F_RunAll (val (R06_Copy c)) (val (L06_raw l)))).1 (val (R06_Floats (val (R06_Through c (val (R06_Numbers (val (L06_raw l)))) (val (R06_NewState c)))).1))))
   ((Ob (True) ∧
   (Ob (false = r) ∧
   True)))
   (Br ((val (F_RunAll (val (R06_Copy c)) (val (L06_raw l)))).2.1 != (val (R06_Through c (val (R06_Numbers (val (L06_raw l)))) (val (R06_NewState c)))).2.2)
   ((Ob (True) ∧
   (Ob (false = r) ∧
   True)))
   ((Ob ((0 : Int) ≤ (0 : Int) ∧ (0 : Int) < (↑(2 : Nat) : Int)) ∧
   (Ob (True) ∧
   Br (!(decide ((-32767 : Int) ≤ x_0) && decide (x_0 ≤ (32767 : Int))))
   (Br (Sx06.impE (val (R06_Copy c)) x_0 x_1 == (2 : Int))
   ((Ob (True) ∧
   (Ob (((↑(List.length (Sx06.impL (val (R06_Copy c)) x_0 x_1)) : Int) == (0 : Int)) = r) ∧
   True)))
   ((Ob (True) ∧
   (Ob (false = r) ∧
   True))))
   ((Ob ((0 : Int) ≤ (1 : Int) ∧ (1 : Int) < (↑(2 : Nat) : Int)) ∧
   (Ob (True) ∧
   Br (!(decide ((0 : Int) ≤ x_1) && decide (x_1 ≤ (1024 : Int))))
   (Br (Sx06.impE (val (R06_Copy c)) x_0 x_1 == (2 : Int))
   ((Ob (True) ∧
   (Ob (((↑(List.length (Sx06.impL (val (R06_Copy c)) x_0 x_1)) : Int) == (0 : Int)) = r) ∧
   True)))
   ((Ob (True) ∧
   (Ob (false = r) ∧
   True))))
   ((Ob ((0 : Int) ≤ (1 : Int) ∧ (1 : Int) < (↑(2 : Nat) : Int)) ∧
   (Ob ((0 : Int) ≤ x_1 ∧ x_1 = x_1 ∧ (↑(8 : Nat) : Int) * x_1 ≤ (281474976710656 : Int) ∧ x_1 ≤ (9223372036854775807 : Int)) ∧
   (Ob ((0 : Int) ≤ (1 : Int) ∧ (1 : Int) < (↑(2 : Nat) : Int)) ∧
   Br (decide (x_1 > (0 : Int)))
   ((Ob ((0 : Int) ≤ (0 : Int) ∧ (0 : Int) < (↑(2 : Nat) : Int)) ∧
   (Ob ((0 : Int) ≤ (0 : Int) ∧ (0 : Int) < (↑(List.length (List.replicate (Int.toNat x_1) (0 : Int))) : Int)) ∧
   (Ob ((0 : Nat) < List.length (List.replicate (Int.toNat x_1) (0 : Int))) ∧
   (Ob (ok (R06_NewState c)) ∧
   (Ob (ok (R06_Through c (List.set (List.replicate (Int.toNat x_1) (0 : Int)) (0 : Nat) x_0) (val (R06_NewState c)))) ∧
   Br (Sx06.impE (val (R06_Copy c)) x_0 x_1 == (0 : Int))
   ((Ob (List.length (Sx06.impL (val (R06_Copy c)) x_0 x_1) ≤ (1000000000 : Nat)) ∧
   (Ob (True) ∧
   (Ob (decide (Sx06.impL (val (R06_Copy c)) x_0 x_1 = (val (R06_Through c (List.set (List.replicate (Int.toNat x_1) (0 : Int)) (0 : Nat) x_0) (val (R06_NewState c)))).1) = r) ∧
   True))))
   ((Ob (True) ∧
   (Ob (false = r) ∧
   True)))))))))
   ((Ob (ok (R06_NewState c)) ∧
   (Ob (ok (R06_Through c (List.replicate (Int.toNat x_1) (0 : Int)) (val (R06_NewState c)))) ∧
   Br (Sx06.impE (val (R06_Copy c)) x_0 x_1 == (0 : Int))
   ((Ob (List.length (Sx06.impL (val (R06_Copy c)) x_0 x_1) ≤ (1000000000 : Nat)) ∧
   (Ob (True) ∧
   (Ob (decide (Sx06.impL (val (R06_Copy c)) x_0 x_1 = (val (R06_Through c (List.replicate (Int.toNat x_1) (0 : Int)) (val (R06_NewState c)))).1) = r) ∧
   True))))
   ((Ob (True) ∧
   (Ob (false = r) ∧
   True)))))))))))))))))))))))))
   ((Ob ((0 : Int) ≤ (0 : Int) ∧ (0 : Int) < (↑(2 : Nat) : Int)) ∧
   (Ob (True) ∧
   Br (!(decide ((-32767 : Int) ≤ x_0) && decide (x_0 ≤ (32767 : Int))))
   (Br (Sx06.impE (val (R06_Copy c)) x_0 x_1 == (2 : Int))
   ((Ob (True) ∧
   (Ob (((↑(List.length (Sx06.impL (val (R06_Copy c)) x_0 x_1)) : Int) == (0 : Int)) = r) ∧
   True)))
   ((Ob (True) ∧
   (Ob (false = r) ∧
   True))))
   ((Ob ((0 : Int) ≤ (1 : Int) ∧ (1 : Int) < (↑(2 : Nat) : Int)) ∧
   (Ob (True) ∧
   Br (!(decide ((0 : Int) ≤ x_1) && decide (x_1 ≤ (1024 : Int))))
   (Br (Sx06.impE (val (R06_Copy c)) x_0 x_1 == (2 : Int))
   ((Ob (True) ∧
   (Ob (((↑(List.length (Sx06.impL (val (R06_Copy c)) x_0 x_1)) : Int) == (0 : Int)) = r) ∧
   True)))
   ((Ob (True) ∧
   (Ob (false = r) ∧
   True))))
   ((Ob ((0 : Int) ≤ (1 : Int) ∧ (1 : Int) < (↑(2 : Nat) : Int)) ∧
   (Ob ((0 : Int) ≤ x_1 ∧ x_1 = x_1 ∧ (↑(8 : Nat) : Int) * x_1 ≤ (281474976710656 : Int) ∧ x_1 ≤ (9223372036854775807 : Int)) ∧
   (Ob ((0 : Int) ≤ (1 : Int) ∧ (1 : Int) < (↑(2 : Nat) : Int)) ∧
   Br (decide (x_1 > (0 : Int)))
   ((Ob ((0 : Int) ≤ (0 : Int) ∧ (0 : Int) < (↑(2 : Nat) : Int)) ∧
   (Ob ((0 : Int) ≤ (0 : Int) ∧ (0 : Int) < (↑(List.length (List.replicate (Int.toNat x_1) (0 : Int))) : Int)) ∧
   (Ob ((0 : Nat) < List.length (List.replicate (Int.toNat x_1) (0 : Int))) ∧
   (Ob (ok (R06_NewState c)) ∧
   (Ob (ok (R06_Through c (List.set (List.replicate (Int.toNat x_1) (0 : Int)) (0 : Nat) x_0) (val (R06_NewState c)))) ∧
   Br (Sx06.impE (val (R06_Copy c)) x_0 x_1 == (0 : Int))
   ((Ob (List.length (Sx06.impL (val (R06_Copy c)) x_0 x_1) ≤ (1000000000 : Nat)) ∧
   (Ob (True) ∧
   (Ob (decide (Sx06.impL (val (R06_Copy c)) x_0 x_1 = (val (R06_Through c (List.set (List.replicate (Int.toNat x_1) (0 : Int)) (0 : Nat) x_0) (val (R06_NewState c)))).1) = r) ∧
   True))))
   ((Ob (True) ∧
   (Ob (false = r) ∧
   True)))))))))
   ((Ob (ok (R06_NewState c)) ∧
   (Ob (ok (R06_Through c (List.replicate (Int.toNat x_1) (0 : Int)) (val (R06_NewState c)))) ∧
   Br (Sx06.impE (val (R06_Copy c)) x_0 x_1 == (0 : Int))
   ((Ob (List.length (Sx06.impL (val (R06_Copy c)) x_0 x_1) ≤ (1000000000 : Nat)) ∧
   (Ob (True) ∧
   (Ob (decide (Sx06.impL (val (R06_Copy c)) x_0 x_1 = (val (R06_Through c (List.replicate (Int.toNat x_1) (0 : Int)) (val (R06_NewState c)))).1) = r) ∧
   True))))
   ((Ob (True) ∧
   (Ob (false = r) ∧
   True))))))))))))))))))))
   (Br (val (R06_SamplesErr (val (L06_raw l))) == (0 : Int))
   ((Ob (ok (L06_raw l)) ∧
   (Ob (ok (R06_Numbers (val (L06_raw l)))) ∧
   (Ob (ok (R06_NewState c)) ∧
   (Ob (ok (R06_Through c (val (R06_Numbers (val (L06_raw l)))) (val (R06_NewState c)))) ∧
   Br ((val (F_RunAll (val (R06_Copy c)) (val (L06_raw l)))).2.2 != (0 : Int))
   ((Ob (True) ∧
   (Ob (false = r) ∧
   True)))
   ((Ob (ok (R06_Floats (val (R06_Through c (val (R06_Numbers (val (L06_raw l)))) (val (R06_NewState c)))).1)) ∧
   (Ob (ok (B_SameFloats (val (F_RunAll (val (R06_Copy c)) (val (L06_raw l)))).1 (val (R06_Floats (val (R06_Through c (val (R06_Numbers (val (L06_raw l)))) (val (R06_NewState c)))).1)))) ∧
   Br (!val (B_SameFloats (val (F_RunAll (val (R06_Copy c)) (val (L06_raw l)))).1 (val (R06_Floats (val (R06_Through c (val (R06_Numbers (val (L06_raw l)))) (val (R06_NewState c)))).1))))
   ((Ob (True) ∧
   (Ob (false = r) ∧
   True)))
   (Br ((val (F_RunAll (val (R06_Copy c)) (val (L06_raw l)))).2.1 != (val (R06_Through c (val (R06_Numbers (val (L06_raw l)))) (val (R06_NewState c)))).2.2)
   ((Ob (True) ∧
   (Ob (false = r) ∧
   True)))
   ((Ob ((0 : Int) ≤ (0 : Int) ∧ (0 : Int) < (↑(2 : Nat) : Int)) ∧
   (Ob (True) ∧
   Br (!(decide ((-32767 : Int) ≤ x_0) && decide (x_0 ≤ (32767 : Int))))
   (Br (Sx06.impE (val (R06_Copy c)) x_0 x_1 == (2 : Int))
   ((Ob (True) ∧
   (Ob (((↑(List.length (Sx06.impL (val (R06_Copy c)) x_0 x_1)) : Int) == (0 : Int)) = r) ∧
   True)))
   ((Ob (True) ∧
   (Ob (false = r) ∧
   True))))
   ((Ob ((0 : Int) ≤ (1 : Int) ∧ (1 : Int) < (↑(2 : Nat) : Int)) ∧
   (Ob (True) ∧
   Br (!(decide ((0 : Int) ≤ x_1) && decide (x_1 ≤ (1024 : Int))))
   (Br (Sx06.impE (val (R06_Copy c)) x_0 x_1 == (2 : Int))
   ((Ob (True) ∧
   (Ob (((↑(List.length (Sx06.impL (val (R06_Copy c)) x_0 x_1)) : Int) == (0 : Int)) = r) ∧
   True)))
   ((Ob (True) ∧
   (Ob (false = r) ∧
   True))))
   ((Ob ((0 : Int) ≤ (1 : Int) ∧ (1 : Int) < (↑(2 : Nat) : Int)) ∧
   (Ob ((0 : Int) ≤ x_1 ∧ x_1 = x_1 ∧ (↑(8 : Nat) : Int) * x_1 ≤ (281474976710656 : Int) ∧ x_1 ≤ (9223372036854775807 : Int)) ∧
   (Ob ((0 : Int) ≤ (1 : Int) ∧ (1 : Int) < (↑(2 : Nat) : Int)) ∧
   Br (decide (x_1 > (0 : Int)))
   ((Ob ((0 : Int) ≤ (0 : Int) ∧ (0 : Int) < (↑(2 : Nat) : Int)) ∧
   (Ob ((0 : Int) ≤ (0 : Int) ∧ (0 : Int) < (↑(List.length (List.replicate (Int.toNat x_1) (0 : Int))) : Int)) ∧
   (Ob ((0 : Nat) < List.length (List.replicate (Int.toNat x_1) (0 : Int))) ∧
   (Ob (ok (R06_NewState c)) ∧
   (Ob (ok (R06_Through c (List.set (List.replicate (Int.toNat x_1) (0 : Int)) (0 : Nat) x_0) (val (R06_NewState c)))) ∧
   Br (Sx06.impE (val (R06_Copy c)) x_0 x_1 == (0 : Int))
   ((Ob (List.length (Sx06.impL (val (R06_Copy c)) x_0 x_1) ≤ (1000000000 : Nat)) ∧
   (Ob (True) ∧
   (Ob (decide (Sx06.impL (val (R06_Copy c)) x_0 x_1 = (val (R06_Through c (List.set (List.replicate (Int.toNat x_1) (0 : Int)) (0 : Nat) x_0) (val (R06_NewState c)))).1) = r) ∧
   True))))
   ((Ob (True) ∧
   (Ob (false = r) ∧
   True)))))))))
   ((Ob (ok (R06_NewState c)) ∧
   (Ob (ok (R06_Through c (List.replicate (Int.toNat x_1) (0 : Int)) (val (R06_NewState c)))) ∧
   Br (Sx06.impE (val (R06_Copy c)) x_0 x_1 == (0 : Int))
   ((Ob (List.length (Sx06.impL (val (R06_Copy c)) x_0 x_1) ≤ (1000000000 : Nat)) ∧
   (Ob (True) ∧
   (Ob (decide (Sx06.impL (val (R06_Copy c)) x_0 x_1 = (val (R06_Through c (List.replicate (Int.toNat x_1) (0 : Int)) (val (R06_NewState c)))).1) = r) ∧
   True))))
   ((Ob (True) ∧
   (Ob (false = r) ∧
   True)))))))))))))))))))))))))
   ((Ob ((0 : Int) ≤ (0 : Int) ∧ (0 : Int) < (↑(2 : Nat) : Int)) ∧
   (Ob (True) ∧
   Br (!(decide ((-32767 : Int) ≤ x_0) && decide (x_0 ≤ (32767 : Int))))
   (Br (Sx06.impE (val (R06_Copy c)) x_0 x_1 == (2 : Int))
   ((Ob (True) ∧
   (Ob (((↑(List.length (Sx06.impL (val (R06_Copy c)) x_0 x_1)) : Int) == (0 : Int)) = r) ∧
   True)))
   ((Ob (True) ∧
   (Ob (false = r) ∧
   True))))
   ((Ob ((0 : Int) ≤ (1 : Int) ∧ (1 : Int) < (↑(2 : Nat) : Int)) ∧
   (Ob (True) ∧
   Br (!(decide ((0 : Int) ≤ x_1) && decide (x_1 ≤ (1024 : Int))))
   (Br (Sx06.impE (val (R06_Copy c)) x_0 x_1 == (2 : Int))
   ((Ob (True) ∧
   (Ob (((↑(List.length (Sx06.impL (val (R06_Copy c)) x_0 x_1)) : Int) == (0 : Int)) = r) ∧
   True)))
   ((Ob (True) ∧
   (Ob (false = r) ∧
   True))))
   ((Ob ((0 : Int) ≤ (1 : Int) ∧ (1 : Int) < (↑(2 : Nat) : Int)) ∧
   (Ob ((0 : Int) ≤ x_1 ∧ x_1 = x_1 ∧ (↑(8 : Nat) : Int) * x_1 ≤ (281474976710656 : Int) ∧ x_1 ≤ (9223372036854775807 : Int)) ∧
   (Ob ((0 : Int) ≤ (1 : Int) ∧ (1 : Int) < (↑(2 : Nat) : Int)) ∧
   Br (decide (x_1 > (0 : Int)))
   ((Ob ((0 : Int) ≤ (0 : Int) ∧ (0 : Int) < (↑(2 : Nat) : Int)) ∧
   (Ob ((0 : Int) ≤ (0 : Int) ∧ (0 : Int) < (↑(List.length (List.replicate (Int.toNat x_1) (0 : Int))) : Int)) ∧
   (Ob ((0 : Nat) < List.length (List.replicate (Int.toNat x_1) (0 : Int))) ∧
   (Ob (ok (R06_NewState c)) ∧
   (Ob (ok (R06_Through c (List.set (List.replicate (Int.toNat x_1) (0 : Int)) (0 : Nat) x_0) (val (R06_NewState c)))) ∧
   Br (Sx06.impE (val (R06_Copy c)) x_0 x_1 == (0 : Int))
   ((Ob (List.length (Sx06.impL (val (R06_Copy c)) x_0 x_1) ≤ (1000000000 : Nat)) ∧
   (Ob (True) ∧
   (Ob (decide (Sx06.impL (val (R06_Copy c)) x_0 x_1 = (val (R06_Through c (List.set (List.replicate (Int.toNat x_1) (0 : Int)) (0 : Nat) x_0) (val (R06_NewState c)))).1) = r) ∧
   True))))
   ((Ob (True) ∧
   (Ob (false = r) ∧
   True)))))))))
   ((Ob (ok (R06_NewState c)) ∧
   (Ob (ok (R06_Through c (List.replicate (Int.toNat x_1) (0 : Int)) (val (R06_NewState c)))) ∧
   Br (Sx06.impE (val (R06_Copy c)) x_0 x_1 == (0 : Int))
   ((Ob (List.length (Sx06.impL (val (R06_Copy c)) x_0 x_1) ≤ (1000000000 : Nat)) ∧
   (Ob (True) ∧
   (Ob (decide (Sx06.impL (val (R06_Copy c)) x_0 x_1 = (val (R06_Through c (List.replicate (Int.toNat x_1) (0 : Int)) (val (R06_NewState c)))).1) = r) ∧
   True))))
   ((Ob (True) ∧
   (Ob (false = r) ∧
   True))))))))))))))))))))))))))))))))))))) = _) ?_
  refine ob_c (p := ok L06_awake) (by decide) ?_
  refine call_s h fun h => ?_
  refine br_b h (fun h => ?_) (fun h => ?_)
  · refine ob_t ?_
    exact ret_s h (fun e => by subst e; exact (by repeat' (first | exact trivial | exact ⟨rfl⟩ | refine And.intro ?_ ?_)))
  · refine br_d h (fun h => ?_) (fun h => ?_)
    · refine br_d h (fun h => ?_) (fun h => ?_)
      · refine ob_t ?_
        exact ret_s h (fun e => by subst e; exact (by repeat' (first | exact trivial | exact ⟨rfl⟩ | refine And.intro ?_ ?_)))
      · refine br_d h (fun h => ?_) (fun h => ?_)
        · refine ob_t ?_
          exact ret_s h (fun e => by subst e; exact (by repeat' (first | exact trivial | exact ⟨rfl⟩ | refine And.intro ?_ ?_)))
        · refine ob_c (p := (0 : Int) ≤ (1 : Int) ∧ (1 : Int) < (↑(2 : Nat) : Int)) (by decide) ?_
          refine br_d h (fun h => ?_) (fun h => ?_)
          · refine ob_c (p := (0 : Int) ≤ (1 : Int) ∧ (1 : Int) < (↑(2 : Nat) : Int)) (by decide) ?_
            refine br_d h (fun h => ?_) (fun h => ?_)
            · refine ob_t ?_
              exact ret_s h (fun e => by subst e; exact (by repeat' (first | exact trivial | exact ⟨rfl⟩ | refine And.intro ?_ ?_)))
            · refine call_s h fun h => ?_
              refine call_s h fun h => ?_
              refine call_s h fun h => ?_
              refine call_s h fun h => ?_
              refine ob_c (p := (0 : Int) ≤ (0 : Int) ∧ (0 : Int) < (↑(2 : Nat) : Int)) (by decide) ?_
              refine ob_c (p := (0 : Int) ≤ (1 : Int) ∧ (1 : Int) < (↑(2 : Nat) : Int)) (by decide) ?_
              refine ob_s h fun h => ?_
              refine call_s h fun h => ?_
              refine br_b h (fun h => ?_) (fun h => ?_)
              · refine br_b h (fun h => ?_) (fun h => ?_)
                · refine br_b h (fun h => ?_) (fun h => ?_)
                  · refine br_b h (fun h => ?_) (fun h => ?_)
                    · refine ob_t ?_
                      exact ret_s h (fun e => by subst e; exact (by repeat' (first | exact trivial | exact ⟨rfl⟩ | refine And.intro ?_ ?_)))
                    · refine ob_t ?_
                      exact ret_s h (fun e => by subst e; exact (by repeat' (first | exact trivial | exact ⟨rfl⟩ | refine And.intro ?_ ?_)))
                  · refine ob_t ?_
                    exact ret_s h (fun e => by subst e; exact (by repeat' (first | exact trivial | exact ⟨rfl⟩ | refine And.intro ?_ ?_)))
                · refine ob_t ?_
                  exact ret_s h (fun e => by subst e; exact (by repeat' (first | exact trivial | exact ⟨rfl⟩ | refine And.intro ?_ ?_)))
              · refine br_d h (fun h => ?_) (fun h => ?_)
                · refine br_b h (fun h => ?_) (fun h => ?_)
                  · refine ob_t ?_
                    exact ret_s h (fun e => by subst e; exact (by repeat' (first | exact trivial | exact ⟨rfl⟩ | refine And.intro ?_ ?_)))
                  · refine br_b h (fun h => ?_) (fun h => ?_)
                    · refine ob_t ?_
                      exact ret_s h (fun e => by subst e; exact (by repeat' (first | exact trivial | exact ⟨rfl⟩ | refine And.intro ?_ ?_)))
                    · refine br_b h (fun h => ?_) (fun h => ?_)
                      · refine ob_t ?_
                        exact ret_s h (fun e => by subst e; exact (by repeat' (first | exact trivial | exact ⟨rfl⟩ | refine And.intro ?_ ?_)))
                      · refine ob_c (p := (0 : Int) ≤ (0 : Int) ∧ (0 : Int) < (↑(2 : Nat) : Int)) (by decide) ?_
                        refine ob_t ?_
                        refine br_b h (fun h => ?_) (fun h => ?_)
                        · refine br_b h (fun h => ?_) (fun h => ?_)
                          · refine ob_t ?_
                            exact ret_s h (fun e => by subst e; exact (by repeat' (first | exact trivial | exact ⟨rfl⟩ | refine And.intro ?_ ?_)))
                          · refine ob_t ?_
                            exact ret_s h (fun e => by subst e; exact (by repeat' (first | exact trivial | exact ⟨rfl⟩ | refine And.intro ?_ ?_)))
                        · refine ob_c (p := (0 : Int) ≤ (1 : Int) ∧ (1 : Int) < (↑(2 : Nat) : Int)) (by decide) ?_
                          refine ob_t ?_
                          refine br_b h (fun h => ?_) (fun h => ?_)
                          · refine br_b h (fun h => ?_) (fun h => ?_)
                            · refine ob_t ?_
                              exact ret_s h (fun e => by subst e; exact (by repeat' (first | exact trivial | exact ⟨rfl⟩ | refine And.intro ?_ ?_)))
                            · refine ob_t ?_
                              exact ret_s h (fun e => by subst e; exact (by repeat' (first | exact trivial | exact ⟨rfl⟩ | refine And.intro ?_ ?_)))
                          · refine ob_c (p := (0 : Int) ≤ (1 : Int) ∧ (1 : Int) < (↑(2 : Nat) : Int)) (by decide) ?_
                            refine ob_s h fun h => ?_
                            refine ob_c (p := (0 : Int) ≤ (1 : Int) ∧ (1 : Int) < (↑(2 : Nat) : Int)) (by decide) ?_
                            refine br_d h (fun h => ?_) (fun h => ?_)
                            · refine ob_c (p := (0 : Int) ≤ (0 : Int) ∧ (0 : Int) < (↑(2 : Nat) : Int)) (by decide) ?_
                              refine ob_s h fun h => ?_
                              refine ob_s h fun h => ?_
                              refine call_s h fun h => ?_
                              refine call_s h fun h => ?_
                              refine br_b h (fun h => ?_) (fun h => ?_)
                              · refine ob_s h fun h => ?_
                                refine ob_t ?_
                                exact ret_s h (fun e => by subst e; exact (by repeat' (first | exact trivial | exact ⟨rfl⟩ | refine And.intro ?_ ?_)))
                              · refine ob_t ?_
                                exact ret_s h (fun e => by subst e; exact (by repeat' (first | exact trivial | exact ⟨rfl⟩ | refine And.intro ?_ ?_)))
                            · refine call_s h fun h => ?_
                              refine call_s h fun h => ?_
                              refine br_b h (fun h => ?_) (fun h => ?_)
                              · refine ob_s h fun h => ?_
                                refine ob_t ?_
                                exact ret_s h (fun e => by subst e; exact (by repeat' (first | exact trivial | exact ⟨rfl⟩ | refine And.intro ?_ ?_)))
                              · refine ob_t ?_
                                exact ret_s h (fun e => by subst e; exact (by repeat' (first | exact trivial | exact ⟨rfl⟩ | refine And.intro ?_ ?_)))
                · refine call_s h fun h => ?_
                  refine call_s h fun h => ?_
                  refine br_b h (fun h => ?_) (fun h => ?_)
                  · refine br_b h (fun h => ?_) (fun h => ?_)
                    · refine ob_t ?_
                      exact ret_s h (fun e => by subst e; exact (by repeat' (first | exact trivial | exact ⟨rfl⟩ | refine And.intro ?_ ?_)))
                    · refine br_b h (fun h => ?_) (fun h => ?_)
                      · refine ob_t ?_
                        exact ret_s h (fun e => by subst e; exact (by repeat' (first | exact trivial | exact ⟨rfl⟩ | refine And.intro ?_ ?_)))
                      · refine br_b h (fun h => ?_) (fun h => ?_)
                        · refine ob_t ?_
                          exact ret_s h (fun e => by subst e; exact (by repeat' (first | exact trivial | exact ⟨rfl⟩ | refine And.intro ?_ ?_)))
                        · refine br_b h (fun h => ?_) (fun h => ?_)
                          · exact nomatch h
                          · refine ob_c (p := (0 : Int) ≤ (0 : Int) ∧ (0 : Int) < (↑(2 : Nat) : Int)) (by decide) ?_
                            refine ob_t ?_
                            refine br_b h (fun h => ?_) (fun h => ?_)
                            · refine br_b h (fun h => ?_) (fun h => ?_)
                              · refine ob_t ?_
                                exact ret_s h (fun e => by subst e; exact (by repeat' (first | exact trivial | exact ⟨rfl⟩ | refine And.intro ?_ ?_)))
                              · refine ob_t ?_
                                exact ret_s h (fun e => by subst e; exact (by repeat' (first | exact trivial | exact ⟨rfl⟩ | refine And.intro ?_ ?_)))
                            · refine ob_c (p := (0 : Int) ≤ (1 : Int) ∧ (1 : Int) < (↑(2 : Nat) : Int)) (by decide) ?_
                              refine ob_t ?_
                              refine br_b h (fun h => ?_) (fun h => ?_)
                              · refine br_b h (fun h => ?_) (fun h => ?_)
                                · refine ob_t ?_
                                  exact ret_s h (fun e => by subst e; exact (by repeat' (first | exact trivial | exact ⟨rfl⟩ | refine And.intro ?_ ?_)))
                                · refine ob_t ?_
                                  exact ret_s h (fun e => by subst e; exact (by repeat' (first | exact trivial | exact ⟨rfl⟩ | refine And.intro ?_ ?_)))
                              · refine ob_c (p := (0 : Int) ≤ (1 : Int) ∧ (1 : Int) < (↑(2 : Nat) : Int)) (by decide) ?_
                                refine ob_s h fun h => ?_
                                refine ob_c (p := (0 : Int) ≤ (1 : Int) ∧ (1 : Int) < (↑(2 : Nat) : Int)) (by decide) ?_
                                refine br_d h (fun h => ?_) (fun h => ?_)
                                · refine ob_c (p := (0 : Int) ≤ (0 : Int) ∧ (0 : Int) < (↑(2 : Nat) : Int)) (by decide) ?_
                                  refine ob_s h fun h => ?_
                                  refine ob_s h fun h => ?_
                                  refine call_s h fun h => ?_
                                  refine call_s h fun h => ?_
                                  refine br_b h (fun h => ?_) (fun h => ?_)
                                  · refine ob_s h fun h => ?_
                                    refine ob_t ?_
                                    exact ret_s h (fun e => by subst e; exact (by repeat' (first | exact trivial | exact ⟨rfl⟩ | refine And.intro ?_ ?_)))
                                  · refine ob_t ?_
                                    exact ret_s h (fun e => by subst e; exact (by repeat' (first | exact trivial | exact ⟨rfl⟩ | refine And.intro ?_ ?_)))
                                · refine call_s h fun h => ?_
                                  refine call_s h fun h => ?_
                                  refine br_b h (fun h => ?_) (fun h => ?_)
                                  · refine ob_s h fun h => ?_
                                    refine ob_t ?_
                                    exact ret_s h (fun e => by subst e; exact (by repeat' (first | exact trivial | exact ⟨rfl⟩ | refine And.intro ?_ ?_)))
                                  · refine ob_t ?_
                                    exact ret_s h (fun e => by subst e; exact (by repeat' (first | exact trivial | exact ⟨rfl⟩ | refine And.intro ?_ ?_)))
                  · refine br_b h (fun h => ?_) (fun h => ?_)
                    · refine call_s h fun h => ?_
                      refine call_s h fun h => ?_
                      refine call_s h fun h => ?_
                      refine call_s h fun h => ?_
                      refine br_b h (fun h => ?_) (fun h => ?_)
                      · refine ob_t ?_
                        exact ret_s h (fun e => by subst e; exact (by repeat' (first | exact trivial | exact ⟨rfl⟩ | refine And.intro ?_ ?_)))
                      · refine call_s h fun h => ?_
                        refine call_s h fun h => ?_
                        refine br_b h (fun h => ?_) (fun h => ?_)
                        · refine ob_t ?_
                          exact ret_s h (fun e => by subst e; exact (by repeat' (first | exact trivial | exact ⟨rfl⟩ | refine And.intro ?_ ?_)))
                        · refine br_b h (fun h => ?_) (fun h => ?_)
                          · refine ob_t ?_
                            exact ret_s h (fun e => by subst e; exact (by repeat' (first | exact trivial | exact ⟨rfl⟩ | refine And.intro ?_ ?_)))
                          · refine ob_c (p := (0 : Int) ≤ (0 : Int) ∧ (0 : Int) < (↑(2 : Nat) : Int)) (by decide) ?_
                            refine ob_t ?_
                            refine br_b h (fun h => ?_) (fun h => ?_)
                            · refine br_b h (fun h => ?_) (fun h => ?_)
                              · refine ob_t ?_
                                exact ret_s h (fun e => by subst e; exact (by repeat' (first | exact trivial | exact ⟨rfl⟩ | refine And.intro ?_ ?_)))
                              · refine ob_t ?_
                                exact ret_s h (fun e => by subst e; exact (by repeat' (first | exact trivial | exact ⟨rfl⟩ | refine And.intro ?_ ?_)))
                            · refine ob_c (p := (0 : Int) ≤ (1 : Int) ∧ (1 : Int) < (↑(2 : Nat) : Int)) (by decide) ?_
                              refine ob_t ?_
                              refine br_b h (fun h => ?_) (fun h => ?_)
                              · refine br_b h (fun h => ?_) (fun h => ?_)
                                · refine ob_t ?_
                                  exact ret_s h (fun e => by subst e; exact (by repeat' (first | exact trivial | exact ⟨rfl⟩ | refine And.intro ?_ ?_)))
                                · refine ob_t ?_
                                  exact ret_s h (fun e => by subst e; exact (by repeat' (first | exact trivial | exact ⟨rfl⟩ | refine And.intro ?_ ?_)))
                              · refine ob_c (p := (0 : Int) ≤ (1 : Int) ∧ (1 : Int) < (↑(2 : Nat) : Int)) (by decide) ?_
                                refine ob_s h fun h => ?_
                                refine ob_c (p := (0 : Int) ≤ (1 : Int) ∧ (1 : Int) < (↑(2 : Nat) : Int)) (by decide) ?_
                                refine br_d h (fun h => ?_) (fun h => ?_)
                                · refine ob_c (p := (0 : Int) ≤ (0 : Int) ∧ (0 : Int) < (↑(2 : Nat) : Int)) (by decide) ?_
                                  refine ob_s h fun h => ?_
                                  refine ob_s h fun h => ?_
                                  refine call_s h fun h => ?_
                                  refine call_s h fun h => ?_
                                  refine br_b h (fun h => ?_) (fun h => ?_)
                                  · refine ob_s h fun h => ?_
                                    refine ob_t ?_
                                    exact ret_s h (fun e => by subst e; exact (by repeat' (first | exact trivial | exact ⟨rfl⟩ | refine And.intro ?_ ?_)))
                                  · refine ob_t ?_
                                    exact ret_s h (fun e => by subst e; exact (by repeat' (first | exact trivial | exact ⟨rfl⟩ | refine And.intro ?_ ?_)))
                                · refine call_s h fun h => ?_
                                  refine call_s h fun h => ?_
                                  refine br_b h (fun h => ?_) (fun h => ?_)
                                  · refine ob_s h fun h => ?_
                                    refine ob_t ?_
                                    exact ret_s h (fun e => by subst e; exact (by repeat' (first | exact trivial | exact ⟨rfl⟩ | refine And.intro ?_ ?_)))
                                  · refine ob_t ?_
                                    exact ret_s h (fun e => by subst e; exact (by repeat' (first | exact trivial | exact ⟨rfl⟩ | refine And.intro ?_ ?_)))
                    · exact nomatch h
          · refine call_s h fun h => ?_
            refine call_s h fun h => ?_
            refine call_s h fun h => ?_
            refine call_s h fun h => ?_
            refine ob_c (p := (0 : Int) ≤ (0 : Int) ∧ (0 : Int) < (↑(2 : Nat) : Int)) (by decide) ?_
            refine ob_c (p := (0 : Int) ≤ (1 : Int) ∧ (1 : Int) < (↑(2 : Nat) : Int)) (by decide) ?_
            refine ob_s h fun h => ?_
            refine call_s h fun h => ?_
            refine br_b h (fun h => ?_) (fun h => ?_)
            · refine br_b h (fun h => ?_) (fun h => ?_)
              · refine br_b h (fun h => ?_) (fun h => ?_)
                · refine br_b h (fun h => ?_) (fun h => ?_)
                  · refine ob_t ?_
                    exact ret_s h (fun e => by subst e; exact (by repeat' (first | exact trivial | exact ⟨rfl⟩ | refine And.intro ?_ ?_)))
                  · refine ob_t ?_
                    exact ret_s h (fun e => by subst e; exact (by repeat' (first | exact trivial | exact ⟨rfl⟩ | refine And.intro ?_ ?_)))
                · refine ob_t ?_
                  exact ret_s h (fun e => by subst e; exact (by repeat' (first | exact trivial | exact ⟨rfl⟩ | refine And.intro ?_ ?_)))
              · refine ob_t ?_
                exact ret_s h (fun e => by subst e; exact (by repeat' (first | exact trivial | exact ⟨rfl⟩ | refine And.intro ?_ ?_)))
            · refine br_d h (fun h => ?_) (fun h => ?_)
              · refine br_b h (fun h => ?_) (fun h => ?_)
                · refine ob_t ?_
                  exact ret_s h (fun e => by subst e; exact (by repeat' (first | exact trivial | exact ⟨rfl⟩ | refine And.intro ?_ ?_)))
                · refine br_b h (fun h => ?_) (fun h => ?_)
                  · refine ob_t ?_
                    exact ret_s h (fun e => by subst e; exact (by repeat' (first | exact trivial | exact ⟨rfl⟩ | refine And.intro ?_ ?_)))
                  · refine br_b h (fun h => ?_) (fun h => ?_)
                    · refine ob_t ?_
                      exact ret_s h (fun e => by subst e; exact (by repeat' (first | exact trivial | exact ⟨rfl⟩ | refine And.intro ?_ ?_)))
                    · refine ob_c (p := (0 : Int) ≤ (0 : Int) ∧ (0 : Int) < (↑(2 : Nat) : Int)) (by decide) ?_
                      refine ob_t ?_
                      refine br_b h (fun h => ?_) (fun h => ?_)
                      · refine br_b h (fun h => ?_) (fun h => ?_)
                        · refine ob_t ?_
                          exact ret_s h (fun e => by subst e; exact (by repeat' (first | exact trivial | exact ⟨rfl⟩ | refine And.intro ?_ ?_)))
                        · refine ob_t ?_
                          exact ret_s h (fun e => by subst e; exact (by repeat' (first | exact trivial | exact ⟨rfl⟩ | refine And.intro ?_ ?_)))
                      · refine ob_c (p := (0 : Int) ≤ (1 : Int) ∧ (1 : Int) < (↑(2 : Nat) : Int)) (by decide) ?_
                        refine ob_t ?_
                        refine br_b h (fun h => ?_) (fun h => ?_)
                        · refine br_b h (fun h => ?_) (fun h => ?_)
                          · refine ob_t ?_
                            exact ret_s h (fun e => by subst e; exact (by repeat' (first | exact trivial | exact ⟨rfl⟩ | refine And.intro ?_ ?_)))
                          · refine ob_t ?_
                            exact ret_s h (fun e => by subst e; exact (by repeat' (first | exact trivial | exact ⟨rfl⟩ | refine And.intro ?_ ?_)))
                        · refine ob_c (p := (0 : Int) ≤ (1 : Int) ∧ (1 : Int) < (↑(2 : Nat) : Int)) (by decide) ?_
                          refine ob_s h fun h => ?_
                          refine ob_c (p := (0 : Int) ≤ (1 : Int) ∧ (1 : Int) < (↑(2 : Nat) : Int)) (by decide) ?_
                          refine br_d h (fun h => ?_) (fun h => ?_)
                          · refine ob_c (p := (0 : Int) ≤ (0 : Int) ∧ (0 : Int) < (↑(2 : Nat) : Int)) (by decide) ?_
                            refine ob_s h fun h => ?_
                            refine ob_s h fun h => ?_
                            refine call_s h fun h => ?_
                            refine call_s h fun h => ?_
                            refine br_b h (fun h => ?_) (fun h => ?_)
                            · refine ob_s h fun h => ?_
                              refine ob_t ?_
                              exact ret_s h (fun e => by subst e; exact (by repeat' (first | exact trivial | exact ⟨rfl⟩ | refine And.intro ?_ ?_)))
                            · refine ob_t ?_
                              exact ret_s h (fun e => by subst e; exact (by repeat' (first | exact trivial | exact ⟨rfl⟩ | refine And.intro ?_ ?_)))
                          · refine call_s h fun h => ?_
                            refine call_s h fun h => ?_
                            refine br_b h (fun h => ?_) (fun h => ?_)
                            · refine ob_s h fun h => ?_
                              refine ob_t ?_
                              exact ret_s h (fun e => by subst e; exact (by repeat' (first | exact trivial | exact ⟨rfl⟩ | refine And.intro ?_ ?_)))
                            · refine ob_t ?_
                              exact ret_s h (fun e => by subst e; exact (by repeat' (first | exact trivial | exact ⟨rfl⟩ | refine And.intro ?_ ?_)))
              · refine call_s h fun h => ?_
                refine call_s h fun h => ?_
                refine br_b h (fun h => ?_) (fun h => ?_)
                · refine br_b h (fun h => ?_) (fun h => ?_)
                  · refine ob_t ?_
                    exact ret_s h (fun e => by subst e; exact (by repeat' (first | exact trivial | exact ⟨rfl⟩ | refine And.intro ?_ ?_)))
                  · refine br_b h (fun h => ?_) (fun h => ?_)
                    · refine ob_t ?_
                      exact ret_s h (fun e => by subst e; exact (by repeat' (first | exact trivial | exact ⟨rfl⟩ | refine And.intro ?_ ?_)))
                    · refine br_b h (fun h => ?_) (fun h => ?_)
                      · refine ob_t ?_
                        exact ret_s h (fun e => by subst e; exact (by repeat' (first | exact trivial | exact ⟨rfl⟩ | refine And.intro ?_ ?_)))
                      · refine br_b h (fun h => ?_) (fun h => ?_)
                        · exact nomatch h
                        · refine ob_c (p := (0 : Int) ≤ (0 : Int) ∧ (0 : Int) < (↑(2 : Nat) : Int)) (by decide) ?_
                          refine ob_t ?_
                          refine br_b h (fun h => ?_) (fun h => ?_)
                          · refine br_b h (fun h => ?_) (fun h => ?_)
                            · refine ob_t ?_
                              exact ret_s h (fun e => by subst e; exact (by repeat' (first | exact trivial | exact ⟨rfl⟩ | refine And.intro ?_ ?_)))
                            · refine ob_t ?_
                              exact ret_s h (fun e => by subst e; exact (by repeat' (first | exact trivial | exact ⟨rfl⟩ | refine And.intro ?_ ?_)))
                          · refine ob_c (p := (0 : Int) ≤ (1 : Int) ∧ (1 : Int) < (↑(2 : Nat) : Int)) (by decide) ?_
                            refine ob_t ?_
                            refine br_b h (fun h => ?_) (fun h => ?_)
                            · refine br_b h (fun h => ?_) (fun h => ?_)
                              · refine ob_t ?_
                                exact ret_s h (fun e => by subst e; exact (by repeat' (first | exact trivial | exact ⟨rfl⟩ | refine And.intro ?_ ?_)))
                              · refine ob_t ?_
                                exact ret_s h (fun e => by subst e; exact (by repeat' (first | exact trivial | exact ⟨rfl⟩ | refine And.intro ?_ ?_)))
                            · refine ob_c (p := (0 : Int) ≤ (1 : Int) ∧ (1 : Int) < (↑(2 : Nat) : Int)) (by decide) ?_
                              refine ob_s h fun h => ?_
                              refine ob_c (p := (0 : Int) ≤ (1 : Int) ∧ (1 : Int) < (↑(2 : Nat) : Int)) (by decide) ?_
                              refine br_d h (fun h => ?_) (fun h => ?_)
                              · refine ob_c (p := (0 : Int) ≤ (0 : Int) ∧ (0 : Int) < (↑(2 : Nat) : Int)) (by decide) ?_
                                refine ob_s h fun h => ?_
                                refine ob_s h fun h => ?_
                                refine call_s h fun h => ?_
                                refine call_s h fun h => ?_
                                refine br_b h (fun h => ?_) (fun h => ?_)
                                · refine ob_s h fun h => ?_
                                  refine ob_t ?_
                                  exact ret_s h (fun e => by subst e; exact (by repeat' (first | exact trivial | exact ⟨rfl⟩ | refine And.intro ?_ ?_)))
                                · refine ob_t ?_
                                  exact ret_s h (fun e => by subst e; exact (by repeat' (first | exact trivial | exact ⟨rfl⟩ | refine And.intro ?_ ?_)))
                              · refine call_s h fun h => ?_
                                refine call_s h fun h => ?_
                                refine br_b h (fun h => ?_) (fun h => ?_)
                                · refine ob_s h fun h => ?_
                                  refine ob_t ?_
                                  exact ret_s h (fun e => by subst e; exact (by repeat' (first | exact trivial | exact ⟨rfl⟩ | refine And.intro ?_ ?_)))
                                · refine ob_t ?_
                                  exact ret_s h (fun e => by subst e; exact (by repeat' (first | exact trivial | exact ⟨rfl⟩ | refine And.intro ?_ ?_)))
                · refine br_b h (fun h => ?_) (fun h => ?_)
                  · refine call_s h fun h => ?_
                    refine call_s h fun h => ?_
                    refine call_s h fun h => ?_
                    refine call_s h fun h => ?_
                    refine br_b h (fun h => ?_) (fun h => ?_)
                    · refine ob_t ?_
                      exact ret_s h (fun e => by subst e; exact (by repeat' (first | exact trivial | exact ⟨rfl⟩ | refine And.intro ?_ ?_)))
                    · refine call_s h fun h => ?_
                      refine call_s h fun h => ?_
                      refine br_b h (fun h => ?_) (fun h => ?_)
                      · refine ob_t ?_
                        exact ret_s h (fun e => by subst e; exact (by repeat' (first | exact trivial | exact ⟨rfl⟩ | refine And.intro ?_ ?_)))
                      · refine br_b h (fun h => ?_) (fun h => ?_)
                        · refine ob_t ?_
                          exact ret_s h (fun e => by subst e; exact (by repeat' (first | exact trivial | exact ⟨rfl⟩ | refine And.intro ?_ ?_)))
                        · refine ob_c (p := (0 : Int) ≤ (0 : Int) ∧ (0 : Int) < (↑(2 : Nat) : Int)) (by decide) ?_
                          refine ob_t ?_
                          refine br_b h (fun h => ?_) (fun h => ?_)
                          · refine br_b h (fun h => ?_) (fun h => ?_)
                            · refine ob_t ?_
                              exact ret_s h (fun e => by subst e; exact (by repeat' (first | exact trivial | exact ⟨rfl⟩ | refine And.intro ?_ ?_)))
                            · refine ob_t ?_
                              exact ret_s h (fun e => by subst e; exact (by repeat' (first | exact trivial | exact ⟨rfl⟩ | refine And.intro ?_ ?_)))
                          · refine ob_c (p := (0 : Int) ≤ (1 : Int) ∧ (1 : Int) < (↑(2 : Nat) : Int)) (by decide) ?_
                            refine ob_t ?_
                            refine br_b h (fun h => ?_) (fun h => ?_)
                            · refine br_b h (fun h => ?_) (fun h => ?_)
                              · refine ob_t ?_
                                exact ret_s h (fun e => by subst e; exact (by repeat' (first | exact trivial | exact ⟨rfl⟩ | refine And.intro ?_ ?_)))
                              · refine ob_t ?_
                                exact ret_s h (fun e => by subst e; exact (by repeat' (first | exact trivial | exact ⟨rfl⟩ | refine And.intro ?_ ?_)))
                            · refine ob_c (p := (0 : Int) ≤ (1 : Int) ∧ (1 : Int) < (↑(2 : Nat) : Int)) (by decide) ?_
                              refine ob_s h fun h => ?_
                              refine ob_c (p := (0 : Int) ≤ (1 : Int) ∧ (1 : Int) < (↑(2 : Nat) : Int)) (by decide) ?_
                              refine br_d h (fun h => ?_) (fun h => ?_)
                              · refine ob_c (p := (0 : Int) ≤ (0 : Int) ∧ (0 : Int) < (↑(2 : Nat) : Int)) (by decide) ?_
                                refine ob_s h fun h => ?_
                                refine ob_s h fun h => ?_
                                refine call_s h fun h => ?_
                                refine call_s h fun h => ?_
                                refine br_b h (fun h => ?_) (fun h => ?_)
                                · refine ob_s h fun h => ?_
                                  refine ob_t ?_
                                  exact ret_s h (fun e => by subst e; exact (by repeat' (first | exact trivial | exact ⟨rfl⟩ | refine And.intro ?_ ?_)))
                                · refine ob_t ?_
                                  exact ret_s h (fun e => by subst e; exact (by repeat' (first | exact trivial | exact ⟨rfl⟩ | refine And.intro ?_ ?_)))
                              · refine call_s h fun h => ?_
                                refine call_s h fun h => ?_
                                refine br_b h (fun h => ?_) (fun h => ?_)
                                · refine ob_s h fun h => ?_
                                  refine ob_t ?_
                                  exact ret_s h (fun e => by subst e; exact (by repeat' (first | exact trivial | exact ⟨rfl⟩ | refine And.intro ?_ ?_)))
                                · refine ob_t ?_
                                  exact ret_s h (fun e => by subst e; exact (by repeat' (first | exact trivial | exact ⟨rfl⟩ | refine And.intro ?_ ?_)))
                  · exact nomatch h
    · refine br_d h (fun h => ?_) (fun h => ?_)
      · refine ob_t ?_
        exact ret_s h (fun e => by subst e; exact (by repeat' (first | exact trivial | exact ⟨rfl⟩ | refine And.intro ?_ ?_)))
      · refine ob_c (p := (0 : Int) ≤ (1 : Int) ∧ (1 : Int) < (↑(2 : Nat) : Int)) (by decide) ?_
        refine br_d h (fun h => ?_) (fun h => ?_)
        · refine ob_c (p := (0 : Int) ≤ (1 : Int) ∧ (1 : Int) < (↑(2 : Nat) : Int)) (by decide) ?_
          refine br_d h (fun h => ?_) (fun h => ?_)
          · refine ob_t ?_
            exact ret_s h (fun e => by subst e; exact (by repeat' (first | exact trivial | exact ⟨rfl⟩ | refine And.intro ?_ ?_)))
          · refine call_s h fun h => ?_
            refine call_s h fun h => ?_
            refine call_s h fun h => ?_
            refine call_s h fun h => ?_
            refine ob_c (p := (0 : Int) ≤ (0 : Int) ∧ (0 : Int) < (↑(2 : Nat) : Int)) (by decide) ?_
            refine ob_c (p := (0 : Int) ≤ (1 : Int) ∧ (1 : Int) < (↑(2 : Nat) : Int)) (by decide) ?_
            refine ob_s h fun h => ?_
            refine call_s h fun h => ?_
            refine br_b h (fun h => ?_) (fun h => ?_)
            · refine br_b h (fun h => ?_) (fun h => ?_)
              · refine br_b h (fun h => ?_) (fun h => ?_)
                · refine br_b h (fun h => ?_) (fun h => ?_)
                  · refine ob_t ?_
                    exact ret_s h (fun e => by subst e; exact (by repeat' (first | exact trivial | exact ⟨rfl⟩ | refine And.intro ?_ ?_)))
                  · refine ob_t ?_
                    exact ret_s h (fun e => by subst e; exact (by repeat' (first | exact trivial | exact ⟨rfl⟩ | refine And.intro ?_ ?_)))
                · refine ob_t ?_
                  exact ret_s h (fun e => by subst e; exact (by repeat' (first | exact trivial | exact ⟨rfl⟩ | refine And.intro ?_ ?_)))
              · refine ob_t ?_
                exact ret_s h (fun e => by subst e; exact (by repeat' (first | exact trivial | exact ⟨rfl⟩ | refine And.intro ?_ ?_)))
            · refine br_d h (fun h => ?_) (fun h => ?_)
              · refine br_b h (fun h => ?_) (fun h => ?_)
                · refine ob_t ?_
                  exact ret_s h (fun e => by subst e; exact (by repeat' (first | exact trivial | exact ⟨rfl⟩ | refine And.intro ?_ ?_)))
                · refine br_b h (fun h => ?_) (fun h => ?_)
                  · refine ob_t ?_
                    exact ret_s h (fun e => by subst e; exact (by repeat' (first | exact trivial | exact ⟨rfl⟩ | refine And.intro ?_ ?_)))
                  · refine br_b h (fun h => ?_) (fun h => ?_)
                    · refine ob_t ?_
                      exact ret_s h (fun e => by subst e; exact (by repeat' (first | exact trivial | exact ⟨rfl⟩ | refine And.intro ?_ ?_)))
                    · refine ob_c (p := (0 : Int) ≤ (0 : Int) ∧ (0 : Int) < (↑(2 : Nat) : Int)) (by decide) ?_
                      refine ob_t ?_
                      refine br_b h (fun h => ?_) (fun h => ?_)
                      · refine br_b h (fun h => ?_) (fun h => ?_)
                        · refine ob_t ?_
                          exact ret_s h (fun e => by subst e; exact (by repeat' (first | exact trivial | exact ⟨rfl⟩ | refine And.intro ?_ ?_)))
                        · refine ob_t ?_
                          exact ret_s h (fun e => by subst e; exact (by repeat' (first | exact trivial | exact ⟨rfl⟩ | refine And.intro ?_ ?_)))
                      · refine ob_c (p := (0 : Int) ≤ (1 : Int) ∧ (1 : Int) < (↑(2 : Nat) : Int)) (by decide) ?_
                        refine ob_t ?_
                        refine br_b h (fun h => ?_) (fun h => ?_)
                        · refine br_b h (fun h => ?_) (fun h => ?_)
                          · refine ob_t ?_
                            exact ret_s h (fun e => by subst e; exact (by repeat' (first | exact trivial | exact ⟨rfl⟩ | refine And.intro ?_ ?_)))
                          · refine ob_t ?_
                            exact ret_s h (fun e => by subst e; exact (by repeat' (first | exact trivial | exact ⟨rfl⟩ | refine And.intro ?_ ?_)))
                        · refine ob_c (p := (0 : Int) ≤ (1 : Int) ∧ (1 : Int) < (↑(2 : Nat) : Int)) (by decide) ?_
                          refine ob_s h fun h => ?_
                          refine ob_c (p := (0 : Int) ≤ (1 : Int) ∧ (1 : Int) < (↑(2 : Nat) : Int)) (by decide) ?_
                          refine br_d h (fun h => ?_) (fun h => ?_)
                          · refine ob_c (p := (0 : Int) ≤ (0 : Int) ∧ (0 : Int) < (↑(2 : Nat) : Int)) (by decide) ?_
                            refine ob_s h fun h => ?_
                            refine ob_s h fun h => ?_
                            refine call_s h fun h => ?_
                            refine call_s h fun h => ?_
                            refine br_b h (fun h => ?_) (fun h => ?_)
                            · refine ob_s h fun h => ?_
                              refine ob_t ?_
                              exact ret_s h (fun e => by subst e; exact (by repeat' (first | exact trivial | exact ⟨rfl⟩ | refine And.intro ?_ ?_)))
                            · refine ob_t ?_
                              exact ret_s h (fun e => by subst e; exact (by repeat' (first | exact trivial | exact ⟨rfl⟩ | refine And.intro ?_ ?_)))
                          · refine call_s h fun h => ?_
                            refine call_s h fun h => ?_
                            refine br_b h (fun h => ?_) (fun h => ?_)
                            · refine ob_s h fun h => ?_
                              refine ob_t ?_
                              exact ret_s h (fun e => by subst e; exact (by repeat' (first | exact trivial | exact ⟨rfl⟩ | refine And.intro ?_ ?_)))
                            · refine ob_t ?_
                              exact ret_s h (fun e => by subst e; exact (by repeat' (first | exact trivial | exact ⟨rfl⟩ | refine And.intro ?_ ?_)))
              · refine call_s h fun h => ?_
                refine call_s h fun h => ?_
                refine br_b h (fun h => ?_) (fun h => ?_)
                · refine br_b h (fun h => ?_) (fun h => ?_)
                  · refine ob_t ?_
                    exact ret_s h (fun e => by subst e; exact (by repeat' (first | exact trivial | exact ⟨rfl⟩ | refine And.intro ?_ ?_)))
                  · refine br_b h (fun h => ?_) (fun h => ?_)
                    · refine ob_t ?_
                      exact ret_s h (fun e => by subst e; exact (by repeat' (first | exact trivial | exact ⟨rfl⟩ | refine And.intro ?_ ?_)))
                    · refine br_b h (fun h => ?_) (fun h => ?_)
                      · refine ob_t ?_
                        exact ret_s h (fun e => by subst e; exact (by repeat' (first | exact trivial | exact ⟨rfl⟩ | refine And.intro ?_ ?_)))
                      · refine br_b h (fun h => ?_) (fun h => ?_)
                        · exact nomatch h
                        · refine ob_c (p := (0 : Int) ≤ (0 : Int) ∧ (0 : Int) < (↑(2 : Nat) : Int)) (by decide) ?_
                          refine ob_t ?_
                          refine br_b h (fun h => ?_) (fun h => ?_)
                          · refine br_b h (fun h => ?_) (fun h => ?_)
                            · refine ob_t ?_
                              exact ret_s h (fun e => by subst e; exact (by repeat' (first | exact trivial | exact ⟨rfl⟩ | refine And.intro ?_ ?_)))
                            · refine ob_t ?_
                              exact ret_s h (fun e => by subst e; exact (by repeat' (first | exact trivial | exact ⟨rfl⟩ | refine And.intro ?_ ?_)))
                          · refine ob_c (p := (0 : Int) ≤ (1 : Int) ∧ (1 : Int) < (↑(2 : Nat) : Int)) (by decide) ?_
                            refine ob_t ?_
                            refine br_b h (fun h => ?_) (fun h => ?_)
                            · refine br_b h (fun h => ?_) (fun h => ?_)
                              · refine ob_t ?_
                                exact ret_s h (fun e => by subst e; exact (by repeat' (first | exact trivial | exact ⟨rfl⟩ | refine And.intro ?_ ?_)))
                              · refine ob_t ?_
                                exact ret_s h (fun e => by subst e; exact (by repeat' (first | exact trivial | exact ⟨rfl⟩ | refine And.intro ?_ ?_)))
                            · refine ob_c (p := (0 : Int) ≤ (1 : Int) ∧ (1 : Int) < (↑(2 : Nat) : Int)) (by decide) ?_
                              refine ob_s h fun h => ?_
                              refine ob_c (p := (0 : Int) ≤ (1 : Int) ∧ (1 : Int) < (↑(2 : Nat) : Int)) (by decide) ?_
                              refine br_d h (fun h => ?_) (fun h => ?_)
                              · refine ob_c (p := (0 : Int) ≤ (0 : Int) ∧ (0 : Int) < (↑(2 : Nat) : Int)) (by decide) ?_
                                refine ob_s h fun h => ?_
                                refine ob_s h fun h => ?_
                                refine call_s h fun h => ?_
                                refine call_s h fun h => ?_
                                refine br_b h (fun h => ?_) (fun h => ?_)
                                · refine ob_s h fun h => ?_
                                  refine ob_t ?_
                                  exact ret_s h (fun e => by subst e; exact (by repeat' (first | exact trivial | exact ⟨rfl⟩ | refine And.intro ?_ ?_)))
                                · refine ob_t ?_
                                  exact ret_s h (fun e => by subst e; exact (by repeat' (first | exact trivial | exact ⟨rfl⟩ | refine And.intro ?_ ?_)))
                              · refine call_s h fun h => ?_
                                refine call_s h fun h => ?_
                                refine br_b h (fun h => ?_) (fun h => ?_)
                                · refine ob_s h fun h => ?_
                                  refine ob_t ?_
                                  exact ret_s h (fun e => by subst e; exact (by repeat' (first | exact trivial | exact ⟨rfl⟩ | refine And.intro ?_ ?_)))
                                · refine ob_t ?_
                                  exact ret_s h (fun e => by subst e; exact (by repeat' (first | exact trivial | exact ⟨rfl⟩ | refine And.intro ?_ ?_)))
                · refine br_b h (fun h => ?_) (fun h => ?_)
                  · refine call_s h fun h => ?_
                    refine call_s h fun h => ?_
                    refine call_s h fun h => ?_
                    refine call_s h fun h => ?_
                    refine br_b h (fun h => ?_) (fun h => ?_)
                    · refine ob_t ?_
                      exact ret_s h (fun e => by subst e; exact (by repeat' (first | exact trivial | exact ⟨rfl⟩ | refine And.intro ?_ ?_)))
                    · refine call_s h fun h => ?_
                      refine call_s h fun h => ?_
                      refine br_b h (fun h => ?_) (fun h => ?_)
                      · refine ob_t ?_
                        exact ret_s h (fun e => by subst e; exact (by repeat' (first | exact trivial | exact ⟨rfl⟩ | refine And.intro ?_ ?_)))
                      · refine br_b h (fun h => ?_) (fun h => ?_)
                        · refine ob_t ?_
                          exact ret_s h (fun e => by subst e; exact (by repeat' (first | exact trivial | exact ⟨rfl⟩ | refine And.intro ?_ ?_)))
                        · refine ob_c (p := (0 : Int) ≤ (0 : Int) ∧ (0 : Int) < (↑(2 : Nat) : Int)) (by decide) ?_
                          refine ob_t ?_
                          refine br_b h (fun h => ?_) (fun h => ?_)
                          · refine br_b h (fun h => ?_) (fun h => ?_)
                            · refine ob_t ?_
                              exact ret_s h (fun e => by subst e; exact (by repeat' (first | exact trivial | exact ⟨rfl⟩ | refine And.intro ?_ ?_)))
                            · refine ob_t ?_
                              exact ret_s h (fun e => by subst e; exact (by repeat' (first | exact trivial | exact ⟨rfl⟩ | refine And.intro ?_ ?_)))
                          · refine ob_c (p := (0 : Int) ≤ (1 : Int) ∧ (1 : Int) < (↑(2 : Nat) : Int)) (by decide) ?_
                            refine ob_t ?_
                            refine br_b h (fun h => ?_) (fun h => ?_)
                            · refine br_b h (fun h => ?_) (fun h => ?_)
                              · refine ob_t ?_
                                exact ret_s h (fun e => by subst e; exact (by repeat' (first | exact trivial | exact ⟨rfl⟩ | refine And.intro ?_ ?_)))
                              · refine ob_t ?_
                                exact ret_s h (fun e => by subst e; exact (by repeat' (first | exact trivial | exact ⟨rfl⟩ | refine And.intro ?_ ?_)))
                            · refine ob_c (p := (0 : Int) ≤ (1 : Int) ∧ (1 : Int) < (↑(2 : Nat) : Int)) (by decide) ?_
                              refine ob_s h fun h => ?_
                              refine ob_c (p := (0 : Int) ≤ (1 : Int) ∧ (1 : Int) < (↑(2 : Nat) : Int)) (by decide) ?_
                              refine br_d h (fun h => ?_) (fun h => ?_)
                              · refine ob_c (p := (0 : Int) ≤ (0 : Int) ∧ (0 : Int) < (↑(2 : Nat) : Int)) (by decide) ?_
                                refine ob_s h fun h => ?_
                                refine ob_s h fun h => ?_
                                refine call_s h fun h => ?_
                                refine call_s h fun h => ?_
                                refine br_b h (fun h => ?_) (fun h => ?_)
                                · refine ob_s h fun h => ?_
                                  refine ob_t ?_
                                  exact ret_s h (fun e => by subst e; exact (by repeat' (first | exact trivial | exact ⟨rfl⟩ | refine And.intro ?_ ?_)))
                                · refine ob_t ?_
                                  exact ret_s h (fun e => by subst e; exact (by repeat' (first | exact trivial | exact ⟨rfl⟩ | refine And.intro ?_ ?_)))
                              · refine call_s h fun h => ?_
                                refine call_s h fun h => ?_
                                refine br_b h (fun h => ?_) (fun h => ?_)
                                · refine ob_s h fun h => ?_
                                  refine ob_t ?_
                                  exact ret_s h (fun e => by subst e; exact (by repeat' (first | exact trivial | exact ⟨rfl⟩ | refine And.intro ?_ ?_)))
                                · refine ob_t ?_
                                  exact ret_s h (fun e => by subst e; exact (by repeat' (first | exact trivial | exact ⟨rfl⟩ | refine And.intro ?_ ?_)))
                  · exact nomatch h
        · refine call_s h fun h => ?_
          refine call_s h fun h => ?_
          refine call_s h fun h => ?_
          refine call_s h fun h => ?_
          refine ob_c (p := (0 : Int) ≤ (0 : Int) ∧ (0 : Int) < (↑(2 : Nat) : Int)) (by decide) ?_
          refine ob_c (p := (0 : Int) ≤ (1 : Int) ∧ (1 : Int) < (↑(2 : Nat) : Int)) (by decide) ?_
          refine ob_s h fun h => ?_
          refine call_s h fun h => ?_
          refine br_b h (fun h => ?_) (fun h => ?_)
          · refine br_b h (fun h => ?_) (fun h => ?_)
            · refine br_b h (fun h => ?_) (fun h => ?_)
              · refine br_b h (fun h => ?_) (fun h => ?_)
                · refine ob_t ?_
                  exact ret_s h (fun e => by subst e; exact (by repeat' (first | exact trivial | exact ⟨rfl⟩ | refine And.intro ?_ ?_)))
                · refine ob_t ?_
                  exact ret_s h (fun e => by subst e; exact (by repeat' (first | exact trivial | exact ⟨rfl⟩ | refine And.intro ?_ ?_)))
              · refine ob_t ?_
                exact ret_s h (fun e => by subst e; exact (by repeat' (first | exact trivial | exact ⟨rfl⟩ | refine And.intro ?_ ?_)))
            · refine ob_t ?_
              exact ret_s h (fun e => by subst e; exact (by repeat' (first | exact trivial | exact ⟨rfl⟩ | refine And.intro ?_ ?_)))
          · refine br_d h (fun h => ?_) (fun h => ?_)
            · refine br_b h (fun h => ?_) (fun h => ?_)
              · refine ob_t ?_
                exact ret_s h (fun e => by subst e; exact (by repeat' (first | exact trivial | exact ⟨rfl⟩ | refine And.intro ?_ ?_)))
              · refine br_b h (fun h => ?_) (fun h => ?_)
                · refine ob_t ?_
                  exact ret_s h (fun e => by subst e; exact (by repeat' (first | exact trivial | exact ⟨rfl⟩ | refine And.intro ?_ ?_)))
                · refine br_b h (fun h => ?_) (fun h => ?_)
                  · refine ob_t ?_
                    exact ret_s h (fun e => by subst e; exact (by repeat' (first | exact trivial | exact ⟨rfl⟩ | refine And.intro ?_ ?_)))
                  · refine ob_c (p := (0 : Int) ≤ (0 : Int) ∧ (0 : Int) < (↑(2 : Nat) : Int)) (by decide) ?_
                    refine ob_t ?_
                    refine br_b h (fun h => ?_) (fun h => ?_)
                    · refine br_b h (fun h => ?_) (fun h => ?_)
                      · refine ob_t ?_
                        exact ret_s h (fun e => by subst e; exact (by repeat' (first | exact trivial | exact ⟨rfl⟩ | refine And.intro ?_ ?_)))
                      · refine ob_t ?_
                        exact ret_s h (fun e => by subst e; exact (by repeat' (first | exact trivial | exact ⟨rfl⟩ | refine And.intro ?_ ?_)))
                    · refine ob_c (p := (0 : Int) ≤ (1 : Int) ∧ (1 : Int) < (↑(2 : Nat) : Int)) (by decide) ?_
                      refine ob_t ?_
                      refine br_b h (fun h => ?_) (fun h => ?_)
                      · refine br_b h (fun h => ?_) (fun h => ?_)
                        · refine ob_t ?_
                          exact ret_s h (fun e => by subst e; exact (by repeat' (first | exact trivial | exact ⟨rfl⟩ | refine And.intro ?_ ?_)))
                        · refine ob_t ?_
                          exact ret_s h (fun e => by subst e; exact (by repeat' (first | exact trivial | exact ⟨rfl⟩ | refine And.intro ?_ ?_)))
                      · refine ob_c (p := (0 : Int) ≤ (1 : Int) ∧ (1 : Int) < (↑(2 : Nat) : Int)) (by decide) ?_
                        refine ob_s h fun h => ?_
                        refine ob_c (p := (0 : Int) ≤ (1 : Int) ∧ (1 : Int) < (↑(2 : Nat) : Int)) (by decide) ?_
                        refine br_d h (fun h => ?_) (fun h => ?_)
                        · refine ob_c (p := (0 : Int) ≤ (0 : Int) ∧ (0 : Int) < (↑(2 : Nat) : Int)) (by decide) ?_
                          refine ob_s h fun h => ?_
                          refine ob_s h fun h => ?_
                          refine call_s h fun h => ?_
                          refine call_s h fun h => ?_
                          refine br_b h (fun h => ?_) (fun h => ?_)
                          · refine ob_s h fun h => ?_
                            refine ob_t ?_
                            exact ret_s h (fun e => by subst e; exact (by repeat' (first | exact trivial | exact ⟨rfl⟩ | refine And.intro ?_ ?_)))
                          · refine ob_t ?_
                            exact ret_s h (fun e => by subst e; exact (by repeat' (first | exact trivial | exact ⟨rfl⟩ | refine And.intro ?_ ?_)))
                        · refine call_s h fun h => ?_
                          refine call_s h fun h => ?_
                          refine br_b h (fun h => ?_) (fun h => ?_)
                          · refine ob_s h fun h => ?_
                            refine ob_t ?_
                            exact ret_s h (fun e => by subst e; exact (by repeat' (first | exact trivial | exact ⟨rfl⟩ | refine And.intro ?_ ?_)))
                          · refine ob_t ?_
                            exact ret_s h (fun e => by subst e; exact (by repeat' (first | exact trivial | exact ⟨rfl⟩ | refine And.intro ?_ ?_)))
            · refine call_s h fun h => ?_
              refine call_s h fun h => ?_
              refine br_b h (fun h => ?_) (fun h => ?_)
              · refine br_b h (fun h => ?_) (fun h => ?_)
                · refine ob_t ?_
                  exact ret_s h (fun e => by subst e; exact (by repeat' (first | exact trivial | exact ⟨rfl⟩ | refine And.intro ?_ ?_)))
                · refine br_b h (fun h => ?_) (fun h => ?_)
                  · refine ob_t ?_
                    exact ret_s h (fun e => by subst e; exact (by repeat' (first | exact trivial | exact ⟨rfl⟩ | refine And.intro ?_ ?_)))
                  · refine br_b h (fun h => ?_) (fun h => ?_)
                    · refine ob_t ?_
                      exact ret_s h (fun e => by subst e; exact (by repeat' (first | exact trivial | exact ⟨rfl⟩ | refine And.intro ?_ ?_)))
                    · refine br_b h (fun h => ?_) (fun h => ?_)
                      · exact nomatch h
                      · refine ob_c (p := (0 : Int) ≤ (0 : Int) ∧ (0 : Int) < (↑(2 : Nat) : Int)) (by decide) ?_
                        refine ob_t ?_
                        refine br_b h (fun h => ?_) (fun h => ?_)
                        · refine br_b h (fun h => ?_) (fun h => ?_)
                          · refine ob_t ?_
                            exact ret_s h (fun e => by subst e; exact (by repeat' (first | exact trivial | exact ⟨rfl⟩ | refine And.intro ?_ ?_)))
                          · refine ob_t ?_
                            exact ret_s h (fun e => by subst e; exact (by repeat' (first | exact trivial | exact ⟨rfl⟩ | refine And.intro ?_ ?_)))
                        · refine ob_c (p := (0 : Int) ≤ (1 : Int) ∧ (1 : Int) < (↑(2 : Nat) : Int)) (by decide) ?_
                          refine ob_t ?_
                          refine br_b h (fun h => ?_) (fun h => ?_)
                          · refine br_b h (fun h => ?_) (fun h => ?_)
                            · refine ob_t ?_
                              exact ret_s h (fun e => by subst e; exact (by repeat' (first | exact trivial | exact ⟨rfl⟩ | refine And.intro ?_ ?_)))
                            · refine ob_t ?_
                              exact ret_s h (fun e => by subst e; exact (by repeat' (first | exact trivial | exact ⟨rfl⟩ | refine And.intro ?_ ?_)))
                          · refine ob_c (p := (0 : Int) ≤ (1 : Int) ∧ (1 : Int) < (↑(2 : Nat) : Int)) (by decide) ?_
                            refine ob_s h fun h => ?_
                            refine ob_c (p := (0 : Int) ≤ (1 : Int) ∧ (1 : Int) < (↑(2 : Nat) : Int)) (by decide) ?_
                            refine br_d h (fun h => ?_) (fun h => ?_)
                            · refine ob_c (p := (0 : Int) ≤ (0 : Int) ∧ (0 : Int) < (↑(2 : Nat) : Int)) (by decide) ?_
                              refine ob_s h fun h => ?_
                              refine ob_s h fun h => ?_
                              refine call_s h fun h => ?_
                              refine call_s h fun h => ?_
                              refine br_b h (fun h => ?_) (fun h => ?_)
                              · refine ob_s h fun h => ?_
                                refine ob_t ?_
                                exact ret_s h (fun e => by subst e; exact (by repeat' (first | exact trivial | exact ⟨rfl⟩ | refine And.intro ?_ ?_)))
                              · refine ob_t ?_
                                exact ret_s h (fun e => by subst e; exact (by repeat' (first | exact trivial | exact ⟨rfl⟩ | refine And.intro ?_ ?_)))
                            · refine call_s h fun h => ?_
                              refine call_s h fun h => ?_
                              refine br_b h (fun h => ?_) (fun h => ?_)
                              · refine ob_s h fun h => ?_
                                refine ob_t ?_
                                exact ret_s h (fun e => by subst e; exact (by repeat' (first | exact trivial | exact ⟨rfl⟩ | refine And.intro ?_ ?_)))
                              · refine ob_t ?_
                                exact ret_s h (fun e => by subst e; exact (by repeat' (first | exact trivial | exact ⟨rfl⟩ | refine And.intro ?_ ?_)))
              · refine br_b h (fun h => ?_) (fun h => ?_)
                · refine call_s h fun h => ?_
                  refine call_s h fun h => ?_
                  refine call_s h fun h => ?_
                  refine call_s h fun h => ?_
                  refine br_b h (fun h => ?_) (fun h => ?_)
                  · refine ob_t ?_
                    exact ret_s h (fun e => by subst e; exact (by repeat' (first | exact trivial | exact ⟨rfl⟩ | refine And.intro ?_ ?_)))
                  · refine call_s h fun h => ?_
                    refine call_s h fun h => ?_
                    refine br_b h (fun h => ?_) (fun h => ?_)
                    · refine ob_t ?_
                      exact ret_s h (fun e => by subst e; exact (by repeat' (first | exact trivial | exact ⟨rfl⟩ | refine And.intro ?_ ?_)))
                    · refine br_b h (fun h => ?_) (fun h => ?_)
                      · refine ob_t ?_
                        exact ret_s h (fun e => by subst e; exact (by repeat' (first | exact trivial | exact ⟨rfl⟩ | refine And.intro ?_ ?_)))
                      · refine ob_c (p := (0 : Int) ≤ (0 : Int) ∧ (0 : Int) < (↑(2 : Nat) : Int)) (by decide) ?_
                        refine ob_t ?_
                        refine br_b h (fun h => ?_) (fun h => ?_)
                        · refine br_b h (fun h => ?_) (fun h => ?_)
                          · refine ob_t ?_
                            exact ret_s h (fun e => by subst e; exact (by repeat' (first | exact trivial | exact ⟨rfl⟩ | refine And.intro ?_ ?_)))
                          · refine ob_t ?_
                            exact ret_s h (fun e => by subst e; exact (by repeat' (first | exact trivial | exact ⟨rfl⟩ | refine And.intro ?_ ?_)))
                        · refine ob_c (p := (0 : Int) ≤ (1 : Int) ∧ (1 : Int) < (↑(2 : Nat) : Int)) (by decide) ?_
                          refine ob_t ?_
                          refine br_b h (fun h => ?_) (fun h => ?_)
                          · refine br_b h (fun h => ?_) (fun h => ?_)
                            · refine ob_t ?_
                              exact ret_s h (fun e => by subst e; exact (by repeat' (first | exact trivial | exact ⟨rfl⟩ | refine And.intro ?_ ?_)))
                            · refine ob_t ?_
                              exact ret_s h (fun e => by subst e; exact (by repeat' (first | exact trivial | exact ⟨rfl⟩ | refine And.intro ?_ ?_)))
                          · refine ob_c (p := (0 : Int) ≤ (1 : Int) ∧ (1 : Int) < (↑(2 : Nat) : Int)) (by decide) ?_
                            refine ob_s h fun h => ?_
                            refine ob_c (p := (0 : Int) ≤ (1 : Int) ∧ (1 : Int) < (↑(2 : Nat) : Int)) (by decide) ?_
                            refine br_d h (fun h => ?_) (fun h => ?_)
                            · refine ob_c (p := (0 : Int) ≤ (0 : Int) ∧ (0 : Int) < (↑(2 : Nat) : Int)) (by decide) ?_
                              refine ob_s h fun h => ?_
                              refine ob_s h fun h => ?_
                              refine call_s h fun h => ?_
                              refine call_s h fun h => ?_
                              refine br_b h (fun h => ?_) (fun h => ?_)
                              · refine ob_s h fun h => ?_
                                refine ob_t ?_
                                exact ret_s h (fun e => by subst e; exact (by repeat' (first | exact trivial | exact ⟨rfl⟩ | refine And.intro ?_ ?_)))
                              · refine ob_t ?_
                                exact ret_s h (fun e => by subst e; exact (by repeat' (first | exact trivial | exact ⟨rfl⟩ | refine And.intro ?_ ?_)))
                            · refine call_s h fun h => ?_
                              refine call_s h fun h => ?_
                              refine br_b h (fun h => ?_) (fun h => ?_)
                              · refine ob_s h fun h => ?_
                                refine ob_t ?_
                                exact ret_s h (fun e => by subst e; exact (by repeat' (first | exact trivial | exact ⟨rfl⟩ | refine And.intro ?_ ?_)))
                              · refine ob_t ?_
                                exact ret_s h (fun e => by subst e; exact (by repeat' (first | exact trivial | exact ⟨rfl⟩ | refine And.intro ?_ ?_)))
                · exact nomatch h
set_option maxRecDepth 100000 in
theorem L06_FilterLists_ok : SpecOK Try.prog 12 true (pureK k_L06_FilterLists g_L06_FilterLists) := by
  refine pureK_ok (sp := (sp_18 (sp_24 (sp_52 (sp_27 (sp_60 (sp_30 (sp_61 (sp_59 (sp_63 (sp_66 (sp_65 (sp_50 (sp_64 (sp_62 (sp_34 sp0)))))))))))))))) (fn := Try.f12) (body := bodyOf Try.f12) mixed (sp_18_ok (sp_24_ok (sp_52_ok (sp_27_ok (sp_60_ok (sp_30_ok (sp_61_ok (sp_59_ok (sp_63_ok (sp_66_ok (sp_65_ok (sp_50_ok (sp_64_ok (sp_62_ok (sp_34_ok sp0_ok))))))))))))))) Try.func12 (by kernel_rfl) (by kernel_rfl) fun as_ ob rs h ho => ?_
  unfold g_L06_FilterLists at h
  split at h
  · rename_i c l x_0 x_1
    cases h
    exact ⟨Nat.le_of_ble_eq_true rfl, _, _, L06_FilterLists_vc c l x_0 x_1 _ (ok_some ho)⟩
  · cases h
theorem sp_12_ok {sp : Specs} (h : SpecsOK Try.prog sp) : SpecsOK Try.prog (sp_12 sp) := addK_ok L06_FilterLists_ok h
end Go.Sh
