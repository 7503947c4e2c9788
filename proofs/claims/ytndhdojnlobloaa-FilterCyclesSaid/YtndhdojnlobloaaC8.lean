/- Contracts of a section at work. -/
import Derived.Test.YtndhdojnlobloaaC7
set_option linter.unusedSectionVars false
set_option linter.unusedSimpArgs false
set_option linter.unusedVariables false
namespace Go.Sx06
open Go Go.Proofs Go.RowKit Go.Sx

/-- The output of a unit before it is cut. -/
def rawU (u : List Int) (x : Int) : Int := (2 * (u.getD 0 0 * x + u.getD 1 0 * u.getD 5 0 + u.getD 2 0 * u.getD 6 0 - u.getD 3 0 * u.getD 7 0 - u.getD 4 0 * u.getD 8 0) + 16384) / 32768
def outU (u : List Int) (x : Int) : Int := max (-32767) (min 32767 (rawU u x))
def putU (u : List Int) (x : Int) : List Int := [u.getD 0 0, u.getD 1 0, u.getD 2 0, u.getD 3 0, u.getD 4 0, x, u.getD 5 0, outU u x, u.getD 7 0, u.getD 9 0 + if outU u x = rawU u x then 0 else 1]
def okU (u : List Int) : Prop := u.length = 10 ∧ (∀ j, j < 5 → -32768 ≤ u.getD j 0 ∧ u.getD j 0 ≤ 32768) ∧ (∀ j, 5 ≤ j → j < 9 → -32767 ≤ u.getD j 0 ∧ u.getD j 0 ≤ 32767) ∧ 0 ≤ u.getD 9 0 ∧ u.getD 9 0 ≤ 1000000000
theorem mulB {x y a b : Int} (ha : 0 ≤ a) (hb : 0 ≤ b) (hx : -a ≤ x ∧ x ≤ a) (hy : -b ≤ y ∧ y ≤ b) : -(a * b) ≤ x * y ∧ x * y ≤ a * b := by
  have h1 : (x * y).natAbs ≤ a.natAbs * b.natAbs := by
    rw [Int.natAbs_mul]
    exact Nat.mul_le_mul (by omega) (by omega)
  have h2 : a * b = ((a.natAbs * b.natAbs : Nat) : Int) := by
    rw [Int.natCast_mul]
    have e1 : (a.natAbs : Int) = a := by omega
    have e2 : (b.natAbs : Int) = b := by omega
    rw [e1, e2]
  rw [h2]
  omega
theorem getD_set {α : Type} {l : List α} {i : Nat} {a d : α} (h : i < l.length) : (l.set i a).getD i d = a := by simp [List.getD, h]

/-! unitPut: a unit is given an input -/
def gUnitPut : C → O → List A → Option (Prop × O × List RV)
  | .p 0 i 10 0, .row 158 (.recs 10 us), [.d (.i .i64 x)] => some (i < us.length ∧ okU (us.getD i []) ∧ -32767 ≤ x ∧ x ≤ 32767, .row 158 (.recs 10 (us.set i (putU (us.getD i []) x))), [.d (.i .i64 (outU (us.getD i []) x))])
  | _, _, _ => none

set_option maxRecDepth 100000 in
theorem unitPut_vc (i : Nat) (us : List (List Int)) (x : Int) (ho : i < us.length ∧ okU (us.getD i []) ∧ -32767 ≤ x ∧ x ≤ 32767) : runE Try.f92 (addS 95 gRounded sp0) (fun _ _ => none) 0 (.p 0 i 10 0) (.row 158 (.recs 10 us)) [.d (.i .i64 x)] (.row 158 (.recs 10 (us.set i (putU (us.getD i []) x)))) [.d (.i .i64 (outU (us.getD i []) x))] := by
  refine Eq.mp (by kernel_rfl : (
       Ob ((0 : Int) ≤ (0 : Int) ∧ (0 : Int) < (↑(3 : Nat) : Int)) ∧
       Ob (i < us.length) ∧
       Ob ((0 : Int) ≤ (1 : Int) ∧ (1 : Int) < (↑(3 : Nat) : Int)) ∧
       Ob (i < us.length) ∧
       Ob ((0 : Int) ≤ (0 : Int) ∧ (0 : Int) < (↑(2 : Nat) : Int)) ∧
       Ob (i < us.length) ∧
       Ob ((0 : Int) ≤ (2 : Int) ∧ (2 : Int) < (↑(3 : Nat) : Int)) ∧
       Ob (i < us.length) ∧
       Ob ((0 : Int) ≤ (1 : Int) ∧ (1 : Int) < (↑(2 : Nat) : Int)) ∧
       Ob (i < us.length) ∧
       Ob ((0 : Int) ≤ (0 : Int) ∧ (0 : Int) < (↑(2 : Nat) : Int)) ∧
       Ob (i < us.length) ∧
       Ob ((0 : Int) ≤ (0 : Int) ∧ (0 : Int) < (↑(2 : Nat) : Int)) ∧
       Ob (i < us.length) ∧
       Ob ((0 : Int) ≤ (1 : Int) ∧ (1 : Int) < (↑(2 : Nat) : Int)) ∧
       Ob (i < us.length) ∧
       Ob ((0 : Int) ≤ (1 : Int) ∧ (1 : Int) < (↑(2 : Nat) : Int)) ∧
       Ob (i < us.length) ∧
       Ob
       ((-4611686018427387904 : Int) <
       (2 : Int) *
       IntKind.i64.wrap
       (IntKind.i64.wrap
       (IntKind.i64.wrap
       (IntKind.i64.wrap
       (IntKind.i64.wrap
       ((us.getD i []).getD (0 : Nat) (0 : Int) * x) +
       IntKind.i64.wrap
       ((us.getD i []).getD (1 : Nat) (0 : Int) *
       (us.getD i []).getD (5 : Nat) (0 : Int))) +
       IntKind.i64.wrap
       ((us.getD i []).getD (2 : Nat) (0 : Int) *
       (us.getD i []).getD (6 : Nat) (0 : Int))) -
       IntKind.i64.wrap
       ((us.getD i []).getD (3 : Nat) (0 : Int) *
       (us.getD i []).getD (7 : Nat) (0 : Int))) -
       IntKind.i64.wrap
       ((us.getD i []).getD (4 : Nat) (0 : Int) *
       (us.getD i []).getD (8 : Nat) (0 : Int))) +
       (16384 : Int) ∧
       (2 : Int) *
       IntKind.i64.wrap
       (IntKind.i64.wrap
       (IntKind.i64.wrap
       (IntKind.i64.wrap
       (IntKind.i64.wrap
       ((us.getD i []).getD (0 : Nat) (0 : Int) * x) +
       IntKind.i64.wrap
       ((us.getD i []).getD (1 : Nat) (0 : Int) *
       (us.getD i []).getD (5 : Nat) (0 : Int))) +
       IntKind.i64.wrap
       ((us.getD i []).getD (2 : Nat) (0 : Int) *
       (us.getD i []).getD (6 : Nat) (0 : Int))) -
       IntKind.i64.wrap
       ((us.getD i []).getD (3 : Nat) (0 : Int) *
       (us.getD i []).getD (7 : Nat) (0 : Int))) -
       IntKind.i64.wrap
       ((us.getD i []).getD (4 : Nat) (0 : Int) *
       (us.getD i []).getD (8 : Nat) (0 : Int))) +
       (16384 : Int) <
       (4611686018427387904 : Int) ∧
       (0 : Int) < (16384 : Int) ∧ (16384 : Int) < (4611686018427387904 : Int)) ∧
       Br
       ((if
       (if
       ((2 : Int) *
       IntKind.i64.wrap
       (IntKind.i64.wrap
       (IntKind.i64.wrap
       (IntKind.i64.wrap
       (IntKind.i64.wrap
       ((us.getD i []).getD (0 : Nat)
       (0 : Int) *
       x) +
       IntKind.i64.wrap
       ((us.getD i []).getD (1 : Nat)
       (0 : Int) *
       (us.getD i []).getD (5 : Nat)
       (0 : Int))) +
       IntKind.i64.wrap
       ((us.getD i []).getD (2 : Nat) (0 : Int) *
       (us.getD i []).getD (6 : Nat)
       (0 : Int))) -
       IntKind.i64.wrap
       ((us.getD i []).getD (3 : Nat) (0 : Int) *
       (us.getD i []).getD (7 : Nat) (0 : Int))) -
       IntKind.i64.wrap
       ((us.getD i []).getD (4 : Nat) (0 : Int) *
       (us.getD i []).getD (8 : Nat) (0 : Int))) +
       (16384 : Int)) /
       ((2 : Int) * (16384 : Int)) <
       (32767 : Int) then
       ((2 : Int) *
       IntKind.i64.wrap
       (IntKind.i64.wrap
       (IntKind.i64.wrap
       (IntKind.i64.wrap
       (IntKind.i64.wrap
       ((us.getD i []).getD (0 : Nat) (0 : Int) *
       x) +
       IntKind.i64.wrap
       ((us.getD i []).getD (1 : Nat) (0 : Int) *
       (us.getD i []).getD (5 : Nat)
       (0 : Int))) +
       IntKind.i64.wrap
       ((us.getD i []).getD (2 : Nat) (0 : Int) *
       (us.getD i []).getD (6 : Nat) (0 : Int))) -
       IntKind.i64.wrap
       ((us.getD i []).getD (3 : Nat) (0 : Int) *
       (us.getD i []).getD (7 : Nat) (0 : Int))) -
       IntKind.i64.wrap
       ((us.getD i []).getD (4 : Nat) (0 : Int) *
       (us.getD i []).getD (8 : Nat) (0 : Int))) +
       (16384 : Int)) /
       ((2 : Int) * (16384 : Int))
       else (32767 : Int)) >
       (-32767 : Int) then
       if
       ((2 : Int) *
       IntKind.i64.wrap
       (IntKind.i64.wrap
       (IntKind.i64.wrap
       (IntKind.i64.wrap
       (IntKind.i64.wrap
       ((us.getD i []).getD (0 : Nat) (0 : Int) *
       x) +
       IntKind.i64.wrap
       ((us.getD i []).getD (1 : Nat) (0 : Int) *
       (us.getD i []).getD (5 : Nat)
       (0 : Int))) +
       IntKind.i64.wrap
       ((us.getD i []).getD (2 : Nat) (0 : Int) *
       (us.getD i []).getD (6 : Nat) (0 : Int))) -
       IntKind.i64.wrap
       ((us.getD i []).getD (3 : Nat) (0 : Int) *
       (us.getD i []).getD (7 : Nat) (0 : Int))) -
       IntKind.i64.wrap
       ((us.getD i []).getD (4 : Nat) (0 : Int) *
       (us.getD i []).getD (8 : Nat) (0 : Int))) +
       (16384 : Int)) /
       ((2 : Int) * (16384 : Int)) <
       (32767 : Int) then
       ((2 : Int) *
       IntKind.i64.wrap
       (IntKind.i64.wrap
       (IntKind.i64.wrap
       (IntKind.i64.wrap
       (IntKind.i64.wrap
       ((us.getD i []).getD (0 : Nat) (0 : Int) * x) +
       IntKind.i64.wrap
       ((us.getD i []).getD (1 : Nat) (0 : Int) *
       (us.getD i []).getD (5 : Nat) (0 : Int))) +
       IntKind.i64.wrap
       ((us.getD i []).getD (2 : Nat) (0 : Int) *
       (us.getD i []).getD (6 : Nat) (0 : Int))) -
       IntKind.i64.wrap
       ((us.getD i []).getD (3 : Nat) (0 : Int) *
       (us.getD i []).getD (7 : Nat) (0 : Int))) -
       IntKind.i64.wrap
       ((us.getD i []).getD (4 : Nat) (0 : Int) *
       (us.getD i []).getD (8 : Nat) (0 : Int))) +
       (16384 : Int)) /
       ((2 : Int) * (16384 : Int))
       else (32767 : Int)
       else (-32767 : Int)) !=
       ((2 : Int) *
       IntKind.i64.wrap
       (IntKind.i64.wrap
       (IntKind.i64.wrap
       (IntKind.i64.wrap
       (IntKind.i64.wrap
       ((us.getD i []).getD (0 : Nat) (0 : Int) * x) +
       IntKind.i64.wrap
       ((us.getD i []).getD (1 : Nat) (0 : Int) *
       (us.getD i []).getD (5 : Nat) (0 : Int))) +
       IntKind.i64.wrap
       ((us.getD i []).getD (2 : Nat) (0 : Int) *
       (us.getD i []).getD (6 : Nat) (0 : Int))) -
       IntKind.i64.wrap
       ((us.getD i []).getD (3 : Nat) (0 : Int) *
       (us.getD i []).getD (7 : Nat) (0 : Int))) -
       IntKind.i64.wrap
       ((us.getD i []).getD (4 : Nat) (0 : Int) *
       (us.getD i []).getD (8 : Nat) (0 : Int))) +
       (16384 : Int)) /
       ((2 : Int) * (16384 : Int)))
       (Ob (i < us.length) ∧
       Ob (i < us.length) ∧
       Ob ((0 : Int) ≤ (0 : Int) ∧ (0 : Int) < (↑(2 : Nat) : Int)) ∧
       Ob
       (i <
       (us.set i
       (Sx.wr (10 : Nat) (us.getD i []) (9 : Nat)
       [IntKind.i64.wrap
       ((us.getD i []).getD (9 : Nat) (0 : Int) +
       (1 : Int))])).length) ∧
       Ob ((0 : Int) ≤ (0 : Int) ∧ (0 : Int) < (↑(2 : Nat) : Int)) ∧
       Ob
       (i <
       (us.set i
       (Sx.wr (10 : Nat) (us.getD i []) (9 : Nat)
       [IntKind.i64.wrap
       ((us.getD i []).getD (9 : Nat) (0 : Int) +
       (1 : Int))])).length) ∧
       Ob
       (i <
       (us.set i
       (Sx.wr (10 : Nat) (us.getD i []) (9 : Nat)
       [IntKind.i64.wrap
       ((us.getD i []).getD (9 : Nat) (0 : Int) +
       (1 : Int))])).length) ∧
       Ob
       (i <
       ((us.set i
       (Sx.wr (10 : Nat) (us.getD i []) (9 : Nat)
       [IntKind.i64.wrap
       ((us.getD i []).getD (9 : Nat) (0 : Int) +
       (1 : Int))])).set
       i
       (Sx.wr (10 : Nat)
       ((us.set i
       (Sx.wr (10 : Nat) (us.getD i []) (9 : Nat)
       [IntKind.i64.wrap
       ((us.getD i []).getD (9 : Nat)
       (0 : Int) +
       (1 : Int))])).getD
       i [])
       (5 : Nat)
       [x,
       ((us.set i
       (Sx.wr (10 : Nat) (us.getD i [])
       (9 : Nat)
       [IntKind.i64.wrap
       ((us.getD i []).getD (9 : Nat)
       (0 : Int) +
       (1 : Int))])).getD
       i []).getD
       (5 : Nat) (0 : Int)])).length) ∧
       Ob True ∧
       Ob
       (((us.set i
       (Sx.wr (10 : Nat) (us.getD i []) (9 : Nat)
       [IntKind.i64.wrap
       ((us.getD i []).getD (9 : Nat)
       (0 : Int) +
       (1 : Int))])).set
       i
       (Sx.wr (10 : Nat)
       ((us.set i
       (Sx.wr (10 : Nat) (us.getD i [])
       (9 : Nat)
       [IntKind.i64.wrap
       ((us.getD i []).getD (9 : Nat)
       (0 : Int) +
       (1 : Int))])).getD
       i [])
       (5 : Nat)
       [x,
       ((us.set i
       (Sx.wr (10 : Nat) (us.getD i [])
       (9 : Nat)
       [IntKind.i64.wrap
       ((us.getD i []).getD
       (9 : Nat) (0 : Int) +
       (1 : Int))])).getD
       i []).getD
       (5 : Nat) (0 : Int)])).set
       i
       (Sx.wr (10 : Nat)
       (((us.set i
       (Sx.wr (10 : Nat) (us.getD i [])
       (9 : Nat)
       [IntKind.i64.wrap
       ((us.getD i []).getD (9 : Nat)
       (0 : Int) +
       (1 : Int))])).set
       i
       (Sx.wr (10 : Nat)
       ((us.set i
       (Sx.wr (10 : Nat) (us.getD i [])
       (9 : Nat)
       [IntKind.i64.wrap
       ((us.getD i []).getD (9 : Nat)
       (0 : Int) +
       (1 : Int))])).getD
       i [])
       (5 : Nat)
       [x,
       ((us.set i
       (Sx.wr (10 : Nat)
       (us.getD i []) (9 : Nat)
       [IntKind.i64.wrap
       ((us.getD i []).getD
       (9 : Nat)
       (0 : Int) +
       (1 : Int))])).getD
       i []).getD
       (5 : Nat) (0 : Int)])).getD
       i [])
       (7 : Nat)
       [if
       (if
       ((2 : Int) *
       IntKind.i64.wrap
       (IntKind.i64.wrap
       (IntKind.i64.wrap
       (IntKind.i64.wrap
       (IntKind.i64.wrap
       ((us.getD i
       []).getD
       (0 :
       Nat)
       (0 :
       Int) *
       x) +
       IntKind.i64.wrap
       ((us.getD i
       []).getD
       (1 :
       Nat)
       (0 :
       Int) *
       (us.getD i
       []).getD
       (5 :
       Nat)
       (0 :
       Int))) +
       IntKind.i64.wrap
       ((us.getD i
       []).getD
       (2 : Nat)
       (0 : Int) *
       (us.getD i
       []).getD
       (6 : Nat)
       (0 :
       Int))) -
       IntKind.i64.wrap
       ((us.getD i []).getD
       (3 : Nat)
       (0 : Int) *
       (us.getD i
       []).getD
       (7 : Nat)
       (0 : Int))) -
       IntKind.i64.wrap
       ((us.getD i []).getD
       (4 : Nat)
       (0 : Int) *
       (us.getD i []).getD
       (8 : Nat)
       (0 : Int))) +
       (16384 : Int)) /
       ((2 : Int) * (16384 : Int)) <
       (32767 : Int) then
       ((2 : Int) *
       IntKind.i64.wrap
       (IntKind.i64.wrap
       (IntKind.i64.wrap
       (IntKind.i64.wrap
       (IntKind.i64.wrap
       ((us.getD i
       []).getD
       (0 : Nat)
       (0 : Int) *
       x) +
       IntKind.i64.wrap
       ((us.getD i
       []).getD
       (1 : Nat)
       (0 : Int) *
       (us.getD i
       []).getD
       (5 : Nat)
       (0 :
       Int))) +
       IntKind.i64.wrap
       ((us.getD i []).getD
       (2 : Nat)
       (0 : Int) *
       (us.getD i
       []).getD
       (6 : Nat)
       (0 : Int))) -
       IntKind.i64.wrap
       ((us.getD i []).getD
       (3 : Nat)
       (0 : Int) *
       (us.getD i []).getD
       (7 : Nat)
       (0 : Int))) -
       IntKind.i64.wrap
       ((us.getD i []).getD
       (4 : Nat) (0 : Int) *
       (us.getD i []).getD
       (8 : Nat) (0 : Int))) +
       (16384 : Int)) /
       ((2 : Int) * (16384 : Int))
       else (32767 : Int)) >
       (-32767 : Int) then
       if
       ((2 : Int) *
       IntKind.i64.wrap
       (IntKind.i64.wrap
       (IntKind.i64.wrap
       (IntKind.i64.wrap
       (IntKind.i64.wrap
       ((us.getD i
       []).getD
       (0 : Nat)
       (0 : Int) *
       x) +
       IntKind.i64.wrap
       ((us.getD i
       []).getD
       (1 : Nat)
       (0 : Int) *
       (us.getD i
       []).getD
       (5 : Nat)
       (0 :
       Int))) +
       IntKind.i64.wrap
       ((us.getD i []).getD
       (2 : Nat)
       (0 : Int) *
       (us.getD i
       []).getD
       (6 : Nat)
       (0 : Int))) -
       IntKind.i64.wrap
       ((us.getD i []).getD
       (3 : Nat)
       (0 : Int) *
       (us.getD i []).getD
       (7 : Nat)
       (0 : Int))) -
       IntKind.i64.wrap
       ((us.getD i []).getD
       (4 : Nat) (0 : Int) *
       (us.getD i []).getD
       (8 : Nat) (0 : Int))) +
       (16384 : Int)) /
       ((2 : Int) * (16384 : Int)) <
       (32767 : Int) then
       ((2 : Int) *
       IntKind.i64.wrap
       (IntKind.i64.wrap
       (IntKind.i64.wrap
       (IntKind.i64.wrap
       (IntKind.i64.wrap
       ((us.getD i []).getD
       (0 : Nat)
       (0 : Int) *
       x) +
       IntKind.i64.wrap
       ((us.getD i []).getD
       (1 : Nat)
       (0 : Int) *
       (us.getD i
       []).getD
       (5 : Nat)
       (0 : Int))) +
       IntKind.i64.wrap
       ((us.getD i []).getD
       (2 : Nat)
       (0 : Int) *
       (us.getD i []).getD
       (6 : Nat)
       (0 : Int))) -
       IntKind.i64.wrap
       ((us.getD i []).getD
       (3 : Nat) (0 : Int) *
       (us.getD i []).getD
       (7 : Nat) (0 : Int))) -
       IntKind.i64.wrap
       ((us.getD i []).getD (4 : Nat)
       (0 : Int) *
       (us.getD i []).getD (8 : Nat)
       (0 : Int))) +
       (16384 : Int)) /
       ((2 : Int) * (16384 : Int))
       else (32767 : Int)
       else (-32767 : Int),
       ((us.set i
       (Sx.wr (10 : Nat) (us.getD i [])
       (9 : Nat)
       [IntKind.i64.wrap
       ((us.getD i []).getD (9 : Nat)
       (0 : Int) +
       (1 : Int))])).getD
       i []).getD
       (7 : Nat) (0 : Int)]) =
       us.set i (putU (us.getD i []) x)) ∧
       Ob
       ((if
       (if
       ((2 : Int) *
       IntKind.i64.wrap
       (IntKind.i64.wrap
       (IntKind.i64.wrap
       (IntKind.i64.wrap
       (IntKind.i64.wrap
       ((us.getD i
       []).getD
       (0 : Nat)
       (0 : Int) *
       x) +
       IntKind.i64.wrap
       ((us.getD i
       []).getD
       (1 : Nat)
       (0 : Int) *
       (us.getD i
       []).getD
       (5 : Nat)
       (0 :
       Int))) +
       IntKind.i64.wrap
       ((us.getD i []).getD
       (2 : Nat)
       (0 : Int) *
       (us.getD i
       []).getD
       (6 : Nat)
       (0 : Int))) -
       IntKind.i64.wrap
       ((us.getD i []).getD
       (3 : Nat)
       (0 : Int) *
       (us.getD i []).getD
       (7 : Nat)
       (0 : Int))) -
       IntKind.i64.wrap
       ((us.getD i []).getD
       (4 : Nat) (0 : Int) *
       (us.getD i []).getD
       (8 : Nat) (0 : Int))) +
       (16384 : Int)) /
       ((2 : Int) * (16384 : Int)) <
       (32767 : Int) then
       ((2 : Int) *
       IntKind.i64.wrap
       (IntKind.i64.wrap
       (IntKind.i64.wrap
       (IntKind.i64.wrap
       (IntKind.i64.wrap
       ((us.getD i []).getD
       (0 : Nat)
       (0 : Int) *
       x) +
       IntKind.i64.wrap
       ((us.getD i []).getD
       (1 : Nat)
       (0 : Int) *
       (us.getD i
       []).getD
       (5 : Nat)
       (0 : Int))) +
       IntKind.i64.wrap
       ((us.getD i []).getD
       (2 : Nat)
       (0 : Int) *
       (us.getD i []).getD
       (6 : Nat)
       (0 : Int))) -
       IntKind.i64.wrap
       ((us.getD i []).getD
       (3 : Nat) (0 : Int) *
       (us.getD i []).getD
       (7 : Nat) (0 : Int))) -
       IntKind.i64.wrap
       ((us.getD i []).getD (4 : Nat)
       (0 : Int) *
       (us.getD i []).getD (8 : Nat)
       (0 : Int))) +
       (16384 : Int)) /
       ((2 : Int) * (16384 : Int))
       else (32767 : Int)) >
       (-32767 : Int) then
       if
       ((2 : Int) *
       IntKind.i64.wrap
       (IntKind.i64.wrap
       (IntKind.i64.wrap
       (IntKind.i64.wrap
       (IntKind.i64.wrap
       ((us.getD i []).getD
       (0 : Nat)
       (0 : Int) *
       x) +
       IntKind.i64.wrap
       ((us.getD i []).getD
       (1 : Nat)
       (0 : Int) *
       (us.getD i
       []).getD
       (5 : Nat)
       (0 : Int))) +
       IntKind.i64.wrap
       ((us.getD i []).getD
       (2 : Nat)
       (0 : Int) *
       (us.getD i []).getD
       (6 : Nat)
       (0 : Int))) -
       IntKind.i64.wrap
       ((us.getD i []).getD
       (3 : Nat) (0 : Int) *
       (us.getD i []).getD
       (7 : Nat) (0 : Int))) -
       IntKind.i64.wrap
       ((us.getD i []).getD (4 : Nat)
       (0 : Int) *
       (us.getD i []).getD (8 : Nat)
       (0 : Int))) +
       (16384 : Int)) /
       ((2 : Int) * (16384 : Int)) <
       (32767 : Int) then
       ((2 : Int) *
       IntKind.i64.wrap
       (IntKind.i64.wrap
       (IntKind.i64.wrap
       (IntKind.i64.wrap
       (IntKind.i64.wrap
       ((us.getD i []).getD
       (0 : Nat)
       (0 : Int) *
       x) +
       IntKind.i64.wrap
       ((us.getD i []).getD
       (1 : Nat)
       (0 : Int) *
       (us.getD i []).getD
       (5 : Nat)
       (0 : Int))) +
       IntKind.i64.wrap
       ((us.getD i []).getD
       (2 : Nat) (0 : Int) *
       (us.getD i []).getD
       (6 : Nat) (0 : Int))) -
       IntKind.i64.wrap
       ((us.getD i []).getD (3 : Nat)
       (0 : Int) *
       (us.getD i []).getD (7 : Nat)
       (0 : Int))) -
       IntKind.i64.wrap
       ((us.getD i []).getD (4 : Nat)
       (0 : Int) *
       (us.getD i []).getD (8 : Nat)
       (0 : Int))) +
       (16384 : Int)) /
       ((2 : Int) * (16384 : Int))
       else (32767 : Int)
       else (-32767 : Int)) =
       outU (us.getD i []) x) ∧
       True)
       (Ob ((0 : Int) ≤ (0 : Int) ∧ (0 : Int) < (↑(2 : Nat) : Int)) ∧
       Ob (i < us.length) ∧
       Ob ((0 : Int) ≤ (0 : Int) ∧ (0 : Int) < (↑(2 : Nat) : Int)) ∧
       Ob (i < us.length) ∧
       Ob (i < us.length) ∧
       Ob
       (i <
       (us.set i
       (Sx.wr (10 : Nat) (us.getD i []) (5 : Nat)
       [x, (us.getD i []).getD (5 : Nat) (0 : Int)])).length) ∧
       Ob True ∧
       Ob
       ((us.set i
       (Sx.wr (10 : Nat) (us.getD i []) (5 : Nat)
       [x, (us.getD i []).getD (5 : Nat) (0 : Int)])).set
       i
       (Sx.wr (10 : Nat)
       ((us.set i
       (Sx.wr (10 : Nat) (us.getD i []) (5 : Nat)
       [x,
       (us.getD i []).getD (5 : Nat)
       (0 : Int)])).getD
       i [])
       (7 : Nat)
       [if
       (if
       ((2 : Int) *
       IntKind.i64.wrap
       (IntKind.i64.wrap
       (IntKind.i64.wrap
       (IntKind.i64.wrap
       (IntKind.i64.wrap
       ((us.getD i
       []).getD
       (0 : Nat)
       (0 : Int) *
       x) +
       IntKind.i64.wrap
       ((us.getD i
       []).getD
       (1 : Nat)
       (0 : Int) *
       (us.getD i
       []).getD
       (5 : Nat)
       (0 :
       Int))) +
       IntKind.i64.wrap
       ((us.getD i []).getD
       (2 : Nat)
       (0 : Int) *
       (us.getD i
       []).getD
       (6 : Nat)
       (0 : Int))) -
       IntKind.i64.wrap
       ((us.getD i []).getD
       (3 : Nat)
       (0 : Int) *
       (us.getD i []).getD
       (7 : Nat)
       (0 : Int))) -
       IntKind.i64.wrap
       ((us.getD i []).getD
       (4 : Nat) (0 : Int) *
       (us.getD i []).getD
       (8 : Nat) (0 : Int))) +
       (16384 : Int)) /
       ((2 : Int) * (16384 : Int)) <
       (32767 : Int) then
       ((2 : Int) *
       IntKind.i64.wrap
       (IntKind.i64.wrap
       (IntKind.i64.wrap
       (IntKind.i64.wrap
       (IntKind.i64.wrap
       ((us.getD i []).getD
       (0 : Nat)
       (0 : Int) *
       x) +
       IntKind.i64.wrap
       ((us.getD i []).getD
       (1 : Nat)
       (0 : Int) *
       (us.getD i
       []).getD
       (5 : Nat)
       (0 : Int))) +
       IntKind.i64.wrap
       ((us.getD i []).getD
       (2 : Nat)
       (0 : Int) *
       (us.getD i []).getD
       (6 : Nat)
       (0 : Int))) -
       IntKind.i64.wrap
       ((us.getD i []).getD
       (3 : Nat) (0 : Int) *
       (us.getD i []).getD
       (7 : Nat) (0 : Int))) -
       IntKind.i64.wrap
       ((us.getD i []).getD (4 : Nat)
       (0 : Int) *
       (us.getD i []).getD (8 : Nat)
       (0 : Int))) +
       (16384 : Int)) /
       ((2 : Int) * (16384 : Int))
       else (32767 : Int)) >
       (-32767 : Int) then
       if
       ((2 : Int) *
       IntKind.i64.wrap
       (IntKind.i64.wrap
       (IntKind.i64.wrap
       (IntKind.i64.wrap
       (IntKind.i64.wrap
       ((us.getD i []).getD
       (0 : Nat)
       (0 : Int) *
       x) +
       IntKind.i64.wrap
       ((us.getD i []).getD
       (1 : Nat)
       (0 : Int) *
       (us.getD i
       []).getD
       (5 : Nat)
       (0 : Int))) +
       IntKind.i64.wrap
       ((us.getD i []).getD
       (2 : Nat)
       (0 : Int) *
       (us.getD i []).getD
       (6 : Nat)
       (0 : Int))) -
       IntKind.i64.wrap
       ((us.getD i []).getD
       (3 : Nat) (0 : Int) *
       (us.getD i []).getD
       (7 : Nat) (0 : Int))) -
       IntKind.i64.wrap
       ((us.getD i []).getD (4 : Nat)
       (0 : Int) *
       (us.getD i []).getD (8 : Nat)
       (0 : Int))) +
       (16384 : Int)) /
       ((2 : Int) * (16384 : Int)) <
       (32767 : Int) then
       ((2 : Int) *
       IntKind.i64.wrap
       (IntKind.i64.wrap
       (IntKind.i64.wrap
       (IntKind.i64.wrap
       (IntKind.i64.wrap
       ((us.getD i []).getD
       (0 : Nat)
       (0 : Int) *
       x) +
       IntKind.i64.wrap
       ((us.getD i []).getD
       (1 : Nat)
       (0 : Int) *
       (us.getD i []).getD
       (5 : Nat)
       (0 : Int))) +
       IntKind.i64.wrap
       ((us.getD i []).getD
       (2 : Nat) (0 : Int) *
       (us.getD i []).getD
       (6 : Nat) (0 : Int))) -
       IntKind.i64.wrap
       ((us.getD i []).getD (3 : Nat)
       (0 : Int) *
       (us.getD i []).getD (7 : Nat)
       (0 : Int))) -
       IntKind.i64.wrap
       ((us.getD i []).getD (4 : Nat)
       (0 : Int) *
       (us.getD i []).getD (8 : Nat)
       (0 : Int))) +
       (16384 : Int)) /
       ((2 : Int) * (16384 : Int))
       else (32767 : Int)
       else (-32767 : Int),
       (us.getD i []).getD (7 : Nat) (0 : Int)]) =
       us.set i (putU (us.getD i []) x)) ∧
       Ob
       ((if
       (if
       ((2 : Int) *
       IntKind.i64.wrap
       (IntKind.i64.wrap
       (IntKind.i64.wrap
       (IntKind.i64.wrap
       (IntKind.i64.wrap
       ((us.getD i []).getD
       (0 : Nat)
       (0 : Int) *
       x) +
       IntKind.i64.wrap
       ((us.getD i []).getD
       (1 : Nat)
       (0 : Int) *
       (us.getD i
       []).getD
       (5 : Nat)
       (0 : Int))) +
       IntKind.i64.wrap
       ((us.getD i []).getD
       (2 : Nat)
       (0 : Int) *
       (us.getD i []).getD
       (6 : Nat)
       (0 : Int))) -
       IntKind.i64.wrap
       ((us.getD i []).getD
       (3 : Nat) (0 : Int) *
       (us.getD i []).getD
       (7 : Nat) (0 : Int))) -
       IntKind.i64.wrap
       ((us.getD i []).getD (4 : Nat)
       (0 : Int) *
       (us.getD i []).getD (8 : Nat)
       (0 : Int))) +
       (16384 : Int)) /
       ((2 : Int) * (16384 : Int)) <
       (32767 : Int) then
       ((2 : Int) *
       IntKind.i64.wrap
       (IntKind.i64.wrap
       (IntKind.i64.wrap
       (IntKind.i64.wrap
       (IntKind.i64.wrap
       ((us.getD i []).getD
       (0 : Nat)
       (0 : Int) *
       x) +
       IntKind.i64.wrap
       ((us.getD i []).getD
       (1 : Nat)
       (0 : Int) *
       (us.getD i []).getD
       (5 : Nat)
       (0 : Int))) +
       IntKind.i64.wrap
       ((us.getD i []).getD
       (2 : Nat) (0 : Int) *
       (us.getD i []).getD
       (6 : Nat) (0 : Int))) -
       IntKind.i64.wrap
       ((us.getD i []).getD (3 : Nat)
       (0 : Int) *
       (us.getD i []).getD (7 : Nat)
       (0 : Int))) -
       IntKind.i64.wrap
       ((us.getD i []).getD (4 : Nat)
       (0 : Int) *
       (us.getD i []).getD (8 : Nat)
       (0 : Int))) +
       (16384 : Int)) /
       ((2 : Int) * (16384 : Int))
       else (32767 : Int)) >
       (-32767 : Int) then
       if
       ((2 : Int) *
       IntKind.i64.wrap
       (IntKind.i64.wrap
       (IntKind.i64.wrap
       (IntKind.i64.wrap
       (IntKind.i64.wrap
       ((us.getD i []).getD
       (0 : Nat)
       (0 : Int) *
       x) +
       IntKind.i64.wrap
       ((us.getD i []).getD
       (1 : Nat)
       (0 : Int) *
       (us.getD i []).getD
       (5 : Nat)
       (0 : Int))) +
       IntKind.i64.wrap
       ((us.getD i []).getD
       (2 : Nat) (0 : Int) *
       (us.getD i []).getD
       (6 : Nat) (0 : Int))) -
       IntKind.i64.wrap
       ((us.getD i []).getD (3 : Nat)
       (0 : Int) *
       (us.getD i []).getD (7 : Nat)
       (0 : Int))) -
       IntKind.i64.wrap
       ((us.getD i []).getD (4 : Nat)
       (0 : Int) *
       (us.getD i []).getD (8 : Nat)
       (0 : Int))) +
       (16384 : Int)) /
       ((2 : Int) * (16384 : Int)) <
       (32767 : Int) then
       ((2 : Int) *
       IntKind.i64.wrap
       (IntKind.i64.wrap
       (IntKind.i64.wrap
       (IntKind.i64.wrap
       (IntKind.i64.wrap
       ((us.getD i []).getD
       (0 : Nat) (0 : Int) *
       x) +
       IntKind.i64.wrap
       ((us.getD i []).getD
       (1 : Nat) (0 : Int) *
       (us.getD i []).getD
       (5 : Nat) (0 : Int))) +
       IntKind.i64.wrap
       ((us.getD i []).getD (2 : Nat)
       (0 : Int) *
       (us.getD i []).getD (6 : Nat)
       (0 : Int))) -
       IntKind.i64.wrap
       ((us.getD i []).getD (3 : Nat)
       (0 : Int) *
       (us.getD i []).getD (7 : Nat)
       (0 : Int))) -
       IntKind.i64.wrap
       ((us.getD i []).getD (4 : Nat)
       (0 : Int) *
       (us.getD i []).getD (8 : Nat)
       (0 : Int))) +
       (16384 : Int)) /
       ((2 : Int) * (16384 : Int))
       else (32767 : Int)
       else (-32767 : Int)) =
       outU (us.getD i []) x) ∧
       True)) = _) ?_
  obtain ⟨hi, ⟨hl, hc, hs, h90, h91⟩, hx0, hx1⟩ := ho
  generalize us.getD i [] = u at *
  have p0 := mulB (x := u.getD 0 0) (y := x) (a := 32768) (b := 32767) (by decide) (by decide) (hc 0 (by decide)) ⟨hx0, hx1⟩
  have p1 := mulB (x := u.getD 1 0) (y := u.getD 5 0) (a := 32768) (b := 32767) (by decide) (by decide) (hc 1 (by decide)) (hs 5 (by decide) (by decide))
  have p2 := mulB (x := u.getD 2 0) (y := u.getD 6 0) (a := 32768) (b := 32767) (by decide) (by decide) (hc 2 (by decide)) (hs 6 (by decide) (by decide))
  have p3 := mulB (x := u.getD 3 0) (y := u.getD 7 0) (a := 32768) (b := 32767) (by decide) (by decide) (hc 3 (by decide)) (hs 7 (by decide) (by decide))
  have p4 := mulB (x := u.getD 4 0) (y := u.getD 8 0) (a := 32768) (b := 32767) (by decide) (by decide) (hc 4 (by decide)) (hs 8 (by decide) (by decide))
  have hN : IntKind.i64.wrap (IntKind.i64.wrap (IntKind.i64.wrap (IntKind.i64.wrap (IntKind.i64.wrap (u.getD 0 0 * x) + IntKind.i64.wrap (u.getD 1 0 * u.getD 5 0)) + IntKind.i64.wrap (u.getD 2 0 * u.getD 6 0)) - IntKind.i64.wrap (u.getD 3 0 * u.getD 7 0)) - IntKind.i64.wrap (u.getD 4 0 * u.getD 8 0)) = u.getD 0 0 * x + u.getD 1 0 * u.getD 5 0 + u.getD 2 0 * u.getD 6 0 - u.getD 3 0 * u.getD 7 0 - u.getD 4 0 * u.getD 8 0 := by
    rw [wr (n := u.getD 0 0 * x) (by omega) (by omega), wr (n := u.getD 1 0 * u.getD 5 0) (by omega) (by omega), wr (n := u.getD 2 0 * u.getD 6 0) (by omega) (by omega), wr (n := u.getD 3 0 * u.getD 7 0) (by omega) (by omega), wr (n := u.getD 4 0 * u.getD 8 0) (by omega) (by omega)]
    rw [wr (n := u.getD 0 0 * x + u.getD 1 0 * u.getD 5 0) (by omega) (by omega), wr (n := u.getD 0 0 * x + u.getD 1 0 * u.getD 5 0 + u.getD 2 0 * u.getD 6 0) (by omega) (by omega), wr (n := u.getD 0 0 * x + u.getD 1 0 * u.getD 5 0 + u.getD 2 0 * u.getD 6 0 - u.getD 3 0 * u.getD 7 0) (by omega) (by omega), wr (by omega) (by omega)]
  rw [hN]
  have hY : (2 * (u.getD 0 0 * x + u.getD 1 0 * u.getD 5 0 + u.getD 2 0 * u.getD 6 0 - u.getD 3 0 * u.getD 7 0 - u.getD 4 0 * u.getD 8 0) + 16384) / (2 * 16384) = rawU u x := rfl
  rw [hY]
  have hO : (if (if rawU u x < 32767 then rawU u x else 32767) > -32767 then (if rawU u x < 32767 then rawU u x else 32767) else -32767) = outU u x := by
    unfold outU
    split <;> split <;> omega
  rw [hO]
  have h9 : IntKind.i64.wrap (u.getD 9 0 + 1) = u.getD 9 0 + 1 := wr (by omega) (by omega)
  simp only [h9, getD_set hi, List.set_set, List.length_set, Ob_iff, Br_iff, bne_iff_ne, ne_eq, bne_eq_false_iff_eq, true_and, and_true]
  have e1 : ∀ (u : List Int) (a b : Int), Sx.wr 10 u 5 [a, b] = [u.getD 0 0, u.getD 1 0, u.getD 2 0, u.getD 3 0, u.getD 4 0, a, b, u.getD 7 0, u.getD 8 0, u.getD 9 0] := fun _ _ _ => rfl
  have e2 : ∀ (u : List Int) (a b : Int), Sx.wr 10 u 7 [a, b] = [u.getD 0 0, u.getD 1 0, u.getD 2 0, u.getD 3 0, u.getD 4 0, u.getD 5 0, u.getD 6 0, a, b, u.getD 9 0] := fun _ _ _ => rfl
  have e3 : ∀ (u : List Int) (a : Int), Sx.wr 10 u 9 [a] = [u.getD 0 0, u.getD 1 0, u.getD 2 0, u.getD 3 0, u.getD 4 0, u.getD 5 0, u.getD 6 0, u.getD 7 0, u.getD 8 0, a] := fun _ _ => rfl
  have hput : ∀ d : Int, d = (if outU u x = rawU u x then 0 else 1) → [u.getD 0 0, u.getD 1 0, u.getD 2 0, u.getD 3 0, u.getD 4 0, x, u.getD 5 0, outU u x, u.getD 7 0, u.getD 9 0 + d] = putU u x := fun d h => by rw [h]; rfl
  refine ⟨by decide, hi, by decide, hi, by decide, hi, by decide, hi, by decide, hi, by decide, hi, by decide, hi, by decide, hi, by decide, hi, ⟨by omega, by omega, by decide, by decide⟩, fun h => ⟨hi, hi, by decide, hi, by decide, hi, hi, hi, ?_⟩, fun h => ⟨by decide, hi, by decide, hi, hi, hi, ?_⟩⟩
  · congr 1
    rw [e3, e1, e2, ← hput 1 (by rw [if_neg h])]
    rfl
  · congr 1
    rw [e1, e2, ← hput 0 (by rw [if_pos h]), Int.add_zero]
    rfl

set_option maxRecDepth 100000 in
theorem unitPut_ok : SpecOK Try.prog 92 false (effS gUnitPut) := by
  refine eff_ok (sp := (addS 95 gRounded sp0)) (fn := Try.f92) (body := bodyOf Try.f92) mixed (addS_ok rounded_ok sp0_ok) Try.func92 (by kernel_rfl) (by kernel_rfl) fun c0 ob as_ p ob' rs h hown ho hlt => ?_
  unfold gUnitPut at h
  split at h
  · rename_i i us x
    cases h
    exact ⟨rfl, Nat.le_of_ble_eq_true rfl, _, _, unitPut_vc i us x ho⟩
  · cases h

end Go.Sx06
