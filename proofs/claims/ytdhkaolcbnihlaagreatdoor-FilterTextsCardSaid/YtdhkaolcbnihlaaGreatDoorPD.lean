/- Part 4 of the proof of FilterTextsCard: the executor, the mirrors of the functions, the plain facts. -/
import Derived.Test.YtdhkaolcbnihlaaGreatDoorPC
import Derived.Test.YtdhkaolcbnihlaaGreatDoorProg
set_option maxRecDepth 100000
set_option linter.unusedSectionVars false
set_option linter.unusedSimpArgs false
set_option linter.unusedVariables false
section
namespace Go.Sx06
open Go.Sx06u (ja6 ja8 agg5 jcI jb4 jcr)
open Go Go.Proofs Go.RowKit Go.Sx
def jhF (u : List Int) (x : Int) : Int := (2 * (u.getD 0 0 * x + u.getD 1 0 * u.getD 5 0 + u.getD 2 0 * u.getD 6 0 - u.getD 3 0 * u.getD 7 0 - u.getD 4 0 * u.getD 8 0) + 16384) / 32768
def jcM (u : List Int) (x : Int) : Int := max (-32767) (min 32767 (jhF u x))
def jfE (u : List Int) (x : Int) : List Int := [u.getD 0 0, u.getD 1 0, u.getD 2 0, u.getD 3 0, u.getD 4 0, x, u.getD 5 0, jcM u x, u.getD 7 0, u.getD 9 0 + if jcM u x = jhF u x then 0 else 1]
def okU (u : List Int) : Prop := u.length = 10 ∧ (∀ j, j < 5 → -32768 ≤ u.getD j 0 ∧ u.getD j 0 ≤ 32768) ∧ (∀ j, 5 ≤ j → j < 9 → -32767 ≤ u.getD j 0 ∧ u.getD j 0 ≤ 32767) ∧ 0 ≤ u.getD 9 0 ∧ u.getD 9 0 ≤ 1000000000
theorem jcs {x y a b : Int} (ha : 0 ≤ a) (hb : 0 ≤ b) (hx : -a ≤ x ∧ x ≤ a) (hy : -b ≤ y ∧ y ≤ b) : -(a * b) ≤ x * y ∧ x * y ≤ a * b := by
 have h1 : (x * y).natAbs ≤ a.natAbs * b.natAbs := by
  rw [Int.natAbs_mul]
  exact Nat.mul_le_mul (by omega) (by omega)
 have h2 : a * b = ((a.natAbs * b.natAbs : Nat) : Int) := by
  rw [Int.natCast_mul]
  have e1 : (a.natAbs : Int) = a := by omega
  have e2 : (b.natAbs : Int) = b := by omega
  rw [e1, e2]
 rw [h2]
 omega
theorem jce {α : Type} {l : List α} {i : Nat} {a d : α} (h : i < l.length) : (l.set i a).getD i d = a := by simp [List.getD, h]
def jgC : C → O → List A → Option (Prop × O × List RV)
 | .p 0 i 10 0, .row 106 (.recs 10 us), [.d (.i .i64 x)] => some (i < us.length ∧ okU (us.getD i []) ∧ -32767 ≤ x ∧ x ≤ 32767, .row 106 (.recs 10 (us.set i (jfE (us.getD i []) x))), [.d (.i .i64 (jcM (us.getD i []) x))])
 | _, _, _ => none
theorem jog (i : Nat) (us : List (List Int)) (x : Int) (ho : i < us.length ∧ okU (us.getD i []) ∧ -32767 ≤ x ∧ x ≤ 32767) : runE Tryz.f54 (jar 73 jgz sp0) (fun _ _ => none) 0 (.p 0 i 10 0) (.row 106 (.recs 10 us)) [.d (.i .i64 x)] (.row 106 (.recs 10 (us.set i (jfE (us.getD i []) x)))) [.d (.i .i64 (jcM (us.getD i []) x))] := by
 refine Eq.mp (by kernel_rfl : (
    Ob ((0 : Int) ≤ (0 : Int) ∧ (0 : Int) < (↑(3 : Nat) : Int)) ∧
     Ob (i < us.length) ∧
      Ob ((0 : Int) ≤ (1 : Int) ∧ (1 : Int) < (↑(3 : Nat) : Int)) ∧
       Ob (i < us.length) ∧
        Ob ((0 : Int) ≤ (0 : Int) ∧ (0 : Int) < (↑(2 : Nat) : Int)) ∧
         Ob (i < us.length) ∧
          Ob ((0 : Int) ≤ (2 : Int) ∧ (2 : Int) < (↑(3 : Nat) : Int)) ∧
           Ob (i < us.length) ∧
            Ob ((0 : Int) ≤ (1 : Int) ∧ (1 : Int) < (↑(2 : Nat) : Int)) ∧
             Ob (i < us.length) ∧
              Ob ((0 : Int) ≤ (0 : Int) ∧ (0 : Int) < (↑(2 : Nat) : Int)) ∧
               Ob (i < us.length) ∧
                Ob ((0 : Int) ≤ (0 : Int) ∧ (0 : Int) < (↑(2 : Nat) : Int)) ∧
                 Ob (i < us.length) ∧
                  Ob ((0 : Int) ≤ (1 : Int) ∧ (1 : Int) < (↑(2 : Nat) : Int)) ∧
                   Ob (i < us.length) ∧
                    Ob ((0 : Int) ≤ (1 : Int) ∧ (1 : Int) < (↑(2 : Nat) : Int)) ∧
                     Ob (i < us.length) ∧
                      Ob
                        ((-4611686018427387904 : Int) <
                          (2 : Int) *
                            IntKind.i64.wrap
                             (IntKind.i64.wrap
                               (IntKind.i64.wrap
                                 (IntKind.i64.wrap
                                   (IntKind.i64.wrap
                                     ((us.getD i []).getD (0 : Nat) (0 : Int) * x) +
                                    IntKind.i64.wrap
                                     ((
                                      us.getD i []).getD (1 : Nat) (0 : Int) *
                                      (us.getD i []).getD (5 : Nat) (0 : Int))) +
                                  IntKind.i64.wrap
                                   ((
                                    us.getD i []).getD (2 : Nat) (0 : Int) *
                                    (us.getD i []).getD (6 : Nat) (0 : Int))) -
                                IntKind.i64.wrap
                                 ((
                                  us.getD i []).getD (3 : Nat) (0 : Int) *
                                  (us.getD i []).getD (7 : Nat) (0 : Int))) -
                              IntKind.i64.wrap
                               ((
                                us.getD i []).getD (4 : Nat) (0 : Int) *
                                (us.getD i []).getD (8 : Nat) (0 : Int))) +
                           (16384 : Int) ∧
                         (2 : Int) *
                             IntKind.i64.wrap
                              (IntKind.i64.wrap
                                (IntKind.i64.wrap
                                  (IntKind.i64.wrap
                                    (IntKind.i64.wrap
                                      ((us.getD i []).getD (0 : Nat) (0 : Int) * x) +
                                     IntKind.i64.wrap
                                      ((
                                       us.getD i []).getD (1 : Nat) (0 : Int) *
                                       (us.getD i []).getD (5 : Nat) (0 : Int))) +
                                   IntKind.i64.wrap
                                    ((
                                     us.getD i []).getD (2 : Nat) (0 : Int) *
                                     (us.getD i []).getD (6 : Nat) (0 : Int))) -
                                 IntKind.i64.wrap
                                  ((
                                   us.getD i []).getD (3 : Nat) (0 : Int) *
                                   (us.getD i []).getD (7 : Nat) (0 : Int))) -
                               IntKind.i64.wrap
                                ((
                                 us.getD i []).getD (4 : Nat) (0 : Int) *
                                 (us.getD i []).getD (8 : Nat) (0 : Int))) +
                            (16384 : Int) <
                           (4611686018427387904 : Int) ∧
                          (0 : Int) < (16384 : Int) ∧ (16384 : Int) < (4611686018427387904 : Int)) ∧
                       Br
                        ((if
                           (if
                              ((2 : Int) *
                                  IntKind.i64.wrap
                                   (IntKind.i64.wrap
                                     (IntKind.i64.wrap
                                       (IntKind.i64.wrap
                                         (IntKind.i64.wrap
                                           ((us.getD i []).getD (0 : Nat)
                                             (0 : Int) *
                                            x) +
                                          IntKind.i64.wrap
                                           ((us.getD i []).getD (1 : Nat)
                                             (0 : Int) *
                                            (us.getD i []).getD (5 : Nat)
                                             (0 : Int))) +
                                        IntKind.i64.wrap
                                         ((
                                          us.getD i []).getD (2 : Nat) (0 : Int) *
                                          (us.getD i []).getD (6 : Nat)
                                           (0 : Int))) -
                                      IntKind.i64.wrap
                                       ((
                                        us.getD i []).getD (3 : Nat) (0 : Int) *
                                        (us.getD i []).getD (7 : Nat) (0 : Int))) -
                                    IntKind.i64.wrap
                                     ((
                                      us.getD i []).getD (4 : Nat) (0 : Int) *
                                      (us.getD i []).getD (8 : Nat) (0 : Int))) +
                                 (16384 : Int)) /
                                ((2 : Int) * (16384 : Int)) <
                               (32767 : Int) then
                             ((2 : Int) *
                                IntKind.i64.wrap
                                 (IntKind.i64.wrap
                                   (IntKind.i64.wrap
                                     (IntKind.i64.wrap
                                       (IntKind.i64.wrap
                                         ((
                                          us.getD i []).getD (0 : Nat) (0 : Int) *
                                          x) +
                                        IntKind.i64.wrap
                                         ((
                                          us.getD i []).getD (1 : Nat) (0 : Int) *
                                          (us.getD i []).getD (5 : Nat)
                                           (0 : Int))) +
                                      IntKind.i64.wrap
                                       ((
                                        us.getD i []).getD (2 : Nat) (0 : Int) *
                                        (us.getD i []).getD (6 : Nat) (0 : Int))) -
                                    IntKind.i64.wrap
                                     ((
                                      us.getD i []).getD (3 : Nat) (0 : Int) *
                                      (us.getD i []).getD (7 : Nat) (0 : Int))) -
                                  IntKind.i64.wrap
                                   ((
                                    us.getD i []).getD (4 : Nat) (0 : Int) *
                                    (us.getD i []).getD (8 : Nat) (0 : Int))) +
                               (16384 : Int)) /
                              ((2 : Int) * (16384 : Int))
                            else (32767 : Int)) >
                            (-32767 : Int) then
                          if
                            ((2 : Int) *
                                IntKind.i64.wrap
                                 (IntKind.i64.wrap
                                   (IntKind.i64.wrap
                                     (IntKind.i64.wrap
                                       (IntKind.i64.wrap
                                         ((
                                          us.getD i []).getD (0 : Nat) (0 : Int) *
                                          x) +
                                        IntKind.i64.wrap
                                         ((
                                          us.getD i []).getD (1 : Nat) (0 : Int) *
                                          (us.getD i []).getD (5 : Nat)
                                           (0 : Int))) +
                                      IntKind.i64.wrap
                                       ((
                                        us.getD i []).getD (2 : Nat) (0 : Int) *
                                        (us.getD i []).getD (6 : Nat) (0 : Int))) -
                                    IntKind.i64.wrap
                                     ((
                                      us.getD i []).getD (3 : Nat) (0 : Int) *
                                      (us.getD i []).getD (7 : Nat) (0 : Int))) -
                                  IntKind.i64.wrap
                                   ((
                                    us.getD i []).getD (4 : Nat) (0 : Int) *
                                    (us.getD i []).getD (8 : Nat) (0 : Int))) +
                               (16384 : Int)) /
                              ((2 : Int) * (16384 : Int)) <
                             (32767 : Int) then
                           ((2 : Int) *
                              IntKind.i64.wrap
                               (IntKind.i64.wrap
                                 (IntKind.i64.wrap
                                   (IntKind.i64.wrap
                                     (IntKind.i64.wrap
                                       ((us.getD i []).getD (0 : Nat) (0 : Int) * x) +
                                      IntKind.i64.wrap
                                       ((
                                        us.getD i []).getD (1 : Nat) (0 : Int) *
                                        (us.getD i []).getD (5 : Nat) (0 : Int))) +
                                    IntKind.i64.wrap
                                     ((
                                      us.getD i []).getD (2 : Nat) (0 : Int) *
                                      (us.getD i []).getD (6 : Nat) (0 : Int))) -
                                  IntKind.i64.wrap
                                   ((
                                    us.getD i []).getD (3 : Nat) (0 : Int) *
                                    (us.getD i []).getD (7 : Nat) (0 : Int))) -
                                IntKind.i64.wrap
                                 ((
                                  us.getD i []).getD (4 : Nat) (0 : Int) *
                                  (us.getD i []).getD (8 : Nat) (0 : Int))) +
                             (16384 : Int)) /
                            ((2 : Int) * (16384 : Int))
                          else (32767 : Int)
                         else (-32767 : Int)) !=
                         ((2 : Int) *
                            IntKind.i64.wrap
                             (IntKind.i64.wrap
                               (IntKind.i64.wrap
                                 (IntKind.i64.wrap
                                   (IntKind.i64.wrap
                                     ((us.getD i []).getD (0 : Nat) (0 : Int) * x) +
                                    IntKind.i64.wrap
                                     ((
                                      us.getD i []).getD (1 : Nat) (0 : Int) *
                                      (us.getD i []).getD (5 : Nat) (0 : Int))) +
                                  IntKind.i64.wrap
                                   ((
                                    us.getD i []).getD (2 : Nat) (0 : Int) *
                                    (us.getD i []).getD (6 : Nat) (0 : Int))) -
                                IntKind.i64.wrap
                                 ((
                                  us.getD i []).getD (3 : Nat) (0 : Int) *
                                  (us.getD i []).getD (7 : Nat) (0 : Int))) -
                              IntKind.i64.wrap
                               ((
                                us.getD i []).getD (4 : Nat) (0 : Int) *
                                (us.getD i []).getD (8 : Nat) (0 : Int))) +
                           (16384 : Int)) /
                          ((2 : Int) * (16384 : Int)))
                        (Ob (i < us.length) ∧
                         Ob (i < us.length) ∧
                          Ob ((0 : Int) ≤ (0 : Int) ∧ (0 : Int) < (↑(2 : Nat) : Int)) ∧
                           Ob
                             (i <
                              (us.set i
                                (Sx.wr (10 : Nat) (us.getD i []) (9 : Nat)
                                 [IntKind.i64.wrap
                                   ((
                                    us.getD i []).getD (9 : Nat) (0 : Int) +
                                    (1 : Int))])).length) ∧
                            Ob ((0 : Int) ≤ (0 : Int) ∧ (0 : Int) < (↑(2 : Nat) : Int)) ∧
                             Ob
                               (i <
                                (us.set i
                                  (Sx.wr (10 : Nat) (us.getD i []) (9 : Nat)
                                   [IntKind.i64.wrap
                                     ((
                                      us.getD i []).getD (9 : Nat) (0 : Int) +
                                      (1 : Int))])).length) ∧
                              Ob
                                (i <
                                 (us.set i
                                   (Sx.wr (10 : Nat) (us.getD i []) (9 : Nat)
                                    [IntKind.i64.wrap
                                      ((
                                       us.getD i []).getD (9 : Nat) (0 : Int) +
                                       (1 : Int))])).length) ∧
                               Ob
                                 (i <
                                  ((us.set i
                                      (Sx.wr (10 : Nat) (us.getD i []) (9 : Nat)
                                       [IntKind.i64.wrap
                                         ((
                                          us.getD i []).getD (9 : Nat) (0 : Int) +
                                          (1 : Int))])).set
                                    i
                                    (Sx.wr (10 : Nat)
                                     ((us.set i
                                        (Sx.wr (10 : Nat) (us.getD i []) (9 : Nat)
                                         [IntKind.i64.wrap
                                           ((us.getD i []).getD (9 : Nat)
                                             (0 : Int) +
                                            (1 : Int))])).getD
                                      i [])
                                     (5 : Nat)
                                     [x,
                                      ((us.set i
                                           (Sx.wr (10 : Nat) (us.getD i [])
                                            (9 : Nat)
                                            [IntKind.i64.wrap
                                              ((us.getD i []).getD (9 : Nat)
                                                (0 : Int) +
                                               (1 : Int))])).getD
                                         i []).getD
                                       (5 : Nat) (0 : Int)])).length) ∧
                                Ob True ∧
                                 Ob
                                   (((us.set i
                                         (Sx.wr (10 : Nat) (us.getD i []) (9 : Nat)
                                          [IntKind.i64.wrap
                                            ((us.getD i []).getD (9 : Nat)
                                              (0 : Int) +
                                             (1 : Int))])).set
                                       i
                                       (Sx.wr (10 : Nat)
                                        ((us.set i
                                           (Sx.wr (10 : Nat) (us.getD i [])
                                            (9 : Nat)
                                            [IntKind.i64.wrap
                                              ((us.getD i []).getD (9 : Nat)
                                                (0 : Int) +
                                               (1 : Int))])).getD
                                         i [])
                                        (5 : Nat)
                                        [x,
                                         ((us.set i
                                              (Sx.wr (10 : Nat) (us.getD i [])
                                               (9 : Nat)
                                               [IntKind.i64.wrap
                                                 ((us.getD i []).getD
                                                   (9 : Nat) (0 : Int) +
                                                  (1 : Int))])).getD
                                            i []).getD
                                          (5 : Nat) (0 : Int)])).set
                                     i
                                     (Sx.wr (10 : Nat)
                                      (((us.set i
                                           (Sx.wr (10 : Nat) (us.getD i [])
                                            (9 : Nat)
                                            [IntKind.i64.wrap
                                              ((us.getD i []).getD (9 : Nat)
                                                (0 : Int) +
                                               (1 : Int))])).set
                                         i
                                         (Sx.wr (10 : Nat)
                                          ((us.set i
                                             (Sx.wr (10 : Nat) (us.getD i [])
                                              (9 : Nat)
                                              [IntKind.i64.wrap
                                                ((us.getD i []).getD (9 : Nat)
                                                  (0 : Int) +
                                                 (1 : Int))])).getD
                                           i [])
                                          (5 : Nat)
                                          [x,
                                           ((us.set i
                                                (Sx.wr (10 : Nat)
                                                 (us.getD i []) (9 : Nat)
                                                 [IntKind.i64.wrap
                                                   ((us.getD i []).getD
                                                     (9 : Nat)
                                                     (0 : Int) +
                                                    (1 : Int))])).getD
                                              i []).getD
                                            (5 : Nat) (0 : Int)])).getD
                                       i [])
                                      (7 : Nat)
                                      [if
                                         (if
                                            ((2 : Int) *
                                                IntKind.i64.wrap
                                                 (IntKind.i64.wrap
                                                   (IntKind.i64.wrap
                                                     (IntKind.i64.wrap
                                                       (IntKind.i64.wrap
                                                         ((us.getD i
                                                             []).getD
                                                           (0 :
                                                            Nat)
                                                           (0 :
                                                            Int) *
                                                          x) +
                                                        IntKind.i64.wrap
                                                         ((us.getD i
                                                             []).getD
                                                           (1 :
                                                            Nat)
                                                           (0 :
                                                            Int) *
                                                          (us.getD i
                                                             []).getD
                                                           (5 :
                                                            Nat)
                                                           (0 :
                                                            Int))) +
                                                      IntKind.i64.wrap
                                                       ((us.getD i
                                                           []).getD
                                                         (2 : Nat)
                                                         (0 : Int) *
                                                        (us.getD i
                                                           []).getD
                                                         (6 : Nat)
                                                         (0 :
                                                          Int))) -
                                                    IntKind.i64.wrap
                                                     ((us.getD i []).getD
                                                       (3 : Nat)
                                                       (0 : Int) *
                                                      (us.getD i
                                                         []).getD
                                                       (7 : Nat)
                                                       (0 : Int))) -
                                                  IntKind.i64.wrap
                                                   ((us.getD i []).getD
                                                     (4 : Nat)
                                                     (0 : Int) *
                                                    (us.getD i []).getD
                                                     (8 : Nat)
                                                     (0 : Int))) +
                                               (16384 : Int)) /
                                              ((2 : Int) * (16384 : Int)) <
                                             (32767 : Int) then
                                           ((2 : Int) *
                                              IntKind.i64.wrap
                                               (IntKind.i64.wrap
                                                 (IntKind.i64.wrap
                                                   (IntKind.i64.wrap
                                                     (IntKind.i64.wrap
                                                       ((us.getD i
                                                           []).getD
                                                         (0 : Nat)
                                                         (0 : Int) *
                                                        x) +
                                                      IntKind.i64.wrap
                                                       ((us.getD i
                                                           []).getD
                                                         (1 : Nat)
                                                         (0 : Int) *
                                                        (us.getD i
                                                           []).getD
                                                         (5 : Nat)
                                                         (0 :
                                                          Int))) +
                                                    IntKind.i64.wrap
                                                     ((us.getD i []).getD
                                                       (2 : Nat)
                                                       (0 : Int) *
                                                      (us.getD i
                                                         []).getD
                                                       (6 : Nat)
                                                       (0 : Int))) -
                                                  IntKind.i64.wrap
                                                   ((us.getD i []).getD
                                                     (3 : Nat)
                                                     (0 : Int) *
                                                    (us.getD i []).getD
                                                     (7 : Nat)
                                                     (0 : Int))) -
                                                IntKind.i64.wrap
                                                 ((us.getD i []).getD
                                                   (4 : Nat) (0 : Int) *
                                                  (us.getD i []).getD
                                                   (8 : Nat) (0 : Int))) +
                                             (16384 : Int)) /
                                            ((2 : Int) * (16384 : Int))
                                          else (32767 : Int)) >
                                          (-32767 : Int) then
                                        if
                                          ((2 : Int) *
                                              IntKind.i64.wrap
                                               (IntKind.i64.wrap
                                                 (IntKind.i64.wrap
                                                   (IntKind.i64.wrap
                                                     (IntKind.i64.wrap
                                                       ((us.getD i
                                                           []).getD
                                                         (0 : Nat)
                                                         (0 : Int) *
                                                        x) +
                                                      IntKind.i64.wrap
                                                       ((us.getD i
                                                           []).getD
                                                         (1 : Nat)
                                                         (0 : Int) *
                                                        (us.getD i
                                                           []).getD
                                                         (5 : Nat)
                                                         (0 :
                                                          Int))) +
                                                    IntKind.i64.wrap
                                                     ((us.getD i []).getD
                                                       (2 : Nat)
                                                       (0 : Int) *
                                                      (us.getD i
                                                         []).getD
                                                       (6 : Nat)
                                                       (0 : Int))) -
                                                  IntKind.i64.wrap
                                                   ((us.getD i []).getD
                                                     (3 : Nat)
                                                     (0 : Int) *
                                                    (us.getD i []).getD
                                                     (7 : Nat)
                                                     (0 : Int))) -
                                                IntKind.i64.wrap
                                                 ((us.getD i []).getD
                                                   (4 : Nat) (0 : Int) *
                                                  (us.getD i []).getD
                                                   (8 : Nat) (0 : Int))) +
                                             (16384 : Int)) /
                                            ((2 : Int) * (16384 : Int)) <
                                           (32767 : Int) then
                                         ((2 : Int) *
                                            IntKind.i64.wrap
                                             (IntKind.i64.wrap
                                               (IntKind.i64.wrap
                                                 (IntKind.i64.wrap
                                                   (IntKind.i64.wrap
                                                     ((us.getD i []).getD
                                                       (0 : Nat)
                                                       (0 : Int) *
                                                      x) +
                                                    IntKind.i64.wrap
                                                     ((us.getD i []).getD
                                                       (1 : Nat)
                                                       (0 : Int) *
                                                      (us.getD i
                                                         []).getD
                                                       (5 : Nat)
                                                       (0 : Int))) +
                                                  IntKind.i64.wrap
                                                   ((us.getD i []).getD
                                                     (2 : Nat)
                                                     (0 : Int) *
                                                    (us.getD i []).getD
                                                     (6 : Nat)
                                                     (0 : Int))) -
                                                IntKind.i64.wrap
                                                 ((us.getD i []).getD
                                                   (3 : Nat) (0 : Int) *
                                                  (us.getD i []).getD
                                                   (7 : Nat) (0 : Int))) -
                                              IntKind.i64.wrap
                                               ((us.getD i []).getD (4 : Nat)
                                                 (0 : Int) *
                                                (us.getD i []).getD (8 : Nat)
                                                 (0 : Int))) +
                                           (16384 : Int)) /
                                          ((2 : Int) * (16384 : Int))
                                        else (32767 : Int)
                                       else (-32767 : Int),
                                       ((us.set i
                                            (Sx.wr (10 : Nat) (us.getD i [])
                                             (9 : Nat)
                                             [IntKind.i64.wrap
                                               ((us.getD i []).getD (9 : Nat)
                                                 (0 : Int) +
                                                (1 : Int))])).getD
                                          i []).getD
                                        (7 : Nat) (0 : Int)]) =
                                    us.set i (jfE (us.getD i []) x)) ∧
                                  Ob
                                    ((if
                                       (if
                                          ((2 : Int) *
                                              IntKind.i64.wrap
                                               (IntKind.i64.wrap
                                                 (IntKind.i64.wrap
                                                   (IntKind.i64.wrap
                                                     (IntKind.i64.wrap
                                                       ((us.getD i
                                                           []).getD
                                                         (0 : Nat)
                                                         (0 : Int) *
                                                        x) +
                                                      IntKind.i64.wrap
                                                       ((us.getD i
                                                           []).getD
                                                         (1 : Nat)
                                                         (0 : Int) *
                                                        (us.getD i
                                                           []).getD
                                                         (5 : Nat)
                                                         (0 :
                                                          Int))) +
                                                    IntKind.i64.wrap
                                                     ((us.getD i []).getD
                                                       (2 : Nat)
                                                       (0 : Int) *
                                                      (us.getD i
                                                         []).getD
                                                       (6 : Nat)
                                                       (0 : Int))) -
                                                  IntKind.i64.wrap
                                                   ((us.getD i []).getD
                                                     (3 : Nat)
                                                     (0 : Int) *
                                                    (us.getD i []).getD
                                                     (7 : Nat)
                                                     (0 : Int))) -
                                                IntKind.i64.wrap
                                                 ((us.getD i []).getD
                                                   (4 : Nat) (0 : Int) *
                                                  (us.getD i []).getD
                                                   (8 : Nat) (0 : Int))) +
                                             (16384 : Int)) /
                                            ((2 : Int) * (16384 : Int)) <
                                           (32767 : Int) then
                                         ((2 : Int) *
                                            IntKind.i64.wrap
                                             (IntKind.i64.wrap
                                               (IntKind.i64.wrap
                                                 (IntKind.i64.wrap
                                                   (IntKind.i64.wrap
                                                     ((us.getD i []).getD
                                                       (0 : Nat)
                                                       (0 : Int) *
                                                      x) +
                                                    IntKind.i64.wrap
                                                     ((us.getD i []).getD
                                                       (1 : Nat)
                                                       (0 : Int) *
                                                      (us.getD i
                                                         []).getD
                                                       (5 : Nat)
                                                       (0 : Int))) +
                                                  IntKind.i64.wrap
                                                   ((us.getD i []).getD
                                                     (2 : Nat)
                                                     (0 : Int) *
                                                    (us.getD i []).getD
                                                     (6 : Nat)
                                                     (0 : Int))) -
                                                IntKind.i64.wrap
                                                 ((us.getD i []).getD
                                                   (3 : Nat) (0 : Int) *
                                                  (us.getD i []).getD
                                                   (7 : Nat) (0 : Int))) -
                                              IntKind.i64.wrap
                                               ((us.getD i []).getD (4 : Nat)
                                                 (0 : Int) *
                                                (us.getD i []).getD (8 : Nat)
                                                 (0 : Int))) +
                                           (16384 : Int)) /
                                          ((2 : Int) * (16384 : Int))
                                        else (32767 : Int)) >
                                        (-32767 : Int) then
                                      if
                                        ((2 : Int) *
                                            IntKind.i64.wrap
                                             (IntKind.i64.wrap
                                               (IntKind.i64.wrap
                                                 (IntKind.i64.wrap
                                                   (IntKind.i64.wrap
                                                     ((us.getD i []).getD
                                                       (0 : Nat)
                                                       (0 : Int) *
                                                      x) +
                                                    IntKind.i64.wrap
                                                     ((us.getD i []).getD
                                                       (1 : Nat)
                                                       (0 : Int) *
                                                      (us.getD i
                                                         []).getD
                                                       (5 : Nat)
                                                       (0 : Int))) +
                                                  IntKind.i64.wrap
                                                   ((us.getD i []).getD
                                                     (2 : Nat)
                                                     (0 : Int) *
                                                    (us.getD i []).getD
                                                     (6 : Nat)
                                                     (0 : Int))) -
                                                IntKind.i64.wrap
                                                 ((us.getD i []).getD
                                                   (3 : Nat) (0 : Int) *
                                                  (us.getD i []).getD
                                                   (7 : Nat) (0 : Int))) -
                                              IntKind.i64.wrap
                                               ((us.getD i []).getD (4 : Nat)
                                                 (0 : Int) *
                                                (us.getD i []).getD (8 : Nat)
                                                 (0 : Int))) +
                                           (16384 : Int)) /
                                          ((2 : Int) * (16384 : Int)) <
                                         (32767 : Int) then
                                       ((2 : Int) *
                                          IntKind.i64.wrap
                                           (IntKind.i64.wrap
                                             (IntKind.i64.wrap
                                               (IntKind.i64.wrap
                                                 (IntKind.i64.wrap
                                                   ((us.getD i []).getD
                                                     (0 : Nat)
                                                     (0 : Int) *
                                                    x) +
                                                  IntKind.i64.wrap
                                                   ((us.getD i []).getD
                                                     (1 : Nat)
                                                     (0 : Int) *
                                                    (us.getD i []).getD
                                                     (5 : Nat)
                                                     (0 : Int))) +
                                                IntKind.i64.wrap
                                                 ((us.getD i []).getD
                                                   (2 : Nat) (0 : Int) *
                                                  (us.getD i []).getD
                                                   (6 : Nat) (0 : Int))) -
                                              IntKind.i64.wrap
                                               ((us.getD i []).getD (3 : Nat)
                                                 (0 : Int) *
                                                (us.getD i []).getD (7 : Nat)
                                                 (0 : Int))) -
                                            IntKind.i64.wrap
                                             ((us.getD i []).getD (4 : Nat)
                                               (0 : Int) *
                                              (us.getD i []).getD (8 : Nat)
                                               (0 : Int))) +
                                         (16384 : Int)) /
                                        ((2 : Int) * (16384 : Int))
                                      else (32767 : Int)
                                     else (-32767 : Int)) =
                                     jcM (us.getD i []) x) ∧
                                   True)
                        (Ob ((0 : Int) ≤ (0 : Int) ∧ (0 : Int) < (↑(2 : Nat) : Int)) ∧
                         Ob (i < us.length) ∧
                          Ob ((0 : Int) ≤ (0 : Int) ∧ (0 : Int) < (↑(2 : Nat) : Int)) ∧
                           Ob (i < us.length) ∧
                            Ob (i < us.length) ∧
                             Ob
                               (i <
                                (us.set i
                                  (Sx.wr (10 : Nat) (us.getD i []) (5 : Nat)
                                   [x, (us.getD i []).getD (5 : Nat) (0 : Int)])).length) ∧
                              Ob True ∧
                               Ob
                                 ((us.set i
                                     (Sx.wr (10 : Nat) (us.getD i []) (5 : Nat)
                                      [x, (us.getD i []).getD (5 : Nat) (0 : Int)])).set
                                   i
                                   (Sx.wr (10 : Nat)
                                    ((us.set i
                                       (Sx.wr (10 : Nat) (us.getD i []) (5 : Nat)
                                        [x,
                                         (us.getD i []).getD (5 : Nat)
                                          (0 : Int)])).getD
                                     i [])
                                    (7 : Nat)
                                    [if
                                       (if
                                          ((2 : Int) *
                                              IntKind.i64.wrap
                                               (IntKind.i64.wrap
                                                 (IntKind.i64.wrap
                                                   (IntKind.i64.wrap
                                                     (IntKind.i64.wrap
                                                       ((us.getD i
                                                           []).getD
                                                         (0 : Nat)
                                                         (0 : Int) *
                                                        x) +
                                                      IntKind.i64.wrap
                                                       ((us.getD i
                                                           []).getD
                                                         (1 : Nat)
                                                         (0 : Int) *
                                                        (us.getD i
                                                           []).getD
                                                         (5 : Nat)
                                                         (0 :
                                                          Int))) +
                                                    IntKind.i64.wrap
                                                     ((us.getD i []).getD
                                                       (2 : Nat)
                                                       (0 : Int) *
                                                      (us.getD i
                                                         []).getD
                                                       (6 : Nat)
                                                       (0 : Int))) -
                                                  IntKind.i64.wrap
                                                   ((us.getD i []).getD
                                                     (3 : Nat)
                                                     (0 : Int) *
                                                    (us.getD i []).getD
                                                     (7 : Nat)
                                                     (0 : Int))) -
                                                IntKind.i64.wrap
                                                 ((us.getD i []).getD
                                                   (4 : Nat) (0 : Int) *
                                                  (us.getD i []).getD
                                                   (8 : Nat) (0 : Int))) +
                                             (16384 : Int)) /
                                            ((2 : Int) * (16384 : Int)) <
                                           (32767 : Int) then
                                         ((2 : Int) *
                                            IntKind.i64.wrap
                                             (IntKind.i64.wrap
                                               (IntKind.i64.wrap
                                                 (IntKind.i64.wrap
                                                   (IntKind.i64.wrap
                                                     ((us.getD i []).getD
                                                       (0 : Nat)
                                                       (0 : Int) *
                                                      x) +
                                                    IntKind.i64.wrap
                                                     ((us.getD i []).getD
                                                       (1 : Nat)
                                                       (0 : Int) *
                                                      (us.getD i
                                                         []).getD
                                                       (5 : Nat)
                                                       (0 : Int))) +
                                                  IntKind.i64.wrap
                                                   ((us.getD i []).getD
                                                     (2 : Nat)
                                                     (0 : Int) *
                                                    (us.getD i []).getD
                                                     (6 : Nat)
                                                     (0 : Int))) -
                                                IntKind.i64.wrap
                                                 ((us.getD i []).getD
                                                   (3 : Nat) (0 : Int) *
                                                  (us.getD i []).getD
                                                   (7 : Nat) (0 : Int))) -
                                              IntKind.i64.wrap
                                               ((us.getD i []).getD (4 : Nat)
                                                 (0 : Int) *
                                                (us.getD i []).getD (8 : Nat)
                                                 (0 : Int))) +
                                           (16384 : Int)) /
                                          ((2 : Int) * (16384 : Int))
                                        else (32767 : Int)) >
                                        (-32767 : Int) then
                                      if
                                        ((2 : Int) *
                                            IntKind.i64.wrap
                                             (IntKind.i64.wrap
                                               (IntKind.i64.wrap
                                                 (IntKind.i64.wrap
                                                   (IntKind.i64.wrap
                                                     ((us.getD i []).getD
                                                       (0 : Nat)
                                                       (0 : Int) *
                                                      x) +
                                                    IntKind.i64.wrap
                                                     ((us.getD i []).getD
                                                       (1 : Nat)
                                                       (0 : Int) *
                                                      (us.getD i
                                                         []).getD
                                                       (5 : Nat)
                                                       (0 : Int))) +
                                                  IntKind.i64.wrap
                                                   ((us.getD i []).getD
                                                     (2 : Nat)
                                                     (0 : Int) *
                                                    (us.getD i []).getD
                                                     (6 : Nat)
                                                     (0 : Int))) -
                                                IntKind.i64.wrap
                                                 ((us.getD i []).getD
                                                   (3 : Nat) (0 : Int) *
                                                  (us.getD i []).getD
                                                   (7 : Nat) (0 : Int))) -
                                              IntKind.i64.wrap
                                               ((us.getD i []).getD (4 : Nat)
                                                 (0 : Int) *
                                                (us.getD i []).getD (8 : Nat)
                                                 (0 : Int))) +
                                           (16384 : Int)) /
                                          ((2 : Int) * (16384 : Int)) <
                                         (32767 : Int) then
                                       ((2 : Int) *
                                          IntKind.i64.wrap
                                           (IntKind.i64.wrap
                                             (IntKind.i64.wrap
                                               (IntKind.i64.wrap
                                                 (IntKind.i64.wrap
                                                   ((us.getD i []).getD
                                                     (0 : Nat)
                                                     (0 : Int) *
                                                    x) +
                                                  IntKind.i64.wrap
                                                   ((us.getD i []).getD
                                                     (1 : Nat)
                                                     (0 : Int) *
                                                    (us.getD i []).getD
                                                     (5 : Nat)
                                                     (0 : Int))) +
                                                IntKind.i64.wrap
                                                 ((us.getD i []).getD
                                                   (2 : Nat) (0 : Int) *
                                                  (us.getD i []).getD
                                                   (6 : Nat) (0 : Int))) -
                                              IntKind.i64.wrap
                                               ((us.getD i []).getD (3 : Nat)
                                                 (0 : Int) *
                                                (us.getD i []).getD (7 : Nat)
                                                 (0 : Int))) -
                                            IntKind.i64.wrap
                                             ((us.getD i []).getD (4 : Nat)
                                               (0 : Int) *
                                              (us.getD i []).getD (8 : Nat)
                                               (0 : Int))) +
                                         (16384 : Int)) /
                                        ((2 : Int) * (16384 : Int))
                                      else (32767 : Int)
                                     else (-32767 : Int),
                                     (us.getD i []).getD (7 : Nat) (0 : Int)]) =
                                  us.set i (jfE (us.getD i []) x)) ∧
                                Ob
                                  ((if
                                     (if
                                        ((2 : Int) *
                                            IntKind.i64.wrap
                                             (IntKind.i64.wrap
                                               (IntKind.i64.wrap
                                                 (IntKind.i64.wrap
                                                   (IntKind.i64.wrap
                                                     ((us.getD i []).getD
                                                       (0 : Nat)
                                                       (0 : Int) *
                                                      x) +
                                                    IntKind.i64.wrap
                                                     ((us.getD i []).getD
                                                       (1 : Nat)
                                                       (0 : Int) *
                                                      (us.getD i
                                                         []).getD
                                                       (5 : Nat)
                                                       (0 : Int))) +
                                                  IntKind.i64.wrap
                                                   ((us.getD i []).getD
                                                     (2 : Nat)
                                                     (0 : Int) *
                                                    (us.getD i []).getD
                                                     (6 : Nat)
                                                     (0 : Int))) -
                                                IntKind.i64.wrap
                                                 ((us.getD i []).getD
                                                   (3 : Nat) (0 : Int) *
                                                  (us.getD i []).getD
                                                   (7 : Nat) (0 : Int))) -
                                              IntKind.i64.wrap
                                               ((us.getD i []).getD (4 : Nat)
                                                 (0 : Int) *
                                                (us.getD i []).getD (8 : Nat)
                                                 (0 : Int))) +
                                           (16384 : Int)) /
                                          ((2 : Int) * (16384 : Int)) <
                                         (32767 : Int) then
                                       ((2 : Int) *
                                          IntKind.i64.wrap
                                           (IntKind.i64.wrap
                                             (IntKind.i64.wrap
                                               (IntKind.i64.wrap
                                                 (IntKind.i64.wrap
                                                   ((us.getD i []).getD
                                                     (0 : Nat)
                                                     (0 : Int) *
                                                    x) +
                                                  IntKind.i64.wrap
                                                   ((us.getD i []).getD
                                                     (1 : Nat)
                                                     (0 : Int) *
                                                    (us.getD i []).getD
                                                     (5 : Nat)
                                                     (0 : Int))) +
                                                IntKind.i64.wrap
                                                 ((us.getD i []).getD
                                                   (2 : Nat) (0 : Int) *
                                                  (us.getD i []).getD
                                                   (6 : Nat) (0 : Int))) -
                                              IntKind.i64.wrap
                                               ((us.getD i []).getD (3 : Nat)
                                                 (0 : Int) *
                                                (us.getD i []).getD (7 : Nat)
                                                 (0 : Int))) -
                                            IntKind.i64.wrap
                                             ((us.getD i []).getD (4 : Nat)
                                               (0 : Int) *
                                              (us.getD i []).getD (8 : Nat)
                                               (0 : Int))) +
                                         (16384 : Int)) /
                                        ((2 : Int) * (16384 : Int))
                                      else (32767 : Int)) >
                                      (-32767 : Int) then
                                    if
                                      ((2 : Int) *
                                          IntKind.i64.wrap
                                           (IntKind.i64.wrap
                                             (IntKind.i64.wrap
                                               (IntKind.i64.wrap
                                                 (IntKind.i64.wrap
                                                   ((us.getD i []).getD
                                                     (0 : Nat)
                                                     (0 : Int) *
                                                    x) +
                                                  IntKind.i64.wrap
                                                   ((us.getD i []).getD
                                                     (1 : Nat)
                                                     (0 : Int) *
                                                    (us.getD i []).getD
                                                     (5 : Nat)
                                                     (0 : Int))) +
                                                IntKind.i64.wrap
                                                 ((us.getD i []).getD
                                                   (2 : Nat) (0 : Int) *
                                                  (us.getD i []).getD
                                                   (6 : Nat) (0 : Int))) -
                                              IntKind.i64.wrap
                                               ((us.getD i []).getD (3 : Nat)
                                                 (0 : Int) *
                                                (us.getD i []).getD (7 : Nat)
                                                 (0 : Int))) -
                                            IntKind.i64.wrap
                                             ((us.getD i []).getD (4 : Nat)
                                               (0 : Int) *
                                              (us.getD i []).getD (8 : Nat)
                                               (0 : Int))) +
                                         (16384 : Int)) /
                                        ((2 : Int) * (16384 : Int)) <
                                       (32767 : Int) then
                                     ((2 : Int) *
                                        IntKind.i64.wrap
                                         (IntKind.i64.wrap
                                           (IntKind.i64.wrap
                                             (IntKind.i64.wrap
                                               (IntKind.i64.wrap
                                                 ((us.getD i []).getD
                                                   (0 : Nat) (0 : Int) *
                                                  x) +
                                                IntKind.i64.wrap
                                                 ((us.getD i []).getD
                                                   (1 : Nat) (0 : Int) *
                                                  (us.getD i []).getD
                                                   (5 : Nat) (0 : Int))) +
                                              IntKind.i64.wrap
                                               ((us.getD i []).getD (2 : Nat)
                                                 (0 : Int) *
                                                (us.getD i []).getD (6 : Nat)
                                                 (0 : Int))) -
                                            IntKind.i64.wrap
                                             ((us.getD i []).getD (3 : Nat)
                                               (0 : Int) *
                                              (us.getD i []).getD (7 : Nat)
                                               (0 : Int))) -
                                          IntKind.i64.wrap
                                           ((us.getD i []).getD (4 : Nat)
                                             (0 : Int) *
                                            (us.getD i []).getD (8 : Nat)
                                             (0 : Int))) +
                                       (16384 : Int)) /
                                      ((2 : Int) * (16384 : Int))
                                    else (32767 : Int)
                                   else (-32767 : Int)) =
                                   jcM (us.getD i []) x) ∧
                                 True)) = _) ?_
 obtain ⟨hi, ⟨hl, hc, hs, h90, h91⟩, hx0, hx1⟩ := ho
 generalize us.getD i [] = u at *
 have p0 := jcs (x := u.getD 0 0) (y := x) (a := 32768) (b := 32767) (by decide) (by decide) (hc 0 (by decide)) ⟨hx0, hx1⟩
 have p1 := jcs (x := u.getD 1 0) (y := u.getD 5 0) (a := 32768) (b := 32767) (by decide) (by decide) (hc 1 (by decide)) (hs 5 (by decide) (by decide))
 have p2 := jcs (x := u.getD 2 0) (y := u.getD 6 0) (a := 32768) (b := 32767) (by decide) (by decide) (hc 2 (by decide)) (hs 6 (by decide) (by decide))
 have p3 := jcs (x := u.getD 3 0) (y := u.getD 7 0) (a := 32768) (b := 32767) (by decide) (by decide) (hc 3 (by decide)) (hs 7 (by decide) (by decide))
 have p4 := jcs (x := u.getD 4 0) (y := u.getD 8 0) (a := 32768) (b := 32767) (by decide) (by decide) (hc 4 (by decide)) (hs 8 (by decide) (by decide))
 have hN : IntKind.i64.wrap (IntKind.i64.wrap (IntKind.i64.wrap (IntKind.i64.wrap (IntKind.i64.wrap (u.getD 0 0 * x) + IntKind.i64.wrap (u.getD 1 0 * u.getD 5 0)) + IntKind.i64.wrap (u.getD 2 0 * u.getD 6 0)) - IntKind.i64.wrap (u.getD 3 0 * u.getD 7 0)) - IntKind.i64.wrap (u.getD 4 0 * u.getD 8 0)) = u.getD 0 0 * x + u.getD 1 0 * u.getD 5 0 + u.getD 2 0 * u.getD 6 0 - u.getD 3 0 * u.getD 7 0 - u.getD 4 0 * u.getD 8 0 := by
  rw [wr (n := u.getD 0 0 * x) (by omega) (by omega), wr (n := u.getD 1 0 * u.getD 5 0) (by omega) (by omega), wr (n := u.getD 2 0 * u.getD 6 0) (by omega) (by omega), wr (n := u.getD 3 0 * u.getD 7 0) (by omega) (by omega), wr (n := u.getD 4 0 * u.getD 8 0) (by omega) (by omega)]
  rw [wr (n := u.getD 0 0 * x + u.getD 1 0 * u.getD 5 0) (by omega) (by omega), wr (n := u.getD 0 0 * x + u.getD 1 0 * u.getD 5 0 + u.getD 2 0 * u.getD 6 0) (by omega) (by omega), wr (n := u.getD 0 0 * x + u.getD 1 0 * u.getD 5 0 + u.getD 2 0 * u.getD 6 0 - u.getD 3 0 * u.getD 7 0) (by omega) (by omega), wr (by omega) (by omega)]
 rw [hN]
 have hY : (2 * (u.getD 0 0 * x + u.getD 1 0 * u.getD 5 0 + u.getD 2 0 * u.getD 6 0 - u.getD 3 0 * u.getD 7 0 - u.getD 4 0 * u.getD 8 0) + 16384) / (2 * 16384) = jhF u x := rfl
 rw [hY]
 have hO : (if (if jhF u x < 32767 then jhF u x else 32767) > -32767 then (if jhF u x < 32767 then jhF u x else 32767) else -32767) = jcM u x := by
  unfold jcM
  split <;> split <;> omega
 rw [hO]
 have h9 : IntKind.i64.wrap (u.getD 9 0 + 1) = u.getD 9 0 + 1 := wr (by omega) (by omega)
 simp only [h9, jce hi, List.set_set, List.length_set, jaV, jbn, bne_iff_ne, ne_eq, bne_eq_false_iff_eq, true_and, and_true]
 have e1 : ∀ (u : List Int) (a b : Int), Sx.wr 10 u 5 [a, b] = [u.getD 0 0, u.getD 1 0, u.getD 2 0, u.getD 3 0, u.getD 4 0, a, b, u.getD 7 0, u.getD 8 0, u.getD 9 0] := fun _ _ _ => rfl
 have e2 : ∀ (u : List Int) (a b : Int), Sx.wr 10 u 7 [a, b] = [u.getD 0 0, u.getD 1 0, u.getD 2 0, u.getD 3 0, u.getD 4 0, u.getD 5 0, u.getD 6 0, a, b, u.getD 9 0] := fun _ _ _ => rfl
 have e3 : ∀ (u : List Int) (a : Int), Sx.wr 10 u 9 [a] = [u.getD 0 0, u.getD 1 0, u.getD 2 0, u.getD 3 0, u.getD 4 0, u.getD 5 0, u.getD 6 0, u.getD 7 0, u.getD 8 0, a] := fun _ _ => rfl
 have hput : ∀ d : Int, d = (if jcM u x = jhF u x then 0 else 1) → [u.getD 0 0, u.getD 1 0, u.getD 2 0, u.getD 3 0, u.getD 4 0, x, u.getD 5 0, jcM u x, u.getD 7 0, u.getD 9 0 + d] = jfE u x := fun d h => by rw [h]; rfl
 refine ⟨by decide, hi, by decide, hi, by decide, hi, by decide, hi, by decide, hi, by decide, hi, by decide, hi, by decide, hi, by decide, hi, ⟨by omega, by omega, by decide, by decide⟩, fun h => ⟨hi, hi, by decide, hi, by decide, hi, hi, hi, ?_⟩, fun h => ⟨by decide, hi, by decide, hi, hi, hi, ?_⟩⟩
 ·congr 1
  rw [e3, e1, e2, ← hput 1 (by rw [if_neg h])]
  rfl
 ·congr 1
  rw [e1, e2, ← hput 0 (by rw [if_pos h]), Int.add_zero]
  rfl
theorem joh : jah Tryz.prog 54 false (jhw jgC) := by
 refine jo6 (sp := (jar 73 jgz sp0)) (fn := Tryz.f54) (body := jai Tryz.f54) mixed (jaw joc jam) Tryz.func54 (by kernel_rfl) (by kernel_rfl) fun c0 ob as_ p ob' rs h hown ho hlt => ?_
 unfold jgC at h
 split at h
 ·rename_i i us x
  cases h
  exact ⟨rfl, Nat.le_of_ble_eq_true rfl, _, _, jog i us x ho⟩
 ·cases h
end Go.Sx06
end

section
namespace Go.Sx06
open Go.Sx06u (ja6 ja8 agg5 jcI jb4 jcr)
open Go Go.Proofs Go.RowKit Go.Sx
def mkU (r s : List Int) : List Int := [r.getD 0 0, r.getD 1 0, r.getD 2 0, r.getD 3 0, r.getD 4 0, s.getD 0 0, s.getD 1 0, s.getD 2 0, s.getD 3 0, 0]
def jcB (c s : List (List Int)) (k : Nat) : List (List Int) := (List.range k).map fun i => mkU (c.getD i []) (s.getD i [])
theorem jpk (c s : List (List Int)) (k : Nat) : jcB c s (k + 1) = jcB c s k ++ [mkU (c.getD k []) (s.getD k [])] := by simp [jcB, List.range_succ]
theorem jiD (c s : List (List Int)) (k : Nat) : (jcB c s k).length = k := by simp [jcB]
def jbi : List (List Int) → Int → List (List Int)
 | [], _ => []
 | u :: us, x => jfE u x :: jbi us (jcM u x)
def jbj : List (List Int) → Int → Int
 | [], x => x
 | u :: us, x => jbj us (jcM u x)
theorem jbW : ∀ (us : List (List Int)) (x : Int), (jbi us x).length = us.length
 | [], _ => rfl
 | u :: us, x => by simp [jbi, jbW us]
theorem jjX : ∀ (us : List (List Int)) (u : List Int) (x : Int), jbi (us ++ [u]) x = jbi us x ++ [jfE u (jbj us x)] ∧ jbj (us ++ [u]) x = jcM u (jbj us x)
 | [], _, _ => ⟨rfl, rfl⟩
 | v :: us, u, x => by
  have := jjX us u (jcM v x)
  simp only [List.cons_append, jbi, jbj, this, and_self]
theorem jdH (u : List Int) (x : Int) : -32767 ≤ jcM u x ∧ jcM u x ≤ 32767 := by unfold jcM; omega
theorem jiE : ∀ (us : List (List Int)) {x : Int}, -32767 ≤ x → x ≤ 32767 → -32767 ≤ jbj us x ∧ jbj us x ≤ 32767
 | [], _, h1, h2 => ⟨h1, h2⟩
 | u :: us, x, _, _ => jiE us (jdH u x).1 (jdH u x).2
theorem jdh {α : Type} {l : List α} {x : Nat} (hx : x < l.length) (d : α) : l.take (x + 1) = l.take x ++ [l.getD x d] := by
 rw [List.take_succ_eq_append_getElem hx, jdu hx]
def jfl : List A → Option (Prop × List RV)
 | [.r (.recs 5 c), .r (.recs 4 s)] => some (c.length ≤ s.length ∧ c.length ≤ 1000000, [.row 106 (.recs 10 (jcB c s c.length))])
 | _ => none
theorem jmW (c s : List (List Int)) (ho : c.length ≤ s.length ∧ c.length ≤ 1000000) : jaI Tryz.f33 sp0 (fun _ _ => some ⟨Nat, fun i => ⟨[(10, vi .i64 i), (9, vi .i64 c.length), (8, .w (.c (.o 0))), (5, .w (.c (.o 2))), (0, .w (.c (.o 0))), (1, .w (.c (.o 1)))], [(2, .row 106 (.recs 10 (jcB c s i))), (0, .ext (.recs 5 c)), (1, .ext (.recs 4 s))], 3⟩, fun i => i ≤ c.length, fun i => c.length - i⟩) 0 [.r (.recs 5 c), .r (.recs 4 s)] [.row 106 (.recs 10 (jcB c s c.length))] := by
 refine Eq.mp (by kernel_rfl : (
    (∃ (
      x : Nat),
      Ob (x ≤ c.length) ∧
       Ob ((0 : Int) = (↑x : Int)) ∧
        Ob ((↑c.length : Int) = (↑c.length : Int)) ∧
         Ob ((jcB c s x).length = (0 : Nat)) ∧ Ob (c = c) ∧ Ob (s = s) ∧ True) ∧
     ∀ (x : Nat),
      x ≤ c.length →
       Br (decide ((↑x : Int) < (↑c.length : Int)))
        (Ob ((0 : Int) ≤ (↑x : Int) ∧ (↑x : Int) < (↑c.length : Int)) ∧
         Ob ((↑x : Int).toNat < c.length) ∧
          Ob ((0 : Int) ≤ (↑x : Int) ∧ (↑x : Int) < (↑s.length : Int)) ∧
           Ob ((↑x : Int).toNat < s.length) ∧
            Ob
              (((jcB c s x).length +
                  [[(c.getD (↑x : Int).toNat []).getD (0 : Nat) (0 : Int),
                     (c.getD (↑x : Int).toNat []).getD (1 : Nat) (0 : Int),
                     (c.getD (↑x : Int).toNat []).getD (2 : Nat) (0 : Int),
                     (c.getD (↑x : Int).toNat []).getD (3 : Nat) (0 : Int),
                     (c.getD (↑x : Int).toNat []).getD (4 : Nat) (0 : Int),
                     (s.getD (↑x : Int).toNat []).getD (0 : Nat) (0 : Int),
                     (s.getD (↑x : Int).toNat []).getD (1 : Nat) (0 : Int),
                     (s.getD (↑x : Int).toNat []).getD (2 : Nat) (0 : Int),
                     (s.getD (↑x : Int).toNat []).getD (3 : Nat) (0 : Int), (0 : Int)]].length) *
                 (80 : Nat) ≤
                (140737488355328 : Nat) ∧
               (jcB c s x).length +
                 [[(c.getD (↑x : Int).toNat []).getD (0 : Nat) (0 : Int),
                    (c.getD (↑x : Int).toNat []).getD (1 : Nat) (0 : Int),
                    (c.getD (↑x : Int).toNat []).getD (2 : Nat) (0 : Int),
                    (c.getD (↑x : Int).toNat []).getD (3 : Nat) (0 : Int),
                    (c.getD (↑x : Int).toNat []).getD (4 : Nat) (0 : Int),
                    (s.getD (↑x : Int).toNat []).getD (0 : Nat) (0 : Int),
                    (s.getD (↑x : Int).toNat []).getD (1 : Nat) (0 : Int),
                    (s.getD (↑x : Int).toNat []).getD (2 : Nat) (0 : Int),
                    (s.getD (↑x : Int).toNat []).getD (3 : Nat) (0 : Int), (0 : Int)]].length ≤
                (9223372036854775807 : Nat)) ∧
             ∃ (x' : Nat),
              Ob (x' ≤ c.length) ∧
               Ob (c.length - x' < c.length - x) ∧
                Ob (IntKind.i64.wrap ((↑x : Int) + (1 : Int)) = (↑x' : Int)) ∧
                 Ob ((↑c.length : Int) = (↑c.length : Int)) ∧
                  Ob
                    (jcB c s x ++
                      [[(c.getD (↑x : Int).toNat []).getD (0 : Nat) (0 : Int),
                        (c.getD (↑x : Int).toNat []).getD (1 : Nat) (0 : Int),
                        (c.getD (↑x : Int).toNat []).getD (2 : Nat) (0 : Int),
                        (c.getD (↑x : Int).toNat []).getD (3 : Nat) (0 : Int),
                        (c.getD (↑x : Int).toNat []).getD (4 : Nat) (0 : Int),
                        (s.getD (↑x : Int).toNat []).getD (0 : Nat) (0 : Int),
                        (s.getD (↑x : Int).toNat []).getD (1 : Nat) (0 : Int),
                        (s.getD (↑x : Int).toNat []).getD (2 : Nat) (0 : Int),
                        (s.getD (↑x : Int).toNat []).getD (3 : Nat) (0 : Int), (0 : Int)]] =
                     jcB c s x') ∧
                   Ob (c = c) ∧ Ob (s = s) ∧ True)
        (Ob True ∧ Ob (jcB c s x = jcB c s c.length) ∧ True)) = _) ?_
 obtain ⟨hs, hc⟩ := ho
 simp only [Int.toNat_natCast, jiD, List.length_singleton, jaV, jbn, decide_eq_true_eq, decide_eq_false_iff_not, true_and, and_true]
 refine ⟨⟨0, by omega, rfl, rfl⟩, fun x h1 => ⟨fun h2 => ⟨by omega, by omega, by omega, by omega, ⟨by omega, by omega⟩, x + 1, by omega, by omega, ?_, (jpk c s x).symm⟩, fun h2 => ?_⟩⟩
 ·rw [wr (by omega) (by omega)]
  omega
 ·have e : x = c.length := by omega
  rw [e]
theorem jmX : jah Tryz.prog 33 true (jay jfl) := by
 refine jaF (sp := sp0) (fn := Tryz.f33) (body := jai Tryz.f33) mixed jam Tryz.func33 (by kernel_rfl) (by kernel_rfl) fun as_ ob rs h ho => ?_
 unfold jfl at h
 split at h
 ·rename_i c s
  cases h
  exact ⟨Nat.le_of_ble_eq_true rfl, _, _, jmW c s ho⟩
 ·cases h
def jfm : C → O → List A → Option (Prop × O × List RV)
 | .o 0, .row 106 (.recs 10 us), [.d (.i .i64 x)] => some (us.length ≤ 1000000 ∧ (∀ u ∈ us, okU u) ∧ -32767 ≤ x ∧ x ≤ 32767, .row 106 (.recs 10 (jbi us x)), [.d (.i .i64 (jbj us x))])
 | _, _, _ => none
theorem jmY (us : List (List Int)) (x : Int) (ho : us.length ≤ 1000000 ∧ (∀ u ∈ us, okU u) ∧ -32767 ≤ x ∧ x ≤ 32767) : runE Tryz.f34 (jgy 54 jgC sp0) (fun _ _ => some ⟨Nat, fun i => ⟨[(8, vi .i64 i), (7, vi .i64 us.length), (6, .w (.c (.o 0))), (0, .w (.c (.o 0))), (1, vi .i64 (jbj (us.take i) x))], [(0, .row 106 (.recs 10 (jbi (us.take i) x ++ us.drop i)))], 1⟩, fun i => i ≤ us.length, fun i => us.length - i⟩) 0 (.o 0) (.row 106 (.recs 10 us)) [.d (.i .i64 x)] (.row 106 (.recs 10 (jbi us x))) [.d (.i .i64 (jbj us x))] := by
 refine Eq.mp (by kernel_rfl : (
    (∃ (
      x_1 : Nat),
      Ob (x_1 ≤ us.length) ∧
       Ob ((0 : Int) = (↑x_1 : Int)) ∧
        Ob ((↑us.length : Int) = (↑us.length : Int)) ∧
         Ob (x = jbj (List.take x_1 us) x) ∧ Ob (us = jbi (List.take x_1 us) x ++ List.drop x_1 us) ∧ True) ∧
     ∀ (x_1 : Nat),
      x_1 ≤ us.length →
       Br (decide ((↑x_1 : Int) < (↑us.length : Int)))
        (Ob
          ((
           0 : Int) ≤ (↑x_1 : Int) ∧
           (↑x_1 : Int) < (↑(jbi (List.take x_1 us) x ++ List.drop x_1 us).length : Int)) ∧
         Ob
           ((
            ↑x_1 : Int).toNat < (jbi (List.take x_1 us) x ++ List.drop x_1 us).length ∧
            okU ((jbi (List.take x_1 us) x ++ List.drop x_1 us).getD (↑x_1 : Int).toNat []) ∧
             (-32767 : Int) ≤ jbj (List.take x_1 us) x ∧ jbj (List.take x_1 us) x ≤ (32767 : Int)) ∧
          ∃ (x' : Nat),
           Ob (x' ≤ us.length) ∧
            Ob (us.length - x' < us.length - x_1) ∧
             Ob (IntKind.i64.wrap ((↑x_1 : Int) + (1 : Int)) = (↑x' : Int)) ∧
              Ob ((↑us.length : Int) = (↑us.length : Int)) ∧
               Ob
                 (jcM ((jbi (List.take x_1 us) x ++ List.drop x_1 us).getD (↑x_1 : Int).toNat [])
                   (jbj (List.take x_1 us) x) =
                  jbj (List.take x' us) x) ∧
                Ob
                  ((jbi (List.take x_1 us) x ++ List.drop x_1 us).set (↑x_1 : Int).toNat
                    (jfE ((jbi (List.take x_1 us) x ++ List.drop x_1 us).getD (↑x_1 : Int).toNat [])
                     (jbj (List.take x_1 us) x)) =
                   jbi (List.take x' us) x ++ List.drop x' us) ∧
                 True)
        (Ob True ∧
         Ob (jbi (List.take x_1 us) x ++ List.drop x_1 us = jbi us x) ∧
          Ob (jbj (List.take x_1 us) x = jbj us x) ∧ True)) = _) ?_
 obtain ⟨hL, hu, hx0, hx1⟩ := ho
 simp only [Int.toNat_natCast, List.length_append, jbW, List.length_take, List.length_drop, jaV, jbn, decide_eq_true_eq, decide_eq_false_iff_not, true_and, and_true]
 refine ⟨⟨0, by omega, rfl, rfl, by simp [jbi]⟩, fun k h1 => ⟨fun h2 => ?_, fun h2 => ?_⟩⟩
 ·have hk : k < us.length := by omega
  have e1 : (jbi (List.take k us) x ++ List.drop k us).getD k [] = us.getD k [] := by
   rw [List.getD, List.getElem?_append_right (by rw [jbW, List.length_take]; omega), jbW, List.length_take, List.getElem?_drop]
   simp [List.getD, show k + (k - min k us.length) = k by omega]
  have hr := jiE (us.take k) hx0 hx1
  rw [e1]
  have hsn := jjX (us.take k) (us.getD k []) x
  have htk := jdh hk []
  refine ⟨by omega, ⟨by omega, hu _ (by rw [jdu hk]; exact List.getElem_mem _), hr.1, hr.2⟩, k + 1, by omega, by omega, ?_, ?_, ?_⟩
  ·rw [wr (by omega) (by omega)]
   omega
  ·rw [htk, hsn.2]
  ·rw [htk, hsn.1, List.append_assoc]
   rw [List.set_append_right _ _ (by rw [jbW, List.length_take]; omega), jbW, List.length_take]
   congr 1
   have e2 : k - min k us.length = 0 := by omega
   rw [e2, List.drop_eq_getElem_cons hk]
   rfl
 ·have e : k = us.length := by omega
  subst e
  simp
theorem jmZ : jah Tryz.prog 34 false (jhw jfm) := by
 refine jo6 (sp := (jgy 54 jgC sp0)) (fn := Tryz.f34) (body := jai Tryz.f34) mixed (jkx joh jam) Tryz.func34 (by kernel_rfl) (by kernel_rfl) fun c0 ob as_ p ob' rs h hown ho hlt => ?_
 unfold jfm at h
 split at h
 ·rename_i us x
  cases h
  exact ⟨rfl, Nat.le_of_ble_eq_true rfl, _, _, jmY us x ho⟩
 ·cases h
end Go.Sx06
end

section
namespace Go.Sx06
open Go.Sx06u (ja6 ja8 agg5 jcI jb4 jcr)
open Go Go.Proofs Go.RowKit Go.Sx
def us0 (c : List (List Int)) : List (List Int) := jcB c (List.replicate c.length [0, 0, 0, 0]) c.length
def jbX (h : Int) (i : Nat) : Int := if i = 0 then h else 0
def jb1 (us : List (List Int)) (h : Int) : Nat → List (List Int)
 | 0 => us
 | i + 1 => jbi (jb1 us h i) (jbX h i)
def jqX (us : List (List Int)) (h : Int) (i : Nat) : Int := jbj (jb1 us h i) (jbX h i)
def jcC (us : List (List Int)) (h : Int) (n : Nat) : List Int := (List.range n).map (jqX us h)
def jct (c : List (List Int)) (h n : Int) : Int := if chkE c ≠ 0 then chkE c else if (-32767 ≤ h ∧ h ≤ 32767) ∧ 0 ≤ n ∧ n ≤ 1024 then 0 else 2
def impL (c : List (List Int)) (h n : Int) : List Int := if jct c h n = 0 then jcC (us0 c) h n.toNat else []
theorem jpl (us : List (List Int)) (h : Int) (n : Nat) : jcC us h (n + 1) = jcC us h n ++ [jqX us h n] := by simp [jcC, List.range_succ]
theorem jm0 (us : List (List Int)) (h : Int) (n : Nat) : (jcC us h n).length = n := by simp [jcC]
theorem jqY (a b : Int) : (List.find? (fun x => x != 0) [a, b]).getD 0 = if a ≠ 0 then a else b := by
 by_cases ha : a = 0
 ·subst ha
  by_cases hb : b = 0
  ·subst hb; rfl
  ·simp [hb]
 ·simp [ha]
def jky (k : Int) (u : List Int) : Prop := u.length = 10 ∧ (∀ j, j < 5 → -32768 ≤ u.getD j 0 ∧ u.getD j 0 ≤ 32768) ∧ (∀ j, 5 ≤ j → j < 9 → -32767 ≤ u.getD j 0 ∧ u.getD j 0 ≤ 32767) ∧ 0 ≤ u.getD 9 0 ∧ u.getD 9 0 ≤ k
theorem jqq {k : Int} {u : List Int} {x : Int} (h : jky k u) (h1 : -32767 ≤ x) (h2 : x ≤ 32767) : jky (k + 1) (jfE u x) := by
 obtain ⟨hl, hc, hs, h0, h9⟩ := h
 have hr := jdH u x
 refine ⟨rfl, fun j hj => ?_, fun j hj hj2 => ?_, ?_, ?_⟩
 ·match j, hj with
  | 0, _ => exact hc 0 (by decide)
  | 1, _ => exact hc 1 (by decide)
  | 2, _ => exact hc 2 (by decide)
  | 3, _ => exact hc 3 (by decide)
  | 4, _ => exact hc 4 (by decide)
 ·match j, hj, hj2 with
  | 5, _, _ => exact ⟨h1, h2⟩
  | 6, _, _ => exact hs 5 (by decide) (by decide)
  | 7, _, _ => exact hr
  | 8, _, _ => exact hs 7 (by decide) (by decide)
 ·show 0 ≤ u.getD 9 0 + _
  split <;> omega
 ·show u.getD 9 0 + _ ≤ k + 1
  split <;> omega
theorem jk2 : ∀ {us : List (List Int)} {x : Int} {u : List Int}, -32767 ≤ x → x ≤ 32767 → u ∈ jbi us x → ∃ v ∈ us, ∃ y, -32767 ≤ y ∧ y ≤ 32767 ∧ u = jfE v y
 | [], _, _, _, _, h => by cases h
 | v :: us, x, u, h1, h2, h => by
  rcases List.mem_cons.1 h with rfl | h
  ·exact ⟨v, List.mem_cons_self, x, h1, h2, rfl⟩
  ·obtain ⟨v', hv, y, r⟩ := jk2 (jdH v x).1 (jdH v x).2 h
   exact ⟨v', List.mem_cons_of_mem _ hv, y, r⟩
theorem jjY {h : Int} (h1 : -32767 ≤ h) (h2 : h ≤ 32767) (i : Nat) : -32767 ≤ jbX h i ∧ jbX h i ≤ 32767 := by unfold jbX; split <;> omega
theorem jnt {us : List (List Int)} {h : Int} (h1 : -32767 ≤ h) (h2 : h ≤ 32767) (h0 : ∀ u ∈ us, jky 0 u) : ∀ (i : Nat), ∀ u ∈ jb1 us h i, jky (i : Int) u
 | 0, u, hu => h0 u hu
 | i + 1, u, hu => by
  have hr := jjY h1 h2 i
  obtain ⟨v, hv, y, hy1, hy2, rfl⟩ := jk2 hr.1 hr.2 hu
  have := jqq (jnt h1 h2 h0 i v hv) hy1 hy2
  simpa using this
theorem jiF (us : List (List Int)) (h : Int) : ∀ i, (jb1 us h i).length = us.length
 | 0 => rfl
 | i + 1 => by rw [jb1, jbW, jiF us h i]
theorem jqr {k : Int} {u : List Int} (h : jky k u) (hk : k ≤ 1000000000) : okU u := ⟨h.1, h.2.1, h.2.2.1, h.2.2.2.1, Int.le_trans h.2.2.2.2 hk⟩
theorem jic {c : List (List Int)} (h : chkE c = 0) : c.length ≤ 6 ∧ ∀ r ∈ c, jbb r = 0 := by
 unfold chkE at h
 split at h
 ·cases h
 ·rename_i hl
  refine ⟨by omega, fun r hr => ?_⟩
  split at h
  ·rename_i i hi
   rw [List.findIdx?_eq_some_iff_getElem] at hi
   obtain ⟨hi1, hi2, _⟩ := hi
   rw [jdu hi1] at h
   rw [h] at hi2
   cases hi2
  ·rename_i hi
   rw [List.findIdx?_eq_none_iff] at hi
   have := hi r hr
   simpa using this
theorem jjZ {r : List Int} (h : jbb r = 0) : secB (r.getD 0 0) (r.getD 1 0) (r.getD 2 0) (r.getD 3 0) (r.getD 4 0) = true := by
 unfold jbb ja8 at h
 split at h
 ·rename_i h1; exact h1
 ·cases h
theorem jrI {c : List (List Int)} (h : chkE c = 0) : ∀ u ∈ us0 c, jky 0 u := by
 intro u hu
 simp only [us0, jcB, List.mem_map, List.mem_range] at hu
 obtain ⟨i, hi, rfl⟩ := hu
 have hz : (List.replicate c.length [(0 : Int), 0, 0, 0]).getD i [] = [0, 0, 0, 0] := by rw [jdu (by simpa using hi)]; simp
 rw [hz, jdu hi]
 have hs := ji1.1 (jjZ ((jic h).2 _ (List.getElem_mem hi)))
 refine ⟨rfl, fun j hj => ?_, fun j hj hj2 => ?_, Int.le_refl (0 : Int), Int.le_refl (0 : Int)⟩
 ·match j, hj with
  | 0, _ => exact hs.1
  | 1, _ => exact hs.2.1
  | 2, _ => exact hs.2.2.1
  | 3, _ => exact hs.2.2.2.1
  | 4, _ => exact hs.2.2.2.2
 ·match j, hj, hj2 with
  | 5, _, _ => exact ⟨(by decide : (-32767 : Int) ≤ 0), (by decide : (0 : Int) ≤ 32767)⟩
  | 6, _, _ => exact ⟨(by decide : (-32767 : Int) ≤ 0), (by decide : (0 : Int) ≤ 32767)⟩
  | 7, _, _ => exact ⟨(by decide : (-32767 : Int) ≤ 0), (by decide : (0 : Int) ≤ 32767)⟩
  | 8, _, _ => exact ⟨(by decide : (-32767 : Int) ≤ 0), (by decide : (0 : Int) ≤ 32767)⟩
def gImpulse : List A → Option (Prop × List RV)
 | [.r (.recs 5 c), .d (.i .i64 h), .d (.i .i64 n)] => some (c.length ≤ 1000000000, [.row 3 (.ints .i64 (impL c h n)), .d (.i .i64 (jct c h n))])
 | _ => none
theorem joi (c : List (List Int)) (h n : Int) (ho : c.length ≤ 1000000000) : jaI Tryz.f13 (jar 24 gCascadeErr (jar 31 jbV (jar 32 jbo (jar 30 jds (jar 29 gFirst (jar 33 jfl (jgy 34 jfm sp0))))))) (fun _ _ => some ⟨Nat, fun i => ⟨[(31, vi .i64 i), (30, vi .i64 n), (10, .w (.c (.o 4))), (9, .w (.c (.o 3))), (7, vi .i64 0), (1, vi .i64 (jbX h i))], [(3, .row 106 (.recs 10 (jb1 (us0 c) h i))), (4, .row 3 (.ints .i64 (jcC (us0 c) h i)))], 5⟩, fun i => i ≤ n.toNat ∧ jct c h n = 0, fun i => n.toNat - i⟩) 0 [.r (.recs 5 c), .d (.i .i64 h), .d (.i .i64 n)] [.row 3 (.ints .i64 (impL c h n)), .d (.i .i64 (jct c h n))] := by
 refine Eq.mp (by kernel_rfl : (
    Ob (c.length ≤ (1000000000 : Nat)) ∧
     Ob ((-9223372036854775807 : Int) ≤ (32767 : Int) ∧ (32767 : Int) ≤ (9223372036854775807 : Int)) ∧
      Br (decide ((-32767 : Int) ≤ h) && decide (h ≤ (32767 : Int)))
       (Ob True ∧
        Ob True ∧
         Ob
           ([chkE c,
              if (decide ((0 : Int) ≤ n) && decide (n ≤ (1024 : Int))) = true then (0 : Int)
              else (2 : Int)].length ≤
            (1000000 : Nat)) ∧
          Br
           ((List.find? (fun x => x != (0 : Int))
               [chkE c,
                if (decide ((0 : Int) ≤ n) && decide (n ≤ (1024 : Int))) = true then (0 : Int)
                else (2 : Int)]).getD
             (0 : Int) !=
            (0 : Int))
           (Ob True ∧
            Ob True ∧
             Ob ((impL c h n).length = (0 : Nat)) ∧
              Ob
                ((List.find? (fun x => x != (0 : Int))
                    [chkE c,
                     if (decide ((0 : Int) ≤ n) && decide (n ≤ (1024 : Int))) = true then (0 : Int)
                     else (2 : Int)]).getD
                  (0 : Int) =
                 jct c h n) ∧
               True)
           (Ob
             ((
              0 : Int) ≤ (↑c.length : Int) ∧
              (↑c.length : Int) = (↑c.length : Int) ∧
               (↑(32 : Nat) : Int) * (↑c.length : Int) ≤ (281474976710656 : Int) ∧
                (↑c.length : Int) ≤ (9223372036854775807 : Int)) ∧
            Ob
              (c.length ≤
                (List.replicate (↑c.length : Int).toNat [(0 : Int), (0 : Int), (0 : Int), (0 : Int)]).length ∧
               c.length ≤ (1000000 : Nat)) ∧
             (∃ (
               x : Nat),
               Ob (x ≤ n.toNat ∧ jct c h n = (0 : Int)) ∧
                Ob ((0 : Int) = (↑x : Int)) ∧
                 Ob (n = n) ∧
                  Ob ((0 : Int) = (0 : Int)) ∧
                   Ob (h = jbX h x) ∧
                    Ob
                      (jcB c
                        (List.replicate (↑c.length : Int).toNat
                         [(0 : Int), (0 : Int), (0 : Int), (0 : Int)])
                        c.length =
                       jb1 (us0 c) h x) ∧
                     Ob ((jcC (us0 c) h x).length = (0 : Nat)) ∧ True) ∧
              ∀ (x : Nat),
               x ≤ n.toNat ∧ jct c h n = (0 : Int) →
                Br (decide ((↑x : Int) < n))
                 (Ob
                   ((
                    jb1 (us0 c) h x).length ≤ (1000000 : Nat) ∧
                    (∀ (u : List Int), u ∈ jb1 (us0 c) h x → okU u) ∧
                     (-32767 : Int) ≤ jbX h x ∧ jbX h x ≤ (32767 : Int)) ∧
                  Ob
                    (((jcC (us0 c) h x).length + [jbj (jb1 (us0 c) h x) (jbX h x)].length) *
                       (8 : Nat) ≤
                      (140737488355328 : Nat) ∧
                     (jcC (us0 c) h x).length + [jbj (jb1 (us0 c) h x) (jbX h x)].length ≤
                      (9223372036854775807 : Nat)) ∧
                   ∃ (x' : Nat),
                    Ob (x' ≤ n.toNat ∧ jct c h n = (0 : Int)) ∧
                     Ob (n.toNat - x' < n.toNat - x) ∧
                      Ob (IntKind.i64.wrap ((↑x : Int) + (1 : Int)) = (↑x' : Int)) ∧
                       Ob (n = n) ∧
                        Ob ((0 : Int) = (0 : Int)) ∧
                         Ob ((0 : Int) = jbX h x') ∧
                          Ob (jbi (jb1 (us0 c) h x) (jbX h x) = jb1 (us0 c) h x') ∧
                           Ob
                             (jcC (us0 c) h x ++ [jbj (jb1 (us0 c) h x) (jbX h x)] =
                              jcC (us0 c) h x') ∧
                            True)
                 (Ob True ∧
                  Ob True ∧ Ob (jcC (us0 c) h x = impL c h n) ∧ Ob ((0 : Int) = jct c h n) ∧ True)))
       (Ob True ∧
        Ob ([chkE c, if false = true then (0 : Int) else (2 : Int)].length ≤ (1000000 : Nat)) ∧
         Br
          ((List.find? (fun x => x != (0 : Int)) [chkE c, if false = true then (0 : Int) else (2 : Int)]).getD
            (0 : Int) !=
           (0 : Int))
          (Ob True ∧
           Ob True ∧
            Ob ((impL c h n).length = (0 : Nat)) ∧
             Ob
               ((List.find? (fun x => x != (0 : Int))
                   [chkE c, if false = true then (0 : Int) else (2 : Int)]).getD
                 (0 : Int) =
                jct c h n) ∧
              True)
          (Ob
            ((
             0 : Int) ≤ (↑c.length : Int) ∧
             (↑c.length : Int) = (↑c.length : Int) ∧
              (↑(32 : Nat) : Int) * (↑c.length : Int) ≤ (281474976710656 : Int) ∧
               (↑c.length : Int) ≤ (9223372036854775807 : Int)) ∧
           Ob
             (c.length ≤
               (List.replicate (↑c.length : Int).toNat [(0 : Int), (0 : Int), (0 : Int), (0 : Int)]).length ∧
              c.length ≤ (1000000 : Nat)) ∧
            (∃ (
              x : Nat),
              Ob (x ≤ n.toNat ∧ jct c h n = (0 : Int)) ∧
               Ob ((0 : Int) = (↑x : Int)) ∧
                Ob (n = n) ∧
                 Ob ((0 : Int) = (0 : Int)) ∧
                  Ob (h = jbX h x) ∧
                   Ob
                     (jcB c
                       (List.replicate (↑c.length : Int).toNat
                        [(0 : Int), (0 : Int), (0 : Int), (0 : Int)])
                       c.length =
                      jb1 (us0 c) h x) ∧
                    Ob ((jcC (us0 c) h x).length = (0 : Nat)) ∧ True) ∧
             ∀ (x : Nat),
              x ≤ n.toNat ∧ jct c h n = (0 : Int) →
               Br (decide ((↑x : Int) < n))
                (Ob
                  ((
                   jb1 (us0 c) h x).length ≤ (1000000 : Nat) ∧
                   (∀ (u : List Int), u ∈ jb1 (us0 c) h x → okU u) ∧
                    (-32767 : Int) ≤ jbX h x ∧ jbX h x ≤ (32767 : Int)) ∧
                 Ob
                   (((jcC (us0 c) h x).length + [jbj (jb1 (us0 c) h x) (jbX h x)].length) *
                      (8 : Nat) ≤
                     (140737488355328 : Nat) ∧
                    (jcC (us0 c) h x).length + [jbj (jb1 (us0 c) h x) (jbX h x)].length ≤
                     (9223372036854775807 : Nat)) ∧
                  ∃ (x' : Nat),
                   Ob (x' ≤ n.toNat ∧ jct c h n = (0 : Int)) ∧
                    Ob (n.toNat - x' < n.toNat - x) ∧
                     Ob (IntKind.i64.wrap ((↑x : Int) + (1 : Int)) = (↑x' : Int)) ∧
                      Ob (n = n) ∧
                       Ob ((0 : Int) = (0 : Int)) ∧
                        Ob ((0 : Int) = jbX h x') ∧
                         Ob (jbi (jb1 (us0 c) h x) (jbX h x) = jb1 (us0 c) h x') ∧
                          Ob
                            (jcC (us0 c) h x ++ [jbj (jb1 (us0 c) h x) (jbX h x)] =
                             jcC (us0 c) h x') ∧
                           True)
                (Ob True ∧
                 Ob True ∧ Ob (jcC (us0 c) h x = impL c h n) ∧ Ob ((0 : Int) = jct c h n) ∧ True)))) = _) ?_
 simp only [jqY, Int.toNat_natCast, jm0, List.length_replicate, List.length_cons, List.length_nil, jaV, jbn, decide_eq_true_eq, decide_eq_false_iff_not, true_and, and_true, bne_iff_ne, ne_eq, bne_eq_false_iff_eq, Bool.and_eq_true, Bool.false_eq_true, if_false]
 have hbad : (if ¬chkE c = 0 then chkE c else 2) ≠ 0 := by split <;> omega
 have hfacts : jct c h n = 0 → chkE c = 0 ∧ (-32767 ≤ h ∧ h ≤ 32767) ∧ 0 ≤ n ∧ n ≤ 1024 := by
  intro h0
  unfold jct at h0
  split at h0
  ·rename_i h1; exact absurd h0 h1
  ·rename_i h1
   split at h0
   ·rename_i h2; exact ⟨Classical.byContradiction h1, h2⟩
   ·cases h0
 refine ⟨ho, by decide, fun hh => ?_, fun hh => ⟨by decide, fun he => ?_, fun he => absurd he hbad⟩⟩
 ·have e : (if ¬chkE c = 0 then chkE c else if 0 ≤ n ∧ n ≤ 1024 then 0 else 2) = jct c h n := by
   unfold jct
   simp only [hh.1, hh.2, and_self, true_and, ne_eq]
  rw [e]
  refine ⟨by decide, fun he => ⟨by unfold impL; rw [if_neg he]; rfl, rfl⟩, fun he => ?_⟩
  obtain ⟨hc, _, hn⟩ := hfacts he
  have hl := (jic hc).1
  refine ⟨by omega, by omega, ⟨0, ⟨by omega, he⟩, rfl, rfl, rfl, rfl⟩, fun x ⟨h1, _⟩ => ⟨fun h2 => ⟨⟨?_, ?_, jjY hh.1 hh.2 x⟩, by omega, x + 1, ⟨by omega, he⟩, by omega, ?_, ?_, rfl, (jpl (us0 c) h x).symm⟩, fun h2 => ⟨?_, he.symm⟩⟩⟩
  ·rw [jiF, us0, jiD]
   omega
  ·intro u hu
   exact jqr (jnt hh.1 hh.2 (jrI hc) x u hu) (by omega)
  ·rw [wr (by omega) (by omega)]
   omega
  ·unfold jbX
   rw [if_neg (by omega)]
  ·have e : x = n.toNat := by omega
   unfold impL
   rw [if_pos he, e]
 ·have e : (if ¬chkE c = 0 then chkE c else 2) = jct c h n := by
   have hn : ¬ (-32767 ≤ h ∧ h ≤ 32767) := by
    intro hc
    simp [hc.1, hc.2] at hh
   unfold jct
   simp only [hn, false_and, if_false, ne_eq]
  rw [e] at he ⊢
  exact ⟨by unfold impL; rw [if_neg he]; rfl, rfl⟩
theorem impulse_ok : jah Tryz.prog 13 true (jay gImpulse) := by
 refine jaF (sp := (jar 24 gCascadeErr (jar 31 jbV (jar 32 jbo (jar 30 jds (jar 29 gFirst (jar 33 jfl (jgy 34 jfm sp0)))))))) (fn := Tryz.f13) (body := jai Tryz.f13) mixed (jaw cascadeErr_ok (jaw jdX (jaw jcT (jaw jhD (jaw first_ok (jaw jmX (jkx jmZ jam))))))) Tryz.func13 (by kernel_rfl) (by kernel_rfl) fun as_ ob rs h ho => ?_
 unfold gImpulse at h
 split at h
 ·rename_i c h n
  cases h
  exact ⟨Nat.le_of_ble_eq_true rfl, _, _, joi c h n ho⟩
 ·cases h
end Go.Sx06
end

section
namespace Go.Sx06
open Go.Sx06u (ja6 ja8 agg5 jcI jb4 jcr)
open Go Go.Proofs Go.RowKit Go.Sx
def jdI (r : List Int) : Int := jcZ (r.getD 3 0) (r.getD 4 0)
def jj0 (r : List Int) (m : Int) : Int := jdF (r.getD 0 0) (r.getD 1 0) (r.getD 2 0) (r.getD 3 0) (r.getD 4 0) m
def bAt (c : List (List Int)) (m : Int) : Nat → Int
 | 0 => m
 | i + 1 => jj0 (c.getD i []) (bAt c m i)
def cbE (c : List (List Int)) (m : Int) : Int := if chkE c ≠ 0 then chkE c else if ¬ (0 ≤ m ∧ m ≤ 32767) then 2 else if c.any (fun r => decide (jdI r ≤ 0)) = true then 12 else 0
def cbN (c : List (List Int)) (m : Int) : Int := if cbE c m = 0 then bAt c m c.length else 0
theorem jmq {r : List Int} {m : Int} (hr : 0 < jdI r) (h0 : 0 ≤ m) : 0 ≤ jj0 r m ∧ jj0 r m ≤ 32767 := by
 unfold jj0 jdF
 rw [if_neg (by unfold jdI at hr; omega)]
 have h1 : 0 ≤ inS (r.getD 0 0) (r.getD 1 0) (r.getD 2 0) := by unfold inS; omega
 have h2 : 0 ≤ inS (r.getD 0 0) (r.getD 1 0) (r.getD 2 0) * m := Int.mul_nonneg h1 h0
 have h3 : 0 ≤ (inS (r.getD 0 0) (r.getD 1 0) (r.getD 2 0) * m + 8192) / jcZ (r.getD 3 0) (r.getD 4 0) := Int.ediv_nonneg (by omega) (by unfold jdI at hr; omega)
 omega
theorem jk3 {c : List (List Int)} {m : Int} (h0 : 0 ≤ m) (h1 : m ≤ 32767) : ∀ (i : Nat), i ≤ c.length → (∀ r ∈ c.take i, 0 < jdI r) → 0 ≤ bAt c m i ∧ bAt c m i ≤ 32767
 | 0, _, _ => ⟨h0, h1⟩
 | i + 1, hi, hr => by
  have ih := jk3 (c := c) h0 h1 i (by omega) (fun r hr' => hr r (by rw [jdh (show i < c.length by omega) []]; exact List.mem_append.2 (.inl hr')))
  exact jmq (hr (c.getD i []) (by rw [jdh (show i < c.length by omega) []]; exact List.mem_append.2 (.inr (by simp)))) ih.1
def jc9 : List A → Option (Prop × List RV)
 | [.r (.recs 5 c), .d (.i .i64 m)] => some (c.length ≤ 1000000000, [.d (.i .i64 (cbN c m)), .d (.i .i64 (cbE c m))])
 | _ => none
theorem jj1 (c : List (List Int)) (m : Int) (ho : c.length ≤ 1000000000) : jaI Tryz.f36 (jar 24 gCascadeErr (jar 56 jfh (jar 30 jds (jar 29 gFirst (jar 57 jjR sp0))))) (fun _ _ => some ⟨Nat, fun i => ⟨[(22, vi .i64 i), (21, vi .i64 c.length), (20, .w (.c (.o 0))), (1, vi .i64 (bAt c m i))], [(0, .ext (.recs 5 c))], 2⟩, fun i => i ≤ c.length ∧ chkE c = 0 ∧ (0 ≤ m ∧ m ≤ 32767) ∧ ∀ r ∈ c.take i, 0 < jdI r, fun i => c.length - i⟩) 0 [.r (.recs 5 c), .d (.i .i64 m)] [.d (.i .i64 (cbN c m)), .d (.i .i64 (cbE c m))] := by
 refine Eq.mp (by kernel_rfl : (
    Ob (c.length ≤ (1000000000 : Nat)) ∧
     Ob True ∧
      Ob True ∧
       Ob
         ([chkE c,
            if (decide ((0 : Int) ≤ m) && decide (m ≤ (32767 : Int))) = true then (0 : Int)
            else (2 : Int)].length ≤
          (1000000 : Nat)) ∧
        Br
         ((List.find? (fun x => x != (0 : Int))
             [chkE c,
              if (decide ((0 : Int) ≤ m) && decide (m ≤ (32767 : Int))) = true then (0 : Int)
              else (2 : Int)]).getD
           (0 : Int) !=
          (0 : Int))
         (Ob True ∧
          Ob True ∧
           Ob ((0 : Int) = cbN c m) ∧
            Ob
              ((List.find? (fun x => x != (0 : Int))
                  [chkE c,
                   if (decide ((0 : Int) ≤ m) && decide (m ≤ (32767 : Int))) = true then (0 : Int)
                   else (2 : Int)]).getD
                (0 : Int) =
               cbE c m) ∧
             True)
         ((∃ (x : Nat),
           Ob
             (x ≤ c.length ∧
              chkE c = (0 : Int) ∧
               ((
                0 : Int) ≤ m ∧ m ≤ (32767 : Int)) ∧
                ∀ (r : List Int), r ∈ List.take x c → (0 : Int) < jdI r) ∧
            Ob ((0 : Int) = (↑x : Int)) ∧
             Ob ((↑c.length : Int) = (↑c.length : Int)) ∧ Ob (m = bAt c m x) ∧ Ob (c = c) ∧ True) ∧
          ∀ (x : Nat),
           (x ≤ c.length ∧
             chkE c = (0 : Int) ∧
              ((0 : Int) ≤ m ∧ m ≤ (32767 : Int)) ∧ ∀ (r : List Int), r ∈ List.take x c → (0 : Int) < jdI r) →
            Br (decide ((↑x : Int) < (↑c.length : Int)))
             (Ob ((0 : Int) ≤ (↑x : Int) ∧ (↑x : Int) < (↑c.length : Int)) ∧
              Ob ((↑x : Int).toNat < c.length) ∧
               Ob
                 (secB ((c.getD (↑x : Int).toNat []).getD (0 : Nat) (0 : Int))
                    ((c.getD (↑x : Int).toNat []).getD (1 : Nat) (0 : Int))
                    ((c.getD (↑x : Int).toNat []).getD (2 : Nat) (0 : Int))
                    ((c.getD (↑x : Int).toNat []).getD (3 : Nat) (0 : Int))
                    ((c.getD (↑x : Int).toNat []).getD (4 : Nat) (0 : Int)) =
                   true ∧
                  (0 : Int) ≤ bAt c m x ∧ bAt c m x ≤ (32767 : Int)) ∧
                Br
                 (!decide
                   ((
                    0 : Int) <
                    jcZ ((c.getD (↑x : Int).toNat []).getD (3 : Nat) (0 : Int))
                     ((c.getD (↑x : Int).toNat []).getD (4 : Nat) (0 : Int))))
                 (Ob True ∧ Ob True ∧ Ob ((0 : Int) = cbN c m) ∧ Ob ((12 : Int) = cbE c m) ∧ True)
                 (∃ (x' : Nat),
                  Ob
                    (x' ≤ c.length ∧
                     chkE c = (0 : Int) ∧
                      ((
                       0 : Int) ≤ m ∧ m ≤ (32767 : Int)) ∧
                       ∀ (r : List Int), r ∈ List.take x' c → (0 : Int) < jdI r) ∧
                   Ob (c.length - x' < c.length - x) ∧
                    Ob (IntKind.i64.wrap ((↑x : Int) + (1 : Int)) = (↑x' : Int)) ∧
                     Ob ((↑c.length : Int) = (↑c.length : Int)) ∧
                      Ob
                        (jdF ((c.getD (↑x : Int).toNat []).getD (0 : Nat) (0 : Int))
                          ((c.getD (↑x : Int).toNat []).getD (1 : Nat) (0 : Int))
                          ((c.getD (↑x : Int).toNat []).getD (2 : Nat) (0 : Int))
                          ((c.getD (↑x : Int).toNat []).getD (3 : Nat) (0 : Int))
                          ((c.getD (↑x : Int).toNat []).getD (4 : Nat) (0 : Int)) (bAt c m x) =
                         bAt c m x') ∧
                       Ob (c = c) ∧ True))
             (Ob True ∧ Ob True ∧ Ob (bAt c m x = cbN c m) ∧ Ob ((0 : Int) = cbE c m) ∧ True))) = _) ?_
 simp only [jqY, Int.toNat_natCast, List.length_cons, List.length_nil, jaV, jbn, decide_eq_true_eq, decide_eq_false_iff_not, true_and, and_true, bne_iff_ne, ne_eq, bne_eq_false_iff_eq, Bool.and_eq_true, Bool.not_eq_true', Bool.not_eq_false']
 have eE : (if ¬chkE c = 0 then chkE c else if 0 ≤ m ∧ m ≤ 32767 then 0 else 2) ≠ 0 → (if ¬chkE c = 0 then chkE c else if 0 ≤ m ∧ m ≤ 32767 then 0 else 2) = cbE c m := by
  intro h
  unfold cbE
  by_cases h1 : chkE c = 0
  ·by_cases h2 : 0 ≤ m ∧ m ≤ 32767
   ·simp [h1, h2] at h
   ·simp only [h1, h2, not_true_eq_false, not_false_eq_true, if_true, if_false, ne_eq]
  ·simp only [h1, not_false_eq_true, if_true, ne_eq]
 have hN : cbE c m ≠ 0 → cbN c m = 0 := fun h => by unfold cbN; rw [if_neg h]
 refine ⟨ho, by decide, fun h => ⟨(hN (by rw [← eE h]; exact h)).symm, eE h⟩, fun h => ?_⟩
 have hc : chkE c = 0 := by
  apply Classical.byContradiction
  intro h1
  rw [if_pos h1] at h
  exact h1 h
 have hm : 0 ≤ m ∧ m ≤ 32767 := by
  apply Classical.byContradiction
  intro h1
  rw [if_neg (fun h2 => h2 hc), if_neg h1] at h
  cases h
 have hcb : cbE c m = if c.any (fun r => decide (jdI r ≤ 0)) = true then 12 else 0 := by
  unfold cbE
  rw [if_neg (fun h2 => h2 hc), if_neg (fun h2 => h2 hm)]
 refine ⟨⟨0, ⟨by omega, hc, hm, fun r hr => by simp at hr⟩, rfl, rfl⟩, fun x ⟨h1, _, _, h2⟩ => ⟨fun h3 => ?_, fun h3 => ?_⟩⟩
 ·have hx : x < c.length := by omega
  have hb := jk3 hm.1 hm.2 x (by omega) h2
  have hg := jdu (d := ([] : List Int)) hx
  refine ⟨by omega, hx, ⟨jjZ ((jic hc).2 _ (by rw [hg]; exact List.getElem_mem hx)), hb⟩, fun h4 => ?_, fun h4 => ⟨x + 1, ⟨by omega, hc, hm, jk1 h2 hx (by rw [← hg]; exact h4)⟩, by omega, ?_, rfl⟩⟩
  ·have e : cbE c m = 12 := by
    rw [hcb, if_pos]
    exact List.any_eq_true.2 ⟨c[x], List.getElem_mem hx, by rw [← hg]; exact decide_eq_true (by unfold jdI; omega)⟩
   exact ⟨(hN (by rw [e]; decide)).symm, e.symm⟩
  ·rw [wr (by omega) (by omega)]
   omega
 ·have e : x = c.length := by omega
  rw [e, List.take_length] at h2
  have e2 : cbE c m = 0 := by
   rw [hcb, if_neg]
   intro h4
   obtain ⟨r, hr, h5⟩ := List.any_eq_true.1 h4
   have := h2 r hr
   simp at h5
   omega
  refine ⟨?_, e2.symm⟩
  unfold cbN
  rw [if_pos e2, e]
theorem jj2 : jah Tryz.prog 36 true (jay jc9) := by
 refine jaF (sp := (jar 24 gCascadeErr (jar 56 jfh (jar 30 jds (jar 29 gFirst (jar 57 jjR sp0)))))) (fn := Tryz.f36) (body := jai Tryz.f36) mixed (jaw cascadeErr_ok (jaw jmT (jaw jhD (jaw first_ok (jaw jqi jam))))) Tryz.func36 (by kernel_rfl) (by kernel_rfl) fun as_ ob rs h ho => ?_
 unfold jc9 at h
 split at h
 ·rename_i c m
  cases h
  exact ⟨Nat.le_of_ble_eq_true rfl, _, _, jj1 c m ho⟩
 ·cases h
def gBoundOf : List A → Option (Prop × List RV)
 | [.s [.i .i64 b0, .i .i64 b1, .i .i64 b2, .i .i64 a0, .i .i64 a1], .d (.i .i64 m)] => some (True, [.d (.i .i64 (cbN [[b0, b1, b2, a0, a1]] m)), .d (.i .i64 (cbE [[b0, b1, b2, a0, a1]] m))])
 | _ => none
theorem joj (b0 b1 b2 a0 a1 m : Int) : jaI Tryz.f15 (jar 35 jbJ (jar 36 jc9 sp0)) (fun _ _ => none) 0 [.s [.i .i64 b0, .i .i64 b1, .i .i64 b2, .i .i64 a0, .i .i64 a1], .d (.i .i64 m)] [.d (.i .i64 (cbN [[b0, b1, b2, a0, a1]] m)), .d (.i .i64 (cbE [[b0, b1, b2, a0, a1]] m))] := by
 refine Eq.mp (by kernel_rfl : (
    Ob True ∧
     Br (ja8 b0 b1 b2 a0 a1 != (0 : Int))
      (Ob True ∧
       Ob True ∧
        Ob ((0 : Int) = cbN [[b0, b1, b2, a0, a1]] m) ∧
         Ob (ja8 b0 b1 b2 a0 a1 = cbE [[b0, b1, b2, a0, a1]] m) ∧ True)
      (Ob ([[b0, b1, b2, a0, a1]].length ≤ (1000000000 : Nat)) ∧
       Ob True ∧
        Ob True ∧
         Ob (cbN [[b0, b1, b2, a0, a1]] m = cbN [[b0, b1, b2, a0, a1]] m) ∧
          Ob (cbE [[b0, b1, b2, a0, a1]] m = cbE [[b0, b1, b2, a0, a1]] m) ∧ True)) = _) ?_
 simp only [jaV, jbn, true_and, and_true]
 have e1 : chkE [[b0, b1, b2, a0, a1]] = ja8 b0 b1 b2 a0 a1 := by
  have e : jbb [b0, b1, b2, a0, a1] = ja8 b0 b1 b2 a0 a1 := rfl
  unfold chkE
  rw [if_neg (by simp)]
  by_cases h : ja8 b0 b1 b2 a0 a1 = 0
  ·simp [e, h, List.findIdx?_cons]
  ·simp [e, h, List.findIdx?_cons]
 refine ⟨fun h => ?_, fun _ => by simp⟩
 have h : ja8 b0 b1 b2 a0 a1 ≠ 0 := by simpa using h
 have e2 : cbE [[b0, b1, b2, a0, a1]] m = ja8 b0 b1 b2 a0 a1 := by
  unfold cbE
  rw [e1, if_pos h]
 refine ⟨?_, e2.symm⟩
 unfold cbN
 rw [if_neg (by rw [e2]; exact h)]
theorem boundOf_ok : jah Tryz.prog 15 true (jay gBoundOf) := by
 refine jaF (sp := (jar 35 jbJ (jar 36 jc9 sp0))) (fn := Tryz.f15) (body := jai Tryz.f15) mixed (jaw jfi (jaw jj2 jam)) Tryz.func15 (by kernel_rfl) (by kernel_rfl) fun as_ ob rs h ho => ?_
 unfold gBoundOf at h
 split at h
 ·rename_i b0 b1 b2 a0 a1 m
  cases h
  exact ⟨Nat.le_of_ble_eq_true rfl, _, _, joj b0 b1 b2 a0 a1 m⟩
 ·cases h
end Go.Sx06
end

section
namespace Go.Sx06
open Go.Sx06u (ja6 ja8 agg5 jcI jb4 jcr)
open Go Go.Proofs Go.RowKit Go.Sx
def gBWithin : List A → Option (Prop × List RV)
 | [.d (.i .i64 n), .d (.i .i64 lo), .d (.i .i64 hi)] => some (True, [.d (.b (decide (lo ≤ n) && decide (n ≤ hi)))])
 | _ => none
theorem jok (n lo hi : Int) : jaI Tryz.f53 sp0 (fun _ _ => none) 0 [.d (.i .i64 n), .d (.i .i64 lo), .d (.i .i64 hi)] [.d (.b (decide (lo ≤ n) && decide (n ≤ hi)))] := by
 refine Eq.mp (by kernel_rfl : (
    Br (decide (lo ≤ n)) (Ob True ∧ Ob (decide (n ≤ hi) = (decide (lo ≤ n) && decide (n ≤ hi))) ∧ True)
     (Ob True ∧ Ob (false = (decide (lo ≤ n) && decide (n ≤ hi))) ∧ True)) = _) ?_
 simp only [jbn, jaV]
 exact ⟨fun h => by simp [h], fun h => by simp [h]⟩
theorem bWithin_ok : jah Tryz.prog 53 true (jay gBWithin) := by
 refine jaF (sp := sp0) (fn := Tryz.f53) (body := jai Tryz.f53) mixed jam Tryz.func53 (by kernel_rfl) (by kernel_rfl) fun as_ ob rs h ho => ?_
 unfold gBWithin at h
 split at h
 ·rename_i n lo hi
  cases h
  exact ⟨Nat.le_of_ble_eq_true rfl, _, _, jok n lo hi⟩
 ·cases h
def gBSize : List A → Option (Prop × List RV)
 | [.d (.i .i64 n)] => some (-9223372036854775807 ≤ n ∧ n ≤ 9223372036854775807, [.d (.i .i64 (max n (-n)))])
 | _ => none
theorem jqs (n : Int) (ho : -9223372036854775807 ≤ n ∧ n ≤ 9223372036854775807) : jaI Tryz.f52 sp0 (fun _ _ => none) 0 [.d (.i .i64 n)] [.d (.i .i64 (max n (-n)))] := by
 refine Eq.mp (by kernel_rfl : (
    Ob True ∧
     Ob ((if IntKind.i64.wrap ((0 : Int) - n) > n then IntKind.i64.wrap ((0 : Int) - n) else n) = max n (-n)) ∧ True) = _) ?_
 simp only [jaV]
 refine ⟨trivial, ?_, trivial⟩
 rw [IntWalk.i64_in _ (by omega)]
 split <;> omega
theorem bSize_ok : jah Tryz.prog 52 true (jay gBSize) := by
 refine jaF (sp := sp0) (fn := Tryz.f52) (body := jai Tryz.f52) mixed jam Tryz.func52 (by kernel_rfl) (by kernel_rfl) fun as_ ob rs h ho => ?_
 unfold gBSize at h
 split at h
 ·rename_i n
  cases h
  exact ⟨Nat.le_of_ble_eq_true rfl, _, _, jqs n ho⟩
 ·cases h
def gInts : List A → Option (Prop × List RV)
 | [.r (.ints .i64 a), .r (.ints .i64 b)] => some (a.length ≤ 1000000000, [.d (.b (decide (a = b)))])
 | _ => none
theorem jrl (a b : List Int) (ho : a.length ≤ 1000000000) : jaI Tryz.f18 sp0 (fun _ _ => some ⟨Nat, fun i => ⟨[(5, vi .i64 i), (4, vb false), (0, .w (.c (.o 0))), (1, .w (.c (.o 1)))], [(0, .ext (.ints .i64 a)), (1, .ext (.ints .i64 b))], 2⟩, fun i => i ≤ a.length ∧ a.length = b.length ∧ a.take i = b.take i, fun i => a.length - i⟩) 0 [.r (.ints .i64 a), .r (.ints .i64 b)] [.d (.b (decide (a = b)))] := by
 refine Eq.mp (by kernel_rfl : (
    Br ((↑a.length : Int) != (↑b.length : Int)) (Ob True ∧ Ob (false = decide (a = b)) ∧ True)
     ((∃ (x : Nat),
       Ob (x ≤ a.length ∧ a.length = b.length ∧ List.take x a = List.take x b) ∧
        Ob ((0 : Int) = (↑x : Int)) ∧ Ob (false = false) ∧ Ob (a = a) ∧ Ob (b = b) ∧ True) ∧
      ∀ (x : Nat),
       x ≤ a.length ∧ a.length = b.length ∧ List.take x a = List.take x b →
        Br (decide ((↑x : Int) < (↑a.length : Int)))
         (Ob ((0 : Int) ≤ (↑x : Int) ∧ (↑x : Int) < (↑a.length : Int)) ∧
          Ob ((↑x : Int).toNat < a.length) ∧
           Ob ((0 : Int) ≤ (↑x : Int) ∧ (↑x : Int) < (↑b.length : Int)) ∧
            Ob ((↑x : Int).toNat < b.length) ∧
             Br (a.getD (↑x : Int).toNat (0 : Int) != b.getD (↑x : Int).toNat (0 : Int))
              (Ob True ∧ Ob (false = decide (a = b)) ∧ True)
              (∃ (x' : Nat),
               Ob (x' ≤ a.length ∧ a.length = b.length ∧ List.take x' a = List.take x' b) ∧
                Ob (a.length - x' < a.length - x) ∧
                 Ob (IntKind.i64.wrap ((↑x : Int) + (1 : Int)) = (↑x' : Int)) ∧
                  Ob (false = false) ∧ Ob (a = a) ∧ Ob (b = b) ∧ True))
         (Ob True ∧ Ob (true = decide (a = b)) ∧ True))) = _) ?_
 simp only [jaV, jbn, decide_eq_true_eq, decide_eq_false_iff_not, true_and, and_true, Int.toNat_natCast]
 refine ⟨fun h => ?_, fun h => ?_⟩
 ·symm
  apply decide_eq_false
  intro e
  subst e
  simp at h
 ·have hl : a.length = b.length := by
   simp at h
   omega
  refine ⟨⟨0, ⟨by omega, hl, rfl⟩, rfl⟩, fun x ⟨h1, _, h2⟩ => ⟨fun h3 => ?_, fun h3 => ?_⟩⟩
  ·have hx : x < a.length := by omega
   refine ⟨by omega, hx, by omega, by omega, fun h4 => ?_, fun h4 => ⟨x + 1, ⟨by omega, hl, ?_⟩, by omega, ?_⟩⟩
   ·symm
    apply decide_eq_false
    intro e
    subst e
    simp at h4
   ·rw [jdh hx 0, jdh (show x < b.length by omega) 0, h2]
    have : a.getD x 0 = b.getD x 0 := by simpa using h4
    rw [this]
   ·rw [wr (by omega) (by omega)]
    omega
  ·have e : x = a.length := by omega
   rw [e, List.take_length, hl, List.take_length] at h2
   symm
   exact decide_eq_true h2
theorem ints_ok : jah Tryz.prog 18 true (jay gInts) := by
 refine jaF (sp := sp0) (fn := Tryz.f18) (body := jai Tryz.f18) mixed jam Tryz.func18 (by kernel_rfl) (by kernel_rfl) fun as_ ob rs h ho => ?_
 unfold gInts at h
 split at h
 ·rename_i a b
  cases h
  exact ⟨Nat.le_of_ble_eq_true rfl, _, _, jrl a b ho⟩
 ·cases h
end Go.Sx06
end

section
namespace Go.Sx06
open Go.Sx06u (ja6 ja8 agg5 jcI jb4 jcr)
open Go Go.Proofs Go.RowKit Go.Sx
def turnE (p q r : Int) : Int := if ¬ (1 ≤ r ∧ r ≤ 100) then 2 else if (-r ≤ p ∧ p ≤ r) ∧ (-r ≤ q ∧ q ≤ r) ∧ p * p + q * q = r * r then 0 else 10
def reS (a b c p q r : Int) : Int := a * (p * p - q * q) + b * r * p + c * r * r
def imS (a b p q r : Int) : Int := 2 * a * p * q + b * r * q
def sqS (a b c p q r : Int) : Int := reS a b c p q r * reS a b c p q r + imS a b p q r * imS a b p q r
def gTurnErr : List A → Option (Prop × List RV)
 | [.s [.i .i64 p, .i .i64 q, .i .i64 r]] => some (True, [.d (.i .i64 (turnE p q r))])
 | _ => none
theorem jol (p q r : Int) : jaI Tryz.f40 (jar 32 jbo (jar 31 jbV (jar 30 jds sp0))) (fun _ _ => none) 0 [.s [.i .i64 p, .i .i64 q, .i .i64 r]] [.d (.i .i64 (turnE p q r))] := by
 refine Eq.mp (by kernel_rfl : (
    Ob True ∧
     Br (!(decide ((1 : Int) ≤ r) && decide (r ≤ (100 : Int)))) (Ob True ∧ Ob ((2 : Int) = turnE p q r) ∧ True)
      (Ob ((-9223372036854775807 : Int) ≤ r ∧ r ≤ (9223372036854775807 : Int)) ∧
       Br (decide (-r ≤ p) && decide (p ≤ r))
        (Ob ((-9223372036854775807 : Int) ≤ r ∧ r ≤ (9223372036854775807 : Int)) ∧
         Br (decide (-r ≤ q) && decide (q ≤ r))
          (Ob True ∧
           Ob True ∧
            Ob
              ((if
                 (IntKind.i64.wrap (IntKind.i64.wrap (p * p) + IntKind.i64.wrap (q * q)) ==
                   IntKind.i64.wrap (r * r)) =
                  true then
                (0 : Int)
               else (10 : Int)) =
               turnE p q r) ∧
             True)
          (Ob True ∧ Ob True ∧ Ob ((if false = true then (0 : Int) else (10 : Int)) = turnE p q r) ∧ True))
        (Ob True ∧ Ob True ∧ Ob ((if false = true then (0 : Int) else (10 : Int)) = turnE p q r) ∧ True))) = _) ?_
 simp only [jaV, jbn, decide_eq_true_eq, true_and, and_true, Bool.and_eq_true, Bool.not_eq_true']
 have hr : (decide (1 ≤ r) && decide (r ≤ 100)) = true ↔ 1 ≤ r ∧ r ≤ 100 := by simp
 refine ⟨fun h => ?_, fun h => ?_⟩
 ·unfold turnE
  rw [if_pos (fun hc => by rw [hr.2 hc] at h; cases h)]
 ·have h0 : 1 ≤ r ∧ r ≤ 100 := by simpa using h
  have hT : turnE p q r = if (-r ≤ p ∧ p ≤ r) ∧ (-r ≤ q ∧ q ≤ r) ∧ p * p + q * q = r * r then 0 else 10 := by
   unfold turnE
   rw [if_neg (fun hc => hc h0)]
  refine ⟨by omega, fun hp => ⟨by omega, fun hq => ?_, fun hq => ?_⟩, fun hp => ?_⟩
  ·have m1 := jcs (x := p) (y := p) (a := 100) (b := 100) (by decide) (by decide) (by omega) (by omega)
   have m2 := jcs (x := q) (y := q) (a := 100) (b := 100) (by decide) (by decide) (by omega) (by omega)
   have m3 := jcs (x := r) (y := r) (a := 100) (b := 100) (by decide) (by decide) (by omega) (by omega)
   rw [wr (n := p * p) (by omega) (by omega), wr (n := q * q) (by omega) (by omega), wr (n := r * r) (by omega) (by omega), wr (by omega) (by omega), hT]
   simp only [beq_iff_eq, hp, hq, and_self, true_and]
  ·rw [hT, if_neg (show ¬ (false = true) by decide), if_neg (fun hc => by simp [hc.2.1.1, hc.2.1.2] at hq)]
  ·rw [hT, if_neg (show ¬ (false = true) by decide), if_neg (fun hc => by simp [hc.1.1, hc.1.2] at hp)]
theorem turnErr_ok : jah Tryz.prog 40 true (jay gTurnErr) := by
 refine jaF (sp := (jar 32 jbo (jar 31 jbV (jar 30 jds sp0)))) (fn := Tryz.f40) (body := jai Tryz.f40) mixed (jaw jcT (jaw jdX (jaw jhD jam))) Tryz.func40 (by kernel_rfl) (by kernel_rfl) fun as_ ob rs h ho => ?_
 unfold gTurnErr at h
 split at h
 ·rename_i p q r
  cases h
  exact ⟨Nat.le_of_ble_eq_true rfl, _, _, jol p q r⟩
 ·cases h
def jid : List A → Option (Prop × List RV)
 | [.d (.i .i64 a), .d (.i .i64 b), .d (.i .i64 c), .s [.i .i64 p, .i .i64 q, .i .i64 r]] => some ((-32768 ≤ a ∧ a ≤ 32768) ∧ (-32768 ≤ b ∧ b ≤ 32768) ∧ (-32768 ≤ c ∧ c ≤ 32768) ∧ (-100 ≤ p ∧ p ≤ 100) ∧ (-100 ≤ q ∧ q ≤ 100) ∧ (-100 ≤ r ∧ r ≤ 100), [.d (.i .i64 (sqS a b c p q r))])
 | _ => none
theorem jpm (a b c p q r : Int) (ho : (-32768 ≤ a ∧ a ≤ 32768) ∧ (-32768 ≤ b ∧ b ≤ 32768) ∧ (-32768 ≤ c ∧ c ≤ 32768) ∧ (-100 ≤ p ∧ p ≤ 100) ∧ (-100 ≤ q ∧ q ≤ 100) ∧ (-100 ≤ r ∧ r ≤ 100)) : jaI Tryz.f61 sp0 (fun _ _ => none) 0 [.d (.i .i64 a), .d (.i .i64 b), .d (.i .i64 c), .s [.i .i64 p, .i .i64 q, .i .i64 r]] [.d (.i .i64 (sqS a b c p q r))] := by
 refine Eq.mp (by kernel_rfl : (
    Ob True ∧
     Ob
       (IntKind.i64.wrap
         (IntKind.i64.wrap
           (IntKind.i64.wrap
             (IntKind.i64.wrap
               (IntKind.i64.wrap (a * IntKind.i64.wrap (IntKind.i64.wrap (p * p) - IntKind.i64.wrap (q * q))) +
                IntKind.i64.wrap (IntKind.i64.wrap (b * r) * p)) +
              IntKind.i64.wrap (IntKind.i64.wrap (c * r) * r)) *
            IntKind.i64.wrap
             (IntKind.i64.wrap
               (IntKind.i64.wrap (a * IntKind.i64.wrap (IntKind.i64.wrap (p * p) - IntKind.i64.wrap (q * q))) +
                IntKind.i64.wrap (IntKind.i64.wrap (b * r) * p)) +
              IntKind.i64.wrap (IntKind.i64.wrap (c * r) * r))) +
          IntKind.i64.wrap
           (IntKind.i64.wrap
             (IntKind.i64.wrap (IntKind.i64.wrap (IntKind.i64.wrap ((2 : Int) * a) * p) * q) +
              IntKind.i64.wrap (IntKind.i64.wrap (b * r) * q)) *
            IntKind.i64.wrap
             (IntKind.i64.wrap (IntKind.i64.wrap (IntKind.i64.wrap ((2 : Int) * a) * p) * q) +
              IntKind.i64.wrap (IntKind.i64.wrap (b * r) * q)))) =
        sqS a b c p q r) ∧
      True) = _) ?_
 obtain ⟨ha, hb, hc, hp, hq, hr⟩ := ho
 have pp := jcs (x := p) (y := p) (a := 100) (b := 100) (by decide) (by decide) hp hp
 have qq := jcs (x := q) (y := q) (a := 100) (b := 100) (by decide) (by decide) hq hq
 have apq := jcs (x := a) (y := p * p - q * q) (a := 32768) (b := 20000) (by decide) (by decide) ha (by omega)
 have br := jcs (x := b) (y := r) (a := 32768) (b := 100) (by decide) (by decide) hb hr
 have brp := jcs (x := b * r) (y := p) (a := 3276800) (b := 100) (by decide) (by decide) (by omega) hp
 have brq := jcs (x := b * r) (y := q) (a := 3276800) (b := 100) (by decide) (by decide) (by omega) hq
 have cr := jcs (x := c) (y := r) (a := 32768) (b := 100) (by decide) (by decide) hc hr
 have crr := jcs (x := c * r) (y := r) (a := 3276800) (b := 100) (by decide) (by decide) (by omega) hr
 have ap := jcs (x := 2 * a) (y := p) (a := 65536) (b := 100) (by decide) (by decide) (by omega) hp
 have apq2 := jcs (x := 2 * a * p) (y := q) (a := 6553600) (b := 100) (by decide) (by decide) (by omega) hq
 have eR : IntKind.i64.wrap (IntKind.i64.wrap (IntKind.i64.wrap (a * IntKind.i64.wrap (IntKind.i64.wrap (p * p) - IntKind.i64.wrap (q * q))) + IntKind.i64.wrap (IntKind.i64.wrap (b * r) * p)) + IntKind.i64.wrap (IntKind.i64.wrap (c * r) * r)) = reS a b c p q r := by
  unfold reS
  rw [wr (n := p * p) (by omega) (by omega), wr (n := q * q) (by omega) (by omega), wr (n := p * p - q * q) (by omega) (by omega), wr (n := b * r) (by omega) (by omega), wr (n := c * r) (by omega) (by omega)]
  rw [wr (n := a * (p * p - q * q)) (by omega) (by omega), wr (n := b * r * p) (by omega) (by omega), wr (n := c * r * r) (by omega) (by omega)]
  rw [wr (n := a * (p * p - q * q) + b * r * p) (by omega) (by omega), wr (by omega) (by omega)]
 have eI : IntKind.i64.wrap (IntKind.i64.wrap (IntKind.i64.wrap (IntKind.i64.wrap (2 * a) * p) * q) + IntKind.i64.wrap (IntKind.i64.wrap (b * r) * q)) = imS a b p q r := by
  unfold imS
  rw [wr (n := 2 * a) (by omega) (by omega), wr (n := b * r) (by omega) (by omega)]
  rw [wr (n := 2 * a * p) (by omega) (by omega), wr (n := b * r * q) (by omega) (by omega)]
  rw [wr (n := 2 * a * p * q) (by omega) (by omega), wr (by omega) (by omega)]
 have bR : -1500000000 ≤ reS a b c p q r ∧ reS a b c p q r ≤ 1500000000 := by unfold reS; omega
 have bI : -1500000000 ≤ imS a b p q r ∧ imS a b p q r ≤ 1500000000 := by unfold imS; omega
 have sR := jcs (by decide) (by decide) bR bR
 have sI := jcs (by decide) (by decide) bI bI
 simp only [eR, eI, jaV, true_and, and_true]
 rw [wr (n := reS a b c p q r * reS a b c p q r) (by omega) (by omega), wr (n := imS a b p q r * imS a b p q r) (by omega) (by omega), wr (by omega) (by omega)]
 rfl
theorem jpn : jah Tryz.prog 61 true (jay jid) := by
 refine jaF (sp := sp0) (fn := Tryz.f61) (body := jai Tryz.f61) mixed jam Tryz.func61 (by kernel_rfl) (by kernel_rfl) fun as_ ob rs h ho => ?_
 unfold jid at h
 split at h
 ·rename_i a b c p q r
  cases h
  exact ⟨Nat.le_of_ble_eq_true rfl, _, _, jpm a b c p q r ho⟩
 ·cases h
def gGain : List A → Option (Prop × List RV)
 | [.s [.i .i64 b0, .i .i64 b1, .i .i64 b2, .i .i64 a0, .i .i64 a1], .s [.i .i64 p, .i .i64 q, .i .i64 r]] => some (secB b0 b1 b2 a0 a1 = true ∧ (-100 ≤ p ∧ p ≤ 100) ∧ (-100 ≤ q ∧ q ≤ 100) ∧ (-100 ≤ r ∧ r ≤ 100), [.d (.i .i64 (sqS b0 b1 b2 p q r)), .d (.i .i64 (sqS 16384 a0 a1 p q r))])
 | _ => none
theorem jrm (b0 b1 b2 a0 a1 p q r : Int) (ho : secB b0 b1 b2 a0 a1 = true ∧ (-100 ≤ p ∧ p ≤ 100) ∧ (-100 ≤ q ∧ q ≤ 100) ∧ (-100 ≤ r ∧ r ≤ 100)) : jaI Tryz.f41 (jar 61 jid sp0) (fun _ _ => none) 0 [.s [.i .i64 b0, .i .i64 b1, .i .i64 b2, .i .i64 a0, .i .i64 a1], .s [.i .i64 p, .i .i64 q, .i .i64 r]] [.d (.i .i64 (sqS b0 b1 b2 p q r)), .d (.i .i64 (sqS 16384 a0 a1 p q r))] := by
 refine Eq.mp (by kernel_rfl : (
    Ob ((0 : Int) ≤ (0 : Int) ∧ (0 : Int) < (↑(3 : Nat) : Int)) ∧
     Ob ((0 : Int) ≤ (1 : Int) ∧ (1 : Int) < (↑(3 : Nat) : Int)) ∧
      Ob ((0 : Int) ≤ (2 : Int) ∧ (2 : Int) < (↑(3 : Nat) : Int)) ∧
       Ob
         ((
          (-32768 : Int) ≤ b0 ∧ b0 ≤ (32768 : Int)) ∧
          ((
           -32768 : Int) ≤ b1 ∧ b1 ≤ (32768 : Int)) ∧
           ((
            -32768 : Int) ≤ b2 ∧ b2 ≤ (32768 : Int)) ∧
            ((
             -100 : Int) ≤ p ∧ p ≤ (100 : Int)) ∧
             ((-100 : Int) ≤ q ∧ q ≤ (100 : Int)) ∧ (-100 : Int) ≤ r ∧ r ≤ (100 : Int)) ∧
        Ob ((0 : Int) ≤ (0 : Int) ∧ (0 : Int) < (↑(2 : Nat) : Int)) ∧
         Ob ((0 : Int) ≤ (1 : Int) ∧ (1 : Int) < (↑(2 : Nat) : Int)) ∧
          Ob
            ((
             (-32768 : Int) ≤ (16384 : Int) ∧ (16384 : Int) ≤ (32768 : Int)) ∧
             ((
              -32768 : Int) ≤ a0 ∧ a0 ≤ (32768 : Int)) ∧
              ((
               -32768 : Int) ≤ a1 ∧ a1 ≤ (32768 : Int)) ∧
               ((
                -100 : Int) ≤ p ∧ p ≤ (100 : Int)) ∧
                ((-100 : Int) ≤ q ∧ q ≤ (100 : Int)) ∧ (-100 : Int) ≤ r ∧ r ≤ (100 : Int)) ∧
           Ob True ∧
            Ob True ∧
             Ob (sqS b0 b1 b2 p q r = sqS b0 b1 b2 p q r) ∧
              Ob (sqS (16384 : Int) a0 a1 p q r = sqS (16384 : Int) a0 a1 p q r) ∧ True) = _) ?_
 obtain ⟨hs, hp, hq, hr⟩ := ho
 have h := ji1.1 hs
 simp only [jaV, and_true]
 omega
theorem gain_ok : jah Tryz.prog 41 true (jay gGain) := by
 refine jaF (sp := (jar 61 jid sp0)) (fn := Tryz.f41) (body := jai Tryz.f41) mixed (jaw jpn jam) Tryz.func41 (by kernel_rfl) (by kernel_rfl) fun as_ ob rs h ho => ?_
 unfold gGain at h
 split at h
 ·rename_i b0 b1 b2 a0 a1 p q r
  cases h
  exact ⟨Nat.le_of_ble_eq_true rfl, _, _, jrm b0 b1 b2 a0 a1 p q r ho⟩
 ·cases h
end Go.Sx06
end

section
namespace Go.Sx
class TC (R : Type) where
 c : R → R → Prop
 refl : ∀ a, c a a
instance (priority := low) instTC {α : Type} : TC α := ⟨fun a r => Ob (a = r) ∧ True, fun _ => ⟨⟨rfl⟩, trivial⟩⟩
instance instTCProd {α β : Type} [i : TC β] : TC (α × β) := ⟨fun a r => Ob (a.1 = r.1) ∧ i.c a.2 r.2, fun a => ⟨⟨rfl⟩, i.refl a.2⟩⟩
inductive T (R : Type) : Type 1 where
 | brP (c : Prop) [d : Decidable c] (x y : T R)
 | brB (b : Bool) (x y : T R)
 | obP (c : Prop) [d : Decidable c] (x : T R)
 | obT (x : T R)
 | obC (c : Prop) (h : c) (x : T R)
 | call {A : Type} [i : Inhabited A] (e : Option A) (x : A → T R)
 | ret (a : R) (P : R → Prop) (h : P a)
 | rc [i : TC R] (a : R)
 | bad (Q : R → Prop)
def T.run {R : Type} : T R → Option R
 | @T.brP _ c d x y => @ite _ c d x.run y.run
 | .brB b x y => if b = true then x.run else y.run
 | @T.obP _ c d x => @ite _ c d x.run none
 | .obT x => x.run
 | .obC _ _ x => x.run
 | @T.call _ _ _ e x => Option.bind e fun a => (x a).run
 | .ret a _ _ => some a
 | @T.rc _ _ a => some a
 | .bad _ => none
def T.cond {R : Type} : T R → R → Prop
 | @T.brP _ c d x y, r => Br (@decide c d) (x.cond r) (y.cond r)
 | .brB b x y, r => Br b (x.cond r) (y.cond r)
 | @T.obP _ c _ x, r => Ob c ∧ x.cond r
 | .obT x, r => Ob True ∧ x.cond r
 | .obC c _ x, r => Ob c ∧ x.cond r
 | @T.call _ _ i e x, r => Ob (ok e) ∧ (x (@val _ i e)).cond r
 | .ret _ P _, r => P r
 | @T.rc _ i a, r => i.c a r
 | .bad Q, r => Q r
theorem T.sound {R : Type} : ∀ (t : T R) {r : R}, t.run = some r → t.cond r
 | @T.brP _ c d x y, r, h => by
  simp only [T.run] at h
  simp only [T.cond]
  by_cases hc : c
  ·rw [if_pos hc] at h; rw [decide_eq_true hc]; exact T.sound x h
  ·rw [if_neg hc] at h; rw [decide_eq_false hc]; exact T.sound y h
 | .brB b x y, r, h => by
  simp only [T.run] at h
  simp only [T.cond]
  cases b
  ·exact T.sound y h
  ·exact T.sound x h
 | @T.obP _ c d x, r, h => by
  simp only [T.run] at h
  by_cases hc : c
  ·rw [if_pos hc] at h; exact ⟨⟨hc⟩, T.sound x h⟩
  ·rw [if_neg hc] at h; cases h
 | .obT x, r, h => ⟨⟨trivial⟩, T.sound x h⟩
 | .obC c hc x, r, h => ⟨⟨hc⟩, T.sound x h⟩
 | @T.call _ _ i e x, r, h => by
  simp only [T.run] at h
  cases e with
  | none => cases h
  | some a => exact ⟨⟨rfl⟩, T.sound (x a) h⟩
 | .ret a P hP, r, h => by
  cases h
  exact hP
 | @T.rc _ i a, r, h => by
  cases h
  exact i.refl a
 | .bad _, r, h => by cases h
theorem T.vc {R : Type} {t : T R} {m : Option R} {r : R} {p : Prop} (hm : t.run = m) (hp : t.cond r = p) (h : Option.bind m some = some r) : p := by
 have h1 : m = some r := by cases m with
  | none => cases h
  | some a => exact h
 rw [← hp]
 exact T.sound t (hm.trans h1)
theorem rcs {R : Type} [i : TC R] {a r : R} (h : Option.bind (some a) some = some r) : i.c a r := by
 obtain rfl := Option.some.inj h
 exact i.refl a
end Go.Sx
end

section
namespace Go.Sh
open Go Go.Proofs Go.RowKit Go.Sx
def jai (f : Func) : Code := f.body.getD .skip
theorem mixed : Tryz.prog.follows .mixedOrders = true := by kernel_rfl
abbrev jaI (fn : Func) (sp : jaa) (loops : jfc) (as_ : List A) (rs : List RV) : Prop :=
 sx Tryz.prog sp fn.ntmps as_.length 40 loops (jcx Tryz.prog sp fn.ntmps) (jai fn) 0 [] ⟨jbU 0 (ja5 0 as_), jbz 0 as_, as_.length⟩ (jdT Tryz.prog fn.results.toList fun v hp _ => jjJ rs v hp)
abbrev runE (fn : Func) (sp : jaa) (loops : jfc) (c0 : C) (ob : O) (as_ : List A) (ob' : O) (rs : List RV) : Prop :=
 sx Tryz.prog sp fn.ntmps 1 40 loops (jcx Tryz.prog sp fn.ntmps) (jai fn) 0 [] ⟨jbU 0 (.w (.c c0) :: ja5 1 as_), [(0, ob)], 1⟩ (jdT Tryz.prog fn.results.toList fun v hp _ => jjK ob' rs v hp)
def bldD (shs : List SV) (ls : List Lf) : Bv := (jia shs 0 ls).getD ⟨[], [], 0, []⟩
theorem jhG {shs : List SV} {ls : List Lf} {b : Bv} (h : jia shs 0 ls = some b) : b = bldD shs ls := by
 unfold bldD
 rw [h]
 rfl
abbrev runT (fn : Func) (sp : jaa) (loops : jfc) (b : Bv) (rs : List RR) : Prop :=
 sx Tryz.prog sp fn.ntmps b.n 40 loops (jcx Tryz.prog sp fn.ntmps) (jai fn) 0 [] ⟨jbU 0 b.vs, b.hp, b.n⟩ (jdT Tryz.prog fn.results.toList fun v hp _ => fitV b.n rs v hp)
def sp0 : jaa := fun _ => none
theorem jam : jac Tryz.prog sp0 := fun _ _ _ h => by cases h
def ja3 (f : Nat) (M : Bool) (S : Sx.Spec) (sp : jaa) : jaa := fun k => match Nat.beq k f with
 | true => some (M, S)
 | false => sp k
theorem jax {f : Nat} {M : Bool} {S : Sx.Spec} {sp : jaa} (h : jah Tryz.prog f M S) (hs : jac Tryz.prog sp) : jac Tryz.prog (ja3 f M S sp) := by
 intro k M' S' hk
 unfold ja3 at hk
 split at hk
 ·rename_i e
  have := Nat.eq_of_beq_eq_true e
  subst this
  cases hk
  exact h
 ·exact hs k M' S' hk
def jbg : ByteArray := ⟨(([0, 1, 2, 2] ++ List.replicate 4 3 ++ List.replicate 8 4 ++ List.replicate 16 5 ++ List.replicate 32 6 ++ List.replicate 64 7 ++ List.replicate 128 8) : List UInt8).toArray⟩
end Go.Sh
end

section
namespace Go.Sh
open Go.Sx06u (ja6 ja8)
open Go Go.Proofs Go.RowKit Go.Sx
instance (u : List Int) : Decidable (Sx06.okU u) :=
 decidable_of_iff (u.length = 10 ∧ (∀ j, j < 5 → -32768 ≤ u.getD j 0 ∧ u.getD j 0 ≤ 32768) ∧ (∀ j, j < 9 → 5 ≤ j → -32767 ≤ u.getD j 0 ∧ u.getD j 0 ≤ 32767) ∧ 0 ≤ u.getD 9 0 ∧ u.getD 9 0 ≤ 1000000000)
  ⟨fun ⟨a, b, c, d, e⟩ => ⟨a, b, fun j h1 h2 => c j h2 h1, d, e⟩, fun ⟨a, b, c, d, e⟩ => ⟨a, b, fun j h1 h2 => c j h2 h1, d, e⟩⟩
abbrev sp_13 : jaa → jaa := ja3 13 true (jay Sx06.gImpulse)
theorem sp_13_ok {sp : jaa} (h : jac Tryz.prog sp) : jac Tryz.prog (sp_13 sp) := jax Sx06.impulse_ok h
abbrev sp_15 : jaa → jaa := ja3 15 true (jay Sx06.gBoundOf)
theorem sp_15_ok {sp : jaa} (h : jac Tryz.prog sp) : jac Tryz.prog (sp_15 sp) := jax Sx06.boundOf_ok h
abbrev sp_53 : jaa → jaa := ja3 53 true (jay Sx06.gBWithin)
theorem sp_53_ok {sp : jaa} (h : jac Tryz.prog sp) : jac Tryz.prog (sp_53 sp) := jax Sx06.bWithin_ok h
abbrev sp_52 : jaa → jaa := ja3 52 true (jay Sx06.gBSize)
theorem sp_52_ok {sp : jaa} (h : jac Tryz.prog sp) : jac Tryz.prog (sp_52 sp) := jax Sx06.bSize_ok h
abbrev sp_18 : jaa → jaa := ja3 18 true (jay Sx06.gInts)
theorem sp_18_ok {sp : jaa} (h : jac Tryz.prog sp) : jac Tryz.prog (sp_18 sp) := jax Sx06.ints_ok h
abbrev sp_40 : jaa → jaa := ja3 40 true (jay Sx06.gTurnErr)
theorem sp_40_ok {sp : jaa} (h : jac Tryz.prog sp) : jac Tryz.prog (sp_40 sp) := jax Sx06.turnErr_ok h
abbrev sp_41 : jaa → jaa := ja3 41 true (jay Sx06.gGain)
theorem sp_41_ok {sp : jaa} (h : jac Tryz.prog sp) : jac Tryz.prog (sp_41 sp) := jax Sx06.gain_ok h
abbrev sp_29 : jaa → jaa := ja3 29 true (jay Sx06.gFirst)
theorem sp_29_ok {sp : jaa} (h : jac Tryz.prog sp) : jac Tryz.prog (sp_29 sp) := jax Sx06.first_ok h
abbrev sp_16 : jaa → jaa := ja3 16 true (jay Sx06.gSchur)
theorem sp_16_ok {sp : jaa} (h : jac Tryz.prog sp) : jac Tryz.prog (sp_16 sp) := jax Sx06.schur_ok h
abbrev sp_24 : jaa → jaa := ja3 24 true (jay Sx06.gCascadeErr)
theorem sp_24_ok {sp : jaa} (h : jac Tryz.prog sp) : jac Tryz.prog (sp_24 sp) := jax Sx06.cascadeErr_ok h
end Go.Sh
end
