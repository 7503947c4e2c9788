/- Mirrors of functions, and their contracts: made by a program of mine. -/
import Derived.Test.YtndhdojnlobloaaMirA
namespace Go.Sh
open Go Go.Proofs Go.RowKit Go.Sx
set_option linter.unusedVariables false

/-- shoebox/filter.lowest -/
def F_lowest (num : Int) (den : Int) : Option (Int × Int) :=
  Option.bind (F_divisor num den) fun r0 =>
  if den < (0 : Int) then
   if IntKind.wrap IntKind.i64 ((0 : Int) - r0) ≠ (0 : Int) then
    if IntKind.wrap IntKind.i64 ((0 : Int) - r0) ≠ (0 : Int) then
     some ((IntKind.wrap IntKind.i64 (Int.tdiv num (IntKind.wrap IntKind.i64 ((0 : Int) - r0))), IntKind.wrap IntKind.i64 (Int.tdiv den (IntKind.wrap IntKind.i64 ((0 : Int) - r0)))))
    else none
   else none
  else
   if r0 ≠ (0 : Int) then
    if r0 ≠ (0 : Int) then
     some ((IntKind.wrap IntKind.i64 (Int.tdiv num r0), IntKind.wrap IntKind.i64 (Int.tdiv den r0)))
    else none
   else none
def g_F_lowest : List A → Option (Prop × List RV)
  | [.d (.i .i64 num), .d (.i .i64 den)] => some (ok (F_lowest num den), [.s [.i .i64 ((val (F_lowest num den)).1), .i .i64 ((val (F_lowest num den)).2)]])
  | _ => none
def k_F_lowest : List (Option Cont) := [none, none]
abbrev sp_103 : Specs → Specs := addK 103 true (pureK k_F_lowest g_F_lowest)
set_option maxRecDepth 100000 in
theorem F_lowest_vc (num : Int) (den : Int) (r : Int × Int) (h : Option.bind (F_lowest num den) some = some r) : runF Try.f103 ((sp_126 sp0)) (fun _ _ _ => none) [.d (.i .i64 num), .d (.i .i64 den)] [.s [.i .i64 r.1, .i .i64 r.2]] := by
  refine Eq.mp (by kernel_rfl : (
  (Ob (ok (F_divisor num den)) ∧
   Br (decide (den < (0 : Int)))
   ((Ob (IntKind.wrap IntKind.i64 ((0 : Int) - val (F_divisor num den)) ≠ (0 : Int)) ∧
   (Ob (IntKind.wrap IntKind.i64 ((0 : Int) - val (F_divisor num den)) ≠ (0 : Int)) ∧
   (Ob (True) ∧
   (Ob (IntKind.wrap IntKind.i64 (Int.tdiv num (IntKind.wrap IntKind.i64 ((0 : Int) - val (F_divisor num den)))) = r.1) ∧
   (Ob (IntKind.wrap IntKind.i64 (Int.tdiv den (IntKind.wrap IntKind.i64 ((0 : Int) - val (F_divisor num den)))) = r.2) ∧
   True))))))
   ((Ob (val (F_divisor num den) ≠ (0 : Int)) ∧
   (Ob (val (F_divisor num den) ≠ (0 : Int)) ∧
   (Ob (True) ∧
   (Ob (IntKind.wrap IntKind.i64 (Int.tdiv num (val (F_divisor num den))) = r.1) ∧
   (Ob (IntKind.wrap IntKind.i64 (Int.tdiv den (val (F_divisor num den))) = r.2) ∧
   True)))))))) = _) ?_
  refine call_s h fun h => ?_
  refine br_d h (fun h => ?_) (fun h => ?_)
  · refine ob_s h fun h => ?_
    refine ob_s h fun h => ?_
    refine ob_t ?_
    exact ret_s h (fun e => by subst e; exact (by repeat' (first | exact trivial | exact ⟨rfl⟩ | refine And.intro ?_ ?_)))
  · refine ob_s h fun h => ?_
    refine ob_s h fun h => ?_
    refine ob_t ?_
    exact ret_s h (fun e => by subst e; exact (by repeat' (first | exact trivial | exact ⟨rfl⟩ | refine And.intro ?_ ?_)))
set_option maxRecDepth 100000 in
theorem F_lowest_ok : SpecOK Try.prog 103 true (pureK k_F_lowest g_F_lowest) := by
  refine pureK_ok (sp := (sp_126 sp0)) (fn := Try.f103) (body := bodyOf Try.f103) mixed (sp_126_ok sp0_ok) Try.func103 (by kernel_rfl) (by kernel_rfl) fun as_ ob rs h ho => ?_
  unfold g_F_lowest at h
  split at h
  · rename_i num den
    cases h
    exact ⟨Nat.le_of_ble_eq_true rfl, _, _, F_lowest_vc num den _ (ok_some ho)⟩
  · cases h
theorem sp_103_ok {sp : Specs} (h : SpecsOK Try.prog sp) : SpecsOK Try.prog (sp_103 sp) := addK_ok F_lowest_ok h

/-- shoebox/shoeboxbase.Lowest -/
def B_Lowest (num : Int) (den : Int) : Option (Int × Int) :=
  Option.bind (B_Gcd num den) fun r0 =>
  if den < (0 : Int) then
   if IntKind.wrap IntKind.i64 ((0 : Int) - r0) ≠ (0 : Int) then
    if IntKind.wrap IntKind.i64 ((0 : Int) - r0) ≠ (0 : Int) then
     some ((IntKind.wrap IntKind.i64 (Int.tdiv num (IntKind.wrap IntKind.i64 ((0 : Int) - r0))), IntKind.wrap IntKind.i64 (Int.tdiv den (IntKind.wrap IntKind.i64 ((0 : Int) - r0)))))
    else none
   else none
  else
   if r0 ≠ (0 : Int) then
    if r0 ≠ (0 : Int) then
     some ((IntKind.wrap IntKind.i64 (Int.tdiv num r0), IntKind.wrap IntKind.i64 (Int.tdiv den r0)))
    else none
   else none
def g_B_Lowest : List A → Option (Prop × List RV)
  | [.d (.i .i64 num), .d (.i .i64 den)] => some (ok (B_Lowest num den), [.s [.i .i64 ((val (B_Lowest num den)).1), .i .i64 ((val (B_Lowest num den)).2)]])
  | _ => none
def k_B_Lowest : List (Option Cont) := [none, none]
abbrev sp_120 : Specs → Specs := addK 120 true (pureK k_B_Lowest g_B_Lowest)
set_option maxRecDepth 100000 in
theorem B_Lowest_vc (num : Int) (den : Int) (r : Int × Int) (h : Option.bind (B_Lowest num den) some = some r) : runF Try.f120 ((sp_133 sp0)) (fun _ _ _ => none) [.d (.i .i64 num), .d (.i .i64 den)] [.s [.i .i64 r.1, .i .i64 r.2]] := by
  refine Eq.mp (by kernel_rfl : (
  (Ob (ok (B_Gcd num den)) ∧
   Br (decide (den < (0 : Int)))
   ((Ob (IntKind.wrap IntKind.i64 ((0 : Int) - val (B_Gcd num den)) ≠ (0 : Int)) ∧
   (Ob (IntKind.wrap IntKind.i64 ((0 : Int) - val (B_Gcd num den)) ≠ (0 : Int)) ∧
   (Ob (True) ∧
   (Ob (IntKind.wrap IntKind.i64 (Int.tdiv num (IntKind.wrap IntKind.i64 ((0 : Int) - val (B_Gcd num den)))) = r.1) ∧
   (Ob (IntKind.wrap IntKind.i64 (Int.tdiv den (IntKind.wrap IntKind.i64 ((0 : Int) - val (B_Gcd num den)))) = r.2) ∧
   True))))))
   ((Ob (val (B_Gcd num den) ≠ (0 : Int)) ∧
   (Ob (val (B_Gcd num den) ≠ (0 : Int)) ∧
   (Ob (True) ∧
   (Ob (IntKind.wrap IntKind.i64 (Int.tdiv num (val (B_Gcd num den))) = r.1) ∧
   (Ob (IntKind.wrap IntKind.i64 (Int.tdiv den (val (B_Gcd num den))) = r.2) ∧
   True)))))))) = _) ?_
  refine call_s h fun h => ?_
  refine br_d h (fun h => ?_) (fun h => ?_)
  · refine ob_s h fun h => ?_
    refine ob_s h fun h => ?_
    refine ob_t ?_
    exact ret_s h (fun e => by subst e; exact (by repeat' (first | exact trivial | exact ⟨rfl⟩ | refine And.intro ?_ ?_)))
  · refine ob_s h fun h => ?_
    refine ob_s h fun h => ?_
    refine ob_t ?_
    exact ret_s h (fun e => by subst e; exact (by repeat' (first | exact trivial | exact ⟨rfl⟩ | refine And.intro ?_ ?_)))
set_option maxRecDepth 100000 in
theorem B_Lowest_ok : SpecOK Try.prog 120 true (pureK k_B_Lowest g_B_Lowest) := by
  refine pureK_ok (sp := (sp_133 sp0)) (fn := Try.f120) (body := bodyOf Try.f120) mixed (sp_133_ok sp0_ok) Try.func120 (by kernel_rfl) (by kernel_rfl) fun as_ ob rs h ho => ?_
  unfold g_B_Lowest at h
  split at h
  · rename_i num den
    cases h
    exact ⟨Nat.le_of_ble_eq_true rfl, _, _, B_Lowest_vc num den _ (ok_some ho)⟩
  · cases h
theorem sp_120_ok {sp : Specs} (h : SpecsOK Try.prog sp) : SpecsOK Try.prog (sp_120 sp) := addK_ok B_Lowest_ok h
/-- shoebox/shoeboxref06.TurnErr -/
def R06_TurnErr (tP : Int) (tQ : Int) (tR : Int) : Option Int :=
  if (!(decide ((1 : Int) ≤ tR) && decide (tR ≤ (100 : Int)))) = true then
   some (2 : Int)
  else
   if (!(decide (IntKind.wrap IntKind.i64 ((0 : Int) - tR) ≤ tP) && decide (tP ≤ tR))) = true then
    some (10 : Int)
   else
    if (!(decide (IntKind.wrap IntKind.i64 ((0 : Int) - tR) ≤ tQ) && decide (tQ ≤ tR))) = true then
     some (10 : Int)
    else
     if (IntKind.wrap IntKind.i64 (IntKind.wrap IntKind.i64 (tP * tP) + IntKind.wrap IntKind.i64 (tQ * tQ)) != IntKind.wrap IntKind.i64 (tR * tR)) = true then
      some (10 : Int)
     else
      some (0 : Int)
def g_R06_TurnErr : List A → Option (Prop × List RV)
  | [.s [.i .i64 tP, .i .i64 tQ, .i .i64 tR]] => some (ok (R06_TurnErr tP tQ tR), [.d (.i .i64 ((val (R06_TurnErr tP tQ tR))))])
  | _ => none
def k_R06_TurnErr : List (Option Cont) := [none]
abbrev sp_42 : Specs → Specs := addK 42 true (pureK k_R06_TurnErr g_R06_TurnErr)
set_option maxRecDepth 100000 in
theorem R06_TurnErr_vc (tP : Int) (tQ : Int) (tR : Int) (r : Int) (h : Option.bind (R06_TurnErr tP tQ tR) some = some r) : runF Try.f42 ((sp_50 sp0)) (fun _ _ _ => none) [.s [.i .i64 tP, .i .i64 tQ, .i .i64 tR]] [.d (.i .i64 r)] := by
  refine Eq.mp (by kernel_rfl : (
  (Ob (True) ∧
   Br (!(decide ((1 : Int) ≤ tR) && decide (tR ≤ (100 : Int))))
   ((Ob (True) ∧
   (Ob ((2 : Int) = r) ∧
   True)))
   ((Ob (True) ∧
   Br (!(decide (IntKind.wrap IntKind.i64 ((0 : Int) - tR) ≤ tP) && decide (tP ≤ tR)))
   ((Ob (True) ∧
   (Ob ((10 : Int) = r) ∧
   True)))
   ((Ob (True) ∧
   Br (!(decide (IntKind.wrap IntKind.i64 ((0 : Int) - tR) ≤ tQ) && decide (tQ ≤ tR)))
   ((Ob (True) ∧
   (Ob ((10 : Int) = r) ∧
   True)))
   (Br (IntKind.wrap IntKind.i64 (IntKind.wrap IntKind.i64 (tP * tP) + IntKind.wrap IntKind.i64 (tQ * tQ)) != IntKind.wrap IntKind.i64 (tR * tR))
   ((Ob (True) ∧
   (Ob ((10 : Int) = r) ∧
   True)))
   ((Ob (True) ∧
   (Ob ((0 : Int) = r) ∧
   True)))))))))) = _) ?_
  refine ob_t ?_
  refine br_b h (fun h => ?_) (fun h => ?_)
  · refine ob_t ?_
    exact ret_s h (fun e => by subst e; exact (by repeat' (first | exact trivial | exact ⟨rfl⟩ | refine And.intro ?_ ?_)))
  · refine ob_t ?_
    refine br_b h (fun h => ?_) (fun h => ?_)
    · refine ob_t ?_
      exact ret_s h (fun e => by subst e; exact (by repeat' (first | exact trivial | exact ⟨rfl⟩ | refine And.intro ?_ ?_)))
    · refine ob_t ?_
      refine br_b h (fun h => ?_) (fun h => ?_)
      · refine ob_t ?_
        exact ret_s h (fun e => by subst e; exact (by repeat' (first | exact trivial | exact ⟨rfl⟩ | refine And.intro ?_ ?_)))
      · refine br_b h (fun h => ?_) (fun h => ?_)
        · refine ob_t ?_
          exact ret_s h (fun e => by subst e; exact (by repeat' (first | exact trivial | exact ⟨rfl⟩ | refine And.intro ?_ ?_)))
        · refine ob_t ?_
          exact ret_s h (fun e => by subst e; exact (by repeat' (first | exact trivial | exact ⟨rfl⟩ | refine And.intro ?_ ?_)))
set_option maxRecDepth 100000 in
theorem R06_TurnErr_ok : SpecOK Try.prog 42 true (pureK k_R06_TurnErr g_R06_TurnErr) := by
  refine pureK_ok (sp := (sp_50 sp0)) (fn := Try.f42) (body := bodyOf Try.f42) mixed (sp_50_ok sp0_ok) Try.func42 (by kernel_rfl) (by kernel_rfl) fun as_ ob rs h ho => ?_
  unfold g_R06_TurnErr at h
  split at h
  · rename_i tP tQ tR
    cases h
    exact ⟨Nat.le_of_ble_eq_true rfl, _, _, R06_TurnErr_vc tP tQ tR _ (ok_some ho)⟩
  · cases h
theorem sp_42_ok {sp : Specs} (h : SpecsOK Try.prog sp) : SpecsOK Try.prog (sp_42 sp) := addK_ok R06_TurnErr_ok h

/-- shoebox/shoeboxref06.square -/
def R06_square (a : Int) (b : Int) (c : Int) (tP : Int) (tQ : Int) (tR : Int) : Option Int :=
  some (IntKind.wrap IntKind.i64 (IntKind.wrap IntKind.i64 (IntKind.wrap IntKind.i64 (IntKind.wrap IntKind.i64 (IntKind.wrap IntKind.i64 (a * IntKind.wrap IntKind.i64 (IntKind.wrap IntKind.i64 (tP * tP) - IntKind.wrap IntKind.i64 (tQ * tQ))) + IntKind.wrap IntKind.i64 (IntKind.wrap IntKind.i64 (b * tP) * tR)) + IntKind.wrap IntKind.i64 (IntKind.wrap IntKind.i64 (c * tR) * tR)) * IntKind.wrap IntKind.i64 (IntKind.wrap IntKind.i64 (IntKind.wrap IntKind.i64 (a * IntKind.wrap IntKind.i64 (IntKind.wrap IntKind.i64 (tP * tP) - IntKind.wrap IntKind.i64 (tQ * tQ))) + IntKind.wrap IntKind.i64 (IntKind.wrap IntKind.i64 (b * tP) * tR)) + IntKind.wrap IntKind.i64 (IntKind.wrap IntKind.i64 (c * tR) * tR))) + IntKind.wrap IntKind.i64 (IntKind.wrap IntKind.i64 (IntKind.wrap IntKind.i64 (IntKind.wrap IntKind.i64 (IntKind.wrap IntKind.i64 ((2 : Int) * a) * tP) * tQ) + IntKind.wrap IntKind.i64 (IntKind.wrap IntKind.i64 (b * tQ) * tR)) * IntKind.wrap IntKind.i64 (IntKind.wrap IntKind.i64 (IntKind.wrap IntKind.i64 (IntKind.wrap IntKind.i64 ((2 : Int) * a) * tP) * tQ) + IntKind.wrap IntKind.i64 (IntKind.wrap IntKind.i64 (b * tQ) * tR)))))
def g_R06_square : List A → Option (Prop × List RV)
  | [.d (.i .i64 a), .d (.i .i64 b), .d (.i .i64 c), .s [.i .i64 tP, .i .i64 tQ, .i .i64 tR]] => some (ok (R06_square a b c tP tQ tR), [.d (.i .i64 ((val (R06_square a b c tP tQ tR))))])
  | _ => none
def k_R06_square : List (Option Cont) := [none, none, none, none]
abbrev sp_129 : Specs → Specs := addK 129 true (pureK k_R06_square g_R06_square)
set_option maxRecDepth 100000 in
theorem R06_square_vc (a : Int) (b : Int) (c : Int) (tP : Int) (tQ : Int) (tR : Int) (r : Int) (h : Option.bind (R06_square a b c tP tQ tR) some = some r) : runF Try.f129 (sp0) (fun _ _ _ => none) [.d (.i .i64 a), .d (.i .i64 b), .d (.i .i64 c), .s [.i .i64 tP, .i .i64 tQ, .i .i64 tR]] [.d (.i .i64 r)] := by
  refine Eq.mp (by kernel_rfl : (
  (Ob (True) ∧
   (Ob (IntKind.wrap IntKind.i64 (IntKind.wrap IntKind.i64 (IntKind.wrap IntKind.i64 (IntKind.wrap IntKind.i64 (IntKind.wrap IntKind.i64 (a * IntKind.wrap IntKind.i64 (IntKind.wrap IntKind.i64 (tP * tP) - IntKind.wrap IntKind.i64 (tQ * tQ))) + IntKind.wrap IntKind.i64 (IntKind.wrap IntKind.i64 (b * tP) * tR)) + IntKind.wrap IntKind.i64 (IntKind.wrap IntKind.i64 (c * tR) * tR)) * IntKind.wrap IntKind.i64 (IntKind.wrap IntKind.i64 (IntKind.wrap IntKind.i64 (a * IntKind.wrap IntKind.i64 (IntKind.wrap IntKind.i64 (tP * tP) - IntKind.wrap IntKind.i64 (tQ * tQ))) + IntKind.wrap IntKind.i64 (IntKind.wrap IntKind.i64 (b * tP) * tR)) + IntKind.wrap IntKind.i64 (IntKind.wrap IntKind.i64 (c * tR) * tR))) + IntKind.wrap IntKind.i64 (IntKind.wrap IntKind.i64 (IntKind.wrap IntKind.i64 (IntKind.wrap IntKind.i64 (IntKind.wrap IntKind.i64 ((2 : Int) * a) * tP) * tQ) + IntKind.wrap IntKind.i64 (IntKind.wrap IntKind.i64 (b * tQ) * tR)) * IntKind.wrap IntKind.i64 (IntKind.wrap IntKind.i64 (IntKind.wrap IntKind.i64 (IntKind.wrap IntKind.i64 ((2 : Int) * a) * tP) * tQ) + IntKind.wrap IntKind.i64 (IntKind.wrap IntKind.i64 (b * tQ) * tR)))) = r) ∧
   True))) = _) ?_
  refine ob_t ?_
  exact ret_s h (fun e => by subst e; exact (by repeat' (first | exact trivial | exact ⟨rfl⟩ | refine And.intro ?_ ?_)))
set_option maxRecDepth 100000 in
theorem R06_square_ok : SpecOK Try.prog 129 true (pureK k_R06_square g_R06_square) := by
  refine pureK_ok (sp := sp0) (fn := Try.f129) (body := bodyOf Try.f129) mixed sp0_ok Try.func129 (by kernel_rfl) (by kernel_rfl) fun as_ ob rs h ho => ?_
  unfold g_R06_square at h
  split at h
  · rename_i a b c tP tQ tR
    cases h
    exact ⟨Nat.le_of_ble_eq_true rfl, _, _, R06_square_vc a b c tP tQ tR _ (ok_some ho)⟩
  · cases h
theorem sp_129_ok {sp : Specs} (h : SpecsOK Try.prog sp) : SpecsOK Try.prog (sp_129 sp) := addK_ok R06_square_ok h

/-- shoebox/shoeboxref06.Gain -/
def R06_Gain (sB0 : Int) (sB1 : Int) (sB2 : Int) (sA0 : Int) (sA1 : Int) (tP : Int) (tQ : Int) (tR : Int) : Option (Int × Int) :=
  Option.bind (R06_square sB0 sB1 sB2 tP tQ tR) fun r0 =>
  Option.bind (R06_square (16384 : Int) sA0 sA1 tP tQ tR) fun r1 =>
  some (r0, r1)
def g_R06_Gain : List A → Option (Prop × List RV)
  | [.s [.i .i64 sB0, .i .i64 sB1, .i .i64 sB2, .i .i64 sA0, .i .i64 sA1], .s [.i .i64 tP, .i .i64 tQ, .i .i64 tR]] => some (ok (R06_Gain sB0 sB1 sB2 sA0 sA1 tP tQ tR), [.d (.i .i64 ((val (R06_Gain sB0 sB1 sB2 sA0 sA1 tP tQ tR)).1)), .d (.i .i64 ((val (R06_Gain sB0 sB1 sB2 sA0 sA1 tP tQ tR)).2))])
  | _ => none
def k_R06_Gain : List (Option Cont) := [none, none]
abbrev sp_100 : Specs → Specs := addK 100 true (pureK k_R06_Gain g_R06_Gain)
set_option maxRecDepth 100000 in
theorem R06_Gain_vc (sB0 : Int) (sB1 : Int) (sB2 : Int) (sA0 : Int) (sA1 : Int) (tP : Int) (tQ : Int) (tR : Int) (r : Int × Int) (h : Option.bind (R06_Gain sB0 sB1 sB2 sA0 sA1 tP tQ tR) some = some r) : runF Try.f100 ((sp_129 sp0)) (fun _ _ _ => none) [.s [.i .i64 sB0, .i .i64 sB1, .i .i64 sB2, .i .i64 sA0, .i .i64 sA1], .s [.i .i64 tP, .i .i64 tQ, .i .i64 tR]] [.d (.i .i64 r.1), .d (.i .i64 r.2)] := by
  refine Eq.mp (by kernel_rfl : (
  (Ob ((0 : Int) ≤ (0 : Int) ∧ (0 : Int) < (↑(3 : Nat) : Int)) ∧
   (Ob ((0 : Int) ≤ (1 : Int) ∧ (1 : Int) < (↑(3 : Nat) : Int)) ∧
   (Ob ((0 : Int) ≤ (2 : Int) ∧ (2 : Int) < (↑(3 : Nat) : Int)) ∧
   (Ob (ok (R06_square sB0 sB1 sB2 tP tQ tR)) ∧
   (Ob ((0 : Int) ≤ (0 : Int) ∧ (0 : Int) < (↑(2 : Nat) : Int)) ∧
   (Ob ((0 : Int) ≤ (1 : Int) ∧ (1 : Int) < (↑(2 : Nat) : Int)) ∧
   (Ob (ok (R06_square (16384 : Int) sA0 sA1 tP tQ tR)) ∧
   (Ob (True) ∧
   (Ob (True) ∧
   (Ob (val (R06_square sB0 sB1 sB2 tP tQ tR) = r.1) ∧
   (Ob (val (R06_square (16384 : Int) sA0 sA1 tP tQ tR) = r.2) ∧
   True)))))))))))) = _) ?_
  refine ob_c (p := (0 : Int) ≤ (0 : Int) ∧ (0 : Int) < (↑(3 : Nat) : Int)) (by decide) ?_
  refine ob_c (p := (0 : Int) ≤ (1 : Int) ∧ (1 : Int) < (↑(3 : Nat) : Int)) (by decide) ?_
  refine ob_c (p := (0 : Int) ≤ (2 : Int) ∧ (2 : Int) < (↑(3 : Nat) : Int)) (by decide) ?_
  refine call_s h fun h => ?_
  refine ob_c (p := (0 : Int) ≤ (0 : Int) ∧ (0 : Int) < (↑(2 : Nat) : Int)) (by decide) ?_
  refine ob_c (p := (0 : Int) ≤ (1 : Int) ∧ (1 : Int) < (↑(2 : Nat) : Int)) (by decide) ?_
  refine call_s h fun h => ?_
  refine ob_t ?_
  refine ob_t ?_
  exact ret_s h (fun e => by subst e; exact (by repeat' (first | exact trivial | exact ⟨rfl⟩ | refine And.intro ?_ ?_)))
set_option maxRecDepth 100000 in
theorem R06_Gain_ok : SpecOK Try.prog 100 true (pureK k_R06_Gain g_R06_Gain) := by
  refine pureK_ok (sp := (sp_129 sp0)) (fn := Try.f100) (body := bodyOf Try.f100) mixed (sp_129_ok sp0_ok) Try.func100 (by kernel_rfl) (by kernel_rfl) fun as_ ob rs h ho => ?_
  unfold g_R06_Gain at h
  split at h
  · rename_i sB0 sB1 sB2 sA0 sA1 tP tQ tR
    cases h
    exact ⟨Nat.le_of_ble_eq_true rfl, _, _, R06_Gain_vc sB0 sB1 sB2 sA0 sA1 tP tQ tR _ (ok_some ho)⟩
  · cases h
theorem sp_100_ok {sp : Specs} (h : SpecsOK Try.prog sp) : SpecsOK Try.prog (sp_100 sp) := addK_ok R06_Gain_ok h

/-- shoebox/filter.GainSquare -/
def F_GainSquare (sB0 : Int) (sB1 : Int) (sB2 : Int) (sA0 : Int) (sA1 : Int) (tP : Int) (tQ : Int) (tR : Int) : Option (Int × Int × Int) :=
  if List.length [Sx06.chkS sB0 sB1 sB2 sA0 sA1, Sx06.turnE tP tQ tR] ≤ (1000000 : Nat) then
   if (Option.getD (List.find? (fun x => x != (0 : Int)) [Sx06.chkS sB0 sB1 sB2 sA0 sA1, Sx06.turnE tP tQ tR]) (0 : Int) != (0 : Int)) = true then
    some (((0 : Int), (0 : Int), Option.getD (List.find? (fun x => x != (0 : Int)) [Sx06.chkS sB0 sB1 sB2 sA0 sA1, Sx06.turnE tP tQ tR]) (0 : Int)))
   else
    if Sx06.secB sB0 sB1 sB2 sA0 sA1 = true ∧ ((-100 : Int) ≤ tP ∧ tP ≤ (100 : Int)) ∧ ((-100 : Int) ≤ tQ ∧ tQ ≤ (100 : Int)) ∧ (-100 : Int) ≤ tR ∧ tR ≤ (100 : Int) then
     if (Sx06.sqS (16384 : Int) sA0 sA1 tP tQ tR == (0 : Int)) = true then
      some (((0 : Int), (0 : Int), (11 : Int)))
     else
      Option.bind (F_lowest (Sx06.sqS sB0 sB1 sB2 tP tQ tR) (Sx06.sqS (16384 : Int) sA0 sA1 tP tQ tR)) fun r0 =>
      if r0.1 > (1000000000 : Int) then
       some (((0 : Int), (0 : Int), (8 : Int)))
      else
       if r0.2 > (1000000000 : Int) then
        some (((0 : Int), (0 : Int), (8 : Int)))
       else
        some ((r0.1, r0.2, (0 : Int)))
    else none
  else none
def g_F_GainSquare : List A → Option (Prop × List RV)
  | [.s [.i .i64 sB0, .i .i64 sB1, .i .i64 sB2, .i .i64 sA0, .i .i64 sA1], .s [.i .i64 tP, .i .i64 tQ, .i .i64 tR]] => some (ok (F_GainSquare sB0 sB1 sB2 sA0 sA1 tP tQ tR), [.s [.i .i64 ((val (F_GainSquare sB0 sB1 sB2 sA0 sA1 tP tQ tR)).1), .i .i64 ((val (F_GainSquare sB0 sB1 sB2 sA0 sA1 tP tQ tR)).2.1)], .d (.i .i64 ((val (F_GainSquare sB0 sB1 sB2 sA0 sA1 tP tQ tR)).2.2))])
  | _ => none
def k_F_GainSquare : List (Option Cont) := [none, none]
abbrev sp_44 : Specs → Specs := addK 44 true (pureK k_F_GainSquare g_F_GainSquare)
set_option maxRecDepth 100000 in
theorem F_GainSquare_vc (sB0 : Int) (sB1 : Int) (sB2 : Int) (sA0 : Int) (sA1 : Int) (tP : Int) (tQ : Int) (tR : Int) (r : Int × Int × Int) (h : Option.bind (F_GainSquare sB0 sB1 sB2 sA0 sA1 tP tQ tR) some = some r) : runF Try.f44 ((sp_57 (sp_97 (sp_85 (sp_98 (sp_103 sp0)))))) (fun _ _ _ => none) [.s [.i .i64 sB0, .i .i64 sB1, .i .i64 sB2, .i .i64 sA0, .i .i64 sA1], .s [.i .i64 tP, .i .i64 tQ, .i .i64 tR]] [.s [.i .i64 r.1, .i .i64 r.2.1], .d (.i .i64 r.2.2)] := by
  refine Eq.mp (by kernel_rfl : (
  (Ob (True) ∧
   (Ob (True) ∧
   (Ob (List.length [Sx06.chkS sB0 sB1 sB2 sA0 sA1, Sx06.turnE tP tQ tR] ≤ (1000000 : Nat)) ∧
   Br (Option.getD (List.find? (fun x => x != (0 : Int)) [Sx06.chkS sB0 sB1 sB2 sA0 sA1, Sx06.turnE tP tQ tR]) (0 : Int) != (0 : Int))
   ((Ob (True) ∧
   (Ob (True) ∧
   (Ob ((0 : Int) = r.1) ∧
   (Ob ((0 : Int) = r.2.1) ∧
   (Ob (Option.getD (List.find? (fun x => x != (0 : Int)) [Sx06.chkS sB0 sB1 sB2 sA0 sA1, Sx06.turnE tP tQ tR]) (0 : Int) = r.2.2) ∧
   True))))))
   ((Ob (Sx06.secB sB0 sB1 sB2 sA0 sA1 = true ∧ ((-100 : Int) ≤ tP ∧ tP ≤ (100 : Int)) ∧ ((-100 : Int) ≤ tQ ∧ tQ ≤ (100 : Int)) ∧ (-100 : Int) ≤ tR ∧ tR ≤ (100 : Int)) ∧
   Br (Sx06.sqS (16384 : Int) sA0 sA1 tP tQ tR == (0 : Int))
   ((Ob (True) ∧
   (Ob (True) ∧
   (Ob ((0 : Int) = r.1) ∧
   (Ob ((0 : Int) = r.2.1) ∧
   (Ob ((11 : Int) = r.2.2) ∧
   True))))))
   ((Ob (ok (F_lowest (Sx06.sqS sB0 sB1 sB2 tP tQ tR) (Sx06.sqS (16384 : Int) sA0 sA1 tP tQ tR))) ∧
   Br (decide ((val (F_lowest (Sx06.sqS sB0 sB1 sB2 tP tQ tR) (Sx06.sqS (16384 : Int) sA0 sA1 tP tQ tR))).1 > (1000000000 : Int)))
   ((Ob (True) ∧
   (Ob (True) ∧
   (Ob ((0 : Int) = r.1) ∧
   (Ob ((0 : Int) = r.2.1) ∧
   (Ob ((8 : Int) = r.2.2) ∧
   True))))))
   (Br (decide ((val (F_lowest (Sx06.sqS sB0 sB1 sB2 tP tQ tR) (Sx06.sqS (16384 : Int) sA0 sA1 tP tQ tR))).2 > (1000000000 : Int)))
   ((Ob (True) ∧
   (Ob (True) ∧
   (Ob ((0 : Int) = r.1) ∧
   (Ob ((0 : Int) = r.2.1) ∧
   (Ob ((8 : Int) = r.2.2) ∧
   True))))))
   ((Ob (True) ∧
   (Ob (True) ∧
   (Ob ((val (F_lowest (Sx06.sqS sB0 sB1 sB2 tP tQ tR) (Sx06.sqS (16384 : Int) sA0 sA1 tP tQ tR))).1 = r.1) ∧
   (Ob ((val (F_lowest (Sx06.sqS sB0 sB1 sB2 tP tQ tR) (Sx06.sqS (16384 : Int) sA0 sA1 tP tQ tR))).2 = r.2.1) ∧
   (Ob ((0 : Int) = r.2.2) ∧
   True))))))))))))))) = _) ?_
  refine ob_t ?_
  refine ob_t ?_
  refine ob_s h fun h => ?_
  refine br_b h (fun h => ?_) (fun h => ?_)
  · refine ob_t ?_
    refine ob_t ?_
    exact ret_s h (fun e => by subst e; exact (by repeat' (first | exact trivial | exact ⟨rfl⟩ | refine And.intro ?_ ?_)))
  · refine ob_s h fun h => ?_
    refine br_b h (fun h => ?_) (fun h => ?_)
    · refine ob_t ?_
      refine ob_t ?_
      exact ret_s h (fun e => by subst e; exact (by repeat' (first | exact trivial | exact ⟨rfl⟩ | refine And.intro ?_ ?_)))
    · refine call_s h fun h => ?_
      refine br_d h (fun h => ?_) (fun h => ?_)
      · refine ob_t ?_
        refine ob_t ?_
        exact ret_s h (fun e => by subst e; exact (by repeat' (first | exact trivial | exact ⟨rfl⟩ | refine And.intro ?_ ?_)))
      · refine br_d h (fun h => ?_) (fun h => ?_)
        · refine ob_t ?_
          refine ob_t ?_
          exact ret_s h (fun e => by subst e; exact (by repeat' (first | exact trivial | exact ⟨rfl⟩ | refine And.intro ?_ ?_)))
        · refine ob_t ?_
          refine ob_t ?_
          exact ret_s h (fun e => by subst e; exact (by repeat' (first | exact trivial | exact ⟨rfl⟩ | refine And.intro ?_ ?_)))
set_option maxRecDepth 100000 in
theorem F_GainSquare_ok : SpecOK Try.prog 44 true (pureK k_F_GainSquare g_F_GainSquare) := by
  refine pureK_ok (sp := (sp_57 (sp_97 (sp_85 (sp_98 (sp_103 sp0)))))) (fn := Try.f44) (body := bodyOf Try.f44) mixed (sp_57_ok (sp_97_ok (sp_85_ok (sp_98_ok (sp_103_ok sp0_ok))))) Try.func44 (by kernel_rfl) (by kernel_rfl) fun as_ ob rs h ho => ?_
  unfold g_F_GainSquare at h
  split at h
  · rename_i sB0 sB1 sB2 sA0 sA1 tP tQ tR
    cases h
    exact ⟨Nat.le_of_ble_eq_true rfl, _, _, F_GainSquare_vc sB0 sB1 sB2 sA0 sA1 tP tQ tR _ (ok_some ho)⟩
  · cases h
theorem sp_44_ok {sp : Specs} (h : SpecsOK Try.prog sp) : SpecsOK Try.prog (sp_44 sp) := addK_ok F_GainSquare_ok h

def B_Compare_b0 (x0 : (Int × Int × Int × Int)) : Option ((Int × Int × Int × Int) ⊕ Int) :=
  Option.bind (B_Floor x0.1 x0.2.1) fun r0 =>
  Option.bind (B_Floor x0.2.2.1 x0.2.2.2) fun r1 =>
  if r0 < r1 then
   some (.inr (-1 : Int))
  else
   if r0 > r1 then
    some (.inr (1 : Int))
   else
    if (IntKind.wrap IntKind.i64 (x0.1 - IntKind.wrap IntKind.i64 (r0 * x0.2.1)) == (0 : Int)) = true then
     if (IntKind.wrap IntKind.i64 (x0.2.2.1 - IntKind.wrap IntKind.i64 (r1 * x0.2.2.2)) == (0 : Int)) = true then
      some (.inr (0 : Int))
     else
      if (IntKind.wrap IntKind.i64 (x0.1 - IntKind.wrap IntKind.i64 (r0 * x0.2.1)) == (0 : Int)) = true then
       some (.inr (-1 : Int))
      else
       if (IntKind.wrap IntKind.i64 (x0.2.2.1 - IntKind.wrap IntKind.i64 (r1 * x0.2.2.2)) == (0 : Int)) = true then
        some (.inr (1 : Int))
       else
        some (.inl ((x0.2.2.2, IntKind.wrap IntKind.i64 (x0.2.2.1 - IntKind.wrap IntKind.i64 (r1 * x0.2.2.2)), x0.2.1, IntKind.wrap IntKind.i64 (x0.1 - IntKind.wrap IntKind.i64 (r0 * x0.2.1)))))
    else
     if (IntKind.wrap IntKind.i64 (x0.1 - IntKind.wrap IntKind.i64 (r0 * x0.2.1)) == (0 : Int)) = true then
      some (.inr (-1 : Int))
     else
      if (IntKind.wrap IntKind.i64 (x0.2.2.1 - IntKind.wrap IntKind.i64 (r1 * x0.2.2.2)) == (0 : Int)) = true then
       some (.inr (1 : Int))
      else
       some (.inl ((x0.2.2.2, IntKind.wrap IntKind.i64 (x0.2.2.1 - IntKind.wrap IntKind.i64 (r1 * x0.2.2.2)), x0.2.1, IntKind.wrap IntKind.i64 (x0.1 - IntKind.wrap IntKind.i64 (r0 * x0.2.1)))))
def B_Compare_r0 (y0_0 : Int) : Option Int :=
  some y0_0
/-- shoebox/shoeboxbase.Compare -/
def B_Compare (n : Int) (d : Int) (m_ : Int) (k : Int) : Option Int :=
  Option.bind (iter (B_Compare_b0) big (n, d, m_, k)) (B_Compare_r0)
def g_B_Compare : List A → Option (Prop × List RV)
  | [.d (.i .i64 n), .d (.i .i64 d), .d (.i .i64 m_), .d (.i .i64 k)] => some (ok (B_Compare n d m_ k), [.d (.i .i64 ((val (B_Compare n d m_ k))))])
  | _ => none
def k_B_Compare : List (Option Cont) := [none, none, none, none]
abbrev sp_45 : Specs → Specs := addK 45 true (pureK k_B_Compare g_B_Compare)
set_option maxRecDepth 100000 in
theorem B_Compare_vc (n : Int) (d : Int) (m_ : Int) (k : Int) (r : Int) (h : Option.bind (B_Compare n d m_ k) some = some r) : runF Try.f45 ((sp_90 sp0)) (fun gs id _ => match id with
 | 0 => some ⟨(Int × Int × Int × Int) × Nat, fun z => ⟨[(0, .w (.c (.d (.i .i64 (Prod.fst (Prod.fst z)))))), (1, .w (.c (.d (.i .i64 (Prod.fst (Prod.snd (Prod.fst z))))))), (2, .w (.c (.d (.i .i64 (Prod.fst (Prod.snd (Prod.snd (Prod.fst z)))))))), (3, .w (.c (.d (.i .i64 (Prod.snd (Prod.snd (Prod.snd (Prod.fst z))))))))], [], 4⟩, fun z => Option.bind (iter (B_Compare_b0) (Prod.snd z) (Prod.fst z)) (fun y0 => Option.bind (B_Compare_r0 y0) some) = some r, fun z => Prod.snd z⟩
 | _ => none) [.d (.i .i64 n), .d (.i .i64 d), .d (.i .i64 m_), .d (.i .i64 k)] [.d (.i .i64 r)] := by
  refine Eq.mp (by kernel_rfl : (
  ((∃ (v0 : (Int × Int × Int × Int) × Nat), (Ob ((Option.bind (iter B_Compare_b0 v0.2 v0.1) fun y0 => Option.bind (B_Compare_r0 y0) some) = some r) ∧
   (Ob (n = v0.1.1) ∧
   (Ob (d = v0.1.2.1) ∧
   (Ob (m_ = v0.1.2.2.1) ∧
   (Ob (k = v0.1.2.2.2) ∧
   True)))))) ∧
   (∀ (v0 : (Int × Int × Int × Int) × Nat), ((Option.bind (iter B_Compare_b0 v0.2 v0.1) fun y0 => Option.bind (B_Compare_r0 y0) some) = some r →
   (Ob (ok (B_Floor v0.1.1 v0.1.2.1)) ∧
   (Ob (ok (B_Floor v0.1.2.2.1 v0.1.2.2.2)) ∧
   Br (decide (val (B_Floor v0.1.1 v0.1.2.1) < val (B_Floor v0.1.2.2.1 v0.1.2.2.2)))
   ((Ob (True) ∧
   (Ob ((-1 : Int) = r) ∧
   True)))
   (Br (decide (val (B_Floor v0.1.1 v0.1.2.1) > val (B_Floor v0.1.2.2.1 v0.1.2.2.2)))
   ((Ob (True) ∧
   (Ob ((1 : Int) = r) ∧
   True)))
   (Br (IntKind.wrap IntKind.i64 (v0.1.1 - IntKind.wrap IntKind.i64 (val (B_Floor v0.1.1 v0.1.2.1) * v0.1.2.1)) == (0 : Int))
   (Br (IntKind.wrap IntKind.i64 (v0.1.2.2.1 - IntKind.wrap IntKind.i64 (val (B_Floor v0.1.2.2.1 v0.1.2.2.2) * v0.1.2.2.2)) == (0 : Int))
   ((Ob (True) ∧
   (Ob ((0 : Int) = r) ∧
   True)))
   (Br (IntKind.wrap IntKind.i64 (v0.1.1 - IntKind.wrap IntKind.i64 (val (B_Floor v0.1.1 v0.1.2.1) * v0.1.2.1)) == (0 : Int))
   ((Ob (True) ∧
   (Ob ((-1 : Int) = r) ∧
   True)))
   (Br (IntKind.wrap IntKind.i64 (v0.1.2.2.1 - IntKind.wrap IntKind.i64 (val (B_Floor v0.1.2.2.1 v0.1.2.2.2) * v0.1.2.2.2)) == (0 : Int))
   ((Ob (True) ∧
   (Ob ((1 : Int) = r) ∧
   True)))
   ((∃ (v1 : (Int × Int × Int × Int) × Nat), (Ob ((Option.bind (iter B_Compare_b0 v1.2 v1.1) fun y0 => Option.bind (B_Compare_r0 y0) some) = some r) ∧
   (Ob (v1.2 < v0.2) ∧
   (Ob (v0.1.2.2.2 = v1.1.1) ∧
   (Ob (IntKind.wrap IntKind.i64 (v0.1.2.2.1 - IntKind.wrap IntKind.i64 (val (B_Floor v0.1.2.2.1 v0.1.2.2.2) * v0.1.2.2.2)) = v1.1.2.1) ∧
   (Ob (v0.1.2.1 = v1.1.2.2.1) ∧
   (Ob (IntKind.wrap IntKind.i64 (v0.1.1 - IntKind.wrap IntKind.i64 (val (B_Floor v0.1.1 v0.1.2.1) * v0.1.2.1)) = v1.1.2.2.2) ∧
   True)))))))))))
   (Br (IntKind.wrap IntKind.i64 (v0.1.1 - IntKind.wrap IntKind.i64 (val (B_Floor v0.1.1 v0.1.2.1) * v0.1.2.1)) == (0 : Int))
   ((Ob (True) ∧
   (Ob ((-1 : Int) = r) ∧
   True)))
   (Br (IntKind.wrap IntKind.i64 (v0.1.2.2.1 - IntKind.wrap IntKind.i64 (val (B_Floor v0.1.2.2.1 v0.1.2.2.2) * v0.1.2.2.2)) == (0 : Int))
   ((Ob (True) ∧
   (Ob ((1 : Int) = r) ∧
   True)))
   ((∃ (v1 : (Int × Int × Int × Int) × Nat), (Ob ((Option.bind (iter B_Compare_b0 v1.2 v1.1) fun y0 => Option.bind (B_Compare_r0 y0) some) = some r) ∧
   (Ob (v1.2 < v0.2) ∧
   (Ob (v0.1.2.2.2 = v1.1.1) ∧
   (Ob (IntKind.wrap IntKind.i64 (v0.1.2.2.1 - IntKind.wrap IntKind.i64 (val (B_Floor v0.1.2.2.1 v0.1.2.2.2) * v0.1.2.2.2)) = v1.1.2.1) ∧
   (Ob (v0.1.2.1 = v1.1.2.2.1) ∧
   (Ob (IntKind.wrap IntKind.i64 (v0.1.1 - IntKind.wrap IntKind.i64 (val (B_Floor v0.1.1 v0.1.2.1) * v0.1.2.1)) = v1.1.2.2.2) ∧
   True)))))))))))))))))) = _) ?_
  refine ⟨⟨((n, d, m_, k), big), ⟨loop_s h⟩, (by repeat' (first | exact trivial | exact ⟨rfl⟩ | refine And.intro ?_ ?_))⟩, fun z2 hz2 => ?_⟩
  obtain ⟨k2, hm2, h⟩ := iter_pos hz2
  refine call_s h fun h => ?_
  refine call_s h fun h => ?_
  refine br_d h (fun h => ?_) (fun h => ?_)
  · have h := exit_s h
    refine ob_t ?_
    exact ret_s h (fun e => by subst e; exact (by repeat' (first | exact trivial | exact ⟨rfl⟩ | refine And.intro ?_ ?_)))
  · refine br_d h (fun h => ?_) (fun h => ?_)
    · have h := exit_s h
      refine ob_t ?_
      exact ret_s h (fun e => by subst e; exact (by repeat' (first | exact trivial | exact ⟨rfl⟩ | refine And.intro ?_ ?_)))
    · refine br_b h (fun h => ?_) (fun h => ?_)
      · refine br_b h (fun h => ?_) (fun h => ?_)
        · have h := exit_s h
          refine ob_t ?_
          exact ret_s h (fun e => by subst e; exact (by repeat' (first | exact trivial | exact ⟨rfl⟩ | refine And.intro ?_ ?_)))
        · refine br_b h (fun h => ?_) (fun h => ?_)
          · have h := exit_s h
            refine ob_t ?_
            exact ret_s h (fun e => by subst e; exact (by repeat' (first | exact trivial | exact ⟨rfl⟩ | refine And.intro ?_ ?_)))
          · refine br_b h (fun h => ?_) (fun h => ?_)
            · have h := exit_s h
              refine ob_t ?_
              exact ret_s h (fun e => by subst e; exact (by repeat' (first | exact trivial | exact ⟨rfl⟩ | refine And.intro ?_ ?_)))
            · exact ⟨(((Prod.fst z2).2.2.2, IntKind.wrap IntKind.i64 ((Prod.fst z2).2.2.1 - IntKind.wrap IntKind.i64 (val (B_Floor (Prod.fst z2).2.2.1 (Prod.fst z2).2.2.2) * (Prod.fst z2).2.2.2)), (Prod.fst z2).2.1, IntKind.wrap IntKind.i64 ((Prod.fst z2).1 - IntKind.wrap IntKind.i64 (val (B_Floor (Prod.fst z2).1 (Prod.fst z2).2.1) * (Prod.fst z2).2.1))), k2), ⟨next_s h⟩, ⟨lt_gs hm2.symm⟩, (by repeat' (first | exact trivial | exact ⟨rfl⟩ | refine And.intro ?_ ?_))⟩
      · refine br_b h (fun h => ?_) (fun h => ?_)
        · have h := exit_s h
          refine ob_t ?_
          exact ret_s h (fun e => by subst e; exact (by repeat' (first | exact trivial | exact ⟨rfl⟩ | refine And.intro ?_ ?_)))
        · refine br_b h (fun h => ?_) (fun h => ?_)
          · have h := exit_s h
            refine ob_t ?_
            exact ret_s h (fun e => by subst e; exact (by repeat' (first | exact trivial | exact ⟨rfl⟩ | refine And.intro ?_ ?_)))
          · exact ⟨(((Prod.fst z2).2.2.2, IntKind.wrap IntKind.i64 ((Prod.fst z2).2.2.1 - IntKind.wrap IntKind.i64 (val (B_Floor (Prod.fst z2).2.2.1 (Prod.fst z2).2.2.2) * (Prod.fst z2).2.2.2)), (Prod.fst z2).2.1, IntKind.wrap IntKind.i64 ((Prod.fst z2).1 - IntKind.wrap IntKind.i64 (val (B_Floor (Prod.fst z2).1 (Prod.fst z2).2.1) * (Prod.fst z2).2.1))), k2), ⟨next_s h⟩, ⟨lt_gs hm2.symm⟩, (by repeat' (first | exact trivial | exact ⟨rfl⟩ | refine And.intro ?_ ?_))⟩
set_option maxRecDepth 100000 in
theorem B_Compare_ok : SpecOK Try.prog 45 true (pureK k_B_Compare g_B_Compare) := by
  refine pureK_ok (sp := (sp_90 sp0)) (fn := Try.f45) (body := bodyOf Try.f45) mixed (sp_90_ok sp0_ok) Try.func45 (by kernel_rfl) (by kernel_rfl) fun as_ ob rs h ho => ?_
  unfold g_B_Compare at h
  split at h
  · rename_i n d m_ k
    cases h
    exact ⟨Nat.le_of_ble_eq_true rfl, _, _, B_Compare_vc n d m_ k _ (ok_some ho)⟩
  · cases h
theorem sp_45_ok {sp : Specs} (h : SpecsOK Try.prog sp) : SpecsOK Try.prog (sp_45 sp) := addK_ok B_Compare_ok h

/-- cmp.isNaN[uint64] -/
def cmp_isNaN_uint64 (x_ : Int) : Option Bool :=
  some (x_ != x_)
def g_cmp_isNaN_uint64 : List A → Option (Prop × List RV)
  | [.d (.i .u64 x_)] => some (ok (cmp_isNaN_uint64 x_), [.d (.b ((val (cmp_isNaN_uint64 x_))))])
  | _ => none
def k_cmp_isNaN_uint64 : List (Option Cont) := [none]
abbrev sp_136 : Specs → Specs := addK 136 true (pureK k_cmp_isNaN_uint64 g_cmp_isNaN_uint64)
set_option maxRecDepth 100000 in
theorem cmp_isNaN_uint64_vc (x_ : Int) (r : Bool) (h : Option.bind (cmp_isNaN_uint64 x_) some = some r) : runF Try.f136 (sp0) (fun _ _ _ => none) [.d (.i .u64 x_)] [.d (.b r)] := by
  refine Eq.mp (by kernel_rfl : (
  (Ob (True) ∧
   (Ob ((x_ != x_) = r) ∧
   True))) = _) ?_
  refine ob_t ?_
  exact ret_s h (fun e => by subst e; exact (by repeat' (first | exact trivial | exact ⟨rfl⟩ | refine And.intro ?_ ?_)))
set_option maxRecDepth 100000 in
theorem cmp_isNaN_uint64_ok : SpecOK Try.prog 136 true (pureK k_cmp_isNaN_uint64 g_cmp_isNaN_uint64) := by
  refine pureK_ok (sp := sp0) (fn := Try.f136) (body := bodyOf Try.f136) mixed sp0_ok Try.func136 (by kernel_rfl) (by kernel_rfl) fun as_ ob rs h ho => ?_
  unfold g_cmp_isNaN_uint64 at h
  split at h
  · rename_i x_
    cases h
    exact ⟨Nat.le_of_ble_eq_true rfl, _, _, cmp_isNaN_uint64_vc x_ _ (ok_some ho)⟩
  · cases h
theorem sp_136_ok {sp : Specs} (h : SpecsOK Try.prog sp) : SpecsOK Try.prog (sp_136 sp) := addK_ok cmp_isNaN_uint64_ok h

/-- cmp.Compare[uint64] -/
def cmp_Compare_uint64 (x_ : Int) (y_ : Int) : Option Int :=
  Option.bind (cmp_isNaN_uint64 x_) fun r0 =>
  Option.bind (cmp_isNaN_uint64 y_) fun r1 =>
  if (r0) = true then
   if (r1) = true then
    some (0 : Int)
   else
    some (-1 : Int)
  else
   if (r1) = true then
    some (1 : Int)
   else
    if x_ < y_ then
     some (-1 : Int)
    else
     if x_ > y_ then
      some (1 : Int)
     else
      some (0 : Int)
def g_cmp_Compare_uint64 : List A → Option (Prop × List RV)
  | [.d (.i .u64 x_), .d (.i .u64 y_)] => some (ok (cmp_Compare_uint64 x_ y_), [.d (.i .i64 ((val (cmp_Compare_uint64 x_ y_))))])
  | _ => none
def k_cmp_Compare_uint64 : List (Option Cont) := [none, none]
abbrev sp_132 : Specs → Specs := addK 132 true (pureK k_cmp_Compare_uint64 g_cmp_Compare_uint64)
set_option maxRecDepth 100000 in
theorem cmp_Compare_uint64_vc (x_ : Int) (y_ : Int) (r : Int) (h : Option.bind (cmp_Compare_uint64 x_ y_) some = some r) : runF Try.f132 ((sp_136 sp0)) (fun _ _ _ => none) [.d (.i .u64 x_), .d (.i .u64 y_)] [.d (.i .i64 r)] := by
  refine Eq.mp (by kernel_rfl : (
  (Ob (ok (cmp_isNaN_uint64 x_)) ∧
   (Ob (ok (cmp_isNaN_uint64 y_)) ∧
   Br (val (cmp_isNaN_uint64 x_))
   (Br (val (cmp_isNaN_uint64 y_))
   ((Ob (True) ∧
   (Ob ((0 : Int) = r) ∧
   True)))
   ((Ob (True) ∧
   (Ob ((-1 : Int) = r) ∧
   True))))
   (Br (val (cmp_isNaN_uint64 y_))
   ((Ob (True) ∧
   (Ob ((1 : Int) = r) ∧
   True)))
   (Br (decide (x_ < y_))
   ((Ob (True) ∧
   (Ob ((-1 : Int) = r) ∧
   True)))
   (Br (decide (x_ > y_))
   ((Ob (True) ∧
   (Ob ((1 : Int) = r) ∧
   True)))
   ((Ob (True) ∧
   (Ob ((0 : Int) = r) ∧
   True))))))))) = _) ?_
  refine call_s h fun h => ?_
  refine call_s h fun h => ?_
  refine br_b h (fun h => ?_) (fun h => ?_)
  · refine br_b h (fun h => ?_) (fun h => ?_)
    · refine ob_t ?_
      exact ret_s h (fun e => by subst e; exact (by repeat' (first | exact trivial | exact ⟨rfl⟩ | refine And.intro ?_ ?_)))
    · refine ob_t ?_
      exact ret_s h (fun e => by subst e; exact (by repeat' (first | exact trivial | exact ⟨rfl⟩ | refine And.intro ?_ ?_)))
  · refine br_b h (fun h => ?_) (fun h => ?_)
    · refine ob_t ?_
      exact ret_s h (fun e => by subst e; exact (by repeat' (first | exact trivial | exact ⟨rfl⟩ | refine And.intro ?_ ?_)))
    · refine br_d h (fun h => ?_) (fun h => ?_)
      · refine ob_t ?_
        exact ret_s h (fun e => by subst e; exact (by repeat' (first | exact trivial | exact ⟨rfl⟩ | refine And.intro ?_ ?_)))
      · refine br_d h (fun h => ?_) (fun h => ?_)
        · refine ob_t ?_
          exact ret_s h (fun e => by subst e; exact (by repeat' (first | exact trivial | exact ⟨rfl⟩ | refine And.intro ?_ ?_)))
        · refine ob_t ?_
          exact ret_s h (fun e => by subst e; exact (by repeat' (first | exact trivial | exact ⟨rfl⟩ | refine And.intro ?_ ?_)))
set_option maxRecDepth 100000 in
theorem cmp_Compare_uint64_ok : SpecOK Try.prog 132 true (pureK k_cmp_Compare_uint64 g_cmp_Compare_uint64) := by
  refine pureK_ok (sp := (sp_136 sp0)) (fn := Try.f132) (body := bodyOf Try.f132) mixed (sp_136_ok sp0_ok) Try.func132 (by kernel_rfl) (by kernel_rfl) fun as_ ob rs h ho => ?_
  unfold g_cmp_Compare_uint64 at h
  split at h
  · rename_i x_ y_
    cases h
    exact ⟨Nat.le_of_ble_eq_true rfl, _, _, cmp_Compare_uint64_vc x_ y_ _ (ok_some ho)⟩
  · cases h
theorem sp_132_ok {sp : Specs} (h : SpecsOK Try.prog sp) : SpecsOK Try.prog (sp_132 sp) := addK_ok cmp_Compare_uint64_ok h

def slices_Compare_uint64_b0 (s1 : List Int) (s2 : List Int) (x0 : Int) : Option (Int ⊕ (Int ⊕ Unit)) :=
  if x0 < (↑(List.length s1) : Int) then
   if (0 : Int) ≤ x0 ∧ x0 < (↑(List.length s1) : Int) then
    if Int.toNat x0 < List.length s1 then
     if x0 ≥ (↑(List.length s2) : Int) then
      some (.inr ((.inl (1 : Int))))
     else
      if (0 : Int) ≤ x0 ∧ x0 < (↑(List.length s2) : Int) then
       if Int.toNat x0 < List.length s2 then
        Option.bind (cmp_Compare_uint64 (List.getD s1 (Int.toNat x0) (0 : Int)) (List.getD s2 (Int.toNat x0) (0 : Int))) fun r0 =>
        if (r0 != (0 : Int)) = true then
         some (.inr (.inl r0))
        else
         some (.inl (IntKind.wrap IntKind.i64 (x0 + (1 : Int))))
       else none
      else none
    else none
   else none
  else
   some (.inr ((.inr ())))
def slices_Compare_uint64_r0_0 (s1 : List Int) (s2 : List Int) (y0_0 : Int) : Option Int :=
  some y0_0
def slices_Compare_uint64_r0_1 (s1 : List Int) (s2 : List Int) (y0_1 : Unit) : Option Int :=
  if (↑(List.length s1) : Int) < (↑(List.length s2) : Int) then
   some (-1 : Int)
  else
   some (0 : Int)
def slices_Compare_uint64_r0 (s1 : List Int) (s2 : List Int) : (Int ⊕ Unit) → Option Int :=
  (Sum.elim (slices_Compare_uint64_r0_0 s1 s2) (slices_Compare_uint64_r0_1 s1 s2))
/-- slices.Compare[[]uint64,uint64] -/
def slices_Compare_uint64 (s1 : List Int) (s2 : List Int) : Option Int :=
  Option.bind (iter (slices_Compare_uint64_b0 s1 s2) big (0 : Int)) (slices_Compare_uint64_r0 s1 s2)
def g_slices_Compare_uint64 : List A → Option (Prop × List RV)
  | [.r (.ints .u64 s1), .r (.ints .u64 s2)] => some (ok (slices_Compare_uint64 s1 s2), [.d (.i .i64 ((val (slices_Compare_uint64 s1 s2))))])
  | _ => none
def k_slices_Compare_uint64 : List (Option Cont) := [some (.ints .u64 []), some (.ints .u64 [])]
abbrev sp_119 : Specs → Specs := addK 119 true (pureK k_slices_Compare_uint64 g_slices_Compare_uint64)
set_option maxRecDepth 100000 in
theorem slices_Compare_uint64_vc (s1 : List Int) (s2 : List Int) (r : Int) (h : Option.bind (slices_Compare_uint64 s1 s2) some = some r) : runF Try.f119 ((sp_132 sp0)) (fun gs id _ => match id with
 | 0 => some ⟨Int × Nat, fun z => ⟨[(0, .w (.c (.o 0))), (1, .w (.c (.o 1))), (9, .w (.c (.o 0))), (10, .w (.c (.d (.i .i64 ((↑(List.length s1) : Int)))))), (11, .w (.c (.d (.i .i64 (Prod.fst z)))))], [(0, .ext (.ints .u64 s1)), (1, .ext (.ints .u64 s2))], 2⟩, fun z => Option.bind (iter (slices_Compare_uint64_b0 s1 s2) (Prod.snd z) (Prod.fst z)) (fun y0 => Option.bind (slices_Compare_uint64_r0 s1 s2 y0) some) = some r, fun z => Prod.snd z⟩
 | _ => none) [.r (.ints .u64 s1), .r (.ints .u64 s2)] [.d (.i .i64 r)] := by
  refine Eq.mp (by kernel_rfl : (
  ((∃ (v0 : Int × Nat), (Ob ((Option.bind (iter (slices_Compare_uint64_b0 s1 s2) v0.2 v0.1) fun y0 => Option.bind (slices_Compare_uint64_r0 s1 s2 y0) some) = some r) ∧
   (Ob ((↑(List.length s1) : Int) = (↑(List.length s1) : Int)) ∧
   (Ob ((0 : Int) = v0.1) ∧
   (Ob (s1 = s1) ∧
   (Ob (s2 = s2) ∧
   True)))))) ∧
   (∀ (v0 : Int × Nat), ((Option.bind (iter (slices_Compare_uint64_b0 s1 s2) v0.2 v0.1) fun y0 => Option.bind (slices_Compare_uint64_r0 s1 s2 y0) some) = some r →
   Br (decide (v0.1 < (↑(List.length s1) : Int)))
   ((Ob ((0 : Int) ≤ v0.1 ∧ v0.1 < (↑(List.length s1) : Int)) ∧
   (Ob (Int.toNat v0.1 < List.length s1) ∧
   Br (decide (v0.1 ≥ (↑(List.length s2) : Int)))
   ((Ob (True) ∧
   (Ob ((1 : Int) = r) ∧
   True)))
   ((Ob ((0 : Int) ≤ v0.1 ∧ v0.1 < (↑(List.length s2) : Int)) ∧
   (Ob (Int.toNat v0.1 < List.length s2) ∧
   (Ob (ok (cmp_Compare_uint64 (List.getD s1 (Int.toNat v0.1) (0 : Int)) (List.getD s2 (Int.toNat v0.1) (0 : Int)))) ∧
   Br (val (cmp_Compare_uint64 (List.getD s1 (Int.toNat v0.1) (0 : Int)) (List.getD s2 (Int.toNat v0.1) (0 : Int))) != (0 : Int))
   ((Ob (True) ∧
   (Ob (val (cmp_Compare_uint64 (List.getD s1 (Int.toNat v0.1) (0 : Int)) (List.getD s2 (Int.toNat v0.1) (0 : Int))) = r) ∧
   True)))
   ((∃ (v1 : Int × Nat), (Ob ((Option.bind (iter (slices_Compare_uint64_b0 s1 s2) v1.2 v1.1) fun y0 => Option.bind (slices_Compare_uint64_r0 s1 s2 y0) some) = some r) ∧
   (Ob (v1.2 < v0.2) ∧
   (Ob ((↑(List.length s1) : Int) = (↑(List.length s1) : Int)) ∧
   (Ob (IntKind.wrap IntKind.i64 (v0.1 + (1 : Int)) = v1.1) ∧
   (Ob (s1 = s1) ∧
   (Ob (s2 = s2) ∧
   True)))))))))))))))
   (Br (decide ((↑(List.length s1) : Int) < (↑(List.length s2) : Int)))
   ((Ob (True) ∧
   (Ob ((-1 : Int) = r) ∧
   True)))
   ((Ob (True) ∧
   (Ob ((0 : Int) = r) ∧
   True)))))))) = _) ?_
  refine ⟨⟨((0 : Int), big), ⟨loop_s h⟩, (by repeat' (first | exact trivial | exact ⟨rfl⟩ | refine And.intro ?_ ?_))⟩, fun z1 hz1 => ?_⟩
  obtain ⟨k1, hm1, h⟩ := iter_pos hz1
  refine br_d h (fun h => ?_) (fun h => ?_)
  · refine ob_s h fun h => ?_
    refine ob_s h fun h => ?_
    refine br_d h (fun h => ?_) (fun h => ?_)
    · have h := exit_s h
      refine ob_t ?_
      exact ret_s h (fun e => by subst e; exact (by repeat' (first | exact trivial | exact ⟨rfl⟩ | refine And.intro ?_ ?_)))
    · refine ob_s h fun h => ?_
      refine ob_s h fun h => ?_
      refine call_s h fun h => ?_
      refine br_b h (fun h => ?_) (fun h => ?_)
      · have h := exit_s h
        refine ob_t ?_
        exact ret_s h (fun e => by subst e; exact (by repeat' (first | exact trivial | exact ⟨rfl⟩ | refine And.intro ?_ ?_)))
      · exact ⟨(IntKind.wrap IntKind.i64 (Prod.fst z1 + (1 : Int)), k1), ⟨next_s h⟩, ⟨lt_gs hm1.symm⟩, (by repeat' (first | exact trivial | exact ⟨rfl⟩ | refine And.intro ?_ ?_))⟩
  · have h := exit_s h
    refine br_d h (fun h => ?_) (fun h => ?_)
    · refine ob_t ?_
      exact ret_s h (fun e => by subst e; exact (by repeat' (first | exact trivial | exact ⟨rfl⟩ | refine And.intro ?_ ?_)))
    · refine ob_t ?_
      exact ret_s h (fun e => by subst e; exact (by repeat' (first | exact trivial | exact ⟨rfl⟩ | refine And.intro ?_ ?_)))
set_option maxRecDepth 100000 in
theorem slices_Compare_uint64_ok : SpecOK Try.prog 119 true (pureK k_slices_Compare_uint64 g_slices_Compare_uint64) := by
  refine pureK_ok (sp := (sp_132 sp0)) (fn := Try.f119) (body := bodyOf Try.f119) mixed (sp_132_ok sp0_ok) Try.func119 (by kernel_rfl) (by kernel_rfl) fun as_ ob rs h ho => ?_
  unfold g_slices_Compare_uint64 at h
  split at h
  · rename_i s1 s2
    cases h
    exact ⟨Nat.le_of_ble_eq_true rfl, _, _, slices_Compare_uint64_vc s1 s2 _ (ok_some ho)⟩
  · cases h
theorem sp_119_ok {sp : Specs} (h : SpecsOK Try.prog sp) : SpecsOK Try.prog (sp_119 sp) := addK_ok slices_Compare_uint64_ok h

/-- shoebox/filter.CompareGain -/
def F_CompareGain (sB0 : Int) (sB1 : Int) (sB2 : Int) (sA0 : Int) (sA1 : Int) (tP : Int) (tQ : Int) (tR : Int) (fNum : Int) (fDen : Int) : Option (Int × Int) :=
  Option.bind (F_fracErr fNum fDen) fun r0 =>
  if List.length [Sx06.chkS sB0 sB1 sB2 sA0 sA1, Sx06.turnE tP tQ tR, r0, if decide (fNum ≥ (0 : Int)) = true then (0 : Int) else (2 : Int)] ≤ (1000000 : Nat) then
   if (Option.getD (List.find? (fun x => x != (0 : Int)) [Sx06.chkS sB0 sB1 sB2 sA0 sA1, Sx06.turnE tP tQ tR, r0, if decide (fNum ≥ (0 : Int)) = true then (0 : Int) else (2 : Int)]) (0 : Int) != (0 : Int)) = true then
    some (((0 : Int), Option.getD (List.find? (fun x => x != (0 : Int)) [Sx06.chkS sB0 sB1 sB2 sA0 sA1, Sx06.turnE tP tQ tR, r0, if decide (fNum ≥ (0 : Int)) = true then (0 : Int) else (2 : Int)]) (0 : Int)))
   else
    if Sx06.secB sB0 sB1 sB2 sA0 sA1 = true ∧ ((-100 : Int) ≤ tP ∧ tP ≤ (100 : Int)) ∧ ((-100 : Int) ≤ tQ ∧ tQ ≤ (100 : Int)) ∧ (-100 : Int) ≤ tR ∧ tR ≤ (100 : Int) then
     if (Sx06.sqS (16384 : Int) sA0 sA1 tP tQ tR == (0 : Int)) = true then
      some (((0 : Int), (11 : Int)))
     else
      Option.bind (math_bits_Mul64 (IntKind.wrap IntKind.u64 (Sx06.sqS sB0 sB1 sB2 tP tQ tR)) (IntKind.wrap IntKind.u64 fDen)) fun r1 =>
      Option.bind (math_bits_Mul64 (IntKind.wrap IntKind.u64 fNum) (IntKind.wrap IntKind.u64 (Sx06.sqS (16384 : Int) sA0 sA1 tP tQ tR))) fun r2 =>
      Option.bind (slices_Compare_uint64 [IntKind.wrap IntKind.u64 (IntKind.wrap IntKind.u64 (IntKind.wrap IntKind.u64 (Int.fdiv (IntKind.wrap IntKind.u64 (Sx06.sqS sB0 sB1 sB2 tP tQ tR)) ((2 : Int) ^ min (32 : Nat) (IntKind.bits IntKind.u64)) * Int.fdiv (IntKind.wrap IntKind.u64 fDen) ((2 : Int) ^ min (32 : Nat) (IntKind.bits IntKind.u64))) + Int.fdiv (IntKind.wrap IntKind.u64 (IntKind.wrap IntKind.u64 (Int.fdiv (IntKind.wrap IntKind.u64 (Sx06.sqS sB0 sB1 sB2 tP tQ tR)) ((2 : Int) ^ min (32 : Nat) (IntKind.bits IntKind.u64)) * IntKind.wrap IntKind.u64 (↑(BitVec.toNat (BitVec.ofInt (IntKind.bits IntKind.u64) (IntKind.wrap IntKind.u64 fDen) &&& BitVec.ofInt (IntKind.bits IntKind.u64) (4294967295 : Int))) : Int)) + Int.fdiv (IntKind.wrap IntKind.u64 (IntKind.wrap IntKind.u64 (↑(BitVec.toNat (BitVec.ofInt (IntKind.bits IntKind.u64) (IntKind.wrap IntKind.u64 (Sx06.sqS sB0 sB1 sB2 tP tQ tR)) &&& BitVec.ofInt (IntKind.bits IntKind.u64) (4294967295 : Int))) : Int) * IntKind.wrap IntKind.u64 (↑(BitVec.toNat (BitVec.ofInt (IntKind.bits IntKind.u64) (IntKind.wrap IntKind.u64 fDen) &&& BitVec.ofInt (IntKind.bits IntKind.u64) (4294967295 : Int))) : Int))) ((2 : Int) ^ min (32 : Nat) (IntKind.bits IntKind.u64)))) ((2 : Int) ^ min (32 : Nat) (IntKind.bits IntKind.u64))) + Int.fdiv (IntKind.wrap IntKind.u64 (IntKind.wrap IntKind.u64 (↑(BitVec.toNat (BitVec.ofInt (IntKind.bits IntKind.u64) (IntKind.wrap IntKind.u64 (IntKind.wrap IntKind.u64 (Int.fdiv (IntKind.wrap IntKind.u64 (Sx06.sqS sB0 sB1 sB2 tP tQ tR)) ((2 : Int) ^ min (32 : Nat) (IntKind.bits IntKind.u64)) * IntKind.wrap IntKind.u64 (↑(BitVec.toNat (BitVec.ofInt (IntKind.bits IntKind.u64) (IntKind.wrap IntKind.u64 fDen) &&& BitVec.ofInt (IntKind.bits IntKind.u64) (4294967295 : Int))) : Int)) + Int.fdiv (IntKind.wrap IntKind.u64 (IntKind.wrap IntKind.u64 (↑(BitVec.toNat (BitVec.ofInt (IntKind.bits IntKind.u64) (IntKind.wrap IntKind.u64 (Sx06.sqS sB0 sB1 sB2 tP tQ tR)) &&& BitVec.ofInt (IntKind.bits IntKind.u64) (4294967295 : Int))) : Int) * IntKind.wrap IntKind.u64 (↑(BitVec.toNat (BitVec.ofInt (IntKind.bits IntKind.u64) (IntKind.wrap IntKind.u64 fDen) &&& BitVec.ofInt (IntKind.bits IntKind.u64) (4294967295 : Int))) : Int))) ((2 : Int) ^ min (32 : Nat) (IntKind.bits IntKind.u64)))) &&& BitVec.ofInt (IntKind.bits IntKind.u64) (4294967295 : Int))) : Int) + IntKind.wrap IntKind.u64 (IntKind.wrap IntKind.u64 (↑(BitVec.toNat (BitVec.ofInt (IntKind.bits IntKind.u64) (IntKind.wrap IntKind.u64 (Sx06.sqS sB0 sB1 sB2 tP tQ tR)) &&& BitVec.ofInt (IntKind.bits IntKind.u64) (4294967295 : Int))) : Int) * Int.fdiv (IntKind.wrap IntKind.u64 fDen) ((2 : Int) ^ min (32 : Nat) (IntKind.bits IntKind.u64))))) ((2 : Int) ^ min (32 : Nat) (IntKind.bits IntKind.u64))), IntKind.wrap IntKind.u64 (IntKind.wrap IntKind.u64 (Sx06.sqS sB0 sB1 sB2 tP tQ tR) * IntKind.wrap IntKind.u64 fDen)] [IntKind.wrap IntKind.u64 (IntKind.wrap IntKind.u64 (IntKind.wrap IntKind.u64 (Int.fdiv (IntKind.wrap IntKind.u64 fNum) ((2 : Int) ^ min (32 : Nat) (IntKind.bits IntKind.u64)) * Int.fdiv (IntKind.wrap IntKind.u64 (Sx06.sqS (16384 : Int) sA0 sA1 tP tQ tR)) ((2 : Int) ^ min (32 : Nat) (IntKind.bits IntKind.u64))) + Int.fdiv (IntKind.wrap IntKind.u64 (IntKind.wrap IntKind.u64 (Int.fdiv (IntKind.wrap IntKind.u64 fNum) ((2 : Int) ^ min (32 : Nat) (IntKind.bits IntKind.u64)) * IntKind.wrap IntKind.u64 (↑(BitVec.toNat (BitVec.ofInt (IntKind.bits IntKind.u64) (IntKind.wrap IntKind.u64 (Sx06.sqS (16384 : Int) sA0 sA1 tP tQ tR)) &&& BitVec.ofInt (IntKind.bits IntKind.u64) (4294967295 : Int))) : Int)) + Int.fdiv (IntKind.wrap IntKind.u64 (IntKind.wrap IntKind.u64 (↑(BitVec.toNat (BitVec.ofInt (IntKind.bits IntKind.u64) (IntKind.wrap IntKind.u64 fNum) &&& BitVec.ofInt (IntKind.bits IntKind.u64) (4294967295 : Int))) : Int) * IntKind.wrap IntKind.u64 (↑(BitVec.toNat (BitVec.ofInt (IntKind.bits IntKind.u64) (IntKind.wrap IntKind.u64 (Sx06.sqS (16384 : Int) sA0 sA1 tP tQ tR)) &&& BitVec.ofInt (IntKind.bits IntKind.u64) (4294967295 : Int))) : Int))) ((2 : Int) ^ min (32 : Nat) (IntKind.bits IntKind.u64)))) ((2 : Int) ^ min (32 : Nat) (IntKind.bits IntKind.u64))) + Int.fdiv (IntKind.wrap IntKind.u64 (IntKind.wrap IntKind.u64 (↑(BitVec.toNat (BitVec.ofInt (IntKind.bits IntKind.u64) (IntKind.wrap IntKind.u64 (IntKind.wrap IntKind.u64 (Int.fdiv (IntKind.wrap IntKind.u64 fNum) ((2 : Int) ^ min (32 : Nat) (IntKind.bits IntKind.u64)) * IntKind.wrap IntKind.u64 (↑(BitVec.toNat (BitVec.ofInt (IntKind.bits IntKind.u64) (IntKind.wrap IntKind.u64 (Sx06.sqS (16384 : Int) sA0 sA1 tP tQ tR)) &&& BitVec.ofInt (IntKind.bits IntKind.u64) (4294967295 : Int))) : Int)) + Int.fdiv (IntKind.wrap IntKind.u64 (IntKind.wrap IntKind.u64 (↑(BitVec.toNat (BitVec.ofInt (IntKind.bits IntKind.u64) (IntKind.wrap IntKind.u64 fNum) &&& BitVec.ofInt (IntKind.bits IntKind.u64) (4294967295 : Int))) : Int) * IntKind.wrap IntKind.u64 (↑(BitVec.toNat (BitVec.ofInt (IntKind.bits IntKind.u64) (IntKind.wrap IntKind.u64 (Sx06.sqS (16384 : Int) sA0 sA1 tP tQ tR)) &&& BitVec.ofInt (IntKind.bits IntKind.u64) (4294967295 : Int))) : Int))) ((2 : Int) ^ min (32 : Nat) (IntKind.bits IntKind.u64)))) &&& BitVec.ofInt (IntKind.bits IntKind.u64) (4294967295 : Int))) : Int) + IntKind.wrap IntKind.u64 (IntKind.wrap IntKind.u64 (↑(BitVec.toNat (BitVec.ofInt (IntKind.bits IntKind.u64) (IntKind.wrap IntKind.u64 fNum) &&& BitVec.ofInt (IntKind.bits IntKind.u64) (4294967295 : Int))) : Int) * Int.fdiv (IntKind.wrap IntKind.u64 (Sx06.sqS (16384 : Int) sA0 sA1 tP tQ tR)) ((2 : Int) ^ min (32 : Nat) (IntKind.bits IntKind.u64))))) ((2 : Int) ^ min (32 : Nat) (IntKind.bits IntKind.u64))), IntKind.wrap IntKind.u64 (IntKind.wrap IntKind.u64 fNum * IntKind.wrap IntKind.u64 (Sx06.sqS (16384 : Int) sA0 sA1 tP tQ tR))]) fun r3 =>
      some ((r3, (0 : Int)))
    else none
  else none
def g_F_CompareGain : List A → Option (Prop × List RV)
  | [.s [.i .i64 sB0, .i .i64 sB1, .i .i64 sB2, .i .i64 sA0, .i .i64 sA1], .s [.i .i64 tP, .i .i64 tQ, .i .i64 tR], .s [.i .i64 fNum, .i .i64 fDen]] => some (ok (F_CompareGain sB0 sB1 sB2 sA0 sA1 tP tQ tR fNum fDen), [.d (.i .i64 ((val (F_CompareGain sB0 sB1 sB2 sA0 sA1 tP tQ tR fNum fDen)).1)), .d (.i .i64 ((val (F_CompareGain sB0 sB1 sB2 sA0 sA1 tP tQ tR fNum fDen)).2))])
  | _ => none
def k_F_CompareGain : List (Option Cont) := [none, none, none]
abbrev sp_75 : Specs → Specs := addK 75 true (pureK k_F_CompareGain g_F_CompareGain)
set_option maxRecDepth 100000 in
theorem F_CompareGain_vc (sB0 : Int) (sB1 : Int) (sB2 : Int) (sA0 : Int) (sA1 : Int) (tP : Int) (tQ : Int) (tR : Int) (fNum : Int) (fDen : Int) (r : Int × Int) (h : Option.bind (F_CompareGain sB0 sB1 sB2 sA0 sA1 tP tQ tR fNum fDen) some = some r) : runF Try.f75 ((sp_57 (sp_97 (sp_94 (sp_87 (sp_85 (sp_98 (sp_118 (sp_119 sp0))))))))) (fun _ _ _ => none) [.s [.i .i64 sB0, .i .i64 sB1, .i .i64 sB2, .i .i64 sA0, .i .i64 sA1], .s [.i .i64 tP, .i .i64 tQ, .i .i64 tR], .s [.i .i64 fNum, .i .i64 fDen]] [.d (.i .i64 r.1), .d (.i .i64 r.2)] := by
  refine Eq.mp (by kernel_rfl : (
  (Ob (True) ∧
   (Ob (True) ∧
   (Ob (ok (F_fracErr fNum fDen)) ∧
   (Ob (True) ∧
   (Ob (List.length [Sx06.chkS sB0 sB1 sB2 sA0 sA1, Sx06.turnE tP tQ tR, val (F_fracErr fNum fDen), if decide (fNum ≥ (0 : Int)) = true then (0 : Int) else (2 : Int)] ≤ (1000000 : Nat)) ∧
   Br (Option.getD (List.find? (fun x => x != (0 : Int)) [Sx06.chkS sB0 sB1 sB2 sA0 sA1, Sx06.turnE tP tQ tR, val (F_fracErr fNum fDen), if decide (fNum ≥ (0 : Int)) = true then (0 : Int) else (2 : Int)]) (0 : Int) != (0 : Int))
   ((Ob (True) ∧
   (Ob (True) ∧
   (Ob ((0 : Int) = r.1) ∧
   (Ob (Option.getD (List.find? (fun x => x != (0 : Int)) [Sx06.chkS sB0 sB1 sB2 sA0 sA1, Sx06.turnE tP tQ tR, val (F_fracErr fNum fDen), if decide (fNum ≥ (0 : Int)) = true then (0 : Int) else (2 : Int)]) (0 : Int) = r.2) ∧
   True)))))
   ((Ob (Sx06.secB sB0 sB1 sB2 sA0 sA1 = true ∧ ((-100 : Int) ≤ tP ∧ tP ≤ (100 : Int)) ∧ ((-100 : Int) ≤ tQ ∧ tQ ≤ (100 : Int)) ∧ (-100 : Int) ≤ tR ∧ tR ≤ (100 : Int)) ∧
   Br (Sx06.sqS (16384 : Int) sA0 sA1 tP tQ tR == (0 : Int))
   ((Ob (True) ∧
   (Ob (True) ∧
   (Ob ((0 : Int) = r.1) ∧
   (Ob ((11 : Int) = r.2) ∧
   True)))))
   ((Ob (True) ∧
   (Ob (True) ∧
   (Ob (ok (math_bits_Mul64 (IntKind.wrap IntKind.u64 (Sx06.sqS sB0 sB1 sB2 tP tQ tR)) (IntKind.wrap IntKind.u64 fDen))) ∧
   (Ob (True) ∧
   (Ob (True) ∧
   (Ob (ok (math_bits_Mul64 (IntKind.wrap IntKind.u64 fNum) (IntKind.wrap IntKind.u64 (Sx06.sqS (16384 : Int) sA0 sA1 tP tQ tR)))) ∧
   (Ob (ok (slices_Compare_uint64 [IntKind.wrap IntKind.u64 (IntKind.wrap IntKind.u64 (IntKind.wrap IntKind.u64 (Int.fdiv (IntKind.wrap IntKind.u64 (Sx06.sqS sB0 sB1 sB2 tP tQ tR)) ((2 : Int) ^ min (32 : Nat) (IntKind.bits IntKind.u64)) * Int.fdiv (IntKind.wrap IntKind.u64 fDen) ((2 : Int) ^ min (32 : Nat) (IntKind.bits IntKind.u64))) + Int.fdiv (IntKind.wrap IntKind.u64 (IntKind.wrap IntKind.u64 (Int.fdiv (IntKind.wrap IntKind.u64 (Sx06.sqS sB0 sB1 sB2 tP tQ tR)) ((2 : Int) ^ min (32 : Nat) (IntKind.bits IntKind.u64)) * IntKind.wrap IntKind.u64 (↑(BitVec.toNat (BitVec.ofInt (IntKind.bits IntKind.u64) (IntKind.wrap IntKind.u64 fDen) &&& BitVec.ofInt (IntKind.bits IntKind.u64) (4294967295 : Int))) : Int)) + Int.fdiv (IntKind.wrap IntKind.u64 (IntKind.wrap IntKind.u64 (↑(BitVec.toNat (BitVec.ofInt (IntKind.bits IntKind.u64) (IntKind.wrap IntKind.u64 (Sx06.sqS sB0 sB1 sB2 tP tQ tR)) &&& BitVec.ofInt (IntKind.bits IntKind.u64) (4294967295 : Int))) : Int) * IntKind.wrap IntKind.u64 (↑(BitVec.toNat (BitVec.ofInt (IntKind.bits IntKind.u64) (IntKind.wrap IntKind.u64 fDen) &&& BitVec.ofInt (IntKind.bits IntKind.u64) (4294967295 : Int))) : Int))) ((2 : Int) ^ min (32 : Nat) (IntKind.bits IntKind.u64)))) ((2 : Int) ^ min (32 : Nat) (IntKind.bits IntKind.u64))) + Int.fdiv (IntKind.wrap IntKind.u64 (IntKind.wrap IntKind.u64 (↑(BitVec.toNat (BitVec.ofInt (IntKind.bits IntKind.u64) (IntKind.wrap IntKind.u64 (IntKind.wrap IntKind.u64 (Int.fdiv (IntKind.wrap IntKind.u64 (Sx06.sqS sB0 sB1 sB2 tP tQ tR)) ((2 : Int) ^ min (32 : Nat) (IntKind.bits IntKind.u64)) * IntKind.wrap IntKind.u64 (↑(BitVec.toNat (BitVec.ofInt (IntKind.bits IntKind.u64) (IntKind.wrap IntKind.u64 fDen) &&& BitVec.ofInt (IntKind.bits IntKind.u64) (4294967295 : Int))) : Int)) + Int.fdiv (IntKind.wrap IntKind.u64 (IntKind.wrap IntKind.u64 (↑(BitVec.toNat (BitVec.ofInt (IntKind.bits IntKind.u64) (IntKind.wrap IntKind.u64 (Sx06.sqS sB0 sB1 sB2 tP tQ tR)) &&& BitVec.ofInt (IntKind.bits IntKind.u64) (4294967295 : Int))) : Int) * IntKind.wrap IntKind.u64 (↑(BitVec.toNat (BitVec.ofInt (IntKind.bits IntKind.u64) (IntKind.wrap IntKind.u64 fDen) &&& BitVec.ofInt (IntKind.bits IntKind.u64) (4294967295 : Int))) : Int))) ((2 : Int) ^ min (32 : Nat) (IntKind.bits IntKind.u64)))) &&& BitVec.ofInt (IntKind.bits IntKind.u64) (4294967295 : Int))) : Int) + IntKind.wrap IntKind.u64 (IntKind.wrap IntKind.u64 (↑(BitVec.toNat (BitVec.ofInt (IntKind.bits IntKind.u64) (IntKind.wrap IntKind.u64 (Sx06.sqS sB0 sB1 sB2 tP tQ tR)) &&& BitVec.ofInt (IntKind.bits IntKind.u64) (4294967295 : Int))) : Int) * Int.fdiv (IntKind.wrap IntKind.u64 fDen) ((2 : Int) ^ min (32 : Nat) (IntKind.bits IntKind.u64))))) ((2 : Int) ^ min (32 : Nat) (IntKind.bits IntKind.u64))), IntKind.wrap IntKind.u64 (IntKind.wrap IntKind.u64 (Sx06.sqS sB0 sB1 sB2 tP tQ tR) * IntKind.wrap IntKind.u64 fDen)] [IntKind.wrap IntKind.u64 (IntKind.wrap IntKind.u64 (IntKind.wrap IntKind.u64 (Int.fdiv (IntKind.wrap IntKind.u64 fNum) ((2 : Int) ^ min (32 : Nat) (IntKind.bits IntKind.u64)) * Int.fdiv (IntKind.wrap IntKind.u64 (Sx06.sqS (16384 : Int) sA0 sA1 tP tQ tR)) ((2 : Int) ^ min (32 : Nat) (IntKind.bits IntKind.u64))) + Int.fdiv (IntKind.wrap IntKind.u64 (IntKind.wrap IntKind.u64 (Int.fdiv (IntKind.wrap IntKind.u64 fNum) ((2 : Int) ^ min (32 : Nat) (IntKind.bits IntKind.u64)) * IntKind.wrap IntKind.u64 (↑(BitVec.toNat (BitVec.ofInt (IntKind.bits IntKind.u64) (IntKind.wrap IntKind.u64 (Sx06.sqS (16384 : Int) sA0 sA1 tP tQ tR)) &&& BitVec.ofInt (IntKind.bits IntKind.u64) (4294967295 : Int))) : Int)) + Int.fdiv (IntKind.wrap IntKind.u64 (IntKind.wrap IntKind.u64 (↑(BitVec.toNat (BitVec.ofInt (IntKind.bits IntKind.u64) (IntKind.wrap IntKind.u64 fNum) &&& BitVec.ofInt (IntKind.bits IntKind.u64) (4294967295 : Int))) : Int) * IntKind.wrap IntKind.u64 (↑(BitVec.toNat (BitVec.ofInt (IntKind.bits IntKind.u64) (IntKind.wrap IntKind.u64 (Sx06.sqS (16384 : Int) sA0 sA1 tP tQ tR)) &&& BitVec.ofInt (IntKind.bits IntKind.u64) (4294967295 : Int))) : Int))) ((2 : Int) ^ min (32 : Nat) (IntKind.bits IntKind.u64)))) ((2 : Int) ^ min (32 : Nat) (IntKind.bits IntKind.u64))) + Int.fdiv (IntKind.wrap IntKind.u64 (IntKind.wrap IntKind.u64 (↑(BitVec.toNat (BitVec.ofInt (IntKind.bits IntKind.u64) (IntKind.wrap IntKind.u64 (IntKind.wrap IntKind.u64 (Int.fdiv (IntKind.wrap IntKind.u64 fNum) ((2 : Int) ^ min (32 : Nat) (IntKind.bits IntKind.u64)) * IntKind.wrap IntKind.u64 (↑(BitVec.toNat (BitVec.ofInt (IntKind.bits IntKind.u64) (IntKind.wrap IntKind.u64 (Sx06.sqS (16384 : Int) sA0 sA1 tP tQ tR)) &&& BitVec.ofInt (IntKind.bits IntKind.u64) (4294967295 : Int))) : Int)) + Int.fdiv (IntKind.wrap IntKind.u64 (IntKind.wrap IntKind.u64 (↑(BitVec.toNat (BitVec.ofInt (IntKind.bits IntKind.u64) (IntKind.wrap IntKind.u64 fNum) &&& BitVec.ofInt (IntKind.bits IntKind.u64) (4294967295 : Int))) : Int) * IntKind.wrap IntKind.u64 (↑(BitVec.toNat (BitVec.ofInt (IntKind.bits IntKind.u64) (IntKind.wrap IntKind.u64 (Sx06.sqS (16384 : Int) sA0 sA1 tP tQ tR)) &&& BitVec.ofInt (IntKind.bits IntKind.u64) (4294967295 : Int))) : Int))) ((2 : Int) ^ min (32 : Nat) (IntKind.bits IntKind.u64)))) &&& BitVec.ofInt (IntKind.bits IntKind.u64) (4294967295 : Int))) : Int) + IntKind.wrap IntKind.u64 (IntKind.wrap IntKind.u64 (↑(BitVec.toNat (BitVec.ofInt (IntKind.bits IntKind.u64) (IntKind.wrap IntKind.u64 fNum) &&& BitVec.ofInt (IntKind.bits IntKind.u64) (4294967295 : Int))) : Int) * Int.fdiv (IntKind.wrap IntKind.u64 (Sx06.sqS (16384 : Int) sA0 sA1 tP tQ tR)) ((2 : Int) ^ min (32 : Nat) (IntKind.bits IntKind.u64))))) ((2 : Int) ^ min (32 : Nat) (IntKind.bits IntKind.u64))), IntKind.wrap IntKind.u64 (IntKind.wrap IntKind.u64 fNum * IntKind.wrap IntKind.u64 (Sx06.sqS (16384 : Int) sA0 sA1 tP tQ tR))])) ∧
   (Ob (True) ∧
   (Ob (True) ∧
   (Ob (val (slices_Compare_uint64 [IntKind.wrap IntKind.u64 (IntKind.wrap IntKind.u64 (IntKind.wrap IntKind.u64 (Int.fdiv (IntKind.wrap IntKind.u64 (Sx06.sqS sB0 sB1 sB2 tP tQ tR)) ((2 : Int) ^ min (32 : Nat) (IntKind.bits IntKind.u64)) * Int.fdiv (IntKind.wrap IntKind.u64 fDen) ((2 : Int) ^ min (32 : Nat) (IntKind.bits IntKind.u64))) + Int.fdiv (IntKind.wrap IntKind.u64 (IntKind.wrap IntKind.u64 (Int.fdiv (IntKind.wrap IntKind.u64 (Sx06.sqS sB0 sB1 sB2 tP tQ tR)) ((2 : Int) ^ min (32 : Nat) (IntKind.bits IntKind.u64)) * IntKind.wrap IntKind.u64 (↑(BitVec.toNat (BitVec.ofInt (IntKind.bits IntKind.u64) (IntKind.wrap IntKind.u64 fDen) &&& BitVec.ofInt (IntKind.bits IntKind.u64) (4294967295 : Int))) : Int)) + Int.fdiv (IntKind.wrap IntKind.u64 (IntKind.wrap IntKind.u64 (↑(BitVec.toNat (BitVec.ofInt (IntKind.bits IntKind.u64) (IntKind.wrap IntKind.u64 (Sx06.sqS sB0 sB1 sB2 tP tQ tR)) &&& BitVec.ofInt (IntKind.bits IntKind.u64) (4294967295 : Int))) : Int) * IntKind.wrap IntKind.u64 (↑(BitVec.toNat (BitVec.ofInt (IntKind.bits IntKind.u64) (IntKind.wrap IntKind.u64 fDen) &&& BitVec.ofInt (IntKind.bits IntKind.u64) (4294967295 : Int))) : Int))) ((2 : Int) ^ min (32 : Nat) (IntKind.bits IntKind.u64)))) ((2 : Int) ^ min (32 : Nat) (IntKind.bits IntKind.u64))) + Int.fdiv (IntKind.wrap IntKind.u64 (IntKind.wrap IntKind.u64 (↑(BitVec.toNat (BitVec.ofInt (IntKind.bits IntKind.u64) (IntKind.wrap IntKind.u64 (IntKind.wrap IntKind.u64 (Int.fdiv (IntKind.wrap IntKind.u64 (Sx06.sqS sB0 sB1 sB2 tP tQ tR)) ((2 : Int) ^ min (32 : Nat) (IntKind.bits IntKind.u64)) * IntKind.wrap IntKind.u64 (↑(BitVec.toNat (BitVec.ofInt (IntKind.bits IntKind.u64) (IntKind.wrap IntKind.u64 fDen) &&& BitVec.ofInt (IntKind.bits IntKind.u64) (4294967295 : Int))) : Int)) + Int.fdiv (IntKind.wrap IntKind.u64 (IntKind.wrap IntKind.u64 (↑(BitVec.toNat (BitVec.ofInt (IntKind.bits IntKind.u64) (IntKind.wrap IntKind.u64 (Sx06.sqS sB0 sB1 sB2 tP tQ tR)) &&& BitVec.ofInt (IntKind.bits IntKind.u64) (4294967295 : Int))) : Int) * IntKind.wrap IntKind.u64 (↑(BitVec.toNat (BitVec.ofInt (IntKind.bits IntKind.u64) (IntKind.wrap IntKind.u64 fDen) &&& BitVec.ofInt (IntKind.bits IntKind.u64) (4294967295 : Int))) : Int))) ((2 : Int) ^ min (32 : Nat) (IntKind.bits IntKind.u64)))) &&& BitVec.ofInt (IntKind.bits IntKind.u64) (4294967295 : Int))) : Int) + IntKind.wrap IntKind.u64 (IntKind.wrap IntKind.u64 (↑(BitVec.toNat (BitVec.ofInt (IntKind.bits IntKind.u64) (IntKind.wrap IntKind.u64 (Sx06.sqS sB0 sB1 sB2 tP tQ tR)) &&& BitVec.ofInt (IntKind.bits IntKind.u64) (4294967295 : Int))) : Int) * Int.fdiv (IntKind.wrap IntKind.u64 fDen) ((2 : Int) ^ min (32 : Nat) (IntKind.bits IntKind.u64))))) ((2 : Int) ^ min (32 : Nat) (IntKind.bits IntKind.u64))), IntKind.wrap IntKind.u64 (IntKind.wrap IntKind.u64 (Sx06.sqS sB0 sB1 sB2 tP tQ tR) * IntKind.wrap IntKind.u64 fDen)] [IntKind.wrap IntKind.u64 (IntKind.wrap IntKind.u64 (IntKind.wrap IntKind.u64 (Int.fdiv (IntKind.wrap IntKind.u64 fNum) ((2 : Int) ^ min (32 : Nat) (IntKind.bits IntKind.u64)) * Int.fdiv (IntKind.wrap IntKind.u64 (Sx06.sqS (16384 : Int) sA0 sA1 tP tQ tR)) ((2 : Int) ^ min (32 : Nat) (IntKind.bits IntKind.u64))) + Int.fdiv (IntKind.wrap IntKind.u64 (IntKind.wrap IntKind.u64 (Int.fdiv (IntKind.wrap IntKind.u64 fNum) ((2 : Int) ^ min (32 : Nat) (IntKind.bits IntKind.u64)) * IntKind.wrap IntKind.u64 (↑(BitVec.toNat (BitVec.ofInt (IntKind.bits IntKind.u64) (IntKind.wrap IntKind.u64 (Sx06.sqS (16384 : Int) sA0 sA1 tP tQ tR)) &&& BitVec.ofInt (IntKind.bits IntKind.u64) (4294967295 : Int))) : Int)) + Int.fdiv (IntKind.wrap IntKind.u64 (IntKind.wrap IntKind.u64 (↑(BitVec.toNat (BitVec.ofInt (IntKind.bits IntKind.u64) (IntKind.wrap IntKind.u64 fNum) &&& BitVec.ofInt (IntKind.bits IntKind.u64) (4294967295 : Int))) : Int) * IntKind.wrap IntKind.u64 (↑(BitVec.toNat (BitVec.ofInt (IntKind.bits IntKind.u64) (IntKind.wrap IntKind.u64 (Sx06.sqS (16384 : Int) sA0 sA1 tP tQ tR)) &&& BitVec.ofInt (IntKind.bits IntKind.u64) (4294967295 : Int))) : Int))) ((2 : Int) ^ min (32 : Nat) (IntKind.bits IntKind.u64)))) ((2 : Int) ^ min (32 : Nat) (IntKind.bits IntKind.u64))) + Int.fdiv (IntKind.wrap IntKind.u64 (IntKind.wrap IntKind.u64 (↑(BitVec.toNat (BitVec.ofInt (IntKind.bits IntKind.u64) (IntKind.wrap IntKind.u64 (IntKind.wrap IntKind.u64 (Int.fdiv (IntKind.wrap IntKind.u64 fNum) ((2 : Int) ^ min (32 : Nat) (IntKind.bits IntKind.u64)) * IntKind.wrap IntKind.u64 (↑(BitVec.toNat (BitVec.ofInt (IntKind.bits IntKind.u64) (IntKind.wrap IntKind.u64 (Sx06.sqS (16384 : Int) sA0 sA1 tP tQ tR)) &&& BitVec.ofInt (IntKind.bits IntKind.u64) (4294967295 : Int))) : Int)) + Int.fdiv (IntKind.wrap IntKind.u64 (IntKind.wrap IntKind.u64 (↑(BitVec.toNat (BitVec.ofInt (IntKind.bits IntKind.u64) (IntKind.wrap IntKind.u64 fNum) &&& BitVec.ofInt (IntKind.bits IntKind.u64) (4294967295 : Int))) : Int) * IntKind.wrap IntKind.u64 (↑(BitVec.toNat (BitVec.ofInt (IntKind.bits IntKind.u64) (IntKind.wrap IntKind.u64 (Sx06.sqS (16384 : Int) sA0 sA1 tP tQ tR)) &&& BitVec.ofInt (IntKind.bits IntKind.u64) (4294967295 : Int))) : Int))) ((2 : Int) ^ min (32 : Nat) (IntKind.bits IntKind.u64)))) &&& BitVec.ofInt (IntKind.bits IntKind.u64) (4294967295 : Int))) : Int) + IntKind.wrap IntKind.u64 (IntKind.wrap IntKind.u64 (↑(BitVec.toNat (BitVec.ofInt (IntKind.bits IntKind.u64) (IntKind.wrap IntKind.u64 fNum) &&& BitVec.ofInt (IntKind.bits IntKind.u64) (4294967295 : Int))) : Int) * Int.fdiv (IntKind.wrap IntKind.u64 (Sx06.sqS (16384 : Int) sA0 sA1 tP tQ tR)) ((2 : Int) ^ min (32 : Nat) (IntKind.bits IntKind.u64))))) ((2 : Int) ^ min (32 : Nat) (IntKind.bits IntKind.u64))), IntKind.wrap IntKind.u64 (IntKind.wrap IntKind.u64 fNum * IntKind.wrap IntKind.u64 (Sx06.sqS (16384 : Int) sA0 sA1 tP tQ tR))]) = r.1) ∧
   (Ob ((0 : Int) = r.2) ∧
   True)))))))))))))))))))) = _) ?_
  refine ob_t ?_
  refine ob_t ?_
  refine call_s h fun h => ?_
  refine ob_t ?_
  refine ob_s h fun h => ?_
  refine br_b h (fun h => ?_) (fun h => ?_)
  · refine ob_t ?_
    refine ob_t ?_
    exact ret_s h (fun e => by subst e; exact (by repeat' (first | exact trivial | exact ⟨rfl⟩ | refine And.intro ?_ ?_)))
  · refine ob_s h fun h => ?_
    refine br_b h (fun h => ?_) (fun h => ?_)
    · refine ob_t ?_
      refine ob_t ?_
      exact ret_s h (fun e => by subst e; exact (by repeat' (first | exact trivial | exact ⟨rfl⟩ | refine And.intro ?_ ?_)))
    · refine ob_t ?_
      refine ob_t ?_
      refine call_s h fun h => ?_
      refine ob_t ?_
      refine ob_t ?_
      refine call_s h fun h => ?_
      refine call_s h fun h => ?_
      refine ob_t ?_
      refine ob_t ?_
      exact ret_s h (fun e => by subst e; exact (by repeat' (first | exact trivial | exact ⟨rfl⟩ | refine And.intro ?_ ?_)))
set_option maxRecDepth 100000 in
theorem F_CompareGain_ok : SpecOK Try.prog 75 true (pureK k_F_CompareGain g_F_CompareGain) := by
  refine pureK_ok (sp := (sp_57 (sp_97 (sp_94 (sp_87 (sp_85 (sp_98 (sp_118 (sp_119 sp0))))))))) (fn := Try.f75) (body := bodyOf Try.f75) mixed (sp_57_ok (sp_97_ok (sp_94_ok (sp_87_ok (sp_85_ok (sp_98_ok (sp_118_ok (sp_119_ok sp0_ok)))))))) Try.func75 (by kernel_rfl) (by kernel_rfl) fun as_ ob rs h ho => ?_
  unfold g_F_CompareGain at h
  split at h
  · rename_i sB0 sB1 sB2 sA0 sA1 tP tQ tR fNum fDen
    cases h
    exact ⟨Nat.le_of_ble_eq_true rfl, _, _, F_CompareGain_vc sB0 sB1 sB2 sA0 sA1 tP tQ tR fNum fDen _ (ok_some ho)⟩
  · cases h
theorem sp_75_ok {sp : Specs} (h : SpecsOK Try.prog sp) : SpecsOK Try.prog (sp_75 sp) := addK_ok F_CompareGain_ok h

/-- shoebox/shoeboxref06.GainSquare -/
def R06_GainSquare (sB0 : Int) (sB1 : Int) (sB2 : Int) (sA0 : Int) (sA1 : Int) (tP : Int) (tQ : Int) (tR : Int) : Option (Int × Int × Int) :=
  Option.bind (R06_Gain sB0 sB1 sB2 sA0 sA1 tP tQ tR) fun r0 =>
  if (IntKind.wrap IntKind.i64 (IntKind.wrap IntKind.i64 (IntKind.wrap IntKind.i64 (IntKind.wrap IntKind.i64 (IntKind.wrap IntKind.i64 ((16384 : Int) * IntKind.wrap IntKind.i64 (IntKind.wrap IntKind.i64 (tP * tP) - IntKind.wrap IntKind.i64 (tQ * tQ))) + IntKind.wrap IntKind.i64 (IntKind.wrap IntKind.i64 (sA0 * tP) * tR)) + IntKind.wrap IntKind.i64 (IntKind.wrap IntKind.i64 (sA1 * tR) * tR)) * IntKind.wrap IntKind.i64 (IntKind.wrap IntKind.i64 (IntKind.wrap IntKind.i64 ((16384 : Int) * IntKind.wrap IntKind.i64 (IntKind.wrap IntKind.i64 (tP * tP) - IntKind.wrap IntKind.i64 (tQ * tQ))) + IntKind.wrap IntKind.i64 (IntKind.wrap IntKind.i64 (sA0 * tP) * tR)) + IntKind.wrap IntKind.i64 (IntKind.wrap IntKind.i64 (sA1 * tR) * tR))) + IntKind.wrap IntKind.i64 (IntKind.wrap IntKind.i64 (IntKind.wrap IntKind.i64 (IntKind.wrap IntKind.i64 (IntKind.wrap IntKind.i64 ((2 : Int) * (16384 : Int)) * tP) * tQ) + IntKind.wrap IntKind.i64 (IntKind.wrap IntKind.i64 (sA0 * tQ) * tR)) * IntKind.wrap IntKind.i64 (IntKind.wrap IntKind.i64 (IntKind.wrap IntKind.i64 (IntKind.wrap IntKind.i64 ((2 : Int) * (16384 : Int)) * tP) * tQ) + IntKind.wrap IntKind.i64 (IntKind.wrap IntKind.i64 (sA0 * tQ) * tR)))) == (0 : Int)) = true then
   some (((0 : Int), (0 : Int), (11 : Int)))
  else
   Option.bind (B_Lowest (IntKind.wrap IntKind.i64 (IntKind.wrap IntKind.i64 (IntKind.wrap IntKind.i64 (IntKind.wrap IntKind.i64 (IntKind.wrap IntKind.i64 (sB0 * IntKind.wrap IntKind.i64 (IntKind.wrap IntKind.i64 (tP * tP) - IntKind.wrap IntKind.i64 (tQ * tQ))) + IntKind.wrap IntKind.i64 (IntKind.wrap IntKind.i64 (sB1 * tP) * tR)) + IntKind.wrap IntKind.i64 (IntKind.wrap IntKind.i64 (sB2 * tR) * tR)) * IntKind.wrap IntKind.i64 (IntKind.wrap IntKind.i64 (IntKind.wrap IntKind.i64 (sB0 * IntKind.wrap IntKind.i64 (IntKind.wrap IntKind.i64 (tP * tP) - IntKind.wrap IntKind.i64 (tQ * tQ))) + IntKind.wrap IntKind.i64 (IntKind.wrap IntKind.i64 (sB1 * tP) * tR)) + IntKind.wrap IntKind.i64 (IntKind.wrap IntKind.i64 (sB2 * tR) * tR))) + IntKind.wrap IntKind.i64 (IntKind.wrap IntKind.i64 (IntKind.wrap IntKind.i64 (IntKind.wrap IntKind.i64 (IntKind.wrap IntKind.i64 ((2 : Int) * sB0) * tP) * tQ) + IntKind.wrap IntKind.i64 (IntKind.wrap IntKind.i64 (sB1 * tQ) * tR)) * IntKind.wrap IntKind.i64 (IntKind.wrap IntKind.i64 (IntKind.wrap IntKind.i64 (IntKind.wrap IntKind.i64 ((2 : Int) * sB0) * tP) * tQ) + IntKind.wrap IntKind.i64 (IntKind.wrap IntKind.i64 (sB1 * tQ) * tR))))) (IntKind.wrap IntKind.i64 (IntKind.wrap IntKind.i64 (IntKind.wrap IntKind.i64 (IntKind.wrap IntKind.i64 (IntKind.wrap IntKind.i64 ((16384 : Int) * IntKind.wrap IntKind.i64 (IntKind.wrap IntKind.i64 (tP * tP) - IntKind.wrap IntKind.i64 (tQ * tQ))) + IntKind.wrap IntKind.i64 (IntKind.wrap IntKind.i64 (sA0 * tP) * tR)) + IntKind.wrap IntKind.i64 (IntKind.wrap IntKind.i64 (sA1 * tR) * tR)) * IntKind.wrap IntKind.i64 (IntKind.wrap IntKind.i64 (IntKind.wrap IntKind.i64 ((16384 : Int) * IntKind.wrap IntKind.i64 (IntKind.wrap IntKind.i64 (tP * tP) - IntKind.wrap IntKind.i64 (tQ * tQ))) + IntKind.wrap IntKind.i64 (IntKind.wrap IntKind.i64 (sA0 * tP) * tR)) + IntKind.wrap IntKind.i64 (IntKind.wrap IntKind.i64 (sA1 * tR) * tR))) + IntKind.wrap IntKind.i64 (IntKind.wrap IntKind.i64 (IntKind.wrap IntKind.i64 (IntKind.wrap IntKind.i64 (IntKind.wrap IntKind.i64 ((2 : Int) * (16384 : Int)) * tP) * tQ) + IntKind.wrap IntKind.i64 (IntKind.wrap IntKind.i64 (sA0 * tQ) * tR)) * IntKind.wrap IntKind.i64 (IntKind.wrap IntKind.i64 (IntKind.wrap IntKind.i64 (IntKind.wrap IntKind.i64 ((2 : Int) * (16384 : Int)) * tP) * tQ) + IntKind.wrap IntKind.i64 (IntKind.wrap IntKind.i64 (sA0 * tQ) * tR)))))) fun r1 =>
   Option.bind (B_IsSmall r1.1 r1.2) fun r2 =>
   if (!r2) = true then
    some (((0 : Int), (0 : Int), (8 : Int)))
   else
    some ((r1.1, r1.2, (0 : Int)))
def g_R06_GainSquare : List A → Option (Prop × List RV)
  | [.s [.i .i64 sB0, .i .i64 sB1, .i .i64 sB2, .i .i64 sA0, .i .i64 sA1], .s [.i .i64 tP, .i .i64 tQ, .i .i64 tR]] => some (ok (R06_GainSquare sB0 sB1 sB2 sA0 sA1 tP tQ tR), [.s [.i .i64 ((val (R06_GainSquare sB0 sB1 sB2 sA0 sA1 tP tQ tR)).1), .i .i64 ((val (R06_GainSquare sB0 sB1 sB2 sA0 sA1 tP tQ tR)).2.1)], .d (.i .i64 ((val (R06_GainSquare sB0 sB1 sB2 sA0 sA1 tP tQ tR)).2.2))])
  | _ => none
def k_R06_GainSquare : List (Option Cont) := [none, none]
abbrev sp_76 : Specs → Specs := addK 76 true (pureK k_R06_GainSquare g_R06_GainSquare)
set_option maxRecDepth 100000 in
theorem R06_GainSquare_vc (sB0 : Int) (sB1 : Int) (sB2 : Int) (sA0 : Int) (sA1 : Int) (tP : Int) (tQ : Int) (tR : Int) (r : Int × Int × Int) (h : Option.bind (R06_GainSquare sB0 sB1 sB2 sA0 sA1 tP tQ tR) some = some r) : runF Try.f76 ((sp_100 (sp_120 (sp_121 sp0)))) (fun _ _ _ => none) [.s [.i .i64 sB0, .i .i64 sB1, .i .i64 sB2, .i .i64 sA0, .i .i64 sA1], .s [.i .i64 tP, .i .i64 tQ, .i .i64 tR]] [.s [.i .i64 r.1, .i .i64 r.2.1], .d (.i .i64 r.2.2)] := by
  refine Eq.mp (by kernel_rfl : (
  (Ob (ok (R06_Gain sB0 sB1 sB2 sA0 sA1 tP tQ tR)) ∧
   Br (IntKind.wrap IntKind.i64 (IntKind.wrap IntKind.i64 (IntKind.wrap IntKind.i64 (IntKind.wrap IntKind.i64 (IntKind.wrap IntKind.i64 ((16384 : Int) * IntKind.wrap IntKind.i64 (IntKind.wrap IntKind.i64 (tP * tP) - IntKind.wrap IntKind.i64 (tQ * tQ))) + IntKind.wrap IntKind.i64 (IntKind.wrap IntKind.i64 (sA0 * tP) * tR)) + IntKind.wrap IntKind.i64 (IntKind.wrap IntKind.i64 (sA1 * tR) * tR)) * IntKind.wrap IntKind.i64 (IntKind.wrap IntKind.i64 (IntKind.wrap IntKind.i64 ((16384 : Int) * IntKind.wrap IntKind.i64 (IntKind.wrap IntKind.i64 (tP * tP) - IntKind.wrap IntKind.i64 (tQ * tQ))) + IntKind.wrap IntKind.i64 (IntKind.wrap IntKind.i64 (sA0 * tP) * tR)) + IntKind.wrap IntKind.i64 (IntKind.wrap IntKind.i64 (sA1 * tR) * tR))) + IntKind.wrap IntKind.i64 (IntKind.wrap IntKind.i64 (IntKind.wrap IntKind.i64 (IntKind.wrap IntKind.i64 (IntKind.wrap IntKind.i64 ((2 : Int) * (16384 : Int)) * tP) * tQ) + IntKind.wrap IntKind.i64 (IntKind.wrap IntKind.i64 (sA0 * tQ) * tR)) * IntKind.wrap IntKind.i64 (IntKind.wrap IntKind.i64 (IntKind.wrap IntKind.i64 (IntKind.wrap IntKind.i64 ((2 : Int) * (16384 : Int)) * tP) * tQ) + IntKind.wrap IntKind.i64 (IntKind.wrap IntKind.i64 (sA0 * tQ) * tR)))) == (0 : Int))
   ((Ob (True) ∧
   (Ob (True) ∧
   (Ob ((0 : Int) = r.1) ∧
   (Ob ((0 : Int) = r.2.1) ∧
   (Ob ((11 : Int) = r.2.2) ∧
   True))))))
   ((Ob (ok (B_Lowest (IntKind.wrap IntKind.i64 (IntKind.wrap IntKind.i64 (IntKind.wrap IntKind.i64 (IntKind.wrap IntKind.i64 (IntKind.wrap IntKind.i64 (sB0 * IntKind.wrap IntKind.i64 (IntKind.wrap IntKind.i64 (tP * tP) - IntKind.wrap IntKind.i64 (tQ * tQ))) + IntKind.wrap IntKind.i64 (IntKind.wrap IntKind.i64 (sB1 * tP) * tR)) + IntKind.wrap IntKind.i64 (IntKind.wrap IntKind.i64 (sB2 * tR) * tR)) * IntKind.wrap IntKind.i64 (IntKind.wrap IntKind.i64 (IntKind.wrap IntKind.i64 (sB0 * IntKind.wrap IntKind.i64 (IntKind.wrap IntKind.i64 (tP * tP) - IntKind.wrap IntKind.i64 (tQ * tQ))) + IntKind.wrap IntKind.i64 (IntKind.wrap IntKind.i64 (sB1 * tP) * tR)) + IntKind.wrap IntKind.i64 (IntKind.wrap IntKind.i64 (sB2 * tR) * tR))) + IntKind.wrap IntKind.i64 (IntKind.wrap IntKind.i64 (IntKind.wrap IntKind.i64 (IntKind.wrap IntKind.i64 (IntKind.wrap IntKind.i64 ((2 : Int) * sB0) * tP) * tQ) + IntKind.wrap IntKind.i64 (IntKind.wrap IntKind.i64 (sB1 * tQ) * tR)) * IntKind.wrap IntKind.i64 (IntKind.wrap IntKind.i64 (IntKind.wrap IntKind.i64 (IntKind.wrap IntKind.i64 ((2 : Int) * sB0) * tP) * tQ) + IntKind.wrap IntKind.i64 (IntKind.wrap IntKind.i64 (sB1 * tQ) * tR))))) (IntKind.wrap IntKind.i64 (IntKind.wrap IntKind.i64 (IntKind.wrap IntKind.i64 (IntKind.wrap IntKind.i64 (IntKind.wrap IntKind.i64 ((16384 : Int) * IntKind.wrap IntKind.i64 (IntKind.wrap IntKind.i64 (tP * tP) - IntKind.wrap IntKind.i64 (tQ * tQ))) + IntKind.wrap IntKind.i64 (IntKind.wrap IntKind.i64 (sA0 * tP) * tR)) + IntKind.wrap IntKind.i64 (IntKind.wrap IntKind.i64 (sA1 * tR) * tR)) * IntKind.wrap IntKind.i64 (IntKind.wrap IntKind.i64 (IntKind.wrap IntKind.i64 ((16384 : Int) * IntKind.wrap IntKind.i64 (IntKind.wrap IntKind.i64 (tP * tP) - IntKind.wrap IntKind.i64 (tQ * tQ))) + IntKind.wrap IntKind.i64 (IntKind.wrap IntKind.i64 (sA0 * tP) * tR)) + IntKind.wrap IntKind.i64 (IntKind.wrap IntKind.i64 (sA1 * tR) * tR))) + IntKind.wrap IntKind.i64 (IntKind.wrap IntKind.i64 (IntKind.wrap IntKind.i64 (IntKind.wrap IntKind.i64 (IntKind.wrap IntKind.i64 ((2 : Int) * (16384 : Int)) * tP) * tQ) + IntKind.wrap IntKind.i64 (IntKind.wrap IntKind.i64 (sA0 * tQ) * tR)) * IntKind.wrap IntKind.i64 (IntKind.wrap IntKind.i64 (IntKind.wrap IntKind.i64 (IntKind.wrap IntKind.i64 ((2 : Int) * (16384 : Int)) * tP) * tQ) + IntKind.wrap IntKind.i64 (IntKind.wrap IntKind.i64 (sA0 * tQ) * tR))))))) ∧
   (Ob (ok (B_IsSmall (val (B_Lowest (IntKind.wrap IntKind.i64 (IntKind.wrap IntKind.i64 (IntKind.wrap IntKind.i64 (IntKind.wrap IntKind.i64 (IntKind.wrap IntKind.i64 (sB0 * IntKind.wrap IntKind.i64 (IntKind.wrap IntKind.i64 (tP * tP) - IntKind.wrap IntKind.i64 (tQ * tQ))) + IntKind.wrap IntKind.i64 (IntKind.wrap IntKind.i64 (sB1 * tP) * tR)) + IntKind.wrap IntKind.i64 (IntKind.wrap IntKind.i64 (sB2 * tR) * tR)) * IntKind.wrap IntKind.i64 (IntKind.wrap IntKind.i64 (IntKind.wrap IntKind.i64 (sB0 * IntKind.wrap IntKind.i64 (IntKind.wrap IntKind.i64 (tP * tP) - IntKind.wrap IntKind.i64 (tQ * tQ))) + IntKind.wrap IntKind.i64 (IntKind.wrap IntKind.i64 (sB1 * tP) * tR)) + IntKind.wrap IntKind.i64 (IntKind.wrap IntKind.i64 (sB2 * tR) * tR))) + IntKind.wrap IntKind.i64 (IntKind.wrap IntKind.i64 (IntKind.wrap IntKind.i64 (IntKind.wrap IntKind.i64 (IntKind.wrap IntKind.i64 ((2 : Int) * sB0) * tP) * tQ) + IntKind.wrap IntKind.i64 (IntKind.wrap IntKind.i64 (sB1 * tQ) * tR)) * IntKind.wrap IntKind.i64 (IntKind.wrap IntKind.i64 (IntKind.wrap IntKind.i64 (IntKind.wrap IntKind.i64 ((2 : Int) * sB0) * tP) * tQ) + IntKind.wrap IntKind.i64 (IntKind.wrap IntKind.i64 (sB1 * tQ) * tR))))) (IntKind.wrap IntKind.i64 (IntKind.wrap IntKind.i64 (IntKind.wrap IntKind.i64 (IntKind.wrap IntKind.i64 (IntKind.wrap IntKind.i64 ((16384 : Int) * IntKind.wrap IntKind.i64 (IntKind.wrap IntKind.i64 (tP * tP) - IntKind.wrap IntKind.i64 (tQ * tQ))) + IntKind.wrap IntKind.i64 (IntKind.wrap IntKind.i64 (sA0 * tP) * tR)) + IntKind.wrap IntKind.i64 (IntKind.wrap IntKind.i64 (sA1 * tR) * tR)) * IntKind.wrap IntKind.i64 (IntKind.wrap IntKind.i64 (IntKind.wrap IntKind.i64 ((16384 : Int) * IntKind.wrap IntKind.i64 (IntKind.wrap IntKind.i64 (tP * tP) - IntKind.wrap IntKind.i64 (tQ * tQ))) + IntKind.wrap IntKind.i64 (IntKind.wrap IntKind.i64 (sA0 * tP) * tR)) + IntKind.wrap IntKind.i64 (IntKind.wrap IntKind.i64 (sA1 * tR) * tR))) + IntKind.wrap IntKind.i64 (IntKind.wrap IntKind.i64 (IntKind.wrap IntKind.i64 (IntKind.wrap IntKind.i64 (IntKind.wrap IntKind.i64 ((2 : Int) * (16384 : Int)) * tP) * tQ) + IntKind.wrap IntKind.i64 (IntKind.wrap IntKind.i64 (sA0 * tQ) * tR)) * IntKind.wrap IntKind.i64 (IntKind.wrap IntKind.i64 (IntKind.wrap IntKind.i64 (IntKind.wrap IntKind.i64 ((2 : Int) * (16384 : Int)) * tP) * tQ) + IntKind.wrap IntKind.i64 (IntKind.wrap IntKind.i64 (sA0 * tQ) * tR))))))).1 (val (B_Lowest (IntKind.wrap IntKind.i64 (IntKind.wrap IntKind.i64 (IntKind.wrap IntKind.i64 (IntKind.wrap IntKind.i64 (IntKind.wrap IntKind.i64 (sB0 * IntKind.wrap IntKind.i64 (IntKind.wrap IntKind.i64 (tP * tP) - IntKind.wrap IntKind.i64 (tQ * tQ))) + IntKind.wrap IntKind.i64 (IntKind.wrap IntKind.i64 (sB1 * tP) * tR)) + IntKind.wrap IntKind.i64 (IntKind.wrap IntKind.i64 (sB2 * tR) * tR)) * IntKind.wrap IntKind.i64 (IntKind.wrap IntKind.i64 (IntKind.wrap IntKind.i64 (sB0 * IntKind.wrap IntKind.i64 (IntKind.wrap IntKind.i64 (tP * tP) - IntKind.wrap IntKind.i64 (tQ * tQ))) + IntKind.wrap IntKind.i64 (IntKind.wrap IntKind.i64 (sB1 * tP) * tR)) + IntKind.wrap IntKind.i64 (IntKind.wrap IntKind.i64 (sB2 * tR) * tR))) + IntKind.wrap IntKind.i64 (IntKind.wrap IntKind.i64 (IntKind.wrap IntKind.i64 (IntKind.wrap IntKind.i64 (IntKind.wrap IntKind.i64 ((2 : Int) * sB0) * tP) * tQ) + IntKind.wrap IntKind.i64 (IntKind.wrap IntKind.i64 (sB1 * tQ) * tR)) * IntKind.wrap IntKind.i64 (IntKind.wrap IntKind.i64 (IntKind.wrap IntKind.i64 (IntKind.wrap IntKind.i64 ((2 : Int) * sB0) * tP) * tQ) + IntKind.wrap IntKind.i64 (IntKind.wrap IntKind.i64 (sB1 * tQ) * tR))))) (IntKind.wrap IntKind.i64 (IntKind.wrap IntKind.i64 (IntKind.wrap IntKind.i64 (IntKind.wrap IntKind.i64 (IntKind.wrap IntKind.i64 ((16384 : Int) * IntKind.wrap IntKind.i64 (IntKind.wrap IntKind.i64 (tP * tP) - IntKind.wrap IntKind.i64 (tQ * tQ))) + IntKind.wrap IntKind.i64 (IntKind.wrap IntKind.i64 (sA0 * tP) * tR)) + IntKind.wrap IntKind.i64 (IntKind.wrap IntKind.i64 (sA1 * tR) * tR)) * IntKind.wrap IntKind.i64 (IntKind.wrap IntKind.i64 (IntKind.wrap IntKind.i64 ((16384 : Int) * IntKind.wrap IntKind.i64 (IntKind.wrap IntKind.i64 (tP * tP) - IntKind.wrap IntKind.i64 (tQ * tQ))) + IntKind.wrap IntKind.i64 (IntKind.wrap IntKind.i64 (sA0 * tP) * tR)) + IntKind.wrap IntKind.i64 (IntKind.wrap IntKind.i64 (sA1 * tR) * tR))) + IntKind.wrap IntKind.i64 (IntKind.wrap IntKind.i64 (IntKind.wrap IntKind.i64 (IntKind.wrap IntKind.i64 (IntKind.wrap IntKind.i64 ((2 : Int) * (16384 : Int)) * tP) * tQ) + IntKind.wrap IntKind.i64 (IntKind.wrap IntKind.i64 (sA0 * tQ) * tR)) * IntKind.wrap IntKind.i64 (IntKind.wrap IntKind.i64 (IntKind.wrap IntKind.i64 (IntKind.wrap IntKind.i64 ((2 : Int) * (16384 : Int)) * tP) * tQ) + IntKind.wrap IntKind.i64 (IntKind.wrap IntKind.i64 (sA0 * tQ) * tR))))))).2)) ∧
   Br (!val (B_IsSmall (val (B_Lowest (IntKind.wrap IntKind.i64 (IntKind.wrap IntKind.i64 (IntKind.wrap IntKind.i64 (IntKind.wrap IntKind.i64 (IntKind.wrap IntKind.i64 (sB0 * IntKind.wrap IntKind.i64 (IntKind.wrap IntKind.i64 (tP * tP) - IntKind.wrap IntKind.i64 (tQ * tQ))) + IntKind.wrap IntKind.i64 (IntKind.wrap IntKind.i64 (sB1 * tP) * tR)) + IntKind.wrap IntKind.i64 (IntKind.wrap IntKind.i64 (sB2 * tR) * tR)) * IntKind.wrap IntKind.i64 (IntKind.wrap IntKind.i64 (IntKind.wrap IntKind.i64 (sB0 * IntKind.wrap IntKind.i64 (IntKind.wrap IntKind.i64 (tP * tP) - IntKind.wrap IntKind.i64 (tQ * tQ))) + IntKind.wrap IntKind.i64 (IntKind.wrap IntKind.i64 (sB1 * tP) * tR)) + IntKind.wrap IntKind.i64 (IntKind.wrap IntKind.i64 (sB2 * tR) * tR))) + IntKind.wrap IntKind.i64 (IntKind.wrap IntKind.i64 (IntKind.wrap IntKind.i64 (IntKind.wrap IntKind.i64 (IntKind.wrap IntKind.i64 ((2 : Int) * sB0) * tP) * tQ) + IntKind.wrap IntKind.i64 (IntKind.wrap IntKind.i64 (sB1 * tQ) * tR)) * IntKind.wrap IntKind.i64 (IntKind.wrap IntKind.i64 (IntKind.wrap IntKind.i64 (IntKind.wrap IntKind.i64 ((2 : Int) * sB0) * tP) * tQ) + IntKind.wrap IntKind.i64 (IntKind.wrap IntKind.i64 (sB1 * tQ) * tR))))) (IntKind.wrap IntKind.i64 (IntKind.wrap IntKind.i64 (IntKind.wrap IntKind.i64 (IntKind.wrap IntKind.i64 (IntKind.wrap IntKind.i64 ((16384 : Int) * IntKind.wrap IntKind.i64 (IntKind.wrap IntKind.i64 (tP * tP) - IntKind.wrap IntKind.i64 (tQ * tQ))) + IntKind.wrap IntKind.i64 (IntKind.wrap IntKind.i64 (sA0 * tP) * tR)) + IntKind.wrap IntKind.i64 (IntKind.wrap IntKind.i64 (sA1 * tR) * tR)) * IntKind.wrap IntKind.i64 (IntKind.wrap IntKind.i64 (IntKind.wrap IntKind.i64 ((16384 : Int) * IntKind.wrap IntKind.i64 (IntKind.wrap IntKind.i64 (tP * tP) - IntKind.wrap IntKind.i64 (tQ * tQ))) + IntKind.wrap IntKind.i64 (IntKind.wrap IntKind.i64 (sA0 * tP) * tR)) + IntKind.wrap IntKind.i64 (IntKind.wrap IntKind.i64 (sA1 * tR) * tR))) + IntKind.wrap IntKind.i64 (IntKind.wrap IntKind.i64 (IntKind.wrap IntKind.i64 (IntKind.wrap IntKind.i64 (IntKind.wrap IntKind.i64 ((2 : Int) * (16384 : Int)) * tP) * tQ) + IntKind.wrap IntKind.i64 (IntKind.wrap IntKind.i64 (sA0 * tQ) * tR)) * IntKind.wrap IntKind.i64 (IntKind.wrap IntKind.i64 (IntKind.wrap IntKind.i64 (IntKind.wrap IntKind.i64 ((2 : Int) * (16384 : Int)) * tP) * tQ) + IntKind.wrap IntKind.i64 (IntKind.wrap IntKind.i64 (sA0 * tQ) * tR))))))).1 (val (B_Lowest (IntKind.wrap IntKind.i64 (IntKind.wrap IntKind.i64 (IntKind.wrap IntKind.i64 (IntKind.wrap IntKind.i64 (IntKind.wrap IntKind.i64 (sB0 * IntKind.wrap IntKind.i64 (IntKind.wrap IntKind.i64 (tP * tP) - IntKind.wrap IntKind.i64 (tQ * tQ))) + IntKind.wrap IntKind.i64 (IntKind.wrap IntKind.i64 (sB1 * tP) * tR)) + IntKind.wrap IntKind.i64 (IntKind.wrap IntKind.i64 (sB2 * tR) * tR)) * IntKind.wrap IntKind.i64 (IntKind.wrap IntKind.i64 (IntKind.wrap IntKind.i64 (sB0 * IntKind.wrap IntKind.i64 (IntKind.wrap IntKind.i64 (tP * tP) - IntKind.wrap IntKind.i64 (tQ * tQ))) + IntKind.wrap IntKind.i64 (IntKind.wrap IntKind.i64 (sB1 * tP) * tR)) + IntKind.wrap IntKind.i64 (IntKind.wrap IntKind.i64 (sB2 * tR) * tR))) + IntKind.wrap IntKind.i64 (IntKind.wrap IntKind.i64 (IntKind.wrap IntKind.i64 (IntKind.wrap IntKind.i64 (IntKind.wrap IntKind.i64 ((2 : Int) * sB0) * tP) * tQ) + IntKind.wrap IntKind.i64 (IntKind.wrap IntKind.i64 (sB1 * tQ) * tR)) * IntKind.wrap IntKind.i64 (IntKind.wrap IntKind.i64 (IntKind.wrap IntKind.i64 (IntKind.wrap IntKind.i64 ((2 : Int) * sB0) * tP) * tQ) + IntKind.wrap IntKind.i64 (IntKind.wrap IntKind.i64 (sB1 * tQ) * tR))))) (IntKind.wrap IntKind.i64 (IntKind.wrap IntKind.i64 (IntKind.wrap IntKind.i64 (IntKind.wrap IntKind.i64 (IntKind.wrap IntKind.i64 ((16384 : Int) * IntKind.wrap IntKind.i64 (IntKind.wrap IntKind.i64 (tP * tP) - IntKind.wrap IntKind.i64 (tQ * tQ))) + IntKind.wrap IntKind.i64 (IntKind.wrap IntKind.i64 (sA0 * tP) * tR)) + IntKind.wrap IntKind.i64 (IntKind.wrap IntKind.i64 (sA1 * tR) * tR)) * IntKind.wrap IntKind.i64 (IntKind.wrap IntKind.i64 (IntKind.wrap IntKind.i64 ((16384 : Int) * IntKind.wrap IntKind.i64 (IntKind.wrap IntKind.i64 (tP * tP) - IntKind.wrap IntKind.i64 (tQ * tQ))) + IntKind.wrap IntKind.i64 (IntKind.wrap IntKind.i64 (sA0 * tP) * tR)) + IntKind.wrap IntKind.i64 (IntKind.wrap IntKind.i64 (sA1 * tR) * tR))) + IntKind.wrap IntKind.i64 (IntKind.wrap IntKind.i64 (IntKind.wrap IntKind.i64 (IntKind.wrap IntKind.i64 (IntKind.wrap IntKind.i64 ((2 : Int) * (16384 : Int)) * tP) * tQ) + IntKind.wrap IntKind.i64 (IntKind.wrap IntKind.i64 (sA0 * tQ) * tR)) * IntKind.wrap IntKind.i64 (IntKind.wrap IntKind.i64 (IntKind.wrap IntKind.i64 (IntKind.wrap IntKind.i64 ((2 : Int) * (16384 : Int)) * tP) * tQ) + IntKind.wrap IntKind.i64 (IntKind.wrap IntKind.i64 (sA0 * tQ) * tR))))))).2))
   ((Ob (True) ∧
   (Ob (True) ∧
   (Ob ((0 : Int) = r.1) ∧
   (Ob ((0 : Int) = r.2.1) ∧
   (Ob ((8 : Int) = r.2.2) ∧
   True))))))
   ((Ob (True) ∧
   (Ob (True) ∧
   (Ob ((val (B_Lowest (IntKind.wrap IntKind.i64 (IntKind.wrap IntKind.i64 (IntKind.wrap IntKind.i64 (IntKind.wrap IntKind.i64 (IntKind.wrap IntKind.i64 (sB0 * IntKind.wrap IntKind.i64 (IntKind.wrap IntKind.i64 (tP * tP) - IntKind.wrap IntKind.i64 (tQ * tQ))) + IntKind.wrap IntKind.i64 (IntKind.wrap IntKind.i64 (sB1 * tP) * tR)) + IntKind.wrap IntKind.i64 (IntKind.wrap IntKind.i64 (sB2 * tR) * tR)) * IntKind.wrap IntKind.i64 (IntKind.wrap IntKind.i64 (IntKind.wrap IntKind.i64 (sB0 * IntKind.wrap IntKind.i64 (IntKind.wrap IntKind.i64 (tP * tP) - IntKind.wrap IntKind.i64 (tQ * tQ))) + IntKind.wrap IntKind.i64 (IntKind.wrap IntKind.i64 (sB1 * tP) * tR)) + IntKind.wrap IntKind.i64 (IntKind.wrap IntKind.i64 (sB2 * tR) * tR))) + IntKind.wrap IntKind.i64 (IntKind.wrap IntKind.i64 (IntKind.wrap IntKind.i64 (IntKind.wrap IntKind.i64 (IntKind.wrap IntKind.i64 ((2 : Int) * sB0) * tP) * tQ) + IntKind.wrap IntKind.i64 (IntKind.wrap IntKind.i64 (sB1 * tQ) * tR)) * IntKind.wrap IntKind.i64 (IntKind.wrap IntKind.i64 (IntKind.wrap IntKind.i64 (IntKind.wrap IntKind.i64 ((2 : Int) * sB0) * tP) * tQ) + IntKind.wrap IntKind.i64 (IntKind.wrap IntKind.i64 (sB1 * tQ) * tR))))) (IntKind.wrap IntKind.i64 (IntKind.wrap IntKind.i64 (IntKind.wrap IntKind.i64 (IntKind.wrap IntKind.i64 (IntKind.wrap IntKind.i64 ((16384 : Int) * IntKind.wrap IntKind.i64 (IntKind.wrap IntKind.i64 (tP * tP) - IntKind.wrap IntKind.i64 (tQ * tQ))) + IntKind.wrap IntKind.i64 (IntKind.wrap IntKind.i64 (sA0 * tP) * tR)) + IntKind.wrap IntKind.i64 (IntKind.wrap IntKind.i64 (sA1 * tR) * tR)) * IntKind.wrap IntKind.i64 (IntKind.wrap IntKind.i64 (IntKind.wrap IntKind.i64 ((16384 : Int) * IntKind.wrap IntKind.i64 (IntKind.wrap IntKind.i64 (tP * tP) - IntKind.wrap IntKind.i64 (tQ * tQ))) + IntKind.wrap IntKind.i64 (IntKind.wrap IntKind.i64 (sA0 * tP) * tR)) + IntKind.wrap IntKind.i64 (IntKind.wrap IntKind.i64 (sA1 * tR) * tR))) + IntKind.wrap IntKind.i64 (IntKind.wrap IntKind.i64 (IntKind.wrap IntKind.i64 (IntKind.wrap IntKind.i64 (IntKind.wrap IntKind.i64 ((2 : Int) * (16384 : Int)) * tP) * tQ) + IntKind.wrap IntKind.i64 (IntKind.wrap IntKind.i64 (sA0 * tQ) * tR)) * IntKind.wrap IntKind.i64 (IntKind.wrap IntKind.i64 (IntKind.wrap IntKind.i64 (IntKind.wrap IntKind.i64 ((2 : Int) * (16384 : Int)) * tP) * tQ) + IntKind.wrap IntKind.i64 (IntKind.wrap IntKind.i64 (sA0 * tQ) * tR))))))).1 = r.1) ∧
   (Ob ((val (B_Lowest (IntKind.wrap IntKind.i64 (IntKind.wrap IntKind.i64 (IntKind.wrap IntKind.i64 (IntKind.wrap IntKind.i64 (IntKind.wrap IntKind.i64 (sB0 * IntKind.wrap IntKind.i64 (IntKind.wrap IntKind.i64 (tP * tP) - IntKind.wrap IntKind.i64 (tQ * tQ))) + IntKind.wrap IntKind.i64 (IntKind.wrap IntKind.i64 (sB1 * tP) * tR)) + IntKind.wrap IntKind.i64 (IntKind.wrap IntKind.i64 (sB2 * tR) * tR)) * IntKind.wrap IntKind.i64 (IntKind.wrap IntKind.i64 (IntKind.wrap IntKind.i64 (sB0 * IntKind.wrap IntKind.i64 (IntKind.wrap IntKind.i64 (tP * tP) - IntKind.wrap IntKind.i64 (tQ * tQ))) + IntKind.wrap IntKind.i64 (IntKind.wrap IntKind.i64 (sB1 * tP) * tR)) + IntKind.wrap IntKind.i64 (IntKind.wrap IntKind.i64 (sB2 * tR) * tR))) + IntKind.wrap IntKind.i64 (IntKind.wrap IntKind.i64 (IntKind.wrap IntKind.i64 (IntKind.wrap IntKind.i64 (IntKind.wrap IntKind.i64 ((2 : Int) * sB0) * tP) * tQ) + IntKind.wrap IntKind.i64 (IntKind.wrap IntKind.i64 (sB1 * tQ) * tR)) * IntKind.wrap IntKind.i64 (IntKind.wrap IntKind.i64 (IntKind.wrap IntKind.i64 (IntKind.wrap IntKind.i64 ((2 : Int) * sB0) * tP) * tQ) + IntKind.wrap IntKind.i64 (IntKind.wrap IntKind.i64 (sB1 * tQ) * tR))))) (IntKind.wrap IntKind.i64 (IntKind.wrap IntKind.i64 (IntKind.wrap IntKind.i64 (IntKind.wrap IntKind.i64 (IntKind.wrap IntKind.i64 ((16384 : Int) * IntKind.wrap IntKind.i64 (IntKind.wrap IntKind.i64 (tP * tP) - IntKind.wrap IntKind.i64 (tQ * tQ))) + IntKind.wrap IntKind.i64 (IntKind.wrap IntKind.i64 (sA0 * tP) * tR)) + IntKind.wrap IntKind.i64 (IntKind.wrap IntKind.i64 (sA1 * tR) * tR)) * IntKind.wrap IntKind.i64 (IntKind.wrap IntKind.i64 (IntKind.wrap IntKind.i64 ((16384 : Int) * IntKind.wrap IntKind.i64 (IntKind.wrap IntKind.i64 (tP * tP) - IntKind.wrap IntKind.i64 (tQ * tQ))) + IntKind.wrap IntKind.i64 (IntKind.wrap IntKind.i64 (sA0 * tP) * tR)) + IntKind.wrap IntKind.i64 (IntKind.wrap IntKind.i64 (sA1 * tR) * tR))) + IntKind.wrap IntKind.i64 (IntKind.wrap IntKind.i64 (IntKind.wrap IntKind.i64 (IntKind.wrap IntKind.i64 (IntKind.wrap IntKind.i64 ((2 : Int) * (16384 : Int)) * tP) * tQ) + IntKind.wrap IntKind.i64 (IntKind.wrap IntKind.i64 (sA0 * tQ) * tR)) * IntKind.wrap IntKind.i64 (IntKind.wrap IntKind.i64 (IntKind.wrap IntKind.i64 (IntKind.wrap IntKind.i64 ((2 : Int) * (16384 : Int)) * tP) * tQ) + IntKind.wrap IntKind.i64 (IntKind.wrap IntKind.i64 (sA0 * tQ) * tR))))))).2 = r.2.1) ∧
   (Ob ((0 : Int) = r.2.2) ∧
   True))))))))))) = _) ?_
  refine call_s h fun h => ?_
  refine br_b h (fun h => ?_) (fun h => ?_)
  · refine ob_t ?_
    refine ob_t ?_
    exact ret_s h (fun e => by subst e; exact (by repeat' (first | exact trivial | exact ⟨rfl⟩ | refine And.intro ?_ ?_)))
  · refine call_s h fun h => ?_
    refine call_s h fun h => ?_
    refine br_b h (fun h => ?_) (fun h => ?_)
    · refine ob_t ?_
      refine ob_t ?_
      exact ret_s h (fun e => by subst e; exact (by repeat' (first | exact trivial | exact ⟨rfl⟩ | refine And.intro ?_ ?_)))
    · refine ob_t ?_
      refine ob_t ?_
      exact ret_s h (fun e => by subst e; exact (by repeat' (first | exact trivial | exact ⟨rfl⟩ | refine And.intro ?_ ?_)))
set_option maxRecDepth 100000 in
theorem R06_GainSquare_ok : SpecOK Try.prog 76 true (pureK k_R06_GainSquare g_R06_GainSquare) := by
  refine pureK_ok (sp := (sp_100 (sp_120 (sp_121 sp0)))) (fn := Try.f76) (body := bodyOf Try.f76) mixed (sp_100_ok (sp_120_ok (sp_121_ok sp0_ok))) Try.func76 (by kernel_rfl) (by kernel_rfl) fun as_ ob rs h ho => ?_
  unfold g_R06_GainSquare at h
  split at h
  · rename_i sB0 sB1 sB2 sA0 sA1 tP tQ tR
    cases h
    exact ⟨Nat.le_of_ble_eq_true rfl, _, _, R06_GainSquare_vc sB0 sB1 sB2 sA0 sA1 tP tQ tR _ (ok_some ho)⟩
  · cases h
theorem sp_76_ok {sp : Specs} (h : SpecsOK Try.prog sp) : SpecsOK Try.prog (sp_76 sp) := addK_ok R06_GainSquare_ok h

/-- shoebox/shoeboxref06.CompareGain -/
def R06_CompareGain (sB0 : Int) (sB1 : Int) (sB2 : Int) (sA0 : Int) (sA1 : Int) (tP : Int) (tQ : Int) (tR : Int) (fNum : Int) (fDen : Int) : Option (Int × Int) :=
  Option.bind (R06_Gain sB0 sB1 sB2 sA0 sA1 tP tQ tR) fun r0 =>
  if (IntKind.wrap IntKind.i64 (IntKind.wrap IntKind.i64 (IntKind.wrap IntKind.i64 (IntKind.wrap IntKind.i64 (IntKind.wrap IntKind.i64 ((16384 : Int) * IntKind.wrap IntKind.i64 (IntKind.wrap IntKind.i64 (tP * tP) - IntKind.wrap IntKind.i64 (tQ * tQ))) + IntKind.wrap IntKind.i64 (IntKind.wrap IntKind.i64 (sA0 * tP) * tR)) + IntKind.wrap IntKind.i64 (IntKind.wrap IntKind.i64 (sA1 * tR) * tR)) * IntKind.wrap IntKind.i64 (IntKind.wrap IntKind.i64 (IntKind.wrap IntKind.i64 ((16384 : Int) * IntKind.wrap IntKind.i64 (IntKind.wrap IntKind.i64 (tP * tP) - IntKind.wrap IntKind.i64 (tQ * tQ))) + IntKind.wrap IntKind.i64 (IntKind.wrap IntKind.i64 (sA0 * tP) * tR)) + IntKind.wrap IntKind.i64 (IntKind.wrap IntKind.i64 (sA1 * tR) * tR))) + IntKind.wrap IntKind.i64 (IntKind.wrap IntKind.i64 (IntKind.wrap IntKind.i64 (IntKind.wrap IntKind.i64 (IntKind.wrap IntKind.i64 ((2 : Int) * (16384 : Int)) * tP) * tQ) + IntKind.wrap IntKind.i64 (IntKind.wrap IntKind.i64 (sA0 * tQ) * tR)) * IntKind.wrap IntKind.i64 (IntKind.wrap IntKind.i64 (IntKind.wrap IntKind.i64 (IntKind.wrap IntKind.i64 ((2 : Int) * (16384 : Int)) * tP) * tQ) + IntKind.wrap IntKind.i64 (IntKind.wrap IntKind.i64 (sA0 * tQ) * tR)))) == (0 : Int)) = true then
   some (((0 : Int), (11 : Int)))
  else
   Option.bind (B_Compare (IntKind.wrap IntKind.i64 (IntKind.wrap IntKind.i64 (IntKind.wrap IntKind.i64 (IntKind.wrap IntKind.i64 (IntKind.wrap IntKind.i64 (sB0 * IntKind.wrap IntKind.i64 (IntKind.wrap IntKind.i64 (tP * tP) - IntKind.wrap IntKind.i64 (tQ * tQ))) + IntKind.wrap IntKind.i64 (IntKind.wrap IntKind.i64 (sB1 * tP) * tR)) + IntKind.wrap IntKind.i64 (IntKind.wrap IntKind.i64 (sB2 * tR) * tR)) * IntKind.wrap IntKind.i64 (IntKind.wrap IntKind.i64 (IntKind.wrap IntKind.i64 (sB0 * IntKind.wrap IntKind.i64 (IntKind.wrap IntKind.i64 (tP * tP) - IntKind.wrap IntKind.i64 (tQ * tQ))) + IntKind.wrap IntKind.i64 (IntKind.wrap IntKind.i64 (sB1 * tP) * tR)) + IntKind.wrap IntKind.i64 (IntKind.wrap IntKind.i64 (sB2 * tR) * tR))) + IntKind.wrap IntKind.i64 (IntKind.wrap IntKind.i64 (IntKind.wrap IntKind.i64 (IntKind.wrap IntKind.i64 (IntKind.wrap IntKind.i64 ((2 : Int) * sB0) * tP) * tQ) + IntKind.wrap IntKind.i64 (IntKind.wrap IntKind.i64 (sB1 * tQ) * tR)) * IntKind.wrap IntKind.i64 (IntKind.wrap IntKind.i64 (IntKind.wrap IntKind.i64 (IntKind.wrap IntKind.i64 ((2 : Int) * sB0) * tP) * tQ) + IntKind.wrap IntKind.i64 (IntKind.wrap IntKind.i64 (sB1 * tQ) * tR))))) (IntKind.wrap IntKind.i64 (IntKind.wrap IntKind.i64 (IntKind.wrap IntKind.i64 (IntKind.wrap IntKind.i64 (IntKind.wrap IntKind.i64 ((16384 : Int) * IntKind.wrap IntKind.i64 (IntKind.wrap IntKind.i64 (tP * tP) - IntKind.wrap IntKind.i64 (tQ * tQ))) + IntKind.wrap IntKind.i64 (IntKind.wrap IntKind.i64 (sA0 * tP) * tR)) + IntKind.wrap IntKind.i64 (IntKind.wrap IntKind.i64 (sA1 * tR) * tR)) * IntKind.wrap IntKind.i64 (IntKind.wrap IntKind.i64 (IntKind.wrap IntKind.i64 ((16384 : Int) * IntKind.wrap IntKind.i64 (IntKind.wrap IntKind.i64 (tP * tP) - IntKind.wrap IntKind.i64 (tQ * tQ))) + IntKind.wrap IntKind.i64 (IntKind.wrap IntKind.i64 (sA0 * tP) * tR)) + IntKind.wrap IntKind.i64 (IntKind.wrap IntKind.i64 (sA1 * tR) * tR))) + IntKind.wrap IntKind.i64 (IntKind.wrap IntKind.i64 (IntKind.wrap IntKind.i64 (IntKind.wrap IntKind.i64 (IntKind.wrap IntKind.i64 ((2 : Int) * (16384 : Int)) * tP) * tQ) + IntKind.wrap IntKind.i64 (IntKind.wrap IntKind.i64 (sA0 * tQ) * tR)) * IntKind.wrap IntKind.i64 (IntKind.wrap IntKind.i64 (IntKind.wrap IntKind.i64 (IntKind.wrap IntKind.i64 ((2 : Int) * (16384 : Int)) * tP) * tQ) + IntKind.wrap IntKind.i64 (IntKind.wrap IntKind.i64 (sA0 * tQ) * tR))))) fNum fDen) fun r1 =>
   some ((r1, (0 : Int)))
def g_R06_CompareGain : List A → Option (Prop × List RV)
  | [.s [.i .i64 sB0, .i .i64 sB1, .i .i64 sB2, .i .i64 sA0, .i .i64 sA1], .s [.i .i64 tP, .i .i64 tQ, .i .i64 tR], .s [.i .i64 fNum, .i .i64 fDen]] => some (ok (R06_CompareGain sB0 sB1 sB2 sA0 sA1 tP tQ tR fNum fDen), [.d (.i .i64 ((val (R06_CompareGain sB0 sB1 sB2 sA0 sA1 tP tQ tR fNum fDen)).1)), .d (.i .i64 ((val (R06_CompareGain sB0 sB1 sB2 sA0 sA1 tP tQ tR fNum fDen)).2))])
  | _ => none
def k_R06_CompareGain : List (Option Cont) := [none, none, none]
abbrev sp_78 : Specs → Specs := addK 78 true (pureK k_R06_CompareGain g_R06_CompareGain)
set_option maxRecDepth 100000 in
theorem R06_CompareGain_vc (sB0 : Int) (sB1 : Int) (sB2 : Int) (sA0 : Int) (sA1 : Int) (tP : Int) (tQ : Int) (tR : Int) (fNum : Int) (fDen : Int) (r : Int × Int) (h : Option.bind (R06_CompareGain sB0 sB1 sB2 sA0 sA1 tP tQ tR fNum fDen) some = some r) : runF Try.f78 ((sp_100 (sp_45 sp0))) (fun _ _ _ => none) [.s [.i .i64 sB0, .i .i64 sB1, .i .i64 sB2, .i .i64 sA0, .i .i64 sA1], .s [.i .i64 tP, .i .i64 tQ, .i .i64 tR], .s [.i .i64 fNum, .i .i64 fDen]] [.d (.i .i64 r.1), .d (.i .i64 r.2)] := by
  refine Eq.mp (by kernel_rfl : (
  (Ob (ok (R06_Gain sB0 sB1 sB2 sA0 sA1 tP tQ tR)) ∧
   Br (IntKind.wrap IntKind.i64 (IntKind.wrap IntKind.i64 (IntKind.wrap IntKind.i64 (IntKind.wrap IntKind.i64 (IntKind.wrap IntKind.i64 ((16384 : Int) * IntKind.wrap IntKind.i64 (IntKind.wrap IntKind.i64 (tP * tP) - IntKind.wrap IntKind.i64 (tQ * tQ))) + IntKind.wrap IntKind.i64 (IntKind.wrap IntKind.i64 (sA0 * tP) * tR)) + IntKind.wrap IntKind.i64 (IntKind.wrap IntKind.i64 (sA1 * tR) * tR)) * IntKind.wrap IntKind.i64 (IntKind.wrap IntKind.i64 (IntKind.wrap IntKind.i64 ((16384 : Int) * IntKind.wrap IntKind.i64 (IntKind.wrap IntKind.i64 (tP * tP) - IntKind.wrap IntKind.i64 (tQ * tQ))) + IntKind.wrap IntKind.i64 (IntKind.wrap IntKind.i64 (sA0 * tP) * tR)) + IntKind.wrap IntKind.i64 (IntKind.wrap IntKind.i64 (sA1 * tR) * tR))) + IntKind.wrap IntKind.i64 (IntKind.wrap IntKind.i64 (IntKind.wrap IntKind.i64 (IntKind.wrap IntKind.i64 (IntKind.wrap IntKind.i64 ((2 : Int) * (16384 : Int)) * tP) * tQ) + IntKind.wrap IntKind.i64 (IntKind.wrap IntKind.i64 (sA0 * tQ) * tR)) * IntKind.wrap IntKind.i64 (IntKind.wrap IntKind.i64 (IntKind.wrap IntKind.i64 (IntKind.wrap IntKind.i64 ((2 : Int) * (16384 : Int)) * tP) * tQ) + IntKind.wrap IntKind.i64 (IntKind.wrap IntKind.i64 (sA0 * tQ) * tR)))) == (0 : Int))
   ((Ob (True) ∧
   (Ob (True) ∧
   (Ob ((0 : Int) = r.1) ∧
   (Ob ((11 : Int) = r.2) ∧
   True)))))
   ((Ob (ok (B_Compare (IntKind.wrap IntKind.i64 (IntKind.wrap IntKind.i64 (IntKind.wrap IntKind.i64 (IntKind.wrap IntKind.i64 (IntKind.wrap IntKind.i64 (sB0 * IntKind.wrap IntKind.i64 (IntKind.wrap IntKind.i64 (tP * tP) - IntKind.wrap IntKind.i64 (tQ * tQ))) + IntKind.wrap IntKind.i64 (IntKind.wrap IntKind.i64 (sB1 * tP) * tR)) + IntKind.wrap IntKind.i64 (IntKind.wrap IntKind.i64 (sB2 * tR) * tR)) * IntKind.wrap IntKind.i64 (IntKind.wrap IntKind.i64 (IntKind.wrap IntKind.i64 (sB0 * IntKind.wrap IntKind.i64 (IntKind.wrap IntKind.i64 (tP * tP) - IntKind.wrap IntKind.i64 (tQ * tQ))) + IntKind.wrap IntKind.i64 (IntKind.wrap IntKind.i64 (sB1 * tP) * tR)) + IntKind.wrap IntKind.i64 (IntKind.wrap IntKind.i64 (sB2 * tR) * tR))) + IntKind.wrap IntKind.i64 (IntKind.wrap IntKind.i64 (IntKind.wrap IntKind.i64 (IntKind.wrap IntKind.i64 (IntKind.wrap IntKind.i64 ((2 : Int) * sB0) * tP) * tQ) + IntKind.wrap IntKind.i64 (IntKind.wrap IntKind.i64 (sB1 * tQ) * tR)) * IntKind.wrap IntKind.i64 (IntKind.wrap IntKind.i64 (IntKind.wrap IntKind.i64 (IntKind.wrap IntKind.i64 ((2 : Int) * sB0) * tP) * tQ) + IntKind.wrap IntKind.i64 (IntKind.wrap IntKind.i64 (sB1 * tQ) * tR))))) (IntKind.wrap IntKind.i64 (IntKind.wrap IntKind.i64 (IntKind.wrap IntKind.i64 (IntKind.wrap IntKind.i64 (IntKind.wrap IntKind.i64 ((16384 : Int) * IntKind.wrap IntKind.i64 (IntKind.wrap IntKind.i64 (tP * tP) - IntKind.wrap IntKind.i64 (tQ * tQ))) + IntKind.wrap IntKind.i64 (IntKind.wrap IntKind.i64 (sA0 * tP) * tR)) + IntKind.wrap IntKind.i64 (IntKind.wrap IntKind.i64 (sA1 * tR) * tR)) * IntKind.wrap IntKind.i64 (IntKind.wrap IntKind.i64 (IntKind.wrap IntKind.i64 ((16384 : Int) * IntKind.wrap IntKind.i64 (IntKind.wrap IntKind.i64 (tP * tP) - IntKind.wrap IntKind.i64 (tQ * tQ))) + IntKind.wrap IntKind.i64 (IntKind.wrap IntKind.i64 (sA0 * tP) * tR)) + IntKind.wrap IntKind.i64 (IntKind.wrap IntKind.i64 (sA1 * tR) * tR))) + IntKind.wrap IntKind.i64 (IntKind.wrap IntKind.i64 (IntKind.wrap IntKind.i64 (IntKind.wrap IntKind.i64 (IntKind.wrap IntKind.i64 ((2 : Int) * (16384 : Int)) * tP) * tQ) + IntKind.wrap IntKind.i64 (IntKind.wrap IntKind.i64 (sA0 * tQ) * tR)) * IntKind.wrap IntKind.i64 (IntKind.wrap IntKind.i64 (IntKind.wrap IntKind.i64 (IntKind.wrap IntKind.i64 ((2 : Int) * (16384 : Int)) * tP) * tQ) + IntKind.wrap IntKind.i64 (IntKind.wrap IntKind.i64 (sA0 * tQ) * tR))))) fNum fDen)) ∧
   (Ob (True) ∧
   (Ob (True) ∧
   (Ob (val (B_Compare (IntKind.wrap IntKind.i64 (IntKind.wrap IntKind.i64 (IntKind.wrap IntKind.i64 (IntKind.wrap IntKind.i64 (IntKind.wrap IntKind.i64 (sB0 * IntKind.wrap IntKind.i64 (IntKind.wrap IntKind.i64 (tP * tP) - IntKind.wrap IntKind.i64 (tQ * tQ))) + IntKind.wrap IntKind.i64 (IntKind.wrap IntKind.i64 (sB1 * tP) * tR)) + IntKind.wrap IntKind.i64 (IntKind.wrap IntKind.i64 (sB2 * tR) * tR)) * IntKind.wrap IntKind.i64 (IntKind.wrap IntKind.i64 (IntKind.wrap IntKind.i64 (sB0 * IntKind.wrap IntKind.i64 (IntKind.wrap IntKind.i64 (tP * tP) - IntKind.wrap IntKind.i64 (tQ * tQ))) + IntKind.wrap IntKind.i64 (IntKind.wrap IntKind.i64 (sB1 * tP) * tR)) + IntKind.wrap IntKind.i64 (IntKind.wrap IntKind.i64 (sB2 * tR) * tR))) + IntKind.wrap IntKind.i64 (IntKind.wrap IntKind.i64 (IntKind.wrap IntKind.i64 (IntKind.wrap IntKind.i64 (IntKind.wrap IntKind.i64 ((2 : Int) * sB0) * tP) * tQ) + IntKind.wrap IntKind.i64 (IntKind.wrap IntKind.i64 (sB1 * tQ) * tR)) * IntKind.wrap IntKind.i64 (IntKind.wrap IntKind.i64 (IntKind.wrap IntKind.i64 (IntKind.wrap IntKind.i64 ((2 : Int) * sB0) * tP) * tQ) + IntKind.wrap IntKind.i64 (IntKind.wrap IntKind.i64 (sB1 * tQ) * tR))))) (IntKind.wrap IntKind.i64 (IntKind.wrap IntKind.i64 (IntKind.wrap IntKind.i64 (IntKind.wrap IntKind.i64 (IntKind.wrap IntKind.i64 ((16384 : Int) * IntKind.wrap IntKind.i64 (IntKind.wrap IntKind.i64 (tP * tP) - IntKind.wrap IntKind.i64 (tQ * tQ))) + IntKind.wrap IntKind.i64 (IntKind.wrap IntKind.i64 (sA0 * tP) * tR)) + IntKind.wrap IntKind.i64 (IntKind.wrap IntKind.i64 (sA1 * tR) * tR)) * IntKind.wrap IntKind.i64 (IntKind.wrap IntKind.i64 (IntKind.wrap IntKind.i64 ((16384 : Int) * IntKind.wrap IntKind.i64 (IntKind.wrap IntKind.i64 (tP * tP) - IntKind.wrap IntKind.i64 (tQ * tQ))) + IntKind.wrap IntKind.i64 (IntKind.wrap IntKind.i64 (sA0 * tP) * tR)) + IntKind.wrap IntKind.i64 (IntKind.wrap IntKind.i64 (sA1 * tR) * tR))) + IntKind.wrap IntKind.i64 (IntKind.wrap IntKind.i64 (IntKind.wrap IntKind.i64 (IntKind.wrap IntKind.i64 (IntKind.wrap IntKind.i64 ((2 : Int) * (16384 : Int)) * tP) * tQ) + IntKind.wrap IntKind.i64 (IntKind.wrap IntKind.i64 (sA0 * tQ) * tR)) * IntKind.wrap IntKind.i64 (IntKind.wrap IntKind.i64 (IntKind.wrap IntKind.i64 (IntKind.wrap IntKind.i64 ((2 : Int) * (16384 : Int)) * tP) * tQ) + IntKind.wrap IntKind.i64 (IntKind.wrap IntKind.i64 (sA0 * tQ) * tR))))) fNum fDen) = r.1) ∧
   (Ob ((0 : Int) = r.2) ∧
   True)))))))) = _) ?_
  refine call_s h fun h => ?_
  refine br_b h (fun h => ?_) (fun h => ?_)
  · refine ob_t ?_
    refine ob_t ?_
    exact ret_s h (fun e => by subst e; exact (by repeat' (first | exact trivial | exact ⟨rfl⟩ | refine And.intro ?_ ?_)))
  · refine call_s h fun h => ?_
    refine ob_t ?_
    refine ob_t ?_
    exact ret_s h (fun e => by subst e; exact (by repeat' (first | exact trivial | exact ⟨rfl⟩ | refine And.intro ?_ ?_)))
set_option maxRecDepth 100000 in
theorem R06_CompareGain_ok : SpecOK Try.prog 78 true (pureK k_R06_CompareGain g_R06_CompareGain) := by
  refine pureK_ok (sp := (sp_100 (sp_45 sp0))) (fn := Try.f78) (body := bodyOf Try.f78) mixed (sp_100_ok (sp_45_ok sp0_ok)) Try.func78 (by kernel_rfl) (by kernel_rfl) fun as_ ob rs h ho => ?_
  unfold g_R06_CompareGain at h
  split at h
  · rename_i sB0 sB1 sB2 sA0 sA1 tP tQ tR fNum fDen
    cases h
    exact ⟨Nat.le_of_ble_eq_true rfl, _, _, R06_CompareGain_vc sB0 sB1 sB2 sA0 sA1 tP tQ tR fNum fDen _ (ok_some ho)⟩
  · cases h
theorem sp_78_ok {sp : Specs} (h : SpecsOK Try.prog sp) : SpecsOK Try.prog (sp_78 sp) := addK_ok R06_CompareGain_ok h

/-- shoebox/shoeboxbase.Cmp -/
def B_Cmp (aNum : Int) (aDen : Int) (bNum : Int) (bDen : Int) : Option Int :=
  if IntKind.wrap IntKind.i64 (aNum * bDen) < IntKind.wrap IntKind.i64 (bNum * aDen) then
   some (-1 : Int)
  else
   if IntKind.wrap IntKind.i64 (aNum * bDen) > IntKind.wrap IntKind.i64 (bNum * aDen) then
    some (1 : Int)
   else
    some (0 : Int)
def g_B_Cmp : List A → Option (Prop × List RV)
  | [.s [.i .i64 aNum, .i .i64 aDen], .s [.i .i64 bNum, .i .i64 bDen]] => some (ok (B_Cmp aNum aDen bNum bDen), [.d (.i .i64 ((val (B_Cmp aNum aDen bNum bDen))))])
  | _ => none
def k_B_Cmp : List (Option Cont) := [none, none]
abbrev sp_79 : Specs → Specs := addK 79 true (pureK k_B_Cmp g_B_Cmp)
set_option maxRecDepth 100000 in
theorem B_Cmp_vc (aNum : Int) (aDen : Int) (bNum : Int) (bDen : Int) (r : Int) (h : Option.bind (B_Cmp aNum aDen bNum bDen) some = some r) : runF Try.f79 (sp0) (fun _ _ _ => none) [.s [.i .i64 aNum, .i .i64 aDen], .s [.i .i64 bNum, .i .i64 bDen]] [.d (.i .i64 r)] := by
  refine Eq.mp (by kernel_rfl : (
  Br (decide (IntKind.wrap IntKind.i64 (aNum * bDen) < IntKind.wrap IntKind.i64 (bNum * aDen)))
   ((Ob (True) ∧
   (Ob ((-1 : Int) = r) ∧
   True)))
   (Br (decide (IntKind.wrap IntKind.i64 (aNum * bDen) > IntKind.wrap IntKind.i64 (bNum * aDen)))
   ((Ob (True) ∧
   (Ob ((1 : Int) = r) ∧
   True)))
   ((Ob (True) ∧
   (Ob ((0 : Int) = r) ∧
   True))))) = _) ?_
  refine br_d h (fun h => ?_) (fun h => ?_)
  · refine ob_t ?_
    exact ret_s h (fun e => by subst e; exact (by repeat' (first | exact trivial | exact ⟨rfl⟩ | refine And.intro ?_ ?_)))
  · refine br_d h (fun h => ?_) (fun h => ?_)
    · refine ob_t ?_
      exact ret_s h (fun e => by subst e; exact (by repeat' (first | exact trivial | exact ⟨rfl⟩ | refine And.intro ?_ ?_)))
    · refine ob_t ?_
      exact ret_s h (fun e => by subst e; exact (by repeat' (first | exact trivial | exact ⟨rfl⟩ | refine And.intro ?_ ?_)))
set_option maxRecDepth 100000 in
theorem B_Cmp_ok : SpecOK Try.prog 79 true (pureK k_B_Cmp g_B_Cmp) := by
  refine pureK_ok (sp := sp0) (fn := Try.f79) (body := bodyOf Try.f79) mixed sp0_ok Try.func79 (by kernel_rfl) (by kernel_rfl) fun as_ ob rs h ho => ?_
  unfold g_B_Cmp at h
  split at h
  · rename_i aNum aDen bNum bDen
    cases h
    exact ⟨Nat.le_of_ble_eq_true rfl, _, _, B_Cmp_vc aNum aDen bNum bDen _ (ok_some ho)⟩
  · cases h
theorem sp_79_ok {sp : Specs} (h : SpecsOK Try.prog sp) : SpecsOK Try.prog (sp_79 sp) := addK_ok B_Cmp_ok h

/-- shoebox/shoeboxlaw06.FilterGains -/
def L06_FilterGains (sB0 : Int) (sB1 : Int) (sB2 : Int) (sA0 : Int) (sA1 : Int) (tP : Int) (tQ : Int) (tR : Int) (squareNum : Int) (squareDen : Int) : Option Bool :=
  Option.bind (F_CompareGain sB0 sB1 sB2 sA0 sA1 tP tQ tR squareNum squareDen) fun r0 =>
  Option.bind (F_GainSquare sB0 sB1 sB2 sA0 sA1 tP tQ tR) fun r1 =>
  Option.bind (R06_CheckSection sB0 sB1 sB2 sA0 sA1) fun r2 =>
  if (r2 == (0 : Int)) = true then
   Option.bind (R06_TurnErr tP tQ tR) fun r3 =>
   if (r3 != (0 : Int)) = true then
    if (r0.2 == r3) = true then
     if (r1.2.2 == r3) = true then
      if (r0.1 == (0 : Int)) = true then
       some (r1.1 == (0 : Int) && r1.2.1 == (0 : Int))
      else
       some false
     else
      some false
    else
     some false
   else
    Option.bind (R06_GainSquare sB0 sB1 sB2 sA0 sA1 tP tQ tR) fun r4 =>
    Option.bind (R06_FracErr squareNum squareDen) fun r5 =>
    if (r5 == (0 : Int)) = true then
     if squareNum < (0 : Int) then
      if (r0.2 != (2 : Int)) = true then
       some false
      else
       if (r0.1 != (0 : Int)) = true then
        some false
       else
        if (r1.2.2 != r4.2.2) = true then
         some false
        else
         if (!(r1.1 == r4.1 && r1.2.1 == r4.2.1)) = true then
          some false
         else
          Option.bind (F_GainSquare sB0 sB1 sB2 sA0 sA1 tP (IntKind.wrap IntKind.i64 ((0 : Int) - tQ)) tR) fun r6 =>
          if (r6.2.2 == r4.2.2) = true then
           if (r6.1 == r1.1 && r6.2.1 == r1.2.1) = true then
            if (r4.2.2 != (0 : Int)) = true then
             some true
            else
             some true
           else
            some false
          else
           some false
     else
      if (r5 == (0 : Int)) = true then
       Option.bind (R06_CompareGain sB0 sB1 sB2 sA0 sA1 tP tQ tR squareNum squareDen) fun r7 =>
       if (r0.2 != r7.2) = true then
        some false
       else
        if (r0.1 != r7.1) = true then
         some false
        else
         if (r1.2.2 != r4.2.2) = true then
          some false
         else
          if (!(r1.1 == r4.1 && r1.2.1 == r4.2.1)) = true then
           some false
          else
           Option.bind (F_GainSquare sB0 sB1 sB2 sA0 sA1 tP (IntKind.wrap IntKind.i64 ((0 : Int) - tQ)) tR) fun r8 =>
           if (r8.2.2 == r4.2.2) = true then
            if (r8.1 == r1.1 && r8.2.1 == r1.2.1) = true then
             if (r4.2.2 != (0 : Int)) = true then
              some true
             else
              if (r7.2 != (0 : Int)) = true then
               some true
              else
               Option.bind (B_Cmp r1.1 r1.2.1 squareNum squareDen) fun r9 =>
               some (r0.1 == r9)
            else
             some false
           else
            some false
      else
       if (r0.2 != r5) = true then
        some false
       else
        if (r0.1 != (0 : Int)) = true then
         some false
        else
         if (r1.2.2 != r4.2.2) = true then
          some false
         else
          if (!(r1.1 == r4.1 && r1.2.1 == r4.2.1)) = true then
           some false
          else
           Option.bind (F_GainSquare sB0 sB1 sB2 sA0 sA1 tP (IntKind.wrap IntKind.i64 ((0 : Int) - tQ)) tR) fun r10 =>
           if (r10.2.2 == r4.2.2) = true then
            if (r10.1 == r1.1 && r10.2.1 == r1.2.1) = true then
             if (r4.2.2 != (0 : Int)) = true then
              some true
             else
              if (r5 != (0 : Int)) = true then
               some true
              else
               Option.bind (B_Cmp r1.1 r1.2.1 squareNum squareDen) fun r11 =>
               some (r0.1 == r11)
            else
             some false
           else
            some false
    else
     if (r5 == (0 : Int)) = true then
      Option.bind (R06_CompareGain sB0 sB1 sB2 sA0 sA1 tP tQ tR squareNum squareDen) fun r12 =>
      if (r0.2 != r12.2) = true then
       some false
      else
       if (r0.1 != r12.1) = true then
        some false
       else
        if (r1.2.2 != r4.2.2) = true then
         some false
        else
         if (!(r1.1 == r4.1 && r1.2.1 == r4.2.1)) = true then
          some false
         else
          Option.bind (F_GainSquare sB0 sB1 sB2 sA0 sA1 tP (IntKind.wrap IntKind.i64 ((0 : Int) - tQ)) tR) fun r13 =>
          if (r13.2.2 == r4.2.2) = true then
           if (r13.1 == r1.1 && r13.2.1 == r1.2.1) = true then
            if (r4.2.2 != (0 : Int)) = true then
             some true
            else
             if (r12.2 != (0 : Int)) = true then
              some true
             else
              Option.bind (B_Cmp r1.1 r1.2.1 squareNum squareDen) fun r14 =>
              some (r0.1 == r14)
           else
            some false
          else
           some false
     else
      if (r0.2 != r5) = true then
       some false
      else
       if (r0.1 != (0 : Int)) = true then
        some false
       else
        if (r1.2.2 != r4.2.2) = true then
         some false
        else
         if (!(r1.1 == r4.1 && r1.2.1 == r4.2.1)) = true then
          some false
         else
          Option.bind (F_GainSquare sB0 sB1 sB2 sA0 sA1 tP (IntKind.wrap IntKind.i64 ((0 : Int) - tQ)) tR) fun r15 =>
          if (r15.2.2 == r4.2.2) = true then
           if (r15.1 == r1.1 && r15.2.1 == r1.2.1) = true then
            if (r4.2.2 != (0 : Int)) = true then
             some true
            else
             if (r5 != (0 : Int)) = true then
              some true
             else
              Option.bind (B_Cmp r1.1 r1.2.1 squareNum squareDen) fun r16 =>
              some (r0.1 == r16)
           else
            some false
          else
           some false
  else
   if (r2 != (0 : Int)) = true then
    if (r0.2 == r2) = true then
     if (r1.2.2 == r2) = true then
      if (r0.1 == (0 : Int)) = true then
       some (r1.1 == (0 : Int) && r1.2.1 == (0 : Int))
      else
       some false
     else
      some false
    else
     some false
   else
    Option.bind (R06_GainSquare sB0 sB1 sB2 sA0 sA1 tP tQ tR) fun r17 =>
    Option.bind (R06_FracErr squareNum squareDen) fun r18 =>
    if (r18 == (0 : Int)) = true then
     if squareNum < (0 : Int) then
      if (r0.2 != (2 : Int)) = true then
       some false
      else
       if (r0.1 != (0 : Int)) = true then
        some false
       else
        if (r1.2.2 != r17.2.2) = true then
         some false
        else
         if (!(r1.1 == r17.1 && r1.2.1 == r17.2.1)) = true then
          some false
         else
          Option.bind (F_GainSquare sB0 sB1 sB2 sA0 sA1 tP (IntKind.wrap IntKind.i64 ((0 : Int) - tQ)) tR) fun r19 =>
          if (r19.2.2 == r17.2.2) = true then
           if (r19.1 == r1.1 && r19.2.1 == r1.2.1) = true then
            if (r17.2.2 != (0 : Int)) = true then
             some true
            else
             some true
           else
            some false
          else
           some false
     else
      if (r18 == (0 : Int)) = true then
       Option.bind (R06_CompareGain sB0 sB1 sB2 sA0 sA1 tP tQ tR squareNum squareDen) fun r20 =>
       if (r0.2 != r20.2) = true then
        some false
       else
        if (r0.1 != r20.1) = true then
         some false
        else
         if (r1.2.2 != r17.2.2) = true then
          some false
         else
          if (!(r1.1 == r17.1 && r1.2.1 == r17.2.1)) = true then
           some false
          else
           Option.bind (F_GainSquare sB0 sB1 sB2 sA0 sA1 tP (IntKind.wrap IntKind.i64 ((0 : Int) - tQ)) tR) fun r21 =>
           if (r21.2.2 == r17.2.2) = true then
            if (r21.1 == r1.1 && r21.2.1 == r1.2.1) = true then
             if (r17.2.2 != (0 : Int)) = true then
              some true
             else
              if (r20.2 != (0 : Int)) = true then
               some true
              else
               Option.bind (B_Cmp r1.1 r1.2.1 squareNum squareDen) fun r22 =>
               some (r0.1 == r22)
            else
             some false
           else
            some false
      else
       if (r0.2 != r18) = true then
        some false
       else
        if (r0.1 != (0 : Int)) = true then
         some false
        else
         if (r1.2.2 != r17.2.2) = true then
          some false
         else
          if (!(r1.1 == r17.1 && r1.2.1 == r17.2.1)) = true then
           some false
          else
           Option.bind (F_GainSquare sB0 sB1 sB2 sA0 sA1 tP (IntKind.wrap IntKind.i64 ((0 : Int) - tQ)) tR) fun r23 =>
           if (r23.2.2 == r17.2.2) = true then
            if (r23.1 == r1.1 && r23.2.1 == r1.2.1) = true then
             if (r17.2.2 != (0 : Int)) = true then
              some true
             else
              if (r18 != (0 : Int)) = true then
               some true
              else
               Option.bind (B_Cmp r1.1 r1.2.1 squareNum squareDen) fun r24 =>
               some (r0.1 == r24)
            else
             some false
           else
            some false
    else
     if (r18 == (0 : Int)) = true then
      Option.bind (R06_CompareGain sB0 sB1 sB2 sA0 sA1 tP tQ tR squareNum squareDen) fun r25 =>
      if (r0.2 != r25.2) = true then
       some false
      else
       if (r0.1 != r25.1) = true then
        some false
       else
        if (r1.2.2 != r17.2.2) = true then
         some false
        else
         if (!(r1.1 == r17.1 && r1.2.1 == r17.2.1)) = true then
          some false
         else
          Option.bind (F_GainSquare sB0 sB1 sB2 sA0 sA1 tP (IntKind.wrap IntKind.i64 ((0 : Int) - tQ)) tR) fun r26 =>
          if (r26.2.2 == r17.2.2) = true then
           if (r26.1 == r1.1 && r26.2.1 == r1.2.1) = true then
            if (r17.2.2 != (0 : Int)) = true then
             some true
            else
             if (r25.2 != (0 : Int)) = true then
              some true
             else
              Option.bind (B_Cmp r1.1 r1.2.1 squareNum squareDen) fun r27 =>
              some (r0.1 == r27)
           else
            some false
          else
           some false
     else
      if (r0.2 != r18) = true then
       some false
      else
       if (r0.1 != (0 : Int)) = true then
        some false
       else
        if (r1.2.2 != r17.2.2) = true then
         some false
        else
         if (!(r1.1 == r17.1 && r1.2.1 == r17.2.1)) = true then
          some false
         else
          Option.bind (F_GainSquare sB0 sB1 sB2 sA0 sA1 tP (IntKind.wrap IntKind.i64 ((0 : Int) - tQ)) tR) fun r28 =>
          if (r28.2.2 == r17.2.2) = true then
           if (r28.1 == r1.1 && r28.2.1 == r1.2.1) = true then
            if (r17.2.2 != (0 : Int)) = true then
             some true
            else
             if (r18 != (0 : Int)) = true then
              some true
             else
              Option.bind (B_Cmp r1.1 r1.2.1 squareNum squareDen) fun r29 =>
              some (r0.1 == r29)
           else
            some false
          else
           some false
def g_L06_FilterGains : List A → Option (Prop × List RV)
  | [.s [.i .i64 sB0, .i .i64 sB1, .i .i64 sB2, .i .i64 sA0, .i .i64 sA1], .s [.i .i64 tP, .i .i64 tQ, .i .i64 tR], .s [.i .i64 squareNum, .i .i64 squareDen]] => some (ok (L06_FilterGains sB0 sB1 sB2 sA0 sA1 tP tQ tR squareNum squareDen), [.d (.b ((val (L06_FilterGains sB0 sB1 sB2 sA0 sA1 tP tQ tR squareNum squareDen))))])
  | _ => none
def k_L06_FilterGains : List (Option Cont) := [none, none, none]
abbrev sp_15 : Specs → Specs := addK 15 true (pureK k_L06_FilterGains g_L06_FilterGains)
set_option maxRecDepth 100000 in
theorem L06_FilterGains_vc (sB0 : Int) (sB1 : Int) (sB2 : Int) (sA0 : Int) (sA1 : Int) (tP : Int) (tQ : Int) (tR : Int) (squareNum : Int) (squareDen : Int) (r : Bool) (h : Option.bind (L06_FilterGains sB0 sB1 sB2 sA0 sA1 tP tQ tR squareNum squareDen) some = some r) : runF Try.f15 ((sp_18 (sp_75 (sp_28 (sp_42 (sp_76 (sp_77 (sp_78 (sp_44 (sp_79 sp0)))))))))) (fun _ _ _ => none) [.s [.i .i64 sB0, .i .i64 sB1, .i .i64 sB2, .i .i64 sA0, .i .i64 sA1], .s [.i .i64 tP, .i .i64 tQ, .i .i64 tR], .s [.i .i64 squareNum, .i .i64 squareDen]] [.d (.b r)] := by
  refine Eq.mp (by kernel_rfl : (
  (Ob (ok L06_awake) ∧
   (Ob (ok (F_CompareGain sB0 sB1 sB2 sA0 sA1 tP tQ tR squareNum squareDen)) ∧
   (Ob (ok (F_GainSquare sB0 sB1 sB2 sA0 sA1 tP tQ tR)) ∧
   (Ob (ok (R06_CheckSection sB0 sB1 sB2 sA0 sA1)) ∧
   Br (val (R06_CheckSection sB0 sB1 sB2 sA0 sA1) == (0 : Int))
   ((Ob (ok (R06_TurnErr tP tQ tR)) ∧
   Br (val (R06_TurnErr tP tQ tR) != (0 : Int))
   (Br ((val (F_CompareGain sB0 sB1 sB2 sA0 sA1 tP tQ tR squareNum squareDen)).2 == val (R06_TurnErr tP tQ tR))
   (Br ((val (F_GainSquare sB0 sB1 sB2 sA0 sA1 tP tQ tR)).2.2 == val (R06_TurnErr tP tQ tR))
   (Br ((val (F_CompareGain sB0 sB1 sB2 sA0 sA1 tP tQ tR squareNum squareDen)).1 == (0 : Int))
   ((Ob (True) ∧
   (Ob (((val (F_GainSquare sB0 sB1 sB2 sA0 sA1 tP tQ tR)).1 == (0 : Int) && (val (F_GainSquare sB0 sB1 sB2 sA0 sA1 tP tQ tR)).2.1 == (0 : Int)) = r) ∧
   True)))
   ((Ob (True) ∧
   (Ob (false = r) ∧
   True))))
   ((Ob (True) ∧
   (Ob (false = r) ∧
   True))))
   ((Ob (True) ∧
   (Ob (false = r) ∧
   True))))
   ((Ob (ok (R06_GainSquare sB0 sB1 sB2 sA0 sA1 tP tQ tR)) ∧
   (Ob (ok (R06_FracErr squareNum squareDen)) ∧
   Br (val (R06_FracErr squareNum squareDen) == (0 : Int))
   (Br (decide (squareNum < (0 : Int)))
   (Br ((val (F_CompareGain sB0 sB1 sB2 sA0 sA1 tP tQ tR squareNum squareDen)).2 != (2 : Int))
   ((Ob (True) ∧
   (Ob (false = r) ∧
   True)))
   (Br ((val (F_CompareGain sB0 sB1 sB2 sA0 sA1 tP tQ tR squareNum squareDen)).1 != (0 : Int))
   ((Ob (True) ∧
   (Ob (false = r) ∧
   True)))
   (Br ((val (F_GainSquare sB0 sB1 sB2 sA0 sA1 tP tQ tR)).2.2 != (val (R06_GainSquare sB0 sB1 sB2 sA0 sA1 tP tQ tR)).2.2)
   ((Ob (True) ∧
   (Ob (false = r) ∧
   True)))
   (Br (!((val (F_GainSquare sB0 sB1 sB2 sA0 sA1 tP tQ tR)).1 == (val (R06_GainSquare sB0 sB1 sB2 sA0 sA1 tP tQ tR)).1 && (val (F_GainSquare sB0 sB1 sB2 sA0 sA1 tP tQ tR)).2.1 == (val (R06_GainSquare sB0 sB1 sB2 sA0 sA1 tP tQ tR)).2.1))
   ((Ob (True) ∧
   (Ob (false = r) ∧
   True)))
   ((Ob (ok (F_GainSquare sB0 sB1 sB2 sA0 sA1 tP (IntKind.wrap IntKind.i64 ((0 : Int) - tQ)) tR)) ∧
   Br ((val (F_GainSquare sB0 sB1 sB2 sA0 sA1 tP (IntKind.wrap IntKind.i64 ((0 : Int) - tQ)) tR)).2.2 == (val (R06_GainSquare sB0 sB1 sB2 sA0 sA1 tP tQ tR)).2.2)
   (Br ((val (F_GainSquare sB0 sB1 sB2 sA0 sA1 tP (IntKind.wrap IntKind.i64 ((0 : Int) - tQ)) tR)).1 == (val (F_GainSquare sB0 sB1 sB2 sA0 sA1 tP tQ tR)).1 && (val (F_GainSquare sB0 sB1 sB2 sA0 sA1 tP (IntKind.wrap IntKind.i64 ((0 : Int) - tQ)) tR)).2.1 == (val (F_GainSquare sB0 sB1 sB2 sA0 sA1 tP tQ tR)).2.1)
   (Br ((val (R06_GainSquare sB0 sB1 sB2 sA0 sA1 tP tQ tR)).2.2 != (0 : Int))
   ((Ob (True) ∧
   (Ob (true = r) ∧
   True)))
   ((Ob (True) ∧
   (Ob (true = r) ∧
   True))))
   ((Ob (True) ∧
   (Ob (false = r) ∧
   True))))
   ((Ob (True) ∧
   (Ob (false = r) ∧
   True)))))))))
   (Br (val (R06_FracErr squareNum squareDen) == (0 : Int))
   ((Ob (ok (R06_CompareGain sB0 sB1 sB2 sA0 sA1 tP tQ tR squareNum squareDen)) ∧
   Br ((val (F_CompareGain sB0 sB1 sB2 sA0 sA1 tP tQ tR squareNum squareDen)).2 != (val (R06_CompareGain sB0 sB1 sB2 sA0 sA1 tP tQ tR squareNum squareDen)).2)
   ((Ob (True) ∧
   (Ob (false = r) ∧
   True)))
   (Br ((val (F_CompareGain sB0 sB1 sB2 sA0 sA1 tP tQ tR squareNum squareDen)).1 != (val (R06_CompareGain sB0 sB1 sB2 sA0 sA1 tP tQ tR squareNum squareDen)).1)
   ((Ob (True) ∧
   (Ob (false = r) ∧
   True)))
   (Br ((val (F_GainSquare sB0 sB1 sB2 sA0 sA1 tP tQ tR)).2.2 != (val (R06_GainSquare sB0 sB1 sB2 sA0 sA1 tP tQ tR)).2.2)
   ((Ob (True) ∧
   (Ob (false = r) ∧
   True)))
   (Br (!((val (F_GainSquare sB0 sB1 sB2 sA0 sA1 tP tQ tR)).1 == (val (R06_GainSquare sB0 sB1 sB2 sA0 sA1 tP tQ tR)).1 && (val (F_GainSquare sB0 sB1 sB2 sA0 sA1 tP tQ tR)).2.1 == (val (R06_GainSquare sB0 sB1 sB2 sA0 sA1 tP tQ tR)).2.1))
   ((Ob (True) ∧
   (Ob (false = r) ∧
   True)))
   ((Ob (ok (F_GainSquare sB0 sB1 sB2 sA0 sA1 tP (IntKind.wrap IntKind.i64 ((0 : Int) - tQ)) tR)) ∧
   Br ((val (F_GainSquare sB0 sB1 sB2 sA0 sA1 tP (IntKind.wrap IntKind.i64 ((0 : Int) - tQ)) tR)).2.2 == (val (R06_GainSquare sB0 sB1 sB2 sA0 sA1 tP tQ tR)).2.2)
   (Br ((val (F_GainSquare sB0 sB1 sB2 sA0 sA1 tP (IntKind.wrap IntKind.i64 ((0 : Int) - tQ)) tR)).1 == (val (F_GainSquare sB0 sB1 sB2 sA0 sA1 tP tQ tR)).1 && (val (F_GainSquare sB0 sB1 sB2 sA0 sA1 tP (IntKind.wrap IntKind.i64 ((0 : Int) - tQ)) tR)).2.1 == (val (F_GainSquare sB0 sB1 sB2 sA0 sA1 tP tQ tR)).2.1)
   (Br ((val (R06_GainSquare sB0 sB1 sB2 sA0 sA1 tP tQ tR)).2.2 != (0 : Int))
   ((Ob (True) ∧
   (Ob (true = r) ∧
   True)))
   (Br ((val (R06_CompareGain sB0 sB1 sB2 sA0 sA1 tP tQ tR squareNum squareDen)).2 != (0 : Int))
   ((Ob (True) ∧
   (Ob (true = r) ∧
   True)))
   ((Ob (ok (B_Cmp (val (F_GainSquare sB0 sB1 sB2 sA0 sA1 tP tQ tR)).1 (val (F_GainSquare sB0 sB1 sB2 sA0 sA1 tP tQ tR)).2.1 squareNum squareDen)) ∧
   (Ob (True) ∧
   (Ob (((val (F_CompareGain sB0 sB1 sB2 sA0 sA1 tP tQ tR squareNum squareDen)).1 == val (B_Cmp (val (F_GainSquare sB0 sB1 sB2 sA0 sA1 tP tQ tR)).1 (val (F_GainSquare sB0 sB1 sB2 sA0 sA1 tP tQ tR)).2.1 squareNum squareDen)) = r) ∧
   True))))))
   ((Ob (True) ∧
   (Ob (false = r) ∧
   True))))
   ((Ob (True) ∧
   (Ob (false = r) ∧
   True))))))))))
   (Br ((val (F_CompareGain sB0 sB1 sB2 sA0 sA1 tP tQ tR squareNum squareDen)).2 != val (R06_FracErr squareNum squareDen))
   ((Ob (True) ∧
   (Ob (false = r) ∧
   True)))
   (Br ((val (F_CompareGain sB0 sB1 sB2 sA0 sA1 tP tQ tR squareNum squareDen)).1 != (0 : Int))
   ((Ob (True) ∧
   (Ob (false = r) ∧
   True)))
   (Br ((val (F_GainSquare sB0 sB1 sB2 sA0 sA1 tP tQ tR)).2.2 != (val (R06_GainSquare sB0 sB1 sB2 sA0 sA1 tP tQ tR)).2.2)
   ((Ob (True) ∧
   (Ob (false = r) ∧
   True)))
   (Br (!((val (F_GainSquare sB0 sB1 sB2 sA0 sA1 tP tQ tR)).1 == (val (R06_GainSquare sB0 sB1 sB2 sA0 sA1 tP tQ tR)).1 && (val (F_GainSquare sB0 sB1 sB2 sA0 sA1 tP tQ tR)).2.1 == (val (R06_GainSquare sB0 sB1 sB2 sA0 sA1 tP tQ tR)).2.1))
   ((Ob (True) ∧
   (Ob (false = r) ∧
   True)))
   ((Ob (ok (F_GainSquare sB0 sB1 sB2 sA0 sA1 tP (IntKind.wrap IntKind.i64 ((0 : Int) - tQ)) tR)) ∧
   Br ((val (F_GainSquare sB0 sB1 sB2 sA0 sA1 tP (IntKind.wrap IntKind.i64 ((0 : Int) - tQ)) tR)).2.2 == (val (R06_GainSquare sB0 sB1 sB2 sA0 sA1 tP tQ tR)).2.2)
   (Br ((val (F_GainSquare sB0 sB1 sB2 sA0 sA1 tP (IntKind.wrap IntKind.i64 ((0 : Int) - tQ)) tR)).1 == (val (F_GainSquare sB0 sB1 sB2 sA0 sA1 tP tQ tR)).1 && (val (F_GainSquare sB0 sB1 sB2 sA0 sA1 tP (IntKind.wrap IntKind.i64 ((0 : Int) - tQ)) tR)).2.1 == (val (F_GainSquare sB0 sB1 sB2 sA0 sA1 tP tQ tR)).2.1)
   (Br ((val (R06_GainSquare sB0 sB1 sB2 sA0 sA1 tP tQ tR)).2.2 != (0 : Int))
   ((Ob (True) ∧
   (Ob (true = r) ∧
   True)))
   (Br (val (R06_FracErr squareNum squareDen) != (0 : Int))
   ((Ob (True) ∧
   (Ob (true = r) ∧
   True)))
   ((Ob (ok (B_Cmp (val (F_GainSquare sB0 sB1 sB2 sA0 sA1 tP tQ tR)).1 (val (F_GainSquare sB0 sB1 sB2 sA0 sA1 tP tQ tR)).2.1 squareNum squareDen)) ∧
   (Ob (True) ∧
   (Ob (((val (F_CompareGain sB0 sB1 sB2 sA0 sA1 tP tQ tR squareNum squareDen)).1 == val (B_Cmp (val (F_GainSquare sB0 sB1 sB2 sA0 sA1 tP tQ tR)).1 (val (F_GainSquare sB0 sB1 sB2 sA0 sA1 tP tQ tR)).2.1 squareNum squareDen)) = r) ∧
   True))))))
   ((Ob (True) ∧
   (Ob (false = r) ∧
   True))))
   ((Ob (True) ∧
   (Ob (false = r) ∧
   True)))))))))))
   (Br (val (R06_FracErr squareNum squareDen) == (0 : Int))
   ((Ob (ok (R06_CompareGain sB0 sB1 sB2 sA0 sA1 tP tQ tR squareNum squareDen)) ∧
   Br ((val (F_CompareGain sB0 sB1 sB2 sA0 sA1 tP tQ tR squareNum squareDen)).2 != (val (R06_CompareGain sB0 sB1 sB2 sA0 sA1 tP tQ tR squareNum squareDen)).2)
   ((Ob (True) ∧
   (Ob (false = r) ∧
   True)))
   (Br ((val (F_CompareGain sB0 sB1 sB2 sA0 sA1 tP tQ tR squareNum squareDen)).1 != (val (R06_CompareGain sB0 sB1 sB2 sA0 sA1 tP tQ tR squareNum squareDen)).1)
   ((Ob (True) ∧
   (Ob (false = r) ∧
   True)))
   (Br ((val (F_GainSquare sB0 sB1 sB2 sA0 sA1 tP tQ tR)).2.2 != (val (R06_GainSquare sB0 sB1 sB2 sA0 sA1 tP tQ tR)).2.2)
   ((Ob (True) ∧
   (Ob (false = r) ∧
   True)))
   (Br (!((val (F_GainSquare sB0 sB1 sB2 sA0 sA1 tP tQ tR)).1 == (val (R06_GainSquare sB0 sB1 sB2 sA0 sA1 tP tQ tR)).1 && (val (F_GainSquare sB0 sB1 sB2 sA0 sA1 tP tQ tR)).2.1 == (val (R06_GainSquare sB0 sB1 sB2 sA0 sA1 tP tQ tR)).2.1))
   ((Ob (True) ∧
   (Ob (false = r) ∧
   True)))
   ((Ob (ok (F_GainSquare sB0 sB1 sB2 sA0 sA1 tP (IntKind.wrap IntKind.i64 ((0 : Int) - tQ)) tR)) ∧
   Br ((val (F_GainSquare sB0 sB1 sB2 sA0 sA1 tP (IntKind.wrap IntKind.i64 ((0 : Int) - tQ)) tR)).2.2 == (val (R06_GainSquare sB0 sB1 sB2 sA0 sA1 tP tQ tR)).2.2)
   (Br ((val (F_GainSquare sB0 sB1 sB2 sA0 sA1 tP (IntKind.wrap IntKind.i64 ((0 : Int) - tQ)) tR)).1 == (val (F_GainSquare sB0 sB1 sB2 sA0 sA1 tP tQ tR)).1 && (val (F_GainSquare sB0 sB1 sB2 sA0 sA1 tP (IntKind.wrap IntKind.i64 ((0 : Int) - tQ)) tR)).2.1 == (val (F_GainSquare sB0 sB1 sB2 sA0 sA1 tP tQ tR)).2.1)
   (Br ((val (R06_GainSquare sB0 sB1 sB2 sA0 sA1 tP tQ tR)).2.2 != (0 : Int))
   ((Ob (True) ∧
   (Ob (true = r) ∧
   True)))
   (Br ((val (R06_CompareGain sB0 sB1 sB2 sA0 sA1 tP tQ tR squareNum squareDen)).2 != (0 : Int))
   ((Ob (True) ∧
   (Ob (true = r) ∧
   True)))
   ((Ob (ok (B_Cmp (val (F_GainSquare sB0 sB1 sB2 sA0 sA1 tP tQ tR)).1 (val (F_GainSquare sB0 sB1 sB2 sA0 sA1 tP tQ tR)).2.1 squareNum squareDen)) ∧
   (Ob (True) ∧
   (Ob (((val (F_CompareGain sB0 sB1 sB2 sA0 sA1 tP tQ tR squareNum squareDen)).1 == val (B_Cmp (val (F_GainSquare sB0 sB1 sB2 sA0 sA1 tP tQ tR)).1 (val (F_GainSquare sB0 sB1 sB2 sA0 sA1 tP tQ tR)).2.1 squareNum squareDen)) = r) ∧
   True))))))
   ((Ob (True) ∧
   (Ob (false = r) ∧
   True))))
   ((Ob (True) ∧
   (Ob (false = r) ∧
   True))))))))))
   (Br ((val (F_CompareGain sB0 sB1 sB2 sA0 sA1 tP tQ tR squareNum squareDen)).2 != val (R06_FracErr squareNum squareDen))
   ((Ob (True) ∧
   (Ob (false = r) ∧
   True)))
   (Br ((val (F_CompareGain sB0 sB1 sB2 sA0 sA1 tP tQ tR squareNum squareDen)).1 != (0 : Int))
   ((Ob (True) ∧
   (Ob (false = r) ∧
   True)))
   (Br ((val (F_GainSquare sB0 sB1 sB2 sA0 sA1 tP tQ tR)).2.2 != (val (R06_GainSquare sB0 sB1 sB2 sA0 sA1 tP tQ tR)).2.2)
   ((Ob (True) ∧
   (Ob (false = r) ∧
   True)))
   (Br (!((val (F_GainSquare sB0 sB1 sB2 sA0 sA1 tP tQ tR)).1 == (val (R06_GainSquare sB0 sB1 sB2 sA0 sA1 tP tQ tR)).1 && (val (F_GainSquare sB0 sB1 sB2 sA0 sA1 tP tQ tR)).2.1 == (val (R06_GainSquare sB0 sB1 sB2 sA0 sA1 tP tQ tR)).2.1))
   ((Ob (True) ∧
   (Ob (false = r) ∧
   True)))
   ((Ob (ok (F_GainSquare sB0 sB1 sB2 sA0 sA1 tP (IntKind.wrap IntKind.i64 ((0 : Int) - tQ)) tR)) ∧
   Br ((val (F_GainSquare sB0 sB1 sB2 sA0 sA1 tP (IntKind.wrap IntKind.i64 ((0 : Int) - tQ)) tR)).2.2 == (val (R06_GainSquare sB0 sB1 sB2 sA0 sA1 tP tQ tR)).2.2)
   (Br ((val (F_GainSquare sB0 sB1 sB2 sA0 sA1 tP (IntKind.wrap IntKind.i64 ((0 : Int) - tQ)) tR)).1 == (val (F_GainSquare sB0 sB1 sB2 sA0 sA1 tP tQ tR)).1 && (val (F_GainSquare sB0 sB1 sB2 sA0 sA1 tP (IntKind.wrap IntKind.i64 ((0 : Int) - tQ)) tR)).2.1 == (val (F_GainSquare sB0 sB1 sB2 sA0 sA1 tP tQ tR)).2.1)
   (Br ((val (R06_GainSquare sB0 sB1 sB2 sA0 sA1 tP tQ tR)).2.2 != (0 : Int))
   ((Ob (True) ∧
   (Ob (true = r) ∧
   True)))
   (Br (val (R06_FracErr squareNum squareDen) != (0 : Int))
   ((Ob (True) ∧
   (Ob (true = r) ∧
   True)))
   ((Ob (ok (B_Cmp (val (F_GainSquare sB0 sB1 sB2 sA0 sA1 tP tQ tR)).1 (val (F_GainSquare sB0 sB1 sB2 sA0 sA1 tP tQ tR)).2.1 squareNum squareDen)) ∧
   (Ob (True) ∧
   (Ob (((val (F_CompareGain sB0 sB1 sB2 sA0 sA1 tP tQ tR squareNum squareDen)).1 == val (B_Cmp (val (F_GainSquare sB0 sB1 sB2 sA0 sA1 tP tQ tR)).1 (val (F_GainSquare sB0 sB1 sB2 sA0 sA1 tP tQ tR)).2.1 squareNum squareDen)) = r) ∧
   True))))))
   ((Ob (True) ∧
   (Ob (false = r) ∧
   True))))
   ((Ob (True) ∧
   (Ob (false = r) ∧
   True)))))))))))))))
   (Br (val (R06_CheckSection sB0 sB1 sB2 sA0 sA1) != (0 : Int))
   (Br ((val (F_CompareGain sB0 sB1 sB2 sA0 sA1 tP tQ tR squareNum squareDen)).2 == val (R06_CheckSection sB0 sB1 sB2 sA0 sA1))
   (Br ((val (F_GainSquare sB0 sB1 sB2 sA0 sA1 tP tQ tR)).2.2 == val (R06_CheckSection sB0 sB1 sB2 sA0 sA1))
   (Br ((val (F_CompareGain sB0 sB1 sB2 sA0 sA1 tP tQ tR squareNum squareDen)).1 == (0 : Int))
   ((Ob (True) ∧
   (Ob (((val (F_GainSquare sB0 sB1 sB2 sA0 sA1 tP tQ tR)).1 == (0 : Int) && (val (F_GainSquare sB0 sB1 sB2 sA0 sA1 tP tQ tR)).2.1 == (0 : Int)) = r) ∧
   True)))
   ((Ob (True) ∧
   (Ob (false = r) ∧
   True))))
   ((Ob (True) ∧
   (Ob (false = r) ∧
   True))))
   ((Ob (True) ∧
   (Ob (false = r) ∧
   True))))
   ((Ob (ok (R06_GainSquare sB0 sB1 sB2 sA0 sA1 tP tQ tR)) ∧
   (Ob (ok (R06_FracErr squareNum squareDen)) ∧
   Br (val (R06_FracErr squareNum squareDen) == (0 : Int))
   (Br (decide (squareNum < (0 : Int)))
   (Br ((val (F_CompareGain sB0 sB1 sB2 sA0 sA1 tP tQ tR squareNum squareDen)).2 != (2 : Int))
   ((Ob (True) ∧
   (Ob (false = r) ∧
   True)))
   (Br ((val (F_CompareGain sB0 sB1 sB2 sA0 sA1 tP tQ tR squareNum squareDen)).1 != (0 : Int))
   ((Ob (True) ∧
   (Ob (false = r) ∧
   True)))
   (Br ((val (F_GainSquare sB0 sB1 sB2 sA0 sA1 tP tQ tR)).2.2 != (val (R06_GainSquare sB0 sB1 sB2 sA0 sA1 tP tQ tR)).2.2)
   ((Ob (True) ∧
   (Ob (false = r) ∧
   True)))
   (Br (!((val (F_GainSquare sB0 sB1 sB2 sA0 sA1 tP tQ tR)).1 == (val (R06_GainSquare sB0 sB1 sB2 sA0 sA1 tP tQ tR)).1 && (val (F_GainSquare sB0 sB1 sB2 sA0 sA1 tP tQ tR)).2.1 == (val (R06_GainSquare sB0 sB1 sB2 sA0 sA1 tP tQ tR)).2.1))
   ((Ob (True) ∧
   (Ob (false = r) ∧
   True)))
   ((Ob (ok (F_GainSquare sB0 sB1 sB2 sA0 sA1 tP (IntKind.wrap IntKind.i64 ((0 : Int) - tQ)) tR)) ∧
   Br ((val (F_GainSquare sB0 sB1 sB2 sA0 sA1 tP (IntKind.wrap IntKind.i64 ((0 : Int) - tQ)) tR)).2.2 == (val (R06_GainSquare sB0 sB1 sB2 sA0 sA1 tP tQ tR)).2.2)
   (Br ((val (F_GainSquare sB0 sB1 sB2 sA0 sA1 tP (IntKind.wrap IntKind.i64 ((0 : Int) - tQ)) tR)).1 == (val (F_GainSquare sB0 sB1 sB2 sA0 sA1 tP tQ tR)).1 && (val (F_GainSquare sB0 sB1 sB2 sA0 sA1 tP (IntKind.wrap IntKind.i64 ((0 : Int) - tQ)) tR)).2.1 == (val (F_GainSquare sB0 sB1 sB2 sA0 sA1 tP tQ tR)).2.1)
   (Br ((val (R06_GainSquare sB0 sB1 sB2 sA0 sA1 tP tQ tR)).2.2 != (0 : Int))
   ((Ob (True) ∧
   (Ob (true = r) ∧
   True)))
   ((Ob (True) ∧
   (Ob (true = r) ∧
   True))))
   ((Ob (True) ∧
   (Ob (false = r) ∧
   True))))
   ((Ob (True) ∧
   (Ob (false = r) ∧
   True)))))))))
   (Br (val (R06_FracErr squareNum squareDen) == (0 : Int))
   ((Ob (ok (R06_CompareGain sB0 sB1 sB2 sA0 sA1 tP tQ tR squareNum squareDen)) ∧
   Br ((val (F_CompareGain sB0 sB1 sB2 sA0 sA1 tP tQ tR squareNum squareDen)).2 != (val (R06_CompareGain sB0 sB1 sB2 sA0 sA1 tP tQ tR squareNum squareDen)).2)
   ((Ob (True) ∧
   (Ob (false = r) ∧
   True)))
   (Br ((val (F_CompareGain sB0 sB1 sB2 sA0 sA1 tP tQ tR squareNum squareDen)).1 != (val (R06_CompareGain sB0 sB1 sB2 sA0 sA1 tP tQ tR squareNum squareDen)).1)
   ((Ob (True) ∧
   (Ob (false = r) ∧
   True)))
   (Br ((val (F_GainSquare sB0 sB1 sB2 sA0 sA1 tP tQ tR)).2.2 != (val (R06_GainSquare sB0 sB1 sB2 sA0 sA1 tP tQ tR)).2.2)
   ((Ob (True) ∧
   (Ob (false = r) ∧
   True)))
   (Br (!((val (F_GainSquare sB0 sB1 sB2 sA0 sA1 tP tQ tR)).1 == (val (R06_GainSquare sB0 sB1 sB2 sA0 sA1 tP tQ tR)).1 && (val (F_GainSquare sB0 sB1 sB2 sA0 sA1 tP tQ tR)).2.1 == (val (R06_GainSquare sB0 sB1 sB2 sA0 sA1 tP tQ tR)).2.1))
   ((Ob (True) ∧
   (Ob (false = r) ∧
   True)))
   ((Ob (ok (F_GainSquare sB0 sB1 sB2 sA0 sA1 tP (IntKind.wrap IntKind.i64 ((0 : Int) - tQ)) tR)) ∧
   Br ((val (F_GainSquare sB0 sB1 sB2 sA0 sA1 tP (IntKind.wrap IntKind.i64 ((0 : Int) - tQ)) tR)).2.2 == (val (R06_GainSquare sB0 sB1 sB2 sA0 sA1 tP tQ tR)).2.2)
   (Br ((val (F_GainSquare sB0 sB1 sB2 sA0 sA1 tP (IntKind.wrap IntKind.i64 ((0 : Int) - tQ)) tR)).1 == (val (F_GainSquare sB0 sB1 sB2 sA0 sA1 tP tQ tR)).1 && (val (F_GainSquare sB0 sB1 sB2 sA0 sA1 tP (IntKind.wrap IntKind.i64 ((0 : Int) - tQ)) tR)).2.1 == (val (F_GainSquare sB0 sB1 sB2 sA0 sA1 tP tQ tR)).2.1)
   (Br ((val (R06_GainSquare sB0 sB1 sB2 sA0 sA1 tP tQ tR)).2.2 != (0 : Int))
   ((Ob (True) ∧
   (Ob (true = r) ∧
   True)))
   (Br ((val (R06_CompareGain sB0 sB1 sB2 sA0 sA1 tP tQ tR squareNum squareDen)).2 != (0 : Int))
   ((Ob (True) ∧
   (Ob (true = r) ∧
   True)))
   ((Ob (ok (B_Cmp (val (F_GainSquare sB0 sB1 sB2 sA0 sA1 tP tQ tR)).1 (val (F_GainSquare sB0 sB1 sB2 sA0 sA1 tP tQ tR)).2.1 squareNum squareDen)) ∧
   (Ob (True) ∧
   (Ob (((val (F_CompareGain sB0 sB1 sB2 sA0 sA1 tP tQ tR squareNum squareDen)).1 == val (B_Cmp (val (F_GainSquare sB0 sB1 sB2 sA0 sA1 tP tQ tR)).1 (val (F_GainSquare sB0 sB1 sB2 sA0 sA1 tP tQ tR)).2.1 squareNum squareDen)) = r) ∧
   True))))))
   ((Ob (True) ∧
   (Ob (false = r) ∧
   True))))
   ((Ob (True) ∧
   (Ob (false = r) ∧
   True))))))))))
   (Br ((val (F_CompareGain sB0 sB1 sB2 sA0 sA1 tP tQ tR squareNum squareDen)).2 != val (R06_FracErr squareNum squareDen))
   ((Ob (True) ∧
   (Ob (false = r) ∧
   True)))
   (Br ((val (F_CompareGain sB0 sB1 sB2 sA0 sA1 tP tQ tR squareNum squareDen)).1 != (0 : Int))
   ((Ob (True) ∧
   (Ob (false = r) ∧
   True)))
   (Br ((val (F_GainSquare sB0 sB1 sB2 sA0 sA1 tP tQ tR)).2.2 != (val (R06_GainSquare sB0 sB1 sB2 sA0 sA1 tP tQ tR)).2.2)
   ((Ob (True) ∧
   (Ob (false = r) ∧
   True)))
   (Br (!((val (F_GainSquare sB0 sB1 sB2 sA0 sA1 tP tQ tR)).1 == (val (R06_GainSquare sB0 sB1 sB2 sA0 sA1 tP tQ tR)).1 && (val (F_GainSquare sB0 sB1 sB2 sA0 sA1 tP tQ tR)).2.1 == (val (R06_GainSquare sB0 sB1 sB2 sA0 sA1 tP tQ tR)).2.1))
   ((Ob (True) ∧
   (Ob (false = r) ∧
   True)))
   ((Ob (ok (F_GainSquare sB0 sB1 sB2 sA0 sA1 tP (IntKind.wrap IntKind.i64 ((0 : Int) - tQ)) tR)) ∧
   Br ((val (F_GainSquare sB0 sB1 sB2 sA0 sA1 tP (IntKind.wrap IntKind.i64 ((0 : Int) - tQ)) tR)).2.2 == (val (R06_GainSquare sB0 sB1 sB2 sA0 sA1 tP tQ tR)).2.2)
   (Br ((val (F_GainSquare sB0 sB1 sB2 sA0 sA1 tP (IntKind.wrap IntKind.i64 ((0 : Int) - tQ)) tR)).1 == (val (F_GainSquare sB0 sB1 sB2 sA0 sA1 tP tQ tR)).1 && (val (F_GainSquare sB0 sB1 sB2 sA0 sA1 tP (IntKind.wrap IntKind.i64 ((0 : Int) - tQ)) tR)).2.1 == (val (F_GainSquare sB0 sB1 sB2 sA0 sA1 tP tQ tR)).2.1)
   (Br ((val (R06_GainSquare sB0 sB1 sB2 sA0 sA1 tP tQ tR)).2.2 != (0 : Int))
   ((Ob (True) ∧
   (Ob (true = r) ∧
   True)))
   (Br (val (R06_FracErr squareNum squareDen) != (0 : Int))
   ((Ob (True) ∧
   (Ob (true = r) ∧
   True)))
   ((Ob (ok (B_Cmp (val (F_GainSquare sB0 sB1 sB2 sA0 sA1 tP tQ tR)).1 (val (F_GainSquare sB0 sB1 sB2 sA0 sA1 tP tQ tR)).2.1 squareNum squareDen)) ∧
   (Ob (True) ∧
   (Ob (((val (F_CompareGain sB0 sB1 sB2 sA0 sA1 tP tQ tR squareNum squareDen)).1 == val (B_Cmp (val (F_GainSquare sB0 sB1 sB2 sA0 sA1 tP tQ tR)).1 (val (F_GainSquare sB0 sB1 sB2 sA0 sA1 tP tQ tR)).2.1 squareNum squareDen)) = r) ∧
   True))))))
   ((Ob (True) ∧
   (Ob (false = r) ∧
   True))))
   ((Ob (True) ∧
   (Ob (false = r) ∧
   True)))))))))))
   (Br (val (R06_FracErr squareNum squareDen) == (0 : Int))
   ((Ob (ok (R06_CompareGain sB0 sB1 sB2 sA0 sA1 tP tQ tR squareNum squareDen)) ∧
   Br ((val (F_CompareGain sB0 sB1 sB2 sA0 sA1 tP tQ tR squareNum squareDen)).2 != (val (R06_CompareGain sB0 sB1 sB2 sA0 sA1 tP tQ tR squareNum squareDen)).2)
   ((Ob (True) ∧
   (Ob (false = r) ∧
   True)))
   (Br ((val (F_CompareGain sB0 sB1 sB2 sA0 sA1 tP tQ tR squareNum squareDen)).1 != (val (R06_CompareGain sB0 sB1 sB2 sA0 sA1 tP tQ tR squareNum squareDen)).1)
   ((Ob (True) ∧
   (Ob (false = r) ∧
   True)))
   (Br ((val (F_GainSquare sB0 sB1 sB2 sA0 sA1 tP tQ tR)).2.2 != (val (R06_GainSquare sB0 sB1 sB2 sA0 sA1 tP tQ tR)).2.2)
   ((Ob (True) ∧
   (Ob (false = r) ∧
   True)))
   (Br (!((val (F_GainSquare sB0 sB1 sB2 sA0 sA1 tP tQ tR)).1 == (val (R06_GainSquare sB0 sB1 sB2 sA0 sA1 tP tQ tR)).1 && (val (F_GainSquare sB0 sB1 sB2 sA0 sA1 tP tQ tR)).2.1 == (val (R06_GainSquare sB0 sB1 sB2 sA0 sA1 tP tQ tR)).2.1))
   ((Ob (True) ∧
   (Ob (false = r) ∧
   True)))
   ((Ob (ok (F_GainSquare sB0 sB1 sB2 sA0 sA1 tP (IntKind.wrap IntKind.i64 ((0 : Int) - tQ)) tR)) ∧
   Br ((val (F_GainSquare sB0 sB1 sB2 sA0 sA1 tP (IntKind.wrap IntKind.i64 ((0 : Int) - tQ)) tR)).2.2 == (val (R06_GainSquare sB0 sB1 sB2 sA0 sA1 tP tQ tR)).2.2)
   (Br ((val (F_GainSquare sB0 sB1 sB2 sA0 sA1 tP (IntKind.wrap IntKind.i64 ((0 : Int) - tQ)) tR)).1 == (val (F_GainSquare sB0 sB1 sB2 sA0 sA1 tP tQ tR)).1 && (val (F_GainSquare sB0 sB1 sB2 sA0 sA1 tP (IntKind.wrap IntKind.i64 ((0 : Int) - tQ)) tR)).2.1 == (val (F_GainSquare sB0 sB1 sB2 sA0 sA1 tP tQ tR)).2.1)
   (Br ((val (R06_GainSquare sB0 sB1 sB2 sA0 sA1 tP tQ tR)).2.2 != (0 : Int))
   ((Ob (True) ∧
   (Ob (true = r) ∧
   True)))
   (Br ((val (R06_CompareGain sB0 sB1 sB2 sA0 sA1 tP tQ tR squareNum squareDen)).2 != (0 : Int))
   ((Ob (True) ∧
   (Ob (true = r) ∧
   True)))
   ((Ob (ok (B_Cmp (val (F_GainSquare sB0 sB1 sB2 sA0 sA1 tP tQ tR)).1 (val (F_GainSquare sB0 sB1 sB2 sA0 sA1 tP tQ tR)).2.1 squareNum squareDen)) ∧
   (Ob (True) ∧
   (Ob (((val (F_CompareGain sB0 sB1 sB2 sA0 sA1 tP tQ tR squareNum squareDen)).1 == val (B_Cmp (val (F_GainSquare sB0 sB1 sB2 sA0 sA1 tP tQ tR)).1 (val (F_GainSquare sB0 sB1 sB2 sA0 sA1 tP tQ tR)).2.1 squareNum squareDen)) = r) ∧
   True))))))
   ((Ob (True) ∧
   (Ob (false = r) ∧
   True))))
   ((Ob (True) ∧
   (Ob (false = r) ∧
   True))))))))))
   (Br ((val (F_CompareGain sB0 sB1 sB2 sA0 sA1 tP tQ tR squareNum squareDen)).2 != val (R06_FracErr squareNum squareDen))
   ((Ob (True) ∧
   (Ob (false = r) ∧
   True)))
   (Br ((val (F_CompareGain sB0 sB1 sB2 sA0 sA1 tP tQ tR squareNum squareDen)).1 != (0 : Int))
   ((Ob (True) ∧
   (Ob (false = r) ∧
   True)))
   (Br ((val (F_GainSquare sB0 sB1 sB2 sA0 sA1 tP tQ tR)).2.2 != (val (R06_GainSquare sB0 sB1 sB2 sA0 sA1 tP tQ tR)).2.2)
   ((Ob (True) ∧
   (Ob (false = r) ∧
   True)))
   (Br (!((val (F_GainSquare sB0 sB1 sB2 sA0 sA1 tP tQ tR)).1 == (val (R06_GainSquare sB0 sB1 sB2 sA0 sA1 tP tQ tR)).1 && (val (F_GainSquare sB0 sB1 sB2 sA0 sA1 tP tQ tR)).2.1 == (val (R06_GainSquare sB0 sB1 sB2 sA0 sA1 tP tQ tR)).2.1))
   ((Ob (True) ∧
   (Ob (false = r) ∧
   True)))
   ((Ob (ok (F_GainSquare sB0 sB1 sB2 sA0 sA1 tP (IntKind.wrap IntKind.i64 ((0 : Int) - tQ)) tR)) ∧
   Br ((val (F_GainSquare sB0 sB1 sB2 sA0 sA1 tP (IntKind.wrap IntKind.i64 ((0 : Int) - tQ)) tR)).2.2 == (val (R06_GainSquare sB0 sB1 sB2 sA0 sA1 tP tQ tR)).2.2)
   (Br ((val (F_GainSquare sB0 sB1 sB2 sA0 sA1 tP (IntKind.wrap IntKind.i64 ((0 : Int) - tQ)) tR)).1 == (val (F_GainSquare sB0 sB1 sB2 sA0 sA1 tP tQ tR)).1 && (val (F_GainSquare sB0 sB1 sB2 sA0 sA1 tP (IntKind.wrap IntKind.i64 ((0 : Int) - tQ)) tR)).2.1 == (val (F_GainSquare sB0 sB1 sB2 sA0 sA1 tP tQ tR)).2.1)
   (Br ((val (R06_GainSquare sB0 sB1 sB2 sA0 sA1 tP tQ tR)).2.2 != (0 : Int))
   ((Ob (True) ∧
   (Ob (true = r) ∧
   True)))
   (Br (val (R06_FracErr squareNum squareDen) != (0 : Int))
   ((Ob (True) ∧
   (Ob (true = r) ∧
   True)))
   ((Ob (ok (B_Cmp (val (F_GainSquare sB0 sB1 sB2 sA0 sA1 tP tQ tR)).1 (val (F_GainSquare sB0 sB1 sB2 sA0 sA1 tP tQ tR)).2.1 squareNum squareDen)) ∧
   (Ob (True) ∧
   (Ob (((val (F_CompareGain sB0 sB1 sB2 sA0 sA1 tP tQ tR squareNum squareDen)).1 == val (B_Cmp (val (F_GainSquare sB0 sB1 sB2 sA0 sA1 tP tQ tR)).1 (val (F_GainSquare sB0 sB1 sB2 sA0 sA1 tP tQ tR)).2.1 squareNum squareDen)) = r) ∧
   True))))))
   ((Ob (True) ∧
   (Ob (false = r) ∧
   True))))
   ((Ob (True) ∧
   (Ob (false = r) ∧
   True))))))))))))))))))) = _) ?_
  refine ob_c (p := ok L06_awake) (by decide) ?_
  refine call_s h fun h => ?_
  refine call_s h fun h => ?_
  refine call_s h fun h => ?_
  refine br_b h (fun h => ?_) (fun h => ?_)
  · refine call_s h fun h => ?_
    refine br_b h (fun h => ?_) (fun h => ?_)
    · refine br_b h (fun h => ?_) (fun h => ?_)
      · refine br_b h (fun h => ?_) (fun h => ?_)
        · refine br_b h (fun h => ?_) (fun h => ?_)
          · refine ob_t ?_
            exact ret_s h (fun e => by subst e; exact (by repeat' (first | exact trivial | exact ⟨rfl⟩ | refine And.intro ?_ ?_)))
          · refine ob_t ?_
            exact ret_s h (fun e => by subst e; exact (by repeat' (first | exact trivial | exact ⟨rfl⟩ | refine And.intro ?_ ?_)))
        · refine ob_t ?_
          exact ret_s h (fun e => by subst e; exact (by repeat' (first | exact trivial | exact ⟨rfl⟩ | refine And.intro ?_ ?_)))
      · refine ob_t ?_
        exact ret_s h (fun e => by subst e; exact (by repeat' (first | exact trivial | exact ⟨rfl⟩ | refine And.intro ?_ ?_)))
    · refine call_s h fun h => ?_
      refine call_s h fun h => ?_
      refine br_b h (fun h => ?_) (fun h => ?_)
      · refine br_d h (fun h => ?_) (fun h => ?_)
        · refine br_b h (fun h => ?_) (fun h => ?_)
          · refine ob_t ?_
            exact ret_s h (fun e => by subst e; exact (by repeat' (first | exact trivial | exact ⟨rfl⟩ | refine And.intro ?_ ?_)))
          · refine br_b h (fun h => ?_) (fun h => ?_)
            · refine ob_t ?_
              exact ret_s h (fun e => by subst e; exact (by repeat' (first | exact trivial | exact ⟨rfl⟩ | refine And.intro ?_ ?_)))
            · refine br_b h (fun h => ?_) (fun h => ?_)
              · refine ob_t ?_
                exact ret_s h (fun e => by subst e; exact (by repeat' (first | exact trivial | exact ⟨rfl⟩ | refine And.intro ?_ ?_)))
              · refine br_b h (fun h => ?_) (fun h => ?_)
                · refine ob_t ?_
                  exact ret_s h (fun e => by subst e; exact (by repeat' (first | exact trivial | exact ⟨rfl⟩ | refine And.intro ?_ ?_)))
                · refine call_s h fun h => ?_
                  refine br_b h (fun h => ?_) (fun h => ?_)
                  · refine br_b h (fun h => ?_) (fun h => ?_)
                    · refine br_b h (fun h => ?_) (fun h => ?_)
                      · refine ob_t ?_
                        exact ret_s h (fun e => by subst e; exact (by repeat' (first | exact trivial | exact ⟨rfl⟩ | refine And.intro ?_ ?_)))
                      · refine ob_t ?_
                        exact ret_s h (fun e => by subst e; exact (by repeat' (first | exact trivial | exact ⟨rfl⟩ | refine And.intro ?_ ?_)))
                    · refine ob_t ?_
                      exact ret_s h (fun e => by subst e; exact (by repeat' (first | exact trivial | exact ⟨rfl⟩ | refine And.intro ?_ ?_)))
                  · refine ob_t ?_
                    exact ret_s h (fun e => by subst e; exact (by repeat' (first | exact trivial | exact ⟨rfl⟩ | refine And.intro ?_ ?_)))
        · refine br_b h (fun h => ?_) (fun h => ?_)
          · refine call_s h fun h => ?_
            refine br_b h (fun h => ?_) (fun h => ?_)
            · refine ob_t ?_
              exact ret_s h (fun e => by subst e; exact (by repeat' (first | exact trivial | exact ⟨rfl⟩ | refine And.intro ?_ ?_)))
            · refine br_b h (fun h => ?_) (fun h => ?_)
              · refine ob_t ?_
                exact ret_s h (fun e => by subst e; exact (by repeat' (first | exact trivial | exact ⟨rfl⟩ | refine And.intro ?_ ?_)))
              · refine br_b h (fun h => ?_) (fun h => ?_)
                · refine ob_t ?_
                  exact ret_s h (fun e => by subst e; exact (by repeat' (first | exact trivial | exact ⟨rfl⟩ | refine And.intro ?_ ?_)))
                · refine br_b h (fun h => ?_) (fun h => ?_)
                  · refine ob_t ?_
                    exact ret_s h (fun e => by subst e; exact (by repeat' (first | exact trivial | exact ⟨rfl⟩ | refine And.intro ?_ ?_)))
                  · refine call_s h fun h => ?_
                    refine br_b h (fun h => ?_) (fun h => ?_)
                    · refine br_b h (fun h => ?_) (fun h => ?_)
                      · refine br_b h (fun h => ?_) (fun h => ?_)
                        · refine ob_t ?_
                          exact ret_s h (fun e => by subst e; exact (by repeat' (first | exact trivial | exact ⟨rfl⟩ | refine And.intro ?_ ?_)))
                        · refine br_b h (fun h => ?_) (fun h => ?_)
                          · refine ob_t ?_
                            exact ret_s h (fun e => by subst e; exact (by repeat' (first | exact trivial | exact ⟨rfl⟩ | refine And.intro ?_ ?_)))
                          · refine call_s h fun h => ?_
                            refine ob_t ?_
                            exact ret_s h (fun e => by subst e; exact (by repeat' (first | exact trivial | exact ⟨rfl⟩ | refine And.intro ?_ ?_)))
                      · refine ob_t ?_
                        exact ret_s h (fun e => by subst e; exact (by repeat' (first | exact trivial | exact ⟨rfl⟩ | refine And.intro ?_ ?_)))
                    · refine ob_t ?_
                      exact ret_s h (fun e => by subst e; exact (by repeat' (first | exact trivial | exact ⟨rfl⟩ | refine And.intro ?_ ?_)))
          · refine br_b h (fun h => ?_) (fun h => ?_)
            · refine ob_t ?_
              exact ret_s h (fun e => by subst e; exact (by repeat' (first | exact trivial | exact ⟨rfl⟩ | refine And.intro ?_ ?_)))
            · refine br_b h (fun h => ?_) (fun h => ?_)
              · refine ob_t ?_
                exact ret_s h (fun e => by subst e; exact (by repeat' (first | exact trivial | exact ⟨rfl⟩ | refine And.intro ?_ ?_)))
              · refine br_b h (fun h => ?_) (fun h => ?_)
                · refine ob_t ?_
                  exact ret_s h (fun e => by subst e; exact (by repeat' (first | exact trivial | exact ⟨rfl⟩ | refine And.intro ?_ ?_)))
                · refine br_b h (fun h => ?_) (fun h => ?_)
                  · refine ob_t ?_
                    exact ret_s h (fun e => by subst e; exact (by repeat' (first | exact trivial | exact ⟨rfl⟩ | refine And.intro ?_ ?_)))
                  · refine call_s h fun h => ?_
                    refine br_b h (fun h => ?_) (fun h => ?_)
                    · refine br_b h (fun h => ?_) (fun h => ?_)
                      · refine br_b h (fun h => ?_) (fun h => ?_)
                        · refine ob_t ?_
                          exact ret_s h (fun e => by subst e; exact (by repeat' (first | exact trivial | exact ⟨rfl⟩ | refine And.intro ?_ ?_)))
                        · refine br_b h (fun h => ?_) (fun h => ?_)
                          · refine ob_t ?_
                            exact ret_s h (fun e => by subst e; exact (by repeat' (first | exact trivial | exact ⟨rfl⟩ | refine And.intro ?_ ?_)))
                          · refine call_s h fun h => ?_
                            refine ob_t ?_
                            exact ret_s h (fun e => by subst e; exact (by repeat' (first | exact trivial | exact ⟨rfl⟩ | refine And.intro ?_ ?_)))
                      · refine ob_t ?_
                        exact ret_s h (fun e => by subst e; exact (by repeat' (first | exact trivial | exact ⟨rfl⟩ | refine And.intro ?_ ?_)))
                    · refine ob_t ?_
                      exact ret_s h (fun e => by subst e; exact (by repeat' (first | exact trivial | exact ⟨rfl⟩ | refine And.intro ?_ ?_)))
      · refine br_b h (fun h => ?_) (fun h => ?_)
        · refine call_s h fun h => ?_
          refine br_b h (fun h => ?_) (fun h => ?_)
          · refine ob_t ?_
            exact ret_s h (fun e => by subst e; exact (by repeat' (first | exact trivial | exact ⟨rfl⟩ | refine And.intro ?_ ?_)))
          · refine br_b h (fun h => ?_) (fun h => ?_)
            · refine ob_t ?_
              exact ret_s h (fun e => by subst e; exact (by repeat' (first | exact trivial | exact ⟨rfl⟩ | refine And.intro ?_ ?_)))
            · refine br_b h (fun h => ?_) (fun h => ?_)
              · refine ob_t ?_
                exact ret_s h (fun e => by subst e; exact (by repeat' (first | exact trivial | exact ⟨rfl⟩ | refine And.intro ?_ ?_)))
              · refine br_b h (fun h => ?_) (fun h => ?_)
                · refine ob_t ?_
                  exact ret_s h (fun e => by subst e; exact (by repeat' (first | exact trivial | exact ⟨rfl⟩ | refine And.intro ?_ ?_)))
                · refine call_s h fun h => ?_
                  refine br_b h (fun h => ?_) (fun h => ?_)
                  · refine br_b h (fun h => ?_) (fun h => ?_)
                    · refine br_b h (fun h => ?_) (fun h => ?_)
                      · refine ob_t ?_
                        exact ret_s h (fun e => by subst e; exact (by repeat' (first | exact trivial | exact ⟨rfl⟩ | refine And.intro ?_ ?_)))
                      · refine br_b h (fun h => ?_) (fun h => ?_)
                        · refine ob_t ?_
                          exact ret_s h (fun e => by subst e; exact (by repeat' (first | exact trivial | exact ⟨rfl⟩ | refine And.intro ?_ ?_)))
                        · refine call_s h fun h => ?_
                          refine ob_t ?_
                          exact ret_s h (fun e => by subst e; exact (by repeat' (first | exact trivial | exact ⟨rfl⟩ | refine And.intro ?_ ?_)))
                    · refine ob_t ?_
                      exact ret_s h (fun e => by subst e; exact (by repeat' (first | exact trivial | exact ⟨rfl⟩ | refine And.intro ?_ ?_)))
                  · refine ob_t ?_
                    exact ret_s h (fun e => by subst e; exact (by repeat' (first | exact trivial | exact ⟨rfl⟩ | refine And.intro ?_ ?_)))
        · refine br_b h (fun h => ?_) (fun h => ?_)
          · refine ob_t ?_
            exact ret_s h (fun e => by subst e; exact (by repeat' (first | exact trivial | exact ⟨rfl⟩ | refine And.intro ?_ ?_)))
          · refine br_b h (fun h => ?_) (fun h => ?_)
            · refine ob_t ?_
              exact ret_s h (fun e => by subst e; exact (by repeat' (first | exact trivial | exact ⟨rfl⟩ | refine And.intro ?_ ?_)))
            · refine br_b h (fun h => ?_) (fun h => ?_)
              · refine ob_t ?_
                exact ret_s h (fun e => by subst e; exact (by repeat' (first | exact trivial | exact ⟨rfl⟩ | refine And.intro ?_ ?_)))
              · refine br_b h (fun h => ?_) (fun h => ?_)
                · refine ob_t ?_
                  exact ret_s h (fun e => by subst e; exact (by repeat' (first | exact trivial | exact ⟨rfl⟩ | refine And.intro ?_ ?_)))
                · refine call_s h fun h => ?_
                  refine br_b h (fun h => ?_) (fun h => ?_)
                  · refine br_b h (fun h => ?_) (fun h => ?_)
                    · refine br_b h (fun h => ?_) (fun h => ?_)
                      · refine ob_t ?_
                        exact ret_s h (fun e => by subst e; exact (by repeat' (first | exact trivial | exact ⟨rfl⟩ | refine And.intro ?_ ?_)))
                      · refine br_b h (fun h => ?_) (fun h => ?_)
                        · refine ob_t ?_
                          exact ret_s h (fun e => by subst e; exact (by repeat' (first | exact trivial | exact ⟨rfl⟩ | refine And.intro ?_ ?_)))
                        · refine call_s h fun h => ?_
                          refine ob_t ?_
                          exact ret_s h (fun e => by subst e; exact (by repeat' (first | exact trivial | exact ⟨rfl⟩ | refine And.intro ?_ ?_)))
                    · refine ob_t ?_
                      exact ret_s h (fun e => by subst e; exact (by repeat' (first | exact trivial | exact ⟨rfl⟩ | refine And.intro ?_ ?_)))
                  · refine ob_t ?_
                    exact ret_s h (fun e => by subst e; exact (by repeat' (first | exact trivial | exact ⟨rfl⟩ | refine And.intro ?_ ?_)))
  · refine br_b h (fun h => ?_) (fun h => ?_)
    · refine br_b h (fun h => ?_) (fun h => ?_)
      · refine br_b h (fun h => ?_) (fun h => ?_)
        · refine br_b h (fun h => ?_) (fun h => ?_)
          · refine ob_t ?_
            exact ret_s h (fun e => by subst e; exact (by repeat' (first | exact trivial | exact ⟨rfl⟩ | refine And.intro ?_ ?_)))
          · refine ob_t ?_
            exact ret_s h (fun e => by subst e; exact (by repeat' (first | exact trivial | exact ⟨rfl⟩ | refine And.intro ?_ ?_)))
        · refine ob_t ?_
          exact ret_s h (fun e => by subst e; exact (by repeat' (first | exact trivial | exact ⟨rfl⟩ | refine And.intro ?_ ?_)))
      · refine ob_t ?_
        exact ret_s h (fun e => by subst e; exact (by repeat' (first | exact trivial | exact ⟨rfl⟩ | refine And.intro ?_ ?_)))
    · refine call_s h fun h => ?_
      refine call_s h fun h => ?_
      refine br_b h (fun h => ?_) (fun h => ?_)
      · refine br_d h (fun h => ?_) (fun h => ?_)
        · refine br_b h (fun h => ?_) (fun h => ?_)
          · refine ob_t ?_
            exact ret_s h (fun e => by subst e; exact (by repeat' (first | exact trivial | exact ⟨rfl⟩ | refine And.intro ?_ ?_)))
          · refine br_b h (fun h => ?_) (fun h => ?_)
            · refine ob_t ?_
              exact ret_s h (fun e => by subst e; exact (by repeat' (first | exact trivial | exact ⟨rfl⟩ | refine And.intro ?_ ?_)))
            · refine br_b h (fun h => ?_) (fun h => ?_)
              · refine ob_t ?_
                exact ret_s h (fun e => by subst e; exact (by repeat' (first | exact trivial | exact ⟨rfl⟩ | refine And.intro ?_ ?_)))
              · refine br_b h (fun h => ?_) (fun h => ?_)
                · refine ob_t ?_
                  exact ret_s h (fun e => by subst e; exact (by repeat' (first | exact trivial | exact ⟨rfl⟩ | refine And.intro ?_ ?_)))
                · refine call_s h fun h => ?_
                  refine br_b h (fun h => ?_) (fun h => ?_)
                  · refine br_b h (fun h => ?_) (fun h => ?_)
                    · refine br_b h (fun h => ?_) (fun h => ?_)
                      · refine ob_t ?_
                        exact ret_s h (fun e => by subst e; exact (by repeat' (first | exact trivial | exact ⟨rfl⟩ | refine And.intro ?_ ?_)))
                      · refine ob_t ?_
                        exact ret_s h (fun e => by subst e; exact (by repeat' (first | exact trivial | exact ⟨rfl⟩ | refine And.intro ?_ ?_)))
                    · refine ob_t ?_
                      exact ret_s h (fun e => by subst e; exact (by repeat' (first | exact trivial | exact ⟨rfl⟩ | refine And.intro ?_ ?_)))
                  · refine ob_t ?_
                    exact ret_s h (fun e => by subst e; exact (by repeat' (first | exact trivial | exact ⟨rfl⟩ | refine And.intro ?_ ?_)))
        · refine br_b h (fun h => ?_) (fun h => ?_)
          · refine call_s h fun h => ?_
            refine br_b h (fun h => ?_) (fun h => ?_)
            · refine ob_t ?_
              exact ret_s h (fun e => by subst e; exact (by repeat' (first | exact trivial | exact ⟨rfl⟩ | refine And.intro ?_ ?_)))
            · refine br_b h (fun h => ?_) (fun h => ?_)
              · refine ob_t ?_
                exact ret_s h (fun e => by subst e; exact (by repeat' (first | exact trivial | exact ⟨rfl⟩ | refine And.intro ?_ ?_)))
              · refine br_b h (fun h => ?_) (fun h => ?_)
                · refine ob_t ?_
                  exact ret_s h (fun e => by subst e; exact (by repeat' (first | exact trivial | exact ⟨rfl⟩ | refine And.intro ?_ ?_)))
                · refine br_b h (fun h => ?_) (fun h => ?_)
                  · refine ob_t ?_
                    exact ret_s h (fun e => by subst e; exact (by repeat' (first | exact trivial | exact ⟨rfl⟩ | refine And.intro ?_ ?_)))
                  · refine call_s h fun h => ?_
                    refine br_b h (fun h => ?_) (fun h => ?_)
                    · refine br_b h (fun h => ?_) (fun h => ?_)
                      · refine br_b h (fun h => ?_) (fun h => ?_)
                        · refine ob_t ?_
                          exact ret_s h (fun e => by subst e; exact (by repeat' (first | exact trivial | exact ⟨rfl⟩ | refine And.intro ?_ ?_)))
                        · refine br_b h (fun h => ?_) (fun h => ?_)
                          · refine ob_t ?_
                            exact ret_s h (fun e => by subst e; exact (by repeat' (first | exact trivial | exact ⟨rfl⟩ | refine And.intro ?_ ?_)))
                          · refine call_s h fun h => ?_
                            refine ob_t ?_
                            exact ret_s h (fun e => by subst e; exact (by repeat' (first | exact trivial | exact ⟨rfl⟩ | refine And.intro ?_ ?_)))
                      · refine ob_t ?_
                        exact ret_s h (fun e => by subst e; exact (by repeat' (first | exact trivial | exact ⟨rfl⟩ | refine And.intro ?_ ?_)))
                    · refine ob_t ?_
                      exact ret_s h (fun e => by subst e; exact (by repeat' (first | exact trivial | exact ⟨rfl⟩ | refine And.intro ?_ ?_)))
          · refine br_b h (fun h => ?_) (fun h => ?_)
            · refine ob_t ?_
              exact ret_s h (fun e => by subst e; exact (by repeat' (first | exact trivial | exact ⟨rfl⟩ | refine And.intro ?_ ?_)))
            · refine br_b h (fun h => ?_) (fun h => ?_)
              · refine ob_t ?_
                exact ret_s h (fun e => by subst e; exact (by repeat' (first | exact trivial | exact ⟨rfl⟩ | refine And.intro ?_ ?_)))
              · refine br_b h (fun h => ?_) (fun h => ?_)
                · refine ob_t ?_
                  exact ret_s h (fun e => by subst e; exact (by repeat' (first | exact trivial | exact ⟨rfl⟩ | refine And.intro ?_ ?_)))
                · refine br_b h (fun h => ?_) (fun h => ?_)
                  · refine ob_t ?_
                    exact ret_s h (fun e => by subst e; exact (by repeat' (first | exact trivial | exact ⟨rfl⟩ | refine And.intro ?_ ?_)))
                  · refine call_s h fun h => ?_
                    refine br_b h (fun h => ?_) (fun h => ?_)
                    · refine br_b h (fun h => ?_) (fun h => ?_)
                      · refine br_b h (fun h => ?_) (fun h => ?_)
                        · refine ob_t ?_
                          exact ret_s h (fun e => by subst e; exact (by repeat' (first | exact trivial | exact ⟨rfl⟩ | refine And.intro ?_ ?_)))
                        · refine br_b h (fun h => ?_) (fun h => ?_)
                          · refine ob_t ?_
                            exact ret_s h (fun e => by subst e; exact (by repeat' (first | exact trivial | exact ⟨rfl⟩ | refine And.intro ?_ ?_)))
                          · refine call_s h fun h => ?_
                            refine ob_t ?_
                            exact ret_s h (fun e => by subst e; exact (by repeat' (first | exact trivial | exact ⟨rfl⟩ | refine And.intro ?_ ?_)))
                      · refine ob_t ?_
                        exact ret_s h (fun e => by subst e; exact (by repeat' (first | exact trivial | exact ⟨rfl⟩ | refine And.intro ?_ ?_)))
                    · refine ob_t ?_
                      exact ret_s h (fun e => by subst e; exact (by repeat' (first | exact trivial | exact ⟨rfl⟩ | refine And.intro ?_ ?_)))
      · refine br_b h (fun h => ?_) (fun h => ?_)
        · refine call_s h fun h => ?_
          refine br_b h (fun h => ?_) (fun h => ?_)
          · refine ob_t ?_
            exact ret_s h (fun e => by subst e; exact (by repeat' (first | exact trivial | exact ⟨rfl⟩ | refine And.intro ?_ ?_)))
          · refine br_b h (fun h => ?_) (fun h => ?_)
            · refine ob_t ?_
              exact ret_s h (fun e => by subst e; exact (by repeat' (first | exact trivial | exact ⟨rfl⟩ | refine And.intro ?_ ?_)))
            · refine br_b h (fun h => ?_) (fun h => ?_)
              · refine ob_t ?_
                exact ret_s h (fun e => by subst e; exact (by repeat' (first | exact trivial | exact ⟨rfl⟩ | refine And.intro ?_ ?_)))
              · refine br_b h (fun h => ?_) (fun h => ?_)
                · refine ob_t ?_
                  exact ret_s h (fun e => by subst e; exact (by repeat' (first | exact trivial | exact ⟨rfl⟩ | refine And.intro ?_ ?_)))
                · refine call_s h fun h => ?_
                  refine br_b h (fun h => ?_) (fun h => ?_)
                  · refine br_b h (fun h => ?_) (fun h => ?_)
                    · refine br_b h (fun h => ?_) (fun h => ?_)
                      · refine ob_t ?_
                        exact ret_s h (fun e => by subst e; exact (by repeat' (first | exact trivial | exact ⟨rfl⟩ | refine And.intro ?_ ?_)))
                      · refine br_b h (fun h => ?_) (fun h => ?_)
                        · refine ob_t ?_
                          exact ret_s h (fun e => by subst e; exact (by repeat' (first | exact trivial | exact ⟨rfl⟩ | refine And.intro ?_ ?_)))
                        · refine call_s h fun h => ?_
                          refine ob_t ?_
                          exact ret_s h (fun e => by subst e; exact (by repeat' (first | exact trivial | exact ⟨rfl⟩ | refine And.intro ?_ ?_)))
                    · refine ob_t ?_
                      exact ret_s h (fun e => by subst e; exact (by repeat' (first | exact trivial | exact ⟨rfl⟩ | refine And.intro ?_ ?_)))
                  · refine ob_t ?_
                    exact ret_s h (fun e => by subst e; exact (by repeat' (first | exact trivial | exact ⟨rfl⟩ | refine And.intro ?_ ?_)))
        · refine br_b h (fun h => ?_) (fun h => ?_)
          · refine ob_t ?_
            exact ret_s h (fun e => by subst e; exact (by repeat' (first | exact trivial | exact ⟨rfl⟩ | refine And.intro ?_ ?_)))
          · refine br_b h (fun h => ?_) (fun h => ?_)
            · refine ob_t ?_
              exact ret_s h (fun e => by subst e; exact (by repeat' (first | exact trivial | exact ⟨rfl⟩ | refine And.intro ?_ ?_)))
            · refine br_b h (fun h => ?_) (fun h => ?_)
              · refine ob_t ?_
                exact ret_s h (fun e => by subst e; exact (by repeat' (first | exact trivial | exact ⟨rfl⟩ | refine And.intro ?_ ?_)))
              · refine br_b h (fun h => ?_) (fun h => ?_)
                · refine ob_t ?_
                  exact ret_s h (fun e => by subst e; exact (by repeat' (first | exact trivial | exact ⟨rfl⟩ | refine And.intro ?_ ?_)))
                · refine call_s h fun h => ?_
                  refine br_b h (fun h => ?_) (fun h => ?_)
                  · refine br_b h (fun h => ?_) (fun h => ?_)
                    · refine br_b h (fun h => ?_) (fun h => ?_)
                      · refine ob_t ?_
                        exact ret_s h (fun e => by subst e; exact (by repeat' (first | exact trivial | exact ⟨rfl⟩ | refine And.intro ?_ ?_)))
                      · refine br_b h (fun h => ?_) (fun h => ?_)
                        · refine ob_t ?_
                          exact ret_s h (fun e => by subst e; exact (by repeat' (first | exact trivial | exact ⟨rfl⟩ | refine And.intro ?_ ?_)))
                        · refine call_s h fun h => ?_
                          refine ob_t ?_
                          exact ret_s h (fun e => by subst e; exact (by repeat' (first | exact trivial | exact ⟨rfl⟩ | refine And.intro ?_ ?_)))
                    · refine ob_t ?_
                      exact ret_s h (fun e => by subst e; exact (by repeat' (first | exact trivial | exact ⟨rfl⟩ | refine And.intro ?_ ?_)))
                  · refine ob_t ?_
                    exact ret_s h (fun e => by subst e; exact (by repeat' (first | exact trivial | exact ⟨rfl⟩ | refine And.intro ?_ ?_)))
set_option maxRecDepth 100000 in
theorem L06_FilterGains_ok : SpecOK Try.prog 15 true (pureK k_L06_FilterGains g_L06_FilterGains) := by
  refine pureK_ok (sp := (sp_18 (sp_75 (sp_28 (sp_42 (sp_76 (sp_77 (sp_78 (sp_44 (sp_79 sp0)))))))))) (fn := Try.f15) (body := bodyOf Try.f15) mixed (sp_18_ok (sp_75_ok (sp_28_ok (sp_42_ok (sp_76_ok (sp_77_ok (sp_78_ok (sp_44_ok (sp_79_ok sp0_ok))))))))) Try.func15 (by kernel_rfl) (by kernel_rfl) fun as_ ob rs h ho => ?_
  unfold g_L06_FilterGains at h
  split at h
  · rename_i sB0 sB1 sB2 sA0 sA1 tP tQ tR squareNum squareDen
    cases h
    exact ⟨Nat.le_of_ble_eq_true rfl, _, _, L06_FilterGains_vc sB0 sB1 sB2 sA0 sA1 tP tQ tR squareNum squareDen _ (ok_some ho)⟩
  · cases h
theorem sp_15_ok {sp : Specs} (h : SpecsOK Try.prog sp) : SpecsOK Try.prog (sp_15 sp) := addK_ok L06_FilterGains_ok h
end Go.Sh
