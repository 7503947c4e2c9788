/- Mirrors of functions, and their contracts: made by a program of mine. -/
import Derived.Test.YtndhdojnlobloaaMirA
set_option linter.unusedSectionVars false
set_option linter.unusedSimpArgs false
set_option linter.unusedVariables false
namespace Go.Sh
open Go Go.Proofs Go.RowKit Go.Sx
set_option linter.unusedVariables false

def R06_CheckSection_b0 (sB0 : Int) (sB1 : Int) (sB2 : Int) (sA0 : Int) (sA1 : Int) (x0 : Int) : Option (Int ⊕ (Unit ⊕ Unit)) :=
  if x0 < (↑(List.length [sB0, sB1, sB2, sA0, sA1]) : Int) then
   if (0 : Int) ≤ x0 ∧ x0 < (↑(List.length [sB0, sB1, sB2, sA0, sA1]) : Int) then
   if Int.toNat x0 < List.length [sB0, sB1, sB2, sA0, sA1] then
   if (!(decide ((-32768 : Int) ≤ List.getD [sB0, sB1, sB2, sA0, sA1] (Int.toNat x0) (0 : Int)) && decide (List.getD [sB0, sB1, sB2, sA0, sA1] (Int.toNat x0) (0 : Int) ≤ (32768 : Int)))) = true then
   some (.inr ((.inl ())))
   else
   some (.inl (IntKind.wrap IntKind.i64 (x0 + (1 : Int))))
   else none
   else none
  else
   some (.inr ((.inr ())))
def R06_CheckSection_r0_0 (y0_0 : Unit) : Option Int :=
  some (2 : Int)
def R06_CheckSection_r0_1 (y0_1 : Unit) : Option Int :=
  some (0 : Int)
def R06_CheckSection_r0 : (Unit ⊕ Unit) → Option Int :=
  (Sum.elim (R06_CheckSection_r0_0) (R06_CheckSection_r0_1))
/-- shoebox/shoeboxref06.CheckSection -/
def R06_CheckSection (sB0 : Int) (sB1 : Int) (sB2 : Int) (sA0 : Int) (sA1 : Int) : Option Int :=
  Option.bind (iter (R06_CheckSection_b0 sB0 sB1 sB2 sA0 sA1) big (0 : Int)) (R06_CheckSection_r0)
def g_R06_CheckSection : List A → Option (Prop × List RV)
  | [.s [.i .i64 sB0, .i .i64 sB1, .i .i64 sB2, .i .i64 sA0, .i .i64 sA1]] => some (ok (R06_CheckSection sB0 sB1 sB2 sA0 sA1), [.d (.i .i64 ((val (R06_CheckSection sB0 sB1 sB2 sA0 sA1))))])
  | _ => none
def k_R06_CheckSection : List (Option Cont) := [none]
abbrev sp_28 : Specs → Specs := addK 28 true (pureK k_R06_CheckSection g_R06_CheckSection)
set_option maxRecDepth 100000 in
theorem R06_CheckSection_vc (sB0 : Int) (sB1 : Int) (sB2 : Int) (sA0 : Int) (sA1 : Int) (r : Int) (h : Option.bind (R06_CheckSection sB0 sB1 sB2 sA0 sA1) some = some r) : runF Try.f28 ((sp_50 sp0)) (fun gs id _ => match id with
 | 0 => some ⟨Int × Nat, fun z => ⟨[(3, .w (.c (.o 1))), (4, .w (.c (.d (.i .i64 (Prod.fst z)))))], [(1, .row 3 (.ints .i64 ([sB0, sB1, sB2, sA0, sA1])))], 2⟩, fun z => Option.bind (iter (R06_CheckSection_b0 sB0 sB1 sB2 sA0 sA1) (Prod.snd z) (Prod.fst z)) (fun y0 => Option.bind (R06_CheckSection_r0 y0) some) = some r, fun z => Prod.snd z⟩
 | _ => none) [.s [.i .i64 sB0, .i .i64 sB1, .i .i64 sB2, .i .i64 sA0, .i .i64 sA1]] [.d (.i .i64 r)] := by
  refine Eq.mp (by kernel_rfl : (
  (Ob ((0 : Int) ≤ (0 : Int) ∧ (0 : Int) < (↑(3 : Nat) : Int)) ∧
   (Ob ((0 : Int) ≤ (1 : Int) ∧ (1 : Int) < (↑(3 : Nat) : Int)) ∧
   (Ob ((0 : Int) ≤ (2 : Int) ∧ (2 : Int) < (↑(3 : Nat) : Int)) ∧
   (Ob ((0 : Int) ≤ (0 : Int) ∧ (0 : Int) < (↑(2 : Nat) : Int)) ∧
   (Ob ((0 : Int) ≤ (1 : Int) ∧ (1 : Int) < (↑(2 : Nat) : Int)) ∧
   ((∃ (v0 : Int × Nat), (Ob ((Option.bind (iter (R06_CheckSection_b0 sB0 sB1 sB2 sA0 sA1) v0.2 v0.1) fun y0 => Option.bind (R06_CheckSection_r0 y0) some) = some r) ∧
   (Ob ((0 : Int) = v0.1) ∧
   (Ob ([sB0, sB1, sB2, sA0, sA1] = [sB0, sB1, sB2, sA0, sA1]) ∧
   True)))) ∧
   (∀ (v0 : Int × Nat), ((Option.bind (iter (R06_CheckSection_b0 sB0 sB1 sB2 sA0 sA1) v0.2 v0.1) fun y0 => Option.bind (R06_CheckSection_r0 y0) some) = some r →
   Br (decide (v0.1 < (↑(List.length [sB0, sB1, sB2, sA0, sA1]) : Int)))
   ((Ob ((0 : Int) ≤ v0.1 ∧ v0.1 < (↑(List.length [sB0, sB1, sB2, sA0, sA1]) : Int)) ∧
   (Ob (Int.toNat v0.1 < List.length [sB0, sB1, sB2, sA0, sA1]) ∧
   (Ob (True) ∧
   Br (!(decide ((-32768 : Int) ≤ List.getD [sB0, sB1, sB2, sA0, sA1] (Int.toNat v0.1) (0 : Int)) && decide (List.getD [sB0, sB1, sB2, sA0, sA1] (Int.toNat v0.1) (0 : Int) ≤ (32768 : Int))))
   ((Ob (True) ∧
   (Ob ((2 : Int) = r) ∧
   True)))
   ((∃ (v1 : Int × Nat), (Ob ((Option.bind (iter (R06_CheckSection_b0 sB0 sB1 sB2 sA0 sA1) v1.2 v1.1) fun y0 => Option.bind (R06_CheckSection_r0 y0) some) = some r) ∧
   (Ob (v1.2 < v0.2) ∧
   (Ob (IntKind.wrap IntKind.i64 (v0.1 + (1 : Int)) = v1.1) ∧
   (Ob ([sB0, sB1, sB2, sA0, sA1] = [sB0, sB1, sB2, sA0, sA1]) ∧
   True))))))))))
   ((Ob (True) ∧
   (Ob ((0 : Int) = r) ∧
   True)))))))))))) = _) ?_
  refine ob_c (p := (0 : Int) ≤ (0 : Int) ∧ (0 : Int) < (↑(3 : Nat) : Int)) (by decide) ?_
  refine ob_c (p := (0 : Int) ≤ (1 : Int) ∧ (1 : Int) < (↑(3 : Nat) : Int)) (by decide) ?_
  refine ob_c (p := (0 : Int) ≤ (2 : Int) ∧ (2 : Int) < (↑(3 : Nat) : Int)) (by decide) ?_
  refine ob_c (p := (0 : Int) ≤ (0 : Int) ∧ (0 : Int) < (↑(2 : Nat) : Int)) (by decide) ?_
  refine ob_c (p := (0 : Int) ≤ (1 : Int) ∧ (1 : Int) < (↑(2 : Nat) : Int)) (by decide) ?_
  refine ⟨⟨((0 : Int), big), ⟨loop_s h⟩, (by repeat' (first | exact trivial | exact ⟨rfl⟩ | refine And.intro ?_ ?_))⟩, fun z0 hz0 => ?_⟩
  obtain ⟨k0, hm0, h⟩ := iter_pos hz0
  refine br_d h (fun h => ?_) (fun h => ?_)
  · refine ob_s h fun h => ?_
    refine ob_s h fun h => ?_
    refine ob_t ?_
    refine br_b h (fun h => ?_) (fun h => ?_)
    · have h := exit_s h
      refine ob_t ?_
      exact ret_s h (fun e => by subst e; exact (by repeat' (first | exact trivial | exact ⟨rfl⟩ | refine And.intro ?_ ?_)))
    · exact ⟨(IntKind.wrap IntKind.i64 (Prod.fst z0 + (1 : Int)), k0), ⟨next_s h⟩, ⟨lt_gs hm0.symm⟩, (by repeat' (first | exact trivial | exact ⟨rfl⟩ | refine And.intro ?_ ?_))⟩
  · have h := exit_s h
    refine ob_t ?_
    exact ret_s h (fun e => by subst e; exact (by repeat' (first | exact trivial | exact ⟨rfl⟩ | refine And.intro ?_ ?_)))
set_option maxRecDepth 100000 in
theorem R06_CheckSection_ok : SpecOK Try.prog 28 true (pureK k_R06_CheckSection g_R06_CheckSection) := by
  refine pureK_ok (sp := (sp_50 sp0)) (fn := Try.f28) (body := bodyOf Try.f28) mixed (sp_50_ok sp0_ok) Try.func28 (by kernel_rfl) (by kernel_rfl) fun as_ ob rs h ho => ?_
  unfold g_R06_CheckSection at h
  split at h
  · rename_i sB0 sB1 sB2 sA0 sA1
    cases h
    exact ⟨Nat.le_of_ble_eq_true rfl, _, _, R06_CheckSection_vc sB0 sB1 sB2 sA0 sA1 _ (ok_some ho)⟩
  · cases h
theorem sp_28_ok {sp : Specs} (h : SpecsOK Try.prog sp) : SpecsOK Try.prog (sp_28 sp) := addK_ok R06_CheckSection_ok h

/-- shoebox/shoeboxbase.Floor -/
def B_Floor (n : Int) (by_ : Int) : Option Int :=
  if by_ ≠ (0 : Int) then
   if by_ ≠ (0 : Int) then
   if Int.tmod n by_ < (0 : Int) then
   some (IntKind.wrap IntKind.i64 (IntKind.wrap IntKind.i64 (Int.tdiv n by_) - (1 : Int)))
   else
   some (IntKind.wrap IntKind.i64 (Int.tdiv n by_))
   else none
  else none
def g_B_Floor : List A → Option (Prop × List RV)
  | [.d (.i .i64 n), .d (.i .i64 by_)] => some (ok (B_Floor n by_), [.d (.i .i64 ((val (B_Floor n by_))))])
  | _ => none
def k_B_Floor : List (Option Cont) := [none, none]
abbrev sp_90 : Specs → Specs := addK 90 true (pureK k_B_Floor g_B_Floor)
set_option maxRecDepth 100000 in
theorem B_Floor_vc (n : Int) (by_ : Int) (r : Int) (h : Option.bind (B_Floor n by_) some = some r) : runF Try.f90 (sp0) (fun _ _ _ => none) [.d (.i .i64 n), .d (.i .i64 by_)] [.d (.i .i64 r)] := by
  refine Eq.mp (by kernel_rfl : (
  (Ob (by_ ≠ (0 : Int)) ∧
   (Ob (by_ ≠ (0 : Int)) ∧
   Br (decide (Int.tmod n by_ < (0 : Int)))
   ((Ob (True) ∧
   (Ob (IntKind.wrap IntKind.i64 (IntKind.wrap IntKind.i64 (Int.tdiv n by_) - (1 : Int)) = r) ∧
   True)))
   ((Ob (True) ∧
   (Ob (IntKind.wrap IntKind.i64 (Int.tdiv n by_) = r) ∧
   True)))))) = _) ?_
  refine ob_s h fun h => ?_
  refine ob_s h fun h => ?_
  refine br_d h (fun h => ?_) (fun h => ?_)
  · refine ob_t ?_
    exact ret_s h (fun e => by subst e; exact (by repeat' (first | exact trivial | exact ⟨rfl⟩ | refine And.intro ?_ ?_)))
  · refine ob_t ?_
    exact ret_s h (fun e => by subst e; exact (by repeat' (first | exact trivial | exact ⟨rfl⟩ | refine And.intro ?_ ?_)))
set_option maxRecDepth 100000 in
theorem B_Floor_ok : SpecOK Try.prog 90 true (pureK k_B_Floor g_B_Floor) := by
  refine pureK_ok (sp := sp0) (fn := Try.f90) (body := bodyOf Try.f90) mixed sp0_ok Try.func90 (by kernel_rfl) (by kernel_rfl) fun as_ ob rs h ho => ?_
  unfold g_B_Floor at h
  split at h
  · rename_i n by_
    cases h
    exact ⟨Nat.le_of_ble_eq_true rfl, _, _, B_Floor_vc n by_ _ (ok_some ho)⟩
  · cases h
theorem sp_90_ok {sp : Specs} (h : SpecsOK Try.prog sp) : SpecsOK Try.prog (sp_90 sp) := addK_ok B_Floor_ok h

def R06_CheckCascade_b0 (c : List (List Int)) (x0 : Int) : Option (Int ⊕ ((Int × Int) ⊕ Unit)) :=
  if x0 < (↑(List.length c) : Int) then
   if (0 : Int) ≤ x0 ∧ x0 < (↑(List.length c) : Int) then
   if Int.toNat x0 < List.length c then
   Option.bind (R06_CheckSection (List.getD (List.getD c (Int.toNat x0) []) (0 : Nat) (0 : Int)) (List.getD (List.getD c (Int.toNat x0) []) (1 : Nat) (0 : Int)) (List.getD (List.getD c (Int.toNat x0) []) (2 : Nat) (0 : Int)) (List.getD (List.getD c (Int.toNat x0) []) (3 : Nat) (0 : Int)) (List.getD (List.getD c (Int.toNat x0) []) (4 : Nat) (0 : Int))) fun r0 =>
   if (r0 != (0 : Int)) = true then
   some (.inr ((.inl (x0, r0))))
   else
   some (.inl (IntKind.wrap IntKind.i64 (x0 + (1 : Int))))
   else none
   else none
  else
   some (.inr ((.inr ())))
def R06_CheckCascade_r0_0 (y0_0 : Int × Int) : Option (Int × Int) :=
  some (y0_0.1, y0_0.2)
def R06_CheckCascade_r0_1 (y0_1 : Unit) : Option (Int × Int) :=
  some (((0 : Int), (0 : Int)))
def R06_CheckCascade_r0 : ((Int × Int) ⊕ Unit) → Option (Int × Int) :=
  (Sum.elim (R06_CheckCascade_r0_0) (R06_CheckCascade_r0_1))
/-- shoebox/shoeboxref06.CheckCascade -/
def R06_CheckCascade (c : List (List Int)) : Option (Int × Int) :=
  if (↑(List.length c) : Int) > (6 : Int) then
   some (((0 : Int), (8 : Int)))
  else
   Option.bind (iter (R06_CheckCascade_b0 c) big (0 : Int)) (R06_CheckCascade_r0)
def g_R06_CheckCascade : List A → Option (Prop × List RV)
  | [.r (.recs 5 c)] => some (ok (R06_CheckCascade c), [.d (.i .i64 ((val (R06_CheckCascade c)).1)), .d (.i .i64 ((val (R06_CheckCascade c)).2))])
  | _ => none
def k_R06_CheckCascade : List (Option Cont) := [some (.recs 5 [])]
abbrev sp_30 : Specs → Specs := addK 30 true (pureK k_R06_CheckCascade g_R06_CheckCascade)
set_option maxRecDepth 100000 in
theorem R06_CheckCascade_vc (c : List (List Int)) (r : Int × Int) (h : Option.bind (R06_CheckCascade c) some = some r) : runF Try.f30 ((sp_28 sp0)) (fun gs id _ => match id with
 | 0 => some ⟨Int × Nat, fun z => ⟨[(0, .w (.c (.o 0))), (4, .w (.c (.d (.i .i64 (Prod.fst z)))))], [(0, .ext (.recs 5 c))], 1⟩, fun z => Option.bind (iter (R06_CheckCascade_b0 c) (Prod.snd z) (Prod.fst z)) (fun y0 => Option.bind (R06_CheckCascade_r0 y0) some) = some r, fun z => Prod.snd z⟩
 | _ => none) [.r (.recs 5 c)] [.d (.i .i64 r.1), .d (.i .i64 r.2)] := by
  refine Eq.mp (by kernel_rfl : (
  Br (decide ((↑(List.length c) : Int) > (6 : Int)))
   ((Ob (True) ∧
   (Ob (True) ∧
   (Ob ((0 : Int) = r.1) ∧
   (Ob ((8 : Int) = r.2) ∧
   True)))))
   (((∃ (v0 : Int × Nat), (Ob ((Option.bind (iter (R06_CheckCascade_b0 c) v0.2 v0.1) fun y0 => Option.bind (R06_CheckCascade_r0 y0) some) = some r) ∧
   (Ob ((0 : Int) = v0.1) ∧
   (Ob (c = c) ∧
   True)))) ∧
   (∀ (v0 : Int × Nat), ((Option.bind (iter (R06_CheckCascade_b0 c) v0.2 v0.1) fun y0 => Option.bind (R06_CheckCascade_r0 y0) some) = some r →
   Br (decide (v0.1 < (↑(List.length c) : Int)))
   ((Ob ((0 : Int) ≤ v0.1 ∧ v0.1 < (↑(List.length c) : Int)) ∧
   (Ob (Int.toNat v0.1 < List.length c) ∧
   (Ob (ok (R06_CheckSection (List.getD (List.getD c (Int.toNat v0.1) []) (0 : Nat) (0 : Int)) (List.getD (List.getD c (Int.toNat v0.1) []) (1 : Nat) (0 : Int)) (List.getD (List.getD c (Int.toNat v0.1) []) (2 : Nat) (0 : Int)) (List.getD (List.getD c (Int.toNat v0.1) []) (3 : Nat) (0 : Int)) (List.getD (List.getD c (Int.toNat v0.1) []) (4 : Nat) (0 : Int)))) ∧
   Br (val (R06_CheckSection (List.getD (List.getD c (Int.toNat v0.1) []) (0 : Nat) (0 : Int)) (List.getD (List.getD c (Int.toNat v0.1) []) (1 : Nat) (0 : Int)) (List.getD (List.getD c (Int.toNat v0.1) []) (2 : Nat) (0 : Int)) (List.getD (List.getD c (Int.toNat v0.1) []) (3 : Nat) (0 : Int)) (List.getD (List.getD c (Int.toNat v0.1) []) (4 : Nat) (0 : Int))) != (0 : Int))
   ((Ob (True) ∧
   (Ob (True) ∧
   (Ob (v0.1 = r.1) ∧
   (Ob (val (R06_CheckSection (List.getD (List.getD c (Int.toNat v0.1) []) (0 : Nat) (0 : Int)) (List.getD (List.getD c (Int.toNat v0.1) []) (1 : Nat) (0 : Int)) (List.getD (List.getD c (Int.toNat v0.1) []) (2 : Nat) (0 : Int)) (List.getD (List.getD c (Int.toNat v0.1) []) (3 : Nat) (0 : Int)) (List.getD (List.getD c (Int.toNat v0.1) []) (4 : Nat) (0 : Int))) = r.2) ∧
   True)))))
   ((∃ (v1 : Int × Nat), (Ob ((Option.bind (iter (R06_CheckCascade_b0 c) v1.2 v1.1) fun y0 => Option.bind (R06_CheckCascade_r0 y0) some) = some r) ∧
   (Ob (v1.2 < v0.2) ∧
   (Ob (IntKind.wrap IntKind.i64 (v0.1 + (1 : Int)) = v1.1) ∧
   (Ob (c = c) ∧
   True))))))))))
   ((Ob (True) ∧
   (Ob (True) ∧
   (Ob ((0 : Int) = r.1) ∧
   (Ob ((0 : Int) = r.2) ∧
   True)))))))))) = _) ?_
  refine br_d h (fun h => ?_) (fun h => ?_)
  · refine ob_t ?_
    refine ob_t ?_
    exact ret_s h (fun e => by subst e; exact (by repeat' (first | exact trivial | exact ⟨rfl⟩ | refine And.intro ?_ ?_)))
  · refine ⟨⟨((0 : Int), big), ⟨loop_s h⟩, (by repeat' (first | exact trivial | exact ⟨rfl⟩ | refine And.intro ?_ ?_))⟩, fun z1 hz1 => ?_⟩
    obtain ⟨k1, hm1, h⟩ := iter_pos hz1
    refine br_d h (fun h => ?_) (fun h => ?_)
    · refine ob_s h fun h => ?_
      refine ob_s h fun h => ?_
      refine call_s h fun h => ?_
      refine br_b h (fun h => ?_) (fun h => ?_)
      · have h := exit_s h
        refine ob_t ?_
        refine ob_t ?_
        exact ret_s h (fun e => by subst e; exact (by repeat' (first | exact trivial | exact ⟨rfl⟩ | refine And.intro ?_ ?_)))
      · exact ⟨(IntKind.wrap IntKind.i64 (Prod.fst z1 + (1 : Int)), k1), ⟨next_s h⟩, ⟨lt_gs hm1.symm⟩, (by repeat' (first | exact trivial | exact ⟨rfl⟩ | refine And.intro ?_ ?_))⟩
    · have h := exit_s h
      refine ob_t ?_
      refine ob_t ?_
      exact ret_s h (fun e => by subst e; exact (by repeat' (first | exact trivial | exact ⟨rfl⟩ | refine And.intro ?_ ?_)))
set_option maxRecDepth 100000 in
theorem R06_CheckCascade_ok : SpecOK Try.prog 30 true (pureK k_R06_CheckCascade g_R06_CheckCascade) := by
  refine pureK_ok (sp := (sp_28 sp0)) (fn := Try.f30) (body := bodyOf Try.f30) mixed (sp_28_ok sp0_ok) Try.func30 (by kernel_rfl) (by kernel_rfl) fun as_ ob rs h ho => ?_
  unfold g_R06_CheckCascade at h
  split at h
  · rename_i c
    cases h
    exact ⟨Nat.le_of_ble_eq_true rfl, _, _, R06_CheckCascade_vc c _ (ok_some ho)⟩
  · cases h
theorem sp_30_ok {sp : Specs} (h : SpecsOK Try.prog sp) : SpecsOK Try.prog (sp_30 sp) := addK_ok R06_CheckCascade_ok h
def k_B_IsWhole : List SV := [.c (.d)]
/-- shoebox/shoeboxbase.IsWhole -/
def B_IsWhole (f : Nat) : Option Bool :=
  if (Ieee.Format.order (FloatKind.format FloatKind.f64) f f != some Ordering.eq) = true then
   some false
  else
   if (Option.isSome (Ieee.Format.sub (FloatKind.format FloatKind.f64) f f)) = true then
   if (Ieee.Format.order (FloatKind.format FloatKind.f64) (Option.getD (Ieee.Format.sub (FloatKind.format FloatKind.f64) f f) (0 : Nat)) (0 : Nat) != some Ordering.eq) = true then
   some false
   else
   if (Ieee.Format.order (FloatKind.format FloatKind.f64) f (14069741636278059008 : Nat) == some Ordering.gt || Ieee.Format.order (FloatKind.format FloatKind.f64) f (14069741636278059008 : Nat) == some Ordering.eq) = true then
   if (!(Ieee.Format.order (FloatKind.format FloatKind.f64) f (4846369599423283200 : Nat) == some Ordering.lt || Ieee.Format.order (FloatKind.format FloatKind.f64) f (4846369599423283200 : Nat) == some Ordering.eq)) = true then
   some true
   else
   if f2iOk FloatKind.f64 IntKind.i64 f = true then
   some (Ieee.Format.order (FloatKind.format FloatKind.f64) (FloatKind.nearest FloatKind.f64 (f2i FloatKind.f64 f)) f == some Ordering.eq)
   else none
   else
   some true
   else
   some false
/-- shoebox/shoeboxbase.IsWhole -/
def B_IsWhole_n : Option Bool :=
  some false
def g_B_IsWhole : List Lf → Option GT
  | [.d (.f .f64 f)] => some (.leaf (ok (B_IsWhole f)) [.c (.d (.b ((val (B_IsWhole f)))))])
  | [.n .f64] => some (.leaf (ok (B_IsWhole_n)) [.c (.d (.b ((val (B_IsWhole_n)))))])
  | _ => none
abbrev sp_115 : Specs → Specs := addK 115 true (pureT k_B_IsWhole g_B_IsWhole)
set_option maxRecDepth 100000 in
theorem B_IsWhole_vc (f : Nat) (r : Bool) (h : Option.bind (B_IsWhole f) some = some r) : runT Try.f115 (sp0) (fun _ _ _ => none) (bldD k_B_IsWhole [.d (.f .f64 f)]) [.c (.d (.b r))] := by
  refine Eq.mp (by kernel_rfl : (
  Br (Ieee.Format.order (FloatKind.format FloatKind.f64) f f != some Ordering.eq)
   ((Ob (True) ∧
   (Ob (false = r) ∧
   True)))
   (Br (Option.isSome (Ieee.Format.sub (FloatKind.format FloatKind.f64) f f))
   ((Ob (True) ∧
   Br (Ieee.Format.order (FloatKind.format FloatKind.f64) (Option.getD (Ieee.Format.sub (FloatKind.format FloatKind.f64) f f) (0 : Nat)) (0 : Nat) != some Ordering.eq)
   ((Ob (True) ∧
   (Ob (false = r) ∧
   True)))
   (Br (Ieee.Format.order (FloatKind.format FloatKind.f64) f (14069741636278059008 : Nat) == some Ordering.gt || Ieee.Format.order (FloatKind.format FloatKind.f64) f (14069741636278059008 : Nat) == some Ordering.eq)
   (Br (!(Ieee.Format.order (FloatKind.format FloatKind.f64) f (4846369599423283200 : Nat) == some Ordering.lt || Ieee.Format.order (FloatKind.format FloatKind.f64) f (4846369599423283200 : Nat) == some Ordering.eq))
   ((Ob (True) ∧
   (Ob (true = r) ∧
   True)))
   ((Ob (f2iOk FloatKind.f64 IntKind.i64 f = true) ∧
   (Ob (True) ∧
   (Ob (True) ∧
   (Ob ((Ieee.Format.order (FloatKind.format FloatKind.f64) (FloatKind.nearest FloatKind.f64 (f2i FloatKind.f64 f)) f == some Ordering.eq) = r) ∧
   True))))))
   ((Ob (True) ∧
   (Ob (true = r) ∧
   True))))))
   ((Ob (True) ∧
   (Ob (True) ∧
   (Ob (false = r) ∧
   True)))))) = _) ?_
  refine br_b h (fun h => ?_) (fun h => ?_)
  · refine ob_t ?_
    exact ret_s h (fun e => by subst e; exact (by repeat' (first | exact trivial | exact ⟨rfl⟩ | refine And.intro ?_ ?_)))
  · refine br_b h (fun h => ?_) (fun h => ?_)
    · refine ob_t ?_
      refine br_b h (fun h => ?_) (fun h => ?_)
      · refine ob_t ?_
        exact ret_s h (fun e => by subst e; exact (by repeat' (first | exact trivial | exact ⟨rfl⟩ | refine And.intro ?_ ?_)))
      · refine br_b h (fun h => ?_) (fun h => ?_)
        · refine br_b h (fun h => ?_) (fun h => ?_)
          · refine ob_t ?_
            exact ret_s h (fun e => by subst e; exact (by repeat' (first | exact trivial | exact ⟨rfl⟩ | refine And.intro ?_ ?_)))
          · refine ob_s h fun h => ?_
            refine ob_t ?_
            refine ob_t ?_
            exact ret_s h (fun e => by subst e; exact (by repeat' (first | exact trivial | exact ⟨rfl⟩ | refine And.intro ?_ ?_)))
        · refine ob_t ?_
          exact ret_s h (fun e => by subst e; exact (by repeat' (first | exact trivial | exact ⟨rfl⟩ | refine And.intro ?_ ?_)))
    · refine ob_t ?_
      refine ob_t ?_
      exact ret_s h (fun e => by subst e; exact (by repeat' (first | exact trivial | exact ⟨rfl⟩ | refine And.intro ?_ ?_)))
set_option maxRecDepth 100000 in
theorem B_IsWhole_n_vc (r : Bool) (h : Option.bind (B_IsWhole_n) some = some r) : runT Try.f115 (sp0) (fun _ _ _ => none) (bldD k_B_IsWhole [.n .f64]) [.c (.d (.b r))] := by
  refine Eq.mp (by kernel_rfl : (
  (Ob (True) ∧
   (Ob (false = r) ∧
   True))) = _) ?_
  refine ob_t ?_
  exact ret_s h (fun e => by subst e; exact (by repeat' (first | exact trivial | exact ⟨rfl⟩ | refine And.intro ?_ ?_)))
set_option maxRecDepth 100000 in
theorem B_IsWhole_ok : SpecOK Try.prog 115 true (pureT k_B_IsWhole g_B_IsWhole) := by
  refine pureT_ok (sp := sp0) (fn := Try.f115) (body := bodyOf Try.f115) mixed sp0_ok Try.func115 (by kernel_rfl) (by kernel_rfl) fun ls t h ho b hb => ?_
  unfold g_B_IsWhole at h
  split at h
  · rename_i f
    cases h
    obtain rfl := bld_eq hb
    exact ⟨Nat.le_of_ble_eq_true (by kernel_rfl), _, _, B_IsWhole_vc f _ (ok_some ho)⟩
  · cases h
    obtain rfl := bld_eq hb
    exact ⟨Nat.le_of_ble_eq_true (by kernel_rfl), _, _, B_IsWhole_n_vc _ (ok_some ho)⟩
  · cases h
theorem sp_115_ok {sp : Specs} (h : SpecsOK Try.prog sp) : SpecsOK Try.prog (sp_115 sp) := addK_ok B_IsWhole_ok h

def k_R06_SamplesErr : List (Option Cont) := [some (.floats .f32 [])]
def R06_SamplesErr_b0 (l : List Nat) (x0 : Int) : Option (Int ⊕ (Int ⊕ Unit)) :=
  if x0 < (↑(List.length l) : Int) then
   if (0 : Int) ≤ x0 ∧ x0 < (↑(List.length l) : Int) then
   if Int.toNat x0 < List.length l then
   if (isNan32 (List.getD l (Int.toNat x0) (0 : Nat))) = true then
   some (.inr ((.inl (27 : Int))))
   else
   Option.bind (B_IsWhole (to64 (List.getD l (Int.toNat x0) (0 : Nat)))) fun r0 =>
   if (!r0) = true then
   some (.inr ((.inl (27 : Int))))
   else
   if (0 : Int) ≤ x0 ∧ x0 < (↑(List.length l) : Int) then
   if Int.toNat x0 < List.length l then
   if (Ieee.Format.order (FloatKind.format FloatKind.f32) (List.getD l (Int.toNat x0) (0 : Nat)) (3338665472 : Nat) == some Ordering.lt) = true then
   some (.inr ((.inl (2 : Int))))
   else
   if (0 : Int) ≤ x0 ∧ x0 < (↑(List.length l) : Int) then
   if Int.toNat x0 < List.length l then
   if (Ieee.Format.order (FloatKind.format FloatKind.f32) (List.getD l (Int.toNat x0) (0 : Nat)) (1191181824 : Nat) == some Ordering.gt) = true then
   some (.inr ((.inl (2 : Int))))
   else
   some (.inl (IntKind.wrap IntKind.i64 (x0 + (1 : Int))))
   else none
   else none
   else none
   else none
   else none
   else none
  else
   some (.inr ((.inr ())))
def R06_SamplesErr_r0_0 (y0_0 : Int) : Option Int :=
  some y0_0
def R06_SamplesErr_r0_1 (y0_1 : Unit) : Option Int :=
  some (0 : Int)
def R06_SamplesErr_r0 : (Int ⊕ Unit) → Option Int :=
  (Sum.elim (R06_SamplesErr_r0_0) (R06_SamplesErr_r0_1))
/-- shoebox/shoeboxref06.SamplesErr -/
def R06_SamplesErr (l : List Nat) : Option Int :=
  Option.bind (iter (R06_SamplesErr_b0 l) big (0 : Int)) (R06_SamplesErr_r0)
def g_R06_SamplesErr : List A → Option (Prop × List RV)
  | [.r (.floats .f32 l)] => some (ok (R06_SamplesErr l), [.d (.i .i64 ((val (R06_SamplesErr l))))])
  | _ => none
abbrev sp_61 : Specs → Specs := addK 61 true (pureK k_R06_SamplesErr g_R06_SamplesErr)
set_option maxRecDepth 100000 in
theorem R06_SamplesErr_vc (l : List Nat) (r : Int) (h : Option.bind (R06_SamplesErr l) some = some r) : runF Try.f61 ((sp_115 sp0)) (fun gs id _ => match id with
 | 0 => some ⟨Int × Nat, fun z => ⟨[(0, .w (.c (.o 0))), (3, .w (.c (.d (.i .i64 (Prod.fst z)))))], [(0, .ext (.floats .f32 l))], 1⟩, fun z => Option.bind (iter (R06_SamplesErr_b0 l) (Prod.snd z) (Prod.fst z)) (fun y0 => Option.bind (R06_SamplesErr_r0 y0) some) = some r, fun z => Prod.snd z⟩
 | _ => none) [.r (.floats .f32 l)] [.d (.i .i64 r)] := by
  refine Eq.mp (by kernel_rfl : (
  ((∃ (v0 : Int × Nat), (Ob ((Option.bind (iter (R06_SamplesErr_b0 l) v0.2 v0.1) fun y0 => Option.bind (R06_SamplesErr_r0 y0) some) = some r) ∧
   (Ob ((0 : Int) = v0.1) ∧
   (Ob (l = l) ∧
   True)))) ∧
   (∀ (v0 : Int × Nat), ((Option.bind (iter (R06_SamplesErr_b0 l) v0.2 v0.1) fun y0 => Option.bind (R06_SamplesErr_r0 y0) some) = some r →
   Br (decide (v0.1 < (↑(List.length l) : Int)))
   ((Ob ((0 : Int) ≤ v0.1 ∧ v0.1 < (↑(List.length l) : Int)) ∧
   (Ob (Int.toNat v0.1 < List.length l) ∧
   Br (isNan32 (List.getD l (Int.toNat v0.1) (0 : Nat)))
   ((Ob (True) ∧
   (Ob (ok B_IsWhole_n) ∧
   (Ob (True) ∧
   (Ob ((27 : Int) = r) ∧
   True)))))
   ((Ob (True) ∧
   (Ob (ok (B_IsWhole (to64 (List.getD l (Int.toNat v0.1) (0 : Nat))))) ∧
   Br (!val (B_IsWhole (to64 (List.getD l (Int.toNat v0.1) (0 : Nat)))))
   ((Ob (True) ∧
   (Ob ((27 : Int) = r) ∧
   True)))
   ((Ob ((0 : Int) ≤ v0.1 ∧ v0.1 < (↑(List.length l) : Int)) ∧
   (Ob (Int.toNat v0.1 < List.length l) ∧
   Br (Ieee.Format.order (FloatKind.format FloatKind.f32) (List.getD l (Int.toNat v0.1) (0 : Nat)) (3338665472 : Nat) == some Ordering.lt)
   ((Ob (True) ∧
   (Ob ((2 : Int) = r) ∧
   True)))
   ((Ob ((0 : Int) ≤ v0.1 ∧ v0.1 < (↑(List.length l) : Int)) ∧
   (Ob (Int.toNat v0.1 < List.length l) ∧
   Br (Ieee.Format.order (FloatKind.format FloatKind.f32) (List.getD l (Int.toNat v0.1) (0 : Nat)) (1191181824 : Nat) == some Ordering.gt)
   ((Ob (True) ∧
   (Ob ((2 : Int) = r) ∧
   True)))
   ((∃ (v1 : Int × Nat), (Ob ((Option.bind (iter (R06_SamplesErr_b0 l) v1.2 v1.1) fun y0 => Option.bind (R06_SamplesErr_r0 y0) some) = some r) ∧
   (Ob (v1.2 < v0.2) ∧
   (Ob (IntKind.wrap IntKind.i64 (v0.1 + (1 : Int)) = v1.1) ∧
   (Ob (l = l) ∧
   True))))))))))))))))))
   ((Ob (True) ∧
   (Ob ((0 : Int) = r) ∧
   True))))))) = _) ?_
  refine ⟨⟨((0 : Int), big), ⟨loop_s h⟩, (by repeat' (first | exact trivial | exact ⟨rfl⟩ | refine And.intro ?_ ?_))⟩, fun z1 hz1 => ?_⟩
  obtain ⟨k1, hm1, h⟩ := iter_pos hz1
  refine br_d h (fun h => ?_) (fun h => ?_)
  · refine ob_s h fun h => ?_
    refine ob_s h fun h => ?_
    refine br_b h (fun h => ?_) (fun h => ?_)
    · refine ob_t ?_
      refine ob_c (p := ok B_IsWhole_n) (by decide) ?_
      have h := exit_s h
      refine ob_t ?_
      exact ret_s h (fun e => by subst e; exact (by repeat' (first | exact trivial | exact ⟨rfl⟩ | refine And.intro ?_ ?_)))
    · refine ob_t ?_
      refine call_s h fun h => ?_
      refine br_b h (fun h => ?_) (fun h => ?_)
      · have h := exit_s h
        refine ob_t ?_
        exact ret_s h (fun e => by subst e; exact (by repeat' (first | exact trivial | exact ⟨rfl⟩ | refine And.intro ?_ ?_)))
      · refine ob_s h fun h => ?_
        refine ob_s h fun h => ?_
        refine br_b h (fun h => ?_) (fun h => ?_)
        · have h := exit_s h
          refine ob_t ?_
          exact ret_s h (fun e => by subst e; exact (by repeat' (first | exact trivial | exact ⟨rfl⟩ | refine And.intro ?_ ?_)))
        · refine ob_s h fun h => ?_
          refine ob_s h fun h => ?_
          refine br_b h (fun h => ?_) (fun h => ?_)
          · have h := exit_s h
            refine ob_t ?_
            exact ret_s h (fun e => by subst e; exact (by repeat' (first | exact trivial | exact ⟨rfl⟩ | refine And.intro ?_ ?_)))
          · exact ⟨(IntKind.wrap IntKind.i64 (Prod.fst z1 + (1 : Int)), k1), ⟨next_s h⟩, ⟨lt_gs hm1.symm⟩, (by repeat' (first | exact trivial | exact ⟨rfl⟩ | refine And.intro ?_ ?_))⟩
  · have h := exit_s h
    refine ob_t ?_
    exact ret_s h (fun e => by subst e; exact (by repeat' (first | exact trivial | exact ⟨rfl⟩ | refine And.intro ?_ ?_)))
set_option maxRecDepth 100000 in
theorem R06_SamplesErr_ok : SpecOK Try.prog 61 true (pureK k_R06_SamplesErr g_R06_SamplesErr) := by
  refine pureK_ok (sp := (sp_115 sp0)) (fn := Try.f61) (body := bodyOf Try.f61) mixed (sp_115_ok sp0_ok) Try.func61 (by kernel_rfl) (by kernel_rfl) fun as_ ob rs h ho => ?_
  unfold g_R06_SamplesErr at h
  split at h
  · rename_i l
    cases h
    exact ⟨Nat.le_of_ble_eq_true rfl, _, _, R06_SamplesErr_vc l _ (ok_some ho)⟩
  · cases h
theorem sp_61_ok {sp : Specs} (h : SpecsOK Try.prog sp) : SpecsOK Try.prog (sp_61 sp) := addK_ok R06_SamplesErr_ok h

def k_R06_isSample : List (Option Cont) := [none]
/-- shoebox/shoeboxref06.isSample -/
def R06_isSample (n : Int) : Option Bool :=
  some (decide ((-32767 : Int) ≤ n) && decide (n ≤ (32767 : Int)))
def g_R06_isSample : List A → Option (Prop × List RV)
  | [.d (.i .i64 n)] => some (ok (R06_isSample n), [.d (.b ((val (R06_isSample n))))])
  | _ => none
abbrev sp_93 : Specs → Specs := addK 93 true (pureK k_R06_isSample g_R06_isSample)
set_option maxRecDepth 100000 in
theorem R06_isSample_vc (n : Int) (r : Bool) (h : Option.bind (R06_isSample n) some = some r) : runF Try.f93 ((sp_50 sp0)) (fun _ _ _ => none) [.d (.i .i64 n)] [.d (.b r)] := by
  refine Eq.mp (by kernel_rfl : (
  (Ob (True) ∧
   (Ob (True) ∧
   (Ob ((decide ((-32767 : Int) ≤ n) && decide (n ≤ (32767 : Int))) = r) ∧
   True)))) = _) ?_
  refine ob_t ?_
  refine ob_t ?_
  exact ret_s h (fun e => by subst e; exact (by repeat' (first | exact trivial | exact ⟨rfl⟩ | refine And.intro ?_ ?_)))
set_option maxRecDepth 100000 in
theorem R06_isSample_ok : SpecOK Try.prog 93 true (pureK k_R06_isSample g_R06_isSample) := by
  refine pureK_ok (sp := (sp_50 sp0)) (fn := Try.f93) (body := bodyOf Try.f93) mixed (sp_50_ok sp0_ok) Try.func93 (by kernel_rfl) (by kernel_rfl) fun as_ ob rs h ho => ?_
  unfold g_R06_isSample at h
  split at h
  · rename_i n
    cases h
    exact ⟨Nat.le_of_ble_eq_true rfl, _, _, R06_isSample_vc n _ (ok_some ho)⟩
  · cases h
theorem sp_93_ok {sp : Specs} (h : SpecsOK Try.prog sp) : SpecsOK Try.prog (sp_93 sp) := addK_ok R06_isSample_ok h

def k_R06_Out : List (Option Cont) := [none, none, none]
/-- shoebox/shoeboxref06.Out -/
def R06_Out (sB0 : Int) (sB1 : Int) (sB2 : Int) (sA0 : Int) (sA1 : Int) (tX0 : Int) (tX1 : Int) (tY0 : Int) (tY1 : Int) (x_ : Int) : Option (Int × Bool × Int × Int × Int × Int) :=
  Option.bind (B_Floor (IntKind.wrap IntKind.i64 (IntKind.wrap IntKind.i64 ((2 : Int) * IntKind.wrap IntKind.i64 (IntKind.wrap IntKind.i64 (IntKind.wrap IntKind.i64 (IntKind.wrap IntKind.i64 (IntKind.wrap IntKind.i64 (sB0 * x_) + IntKind.wrap IntKind.i64 (sB1 * tX0)) + IntKind.wrap IntKind.i64 (sB2 * tX1)) - IntKind.wrap IntKind.i64 (sA0 * tY0)) - IntKind.wrap IntKind.i64 (sA1 * tY1))) + (16384 : Int))) (32768 : Int)) fun r0 =>
  Option.bind (R06_isSample r0) fun r1 =>
  some ((if (if r0 < (32767 : Int) then r0 else (32767 : Int)) > (-32767 : Int) then if r0 < (32767 : Int) then r0 else (32767 : Int) else (-32767 : Int), !r1, x_, tX0, if (if r0 < (32767 : Int) then r0 else (32767 : Int)) > (-32767 : Int) then if r0 < (32767 : Int) then r0 else (32767 : Int) else (-32767 : Int), tY0))
def g_R06_Out : List A → Option (Prop × List RV)
  | [.s [.i .i64 sB0, .i .i64 sB1, .i .i64 sB2, .i .i64 sA0, .i .i64 sA1], .s [.i .i64 tX0, .i .i64 tX1, .i .i64 tY0, .i .i64 tY1], .d (.i .i64 x_)] => some (ok (R06_Out sB0 sB1 sB2 sA0 sA1 tX0 tX1 tY0 tY1 x_), [.d (.i .i64 ((val (R06_Out sB0 sB1 sB2 sA0 sA1 tX0 tX1 tY0 tY1 x_)).1)), .d (.b ((val (R06_Out sB0 sB1 sB2 sA0 sA1 tX0 tX1 tY0 tY1 x_)).2.1)), .s [.i .i64 ((val (R06_Out sB0 sB1 sB2 sA0 sA1 tX0 tX1 tY0 tY1 x_)).2.2.1), .i .i64 ((val (R06_Out sB0 sB1 sB2 sA0 sA1 tX0 tX1 tY0 tY1 x_)).2.2.2.1), .i .i64 ((val (R06_Out sB0 sB1 sB2 sA0 sA1 tX0 tX1 tY0 tY1 x_)).2.2.2.2.1), .i .i64 ((val (R06_Out sB0 sB1 sB2 sA0 sA1 tX0 tX1 tY0 tY1 x_)).2.2.2.2.2)]])
  | _ => none
abbrev sp_38 : Specs → Specs := addK 38 true (pureK k_R06_Out g_R06_Out)
set_option maxRecDepth 100000 in
theorem R06_Out_vc (sB0 : Int) (sB1 : Int) (sB2 : Int) (sA0 : Int) (sA1 : Int) (tX0 : Int) (tX1 : Int) (tY0 : Int) (tY1 : Int) (x_ : Int) (r : Int × Bool × Int × Int × Int × Int) (h : Option.bind (R06_Out sB0 sB1 sB2 sA0 sA1 tX0 tX1 tY0 tY1 x_) some = some r) : runF Try.f38 ((sp_90 (sp_93 sp0))) (fun _ _ _ => none) [.s [.i .i64 sB0, .i .i64 sB1, .i .i64 sB2, .i .i64 sA0, .i .i64 sA1], .s [.i .i64 tX0, .i .i64 tX1, .i .i64 tY0, .i .i64 tY1], .d (.i .i64 x_)] [.d (.i .i64 r.1), .d (.b r.2.1), .s [.i .i64 r.2.2.1, .i .i64 r.2.2.2.1, .i .i64 r.2.2.2.2.1, .i .i64 r.2.2.2.2.2]] := by
  refine Eq.mp (by kernel_rfl : (
  (Ob ((0 : Int) ≤ (0 : Int) ∧ (0 : Int) < (↑(3 : Nat) : Int)) ∧
   (Ob ((0 : Int) ≤ (1 : Int) ∧ (1 : Int) < (↑(3 : Nat) : Int)) ∧
   (Ob ((0 : Int) ≤ (0 : Int) ∧ (0 : Int) < (↑(2 : Nat) : Int)) ∧
   (Ob ((0 : Int) ≤ (2 : Int) ∧ (2 : Int) < (↑(3 : Nat) : Int)) ∧
   (Ob ((0 : Int) ≤ (1 : Int) ∧ (1 : Int) < (↑(2 : Nat) : Int)) ∧
   (Ob ((0 : Int) ≤ (0 : Int) ∧ (0 : Int) < (↑(2 : Nat) : Int)) ∧
   (Ob ((0 : Int) ≤ (0 : Int) ∧ (0 : Int) < (↑(2 : Nat) : Int)) ∧
   (Ob ((0 : Int) ≤ (1 : Int) ∧ (1 : Int) < (↑(2 : Nat) : Int)) ∧
   (Ob ((0 : Int) ≤ (1 : Int) ∧ (1 : Int) < (↑(2 : Nat) : Int)) ∧
   (Ob (ok (B_Floor (IntKind.wrap IntKind.i64 (IntKind.wrap IntKind.i64 ((2 : Int) * IntKind.wrap IntKind.i64 (IntKind.wrap IntKind.i64 (IntKind.wrap IntKind.i64 (IntKind.wrap IntKind.i64 (IntKind.wrap IntKind.i64 (sB0 * x_) + IntKind.wrap IntKind.i64 (sB1 * tX0)) + IntKind.wrap IntKind.i64 (sB2 * tX1)) - IntKind.wrap IntKind.i64 (sA0 * tY0)) - IntKind.wrap IntKind.i64 (sA1 * tY1))) + (16384 : Int))) (32768 : Int))) ∧
   (Ob (ok (R06_isSample (val (B_Floor (IntKind.wrap IntKind.i64 (IntKind.wrap IntKind.i64 ((2 : Int) * IntKind.wrap IntKind.i64 (IntKind.wrap IntKind.i64 (IntKind.wrap IntKind.i64 (IntKind.wrap IntKind.i64 (IntKind.wrap IntKind.i64 (sB0 * x_) + IntKind.wrap IntKind.i64 (sB1 * tX0)) + IntKind.wrap IntKind.i64 (sB2 * tX1)) - IntKind.wrap IntKind.i64 (sA0 * tY0)) - IntKind.wrap IntKind.i64 (sA1 * tY1))) + (16384 : Int))) (32768 : Int))))) ∧
   (Ob ((0 : Int) ≤ (0 : Int) ∧ (0 : Int) < (↑(2 : Nat) : Int)) ∧
   (Ob ((0 : Int) ≤ (0 : Int) ∧ (0 : Int) < (↑(2 : Nat) : Int)) ∧
   (Ob (True) ∧
   (Ob (True) ∧
   (Ob (True) ∧
   (Ob ((if (if val (B_Floor (IntKind.wrap IntKind.i64 (IntKind.wrap IntKind.i64 ((2 : Int) * IntKind.wrap IntKind.i64 (IntKind.wrap IntKind.i64 (IntKind.wrap IntKind.i64 (IntKind.wrap IntKind.i64 (IntKind.wrap IntKind.i64 (sB0 * x_) + IntKind.wrap IntKind.i64 (sB1 * tX0)) + IntKind.wrap IntKind.i64 (sB2 * tX1)) - IntKind.wrap IntKind.i64 (sA0 * tY0)) - IntKind.wrap IntKind.i64 (sA1 * tY1))) + (16384 : Int))) (32768 : Int)) < (32767 : Int) then val (B_Floor (IntKind.wrap IntKind.i64 (IntKind.wrap IntKind.i64 ((2 : Int) * IntKind.wrap IntKind.i64 (IntKind.wrap IntKind.i64 (IntKind.wrap IntKind.i64 (IntKind.wrap IntKind.i64 (IntKind.wrap IntKind.i64 (sB0 * x_) + IntKind.wrap IntKind.i64 (sB1 * tX0)) + IntKind.wrap IntKind.i64 (sB2 * tX1)) - IntKind.wrap IntKind.i64 (sA0 * tY0)) - IntKind.wrap IntKind.i64 (sA1 * tY1))) + (16384 : Int))) (32768 : Int)) else (32767 : Int)) > (-32767 : Int) then if val (B_Floor (IntKind.wrap IntKind.i64 (IntKind.wrap IntKind.i64 ((2 : Int) * IntKind.wrap IntKind.i64 (IntKind.wrap IntKind.i64 (IntKind.wrap IntKind.i64 (IntKind.wrap IntKind.i64 (IntKind.wrap IntKind.i64 (sB0 * x_) + IntKind.wrap IntKind.i64 (sB1 * tX0)) + IntKind.wrap IntKind.i64 (sB2 * tX1)) - IntKind.wrap IntKind.i64 (sA0 * tY0)) - IntKind.wrap IntKind.i64 (sA1 * tY1))) + (16384 : Int))) (32768 : Int)) < (32767 : Int) then val (B_Floor (IntKind.wrap IntKind.i64 (IntKind.wrap IntKind.i64 ((2 : Int) * IntKind.wrap IntKind.i64 (IntKind.wrap IntKind.i64 (IntKind.wrap IntKind.i64 (IntKind.wrap IntKind.i64 (IntKind.wrap IntKind.i64 (sB0 * x_) + IntKind.wrap IntKind.i64 (sB1 * tX0)) + IntKind.wrap IntKind.i64 (sB2 * tX1)) - IntKind.wrap IntKind.i64 (sA0 * tY0)) - IntKind.wrap IntKind.i64 (sA1 * tY1))) + (16384 : Int))) (32768 : Int)) else (32767 : Int) else (-32767 : Int)) = r.1) ∧
   (Ob ((!val (R06_isSample (val (B_Floor (IntKind.wrap IntKind.i64 (IntKind.wrap IntKind.i64 ((2 : Int) * IntKind.wrap IntKind.i64 (IntKind.wrap IntKind.i64 (IntKind.wrap IntKind.i64 (IntKind.wrap IntKind.i64 (IntKind.wrap IntKind.i64 (sB0 * x_) + IntKind.wrap IntKind.i64 (sB1 * tX0)) + IntKind.wrap IntKind.i64 (sB2 * tX1)) - IntKind.wrap IntKind.i64 (sA0 * tY0)) - IntKind.wrap IntKind.i64 (sA1 * tY1))) + (16384 : Int))) (32768 : Int))))) = r.2.1) ∧
   (Ob (x_ = r.2.2.1) ∧
   (Ob (tX0 = r.2.2.2.1) ∧
   (Ob ((if (if val (B_Floor (IntKind.wrap IntKind.i64 (IntKind.wrap IntKind.i64 ((2 : Int) * IntKind.wrap IntKind.i64 (IntKind.wrap IntKind.i64 (IntKind.wrap IntKind.i64 (IntKind.wrap IntKind.i64 (IntKind.wrap IntKind.i64 (sB0 * x_) + IntKind.wrap IntKind.i64 (sB1 * tX0)) + IntKind.wrap IntKind.i64 (sB2 * tX1)) - IntKind.wrap IntKind.i64 (sA0 * tY0)) - IntKind.wrap IntKind.i64 (sA1 * tY1))) + (16384 : Int))) (32768 : Int)) < (32767 : Int) then val (B_Floor (IntKind.wrap IntKind.i64 (IntKind.wrap IntKind.i64 ((2 : Int) * IntKind.wrap IntKind.i64 (IntKind.wrap IntKind.i64 (IntKind.wrap IntKind.i64 (IntKind.wrap IntKind.i64 (IntKind.wrap IntKind.i64 (sB0 * x_) + IntKind.wrap IntKind.i64 (sB1 * tX0)) + IntKind.wrap IntKind.i64 (sB2 * tX1)) - IntKind.wrap IntKind.i64 (sA0 * tY0)) - IntKind.wrap IntKind.i64 (sA1 * tY1))) + (16384 : Int))) (32768 : Int)) else (32767 : Int)) > (-32767 : Int) then if val (B_Floor (IntKind.wrap IntKind.i64 (IntKind.wrap IntKind.i64 ((2 : Int) * IntKind.wrap IntKind.i64 (IntKind.wrap IntKind.i64 (IntKind.wrap IntKind.i64 (IntKind.wrap IntKind.i64 (IntKind.wrap IntKind.i64 (sB0 * x_) + IntKind.wrap IntKind.i64 (sB1 * tX0)) + IntKind.wrap IntKind.i64 (sB2 * tX1)) - IntKind.wrap IntKind.i64 (sA0 * tY0)) - IntKind.wrap IntKind.i64 (sA1 * tY1))) + (16384 : Int))) (32768 : Int)) < (32767 : Int) then val (B_Floor (IntKind.wrap IntKind.i64 (IntKind.wrap IntKind.i64 ((2 : Int) * IntKind.wrap IntKind.i64 (IntKind.wrap IntKind.i64 (IntKind.wrap IntKind.i64 (IntKind.wrap IntKind.i64 (IntKind.wrap IntKind.i64 (sB0 * x_) + IntKind.wrap IntKind.i64 (sB1 * tX0)) + IntKind.wrap IntKind.i64 (sB2 * tX1)) - IntKind.wrap IntKind.i64 (sA0 * tY0)) - IntKind.wrap IntKind.i64 (sA1 * tY1))) + (16384 : Int))) (32768 : Int)) else (32767 : Int) else (-32767 : Int)) = r.2.2.2.2.1) ∧
   (Ob (tY0 = r.2.2.2.2.2) ∧
   True))))))))))))))))))))))) = _) ?_
  refine ob_c (p := (0 : Int) ≤ (0 : Int) ∧ (0 : Int) < (↑(3 : Nat) : Int)) (by decide) ?_
  refine ob_c (p := (0 : Int) ≤ (1 : Int) ∧ (1 : Int) < (↑(3 : Nat) : Int)) (by decide) ?_
  refine ob_c (p := (0 : Int) ≤ (0 : Int) ∧ (0 : Int) < (↑(2 : Nat) : Int)) (by decide) ?_
  refine ob_c (p := (0 : Int) ≤ (2 : Int) ∧ (2 : Int) < (↑(3 : Nat) : Int)) (by decide) ?_
  refine ob_c (p := (0 : Int) ≤ (1 : Int) ∧ (1 : Int) < (↑(2 : Nat) : Int)) (by decide) ?_
  refine ob_c (p := (0 : Int) ≤ (0 : Int) ∧ (0 : Int) < (↑(2 : Nat) : Int)) (by decide) ?_
  refine ob_c (p := (0 : Int) ≤ (0 : Int) ∧ (0 : Int) < (↑(2 : Nat) : Int)) (by decide) ?_
  refine ob_c (p := (0 : Int) ≤ (1 : Int) ∧ (1 : Int) < (↑(2 : Nat) : Int)) (by decide) ?_
  refine ob_c (p := (0 : Int) ≤ (1 : Int) ∧ (1 : Int) < (↑(2 : Nat) : Int)) (by decide) ?_
  refine call_s h fun h => ?_
  refine call_s h fun h => ?_
  refine ob_c (p := (0 : Int) ≤ (0 : Int) ∧ (0 : Int) < (↑(2 : Nat) : Int)) (by decide) ?_
  refine ob_c (p := (0 : Int) ≤ (0 : Int) ∧ (0 : Int) < (↑(2 : Nat) : Int)) (by decide) ?_
  refine ob_t ?_
  refine ob_t ?_
  refine ob_t ?_
  exact ret_s h (fun e => by subst e; exact (by repeat' (first | exact trivial | exact ⟨rfl⟩ | refine And.intro ?_ ?_)))
set_option maxRecDepth 100000 in
theorem R06_Out_ok : SpecOK Try.prog 38 true (pureK k_R06_Out g_R06_Out) := by
  refine pureK_ok (sp := (sp_90 (sp_93 sp0))) (fn := Try.f38) (body := bodyOf Try.f38) mixed (sp_90_ok (sp_93_ok sp0_ok)) Try.func38 (by kernel_rfl) (by kernel_rfl) fun as_ ob rs h ho => ?_
  unfold g_R06_Out at h
  split at h
  · rename_i sB0 sB1 sB2 sA0 sA1 tX0 tX1 tY0 tY1 x_
    cases h
    exact ⟨Nat.le_of_ble_eq_true rfl, _, _, R06_Out_vc sB0 sB1 sB2 sA0 sA1 tX0 tX1 tY0 tY1 x_ _ (ok_some ho)⟩
  · cases h
theorem sp_38_ok {sp : Specs} (h : SpecsOK Try.prog sp) : SpecsOK Try.prog (sp_38 sp) := addK_ok R06_Out_ok h

def k_R06_Through : List (Option Cont) := [some (.recs 5 []), some (.ints .i64 []), some (.recs 4 [])]
def R06_Through_b1 (c : List (List Int)) (x1 : (Int × Int × Int × List (List Int))) : Option ((Int × Int × Int × List (List Int)) ⊕ (Int × Int × List (List Int))) :=
  if x1.2.2.1 < (↑(List.length c) : Int) then
   if (0 : Int) ≤ x1.2.2.1 ∧ x1.2.2.1 < (↑(List.length c) : Int) then
   if Int.toNat x1.2.2.1 < List.length c then
   if (0 : Int) ≤ x1.2.2.1 ∧ x1.2.2.1 < (↑(List.length x1.2.2.2) : Int) then
   if Int.toNat x1.2.2.1 < List.length x1.2.2.2 then
   Option.bind (R06_Out (List.getD (List.getD c (Int.toNat x1.2.2.1) []) (0 : Nat) (0 : Int)) (List.getD (List.getD c (Int.toNat x1.2.2.1) []) (1 : Nat) (0 : Int)) (List.getD (List.getD c (Int.toNat x1.2.2.1) []) (2 : Nat) (0 : Int)) (List.getD (List.getD c (Int.toNat x1.2.2.1) []) (3 : Nat) (0 : Int)) (List.getD (List.getD c (Int.toNat x1.2.2.1) []) (4 : Nat) (0 : Int)) (List.getD (List.getD x1.2.2.2 (Int.toNat x1.2.2.1) []) (0 : Nat) (0 : Int)) (List.getD (List.getD x1.2.2.2 (Int.toNat x1.2.2.1) []) (1 : Nat) (0 : Int)) (List.getD (List.getD x1.2.2.2 (Int.toNat x1.2.2.1) []) (2 : Nat) (0 : Int)) (List.getD (List.getD x1.2.2.2 (Int.toNat x1.2.2.1) []) (3 : Nat) (0 : Int)) x1.2.1) fun r0 =>
   if (r0.2.1) = true then
   if (0 : Int) ≤ x1.2.2.1 ∧ x1.2.2.1 < (↑(List.length x1.2.2.2) : Int) then
   if Int.toNat x1.2.2.1 < List.length x1.2.2.2 then
   some (.inl ((IntKind.wrap IntKind.i64 (x1.1 + (1 : Int)), r0.1, IntKind.wrap IntKind.i64 (x1.2.2.1 + (1 : Int)), List.set x1.2.2.2 (Int.toNat x1.2.2.1) (wr (4 : Nat) (List.getD x1.2.2.2 (Int.toNat x1.2.2.1) []) (0 : Nat) [r0.2.2.1, r0.2.2.2.1, r0.2.2.2.2.1, r0.2.2.2.2.2]))))
   else none
   else none
   else
   if (0 : Int) ≤ x1.2.2.1 ∧ x1.2.2.1 < (↑(List.length x1.2.2.2) : Int) then
   if Int.toNat x1.2.2.1 < List.length x1.2.2.2 then
   some (.inl ((x1.1, r0.1, IntKind.wrap IntKind.i64 (x1.2.2.1 + (1 : Int)), List.set x1.2.2.2 (Int.toNat x1.2.2.1) (wr (4 : Nat) (List.getD x1.2.2.2 (Int.toNat x1.2.2.1) []) (0 : Nat) [r0.2.2.1, r0.2.2.2.1, r0.2.2.2.2.1, r0.2.2.2.2.2]))))
   else none
   else none
   else none
   else none
   else none
   else none
  else
   some (.inr (x1.1, x1.2.1, x1.2.2.2))
def R06_Through_r1 (x0 : Int × Int × List (List Int) × List Int) (y1_0 : Int × Int × List (List Int)) : Option ((Int × Int × List (List Int) × List Int) ⊕ (Int × List (List Int) × List Int)) :=
  if (List.length x0.2.2.2 + List.length [y1_0.2.1]) * (8 : Nat) ≤ (140737488355328 : Nat) ∧ List.length x0.2.2.2 + List.length [y1_0.2.1] ≤ (9223372036854775807 : Nat) then
   some (.inl ((y1_0.1, IntKind.wrap IntKind.i64 (x0.2.1 + (1 : Int)), y1_0.2.2, x0.2.2.2 ++ [y1_0.2.1])))
  else none
def R06_Through_b0 (c : List (List Int)) (l : List Int) (x0 : (Int × Int × List (List Int) × List Int)) : Option ((Int × Int × List (List Int) × List Int) ⊕ (Int × List (List Int) × List Int)) :=
  if x0.2.1 < (↑(List.length l) : Int) then
   if (0 : Int) ≤ x0.2.1 ∧ x0.2.1 < (↑(List.length l) : Int) then
   if Int.toNat x0.2.1 < List.length l then
   Option.bind (iter (R06_Through_b1 c) big ((x0.1, List.getD l (Int.toNat x0.2.1) (0 : Int), (0 : Int), x0.2.2.1))) (R06_Through_r1 x0)
   else none
   else none
  else
   some (.inr (x0.1, x0.2.2.1, x0.2.2.2))
def R06_Through_r0 (y0_0 : Int × List (List Int) × List Int) : Option (List Int × List (List Int) × Int) :=
  some (y0_0.2.2, y0_0.2.1, y0_0.1)
/-- shoebox/shoeboxref06.Through -/
def R06_Through (c : List (List Int)) (l : List Int) (s : List (List Int)) : Option (List Int × List (List Int) × Int) :=
  if ((0 : Nat) + List.length s) * (32 : Nat) ≤ (140737488355328 : Nat) ∧ (0 : Nat) + List.length s ≤ (9223372036854775807 : Nat) then
   Option.bind (iter (R06_Through_b0 c l) big (((0 : Int), (0 : Int), [] ++ s, []))) (R06_Through_r0)
  else none
def g_R06_Through : List A → Option (Prop × List RV)
  | [.r (.recs 5 c), .r (.ints .i64 l), .r (.recs 4 s)] => some (ok (R06_Through c l s), [.row 3 (.ints .i64 ((val (R06_Through c l s)).1)), .row 60 (.recs 4 ((val (R06_Through c l s)).2.1)), .d (.i .i64 ((val (R06_Through c l s)).2.2))])
  | _ => none
abbrev sp_62 : Specs → Specs := addK 62 true (pureK k_R06_Through g_R06_Through)
set_option maxRecDepth 100000 in
theorem R06_Through_vc (c : List (List Int)) (l : List Int) (s : List (List Int)) (r : List Int × List (List Int) × Int) (h : Option.bind (R06_Through c l s) some = some r) : runF Try.f62 ((sp_38 sp0)) (fun gs id _ => match id with
 | 0 => some ⟨(Int × Int × List (List Int) × List Int) × Nat, fun z => ⟨[(0, .w (.c (.o 0))), (1, .w (.c (.o 1))), (9, .w (.c (.o 3))), (10, .w (.c (.d (.i .i64 (Prod.fst (Prod.fst z)))))), (11, .w (.c (.o 4))), (12, .w (.c (.d (.i .i64 (Prod.fst (Prod.snd (Prod.fst z)))))))], [(0, .ext (.recs 5 c)), (1, .ext (.ints .i64 l)), (3, .row 60 (.recs 4 (Prod.fst (Prod.snd (Prod.snd (Prod.fst z)))))), (4, .row 3 (.ints .i64 (Prod.snd (Prod.snd (Prod.snd (Prod.fst z))))))], 5⟩, fun z => Option.bind (iter (R06_Through_b0 c l) (Prod.snd z) (Prod.fst z)) (fun y0 => Option.bind (R06_Through_r0 y0) some) = some r, fun z => Prod.snd z⟩
 | 2 => some ⟨(Int × Int × List (List Int) × List Int) × Nat × (Int × Int × Int × List (List Int)) × Nat, fun z => ⟨[(0, .w (.c (.o 0))), (1, .w (.c (.o 1))), (9, .w (.c (.o 3))), (10, .w (.c (.d (.i .i64 (Prod.fst (Prod.fst (Prod.snd (Prod.snd z)))))))), (11, .w (.c (.o 4))), (12, .w (.c (.d (.i .i64 ((Prod.fst z).2.1))))), (13, .w (.c (.d (.i .i64 (Prod.fst (Prod.snd (Prod.fst (Prod.snd (Prod.snd z))))))))), (14, .w (.c (.d (.i .i64 (Prod.fst (Prod.snd (Prod.snd (Prod.fst (Prod.snd (Prod.snd z))))))))))], [(0, .ext (.recs 5 c)), (1, .ext (.ints .i64 l)), (3, .row 60 (.recs 4 (Prod.snd (Prod.snd (Prod.snd (Prod.fst (Prod.snd (Prod.snd z)))))))), (4, .row 3 (.ints .i64 ((Prod.fst z).2.2.2)))], 5⟩, fun z => Prod.fst (Prod.snd z) + 1 = gs.getD 0 0 ∧ Option.bind (iter (R06_Through_b1 c) (Prod.snd (Prod.snd (Prod.snd z))) (Prod.fst (Prod.snd (Prod.snd z)))) (fun y0 => Option.bind (R06_Through_r1 (Prod.fst z) y0) (stepK (R06_Through_b0 c l) (Prod.fst (Prod.snd z)) (fun y1 => Option.bind (R06_Through_r0 y1) some))) = some r, fun z => Prod.snd (Prod.snd (Prod.snd z))⟩
 | _ => none) [.r (.recs 5 c), .r (.ints .i64 l), .r (.recs 4 s)] [.row 3 (.ints .i64 r.1), .row 60 (.recs 4 r.2.1), .d (.i .i64 r.2.2)] := by
  refine Eq.mp (by kernel_rfl : (
  (Ob (((0 : Nat) + List.length s) * (32 : Nat) ≤ (140737488355328 : Nat) ∧ (0 : Nat) + List.length s ≤ (9223372036854775807 : Nat)) ∧
   ((∃ (v0 : (Int × Int × List (List Int) × List Int) × Nat), (Ob ((Option.bind (iter (R06_Through_b0 c l) v0.2 v0.1) fun y0 => Option.bind (R06_Through_r0 y0) some) = some r) ∧
   (Ob ((0 : Int) = v0.1.1) ∧
   (Ob ((0 : Int) = v0.1.2.1) ∧
   (Ob (c = c) ∧
   (Ob (l = l) ∧
   (Ob ([] ++ s = v0.1.2.2.1) ∧
   (Ob (List.length v0.1.2.2.2 = (0 : Nat)) ∧
   True)))))))) ∧
   (∀ (v0 : (Int × Int × List (List Int) × List Int) × Nat), ((Option.bind (iter (R06_Through_b0 c l) v0.2 v0.1) fun y0 => Option.bind (R06_Through_r0 y0) some) = some r →
   Br (decide (v0.1.2.1 < (↑(List.length l) : Int)))
   ((Ob ((0 : Int) ≤ v0.1.2.1 ∧ v0.1.2.1 < (↑(List.length l) : Int)) ∧
   (Ob (Int.toNat v0.1.2.1 < List.length l) ∧
   ((∃ (v1 : (Int × Int × List (List Int) × List Int) × Nat × (Int × Int × Int × List (List Int)) × Nat), (Ob (v1.2.1 + (1 : Nat) = List.getD [v0.2] (0 : Nat) (0 : Nat) ∧ (Option.bind (iter (R06_Through_b1 c) v1.2.2.2 v1.2.2.1) fun y0 => Option.bind (R06_Through_r1 v1.1 y0) (stepK (R06_Through_b0 c l) v1.2.1 fun y1 => Option.bind (R06_Through_r0 y1) some)) = some r) ∧
   (Ob (v0.1.1 = v1.2.2.1.1) ∧
   (Ob (v0.1.2.1 = v1.1.2.1) ∧
   (Ob (List.getD l (Int.toNat v0.1.2.1) (0 : Int) = v1.2.2.1.2.1) ∧
   (Ob ((0 : Int) = v1.2.2.1.2.2.1) ∧
   (Ob (c = c) ∧
   (Ob (l = l) ∧
   (Ob (v0.1.2.2.1 = v1.2.2.1.2.2.2) ∧
   (Ob (v0.1.2.2.2 = v1.1.2.2.2) ∧
   True)))))))))) ∧
   (∀ (v1 : (Int × Int × List (List Int) × List Int) × Nat × (Int × Int × Int × List (List Int)) × Nat), (v1.2.1 + (1 : Nat) = List.getD [v0.2] (0 : Nat) (0 : Nat) ∧ (Option.bind (iter (R06_Through_b1 c) v1.2.2.2 v1.2.2.1) fun y0 => Option.bind (R06_Through_r1 v1.1 y0) (stepK (R06_Through_b0 c l) v1.2.1 fun y1 => Option.bind (R06_Through_r0 y1) some)) = some r →
   Br (decide (v1.2.2.1.2.2.1 < (↑(List.length c) : Int)))
   ((Ob ((0 : Int) ≤ v1.2.2.1.2.2.1 ∧ v1.2.2.1.2.2.1 < (↑(List.length c) : Int)) ∧
   (Ob (Int.toNat v1.2.2.1.2.2.1 < List.length c) ∧
   (Ob ((0 : Int) ≤ v1.2.2.1.2.2.1 ∧ v1.2.2.1.2.2.1 < (↑(List.length v1.2.2.1.2.2.2) : Int)) ∧
   (Ob (Int.toNat v1.2.2.1.2.2.1 < List.length v1.2.2.1.2.2.2) ∧
   (Ob (ok (R06_Out (List.getD (List.getD c (Int.toNat v1.2.2.1.2.2.1) []) (0 : Nat) (0 : Int)) (List.getD (List.getD c (Int.toNat v1.2.2.1.2.2.1) []) (1 : Nat) (0 : Int)) (List.getD (List.getD c (Int.toNat v1.2.2.1.2.2.1) []) (2 : Nat) (0 : Int)) (List.getD (List.getD c (Int.toNat v1.2.2.1.2.2.1) []) (3 : Nat) (0 : Int)) (List.getD (List.getD c (Int.toNat v1.2.2.1.2.2.1) []) (4 : Nat) (0 : Int)) (List.getD (List.getD v1.2.2.1.2.2.2 (Int.toNat v1.2.2.1.2.2.1) []) (0 : Nat) (0 : Int)) (List.getD (List.getD v1.2.2.1.2.2.2 (Int.toNat v1.2.2.1.2.2.1) []) (1 : Nat) (0 : Int)) (List.getD (List.getD v1.2.2.1.2.2.2 (Int.toNat v1.2.2.1.2.2.1) []) (2 : Nat) (0 : Int)) (List.getD (List.getD v1.2.2.1.2.2.2 (Int.toNat v1.2.2.1.2.2.1) []) (3 : Nat) (0 : Int)) v1.2.2.1.2.1)) ∧
   Br ((val (R06_Out (List.getD (List.getD c (Int.toNat v1.2.2.1.2.2.1) []) (0 : Nat) (0 : Int)) (List.getD (List.getD c (Int.toNat v1.2.2.1.2.2.1) []) (1 : Nat) (0 : Int)) (List.getD (List.getD c (Int.toNat v1.2.2.1.2.2.1) []) (2 : Nat) (0 : Int)) (List.getD (List.getD c (Int.toNat v1.2.2.1.2.2.1) []) (3 : Nat) (0 : Int)) (List.getD (List.getD c (Int.toNat v1.2.2.1.2.2.1) []) (4 : Nat) (0 : Int)) (List.getD (List.getD v1.2.2.1.2.2.2 (Int.toNat v1.2.2.1.2.2.1) []) (0 : Nat) (0 : Int)) (List.getD (List.getD v1.2.2.1.2.2.2 (Int.toNat v1.2.2.1.2.2.1) []) (1 : Nat) (0 : Int)) (List.getD (List.getD v1.2.2.1.2.2.2 (Int.toNat v1.2.2.1.2.2.1) []) (2 : Nat) (0 : Int)) (List.getD (List.getD v1.2.2.1.2.2.2 (Int.toNat v1.2.2.1.2.2.1) []) (3 : Nat) (0 : Int)) v1.2.2.1.2.1)).2.1)
   ((Ob ((0 : Int) ≤ v1.2.2.1.2.2.1 ∧ v1.2.2.1.2.2.1 < (↑(List.length v1.2.2.1.2.2.2) : Int)) ∧
   (Ob (Int.toNat v1.2.2.1.2.2.1 < List.length v1.2.2.1.2.2.2) ∧
   (∃ (v2 : (Int × Int × List (List Int) × List Int) × Nat × (Int × Int × Int × List (List Int)) × Nat), (Ob (v2.2.1 + (1 : Nat) = List.getD [v0.2] (0 : Nat) (0 : Nat) ∧ (Option.bind (iter (R06_Through_b1 c) v2.2.2.2 v2.2.2.1) fun y0 => Option.bind (R06_Through_r1 v2.1 y0) (stepK (R06_Through_b0 c l) v2.2.1 fun y1 => Option.bind (R06_Through_r0 y1) some)) = some r) ∧
   (Ob (v2.2.2.2 < v1.2.2.2) ∧
   (Ob (IntKind.wrap IntKind.i64 (v1.2.2.1.1 + (1 : Int)) = v2.2.2.1.1) ∧
   (Ob (v1.1.2.1 = v2.1.2.1) ∧
   (Ob ((val (R06_Out (List.getD (List.getD c (Int.toNat v1.2.2.1.2.2.1) []) (0 : Nat) (0 : Int)) (List.getD (List.getD c (Int.toNat v1.2.2.1.2.2.1) []) (1 : Nat) (0 : Int)) (List.getD (List.getD c (Int.toNat v1.2.2.1.2.2.1) []) (2 : Nat) (0 : Int)) (List.getD (List.getD c (Int.toNat v1.2.2.1.2.2.1) []) (3 : Nat) (0 : Int)) (List.getD (List.getD c (Int.toNat v1.2.2.1.2.2.1) []) (4 : Nat) (0 : Int)) (List.getD (List.getD v1.2.2.1.2.2.2 (Int.toNat v1.2.2.1.2.2.1) []) (0 : Nat) (0 : Int)) (List.getD (List.getD v1.2.2.1.2.2.2 (Int.toNat v1.2.2.1.2.2.1) []) (1 : Nat) (0 : Int)) (List.getD (List.getD v1.2.2.1.2.2.2 (Int.toNat v1.2.2.1.2.2.1) []) (2 : Nat) (0 : Int)) (List.getD (List.getD v1.2.2.1.2.2.2 (Int.toNat v1.2.2.1.2.2.1) []) (3 : Nat) (0 : Int)) v1.2.2.1.2.1)).1 = v2.2.2.1.2.1) ∧
   (Ob (IntKind.wrap IntKind.i64 (v1.2.2.1.2.2.1 + (1 : Int)) = v2.2.2.1.2.2.1) ∧
   (Ob (c = c) ∧
   (Ob (l = l) ∧
   (Ob (List.set v1.2.2.1.2.2.2 (Int.toNat v1.2.2.1.2.2.1) (wr (4 : Nat) (List.getD v1.2.2.1.2.2.2 (Int.toNat v1.2.2.1.2.2.1) []) (0 : Nat) [(val (R06_Out (List.getD (List.getD c (Int.toNat v1.2.2.1.2.2.1) []) (0 : Nat) (0 : Int)) (List.getD (List.getD c (Int.toNat v1.2.2.1.2.2.1) []) (1 : Nat) (0 : Int)) (List.getD (List.getD c (Int.toNat v1.2.2.1.2.2.1) []) (2 : Nat) (0 : Int)) (List.getD (List.getD c (Int.toNat v1.2.2.1.2.2.1) []) (3 : Nat) (0 : Int)) (List.getD (List.getD c (Int.toNat v1.2.2.1.2.2.1) []) (4 : Nat) (0 : Int)) (List.getD (List.getD v1.2.2.1.2.2.2 (Int.toNat v1.2.2.1.2.2.1) []) (0 : Nat) (0 : Int)) (List.getD (List.getD v1.2.2.1.2.2.2 (Int.toNat v1.2.2.1.2.2.1) []) (1 : Nat) (0 : Int)) (List.getD (List.getD v1.2.2.1.2.2.2 (Int.toNat v1.2.2.1.2.2.1) []) (2 : Nat) (0 : Int)) (List.getD (List.getD v1.2.2.1.2.2.2 (Int.toNat v1.2.2.1.2.2.1) []) (3 : Nat) (0 : Int)) v1.2.2.1.2.1)).2.2.1, (val (R06_Out (List.getD (List.getD c (Int.toNat v1.2.2.1.2.2.1) []) (0 : Nat) (0 : Int)) (List.getD (List.getD c (Int.toNat v1.2.2.1.2.2.1) []) (1 : Nat) (0 : Int)) (List.getD (List.getD c (Int.toNat v1.2.2.1.2.2.1) []) (2 : Nat) (0 : Int)) (List.getD (List.getD c (Int.toNat v1.2.2.1.2.2.1) []) (3 : Nat) (0 : Int)) (List.getD (List.getD c (Int.toNat v1.2.2.1.2.2.1) []) (4 : Nat) (0 : Int)) (List.getD (List.getD v1.2.2.1.2.2.2 (Int.toNat v1.2.2.1.2.2.1) []) (0 : Nat) (0 : Int)) (List.getD (List.getD v1.2.2.1.2.2.2 (Int.toNat v1.2.2.1.2.2.1) []) (1 : Nat) (0 : Int)) (List.getD (List.getD v1.2.2.1.2.2.2 (Int.toNat v1.2.2.1.2.2.1) []) (2 : Nat) (0 : Int)) (List.getD (List.getD v1.2.2.1.2.2.2 (Int.toNat v1.2.2.1.2.2.1) []) (3 : Nat) (0 : Int)) v1.2.2.1.2.1)).2.2.2.1, (val (R06_Out (List.getD (List.getD c (Int.toNat v1.2.2.1.2.2.1) []) (0 : Nat) (0 : Int)) (List.getD (List.getD c (Int.toNat v1.2.2.1.2.2.1) []) (1 : Nat) (0 : Int)) (List.getD (List.getD c (Int.toNat v1.2.2.1.2.2.1) []) (2 : Nat) (0 : Int)) (List.getD (List.getD c (Int.toNat v1.2.2.1.2.2.1) []) (3 : Nat) (0 : Int)) (List.getD (List.getD c (Int.toNat v1.2.2.1.2.2.1) []) (4 : Nat) (0 : Int)) (List.getD (List.getD v1.2.2.1.2.2.2 (Int.toNat v1.2.2.1.2.2.1) []) (0 : Nat) (0 : Int)) (List.getD (List.getD v1.2.2.1.2.2.2 (Int.toNat v1.2.2.1.2.2.1) []) (1 : Nat) (0 : Int)) (List.getD (List.getD v1.2.2.1.2.2.2 (Int.toNat v1.2.2.1.2.2.1) []) (2 : Nat) (0 : Int)) (List.getD (List.getD v1.2.2.1.2.2.2 (Int.toNat v1.2.2.1.2.2.1) []) (3 : Nat) (0 : Int)) v1.2.2.1.2.1)).2.2.2.2.1, (val (R06_Out (List.getD (List.getD c (Int.toNat v1.2.2.1.2.2.1) []) (0 : Nat) (0 : Int)) (List.getD (List.getD c (Int.toNat v1.2.2.1.2.2.1) []) (1 : Nat) (0 : Int)) (List.getD (List.getD c (Int.toNat v1.2.2.1.2.2.1) []) (2 : Nat) (0 : Int)) (List.getD (List.getD c (Int.toNat v1.2.2.1.2.2.1) []) (3 : Nat) (0 : Int)) (List.getD (List.getD c (Int.toNat v1.2.2.1.2.2.1) []) (4 : Nat) (0 : Int)) (List.getD (List.getD v1.2.2.1.2.2.2 (Int.toNat v1.2.2.1.2.2.1) []) (0 : Nat) (0 : Int)) (List.getD (List.getD v1.2.2.1.2.2.2 (Int.toNat v1.2.2.1.2.2.1) []) (1 : Nat) (0 : Int)) (List.getD (List.getD v1.2.2.1.2.2.2 (Int.toNat v1.2.2.1.2.2.1) []) (2 : Nat) (0 : Int)) (List.getD (List.getD v1.2.2.1.2.2.2 (Int.toNat v1.2.2.1.2.2.1) []) (3 : Nat) (0 : Int)) v1.2.2.1.2.1)).2.2.2.2.2]) = v2.2.2.1.2.2.2) ∧
   (Ob (v1.1.2.2.2 = v2.1.2.2.2) ∧
   True))))))))))))))
   ((Ob ((0 : Int) ≤ v1.2.2.1.2.2.1 ∧ v1.2.2.1.2.2.1 < (↑(List.length v1.2.2.1.2.2.2) : Int)) ∧
   (Ob (Int.toNat v1.2.2.1.2.2.1 < List.length v1.2.2.1.2.2.2) ∧
   (∃ (v2 : (Int × Int × List (List Int) × List Int) × Nat × (Int × Int × Int × List (List Int)) × Nat), (Ob (v2.2.1 + (1 : Nat) = List.getD [v0.2] (0 : Nat) (0 : Nat) ∧ (Option.bind (iter (R06_Through_b1 c) v2.2.2.2 v2.2.2.1) fun y0 => Option.bind (R06_Through_r1 v2.1 y0) (stepK (R06_Through_b0 c l) v2.2.1 fun y1 => Option.bind (R06_Through_r0 y1) some)) = some r) ∧
   (Ob (v2.2.2.2 < v1.2.2.2) ∧
   (Ob (v1.2.2.1.1 = v2.2.2.1.1) ∧
   (Ob (v1.1.2.1 = v2.1.2.1) ∧
   (Ob ((val (R06_Out (List.getD (List.getD c (Int.toNat v1.2.2.1.2.2.1) []) (0 : Nat) (0 : Int)) (List.getD (List.getD c (Int.toNat v1.2.2.1.2.2.1) []) (1 : Nat) (0 : Int)) (List.getD (List.getD c (Int.toNat v1.2.2.1.2.2.1) []) (2 : Nat) (0 : Int)) (List.getD (List.getD c (Int.toNat v1.2.2.1.2.2.1) []) (3 : Nat) (0 : Int)) (List.getD (List.getD c (Int.toNat v1.2.2.1.2.2.1) []) (4 : Nat) (0 : Int)) (List.getD (List.getD v1.2.2.1.2.2.2 (Int.toNat v1.2.2.1.2.2.1) []) (0 : Nat) (0 : Int)) (List.getD (List.getD v1.2.2.1.2.2.2 (Int.toNat v1.2.2.1.2.2.1) []) (1 : Nat) (0 : Int)) (List.getD (List.getD v1.2.2.1.2.2.2 (Int.toNat v1.2.2.1.2.2.1) []) (2 : Nat) (0 : Int)) (List.getD (List.getD v1.2.2.1.2.2.2 (Int.toNat v1.2.2.1.2.2.1) []) (3 : Nat) (0 : Int)) v1.2.2.1.2.1)).1 = v2.2.2.1.2.1) ∧
   (Ob (IntKind.wrap IntKind.i64 (v1.2.2.1.2.2.1 + (1 : Int)) = v2.2.2.1.2.2.1) ∧
   (Ob (c = c) ∧
   (Ob (l = l) ∧
   (Ob (List.set v1.2.2.1.2.2.2 (Int.toNat v1.2.2.1.2.2.1) (wr (4 : Nat) (List.getD v1.2.2.1.2.2.2 (Int.toNat v1.2.2.1.2.2.1) []) (0 : Nat) [(val (R06_Out (List.getD (List.getD c (Int.toNat v1.2.2.1.2.2.1) []) (0 : Nat) (0 : Int)) (List.getD (List.getD c (Int.toNat v1.2.2.1.2.2.1) []) (1 : Nat) (0 : Int)) (List.getD (List.getD c (Int.toNat v1.2.2.1.2.2.1) []) (2 : Nat) (0 : Int)) (List.getD (List.getD c (Int.toNat v1.2.2.1.2.2.1) []) (3 : Nat) (0 : Int)) (List.getD (List.getD c (Int.toNat v1.2.2.1.2.2.1) []) (4 : Nat) (0 : Int)) (List.getD (List.getD v1.2.2.1.2.2.2 (Int.toNat v1.2.2.1.2.2.1) []) (0 : Nat) (0 : Int)) (List.getD (List.getD v1.2.2.1.2.2.2 (Int.toNat v1.2.2.1.2.2.1) []) (1 : Nat) (0 : Int)) (List.getD (List.getD v1.2.2.1.2.2.2 (Int.toNat v1.2.2.1.2.2.1) []) (2 : Nat) (0 : Int)) (List.getD (List.getD v1.2.2.1.2.2.2 (Int.toNat v1.2.2.1.2.2.1) []) (3 : Nat) (0 : Int)) v1.2.2.1.2.1)).2.2.1, (val (R06_Out (List.getD (List.getD c (Int.toNat v1.2.2.1.2.2.1) []) (0 : Nat) (0 : Int)) (List.getD (List.getD c (Int.toNat v1.2.2.1.2.2.1) []) (1 : Nat) (0 : Int)) (List.getD (List.getD c (Int.toNat v1.2.2.1.2.2.1) []) (2 : Nat) (0 : Int)) (List.getD (List.getD c (Int.toNat v1.2.2.1.2.2.1) []) (3 : Nat) (0 : Int)) (List.getD (List.getD c (Int.toNat v1.2.2.1.2.2.1) []) (4 : Nat) (0 : Int)) (List.getD (List.getD v1.2.2.1.2.2.2 (Int.toNat v1.2.2.1.2.2.1) []) (0 : Nat) (0 : Int)) (List.getD (List.getD v1.2.2.1.2.2.2 (Int.toNat v1.2.2.1.2.2.1) []) (1 : Nat) (0 : Int)) (List.getD (List.getD v1.2.2.1.2.2.2 (Int.toNat v1.2.2.1.2.2.1) []) (2 : Nat) (0 : Int)) (List.getD (List.getD v1.2.2.1.2.2.2 (Int.toNat v1.2.2.1.2.2.1) []) (3 : Nat) (0 : Int)) v1.2.2.1.2.1)).2.2.2.1, (val (R06_Out (List.getD (List.getD c (Int.toNat v1.2.2.1.2.2.1) []) (0 : Nat) (0 : Int)) (List.getD (List.getD c (Int.toNat v1.2.2.1.2.2.1) []) (1 : Nat) (0 : Int)) (List.getD (List.getD c (Int.toNat v1.2.2.1.2.2.1) []) (2 : Nat) (0 : Int)) (List.getD (List.getD c (Int.toNat v1.2.2.1.2.2.1) []) (3 : Nat) (0 : Int)) (List.getD (List.getD c (Int.toNat v1.2.2.1.2.2.1) []) (4 : Nat) (0 : Int)) (List.getD (List.getD v1.2.2.1.2.2.2 (Int.toNat v1.2.2.1.2.2.1) []) (0 : Nat) (0 : Int)) (List.getD (List.getD v1.2.2.1.2.2.2 (Int.toNat v1.2.2.1.2.2.1) []) (1 : Nat) (0 : Int)) (List.getD (List.getD v1.2.2.1.2.2.2 (Int.toNat v1.2.2.1.2.2.1) []) (2 : Nat) (0 : Int)) (List.getD (List.getD v1.2.2.1.2.2.2 (Int.toNat v1.2.2.1.2.2.1) []) (3 : Nat) (0 : Int)) v1.2.2.1.2.1)).2.2.2.2.1, (val (R06_Out (List.getD (List.getD c (Int.toNat v1.2.2.1.2.2.1) []) (0 : Nat) (0 : Int)) (List.getD (List.getD c (Int.toNat v1.2.2.1.2.2.1) []) (1 : Nat) (0 : Int)) (List.getD (List.getD c (Int.toNat v1.2.2.1.2.2.1) []) (2 : Nat) (0 : Int)) (List.getD (List.getD c (Int.toNat v1.2.2.1.2.2.1) []) (3 : Nat) (0 : Int)) (List.getD (List.getD c (Int.toNat v1.2.2.1.2.2.1) []) (4 : Nat) (0 : Int)) (List.getD (List.getD v1.2.2.1.2.2.2 (Int.toNat v1.2.2.1.2.2.1) []) (0 : Nat) (0 : Int)) (List.getD (List.getD v1.2.2.1.2.2.2 (Int.toNat v1.2.2.1.2.2.1) []) (1 : Nat) (0 : Int)) (List.getD (List.getD v1.2.2.1.2.2.2 (Int.toNat v1.2.2.1.2.2.1) []) (2 : Nat) (0 : Int)) (List.getD (List.getD v1.2.2.1.2.2.2 (Int.toNat v1.2.2.1.2.2.1) []) (3 : Nat) (0 : Int)) v1.2.2.1.2.1)).2.2.2.2.2]) = v2.2.2.1.2.2.2) ∧
   (Ob (v1.1.2.2.2 = v2.1.2.2.2) ∧
   True))))))))))))))))))))
   ((Ob ((List.length v1.1.2.2.2 + List.length [v1.2.2.1.2.1]) * (8 : Nat) ≤ (140737488355328 : Nat) ∧ List.length v1.1.2.2.2 + List.length [v1.2.2.1.2.1] ≤ (9223372036854775807 : Nat)) ∧
   (∃ (v2 : (Int × Int × List (List Int) × List Int) × Nat), (Ob ((Option.bind (iter (R06_Through_b0 c l) v2.2 v2.1) fun y0 => Option.bind (R06_Through_r0 y0) some) = some r) ∧
   (Ob (v2.2 < v0.2) ∧
   (Ob (v1.2.2.1.1 = v2.1.1) ∧
   (Ob (IntKind.wrap IntKind.i64 (v1.1.2.1 + (1 : Int)) = v2.1.2.1) ∧
   (Ob (c = c) ∧
   (Ob (l = l) ∧
   (Ob (v1.2.2.1.2.2.2 = v2.1.2.2.1) ∧
   (Ob (v1.1.2.2.2 ++ [v1.2.2.1.2.1] = v2.1.2.2.2) ∧
   True)))))))))))))))))
   ((Ob (True) ∧
   (Ob (True) ∧
   (Ob (True) ∧
   (Ob (v0.1.2.2.2 = r.1) ∧
   (Ob (v0.1.2.2.1 = r.2.1) ∧
   (Ob (v0.1.1 = r.2.2) ∧
   True)))))))))))) = _) ?_
  refine ob_s h fun h => ?_
  refine ⟨⟨(((0 : Int), (0 : Int), [] ++ s, []), big), ⟨loop_s h⟩, (by repeat' (first | exact trivial | exact ⟨rfl⟩ | refine And.intro ?_ ?_))⟩, fun z1 hz1 => ?_⟩
  obtain ⟨k1, hm1, h⟩ := iter_pos hz1
  refine br_d h (fun h => ?_) (fun h => ?_)
  · refine ob_s h fun h => ?_
    refine ob_s h fun h => ?_
    refine ⟨⟨(Prod.fst z1, k1, ((Prod.fst z1).1, List.getD l (Int.toNat (Prod.fst z1).2.1) (0 : Int), (0 : Int), (Prod.fst z1).2.2.1), big), ⟨⟨hm1.symm, loop_s h⟩⟩, (by repeat' (first | exact trivial | exact ⟨rfl⟩ | refine And.intro ?_ ?_))⟩, fun z2 hz2 => ?_⟩
    obtain ⟨k2, hm2, h⟩ := iter_pos hz2.2
    refine br_d h (fun h => ?_) (fun h => ?_)
    · refine ob_s h fun h => ?_
      refine ob_s h fun h => ?_
      refine ob_s h fun h => ?_
      refine ob_s h fun h => ?_
      refine call_s h fun h => ?_
      refine br_b h (fun h => ?_) (fun h => ?_)
      · refine ob_s h fun h => ?_
        refine ob_s h fun h => ?_
        exact ⟨(Prod.fst z2, Prod.fst (Prod.snd z2), (IntKind.wrap IntKind.i64 ((Prod.fst (Prod.snd (Prod.snd z2))).1 + (1 : Int)), (val (R06_Out (List.getD (List.getD c (Int.toNat (Prod.fst (Prod.snd (Prod.snd z2))).2.2.1) []) (0 : Nat) (0 : Int)) (List.getD (List.getD c (Int.toNat (Prod.fst (Prod.snd (Prod.snd z2))).2.2.1) []) (1 : Nat) (0 : Int)) (List.getD (List.getD c (Int.toNat (Prod.fst (Prod.snd (Prod.snd z2))).2.2.1) []) (2 : Nat) (0 : Int)) (List.getD (List.getD c (Int.toNat (Prod.fst (Prod.snd (Prod.snd z2))).2.2.1) []) (3 : Nat) (0 : Int)) (List.getD (List.getD c (Int.toNat (Prod.fst (Prod.snd (Prod.snd z2))).2.2.1) []) (4 : Nat) (0 : Int)) (List.getD (List.getD (Prod.fst (Prod.snd (Prod.snd z2))).2.2.2 (Int.toNat (Prod.fst (Prod.snd (Prod.snd z2))).2.2.1) []) (0 : Nat) (0 : Int)) (List.getD (List.getD (Prod.fst (Prod.snd (Prod.snd z2))).2.2.2 (Int.toNat (Prod.fst (Prod.snd (Prod.snd z2))).2.2.1) []) (1 : Nat) (0 : Int)) (List.getD (List.getD (Prod.fst (Prod.snd (Prod.snd z2))).2.2.2 (Int.toNat (Prod.fst (Prod.snd (Prod.snd z2))).2.2.1) []) (2 : Nat) (0 : Int)) (List.getD (List.getD (Prod.fst (Prod.snd (Prod.snd z2))).2.2.2 (Int.toNat (Prod.fst (Prod.snd (Prod.snd z2))).2.2.1) []) (3 : Nat) (0 : Int)) (Prod.fst (Prod.snd (Prod.snd z2))).2.1)).1, IntKind.wrap IntKind.i64 ((Prod.fst (Prod.snd (Prod.snd z2))).2.2.1 + (1 : Int)), List.set (Prod.fst (Prod.snd (Prod.snd z2))).2.2.2 (Int.toNat (Prod.fst (Prod.snd (Prod.snd z2))).2.2.1) (wr (4 : Nat) (List.getD (Prod.fst (Prod.snd (Prod.snd z2))).2.2.2 (Int.toNat (Prod.fst (Prod.snd (Prod.snd z2))).2.2.1) []) (0 : Nat) [(val (R06_Out (List.getD (List.getD c (Int.toNat (Prod.fst (Prod.snd (Prod.snd z2))).2.2.1) []) (0 : Nat) (0 : Int)) (List.getD (List.getD c (Int.toNat (Prod.fst (Prod.snd (Prod.snd z2))).2.2.1) []) (1 : Nat) (0 : Int)) (List.getD (List.getD c (Int.toNat (Prod.fst (Prod.snd (Prod.snd z2))).2.2.1) []) (2 : Nat) (0 : Int)) (List.getD (List.getD c (Int.toNat (Prod.fst (Prod.snd (Prod.snd z2))).2.2.1) []) (3 : Nat) (0 : Int)) (List.getD (List.getD c (Int.toNat (Prod.fst (Prod.snd (Prod.snd z2))).2.2.1) []) (4 : Nat) (0 : Int)) (List.getD (List.getD (Prod.fst (Prod.snd (Prod.snd z2))).2.2.2 (Int.toNat (Prod.fst (Prod.snd (Prod.snd z2))).2.2.1) []) (0 : Nat) (0 : Int)) (List.getD (List.getD (Prod.fst (Prod.snd (Prod.snd z2))).2.2.2 (Int.toNat (Prod.fst (Prod.snd (Prod.snd z2))).2.2.1) []) (1 : Nat) (0 : Int)) (List.getD (List.getD (Prod.fst (Prod.snd (Prod.snd z2))).2.2.2 (Int.toNat (Prod.fst (Prod.snd (Prod.snd z2))).2.2.1) []) (2 : Nat) (0 : Int)) (List.getD (List.getD (Prod.fst (Prod.snd (Prod.snd z2))).2.2.2 (Int.toNat (Prod.fst (Prod.snd (Prod.snd z2))).2.2.1) []) (3 : Nat) (0 : Int)) (Prod.fst (Prod.snd (Prod.snd z2))).2.1)).2.2.1, (val (R06_Out (List.getD (List.getD c (Int.toNat (Prod.fst (Prod.snd (Prod.snd z2))).2.2.1) []) (0 : Nat) (0 : Int)) (List.getD (List.getD c (Int.toNat (Prod.fst (Prod.snd (Prod.snd z2))).2.2.1) []) (1 : Nat) (0 : Int)) (List.getD (List.getD c (Int.toNat (Prod.fst (Prod.snd (Prod.snd z2))).2.2.1) []) (2 : Nat) (0 : Int)) (List.getD (List.getD c (Int.toNat (Prod.fst (Prod.snd (Prod.snd z2))).2.2.1) []) (3 : Nat) (0 : Int)) (List.getD (List.getD c (Int.toNat (Prod.fst (Prod.snd (Prod.snd z2))).2.2.1) []) (4 : Nat) (0 : Int)) (List.getD (List.getD (Prod.fst (Prod.snd (Prod.snd z2))).2.2.2 (Int.toNat (Prod.fst (Prod.snd (Prod.snd z2))).2.2.1) []) (0 : Nat) (0 : Int)) (List.getD (List.getD (Prod.fst (Prod.snd (Prod.snd z2))).2.2.2 (Int.toNat (Prod.fst (Prod.snd (Prod.snd z2))).2.2.1) []) (1 : Nat) (0 : Int)) (List.getD (List.getD (Prod.fst (Prod.snd (Prod.snd z2))).2.2.2 (Int.toNat (Prod.fst (Prod.snd (Prod.snd z2))).2.2.1) []) (2 : Nat) (0 : Int)) (List.getD (List.getD (Prod.fst (Prod.snd (Prod.snd z2))).2.2.2 (Int.toNat (Prod.fst (Prod.snd (Prod.snd z2))).2.2.1) []) (3 : Nat) (0 : Int)) (Prod.fst (Prod.snd (Prod.snd z2))).2.1)).2.2.2.1, (val (R06_Out (List.getD (List.getD c (Int.toNat (Prod.fst (Prod.snd (Prod.snd z2))).2.2.1) []) (0 : Nat) (0 : Int)) (List.getD (List.getD c (Int.toNat (Prod.fst (Prod.snd (Prod.snd z2))).2.2.1) []) (1 : Nat) (0 : Int)) (List.getD (List.getD c (Int.toNat (Prod.fst (Prod.snd (Prod.snd z2))).2.2.1) []) (2 : Nat) (0 : Int)) (List.getD (List.getD c (Int.toNat (Prod.fst (Prod.snd (Prod.snd z2))).2.2.1) []) (3 : Nat) (0 : Int)) (List.getD (List.getD c (Int.toNat (Prod.fst (Prod.snd (Prod.snd z2))).2.2.1) []) (4 : Nat) (0 : Int)) (List.getD (List.getD (Prod.fst (Prod.snd (Prod.snd z2))).2.2.2 (Int.toNat (Prod.fst (Prod.snd (Prod.snd z2))).2.2.1) []) (0 : Nat) (0 : Int)) (List.getD (List.getD (Prod.fst (Prod.snd (Prod.snd z2))).2.2.2 (Int.toNat (Prod.fst (Prod.snd (Prod.snd z2))).2.2.1) []) (1 : Nat) (0 : Int)) (List.getD (List.getD (Prod.fst (Prod.snd (Prod.snd z2))).2.2.2 (Int.toNat (Prod.fst (Prod.snd (Prod.snd z2))).2.2.1) []) (2 : Nat) (0 : Int)) (List.getD (List.getD (Prod.fst (Prod.snd (Prod.snd z2))).2.2.2 (Int.toNat (Prod.fst (Prod.snd (Prod.snd z2))).2.2.1) []) (3 : Nat) (0 : Int)) (Prod.fst (Prod.snd (Prod.snd z2))).2.1)).2.2.2.2.1, (val (R06_Out (List.getD (List.getD c (Int.toNat (Prod.fst (Prod.snd (Prod.snd z2))).2.2.1) []) (0 : Nat) (0 : Int)) (List.getD (List.getD c (Int.toNat (Prod.fst (Prod.snd (Prod.snd z2))).2.2.1) []) (1 : Nat) (0 : Int)) (List.getD (List.getD c (Int.toNat (Prod.fst (Prod.snd (Prod.snd z2))).2.2.1) []) (2 : Nat) (0 : Int)) (List.getD (List.getD c (Int.toNat (Prod.fst (Prod.snd (Prod.snd z2))).2.2.1) []) (3 : Nat) (0 : Int)) (List.getD (List.getD c (Int.toNat (Prod.fst (Prod.snd (Prod.snd z2))).2.2.1) []) (4 : Nat) (0 : Int)) (List.getD (List.getD (Prod.fst (Prod.snd (Prod.snd z2))).2.2.2 (Int.toNat (Prod.fst (Prod.snd (Prod.snd z2))).2.2.1) []) (0 : Nat) (0 : Int)) (List.getD (List.getD (Prod.fst (Prod.snd (Prod.snd z2))).2.2.2 (Int.toNat (Prod.fst (Prod.snd (Prod.snd z2))).2.2.1) []) (1 : Nat) (0 : Int)) (List.getD (List.getD (Prod.fst (Prod.snd (Prod.snd z2))).2.2.2 (Int.toNat (Prod.fst (Prod.snd (Prod.snd z2))).2.2.1) []) (2 : Nat) (0 : Int)) (List.getD (List.getD (Prod.fst (Prod.snd (Prod.snd z2))).2.2.2 (Int.toNat (Prod.fst (Prod.snd (Prod.snd z2))).2.2.1) []) (3 : Nat) (0 : Int)) (Prod.fst (Prod.snd (Prod.snd z2))).2.1)).2.2.2.2.2])), k2), ⟨⟨hz2.1, next_s h⟩⟩, ⟨lt_gs hm2.symm⟩, (by repeat' (first | exact trivial | exact ⟨rfl⟩ | refine And.intro ?_ ?_))⟩
      · refine ob_s h fun h => ?_
        refine ob_s h fun h => ?_
        exact ⟨(Prod.fst z2, Prod.fst (Prod.snd z2), ((Prod.fst (Prod.snd (Prod.snd z2))).1, (val (R06_Out (List.getD (List.getD c (Int.toNat (Prod.fst (Prod.snd (Prod.snd z2))).2.2.1) []) (0 : Nat) (0 : Int)) (List.getD (List.getD c (Int.toNat (Prod.fst (Prod.snd (Prod.snd z2))).2.2.1) []) (1 : Nat) (0 : Int)) (List.getD (List.getD c (Int.toNat (Prod.fst (Prod.snd (Prod.snd z2))).2.2.1) []) (2 : Nat) (0 : Int)) (List.getD (List.getD c (Int.toNat (Prod.fst (Prod.snd (Prod.snd z2))).2.2.1) []) (3 : Nat) (0 : Int)) (List.getD (List.getD c (Int.toNat (Prod.fst (Prod.snd (Prod.snd z2))).2.2.1) []) (4 : Nat) (0 : Int)) (List.getD (List.getD (Prod.fst (Prod.snd (Prod.snd z2))).2.2.2 (Int.toNat (Prod.fst (Prod.snd (Prod.snd z2))).2.2.1) []) (0 : Nat) (0 : Int)) (List.getD (List.getD (Prod.fst (Prod.snd (Prod.snd z2))).2.2.2 (Int.toNat (Prod.fst (Prod.snd (Prod.snd z2))).2.2.1) []) (1 : Nat) (0 : Int)) (List.getD (List.getD (Prod.fst (Prod.snd (Prod.snd z2))).2.2.2 (Int.toNat (Prod.fst (Prod.snd (Prod.snd z2))).2.2.1) []) (2 : Nat) (0 : Int)) (List.getD (List.getD (Prod.fst (Prod.snd (Prod.snd z2))).2.2.2 (Int.toNat (Prod.fst (Prod.snd (Prod.snd z2))).2.2.1) []) (3 : Nat) (0 : Int)) (Prod.fst (Prod.snd (Prod.snd z2))).2.1)).1, IntKind.wrap IntKind.i64 ((Prod.fst (Prod.snd (Prod.snd z2))).2.2.1 + (1 : Int)), List.set (Prod.fst (Prod.snd (Prod.snd z2))).2.2.2 (Int.toNat (Prod.fst (Prod.snd (Prod.snd z2))).2.2.1) (wr (4 : Nat) (List.getD (Prod.fst (Prod.snd (Prod.snd z2))).2.2.2 (Int.toNat (Prod.fst (Prod.snd (Prod.snd z2))).2.2.1) []) (0 : Nat) [(val (R06_Out (List.getD (List.getD c (Int.toNat (Prod.fst (Prod.snd (Prod.snd z2))).2.2.1) []) (0 : Nat) (0 : Int)) (List.getD (List.getD c (Int.toNat (Prod.fst (Prod.snd (Prod.snd z2))).2.2.1) []) (1 : Nat) (0 : Int)) (List.getD (List.getD c (Int.toNat (Prod.fst (Prod.snd (Prod.snd z2))).2.2.1) []) (2 : Nat) (0 : Int)) (List.getD (List.getD c (Int.toNat (Prod.fst (Prod.snd (Prod.snd z2))).2.2.1) []) (3 : Nat) (0 : Int)) (List.getD (List.getD c (Int.toNat (Prod.fst (Prod.snd (Prod.snd z2))).2.2.1) []) (4 : Nat) (0 : Int)) (List.getD (List.getD (Prod.fst (Prod.snd (Prod.snd z2))).2.2.2 (Int.toNat (Prod.fst (Prod.snd (Prod.snd z2))).2.2.1) []) (0 : Nat) (0 : Int)) (List.getD (List.getD (Prod.fst (Prod.snd (Prod.snd z2))).2.2.2 (Int.toNat (Prod.fst (Prod.snd (Prod.snd z2))).2.2.1) []) (1 : Nat) (0 : Int)) (List.getD (List.getD (Prod.fst (Prod.snd (Prod.snd z2))).2.2.2 (Int.toNat (Prod.fst (Prod.snd (Prod.snd z2))).2.2.1) []) (2 : Nat) (0 : Int)) (List.getD (List.getD (Prod.fst (Prod.snd (Prod.snd z2))).2.2.2 (Int.toNat (Prod.fst (Prod.snd (Prod.snd z2))).2.2.1) []) (3 : Nat) (0 : Int)) (Prod.fst (Prod.snd (Prod.snd z2))).2.1)).2.2.1, (val (R06_Out (List.getD (List.getD c (Int.toNat (Prod.fst (Prod.snd (Prod.snd z2))).2.2.1) []) (0 : Nat) (0 : Int)) (List.getD (List.getD c (Int.toNat (Prod.fst (Prod.snd (Prod.snd z2))).2.2.1) []) (1 : Nat) (0 : Int)) (List.getD (List.getD c (Int.toNat (Prod.fst (Prod.snd (Prod.snd z2))).2.2.1) []) (2 : Nat) (0 : Int)) (List.getD (List.getD c (Int.toNat (Prod.fst (Prod.snd (Prod.snd z2))).2.2.1) []) (3 : Nat) (0 : Int)) (List.getD (List.getD c (Int.toNat (Prod.fst (Prod.snd (Prod.snd z2))).2.2.1) []) (4 : Nat) (0 : Int)) (List.getD (List.getD (Prod.fst (Prod.snd (Prod.snd z2))).2.2.2 (Int.toNat (Prod.fst (Prod.snd (Prod.snd z2))).2.2.1) []) (0 : Nat) (0 : Int)) (List.getD (List.getD (Prod.fst (Prod.snd (Prod.snd z2))).2.2.2 (Int.toNat (Prod.fst (Prod.snd (Prod.snd z2))).2.2.1) []) (1 : Nat) (0 : Int)) (List.getD (List.getD (Prod.fst (Prod.snd (Prod.snd z2))).2.2.2 (Int.toNat (Prod.fst (Prod.snd (Prod.snd z2))).2.2.1) []) (2 : Nat) (0 : Int)) (List.getD (List.getD (Prod.fst (Prod.snd (Prod.snd z2))).2.2.2 (Int.toNat (Prod.fst (Prod.snd (Prod.snd z2))).2.2.1) []) (3 : Nat) (0 : Int)) (Prod.fst (Prod.snd (Prod.snd z2))).2.1)).2.2.2.1, (val (R06_Out (List.getD (List.getD c (Int.toNat (Prod.fst (Prod.snd (Prod.snd z2))).2.2.1) []) (0 : Nat) (0 : Int)) (List.getD (List.getD c (Int.toNat (Prod.fst (Prod.snd (Prod.snd z2))).2.2.1) []) (1 : Nat) (0 : Int)) (List.getD (List.getD c (Int.toNat (Prod.fst (Prod.snd (Prod.snd z2))).2.2.1) []) (2 : Nat) (0 : Int)) (List.getD (List.getD c (Int.toNat (Prod.fst (Prod.snd (Prod.snd z2))).2.2.1) []) (3 : Nat) (0 : Int)) (List.getD (List.getD c (Int.toNat (Prod.fst (Prod.snd (Prod.snd z2))).2.2.1) []) (4 : Nat) (0 : Int)) (List.getD (List.getD (Prod.fst (Prod.snd (Prod.snd z2))).2.2.2 (Int.toNat (Prod.fst (Prod.snd (Prod.snd z2))).2.2.1) []) (0 : Nat) (0 : Int)) (List.getD (List.getD (Prod.fst (Prod.snd (Prod.snd z2))).2.2.2 (Int.toNat (Prod.fst (Prod.snd (Prod.snd z2))).2.2.1) []) (1 : Nat) (0 : Int)) (List.getD (List.getD (Prod.fst (Prod.snd (Prod.snd z2))).2.2.2 (Int.toNat (Prod.fst (Prod.snd (Prod.snd z2))).2.2.1) []) (2 : Nat) (0 : Int)) (List.getD (List.getD (Prod.fst (Prod.snd (Prod.snd z2))).2.2.2 (Int.toNat (Prod.fst (Prod.snd (Prod.snd z2))).2.2.1) []) (3 : Nat) (0 : Int)) (Prod.fst (Prod.snd (Prod.snd z2))).2.1)).2.2.2.2.1, (val (R06_Out (List.getD (List.getD c (Int.toNat (Prod.fst (Prod.snd (Prod.snd z2))).2.2.1) []) (0 : Nat) (0 : Int)) (List.getD (List.getD c (Int.toNat (Prod.fst (Prod.snd (Prod.snd z2))).2.2.1) []) (1 : Nat) (0 : Int)) (List.getD (List.getD c (Int.toNat (Prod.fst (Prod.snd (Prod.snd z2))).2.2.1) []) (2 : Nat) (0 : Int)) (List.getD (List.getD c (Int.toNat (Prod.fst (Prod.snd (Prod.snd z2))).2.2.1) []) (3 : Nat) (0 : Int)) (List.getD (List.getD c (Int.toNat (Prod.fst (Prod.snd (Prod.snd z2))).2.2.1) []) (4 : Nat) (0 : Int)) (List.getD (List.getD (Prod.fst (Prod.snd (Prod.snd z2))).2.2.2 (Int.toNat (Prod.fst (Prod.snd (Prod.snd z2))).2.2.1) []) (0 : Nat) (0 : Int)) (List.getD (List.getD (Prod.fst (Prod.snd (Prod.snd z2))).2.2.2 (Int.toNat (Prod.fst (Prod.snd (Prod.snd z2))).2.2.1) []) (1 : Nat) (0 : Int)) (List.getD (List.getD (Prod.fst (Prod.snd (Prod.snd z2))).2.2.2 (Int.toNat (Prod.fst (Prod.snd (Prod.snd z2))).2.2.1) []) (2 : Nat) (0 : Int)) (List.getD (List.getD (Prod.fst (Prod.snd (Prod.snd z2))).2.2.2 (Int.toNat (Prod.fst (Prod.snd (Prod.snd z2))).2.2.1) []) (3 : Nat) (0 : Int)) (Prod.fst (Prod.snd (Prod.snd z2))).2.1)).2.2.2.2.2])), k2), ⟨⟨hz2.1, next_s h⟩⟩, ⟨lt_gs hm2.symm⟩, (by repeat' (first | exact trivial | exact ⟨rfl⟩ | refine And.intro ?_ ?_))⟩
    · have h := exit_s h
      refine ob_s h fun h => ?_
      exact ⟨((((Prod.fst (Prod.snd (Prod.snd z2))).1, (Prod.fst (Prod.snd (Prod.snd z2))).2.1, (Prod.fst (Prod.snd (Prod.snd z2))).2.2.2).1, IntKind.wrap IntKind.i64 ((Prod.fst z2).2.1 + (1 : Int)), ((Prod.fst (Prod.snd (Prod.snd z2))).1, (Prod.fst (Prod.snd (Prod.snd z2))).2.1, (Prod.fst (Prod.snd (Prod.snd z2))).2.2.2).2.2, (Prod.fst z2).2.2.2 ++ [((Prod.fst (Prod.snd (Prod.snd z2))).1, (Prod.fst (Prod.snd (Prod.snd z2))).2.1, (Prod.fst (Prod.snd (Prod.snd z2))).2.2.2).2.1]), Prod.fst (Prod.snd z2)), ⟨next_s h⟩, ⟨lt_gs hz2.1⟩, (by repeat' (first | exact trivial | exact ⟨rfl⟩ | refine And.intro ?_ ?_))⟩
  · have h := exit_s h
    refine ob_t ?_
    refine ob_t ?_
    refine ob_t ?_
    exact ret_s h (fun e => by subst e; exact (by repeat' (first | exact trivial | exact ⟨rfl⟩ | refine And.intro ?_ ?_)))
set_option maxRecDepth 100000 in
theorem R06_Through_ok : SpecOK Try.prog 62 true (pureK k_R06_Through g_R06_Through) := by
  refine pureK_ok (sp := (sp_38 sp0)) (fn := Try.f62) (body := bodyOf Try.f62) mixed (sp_38_ok sp0_ok) Try.func62 (by kernel_rfl) (by kernel_rfl) fun as_ ob rs h ho => ?_
  unfold g_R06_Through at h
  split at h
  · rename_i c l s
    cases h
    exact ⟨Nat.le_of_ble_eq_true rfl, _, _, R06_Through_vc c l s _ (ok_some ho)⟩
  · cases h
theorem sp_62_ok {sp : Specs} (h : SpecsOK Try.prog sp) : SpecsOK Try.prog (sp_62 sp) := addK_ok R06_Through_ok h

def k_R06_CopyStates : List (Option Cont) := [some (.recs 4 [])]
/-- shoebox/shoeboxref06.CopyStates -/
def R06_CopyStates (s : List (List Int)) : Option (List (List Int)) :=
  if ((0 : Nat) + List.length s) * (32 : Nat) ≤ (140737488355328 : Nat) ∧ (0 : Nat) + List.length s ≤ (9223372036854775807 : Nat) then
   some ([] ++ s)
  else none
def g_R06_CopyStates : List A → Option (Prop × List RV)
  | [.r (.recs 4 s)] => some (ok (R06_CopyStates s), [.row 60 (.recs 4 ((val (R06_CopyStates s))))])
  | _ => none
abbrev sp_69 : Specs → Specs := addK 69 true (pureK k_R06_CopyStates g_R06_CopyStates)
set_option maxRecDepth 100000 in
theorem R06_CopyStates_vc (s : List (List Int)) (r : List (List Int)) (h : Option.bind (R06_CopyStates s) some = some r) : runF Try.f69 (sp0) (fun _ _ _ => none) [.r (.recs 4 s)] [.row 60 (.recs 4 r)] := by
  refine Eq.mp (by kernel_rfl : (
  (Ob (((0 : Nat) + List.length s) * (32 : Nat) ≤ (140737488355328 : Nat) ∧ (0 : Nat) + List.length s ≤ (9223372036854775807 : Nat)) ∧
   (Ob (True) ∧
   (Ob ([] ++ s = r) ∧
   True)))) = _) ?_
  refine ob_s h fun h => ?_
  refine ob_t ?_
  exact ret_s h (fun e => by subst e; exact (by repeat' (first | exact trivial | exact ⟨rfl⟩ | refine And.intro ?_ ?_)))
set_option maxRecDepth 100000 in
theorem R06_CopyStates_ok : SpecOK Try.prog 69 true (pureK k_R06_CopyStates g_R06_CopyStates) := by
  refine pureK_ok (sp := sp0) (fn := Try.f69) (body := bodyOf Try.f69) mixed sp0_ok Try.func69 (by kernel_rfl) (by kernel_rfl) fun as_ ob rs h ho => ?_
  unfold g_R06_CopyStates at h
  split at h
  · rename_i s
    cases h
    exact ⟨Nat.le_of_ble_eq_true rfl, _, _, R06_CopyStates_vc s _ (ok_some ho)⟩
  · cases h
theorem sp_69_ok {sp : Specs} (h : SpecsOK Try.prog sp) : SpecsOK Try.prog (sp_69 sp) := addK_ok R06_CopyStates_ok h

def k_F_NewState : List (Option Cont) := [some (.recs 5 [])]
/-- shoebox/filter.NewState -/
def F_NewState (c : List (List Int)) : Option (List (List Int) × Int) :=
  if List.length c ≤ (1000000000 : Nat) then
   if (Sx06.chkE c != (0 : Int)) = true then
   some ([], Sx06.chkE c)
   else
   if (0 : Int) ≤ (↑(List.length c) : Int) ∧ (↑(List.length c) : Int) = (↑(List.length c) : Int) ∧ (↑(32 : Nat) : Int) * (↑(List.length c) : Int) ≤ (281474976710656 : Int) ∧ (↑(List.length c) : Int) ≤ (9223372036854775807 : Int) then
   some ((List.replicate (Int.toNat (↑(List.length c) : Int)) [(0 : Int), (0 : Int), (0 : Int), (0 : Int)], (0 : Int)))
   else none
  else none
def g_F_NewState : List A → Option (Prop × List RV)
  | [.r (.recs 5 c)] => some (ok (F_NewState c), [.row 60 (.recs 4 ((val (F_NewState c)).1)), .d (.i .i64 ((val (F_NewState c)).2))])
  | _ => none
abbrev sp_70 : Specs → Specs := addK 70 true (pureK k_F_NewState g_F_NewState)
set_option maxRecDepth 100000 in
theorem F_NewState_vc (c : List (List Int)) (r : List (List Int) × Int) (h : Option.bind (F_NewState c) some = some r) : runF Try.f70 ((sp_86 sp0)) (fun _ _ _ => none) [.r (.recs 5 c)] [.row 60 (.recs 4 r.1), .d (.i .i64 r.2)] := by
  refine Eq.mp (by kernel_rfl : (
  (Ob (List.length c ≤ (1000000000 : Nat)) ∧
   Br (Sx06.chkE c != (0 : Int))
   ((Ob (True) ∧
   (Ob (True) ∧
   (Ob (List.length r.1 = (0 : Nat)) ∧
   (Ob (Sx06.chkE c = r.2) ∧
   True)))))
   ((Ob ((0 : Int) ≤ (↑(List.length c) : Int) ∧ (↑(List.length c) : Int) = (↑(List.length c) : Int) ∧ (↑(32 : Nat) : Int) * (↑(List.length c) : Int) ≤ (281474976710656 : Int) ∧ (↑(List.length c) : Int) ≤ (9223372036854775807 : Int)) ∧
   (Ob (True) ∧
   (Ob (True) ∧
   (Ob (List.replicate (Int.toNat (↑(List.length c) : Int)) [(0 : Int), (0 : Int), (0 : Int), (0 : Int)] = r.1) ∧
   (Ob ((0 : Int) = r.2) ∧
   True)))))))) = _) ?_
  refine ob_s h fun h => ?_
  refine br_b h (fun h => ?_) (fun h => ?_)
  · refine ob_t ?_
    refine ob_t ?_
    exact ret_s h (fun e => by subst e; exact (by repeat' (first | exact trivial | exact ⟨rfl⟩ | refine And.intro ?_ ?_)))
  · refine ob_s h fun h => ?_
    refine ob_t ?_
    refine ob_t ?_
    exact ret_s h (fun e => by subst e; exact (by repeat' (first | exact trivial | exact ⟨rfl⟩ | refine And.intro ?_ ?_)))
set_option maxRecDepth 100000 in
theorem F_NewState_ok : SpecOK Try.prog 70 true (pureK k_F_NewState g_F_NewState) := by
  refine pureK_ok (sp := (sp_86 sp0)) (fn := Try.f70) (body := bodyOf Try.f70) mixed (sp_86_ok sp0_ok) Try.func70 (by kernel_rfl) (by kernel_rfl) fun as_ ob rs h ho => ?_
  unfold g_F_NewState at h
  split at h
  · rename_i c
    cases h
    exact ⟨Nat.le_of_ble_eq_true rfl, _, _, F_NewState_vc c _ (ok_some ho)⟩
  · cases h
theorem sp_70_ok {sp : Specs} (h : SpecsOK Try.prog sp) : SpecsOK Try.prog (sp_70 sp) := addK_ok F_NewState_ok h

def k_F_CheckState : List (Option Cont) := [some (.recs 5 []), some (.recs 4 [])]
def F_CheckState_b0 (s : List (List Int)) (x0 : Int) : Option (Int ⊕ (Int ⊕ Unit)) :=
  if x0 < (↑(List.length s) : Int) then
   if (0 : Int) ≤ x0 ∧ x0 < (↑(List.length s) : Int) then
   if Int.toNat x0 < List.length s then
   if (!(decide ((-32767 : Int) ≤ List.getD (List.getD s (Int.toNat x0) []) (0 : Nat) (0 : Int)) && decide (List.getD (List.getD s (Int.toNat x0) []) (0 : Nat) (0 : Int) ≤ (32767 : Int)))) = true then
   some (.inr (.inl x0))
   else
   if (!(decide ((-32767 : Int) ≤ List.getD (List.getD s (Int.toNat x0) []) (1 : Nat) (0 : Int)) && decide (List.getD (List.getD s (Int.toNat x0) []) (1 : Nat) (0 : Int) ≤ (32767 : Int)))) = true then
   some (.inr (.inl x0))
   else
   if (!(decide ((-32767 : Int) ≤ List.getD (List.getD s (Int.toNat x0) []) (2 : Nat) (0 : Int)) && decide (List.getD (List.getD s (Int.toNat x0) []) (2 : Nat) (0 : Int) ≤ (32767 : Int)))) = true then
   some (.inr (.inl x0))
   else
   if (!(decide ((-32767 : Int) ≤ List.getD (List.getD s (Int.toNat x0) []) (3 : Nat) (0 : Int)) && decide (List.getD (List.getD s (Int.toNat x0) []) (3 : Nat) (0 : Int) ≤ (32767 : Int)))) = true then
   some (.inr (.inl x0))
   else
   some (.inl (IntKind.wrap IntKind.i64 (x0 + (1 : Int))))
   else none
   else none
  else
   some (.inr ((.inr ())))
def F_CheckState_r0_0 (y0_0 : Int) : Option (Int × Int) :=
  some ((y0_0, (2 : Int)))
def F_CheckState_r0_1 (y0_1 : Unit) : Option (Int × Int) :=
  some (((0 : Int), (0 : Int)))
def F_CheckState_r0 : (Int ⊕ Unit) → Option (Int × Int) :=
  (Sum.elim (F_CheckState_r0_0) (F_CheckState_r0_1))
/-- shoebox/filter.CheckState -/
def F_CheckState (c : List (List Int)) (s : List (List Int)) : Option (Int × Int) :=
  if List.length c ≤ (1000000000 : Nat) then
   if List.length [Sx06.chkE c, if ((↑(List.length s) : Int) == (↑(List.length c) : Int)) = true then (0 : Int) else (10 : Int)] ≤ (1000000 : Nat) then
   if (Option.getD (List.find? (fun x => x != (0 : Int)) [Sx06.chkE c, if ((↑(List.length s) : Int) == (↑(List.length c) : Int)) = true then (0 : Int) else (10 : Int)]) (0 : Int) != (0 : Int)) = true then
   some (((0 : Int), Option.getD (List.find? (fun x => x != (0 : Int)) [Sx06.chkE c, if ((↑(List.length s) : Int) == (↑(List.length c) : Int)) = true then (0 : Int) else (10 : Int)]) (0 : Int)))
   else
   Option.bind (iter (F_CheckState_b0 s) big (0 : Int)) (F_CheckState_r0)
   else none
  else none
def g_F_CheckState : List A → Option (Prop × List RV)
  | [.r (.recs 5 c), .r (.recs 4 s)] => some (ok (F_CheckState c s), [.d (.i .i64 ((val (F_CheckState c s)).1)), .d (.i .i64 ((val (F_CheckState c s)).2))])
  | _ => none
abbrev sp_71 : Specs → Specs := addK 71 true (pureK k_F_CheckState g_F_CheckState)
set_option maxRecDepth 100000 in
theorem F_CheckState_vc (c : List (List Int)) (s : List (List Int)) (r : Int × Int) (h : Option.bind (F_CheckState c s) some = some r) : runF Try.f71 ((sp_86 (sp_87 (sp_85 (sp_91 sp0))))) (fun gs id _ => match id with
 | 0 => some ⟨Int × Nat, fun z => ⟨[(24, .w (.c (.o 1))), (25, .w (.c (.d (.i .i64 ((↑(List.length s) : Int)))))), (26, .w (.c (.d (.i .i64 (Prod.fst z)))))], [(1, .ext (.recs 4 s))], 2⟩, fun z => Option.bind (iter (F_CheckState_b0 s) (Prod.snd z) (Prod.fst z)) (fun y0 => Option.bind (F_CheckState_r0 y0) some) = some r, fun z => Prod.snd z⟩
 | _ => none) [.r (.recs 5 c), .r (.recs 4 s)] [.d (.i .i64 r.1), .d (.i .i64 r.2)] := by
  refine Eq.mp (by kernel_rfl : (
  (Ob (List.length c ≤ (1000000000 : Nat)) ∧
   (Ob (True) ∧
   (Ob (List.length [Sx06.chkE c, if ((↑(List.length s) : Int) == (↑(List.length c) : Int)) = true then (0 : Int) else (10 : Int)] ≤ (1000000 : Nat)) ∧
   Br (Option.getD (List.find? (fun x => x != (0 : Int)) [Sx06.chkE c, if ((↑(List.length s) : Int) == (↑(List.length c) : Int)) = true then (0 : Int) else (10 : Int)]) (0 : Int) != (0 : Int))
   ((Ob (True) ∧
   (Ob (True) ∧
   (Ob ((0 : Int) = r.1) ∧
   (Ob (Option.getD (List.find? (fun x => x != (0 : Int)) [Sx06.chkE c, if ((↑(List.length s) : Int) == (↑(List.length c) : Int)) = true then (0 : Int) else (10 : Int)]) (0 : Int) = r.2) ∧
   True)))))
   (((∃ (v0 : Int × Nat), (Ob ((Option.bind (iter (F_CheckState_b0 s) v0.2 v0.1) fun y0 => Option.bind (F_CheckState_r0 y0) some) = some r) ∧
   (Ob ((↑(List.length s) : Int) = (↑(List.length s) : Int)) ∧
   (Ob ((0 : Int) = v0.1) ∧
   (Ob (s = s) ∧
   True))))) ∧
   (∀ (v0 : Int × Nat), ((Option.bind (iter (F_CheckState_b0 s) v0.2 v0.1) fun y0 => Option.bind (F_CheckState_r0 y0) some) = some r →
   Br (decide (v0.1 < (↑(List.length s) : Int)))
   ((Ob ((0 : Int) ≤ v0.1 ∧ v0.1 < (↑(List.length s) : Int)) ∧
   (Ob (Int.toNat v0.1 < List.length s) ∧
   (Ob ((0 : Int) ≤ (0 : Int) ∧ (0 : Int) < (↑(2 : Nat) : Int)) ∧
   (Ob ((0 : Int) ≤ (1 : Int) ∧ (1 : Int) < (↑(2 : Nat) : Int)) ∧
   (Ob ((0 : Int) ≤ (0 : Int) ∧ (0 : Int) < (↑(2 : Nat) : Int)) ∧
   (Ob ((0 : Int) ≤ (1 : Int) ∧ (1 : Int) < (↑(2 : Nat) : Int)) ∧
   (Ob ((0 : Int) ≤ (0 : Int) ∧ (0 : Int) < (↑(4 : Nat) : Int)) ∧
   (Ob ((-9223372036854775807 : Int) ≤ (32767 : Int) ∧ (32767 : Int) ≤ (9223372036854775807 : Int)) ∧
   Br (!(decide ((-32767 : Int) ≤ List.getD (List.getD s (Int.toNat v0.1) []) (0 : Nat) (0 : Int)) && decide (List.getD (List.getD s (Int.toNat v0.1) []) (0 : Nat) (0 : Int) ≤ (32767 : Int))))
   ((Ob (True) ∧
   (Ob (True) ∧
   (Ob (v0.1 = r.1) ∧
   (Ob ((2 : Int) = r.2) ∧
   True)))))
   ((Ob ((0 : Int) ≤ IntKind.wrap IntKind.i64 ((0 : Int) + (1 : Int)) ∧ IntKind.wrap IntKind.i64 ((0 : Int) + (1 : Int)) < (↑(4 : Nat) : Int)) ∧
   (Ob ((-9223372036854775807 : Int) ≤ (32767 : Int) ∧ (32767 : Int) ≤ (9223372036854775807 : Int)) ∧
   Br (!(decide ((-32767 : Int) ≤ List.getD (List.getD s (Int.toNat v0.1) []) (1 : Nat) (0 : Int)) && decide (List.getD (List.getD s (Int.toNat v0.1) []) (1 : Nat) (0 : Int) ≤ (32767 : Int))))
   ((Ob (True) ∧
   (Ob (True) ∧
   (Ob (v0.1 = r.1) ∧
   (Ob ((2 : Int) = r.2) ∧
   True)))))
   ((Ob ((0 : Int) ≤ IntKind.wrap IntKind.i64 (IntKind.wrap IntKind.i64 ((0 : Int) + (1 : Int)) + (1 : Int)) ∧ IntKind.wrap IntKind.i64 (IntKind.wrap IntKind.i64 ((0 : Int) + (1 : Int)) + (1 : Int)) < (↑(4 : Nat) : Int)) ∧
   (Ob ((-9223372036854775807 : Int) ≤ (32767 : Int) ∧ (32767 : Int) ≤ (9223372036854775807 : Int)) ∧
   Br (!(decide ((-32767 : Int) ≤ List.getD (List.getD s (Int.toNat v0.1) []) (2 : Nat) (0 : Int)) && decide (List.getD (List.getD s (Int.toNat v0.1) []) (2 : Nat) (0 : Int) ≤ (32767 : Int))))
   ((Ob (True) ∧
   (Ob (True) ∧
   (Ob (v0.1 = r.1) ∧
   (Ob ((2 : Int) = r.2) ∧
   True)))))
   ((Ob ((0 : Int) ≤ IntKind.wrap IntKind.i64 (IntKind.wrap IntKind.i64 (IntKind.wrap IntKind.i64 ((0 : Int) + (1 : Int)) + (1 : Int)) + (1 : Int)) ∧ IntKind.wrap IntKind.i64 (IntKind.wrap IntKind.i64 (IntKind.wrap IntKind.i64 ((0 : Int) + (1 : Int)) + (1 : Int)) + (1 : Int)) < (↑(4 : Nat) : Int)) ∧
   (Ob ((-9223372036854775807 : Int) ≤ (32767 : Int) ∧ (32767 : Int) ≤ (9223372036854775807 : Int)) ∧
   Br (!(decide ((-32767 : Int) ≤ List.getD (List.getD s (Int.toNat v0.1) []) (3 : Nat) (0 : Int)) && decide (List.getD (List.getD s (Int.toNat v0.1) []) (3 : Nat) (0 : Int) ≤ (32767 : Int))))
   ((Ob (True) ∧
   (Ob (True) ∧
   (Ob (v0.1 = r.1) ∧
   (Ob ((2 : Int) = r.2) ∧
   True)))))
   ((∃ (v1 : Int × Nat), (Ob ((Option.bind (iter (F_CheckState_b0 s) v1.2 v1.1) fun y0 => Option.bind (F_CheckState_r0 y0) some) = some r) ∧
   (Ob (v1.2 < v0.2) ∧
   (Ob ((↑(List.length s) : Int) = (↑(List.length s) : Int)) ∧
   (Ob (IntKind.wrap IntKind.i64 (v0.1 + (1 : Int)) = v1.1) ∧
   (Ob (s = s) ∧
   True)))))))))))))))))))))))))
   ((Ob (True) ∧
   (Ob (True) ∧
   (Ob ((0 : Int) = r.1) ∧
   (Ob ((0 : Int) = r.2) ∧
   True))))))))))))) = _) ?_
  refine ob_s h fun h => ?_
  refine ob_t ?_
  refine ob_s h fun h => ?_
  refine br_b h (fun h => ?_) (fun h => ?_)
  · refine ob_t ?_
    refine ob_t ?_
    exact ret_s h (fun e => by subst e; exact (by repeat' (first | exact trivial | exact ⟨rfl⟩ | refine And.intro ?_ ?_)))
  · refine ⟨⟨((0 : Int), big), ⟨loop_s h⟩, (by repeat' (first | exact trivial | exact ⟨rfl⟩ | refine And.intro ?_ ?_))⟩, fun z0 hz0 => ?_⟩
    obtain ⟨k0, hm0, h⟩ := iter_pos hz0
    refine br_d h (fun h => ?_) (fun h => ?_)
    · refine ob_s h fun h => ?_
      refine ob_s h fun h => ?_
      refine ob_c (p := (0 : Int) ≤ (0 : Int) ∧ (0 : Int) < (↑(2 : Nat) : Int)) (by decide) ?_
      refine ob_c (p := (0 : Int) ≤ (1 : Int) ∧ (1 : Int) < (↑(2 : Nat) : Int)) (by decide) ?_
      refine ob_c (p := (0 : Int) ≤ (0 : Int) ∧ (0 : Int) < (↑(2 : Nat) : Int)) (by decide) ?_
      refine ob_c (p := (0 : Int) ≤ (1 : Int) ∧ (1 : Int) < (↑(2 : Nat) : Int)) (by decide) ?_
      refine ob_c (p := (0 : Int) ≤ (0 : Int) ∧ (0 : Int) < (↑(4 : Nat) : Int)) (by decide) ?_
      refine ob_c (p := (-9223372036854775807 : Int) ≤ (32767 : Int) ∧ (32767 : Int) ≤ (9223372036854775807 : Int)) (by decide) ?_
      refine br_b h (fun h => ?_) (fun h => ?_)
      · have h := exit_s h
        refine ob_t ?_
        refine ob_t ?_
        exact ret_s h (fun e => by subst e; exact (by repeat' (first | exact trivial | exact ⟨rfl⟩ | refine And.intro ?_ ?_)))
      · refine ob_c (p := (0 : Int) ≤ IntKind.wrap IntKind.i64 ((0 : Int) + (1 : Int)) ∧ IntKind.wrap IntKind.i64 ((0 : Int) + (1 : Int)) < (↑(4 : Nat) : Int)) (by decide) ?_
        refine ob_c (p := (-9223372036854775807 : Int) ≤ (32767 : Int) ∧ (32767 : Int) ≤ (9223372036854775807 : Int)) (by decide) ?_
        refine br_b h (fun h => ?_) (fun h => ?_)
        · have h := exit_s h
          refine ob_t ?_
          refine ob_t ?_
          exact ret_s h (fun e => by subst e; exact (by repeat' (first | exact trivial | exact ⟨rfl⟩ | refine And.intro ?_ ?_)))
        · refine ob_c (p := (0 : Int) ≤ IntKind.wrap IntKind.i64 (IntKind.wrap IntKind.i64 ((0 : Int) + (1 : Int)) + (1 : Int)) ∧ IntKind.wrap IntKind.i64 (IntKind.wrap IntKind.i64 ((0 : Int) + (1 : Int)) + (1 : Int)) < (↑(4 : Nat) : Int)) (by decide) ?_
          refine ob_c (p := (-9223372036854775807 : Int) ≤ (32767 : Int) ∧ (32767 : Int) ≤ (9223372036854775807 : Int)) (by decide) ?_
          refine br_b h (fun h => ?_) (fun h => ?_)
          · have h := exit_s h
            refine ob_t ?_
            refine ob_t ?_
            exact ret_s h (fun e => by subst e; exact (by repeat' (first | exact trivial | exact ⟨rfl⟩ | refine And.intro ?_ ?_)))
          · refine ob_c (p := (0 : Int) ≤ IntKind.wrap IntKind.i64 (IntKind.wrap IntKind.i64 (IntKind.wrap IntKind.i64 ((0 : Int) + (1 : Int)) + (1 : Int)) + (1 : Int)) ∧ IntKind.wrap IntKind.i64 (IntKind.wrap IntKind.i64 (IntKind.wrap IntKind.i64 ((0 : Int) + (1 : Int)) + (1 : Int)) + (1 : Int)) < (↑(4 : Nat) : Int)) (by decide) ?_
            refine ob_c (p := (-9223372036854775807 : Int) ≤ (32767 : Int) ∧ (32767 : Int) ≤ (9223372036854775807 : Int)) (by decide) ?_
            refine br_b h (fun h => ?_) (fun h => ?_)
            · have h := exit_s h
              refine ob_t ?_
              refine ob_t ?_
              exact ret_s h (fun e => by subst e; exact (by repeat' (first | exact trivial | exact ⟨rfl⟩ | refine And.intro ?_ ?_)))
            · exact ⟨(IntKind.wrap IntKind.i64 (Prod.fst z0 + (1 : Int)), k0), ⟨next_s h⟩, ⟨lt_gs hm0.symm⟩, (by repeat' (first | exact trivial | exact ⟨rfl⟩ | refine And.intro ?_ ?_))⟩
    · have h := exit_s h
      refine ob_t ?_
      refine ob_t ?_
      exact ret_s h (fun e => by subst e; exact (by repeat' (first | exact trivial | exact ⟨rfl⟩ | refine And.intro ?_ ?_)))
set_option maxRecDepth 100000 in
theorem F_CheckState_ok : SpecOK Try.prog 71 true (pureK k_F_CheckState g_F_CheckState) := by
  refine pureK_ok (sp := (sp_86 (sp_87 (sp_85 (sp_91 sp0))))) (fn := Try.f71) (body := bodyOf Try.f71) mixed (sp_86_ok (sp_87_ok (sp_85_ok (sp_91_ok sp0_ok)))) Try.func71 (by kernel_rfl) (by kernel_rfl) fun as_ ob rs h ho => ?_
  unfold g_F_CheckState at h
  split at h
  · rename_i c s
    cases h
    exact ⟨Nat.le_of_ble_eq_true rfl, _, _, F_CheckState_vc c s _ (ok_some ho)⟩
  · cases h
theorem sp_71_ok {sp : Specs} (h : SpecsOK Try.prog sp) : SpecsOK Try.prog (sp_71 sp) := addK_ok F_CheckState_ok h

def k_R06_CheckState : List (Option Cont) := [some (.recs 5 []), some (.recs 4 [])]
def R06_CheckState_b0 (s : List (List Int)) (x0 : Int) : Option (Int ⊕ (Int ⊕ Unit)) :=
  if x0 < (↑(List.length s) : Int) then
   if (0 : Int) ≤ x0 ∧ x0 < (↑(List.length s) : Int) then
   if Int.toNat x0 < List.length s then
   Option.bind (R06_isSample (List.getD (List.getD s (Int.toNat x0) []) (0 : Nat) (0 : Int))) fun r0 =>
   if (!r0) = true then
   some (.inr (.inl x0))
   else
   if (0 : Int) ≤ x0 ∧ x0 < (↑(List.length s) : Int) then
   if Int.toNat x0 < List.length s then
   Option.bind (R06_isSample (List.getD (List.getD s (Int.toNat x0) []) (1 : Nat) (0 : Int))) fun r1 =>
   if (!r1) = true then
   some (.inr (.inl x0))
   else
   if (0 : Int) ≤ x0 ∧ x0 < (↑(List.length s) : Int) then
   if Int.toNat x0 < List.length s then
   Option.bind (R06_isSample (List.getD (List.getD s (Int.toNat x0) []) (2 : Nat) (0 : Int))) fun r2 =>
   if (!r2) = true then
   some (.inr (.inl x0))
   else
   if (0 : Int) ≤ x0 ∧ x0 < (↑(List.length s) : Int) then
   if Int.toNat x0 < List.length s then
   Option.bind (R06_isSample (List.getD (List.getD s (Int.toNat x0) []) (3 : Nat) (0 : Int))) fun r3 =>
   if (!r3) = true then
   some (.inr (.inl x0))
   else
   some (.inl (IntKind.wrap IntKind.i64 (x0 + (1 : Int))))
   else none
   else none
   else none
   else none
   else none
   else none
   else none
   else none
  else
   some (.inr ((.inr ())))
def R06_CheckState_r0_0 (y0_0 : Int) : Option (Int × Int) :=
  some ((y0_0, (2 : Int)))
def R06_CheckState_r0_1 (y0_1 : Unit) : Option (Int × Int) :=
  some (((0 : Int), (0 : Int)))
def R06_CheckState_r0 : (Int ⊕ Unit) → Option (Int × Int) :=
  (Sum.elim (R06_CheckState_r0_0) (R06_CheckState_r0_1))
/-- shoebox/shoeboxref06.CheckState -/
def R06_CheckState (c : List (List Int)) (s : List (List Int)) : Option (Int × Int) :=
  if ((↑(List.length s) : Int) != (↑(List.length c) : Int)) = true then
   some (((0 : Int), (10 : Int)))
  else
   Option.bind (iter (R06_CheckState_b0 s) big (0 : Int)) (R06_CheckState_r0)
def g_R06_CheckState : List A → Option (Prop × List RV)
  | [.r (.recs 5 c), .r (.recs 4 s)] => some (ok (R06_CheckState c s), [.d (.i .i64 ((val (R06_CheckState c s)).1)), .d (.i .i64 ((val (R06_CheckState c s)).2))])
  | _ => none
abbrev sp_73 : Specs → Specs := addK 73 true (pureK k_R06_CheckState g_R06_CheckState)
set_option maxRecDepth 100000 in
theorem R06_CheckState_vc (c : List (List Int)) (s : List (List Int)) (r : Int × Int) (h : Option.bind (R06_CheckState c s) some = some r) : runF Try.f73 ((sp_93 sp0)) (fun gs id _ => match id with
 | 0 => some ⟨Int × Nat, fun z => ⟨[(1, .w (.c (.o 1))), (6, .w (.c (.d (.i .i64 (Prod.fst z)))))], [(1, .ext (.recs 4 s))], 2⟩, fun z => Option.bind (iter (R06_CheckState_b0 s) (Prod.snd z) (Prod.fst z)) (fun y0 => Option.bind (R06_CheckState_r0 y0) some) = some r, fun z => Prod.snd z⟩
 | _ => none) [.r (.recs 5 c), .r (.recs 4 s)] [.d (.i .i64 r.1), .d (.i .i64 r.2)] := by
  refine Eq.mp (by kernel_rfl : (
  Br ((↑(List.length s) : Int) != (↑(List.length c) : Int))
   ((Ob (True) ∧
   (Ob (True) ∧
   (Ob ((0 : Int) = r.1) ∧
   (Ob ((10 : Int) = r.2) ∧
   True)))))
   (((∃ (v0 : Int × Nat), (Ob ((Option.bind (iter (R06_CheckState_b0 s) v0.2 v0.1) fun y0 => Option.bind (R06_CheckState_r0 y0) some) = some r) ∧
   (Ob ((0 : Int) = v0.1) ∧
   (Ob (s = s) ∧
   True)))) ∧
   (∀ (v0 : Int × Nat), ((Option.bind (iter (R06_CheckState_b0 s) v0.2 v0.1) fun y0 => Option.bind (R06_CheckState_r0 y0) some) = some r →
   Br (decide (v0.1 < (↑(List.length s) : Int)))
   ((Ob ((0 : Int) ≤ v0.1 ∧ v0.1 < (↑(List.length s) : Int)) ∧
   (Ob ((0 : Int) ≤ (0 : Int) ∧ (0 : Int) < (↑(2 : Nat) : Int)) ∧
   (Ob (Int.toNat v0.1 < List.length s) ∧
   (Ob (ok (R06_isSample (List.getD (List.getD s (Int.toNat v0.1) []) (0 : Nat) (0 : Int)))) ∧
   Br (!val (R06_isSample (List.getD (List.getD s (Int.toNat v0.1) []) (0 : Nat) (0 : Int))))
   ((Ob (True) ∧
   (Ob (True) ∧
   (Ob (v0.1 = r.1) ∧
   (Ob ((2 : Int) = r.2) ∧
   True)))))
   ((Ob ((0 : Int) ≤ v0.1 ∧ v0.1 < (↑(List.length s) : Int)) ∧
   (Ob ((0 : Int) ≤ (1 : Int) ∧ (1 : Int) < (↑(2 : Nat) : Int)) ∧
   (Ob (Int.toNat v0.1 < List.length s) ∧
   (Ob (ok (R06_isSample (List.getD (List.getD s (Int.toNat v0.1) []) (1 : Nat) (0 : Int)))) ∧
   Br (!val (R06_isSample (List.getD (List.getD s (Int.toNat v0.1) []) (1 : Nat) (0 : Int))))
   ((Ob (True) ∧
   (Ob (True) ∧
   (Ob (v0.1 = r.1) ∧
   (Ob ((2 : Int) = r.2) ∧
   True)))))
   ((Ob ((0 : Int) ≤ v0.1 ∧ v0.1 < (↑(List.length s) : Int)) ∧
   (Ob ((0 : Int) ≤ (0 : Int) ∧ (0 : Int) < (↑(2 : Nat) : Int)) ∧
   (Ob (Int.toNat v0.1 < List.length s) ∧
   (Ob (ok (R06_isSample (List.getD (List.getD s (Int.toNat v0.1) []) (2 : Nat) (0 : Int)))) ∧
   Br (!val (R06_isSample (List.getD (List.getD s (Int.toNat v0.1) []) (2 : Nat) (0 : Int))))
   ((Ob (True) ∧
   (Ob (True) ∧
   (Ob (v0.1 = r.1) ∧
   (Ob ((2 : Int) = r.2) ∧
   True)))))
   ((Ob ((0 : Int) ≤ v0.1 ∧ v0.1 < (↑(List.length s) : Int)) ∧
   (Ob ((0 : Int) ≤ (1 : Int) ∧ (1 : Int) < (↑(2 : Nat) : Int)) ∧
   (Ob (Int.toNat v0.1 < List.length s) ∧
   (Ob (ok (R06_isSample (List.getD (List.getD s (Int.toNat v0.1) []) (3 : Nat) (0 : Int)))) ∧
   Br (!val (R06_isSample (List.getD (List.getD s (Int.toNat v0.1) []) (3 : Nat) (0 : Int))))
   ((Ob (True) ∧
   (Ob (True) ∧
   (Ob (v0.1 = r.1) ∧
   (Ob ((2 : Int) = r.2) ∧
   True)))))
   ((∃ (v1 : Int × Nat), (Ob ((Option.bind (iter (R06_CheckState_b0 s) v1.2 v1.1) fun y0 => Option.bind (R06_CheckState_r0 y0) some) = some r) ∧
   (Ob (v1.2 < v0.2) ∧
   (Ob (IntKind.wrap IntKind.i64 (v0.1 + (1 : Int)) = v1.1) ∧
   (Ob (s = s) ∧
   True))))))))))))))))))))))))))
   ((Ob (True) ∧
   (Ob (True) ∧
   (Ob ((0 : Int) = r.1) ∧
   (Ob ((0 : Int) = r.2) ∧
   True)))))))))) = _) ?_
  refine br_b h (fun h => ?_) (fun h => ?_)
  · refine ob_t ?_
    refine ob_t ?_
    exact ret_s h (fun e => by subst e; exact (by repeat' (first | exact trivial | exact ⟨rfl⟩ | refine And.intro ?_ ?_)))
  · refine ⟨⟨((0 : Int), big), ⟨loop_s h⟩, (by repeat' (first | exact trivial | exact ⟨rfl⟩ | refine And.intro ?_ ?_))⟩, fun z4 hz4 => ?_⟩
    obtain ⟨k4, hm4, h⟩ := iter_pos hz4
    refine br_d h (fun h => ?_) (fun h => ?_)
    · refine ob_s h fun h => ?_
      refine ob_c (p := (0 : Int) ≤ (0 : Int) ∧ (0 : Int) < (↑(2 : Nat) : Int)) (by decide) ?_
      refine ob_s h fun h => ?_
      refine call_s h fun h => ?_
      refine br_b h (fun h => ?_) (fun h => ?_)
      · have h := exit_s h
        refine ob_t ?_
        refine ob_t ?_
        exact ret_s h (fun e => by subst e; exact (by repeat' (first | exact trivial | exact ⟨rfl⟩ | refine And.intro ?_ ?_)))
      · refine ob_s h fun h => ?_
        refine ob_c (p := (0 : Int) ≤ (1 : Int) ∧ (1 : Int) < (↑(2 : Nat) : Int)) (by decide) ?_
        refine ob_s h fun h => ?_
        refine call_s h fun h => ?_
        refine br_b h (fun h => ?_) (fun h => ?_)
        · have h := exit_s h
          refine ob_t ?_
          refine ob_t ?_
          exact ret_s h (fun e => by subst e; exact (by repeat' (first | exact trivial | exact ⟨rfl⟩ | refine And.intro ?_ ?_)))
        · refine ob_s h fun h => ?_
          refine ob_c (p := (0 : Int) ≤ (0 : Int) ∧ (0 : Int) < (↑(2 : Nat) : Int)) (by decide) ?_
          refine ob_s h fun h => ?_
          refine call_s h fun h => ?_
          refine br_b h (fun h => ?_) (fun h => ?_)
          · have h := exit_s h
            refine ob_t ?_
            refine ob_t ?_
            exact ret_s h (fun e => by subst e; exact (by repeat' (first | exact trivial | exact ⟨rfl⟩ | refine And.intro ?_ ?_)))
          · refine ob_s h fun h => ?_
            refine ob_c (p := (0 : Int) ≤ (1 : Int) ∧ (1 : Int) < (↑(2 : Nat) : Int)) (by decide) ?_
            refine ob_s h fun h => ?_
            refine call_s h fun h => ?_
            refine br_b h (fun h => ?_) (fun h => ?_)
            · have h := exit_s h
              refine ob_t ?_
              refine ob_t ?_
              exact ret_s h (fun e => by subst e; exact (by repeat' (first | exact trivial | exact ⟨rfl⟩ | refine And.intro ?_ ?_)))
            · exact ⟨(IntKind.wrap IntKind.i64 (Prod.fst z4 + (1 : Int)), k4), ⟨next_s h⟩, ⟨lt_gs hm4.symm⟩, (by repeat' (first | exact trivial | exact ⟨rfl⟩ | refine And.intro ?_ ?_))⟩
    · have h := exit_s h
      refine ob_t ?_
      refine ob_t ?_
      exact ret_s h (fun e => by subst e; exact (by repeat' (first | exact trivial | exact ⟨rfl⟩ | refine And.intro ?_ ?_)))
set_option maxRecDepth 100000 in
theorem R06_CheckState_ok : SpecOK Try.prog 73 true (pureK k_R06_CheckState g_R06_CheckState) := by
  refine pureK_ok (sp := (sp_93 sp0)) (fn := Try.f73) (body := bodyOf Try.f73) mixed (sp_93_ok sp0_ok) Try.func73 (by kernel_rfl) (by kernel_rfl) fun as_ ob rs h ho => ?_
  unfold g_R06_CheckState at h
  split at h
  · rename_i c s
    cases h
    exact ⟨Nat.le_of_ble_eq_true rfl, _, _, R06_CheckState_vc c s _ (ok_some ho)⟩
  · cases h
theorem sp_73_ok {sp : Specs} (h : SpecsOK Try.prog sp) : SpecsOK Try.prog (sp_73 sp) := addK_ok R06_CheckState_ok h

def k_R06_SameStates : List (Option Cont) := [some (.recs 4 []), some (.recs 4 [])]
def R06_SameStates_b0 (a : List (List Int)) (b : List (List Int)) (x0 : Int) : Option (Int ⊕ (Unit ⊕ Unit)) :=
  if x0 < (↑(List.length a) : Int) then
   if (0 : Int) ≤ x0 ∧ x0 < (↑(List.length a) : Int) then
   if Int.toNat x0 < List.length a then
   if (0 : Int) ≤ x0 ∧ x0 < (↑(List.length b) : Int) then
   if Int.toNat x0 < List.length b then
   if (!(List.getD (List.getD a (Int.toNat x0) []) (0 : Nat) (0 : Int) == List.getD (List.getD b (Int.toNat x0) []) (0 : Nat) (0 : Int) && List.getD (List.getD a (Int.toNat x0) []) (1 : Nat) (0 : Int) == List.getD (List.getD b (Int.toNat x0) []) (1 : Nat) (0 : Int) && (List.getD (List.getD a (Int.toNat x0) []) (2 : Nat) (0 : Int) == List.getD (List.getD b (Int.toNat x0) []) (2 : Nat) (0 : Int) && List.getD (List.getD a (Int.toNat x0) []) (3 : Nat) (0 : Int) == List.getD (List.getD b (Int.toNat x0) []) (3 : Nat) (0 : Int)))) = true then
   some (.inr ((.inl ())))
   else
   some (.inl (IntKind.wrap IntKind.i64 (x0 + (1 : Int))))
   else none
   else none
   else none
   else none
  else
   some (.inr ((.inr ())))
def R06_SameStates_r0_0 (y0_0 : Unit) : Option Bool :=
  some false
def R06_SameStates_r0_1 (y0_1 : Unit) : Option Bool :=
  some true
def R06_SameStates_r0 : (Unit ⊕ Unit) → Option Bool :=
  (Sum.elim (R06_SameStates_r0_0) (R06_SameStates_r0_1))
/-- shoebox/shoeboxref06.SameStates -/
def R06_SameStates (a : List (List Int)) (b : List (List Int)) : Option Bool :=
  if ((↑(List.length a) : Int) != (↑(List.length b) : Int)) = true then
   some false
  else
   Option.bind (iter (R06_SameStates_b0 a b) big (0 : Int)) (R06_SameStates_r0)
def g_R06_SameStates : List A → Option (Prop × List RV)
  | [.r (.recs 4 a), .r (.recs 4 b)] => some (ok (R06_SameStates a b), [.d (.b ((val (R06_SameStates a b))))])
  | _ => none
abbrev sp_74 : Specs → Specs := addK 74 true (pureK k_R06_SameStates g_R06_SameStates)
set_option maxRecDepth 100000 in
theorem R06_SameStates_vc (a : List (List Int)) (b : List (List Int)) (r : Bool) (h : Option.bind (R06_SameStates a b) some = some r) : runF Try.f74 (sp0) (fun gs id _ => match id with
 | 0 => some ⟨Int × Nat, fun z => ⟨[(0, .w (.c (.o 0))), (1, .w (.c (.o 1))), (5, .w (.c (.d (.i .i64 (Prod.fst z)))))], [(0, .ext (.recs 4 a)), (1, .ext (.recs 4 b))], 2⟩, fun z => Option.bind (iter (R06_SameStates_b0 a b) (Prod.snd z) (Prod.fst z)) (fun y0 => Option.bind (R06_SameStates_r0 y0) some) = some r, fun z => Prod.snd z⟩
 | _ => none) [.r (.recs 4 a), .r (.recs 4 b)] [.d (.b r)] := by
  refine Eq.mp (by kernel_rfl : (
  Br ((↑(List.length a) : Int) != (↑(List.length b) : Int))
   ((Ob (True) ∧
   (Ob (false = r) ∧
   True)))
   (((∃ (v0 : Int × Nat), (Ob ((Option.bind (iter (R06_SameStates_b0 a b) v0.2 v0.1) fun y0 => Option.bind (R06_SameStates_r0 y0) some) = some r) ∧
   (Ob ((0 : Int) = v0.1) ∧
   (Ob (a = a) ∧
   (Ob (b = b) ∧
   True))))) ∧
   (∀ (v0 : Int × Nat), ((Option.bind (iter (R06_SameStates_b0 a b) v0.2 v0.1) fun y0 => Option.bind (R06_SameStates_r0 y0) some) = some r →
   Br (decide (v0.1 < (↑(List.length a) : Int)))
   ((Ob ((0 : Int) ≤ v0.1 ∧ v0.1 < (↑(List.length a) : Int)) ∧
   (Ob (Int.toNat v0.1 < List.length a) ∧
   (Ob ((0 : Int) ≤ v0.1 ∧ v0.1 < (↑(List.length b) : Int)) ∧
   (Ob (Int.toNat v0.1 < List.length b) ∧
   Br (!(List.getD (List.getD a (Int.toNat v0.1) []) (0 : Nat) (0 : Int) == List.getD (List.getD b (Int.toNat v0.1) []) (0 : Nat) (0 : Int) && List.getD (List.getD a (Int.toNat v0.1) []) (1 : Nat) (0 : Int) == List.getD (List.getD b (Int.toNat v0.1) []) (1 : Nat) (0 : Int) && (List.getD (List.getD a (Int.toNat v0.1) []) (2 : Nat) (0 : Int) == List.getD (List.getD b (Int.toNat v0.1) []) (2 : Nat) (0 : Int) && List.getD (List.getD a (Int.toNat v0.1) []) (3 : Nat) (0 : Int) == List.getD (List.getD b (Int.toNat v0.1) []) (3 : Nat) (0 : Int))))
   ((Ob (True) ∧
   (Ob (false = r) ∧
   True)))
   ((∃ (v1 : Int × Nat), (Ob ((Option.bind (iter (R06_SameStates_b0 a b) v1.2 v1.1) fun y0 => Option.bind (R06_SameStates_r0 y0) some) = some r) ∧
   (Ob (v1.2 < v0.2) ∧
   (Ob (IntKind.wrap IntKind.i64 (v0.1 + (1 : Int)) = v1.1) ∧
   (Ob (a = a) ∧
   (Ob (b = b) ∧
   True))))))))))))
   ((Ob (True) ∧
   (Ob (true = r) ∧
   True)))))))) = _) ?_
  refine br_b h (fun h => ?_) (fun h => ?_)
  · refine ob_t ?_
    exact ret_s h (fun e => by subst e; exact (by repeat' (first | exact trivial | exact ⟨rfl⟩ | refine And.intro ?_ ?_)))
  · refine ⟨⟨((0 : Int), big), ⟨loop_s h⟩, (by repeat' (first | exact trivial | exact ⟨rfl⟩ | refine And.intro ?_ ?_))⟩, fun z0 hz0 => ?_⟩
    obtain ⟨k0, hm0, h⟩ := iter_pos hz0
    refine br_d h (fun h => ?_) (fun h => ?_)
    · refine ob_s h fun h => ?_
      refine ob_s h fun h => ?_
      refine ob_s h fun h => ?_
      refine ob_s h fun h => ?_
      refine br_b h (fun h => ?_) (fun h => ?_)
      · have h := exit_s h
        refine ob_t ?_
        exact ret_s h (fun e => by subst e; exact (by repeat' (first | exact trivial | exact ⟨rfl⟩ | refine And.intro ?_ ?_)))
      · exact ⟨(IntKind.wrap IntKind.i64 (Prod.fst z0 + (1 : Int)), k0), ⟨next_s h⟩, ⟨lt_gs hm0.symm⟩, (by repeat' (first | exact trivial | exact ⟨rfl⟩ | refine And.intro ?_ ?_))⟩
    · have h := exit_s h
      refine ob_t ?_
      exact ret_s h (fun e => by subst e; exact (by repeat' (first | exact trivial | exact ⟨rfl⟩ | refine And.intro ?_ ?_)))
set_option maxRecDepth 100000 in
theorem R06_SameStates_ok : SpecOK Try.prog 74 true (pureK k_R06_SameStates g_R06_SameStates) := by
  refine pureK_ok (sp := sp0) (fn := Try.f74) (body := bodyOf Try.f74) mixed sp0_ok Try.func74 (by kernel_rfl) (by kernel_rfl) fun as_ ob rs h ho => ?_
  unfold g_R06_SameStates at h
  split at h
  · rename_i a b
    cases h
    exact ⟨Nat.le_of_ble_eq_true rfl, _, _, R06_SameStates_vc a b _ (ok_some ho)⟩
  · cases h
theorem sp_74_ok {sp : Specs} (h : SpecsOK Try.prog sp) : SpecsOK Try.prog (sp_74 sp) := addK_ok R06_SameStates_ok h

def k_F_sampleErr : List (Option Cont) := [none]
/-- shoebox/filter.sampleErr -/
def F_sampleErr (x_ : Nat) : Option Int :=
  if (Ieee.Format.order (FloatKind.format FloatKind.f32) x_ x_ != some Ordering.eq) = true then
   some (27 : Int)
  else
   if (Option.isSome (Ieee.Format.sub (FloatKind.format FloatKind.f32) x_ x_)) = true then
   if (Ieee.Format.order (FloatKind.format FloatKind.f32) (Option.getD (Ieee.Format.sub (FloatKind.format FloatKind.f32) x_ x_) (0 : Nat)) (0 : Nat) != some Ordering.eq) = true then
   some (27 : Int)
   else
   if (Ieee.Format.order (FloatKind.format FloatKind.f32) x_ (1266679808 : Nat) == some Ordering.gt || Ieee.Format.order (FloatKind.format FloatKind.f32) x_ (1266679808 : Nat) == some Ordering.eq) = true then
   some (2 : Int)
   else
   if (Ieee.Format.order (FloatKind.format FloatKind.f32) x_ (3414163456 : Nat) == some Ordering.lt || Ieee.Format.order (FloatKind.format FloatKind.f32) x_ (3414163456 : Nat) == some Ordering.eq) = true then
   some (2 : Int)
   else
   if f2iOk FloatKind.f32 IntKind.i64 x_ = true then
   if (Ieee.Format.order (FloatKind.format FloatKind.f32) (FloatKind.nearest FloatKind.f32 (f2i FloatKind.f32 x_)) x_ != some Ordering.eq) = true then
   some (27 : Int)
   else
   if f2iOk FloatKind.f32 IntKind.i64 x_ = true then
   some (if (decide ((-32767 : Int) ≤ f2i FloatKind.f32 x_) && decide (f2i FloatKind.f32 x_ ≤ (32767 : Int))) = true then (0 : Int) else (2 : Int))
   else none
   else none
   else
   some (27 : Int)
def g_F_sampleErr : List A → Option (Prop × List RV)
  | [.d (.f .f32 x_)] => some (ok (F_sampleErr x_), [.d (.i .i64 ((val (F_sampleErr x_))))])
  | _ => none
abbrev sp_130 : Specs → Specs := addK 130 true (pureK k_F_sampleErr g_F_sampleErr)
set_option maxRecDepth 100000 in
theorem F_sampleErr_vc (x_ : Nat) (r : Int) (h : Option.bind (F_sampleErr x_) some = some r) : runF Try.f130 ((sp_91 (sp_87 sp0))) (fun _ _ _ => none) [.d (.f .f32 x_)] [.d (.i .i64 r)] := by
  refine Eq.mp (by kernel_rfl : (
  Br (Ieee.Format.order (FloatKind.format FloatKind.f32) x_ x_ != some Ordering.eq)
   ((Ob (True) ∧
   (Ob ((27 : Int) = r) ∧
   True)))
   (Br (Option.isSome (Ieee.Format.sub (FloatKind.format FloatKind.f32) x_ x_))
   ((Ob (True) ∧
   Br (Ieee.Format.order (FloatKind.format FloatKind.f32) (Option.getD (Ieee.Format.sub (FloatKind.format FloatKind.f32) x_ x_) (0 : Nat)) (0 : Nat) != some Ordering.eq)
   ((Ob (True) ∧
   (Ob ((27 : Int) = r) ∧
   True)))
   (Br (Ieee.Format.order (FloatKind.format FloatKind.f32) x_ (1266679808 : Nat) == some Ordering.gt || Ieee.Format.order (FloatKind.format FloatKind.f32) x_ (1266679808 : Nat) == some Ordering.eq)
   ((Ob (True) ∧
   (Ob ((2 : Int) = r) ∧
   True)))
   (Br (Ieee.Format.order (FloatKind.format FloatKind.f32) x_ (3414163456 : Nat) == some Ordering.lt || Ieee.Format.order (FloatKind.format FloatKind.f32) x_ (3414163456 : Nat) == some Ordering.eq)
   ((Ob (True) ∧
   (Ob ((2 : Int) = r) ∧
   True)))
   ((Ob (f2iOk FloatKind.f32 IntKind.i64 x_ = true) ∧
   (Ob (True) ∧
   Br (Ieee.Format.order (FloatKind.format FloatKind.f32) (FloatKind.nearest FloatKind.f32 (f2i FloatKind.f32 x_)) x_ != some Ordering.eq)
   ((Ob (True) ∧
   (Ob ((27 : Int) = r) ∧
   True)))
   ((Ob (f2iOk FloatKind.f32 IntKind.i64 x_ = true) ∧
   (Ob ((-9223372036854775807 : Int) ≤ (32767 : Int) ∧ (32767 : Int) ≤ (9223372036854775807 : Int)) ∧
   (Ob (True) ∧
   (Ob (True) ∧
   (Ob ((if (decide ((-32767 : Int) ≤ f2i FloatKind.f32 x_) && decide (f2i FloatKind.f32 x_ ≤ (32767 : Int))) = true then (0 : Int) else (2 : Int)) = r) ∧
   True)))))))))))))
   ((Ob (True) ∧
   (Ob (True) ∧
   (Ob ((27 : Int) = r) ∧
   True)))))) = _) ?_
  refine br_b h (fun h => ?_) (fun h => ?_)
  · refine ob_t ?_
    exact ret_s h (fun e => by subst e; exact (by repeat' (first | exact trivial | exact ⟨rfl⟩ | refine And.intro ?_ ?_)))
  · refine br_b h (fun h => ?_) (fun h => ?_)
    · refine ob_t ?_
      refine br_b h (fun h => ?_) (fun h => ?_)
      · refine ob_t ?_
        exact ret_s h (fun e => by subst e; exact (by repeat' (first | exact trivial | exact ⟨rfl⟩ | refine And.intro ?_ ?_)))
      · refine br_b h (fun h => ?_) (fun h => ?_)
        · refine ob_t ?_
          exact ret_s h (fun e => by subst e; exact (by repeat' (first | exact trivial | exact ⟨rfl⟩ | refine And.intro ?_ ?_)))
        · refine br_b h (fun h => ?_) (fun h => ?_)
          · refine ob_t ?_
            exact ret_s h (fun e => by subst e; exact (by repeat' (first | exact trivial | exact ⟨rfl⟩ | refine And.intro ?_ ?_)))
          · refine ob_s h fun h => ?_
            refine ob_t ?_
            refine br_b h (fun h => ?_) (fun h => ?_)
            · refine ob_t ?_
              exact ret_s h (fun e => by subst e; exact (by repeat' (first | exact trivial | exact ⟨rfl⟩ | refine And.intro ?_ ?_)))
            · refine ob_s h fun h => ?_
              refine ob_c (p := (-9223372036854775807 : Int) ≤ (32767 : Int) ∧ (32767 : Int) ≤ (9223372036854775807 : Int)) (by decide) ?_
              refine ob_t ?_
              refine ob_t ?_
              exact ret_s h (fun e => by subst e; exact (by repeat' (first | exact trivial | exact ⟨rfl⟩ | refine And.intro ?_ ?_)))
    · refine ob_t ?_
      refine ob_t ?_
      exact ret_s h (fun e => by subst e; exact (by repeat' (first | exact trivial | exact ⟨rfl⟩ | refine And.intro ?_ ?_)))
set_option maxRecDepth 100000 in
theorem F_sampleErr_ok : SpecOK Try.prog 130 true (pureK k_F_sampleErr g_F_sampleErr) := by
  refine pureK_ok (sp := (sp_91 (sp_87 sp0))) (fn := Try.f130) (body := bodyOf Try.f130) mixed (sp_91_ok (sp_87_ok sp0_ok)) Try.func130 (by kernel_rfl) (by kernel_rfl) fun as_ ob rs h ho => ?_
  unfold g_F_sampleErr at h
  split at h
  · rename_i x_
    cases h
    exact ⟨Nat.le_of_ble_eq_true rfl, _, _, F_sampleErr_vc x_ _ (ok_some ho)⟩
  · cases h
theorem sp_130_ok {sp : Specs} (h : SpecsOK Try.prog sp) : SpecsOK Try.prog (sp_130 sp) := addK_ok F_sampleErr_ok h

def k_F_samplesErr : List (Option Cont) := [some (.floats .f32 [])]
def F_samplesErr_b0 (l : List Nat) (x0 : Int) : Option (Int ⊕ (Int ⊕ Unit)) :=
  if x0 < (↑(List.length l) : Int) then
   if (0 : Int) ≤ x0 ∧ x0 < (↑(List.length l) : Int) then
   if Int.toNat x0 < List.length l then
   Option.bind (F_sampleErr (List.getD l (Int.toNat x0) (0 : Nat))) fun r0 =>
   if (r0 != (0 : Int)) = true then
   some (.inr (.inl r0))
   else
   some (.inl (IntKind.wrap IntKind.i64 (x0 + (1 : Int))))
   else none
   else none
  else
   some (.inr ((.inr ())))
def F_samplesErr_r0_0 (y0_0 : Int) : Option Int :=
  some y0_0
def F_samplesErr_r0_1 (y0_1 : Unit) : Option Int :=
  some (0 : Int)
def F_samplesErr_r0 : (Int ⊕ Unit) → Option Int :=
  (Sum.elim (F_samplesErr_r0_0) (F_samplesErr_r0_1))
/-- shoebox/filter.samplesErr -/
def F_samplesErr (l : List Nat) : Option Int :=
  Option.bind (iter (F_samplesErr_b0 l) big (0 : Int)) (F_samplesErr_r0)
def g_F_samplesErr : List A → Option (Prop × List RV)
  | [.r (.floats .f32 l)] => some (ok (F_samplesErr l), [.d (.i .i64 ((val (F_samplesErr l))))])
  | _ => none
abbrev sp_107 : Specs → Specs := addK 107 true (pureK k_F_samplesErr g_F_samplesErr)
set_option maxRecDepth 100000 in
theorem F_samplesErr_vc (l : List Nat) (r : Int) (h : Option.bind (F_samplesErr l) some = some r) : runF Try.f107 ((sp_130 sp0)) (fun gs id _ => match id with
 | 0 => some ⟨Int × Nat, fun z => ⟨[(6, .w (.c (.o 0))), (7, .w (.c (.d (.i .i64 ((↑(List.length l) : Int)))))), (8, .w (.c (.d (.i .i64 (Prod.fst z)))))], [(0, .ext (.floats .f32 l))], 1⟩, fun z => Option.bind (iter (F_samplesErr_b0 l) (Prod.snd z) (Prod.fst z)) (fun y0 => Option.bind (F_samplesErr_r0 y0) some) = some r, fun z => Prod.snd z⟩
 | _ => none) [.r (.floats .f32 l)] [.d (.i .i64 r)] := by
  refine Eq.mp (by kernel_rfl : (
  ((∃ (v0 : Int × Nat), (Ob ((Option.bind (iter (F_samplesErr_b0 l) v0.2 v0.1) fun y0 => Option.bind (F_samplesErr_r0 y0) some) = some r) ∧
   (Ob ((↑(List.length l) : Int) = (↑(List.length l) : Int)) ∧
   (Ob ((0 : Int) = v0.1) ∧
   (Ob (l = l) ∧
   True))))) ∧
   (∀ (v0 : Int × Nat), ((Option.bind (iter (F_samplesErr_b0 l) v0.2 v0.1) fun y0 => Option.bind (F_samplesErr_r0 y0) some) = some r →
   Br (decide (v0.1 < (↑(List.length l) : Int)))
   ((Ob ((0 : Int) ≤ v0.1 ∧ v0.1 < (↑(List.length l) : Int)) ∧
   (Ob (Int.toNat v0.1 < List.length l) ∧
   (Ob (ok (F_sampleErr (List.getD l (Int.toNat v0.1) (0 : Nat)))) ∧
   Br (val (F_sampleErr (List.getD l (Int.toNat v0.1) (0 : Nat))) != (0 : Int))
   ((Ob (True) ∧
   (Ob (val (F_sampleErr (List.getD l (Int.toNat v0.1) (0 : Nat))) = r) ∧
   True)))
   ((∃ (v1 : Int × Nat), (Ob ((Option.bind (iter (F_samplesErr_b0 l) v1.2 v1.1) fun y0 => Option.bind (F_samplesErr_r0 y0) some) = some r) ∧
   (Ob (v1.2 < v0.2) ∧
   (Ob ((↑(List.length l) : Int) = (↑(List.length l) : Int)) ∧
   (Ob (IntKind.wrap IntKind.i64 (v0.1 + (1 : Int)) = v1.1) ∧
   (Ob (l = l) ∧
   True)))))))))))
   ((Ob (True) ∧
   (Ob ((0 : Int) = r) ∧
   True))))))) = _) ?_
  refine ⟨⟨((0 : Int), big), ⟨loop_s h⟩, (by repeat' (first | exact trivial | exact ⟨rfl⟩ | refine And.intro ?_ ?_))⟩, fun z1 hz1 => ?_⟩
  obtain ⟨k1, hm1, h⟩ := iter_pos hz1
  refine br_d h (fun h => ?_) (fun h => ?_)
  · refine ob_s h fun h => ?_
    refine ob_s h fun h => ?_
    refine call_s h fun h => ?_
    refine br_b h (fun h => ?_) (fun h => ?_)
    · have h := exit_s h
      refine ob_t ?_
      exact ret_s h (fun e => by subst e; exact (by repeat' (first | exact trivial | exact ⟨rfl⟩ | refine And.intro ?_ ?_)))
    · exact ⟨(IntKind.wrap IntKind.i64 (Prod.fst z1 + (1 : Int)), k1), ⟨next_s h⟩, ⟨lt_gs hm1.symm⟩, (by repeat' (first | exact trivial | exact ⟨rfl⟩ | refine And.intro ?_ ?_))⟩
  · have h := exit_s h
    refine ob_t ?_
    exact ret_s h (fun e => by subst e; exact (by repeat' (first | exact trivial | exact ⟨rfl⟩ | refine And.intro ?_ ?_)))
set_option maxRecDepth 100000 in
theorem F_samplesErr_ok : SpecOK Try.prog 107 true (pureK k_F_samplesErr g_F_samplesErr) := by
  refine pureK_ok (sp := (sp_130 sp0)) (fn := Try.f107) (body := bodyOf Try.f107) mixed (sp_130_ok sp0_ok) Try.func107 (by kernel_rfl) (by kernel_rfl) fun as_ ob rs h ho => ?_
  unfold g_F_samplesErr at h
  split at h
  · rename_i l
    cases h
    exact ⟨Nat.le_of_ble_eq_true rfl, _, _, F_samplesErr_vc l _ (ok_some ho)⟩
  · cases h
theorem sp_107_ok {sp : Specs} (h : SpecsOK Try.prog sp) : SpecsOK Try.prog (sp_107 sp) := addK_ok F_samplesErr_ok h

def k_F_chain_cuts : List (Option Cont) := [some (.recs 10 [])]
def F_chain_cuts_b0 (l : List (List Int)) (x0 : (Int × Int)) : Option ((Int × Int) ⊕ Int) :=
  if x0.2 < (↑(List.length l) : Int) then
   if (0 : Int) ≤ x0.2 ∧ x0.2 < (↑(List.length l) : Int) then
   if Int.toNat x0.2 < List.length l then
   some (.inl ((IntKind.wrap IntKind.i64 (x0.1 + List.getD (List.getD l (Int.toNat x0.2) []) (9 : Nat) (0 : Int)), IntKind.wrap IntKind.i64 (x0.2 + (1 : Int)))))
   else none
   else none
  else
   some (.inr x0.1)
def F_chain_cuts_r0 (y0_0 : Int) : Option Int :=
  some y0_0
/-- (shoebox/filter.chain).cuts -/
def F_chain_cuts (l : List (List Int)) : Option Int :=
  Option.bind (iter (F_chain_cuts_b0 l) big (((0 : Int), (0 : Int)))) (F_chain_cuts_r0)
def g_F_chain_cuts : List A → Option (Prop × List RV)
  | [.r (.recs 10 l)] => some (ok (F_chain_cuts l), [.d (.i .i64 ((val (F_chain_cuts l))))])
  | _ => none
abbrev sp_110 : Specs → Specs := addK 110 true (pureK k_F_chain_cuts g_F_chain_cuts)
set_option maxRecDepth 100000 in
theorem F_chain_cuts_vc (l : List (List Int)) (r : Int) (h : Option.bind (F_chain_cuts l) some = some r) : runF Try.f110 (sp0) (fun gs id _ => match id with
 | 0 => some ⟨(Int × Int) × Nat, fun z => ⟨[(3, .w (.c (.d (.i .i64 (Prod.fst (Prod.fst z)))))), (6, .w (.c (.o 0))), (7, .w (.c (.d (.i .i64 ((↑(List.length l) : Int)))))), (8, .w (.c (.d (.i .i64 (Prod.snd (Prod.fst z))))))], [(0, .ext (.recs 10 l))], 1⟩, fun z => Option.bind (iter (F_chain_cuts_b0 l) (Prod.snd z) (Prod.fst z)) (fun y0 => Option.bind (F_chain_cuts_r0 y0) some) = some r, fun z => Prod.snd z⟩
 | _ => none) [.r (.recs 10 l)] [.d (.i .i64 r)] := by
  refine Eq.mp (by kernel_rfl : (
  ((∃ (v0 : (Int × Int) × Nat), (Ob ((Option.bind (iter (F_chain_cuts_b0 l) v0.2 v0.1) fun y0 => Option.bind (F_chain_cuts_r0 y0) some) = some r) ∧
   (Ob ((0 : Int) = v0.1.1) ∧
   (Ob ((↑(List.length l) : Int) = (↑(List.length l) : Int)) ∧
   (Ob ((0 : Int) = v0.1.2) ∧
   (Ob (l = l) ∧
   True)))))) ∧
   (∀ (v0 : (Int × Int) × Nat), ((Option.bind (iter (F_chain_cuts_b0 l) v0.2 v0.1) fun y0 => Option.bind (F_chain_cuts_r0 y0) some) = some r →
   Br (decide (v0.1.2 < (↑(List.length l) : Int)))
   ((Ob ((0 : Int) ≤ v0.1.2 ∧ v0.1.2 < (↑(List.length l) : Int)) ∧
   (Ob (Int.toNat v0.1.2 < List.length l) ∧
   (∃ (v1 : (Int × Int) × Nat), (Ob ((Option.bind (iter (F_chain_cuts_b0 l) v1.2 v1.1) fun y0 => Option.bind (F_chain_cuts_r0 y0) some) = some r) ∧
   (Ob (v1.2 < v0.2) ∧
   (Ob (IntKind.wrap IntKind.i64 (v0.1.1 + List.getD (List.getD l (Int.toNat v0.1.2) []) (9 : Nat) (0 : Int)) = v1.1.1) ∧
   (Ob ((↑(List.length l) : Int) = (↑(List.length l) : Int)) ∧
   (Ob (IntKind.wrap IntKind.i64 (v0.1.2 + (1 : Int)) = v1.1.2) ∧
   (Ob (l = l) ∧
   True))))))))))
   ((Ob (True) ∧
   (Ob (v0.1.1 = r) ∧
   True))))))) = _) ?_
  refine ⟨⟨(((0 : Int), (0 : Int)), big), ⟨loop_s h⟩, (by repeat' (first | exact trivial | exact ⟨rfl⟩ | refine And.intro ?_ ?_))⟩, fun z0 hz0 => ?_⟩
  obtain ⟨k0, hm0, h⟩ := iter_pos hz0
  refine br_d h (fun h => ?_) (fun h => ?_)
  · refine ob_s h fun h => ?_
    refine ob_s h fun h => ?_
    exact ⟨((IntKind.wrap IntKind.i64 ((Prod.fst z0).1 + List.getD (List.getD l (Int.toNat (Prod.fst z0).2) []) (9 : Nat) (0 : Int)), IntKind.wrap IntKind.i64 ((Prod.fst z0).2 + (1 : Int))), k0), ⟨next_s h⟩, ⟨lt_gs hm0.symm⟩, (by repeat' (first | exact trivial | exact ⟨rfl⟩ | refine And.intro ?_ ?_))⟩
  · have h := exit_s h
    refine ob_t ?_
    exact ret_s h (fun e => by subst e; exact (by repeat' (first | exact trivial | exact ⟨rfl⟩ | refine And.intro ?_ ?_)))
set_option maxRecDepth 100000 in
theorem F_chain_cuts_ok : SpecOK Try.prog 110 true (pureK k_F_chain_cuts g_F_chain_cuts) := by
  refine pureK_ok (sp := sp0) (fn := Try.f110) (body := bodyOf Try.f110) mixed sp0_ok Try.func110 (by kernel_rfl) (by kernel_rfl) fun as_ ob rs h ho => ?_
  unfold g_F_chain_cuts at h
  split at h
  · rename_i l
    cases h
    exact ⟨Nat.le_of_ble_eq_true rfl, _, _, F_chain_cuts_vc l _ (ok_some ho)⟩
  · cases h
theorem sp_110_ok {sp : Specs} (h : SpecsOK Try.prog sp) : SpecsOK Try.prog (sp_110 sp) := addK_ok F_chain_cuts_ok h

def k_F_chain_states : List (Option Cont) := [some (.recs 10 [])]
def F_chain_states_b0 (l : List (List Int)) (x0 : (Int × List (List Int))) : Option ((Int × List (List Int)) ⊕ (List (List Int))) :=
  if x0.1 < (↑(List.length l) : Int) then
   if (0 : Int) ≤ x0.1 ∧ x0.1 < (↑(List.length l) : Int) then
   if Int.toNat x0.1 < List.length l then
   if (List.length x0.2 + List.length [[List.getD (List.getD l (Int.toNat x0.1) []) (5 : Nat) (0 : Int), List.getD (List.getD l (Int.toNat x0.1) []) (6 : Nat) (0 : Int), List.getD (List.getD l (Int.toNat x0.1) []) (7 : Nat) (0 : Int), List.getD (List.getD l (Int.toNat x0.1) []) (8 : Nat) (0 : Int)]]) * (32 : Nat) ≤ (140737488355328 : Nat) ∧ List.length x0.2 + List.length [[List.getD (List.getD l (Int.toNat x0.1) []) (5 : Nat) (0 : Int), List.getD (List.getD l (Int.toNat x0.1) []) (6 : Nat) (0 : Int), List.getD (List.getD l (Int.toNat x0.1) []) (7 : Nat) (0 : Int), List.getD (List.getD l (Int.toNat x0.1) []) (8 : Nat) (0 : Int)]] ≤ (9223372036854775807 : Nat) then
   some (.inl ((IntKind.wrap IntKind.i64 (x0.1 + (1 : Int)), x0.2 ++ [[List.getD (List.getD l (Int.toNat x0.1) []) (5 : Nat) (0 : Int), List.getD (List.getD l (Int.toNat x0.1) []) (6 : Nat) (0 : Int), List.getD (List.getD l (Int.toNat x0.1) []) (7 : Nat) (0 : Int), List.getD (List.getD l (Int.toNat x0.1) []) (8 : Nat) (0 : Int)]])))
   else none
   else none
   else none
  else
   some (.inr x0.2)
def F_chain_states_r0 (y0_0 : List (List Int)) : Option (List (List Int)) :=
  some y0_0
/-- (shoebox/filter.chain).states -/
def F_chain_states (l : List (List Int)) : Option (List (List Int)) :=
  Option.bind (iter (F_chain_states_b0 l) big (((0 : Int), []))) (F_chain_states_r0)
def g_F_chain_states : List A → Option (Prop × List RV)
  | [.r (.recs 10 l)] => some (ok (F_chain_states l), [.row 60 (.recs 4 ((val (F_chain_states l))))])
  | _ => none
abbrev sp_117 : Specs → Specs := addK 117 true (pureK k_F_chain_states g_F_chain_states)
set_option maxRecDepth 100000 in
theorem F_chain_states_vc (l : List (List Int)) (r : List (List Int)) (h : Option.bind (F_chain_states l) some = some r) : runF Try.f117 (sp0) (fun gs id _ => match id with
 | 0 => some ⟨(Int × List (List Int)) × Nat, fun z => ⟨[(3, .w (.c (.o 1))), (6, .w (.c (.o 0))), (7, .w (.c (.d (.i .i64 ((↑(List.length l) : Int)))))), (8, .w (.c (.d (.i .i64 (Prod.fst (Prod.fst z))))))], [(1, .row 60 (.recs 4 (Prod.snd (Prod.fst z)))), (0, .ext (.recs 10 l))], 2⟩, fun z => Option.bind (iter (F_chain_states_b0 l) (Prod.snd z) (Prod.fst z)) (fun y0 => Option.bind (F_chain_states_r0 y0) some) = some r, fun z => Prod.snd z⟩
 | _ => none) [.r (.recs 10 l)] [.row 60 (.recs 4 r)] := by
  refine Eq.mp (by kernel_rfl : (
  ((∃ (v0 : (Int × List (List Int)) × Nat), (Ob ((Option.bind (iter (F_chain_states_b0 l) v0.2 v0.1) fun y0 => Option.bind (F_chain_states_r0 y0) some) = some r) ∧
   (Ob ((↑(List.length l) : Int) = (↑(List.length l) : Int)) ∧
   (Ob ((0 : Int) = v0.1.1) ∧
   (Ob (List.length v0.1.2 = (0 : Nat)) ∧
   (Ob (l = l) ∧
   True)))))) ∧
   (∀ (v0 : (Int × List (List Int)) × Nat), ((Option.bind (iter (F_chain_states_b0 l) v0.2 v0.1) fun y0 => Option.bind (F_chain_states_r0 y0) some) = some r →
   Br (decide (v0.1.1 < (↑(List.length l) : Int)))
   ((Ob ((0 : Int) ≤ v0.1.1 ∧ v0.1.1 < (↑(List.length l) : Int)) ∧
   (Ob (Int.toNat v0.1.1 < List.length l) ∧
   (Ob ((List.length v0.1.2 + List.length [[List.getD (List.getD l (Int.toNat v0.1.1) []) (5 : Nat) (0 : Int), List.getD (List.getD l (Int.toNat v0.1.1) []) (6 : Nat) (0 : Int), List.getD (List.getD l (Int.toNat v0.1.1) []) (7 : Nat) (0 : Int), List.getD (List.getD l (Int.toNat v0.1.1) []) (8 : Nat) (0 : Int)]]) * (32 : Nat) ≤ (140737488355328 : Nat) ∧ List.length v0.1.2 + List.length [[List.getD (List.getD l (Int.toNat v0.1.1) []) (5 : Nat) (0 : Int), List.getD (List.getD l (Int.toNat v0.1.1) []) (6 : Nat) (0 : Int), List.getD (List.getD l (Int.toNat v0.1.1) []) (7 : Nat) (0 : Int), List.getD (List.getD l (Int.toNat v0.1.1) []) (8 : Nat) (0 : Int)]] ≤ (9223372036854775807 : Nat)) ∧
   (∃ (v1 : (Int × List (List Int)) × Nat), (Ob ((Option.bind (iter (F_chain_states_b0 l) v1.2 v1.1) fun y0 => Option.bind (F_chain_states_r0 y0) some) = some r) ∧
   (Ob (v1.2 < v0.2) ∧
   (Ob ((↑(List.length l) : Int) = (↑(List.length l) : Int)) ∧
   (Ob (IntKind.wrap IntKind.i64 (v0.1.1 + (1 : Int)) = v1.1.1) ∧
   (Ob (v0.1.2 ++ [[List.getD (List.getD l (Int.toNat v0.1.1) []) (5 : Nat) (0 : Int), List.getD (List.getD l (Int.toNat v0.1.1) []) (6 : Nat) (0 : Int), List.getD (List.getD l (Int.toNat v0.1.1) []) (7 : Nat) (0 : Int), List.getD (List.getD l (Int.toNat v0.1.1) []) (8 : Nat) (0 : Int)]] = v1.1.2) ∧
   (Ob (l = l) ∧
   True)))))))))))
   ((Ob (True) ∧
   (Ob (v0.1.2 = r) ∧
   True))))))) = _) ?_
  refine ⟨⟨(((0 : Int), []), big), ⟨loop_s h⟩, (by repeat' (first | exact trivial | exact ⟨rfl⟩ | refine And.intro ?_ ?_))⟩, fun z0 hz0 => ?_⟩
  obtain ⟨k0, hm0, h⟩ := iter_pos hz0
  refine br_d h (fun h => ?_) (fun h => ?_)
  · refine ob_s h fun h => ?_
    refine ob_s h fun h => ?_
    refine ob_s h fun h => ?_
    exact ⟨((IntKind.wrap IntKind.i64 ((Prod.fst z0).1 + (1 : Int)), (Prod.fst z0).2 ++ [[List.getD (List.getD l (Int.toNat (Prod.fst z0).1) []) (5 : Nat) (0 : Int), List.getD (List.getD l (Int.toNat (Prod.fst z0).1) []) (6 : Nat) (0 : Int), List.getD (List.getD l (Int.toNat (Prod.fst z0).1) []) (7 : Nat) (0 : Int), List.getD (List.getD l (Int.toNat (Prod.fst z0).1) []) (8 : Nat) (0 : Int)]]), k0), ⟨next_s h⟩, ⟨lt_gs hm0.symm⟩, (by repeat' (first | exact trivial | exact ⟨rfl⟩ | refine And.intro ?_ ?_))⟩
  · have h := exit_s h
    refine ob_t ?_
    exact ret_s h (fun e => by subst e; exact (by repeat' (first | exact trivial | exact ⟨rfl⟩ | refine And.intro ?_ ?_)))
set_option maxRecDepth 100000 in
theorem F_chain_states_ok : SpecOK Try.prog 117 true (pureK k_F_chain_states g_F_chain_states) := by
  refine pureK_ok (sp := sp0) (fn := Try.f117) (body := bodyOf Try.f117) mixed sp0_ok Try.func117 (by kernel_rfl) (by kernel_rfl) fun as_ ob rs h ho => ?_
  unfold g_F_chain_states at h
  split at h
  · rename_i l
    cases h
    exact ⟨Nat.le_of_ble_eq_true rfl, _, _, F_chain_states_vc l _ (ok_some ho)⟩
  · cases h
theorem sp_117_ok {sp : Specs} (h : SpecsOK Try.prog sp) : SpecsOK Try.prog (sp_117 sp) := addK_ok F_chain_states_ok h

def k_B_SameBlock : List SV := [.b .f32 32, .b .f32 32]
/-- shoebox/shoeboxbase.SameBlock -/
def B_SameBlock (a : List Nat) (b : List Nat) : Option Bool :=
  if List.length a = (32 : Nat) ∧ (0 : Int) ≤ Option.getD none (0 : Int) ∧ Option.getD none (0 : Int) ≤ Option.getD none (↑(32 : Nat) : Int) ∧ Option.getD none (↑(32 : Nat) : Int) ≤ (↑(32 : Nat) : Int) then
   if List.length b = (32 : Nat) ∧ (0 : Int) ≤ Option.getD none (0 : Int) ∧ Option.getD none (0 : Int) ≤ Option.getD none (↑(32 : Nat) : Int) ∧ Option.getD none (↑(32 : Nat) : Int) ≤ (↑(32 : Nat) : Int) then
   Option.bind (B_SameFloats (List.take (32 : Nat) (List.drop (0 : Nat) a)) (List.take (32 : Nat) (List.drop (0 : Nat) b))) fun r0 =>
   some r0
   else none
  else none
def g_B_SameBlock : List Lf → Option GT
  | [.b .f32 32 a, .b .f32 32 b] => some (.leaf (ok (B_SameBlock a b)) [.c (.d (.b ((val (B_SameBlock a b)))))])
  | _ => none
abbrev sp_72 : Specs → Specs := addK 72 true (pureT k_B_SameBlock g_B_SameBlock)
set_option maxRecDepth 100000 in
theorem B_SameBlock_vc (a : List Nat) (b : List Nat) (r : Bool) (h : Option.bind (B_SameBlock a b) some = some r) : runT Try.f72 ((sp_65 sp0)) (fun _ _ _ => none) (bldD k_B_SameBlock [.b .f32 32 a, .b .f32 32 b]) [.c (.d (.b r))] := by
  refine Eq.mp (by kernel_rfl : (
  (Ob (List.length a = (32 : Nat) ∧ (0 : Int) ≤ Option.getD none (0 : Int) ∧ Option.getD none (0 : Int) ≤ Option.getD none (↑(32 : Nat) : Int) ∧ Option.getD none (↑(32 : Nat) : Int) ≤ (↑(32 : Nat) : Int)) ∧
   (Ob (List.length b = (32 : Nat) ∧ (0 : Int) ≤ Option.getD none (0 : Int) ∧ Option.getD none (0 : Int) ≤ Option.getD none (↑(32 : Nat) : Int) ∧ Option.getD none (↑(32 : Nat) : Int) ≤ (↑(32 : Nat) : Int)) ∧
   (Ob (ok (B_SameFloats (List.take (32 : Nat) (List.drop (0 : Nat) a)) (List.take (32 : Nat) (List.drop (0 : Nat) b)))) ∧
   (Ob (True) ∧
   (Ob (val (B_SameFloats (List.take (32 : Nat) (List.drop (0 : Nat) a)) (List.take (32 : Nat) (List.drop (0 : Nat) b))) = r) ∧
   True)))))) = _) ?_
  refine ob_s h fun h => ?_
  refine ob_s h fun h => ?_
  refine call_s h fun h => ?_
  refine ob_t ?_
  exact ret_s h (fun e => by subst e; exact (by repeat' (first | exact trivial | exact ⟨rfl⟩ | refine And.intro ?_ ?_)))
set_option maxRecDepth 100000 in
theorem B_SameBlock_ok : SpecOK Try.prog 72 true (pureT k_B_SameBlock g_B_SameBlock) := by
  refine pureT_ok (sp := (sp_65 sp0)) (fn := Try.f72) (body := bodyOf Try.f72) mixed (sp_65_ok sp0_ok) Try.func72 (by kernel_rfl) (by kernel_rfl) fun ls t h ho b hb => ?_
  unfold g_B_SameBlock at h
  split at h
  · rename_i a b
    cases h
    obtain rfl := bld_eq hb
    exact ⟨Nat.le_of_ble_eq_true (by kernel_rfl), _, _, B_SameBlock_vc a b _ (ok_some ho)⟩
  · cases h
theorem sp_72_ok {sp : Specs} (h : SpecsOK Try.prog sp) : SpecsOK Try.prog (sp_72 sp) := addK_ok B_SameBlock_ok h

def k_F_Run : List SV := [.c (.r (.recs 5 [])), .b .f32 32, .c (.r (.recs 4 []))]
def F_Run_b0 (b : List Nat) (x0 : (Int × List (List Int) × List Nat)) : Option ((Int × List (List Int) × List Nat) ⊕ (List (List Int) × List Nat)) :=
  if x0.1 < (32 : Int) then
   if (0 : Int) ≤ x0.1 ∧ x0.1 < (↑(32 : Nat) : Int) then
   if f2iOk FloatKind.f32 IntKind.i64 (List.getD b (Int.toNat x0.1) (0 : Nat)) = true then
   if List.length x0.2.1 ≤ (1000000 : Nat) ∧ (∀ (u : List Int), u ∈ x0.2.1 → Sx06.okU u) ∧ (-32767 : Int) ≤ f2i FloatKind.f32 (List.getD b (Int.toNat x0.1) (0 : Nat)) ∧ f2i FloatKind.f32 (List.getD b (Int.toNat x0.1) (0 : Nat)) ≤ (32767 : Int) then
   if (0 : Int) ≤ x0.1 ∧ x0.1 < (↑(32 : Nat) : Int) then
   if (0 : Nat) + ((0 : Nat) + Int.toNat x0.1 * (1 : Nat)) < (32 : Nat) then
   some (.inl ((IntKind.wrap IntKind.i64 (x0.1 + (1 : Int)), Sx06.putUs x0.2.1 (f2i FloatKind.f32 (List.getD b (Int.toNat x0.1) (0 : Nat))), setF (32 : Nat) x0.2.2 ((0 : Nat) + ((0 : Nat) + Int.toNat x0.1 * (1 : Nat))) (FloatKind.nearest FloatKind.f32 (Sx06.outUs x0.2.1 (f2i FloatKind.f32 (List.getD b (Int.toNat x0.1) (0 : Nat))))))))
   else none
   else none
   else none
   else none
   else none
  else
   some (.inr (x0.2.1, x0.2.2))
def F_Run_r0 (y0_0 : List (List Int) × List Nat) : Option (List Nat × List (List Int) × Int × Int) :=
  Option.bind (F_chain_states y0_0.1) fun r2 =>
  Option.bind (F_chain_cuts y0_0.1) fun r3 =>
  some ((y0_0.2, r2, r3, (0 : Int)))
/-- shoebox/filter.Run -/
def F_Run (c : List (List Int)) (b : List Nat) (s : List (List Int)) : Option (List Nat × List (List Int) × Int × Int) :=
  if List.length c ≤ (1000000000 : Nat) then
   if List.length b = (32 : Nat) ∧ (0 : Int) ≤ Option.getD none (0 : Int) ∧ Option.getD none (0 : Int) ≤ Option.getD none (↑(32 : Nat) : Int) ∧ Option.getD none (↑(32 : Nat) : Int) ≤ (↑(32 : Nat) : Int) then
   Option.bind (F_samplesErr (List.take (32 : Nat) (List.drop (0 : Nat) b))) fun r0 =>
   if List.length [Sx06.chkE c, r0] ≤ (1000000 : Nat) then
   if (Option.getD (List.find? (fun x => x != (0 : Int)) [Sx06.chkE c, r0]) (0 : Int) == (0 : Int)) = true then
   Option.bind (F_CheckState c s) fun r1 =>
   if (r1.2 != (0 : Int)) = true then
   some (([(0 : Nat), (0 : Nat), (0 : Nat), (0 : Nat), (0 : Nat), (0 : Nat), (0 : Nat), (0 : Nat), (0 : Nat), (0 : Nat), (0 : Nat), (0 : Nat), (0 : Nat), (0 : Nat), (0 : Nat), (0 : Nat), (0 : Nat), (0 : Nat), (0 : Nat), (0 : Nat), (0 : Nat), (0 : Nat), (0 : Nat), (0 : Nat), (0 : Nat), (0 : Nat), (0 : Nat), (0 : Nat), (0 : Nat), (0 : Nat), (0 : Nat), (0 : Nat)], [], (0 : Int), r1.2))
   else
   if List.length c ≤ List.length s ∧ List.length c ≤ (1000000 : Nat) then
   Option.bind (iter (F_Run_b0 b) big (((0 : Int), Sx06.mkUs c s (List.length c), [(0 : Nat), (0 : Nat), (0 : Nat), (0 : Nat), (0 : Nat), (0 : Nat), (0 : Nat), (0 : Nat), (0 : Nat), (0 : Nat), (0 : Nat), (0 : Nat), (0 : Nat), (0 : Nat), (0 : Nat), (0 : Nat), (0 : Nat), (0 : Nat), (0 : Nat), (0 : Nat), (0 : Nat), (0 : Nat), (0 : Nat), (0 : Nat), (0 : Nat), (0 : Nat), (0 : Nat), (0 : Nat), (0 : Nat), (0 : Nat), (0 : Nat), (0 : Nat)]))) (F_Run_r0)
   else none
   else
   if (Option.getD (List.find? (fun x => x != (0 : Int)) [Sx06.chkE c, r0]) (0 : Int) != (0 : Int)) = true then
   some (([(0 : Nat), (0 : Nat), (0 : Nat), (0 : Nat), (0 : Nat), (0 : Nat), (0 : Nat), (0 : Nat), (0 : Nat), (0 : Nat), (0 : Nat), (0 : Nat), (0 : Nat), (0 : Nat), (0 : Nat), (0 : Nat), (0 : Nat), (0 : Nat), (0 : Nat), (0 : Nat), (0 : Nat), (0 : Nat), (0 : Nat), (0 : Nat), (0 : Nat), (0 : Nat), (0 : Nat), (0 : Nat), (0 : Nat), (0 : Nat), (0 : Nat), (0 : Nat)], [], (0 : Int), Option.getD (List.find? (fun x => x != (0 : Int)) [Sx06.chkE c, r0]) (0 : Int)))
   else
   none /- decided -/
   else none
   else none
  else none
def g_F_Run : List Lf → Option GT
  | [.r (.recs 5 c), .b .f32 32 b, .r (.recs 4 s)] => some (.leaf (ok (F_Run c b s)) [.b .f32 32 ((val (F_Run c b s)).1), .c (.row 60 (.recs 4 ((val (F_Run c b s)).2.1))), .c (.d (.i .i64 ((val (F_Run c b s)).2.2.1))), .c (.d (.i .i64 ((val (F_Run c b s)).2.2.2)))])
  | _ => none
abbrev sp_68 : Specs → Specs := addK 68 true (pureT k_F_Run g_F_Run)
set_option maxRecDepth 100000 in
theorem F_Run_vc (c : List (List Int)) (b : List Nat) (s : List (List Int)) (r : List Nat × List (List Int) × Int × Int) (h : Option.bind (F_Run c b s) some = some r) : runT Try.f68 ((sp_86 (sp_107 (sp_85 (sp_71 (sp_108 (sp_109 (sp_117 (sp_110 sp0))))))))) (fun gs id _ => match id with
 | 0 => some ⟨(Int × List (List Int) × List Nat) × Nat, fun z => ⟨[(6, .w (.c (.p 2 (0 : Nat) 1 (0 : Nat)))), (11, .w (.c (.o 3))), (12, .w (.c (.p 4 (0 : Nat) 1 (0 : Nat)))), (36, .w (.b .f32 32 b)), (37, .w (.c (.d (.i .i64 (Prod.fst (Prod.fst z))))))], [(2, .arr 122 .f32 32 ([(0 : Nat), (0 : Nat), (0 : Nat), (0 : Nat), (0 : Nat), (0 : Nat), (0 : Nat), (0 : Nat), (0 : Nat), (0 : Nat), (0 : Nat), (0 : Nat), (0 : Nat), (0 : Nat), (0 : Nat), (0 : Nat), (0 : Nat), (0 : Nat), (0 : Nat), (0 : Nat), (0 : Nat), (0 : Nat), (0 : Nat), (0 : Nat), (0 : Nat), (0 : Nat), (0 : Nat), (0 : Nat), (0 : Nat), (0 : Nat), (0 : Nat), (0 : Nat)])), (3, .row 158 (.recs 10 (Prod.fst (Prod.snd (Prod.fst z))))), (4, .arr 122 .f32 32 (Prod.snd (Prod.snd (Prod.fst z))))], 5⟩, fun z => Option.bind (iter (F_Run_b0 b) (Prod.snd z) (Prod.fst z)) (fun y0 => Option.bind (F_Run_r0 y0) some) = some r, fun z => Prod.snd z⟩
 | _ => none) (bldD k_F_Run [.r (.recs 5 c), .b .f32 32 b, .r (.recs 4 s)]) [.b .f32 32 r.1, .c (.row 60 (.recs 4 r.2.1)), .c (.d (.i .i64 r.2.2.1)), .c (.d (.i .i64 r.2.2.2))] := by
  refine Eq.mp (by kernel_rfl : (
  (Ob (List.length c ≤ (1000000000 : Nat)) ∧
   (Ob (List.length b = (32 : Nat) ∧ (0 : Int) ≤ Option.getD none (0 : Int) ∧ Option.getD none (0 : Int) ≤ Option.getD none (↑(32 : Nat) : Int) ∧ Option.getD none (↑(32 : Nat) : Int) ≤ (↑(32 : Nat) : Int)) ∧
   (Ob (ok (F_samplesErr (List.take (32 : Nat) (List.drop (0 : Nat) b)))) ∧
   (Ob (List.length [Sx06.chkE c, val (F_samplesErr (List.take (32 : Nat) (List.drop (0 : Nat) b)))] ≤ (1000000 : Nat)) ∧
   Br (Option.getD (List.find? (fun x => x != (0 : Int)) [Sx06.chkE c, val (F_samplesErr (List.take (32 : Nat) (List.drop (0 : Nat) b)))]) (0 : Int) == (0 : Int))
   ((Ob (ok (F_CheckState c s)) ∧
   Br ((val (F_CheckState c s)).2 != (0 : Int))
   ((Ob (True) ∧
   (Ob (True) ∧
   (Ob (True) ∧
   (Ob (True) ∧
   (Ob (True) ∧
   (Ob (r.1 = [(0 : Nat), (0 : Nat), (0 : Nat), (0 : Nat), (0 : Nat), (0 : Nat), (0 : Nat), (0 : Nat), (0 : Nat), (0 : Nat), (0 : Nat), (0 : Nat), (0 : Nat), (0 : Nat), (0 : Nat), (0 : Nat), (0 : Nat), (0 : Nat), (0 : Nat), (0 : Nat), (0 : Nat), (0 : Nat), (0 : Nat), (0 : Nat), (0 : Nat), (0 : Nat), (0 : Nat), (0 : Nat), (0 : Nat), (0 : Nat), (0 : Nat), (0 : Nat)]) ∧
   (Ob (List.length r.2.1 = (0 : Nat)) ∧
   (Ob ((0 : Int) = r.2.2.1) ∧
   (Ob ((val (F_CheckState c s)).2 = r.2.2.2) ∧
   True))))))))))
   ((Ob (List.length c ≤ List.length s ∧ List.length c ≤ (1000000 : Nat)) ∧
   (Ob (True) ∧
   ((∃ (v0 : (Int × List (List Int) × List Nat) × Nat), (Ob ((Option.bind (iter (F_Run_b0 b) v0.2 v0.1) fun y0 => Option.bind (F_Run_r0 y0) some) = some r) ∧
   (Ob ((0 : Nat) = (0 : Nat)) ∧
   (Ob ((0 : Nat) = (0 : Nat)) ∧
   (Ob (b = b) ∧
   (Ob ((0 : Int) = v0.1.1) ∧
   (Ob ([(0 : Nat), (0 : Nat), (0 : Nat), (0 : Nat), (0 : Nat), (0 : Nat), (0 : Nat), (0 : Nat), (0 : Nat), (0 : Nat), (0 : Nat), (0 : Nat), (0 : Nat), (0 : Nat), (0 : Nat), (0 : Nat), (0 : Nat), (0 : Nat), (0 : Nat), (0 : Nat), (0 : Nat), (0 : Nat), (0 : Nat), (0 : Nat), (0 : Nat), (0 : Nat), (0 : Nat), (0 : Nat), (0 : Nat), (0 : Nat), (0 : Nat), (0 : Nat)] = [(0 : Nat), (0 : Nat), (0 : Nat), (0 : Nat), (0 : Nat), (0 : Nat), (0 : Nat), (0 : Nat), (0 : Nat), (0 : Nat), (0 : Nat), (0 : Nat), (0 : Nat), (0 : Nat), (0 : Nat), (0 : Nat), (0 : Nat), (0 : Nat), (0 : Nat), (0 : Nat), (0 : Nat), (0 : Nat), (0 : Nat), (0 : Nat), (0 : Nat), (0 : Nat), (0 : Nat), (0 : Nat), (0 : Nat), (0 : Nat), (0 : Nat), (0 : Nat)]) ∧
   (Ob (Sx06.mkUs c s (List.length c) = v0.1.2.1) ∧
   (Ob ([(0 : Nat), (0 : Nat), (0 : Nat), (0 : Nat), (0 : Nat), (0 : Nat), (0 : Nat), (0 : Nat), (0 : Nat), (0 : Nat), (0 : Nat), (0 : Nat), (0 : Nat), (0 : Nat), (0 : Nat), (0 : Nat), (0 : Nat), (0 : Nat), (0 : Nat), (0 : Nat), (0 : Nat), (0 : Nat), (0 : Nat), (0 : Nat), (0 : Nat), (0 : Nat), (0 : Nat), (0 : Nat), (0 : Nat), (0 : Nat), (0 : Nat), (0 : Nat)] = v0.1.2.2) ∧
   True))))))))) ∧
   (∀ (v0 : (Int × List (List Int) × List Nat) × Nat), ((Option.bind (iter (F_Run_b0 b) v0.2 v0.1) fun y0 => Option.bind (F_Run_r0 y0) some) = some r →
   Br (decide (v0.1.1 < (32 : Int)))
   ((Ob ((0 : Int) ≤ v0.1.1 ∧ v0.1.1 < (↑(32 : Nat) : Int)) ∧
   (Ob (f2iOk FloatKind.f32 IntKind.i64 (List.getD b (Int.toNat v0.1.1) (0 : Nat)) = true) ∧
   (Ob (List.length v0.1.2.1 ≤ (1000000 : Nat) ∧ (∀ (u : List Int), u ∈ v0.1.2.1 → Sx06.okU u) ∧ (-32767 : Int) ≤ f2i FloatKind.f32 (List.getD b (Int.toNat v0.1.1) (0 : Nat)) ∧ f2i FloatKind.f32 (List.getD b (Int.toNat v0.1.1) (0 : Nat)) ≤ (32767 : Int)) ∧
   (Ob (True) ∧
   (Ob ((0 : Int) ≤ v0.1.1 ∧ v0.1.1 < (↑(32 : Nat) : Int)) ∧
   (Ob ((0 : Nat) + ((0 : Nat) + Int.toNat v0.1.1 * (1 : Nat)) < (32 : Nat)) ∧
   (∃ (v1 : (Int × List (List Int) × List Nat) × Nat), (Ob ((Option.bind (iter (F_Run_b0 b) v1.2 v1.1) fun y0 => Option.bind (F_Run_r0 y0) some) = some r) ∧
   (Ob (v1.2 < v0.2) ∧
   (Ob ((0 : Nat) = (0 : Nat)) ∧
   (Ob ((0 : Nat) = (0 : Nat)) ∧
   (Ob (b = b) ∧
   (Ob (IntKind.wrap IntKind.i64 (v0.1.1 + (1 : Int)) = v1.1.1) ∧
   (Ob ([(0 : Nat), (0 : Nat), (0 : Nat), (0 : Nat), (0 : Nat), (0 : Nat), (0 : Nat), (0 : Nat), (0 : Nat), (0 : Nat), (0 : Nat), (0 : Nat), (0 : Nat), (0 : Nat), (0 : Nat), (0 : Nat), (0 : Nat), (0 : Nat), (0 : Nat), (0 : Nat), (0 : Nat), (0 : Nat), (0 : Nat), (0 : Nat), (0 : Nat), (0 : Nat), (0 : Nat), (0 : Nat), (0 : Nat), (0 : Nat), (0 : Nat), (0 : Nat)] = [(0 : Nat), (0 : Nat), (0 : Nat), (0 : Nat), (0 : Nat), (0 : Nat), (0 : Nat), (0 : Nat), (0 : Nat), (0 : Nat), (0 : Nat), (0 : Nat), (0 : Nat), (0 : Nat), (0 : Nat), (0 : Nat), (0 : Nat), (0 : Nat), (0 : Nat), (0 : Nat), (0 : Nat), (0 : Nat), (0 : Nat), (0 : Nat), (0 : Nat), (0 : Nat), (0 : Nat), (0 : Nat), (0 : Nat), (0 : Nat), (0 : Nat), (0 : Nat)]) ∧
   (Ob (Sx06.putUs v0.1.2.1 (f2i FloatKind.f32 (List.getD b (Int.toNat v0.1.1) (0 : Nat))) = v1.1.2.1) ∧
   (Ob (setF (32 : Nat) v0.1.2.2 ((0 : Nat) + ((0 : Nat) + Int.toNat v0.1.1 * (1 : Nat))) (FloatKind.nearest FloatKind.f32 (Sx06.outUs v0.1.2.1 (f2i FloatKind.f32 (List.getD b (Int.toNat v0.1.1) (0 : Nat))))) = v1.1.2.2) ∧
   True)))))))))))))))))
   ((Ob (True) ∧
   (Ob (ok (F_chain_states v0.1.2.1)) ∧
   (Ob (ok (F_chain_cuts v0.1.2.1)) ∧
   (Ob (True) ∧
   (Ob (True) ∧
   (Ob (True) ∧
   (Ob (True) ∧
   (Ob (True) ∧
   (Ob (r.1 = v0.1.2.2) ∧
   (Ob (val (F_chain_states v0.1.2.1) = r.2.1) ∧
   (Ob (val (F_chain_cuts v0.1.2.1) = r.2.2.1) ∧
   (Ob ((0 : Int) = r.2.2.2) ∧
   True)))))))))))))))))))))
   (Br (Option.getD (List.find? (fun x => x != (0 : Int)) [Sx06.chkE c, val (F_samplesErr (List.take (32 : Nat) (List.drop (0 : Nat) b)))]) (0 : Int) != (0 : Int))
   ((Ob (True) ∧
   (Ob (True) ∧
   (Ob (True) ∧
   (Ob (True) ∧
   (Ob (True) ∧
   (Ob (r.1 = [(0 : Nat), (0 : Nat), (0 : Nat), (0 : Nat), (0 : Nat), (0 : Nat), (0 : Nat), (0 : Nat), (0 : Nat), (0 : Nat), (0 : Nat), (0 : Nat), (0 : Nat), (0 : Nat), (0 : Nat), (0 : Nat), (0 : Nat), (0 : Nat), (0 : Nat), (0 : Nat), (0 : Nat), (0 : Nat), (0 : Nat), (0 : Nat), (0 : Nat), (0 : Nat), (0 : Nat), (0 : Nat), (0 : Nat), (0 : Nat), (0 : Nat), (0 : Nat)]) ∧
   (Ob (List.length r.2.1 = (0 : Nat)) ∧
   (Ob ((0 : Int) = r.2.2.1) ∧
   (Ob (Option.getD (List.find? (fun x => x != (0 : Int)) [Sx06.chkE c, val (F_samplesErr (List.take (32 : Nat) (List.drop (0 : Nat) b)))]) (0 : Int) = r.2.2.2) ∧
   True))))))))))
   ((Ob (List.length c ≤ List.length s ∧ List.length c ≤ (1000000 : Nat)) ∧
   (Ob (True) ∧
   ((∃ (v0 : (Int × List (List Int) × List Nat) × Nat), (Ob ((Option.bind (iter (F_Run_b0 b) v0.2 v0.1) fun y0 => Option.bind (F_Run_r0 y0) some) = some r) ∧
   (Ob ((0 : Nat) = (0 : Nat)) ∧
   (Ob ((0 : Nat) = (0 : Nat)) ∧
   (Ob (b = b) ∧
   (Ob ((0 : Int) = v0.1.1) ∧
   (Ob ([(0 : Nat), (0 : Nat), (0 : Nat), (0 : Nat), (0 : Nat), (0 : Nat), (0 : Nat), (0 : Nat), (0 : Nat), (0 : Nat), (0 : Nat), (0 : Nat), (0 : Nat), (0 : Nat), (0 : Nat), (0 : Nat), (0 : Nat), (0 : Nat), (0 : Nat), (0 : Nat), (0 : Nat), (0 : Nat), (0 : Nat), (0 : Nat), (0 : Nat), (0 : Nat), (0 : Nat), (0 : Nat), (0 : Nat), (0 : Nat), (0 : Nat), (0 : Nat)] = [(0 : Nat), (0 : Nat), (0 : Nat), (0 : Nat), (0 : Nat), (0 : Nat), (0 : Nat), (0 : Nat), (0 : Nat), (0 : Nat), (0 : Nat), (0 : Nat), (0 : Nat), (0 : Nat), (0 : Nat), (0 : Nat), (0 : Nat), (0 : Nat), (0 : Nat), (0 : Nat), (0 : Nat), (0 : Nat), (0 : Nat), (0 : Nat), (0 : Nat), (0 : Nat), (0 : Nat), (0 : Nat), (0 : Nat), (0 : Nat), (0 : Nat), (0 : Nat)]) ∧
   (Ob (Sx06.mkUs c s (List.length c) = v0.1.2.1) ∧
   (Ob ([(0 : Nat), (0 : Nat), (0 : Nat), (0 : Nat), (0 : Nat), (0 : Nat), (0 : Nat), (0 : Nat), (0 : Nat), (0 : Nat), (0 : Nat), (0 : Nat), (0 : Nat), (0 : Nat), (0 : Nat), (0 : Nat), (0 : Nat), (0 : Nat), (0 : Nat), (0 : Nat), (0 : Nat), (0 : Nat), (0 : Nat), (0 : Nat), (0 : Nat), (0 : Nat), (0 : Nat), (0 : Nat), (0 : Nat), (0 : Nat), (0 : Nat), (0 : Nat)] = v0.1.2.2) ∧
   True))))))))) ∧
   (∀ (v0 : (Int × List (List Int) × List Nat) × Nat), ((Option.bind (iter (F_Run_b0 b) v0.2 v0.1) fun y0 => Option.bind (F_Run_r0 y0) some) = some r →
   Br (decide (v0.1.1 < (32 : Int)))
   ((Ob ((0 : Int) ≤ v0.1.1 ∧ v0.1.1 < (↑(32 : Nat) : Int)) ∧
   (Ob (f2iOk FloatKind.f32 IntKind.i64 (List.getD b (Int.toNat v0.1.1) (0 : Nat)) = true) ∧
   (Ob (List.length v0.1.2.1 ≤ (1000000 : Nat) ∧ (∀ (u : List Int), u ∈ v0.1.2.1 → Sx06.okU u) ∧ (-32767 : Int) ≤ f2i FloatKind.f32 (List.getD b (Int.toNat v0.1.1) (0 : Nat)) ∧ f2i FloatKind.f32 (List.getD b (Int.toNat v0.1.1) (0 : Nat)) ≤ (32767 : Int)) ∧
   (Ob (True) ∧
   (Ob ((0 : Int) ≤ v0.1.1 ∧ v0.1.1 < (↑(32 : Nat) : Int)) ∧
   (Ob ((0 : Nat) + ((0 : Nat) + Int.toNat v0.1.1 * (1 : Nat)) < (32 : Nat)) ∧
   (∃ (v1 : (Int × List (List Int) × List Nat) × Nat), (Ob ((Option.bind (iter (F_Run_b0 b) v1.2 v1.1) fun y0 => Option.bind (F_Run_r0 y0) some) = some r) ∧
   (Ob (v1.2 < v0.2) ∧
   (Ob ((0 : Nat) = (0 : Nat)) ∧
   (Ob ((0 : Nat) = (0 : Nat)) ∧
   (Ob (b = b) ∧
   (Ob (IntKind.wrap IntKind.i64 (v0.1.1 + (1 : Int)) = v1.1.1) ∧
   (Ob ([(0 : Nat), (0 : Nat), (0 : Nat), (0 : Nat), (0 : Nat), (0 : Nat), (0 : Nat), (0 : Nat), (0 : Nat), (0 : Nat), (0 : Nat), (0 : Nat), (0 : Nat), (0 : Nat), (0 : Nat), (0 : Nat), (0 : Nat), (0 : Nat), (0 : Nat), (0 : Nat), (0 : Nat), (0 : Nat), (0 : Nat), (0 : Nat), (0 : Nat), (0 : Nat), (0 : Nat), (0 : Nat), (0 : Nat), (0 : Nat), (0 : Nat), (0 : Nat)] = [(0 : Nat), (0 : Nat), (0 : Nat), (0 : Nat), (0 : Nat), (0 : Nat), (0 : Nat), (0 : Nat), (0 : Nat), (0 : Nat), (0 : Nat), (0 : Nat), (0 : Nat), (0 : Nat), (0 : Nat), (0 : Nat), (0 : Nat), (0 : Nat), (0 : Nat), (0 : Nat), (0 : Nat), (0 : Nat), (0 : Nat), (0 : Nat), (0 : Nat), (0 : Nat), (0 : Nat), (0 : Nat), (0 : Nat), (0 : Nat), (0 : Nat), (0 : Nat)]) ∧
   (Ob (Sx06.putUs v0.1.2.1 (f2i FloatKind.f32 (List.getD b (Int.toNat v0.1.1) (0 : Nat))) = v1.1.2.1) ∧
   (Ob (setF (32 : Nat) v0.1.2.2 ((0 : Nat) + ((0 : Nat) + Int.toNat v0.1.1 * (1 : Nat))) (FloatKind.nearest FloatKind.f32 (Sx06.outUs v0.1.2.1 (f2i FloatKind.f32 (List.getD b (Int.toNat v0.1.1) (0 : Nat))))) = v1.1.2.2) ∧
   True)))))))))))))))))
   ((Ob (True) ∧
   (Ob (ok (F_chain_states v0.1.2.1)) ∧
   (Ob (ok (F_chain_cuts v0.1.2.1)) ∧
   (Ob (True) ∧
   (Ob (True) ∧
   (Ob (True) ∧
   (Ob (True) ∧
   (Ob (True) ∧
   (Ob (r.1 = v0.1.2.2) ∧
   (Ob (val (F_chain_states v0.1.2.1) = r.2.1) ∧
   (Ob (val (F_chain_cuts v0.1.2.1) = r.2.2.1) ∧
   (Ob ((0 : Int) = r.2.2.2) ∧
   True))))))))))))))))))))))))) = _) ?_
  refine ob_s h fun h => ?_
  refine ob_s h fun h => ?_
  refine call_s h fun h => ?_
  refine ob_s h fun h => ?_
  refine br_b h (fun h => ?_) (fun h => ?_)
  · refine call_s h fun h => ?_
    refine br_b h (fun h => ?_) (fun h => ?_)
    · refine ob_t ?_
      refine ob_t ?_
      refine ob_t ?_
      refine ob_t ?_
      refine ob_t ?_
      exact ret_s h (fun e => by subst e; exact (by repeat' (first | exact trivial | exact ⟨rfl⟩ | refine And.intro ?_ ?_)))
    · refine ob_s h fun h => ?_
      refine ob_t ?_
      refine ⟨⟨(((0 : Int), Sx06.mkUs c s (List.length c), [(0 : Nat), (0 : Nat), (0 : Nat), (0 : Nat), (0 : Nat), (0 : Nat), (0 : Nat), (0 : Nat), (0 : Nat), (0 : Nat), (0 : Nat), (0 : Nat), (0 : Nat), (0 : Nat), (0 : Nat), (0 : Nat), (0 : Nat), (0 : Nat), (0 : Nat), (0 : Nat), (0 : Nat), (0 : Nat), (0 : Nat), (0 : Nat), (0 : Nat), (0 : Nat), (0 : Nat), (0 : Nat), (0 : Nat), (0 : Nat), (0 : Nat), (0 : Nat)]), big), ⟨loop_s h⟩, (by repeat' (first | exact trivial | exact ⟨rfl⟩ | refine And.intro ?_ ?_))⟩, fun z4 hz4 => ?_⟩
      obtain ⟨k4, hm4, h⟩ := iter_pos hz4
      refine br_d h (fun h => ?_) (fun h => ?_)
      · refine ob_s h fun h => ?_
        refine ob_s h fun h => ?_
        refine ob_s h fun h => ?_
        refine ob_t ?_
        refine ob_s h fun h => ?_
        refine ob_s h fun h => ?_
        exact ⟨((IntKind.wrap IntKind.i64 ((Prod.fst z4).1 + (1 : Int)), Sx06.putUs (Prod.fst z4).2.1 (f2i FloatKind.f32 (List.getD b (Int.toNat (Prod.fst z4).1) (0 : Nat))), setF (32 : Nat) (Prod.fst z4).2.2 ((0 : Nat) + ((0 : Nat) + Int.toNat (Prod.fst z4).1 * (1 : Nat))) (FloatKind.nearest FloatKind.f32 (Sx06.outUs (Prod.fst z4).2.1 (f2i FloatKind.f32 (List.getD b (Int.toNat (Prod.fst z4).1) (0 : Nat)))))), k4), ⟨next_s h⟩, ⟨lt_gs hm4.symm⟩, (by repeat' (first | exact trivial | exact ⟨rfl⟩ | refine And.intro ?_ ?_))⟩
      · have h := exit_s h
        refine ob_t ?_
        refine call_s h fun h => ?_
        refine call_s h fun h => ?_
        refine ob_t ?_
        refine ob_t ?_
        refine ob_t ?_
        refine ob_t ?_
        refine ob_t ?_
        exact ret_s h (fun e => by subst e; exact (by repeat' (first | exact trivial | exact ⟨rfl⟩ | refine And.intro ?_ ?_)))
  · refine br_b h (fun h => ?_) (fun h => ?_)
    · refine ob_t ?_
      refine ob_t ?_
      refine ob_t ?_
      refine ob_t ?_
      refine ob_t ?_
      exact ret_s h (fun e => by subst e; exact (by repeat' (first | exact trivial | exact ⟨rfl⟩ | refine And.intro ?_ ?_)))
    · exact nomatch h
set_option maxRecDepth 100000 in
theorem F_Run_ok : SpecOK Try.prog 68 true (pureT k_F_Run g_F_Run) := by
  refine pureT_ok (sp := (sp_86 (sp_107 (sp_85 (sp_71 (sp_108 (sp_109 (sp_117 (sp_110 sp0))))))))) (fn := Try.f68) (body := bodyOf Try.f68) mixed (sp_86_ok (sp_107_ok (sp_85_ok (sp_71_ok (sp_108_ok (sp_109_ok (sp_117_ok (sp_110_ok sp0_ok)))))))) Try.func68 (by kernel_rfl) (by kernel_rfl) fun ls t h ho b hb => ?_
  unfold g_F_Run at h
  split at h
  · rename_i c b s
    cases h
    obtain rfl := bld_eq hb
    exact ⟨Nat.le_of_ble_eq_true (by kernel_rfl), _, _, F_Run_vc c b s _ (ok_some ho)⟩
  · cases h
theorem sp_68_ok {sp : Specs} (h : SpecsOK Try.prog sp) : SpecsOK Try.prog (sp_68 sp) := addK_ok F_Run_ok h

def k_L06_FilterRuns : List SV := [.c (.r (.recs 5 [])), .c (.r (.ints .i64 [])), .a [.r (.recs 4 []), .r (.floats .f32 [])]]
def L06_FilterRuns_b0 (x_Raw : List Nat) (x0 : (Int × List Nat)) : Option ((Int × List Nat) ⊕ (List Nat)) :=
  if x0.1 < (↑(List.length x_Raw) : Int) then
   if (0 : Int) ≤ x0.1 ∧ x0.1 < (↑(List.length x_Raw) : Int) then
   if Int.toNat x0.1 < List.length x_Raw then
   if (0 : Int) ≤ x0.1 ∧ x0.1 < (↑(32 : Nat) : Int) then
   if (0 : Nat) + ((0 : Nat) + Int.toNat x0.1 * (1 : Nat)) < (32 : Nat) then
   some (.inl ((IntKind.wrap IntKind.i64 (x0.1 + (1 : Int)), setF (32 : Nat) x0.2 ((0 : Nat) + ((0 : Nat) + Int.toNat x0.1 * (1 : Nat))) (List.getD x_Raw (Int.toNat x0.1) (0 : Nat)))))
   else none
   else none
   else none
   else none
  else
   some (.inr x0.2)
def L06_FilterRuns_r0 (c : List (List Int)) (x_List : List (List Int)) (y0_0 : List Nat) : Option Bool :=
  Option.bind (R06_Copy c) fun r2 =>
  Option.bind (R06_CopyStates x_List) fun r3 =>
  Option.bind (F_Run r2 y0_0 r3) fun r4 =>
  Option.bind (R06_Copy c) fun r5 =>
  Option.bind (F_NewState r2) fun r6 =>
  Option.bind (R06_Copy c) fun r7 =>
  Option.bind (R06_CopyStates x_List) fun r8 =>
  Option.bind (F_CheckState r2 r3) fun r9 =>
  Option.bind (R06_CheckCascade c) fun r10 =>
  if (r10.2 != (0 : Int)) = true then
   if (r4.2.2.2 == r10.2) = true then
   if (r6.2 == r10.2) = true then
   if (r9.2 == r10.2) = true then
   Option.bind (B_SameBlock r4.1 [(0 : Nat), (0 : Nat), (0 : Nat), (0 : Nat), (0 : Nat), (0 : Nat), (0 : Nat), (0 : Nat), (0 : Nat), (0 : Nat), (0 : Nat), (0 : Nat), (0 : Nat), (0 : Nat), (0 : Nat), (0 : Nat), (0 : Nat), (0 : Nat), (0 : Nat), (0 : Nat), (0 : Nat), (0 : Nat), (0 : Nat), (0 : Nat), (0 : Nat), (0 : Nat), (0 : Nat), (0 : Nat), (0 : Nat), (0 : Nat), (0 : Nat), (0 : Nat)]) fun r11 =>
   if (r11) = true then
   if (IntKind.wrap IntKind.i64 ((↑(List.length r4.2.1) : Int) + (↑(List.length r6.1) : Int)) == (0 : Int)) = true then
   if (r4.2.2.1 == (0 : Int)) = true then
   some (r9.1 == (0 : Int))
   else
   some false
   else
   some false
   else
   some false
   else
   some false
   else
   some false
   else
   some false
  else
   Option.bind (R06_CheckState c x_List) fun r12 =>
   if (r6.2 != (0 : Int)) = true then
   some false
   else
   Option.bind (R06_NewState c) fun r13 =>
   Option.bind (R06_SameStates r6.1 r13) fun r14 =>
   if (!r14) = true then
   some false
   else
   if (r9.2 != r12.2) = true then
   some false
   else
   if (r9.1 != r12.1) = true then
   some false
   else
   if List.length y0_0 = (32 : Nat) ∧ (0 : Int) ≤ Option.getD none (0 : Int) ∧ Option.getD none (0 : Int) ≤ Option.getD none (↑(32 : Nat) : Int) ∧ Option.getD none (↑(32 : Nat) : Int) ≤ (↑(32 : Nat) : Int) then
   Option.bind (R06_SamplesErr (List.take (32 : Nat) (List.drop (0 : Nat) y0_0))) fun r15 =>
   if (r15 == (0 : Int)) = true then
   if (r12.2 != (0 : Int)) = true then
   if (r4.2.2.2 == r12.2) = true then
   Option.bind (B_SameBlock r4.1 [(0 : Nat), (0 : Nat), (0 : Nat), (0 : Nat), (0 : Nat), (0 : Nat), (0 : Nat), (0 : Nat), (0 : Nat), (0 : Nat), (0 : Nat), (0 : Nat), (0 : Nat), (0 : Nat), (0 : Nat), (0 : Nat), (0 : Nat), (0 : Nat), (0 : Nat), (0 : Nat), (0 : Nat), (0 : Nat), (0 : Nat), (0 : Nat), (0 : Nat), (0 : Nat), (0 : Nat), (0 : Nat), (0 : Nat), (0 : Nat), (0 : Nat), (0 : Nat)]) fun r16 =>
   if (r16) = true then
   if ((↑(List.length r4.2.1) : Int) == (0 : Int)) = true then
   some (r4.2.2.1 == (0 : Int))
   else
   some false
   else
   some false
   else
   some false
   else
   if List.length y0_0 = (32 : Nat) ∧ (0 : Int) ≤ Option.getD none (0 : Int) ∧ Option.getD none (0 : Int) ≤ Option.getD none (↑(32 : Nat) : Int) ∧ Option.getD none (↑(32 : Nat) : Int) ≤ (↑(32 : Nat) : Int) then
   Option.bind (R06_Numbers (List.take (32 : Nat) (List.drop (0 : Nat) y0_0))) fun r17 =>
   Option.bind (R06_Through c r17 x_List) fun r18 =>
   if (r4.2.2.2 == (0 : Int)) = true then
   Option.bind (R06_BlockOf r18.1) fun r19 =>
   Option.bind (B_SameBlock r4.1 r19) fun r20 =>
   if (r20) = true then
   Option.bind (R06_SameStates r4.2.1 r18.2.1) fun r21 =>
   if (r21) = true then
   some (r4.2.2.1 == r18.2.2)
   else
   some false
   else
   some false
   else
   some false
   else none
   else
   if (r15 != (0 : Int)) = true then
   if (r4.2.2.2 == r15) = true then
   Option.bind (B_SameBlock r4.1 [(0 : Nat), (0 : Nat), (0 : Nat), (0 : Nat), (0 : Nat), (0 : Nat), (0 : Nat), (0 : Nat), (0 : Nat), (0 : Nat), (0 : Nat), (0 : Nat), (0 : Nat), (0 : Nat), (0 : Nat), (0 : Nat), (0 : Nat), (0 : Nat), (0 : Nat), (0 : Nat), (0 : Nat), (0 : Nat), (0 : Nat), (0 : Nat), (0 : Nat), (0 : Nat), (0 : Nat), (0 : Nat), (0 : Nat), (0 : Nat), (0 : Nat), (0 : Nat)]) fun r22 =>
   if (r22) = true then
   if ((↑(List.length r4.2.1) : Int) == (0 : Int)) = true then
   some (r4.2.2.1 == (0 : Int))
   else
   some false
   else
   some false
   else
   some false
   else
   none /- decided -/
   else none
/-- shoebox/shoeboxlaw06.FilterRuns -/
def L06_FilterRuns (c : List (List Int)) (b : List Int) (x_List : List (List Int)) (x_Raw : List Nat) : Option Bool :=
  Option.bind (L06_few c) fun r0 =>
  if (!r0) = true then
   some true
  else
   if (↑(List.length b) : Int) > (32 : Int) then
   some true
   else
   if (↑(List.length x_List) : Int) > (10 : Int) then
   some true
   else
   if (↑(List.length x_Raw) : Int) > (4 : Int) then
   some true
   else
   Option.bind (R06_BlockOf b) fun r1 =>
   Option.bind (iter (L06_FilterRuns_b0 x_Raw) big (((0 : Int), r1))) (L06_FilterRuns_r0 c x_List)
def g_L06_FilterRuns : List Lf → Option GT
  | [.r (.recs 5 c), .r (.ints .i64 b), .r (.recs 4 x_List), .r (.floats .f32 x_Raw)] => some (.leaf (ok (L06_FilterRuns c b x_List x_Raw)) [.c (.d (.b ((val (L06_FilterRuns c b x_List x_Raw)))))])
  | _ => none
abbrev sp_13 : Specs → Specs := addK 13 true (pureT k_L06_FilterRuns g_L06_FilterRuns)
set_option maxRecDepth 100000 in
theorem L06_FilterRuns_vc (c : List (List Int)) (b : List Int) (x_List : List (List Int)) (x_Raw : List Nat) (r : Bool) (h : Option.bind (L06_FilterRuns c b x_List x_Raw) some = some r) : runT Try.f13 ((sp_18 (sp_24 (sp_68 (sp_70 (sp_27 (sp_69 (sp_71 (sp_30 (sp_73 (sp_64 (sp_61 (sp_63 (sp_62 (sp_67 (sp_72 (sp_74 sp0))))))))))))))))) (fun gs id _ => match id with
 | 0 => some ⟨(Int × List Nat) × Nat, fun z => ⟨[(0, .w (.c (.o 0))), (5, .w (.c (.p 4 (0 : Nat) 1 (0 : Nat)))), (7, .w (.c (.p 5 (0 : Nat) 1 (0 : Nat)))), (8, .w (.c (.d (.i .i64 (Prod.fst (Prod.fst z))))))], [(0, .ext (.recs 5 c)), (4, .box 120 [.o 2, .o 3]), (5, .arr 122 .f32 32 (Prod.snd (Prod.fst z))), (2, .ext (.recs 4 x_List)), (3, .ext (.floats .f32 x_Raw))], 6⟩, fun z => Option.bind (iter (L06_FilterRuns_b0 x_Raw) (Prod.snd z) (Prod.fst z)) (fun y0 => Option.bind (L06_FilterRuns_r0 c x_List y0) some) = some r, fun z => Prod.snd z⟩
 | _ => none) (bldD k_L06_FilterRuns [.r (.recs 5 c), .r (.ints .i64 b), .r (.recs 4 x_List), .r (.floats .f32 x_Raw)]) [.c (.d (.b r))] := by
  refine Eq.mp (by kernel_rfl : (
  (Ob (ok L06_awake) ∧
   (Ob (ok (L06_few c)) ∧
   Br (!val (L06_few c))
   ((Ob (True) ∧
   (Ob (true = r) ∧
   True)))
   (Br (decide ((↑(List.length b) : Int) > (32 : Int)))
   ((Ob (True) ∧
   (Ob (true = r) ∧
   True)))
   (Br (decide ((↑(List.length x_List) : Int) > (10 : Int)))
   ((Ob (True) ∧
   (Ob (true = r) ∧
   True)))
   (Br (decide ((↑(List.length x_Raw) : Int) > (4 : Int)))
   ((Ob (True) ∧
   (Ob (true = r) ∧
   True)))
   ((Ob (ok (R06_BlockOf b)) ∧
   (Ob (True) ∧
   ((∃ (v0 : (Int × List Nat) × Nat), (Ob ((Option.bind (iter (L06_FilterRuns_b0 x_Raw) v0.2 v0.1) fun y0 => Option.bind (L06_FilterRuns_r0 c x_List y0) some) = some r) ∧
   (Ob ((0 : Nat) = (0 : Nat)) ∧
   (Ob ((0 : Nat) = (0 : Nat)) ∧
   (Ob ((0 : Int) = v0.1.1) ∧
   (Ob (c = c) ∧
   (Ob (val (R06_BlockOf b) = v0.1.2) ∧
   (Ob (x_List = x_List) ∧
   (Ob (x_Raw = x_Raw) ∧
   True))))))))) ∧
   (∀ (v0 : (Int × List Nat) × Nat), ((Option.bind (iter (L06_FilterRuns_b0 x_Raw) v0.2 v0.1) fun y0 => Option.bind (L06_FilterRuns_r0 c x_List y0) some) = some r →
   Br (decide (v0.1.1 < (↑(List.length x_Raw) : Int)))
   ((Ob ((0 : Int) ≤ v0.1.1 ∧ v0.1.1 < (↑(List.length x_Raw) : Int)) ∧
   (Ob (Int.toNat v0.1.1 < List.length x_Raw) ∧
   (Ob ((0 : Int) ≤ v0.1.1 ∧ v0.1.1 < (↑(32 : Nat) : Int)) ∧
   (Ob ((0 : Nat) + ((0 : Nat) + Int.toNat v0.1.1 * (1 : Nat)) < (32 : Nat)) ∧
   (∃ (v1 : (Int × List Nat) × Nat), (Ob ((Option.bind (iter (L06_FilterRuns_b0 x_Raw) v1.2 v1.1) fun y0 => Option.bind (L06_FilterRuns_r0 c x_List y0) some) = some r) ∧
   (Ob (v1.2 < v0.2) ∧
   (Ob ((0 : Nat) = (0 : Nat)) ∧
   (Ob ((0 : Nat) = (0 : Nat)) ∧
   (Ob (IntKind.wrap IntKind.i64 (v0.1.1 + (1 : Int)) = v1.1.1) ∧
   (Ob (c = c) ∧
   (Ob (setF (32 : Nat) v0.1.2 ((0 : Nat) + ((0 : Nat) + Int.toNat v0.1.1 * (1 : Nat))) (List.getD x_Raw (Int.toNat v0.1.1) (0 : Nat)) = v1.1.2) ∧
   (Ob (x_List = x_List) ∧
   (Ob (x_Raw = x_Raw) ∧
   True)))))))))))))))
   ((Ob (ok (R06_Copy c)) ∧
   (Ob (True) ∧
   (Ob (ok (R06_CopyStates x_List)) ∧
   (Ob (ok (F_Run (val (R06_Copy c)) v0.1.2 (val (R06_CopyStates x_List)))) ∧
   (Ob (True) ∧
   (Ob (ok (R06_Copy c)) ∧
   (Ob (ok (F_NewState (val (R06_Copy c)))) ∧
   (Ob (ok (R06_Copy c)) ∧
   (Ob (ok (R06_CopyStates x_List)) ∧
   (Ob (ok (F_CheckState (val (R06_Copy c)) (val (R06_CopyStates x_List)))) ∧
   (Ob (ok (R06_CheckCascade c)) ∧
   Br ((val (R06_CheckCascade c)).2 != (0 : Int))
   (Br ((val (F_Run (val (R06_Copy c)) v0.1.2 (val (R06_CopyStates x_List)))).2.2.2 == (val (R06_CheckCascade c)).2)
   (Br ((val (F_NewState (val (R06_Copy c)))).2 == (val (R06_CheckCascade c)).2)
   (Br ((val (F_CheckState (val (R06_Copy c)) (val (R06_CopyStates x_List)))).2 == (val (R06_CheckCascade c)).2)
   ((Ob (True) ∧
   (Ob (ok (B_SameBlock (val (F_Run (val (R06_Copy c)) v0.1.2 (val (R06_CopyStates x_List)))).1 [(0 : Nat), (0 : Nat), (0 : Nat), (0 : Nat), (0 : Nat), (0 : Nat), (0 : Nat), (0 : Nat), (0 : Nat), (0 : Nat), (0 : Nat), (0 : Nat), (0 : Nat), (0 : Nat), (0 : Nat), (0 : Nat), (0 : Nat), (0 : Nat), (0 : Nat), (0 : Nat), (0 : Nat), (0 : Nat), (0 : Nat), (0 : Nat), (0 : Nat), (0 : Nat), (0 : Nat), (0 : Nat), (0 : Nat), (0 : Nat), (0 : Nat), (0 : Nat)])) ∧
   Br (val (B_SameBlock (val (F_Run (val (R06_Copy c)) v0.1.2 (val (R06_CopyStates x_List)))).1 [(0 : Nat), (0 : Nat), (0 : Nat), (0 : Nat), (0 : Nat), (0 : Nat), (0 : Nat), (0 : Nat), (0 : Nat), (0 : Nat), (0 : Nat), (0 : Nat), (0 : Nat), (0 : Nat), (0 : Nat), (0 : Nat), (0 : Nat), (0 : Nat), (0 : Nat), (0 : Nat), (0 : Nat), (0 : Nat), (0 : Nat), (0 : Nat), (0 : Nat), (0 : Nat), (0 : Nat), (0 : Nat), (0 : Nat), (0 : Nat), (0 : Nat), (0 : Nat)]))
   (Br (IntKind.wrap IntKind.i64 ((↑(List.length (val (F_Run (val (R06_Copy c)) v0.1.2 (val (R06_CopyStates x_List)))).2.1) : Int) + (↑(List.length (val (F_NewState (val (R06_Copy c)))).1) : Int)) == (0 : Int))
   (Br ((val (F_Run (val (R06_Copy c)) v0.1.2 (val (R06_CopyStates x_List)))).2.2.1 == (0 : Int))
   ((Ob (True) ∧
   (Ob (((val (F_CheckState (val (R06_Copy c)) (val (R06_CopyStates x_List)))).1 == (0 : Int)) = r) ∧
   True)))
   ((Ob (True) ∧
   (Ob (false = r) ∧
   True))))
   ((Ob (True) ∧
   (Ob (false = r) ∧
   True))))
   ((Ob (True) ∧
   (Ob (false = r) ∧
   True))))))
   ((Ob (True) ∧
   (Ob (false = r) ∧
   True))))
   ((Ob (True) ∧
   (Ob (false = r) ∧
   True))))
   ((Ob (True) ∧
   (Ob (false = r) ∧
   True))))
   ((Ob (ok (R06_CheckState c x_List)) ∧
   Br ((val (F_NewState (val (R06_Copy c)))).2 != (0 : Int))
   ((Ob (True) ∧
   (Ob (false = r) ∧
   True)))
   ((Ob (ok (R06_NewState c)) ∧
   (Ob (ok (R06_SameStates (val (F_NewState (val (R06_Copy c)))).1 (val (R06_NewState c)))) ∧
   Br (!val (R06_SameStates (val (F_NewState (val (R06_Copy c)))).1 (val (R06_NewState c))))
   ((Ob (True) ∧
   (Ob (false = r) ∧
   True)))
   (Br ((val (F_CheckState (val (R06_Copy c)) (val (R06_CopyStates x_List)))).2 != (val (R06_CheckState c x_List)).2)
   ((Ob (True) ∧
   (Ob (false = r) ∧
   True)))
   (Br ((val (F_CheckState (val (R06_Copy c)) (val (R06_CopyStates x_List)))).1 != (val (R06_CheckState c x_List)).1)
   ((Ob (True) ∧
   (Ob (false = r) ∧
   True)))
   ((Ob (List.length v0.1.2 = (32 : Nat) ∧ (0 : Int) ≤ Option.getD none (0 : Int) ∧ Option.getD none (0 : Int) ≤ Option.getD none (↑(32 : Nat) : Int) ∧ Option.getD none (↑(32 : Nat) : Int) ≤ (↑(32 : Nat) : Int)) ∧
   (Ob (ok (R06_SamplesErr (List.take (32 : Nat) (List.drop (0 : Nat) v0.1.2)))) ∧
   Br (val (R06_SamplesErr (List.take (32 : Nat) (List.drop (0 : Nat) v0.1.2))) == (0 : Int))
   (Br ((val (R06_CheckState c x_List)).2 != (0 : Int))
   (Br ((val (F_Run (val (R06_Copy c)) v0.1.2 (val (R06_CopyStates x_List)))).2.2.2 == (val (R06_CheckState c x_List)).2)
   ((Ob (True) ∧
   (Ob (ok (B_SameBlock (val (F_Run (val (R06_Copy c)) v0.1.2 (val (R06_CopyStates x_List)))).1 [(0 : Nat), (0 : Nat), (0 : Nat), (0 : Nat), (0 : Nat), (0 : Nat), (0 : Nat), (0 : Nat), (0 : Nat), (0 : Nat), (0 : Nat), (0 : Nat), (0 : Nat), (0 : Nat), (0 : Nat), (0 : Nat), (0 : Nat), (0 : Nat), (0 : Nat), (0 : Nat), (0 : Nat), (0 : Nat), (0 : Nat), (0 : Nat), (0 : Nat), (0 : Nat), (0 : Nat), (0 : Nat), (0 : Nat), (0 : Nat), (0 : Nat), (0 : Nat)])) ∧
   Br (val (B_SameBlock (val (F_Run (val (R06_Copy c)) v0.1.2 (val (R06_CopyStates x_List)))).1 [(0 : Nat), (0 : Nat), (0 : Nat), (0 : Nat), (0 : Nat), (0 : Nat), (0 : Nat), (0 : Nat), (0 : Nat), (0 : Nat), (0 : Nat), (0 : Nat), (0 : Nat), (0 : Nat), (0 : Nat), (0 : Nat), (0 : Nat), (0 : Nat), (0 : Nat), (0 : Nat), (0 : Nat), (0 : Nat), (0 : Nat), (0 : Nat), (0 : Nat), (0 : Nat), (0 : Nat), (0 : Nat), (0 : Nat), (0 : Nat), (0 : Nat), (0 : Nat)]))
   (Br ((↑(List.length (val (F_Run (val (R06_Copy c)) v0.1.2 (val (R06_CopyStates x_List)))).2.1) : Int) == (0 : Int))
   ((Ob (True) ∧
   (Ob (((val (F_Run (val (R06_Copy c)) v0.1.2 (val (R06_CopyStates x_List)))).2.2.1 == (0 : Int)) = r) ∧
   True)))
   ((Ob (True) ∧
   (Ob (false = r) ∧
   True))))
   ((Ob (True) ∧
   (Ob (false = r) ∧
   True))))))
   ((Ob (True) ∧
   (Ob (false = r) ∧
   True))))
   ((Ob (List.length v0.1.2 = (32 : Nat) ∧ (0 : Int) ≤ Option.getD none (0 : Int) ∧ Option.getD none (0 : Int) ≤ Option.getD none (↑(32 : Nat) : Int) ∧ Option.getD none (↑(32 : Nat) : Int) ≤ (↑(32 : Nat) : Int)) ∧
   (Ob (ok (R06_Numbers (List.take (32 : Nat) (List.drop (0 : Nat) v0.1.2)))) ∧
   (Ob (ok (R06_Through c (val (R06_Numbers (List.take (32 : Nat) (List.drop (0 : Nat) v0.1.2)))) x_List)) ∧
   Br ((val (F_Run (val (R06_Copy c)) v0.1.2 (val (R06_CopyStates x_List)))).2.2.2 == (0 : Int))
   ((Ob (True) ∧
   (Ob (ok (R06_BlockOf (val (R06_Through c (val (R06_Numbers (List.take (32 : Nat) (List.drop (0 : Nat) v0.1.2)))) x_List)).1)) ∧
   (Ob (ok (B_SameBlock (val (F_Run (val (R06_Copy c)) v0.1.2 (val (R06_CopyStates x_List)))).1 (val (R06_BlockOf (val (R06_Through c (val (R06_Numbers (List.take (32 : Nat) (List.drop (0 : Nat) v0.1.2)))) x_List)).1)))) ∧
   Br (val (B_SameBlock (val (F_Run (val (R06_Copy c)) v0.1.2 (val (R06_CopyStates x_List)))).1 (val (R06_BlockOf (val (R06_Through c (val (R06_Numbers (List.take (32 : Nat) (List.drop (0 : Nat) v0.1.2)))) x_List)).1))))
   ((Ob (ok (R06_SameStates (val (F_Run (val (R06_Copy c)) v0.1.2 (val (R06_CopyStates x_List)))).2.1 (val (R06_Through c (val (R06_Numbers (List.take (32 : Nat) (List.drop (0 : Nat) v0.1.2)))) x_List)).2.1)) ∧
   Br (val (R06_SameStates (val (F_Run (val (R06_Copy c)) v0.1.2 (val (R06_CopyStates x_List)))).2.1 (val (R06_Through c (val (R06_Numbers (List.take (32 : Nat) (List.drop (0 : Nat) v0.1.2)))) x_List)).2.1))
   ((Ob (True) ∧
   (Ob (((val (F_Run (val (R06_Copy c)) v0.1.2 (val (R06_CopyStates x_List)))).2.2.1 == (val (R06_Through c (val (R06_Numbers (List.take (32 : Nat) (List.drop (0 : Nat) v0.1.2)))) x_List)).2.2) = r) ∧
   True)))
   ((Ob (True) ∧
   (Ob (false = r) ∧
   True)))))
   ((Ob (True) ∧
   (Ob (false = r) ∧
   True)))))))
   ((Ob (True) ∧
   (Ob (false = r) ∧
   True))))))))
   (Br (val (R06_SamplesErr (List.take (32 : Nat) (List.drop (0 : Nat) v0.1.2))) != (0 : Int))
   (Br ((val (F_Run (val (R06_Copy c)) v0.1.2 (val (R06_CopyStates x_List)))).2.2.2 == val (R06_SamplesErr (List.take (32 : Nat) (List.drop (0 : Nat) v0.1.2))))
   ((Ob (True) ∧
   (Ob (ok (B_SameBlock (val (F_Run (val (R06_Copy c)) v0.1.2 (val (R06_CopyStates x_List)))).1 [(0 : Nat), (0 : Nat), (0 : Nat), (0 : Nat), (0 : Nat), (0 : Nat), (0 : Nat), (0 : Nat), (0 : Nat), (0 : Nat), (0 : Nat), (0 : Nat), (0 : Nat), (0 : Nat), (0 : Nat), (0 : Nat), (0 : Nat), (0 : Nat), (0 : Nat), (0 : Nat), (0 : Nat), (0 : Nat), (0 : Nat), (0 : Nat), (0 : Nat), (0 : Nat), (0 : Nat), (0 : Nat), (0 : Nat), (0 : Nat), (0 : Nat), (0 : Nat)])) ∧
   Br (val (B_SameBlock (val (F_Run (val (R06_Copy c)) v0.1.2 (val (R06_CopyStates x_List)))).1 [(0 : Nat), (0 : Nat), (0 : Nat), (0 : Nat), (0 : Nat), (0 : Nat), (0 : Nat), (0 : Nat), (0 : Nat), (0 : Nat), (0 : Nat), (0 : Nat), (0 : Nat), (0 : Nat), (0 : Nat), (0 : Nat), (0 : Nat), (0 : Nat), (0 : Nat), (0 : Nat), (0 : Nat), (0 : Nat), (0 : Nat), (0 : Nat), (0 : Nat), (0 : Nat), (0 : Nat), (0 : Nat), (0 : Nat), (0 : Nat), (0 : Nat), (0 : Nat)]))
   (Br ((↑(List.length (val (F_Run (val (R06_Copy c)) v0.1.2 (val (R06_CopyStates x_List)))).2.1) : Int) == (0 : Int))
   ((Ob (True) ∧
   (Ob (((val (F_Run (val (R06_Copy c)) v0.1.2 (val (R06_CopyStates x_List)))).2.2.1 == (0 : Int)) = r) ∧
   True)))
   ((Ob (True) ∧
   (Ob (false = r) ∧
   True))))
   ((Ob (True) ∧
   (Ob (false = r) ∧
   True))))))
   ((Ob (True) ∧
   (Ob (false = r) ∧
   True))))
   ((Ob (List.length v0.1.2 = (32 : Nat) ∧ (0 : Int) ≤ Option.getD none (0 : Int) ∧ Option.getD none (0 : Int) ≤ Option.getD none (↑(32 : Nat) : Int) ∧ Option.getD none (↑(32 : Nat) : Int) ≤ (↑(32 : Nat) : Int)) ∧
   (Ob (ok (R06_Numbers (List.take (32 : Nat) (List.drop (0 : Nat) v0.1.2)))) ∧
   (Ob (ok (R06_Through c (val (R06_Numbers (List.take (32 : Nat) (List.drop (0 : Nat) v0.1.2)))) x_List)) ∧
   Br ((val (F_Run (val (R06_Copy c)) v0.1.2 (val (R06_CopyStates x_List)))).2.2.2 == (0 : Int))
   ((Ob (True) ∧
   (Ob (ok (R06_BlockOf (val (R06_Through c (val (R06_Numbers (List.take (32 : Nat) (List.drop (0 : Nat) v0.1.2)))) x_List)).1)) ∧
   (Ob (ok (B_SameBlock (val (F_Run (val (R06_Copy c)) v0.1.2 (val (R06_CopyStates x_List)))).1 (val (R06_BlockOf (val (R06_Through c (val (R06_Numbers (List.take (32 : Nat) (List.drop (0 : Nat) v0.1.2)))) x_List)).1)))) ∧
   Br (val (B_SameBlock (val (F_Run (val (R06_Copy c)) v0.1.2 (val (R06_CopyStates x_List)))).1 (val (R06_BlockOf (val (R06_Through c (val (R06_Numbers (List.take (32 : Nat) (List.drop (0 : Nat) v0.1.2)))) x_List)).1))))
   ((Ob (ok (R06_SameStates (val (F_Run (val (R06_Copy c)) v0.1.2 (val (R06_CopyStates x_List)))).2.1 (val (R06_Through c (val (R06_Numbers (List.take (32 : Nat) (List.drop (0 : Nat) v0.1.2)))) x_List)).2.1)) ∧
   Br (val (R06_SameStates (val (F_Run (val (R06_Copy c)) v0.1.2 (val (R06_CopyStates x_List)))).2.1 (val (R06_Through c (val (R06_Numbers (List.take (32 : Nat) (List.drop (0 : Nat) v0.1.2)))) x_List)).2.1))
   ((Ob (True) ∧
   (Ob (((val (F_Run (val (R06_Copy c)) v0.1.2 (val (R06_CopyStates x_List)))).2.2.1 == (val (R06_Through c (val (R06_Numbers (List.take (32 : Nat) (List.drop (0 : Nat) v0.1.2)))) x_List)).2.2) = r) ∧
   True)))
   ((Ob (True) ∧
   (Ob (false = r) ∧
   True)))))
   ((Ob (True) ∧
   (Ob (false = r) ∧
   True)))))))
   ((Ob (True) ∧
   (Ob (false = r) ∧
   True)))))))))))))))))))))))))))))))))))))))))) = _) ?_
  refine ob_c (p := ok L06_awake) (by decide) ?_
  refine call_s h fun h => ?_
  refine br_b h (fun h => ?_) (fun h => ?_)
  · refine ob_t ?_
    exact ret_s h (fun e => by subst e; exact (by repeat' (first | exact trivial | exact ⟨rfl⟩ | refine And.intro ?_ ?_)))
  · refine br_d h (fun h => ?_) (fun h => ?_)
    · refine ob_t ?_
      exact ret_s h (fun e => by subst e; exact (by repeat' (first | exact trivial | exact ⟨rfl⟩ | refine And.intro ?_ ?_)))
    · refine br_d h (fun h => ?_) (fun h => ?_)
      · refine ob_t ?_
        exact ret_s h (fun e => by subst e; exact (by repeat' (first | exact trivial | exact ⟨rfl⟩ | refine And.intro ?_ ?_)))
      · refine br_d h (fun h => ?_) (fun h => ?_)
        · refine ob_t ?_
          exact ret_s h (fun e => by subst e; exact (by repeat' (first | exact trivial | exact ⟨rfl⟩ | refine And.intro ?_ ?_)))
        · refine call_s h fun h => ?_
          refine ob_t ?_
          refine ⟨⟨(((0 : Int), val (R06_BlockOf b)), big), ⟨loop_s h⟩, (by repeat' (first | exact trivial | exact ⟨rfl⟩ | refine And.intro ?_ ?_))⟩, fun z23 hz23 => ?_⟩
          obtain ⟨k23, hm23, h⟩ := iter_pos hz23
          refine br_d h (fun h => ?_) (fun h => ?_)
          · refine ob_s h fun h => ?_
            refine ob_s h fun h => ?_
            refine ob_s h fun h => ?_
            refine ob_s h fun h => ?_
            exact ⟨((IntKind.wrap IntKind.i64 ((Prod.fst z23).1 + (1 : Int)), setF (32 : Nat) (Prod.fst z23).2 ((0 : Nat) + ((0 : Nat) + Int.toNat (Prod.fst z23).1 * (1 : Nat))) (List.getD x_Raw (Int.toNat (Prod.fst z23).1) (0 : Nat))), k23), ⟨next_s h⟩, ⟨lt_gs hm23.symm⟩, (by repeat' (first | exact trivial | exact ⟨rfl⟩ | refine And.intro ?_ ?_))⟩
          · have h := exit_s h
            refine call_s h fun h => ?_
            refine ob_t ?_
            refine call_s h fun h => ?_
            refine call_s h fun h => ?_
            refine ob_t ?_
            refine call_s h fun h => ?_
            refine call_s h fun h => ?_
            refine call_s h fun h => ?_
            refine call_s h fun h => ?_
            refine call_s h fun h => ?_
            refine call_s h fun h => ?_
            refine br_b h (fun h => ?_) (fun h => ?_)
            · refine br_b h (fun h => ?_) (fun h => ?_)
              · refine br_b h (fun h => ?_) (fun h => ?_)
                · refine br_b h (fun h => ?_) (fun h => ?_)
                  · refine ob_t ?_
                    refine call_s h fun h => ?_
                    refine br_b h (fun h => ?_) (fun h => ?_)
                    · refine br_b h (fun h => ?_) (fun h => ?_)
                      · refine br_b h (fun h => ?_) (fun h => ?_)
                        · refine ob_t ?_
                          exact ret_s h (fun e => by subst e; exact (by repeat' (first | exact trivial | exact ⟨rfl⟩ | refine And.intro ?_ ?_)))
                        · refine ob_t ?_
                          exact ret_s h (fun e => by subst e; exact (by repeat' (first | exact trivial | exact ⟨rfl⟩ | refine And.intro ?_ ?_)))
                      · refine ob_t ?_
                        exact ret_s h (fun e => by subst e; exact (by repeat' (first | exact trivial | exact ⟨rfl⟩ | refine And.intro ?_ ?_)))
                    · refine ob_t ?_
                      exact ret_s h (fun e => by subst e; exact (by repeat' (first | exact trivial | exact ⟨rfl⟩ | refine And.intro ?_ ?_)))
                  · refine ob_t ?_
                    exact ret_s h (fun e => by subst e; exact (by repeat' (first | exact trivial | exact ⟨rfl⟩ | refine And.intro ?_ ?_)))
                · refine ob_t ?_
                  exact ret_s h (fun e => by subst e; exact (by repeat' (first | exact trivial | exact ⟨rfl⟩ | refine And.intro ?_ ?_)))
              · refine ob_t ?_
                exact ret_s h (fun e => by subst e; exact (by repeat' (first | exact trivial | exact ⟨rfl⟩ | refine And.intro ?_ ?_)))
            · refine call_s h fun h => ?_
              refine br_b h (fun h => ?_) (fun h => ?_)
              · refine ob_t ?_
                exact ret_s h (fun e => by subst e; exact (by repeat' (first | exact trivial | exact ⟨rfl⟩ | refine And.intro ?_ ?_)))
              · refine call_s h fun h => ?_
                refine call_s h fun h => ?_
                refine br_b h (fun h => ?_) (fun h => ?_)
                · refine ob_t ?_
                  exact ret_s h (fun e => by subst e; exact (by repeat' (first | exact trivial | exact ⟨rfl⟩ | refine And.intro ?_ ?_)))
                · refine br_b h (fun h => ?_) (fun h => ?_)
                  · refine ob_t ?_
                    exact ret_s h (fun e => by subst e; exact (by repeat' (first | exact trivial | exact ⟨rfl⟩ | refine And.intro ?_ ?_)))
                  · refine br_b h (fun h => ?_) (fun h => ?_)
                    · refine ob_t ?_
                      exact ret_s h (fun e => by subst e; exact (by repeat' (first | exact trivial | exact ⟨rfl⟩ | refine And.intro ?_ ?_)))
                    · refine ob_s h fun h => ?_
                      refine call_s h fun h => ?_
                      refine br_b h (fun h => ?_) (fun h => ?_)
                      · refine br_b h (fun h => ?_) (fun h => ?_)
                        · refine br_b h (fun h => ?_) (fun h => ?_)
                          · refine ob_t ?_
                            refine call_s h fun h => ?_
                            refine br_b h (fun h => ?_) (fun h => ?_)
                            · refine br_b h (fun h => ?_) (fun h => ?_)
                              · refine ob_t ?_
                                exact ret_s h (fun e => by subst e; exact (by repeat' (first | exact trivial | exact ⟨rfl⟩ | refine And.intro ?_ ?_)))
                              · refine ob_t ?_
                                exact ret_s h (fun e => by subst e; exact (by repeat' (first | exact trivial | exact ⟨rfl⟩ | refine And.intro ?_ ?_)))
                            · refine ob_t ?_
                              exact ret_s h (fun e => by subst e; exact (by repeat' (first | exact trivial | exact ⟨rfl⟩ | refine And.intro ?_ ?_)))
                          · refine ob_t ?_
                            exact ret_s h (fun e => by subst e; exact (by repeat' (first | exact trivial | exact ⟨rfl⟩ | refine And.intro ?_ ?_)))
                        · refine ob_s h fun h => ?_
                          refine call_s h fun h => ?_
                          refine call_s h fun h => ?_
                          refine br_b h (fun h => ?_) (fun h => ?_)
                          · refine ob_t ?_
                            refine call_s h fun h => ?_
                            refine call_s h fun h => ?_
                            refine br_b h (fun h => ?_) (fun h => ?_)
                            · refine call_s h fun h => ?_
                              refine br_b h (fun h => ?_) (fun h => ?_)
                              · refine ob_t ?_
                                exact ret_s h (fun e => by subst e; exact (by repeat' (first | exact trivial | exact ⟨rfl⟩ | refine And.intro ?_ ?_)))
                              · refine ob_t ?_
                                exact ret_s h (fun e => by subst e; exact (by repeat' (first | exact trivial | exact ⟨rfl⟩ | refine And.intro ?_ ?_)))
                            · refine ob_t ?_
                              exact ret_s h (fun e => by subst e; exact (by repeat' (first | exact trivial | exact ⟨rfl⟩ | refine And.intro ?_ ?_)))
                          · refine ob_t ?_
                            exact ret_s h (fun e => by subst e; exact (by repeat' (first | exact trivial | exact ⟨rfl⟩ | refine And.intro ?_ ?_)))
                      · refine br_b h (fun h => ?_) (fun h => ?_)
                        · refine br_b h (fun h => ?_) (fun h => ?_)
                          · refine ob_t ?_
                            refine call_s h fun h => ?_
                            refine br_b h (fun h => ?_) (fun h => ?_)
                            · refine br_b h (fun h => ?_) (fun h => ?_)
                              · refine ob_t ?_
                                exact ret_s h (fun e => by subst e; exact (by repeat' (first | exact trivial | exact ⟨rfl⟩ | refine And.intro ?_ ?_)))
                              · refine ob_t ?_
                                exact ret_s h (fun e => by subst e; exact (by repeat' (first | exact trivial | exact ⟨rfl⟩ | refine And.intro ?_ ?_)))
                            · refine ob_t ?_
                              exact ret_s h (fun e => by subst e; exact (by repeat' (first | exact trivial | exact ⟨rfl⟩ | refine And.intro ?_ ?_)))
                          · refine ob_t ?_
                            exact ret_s h (fun e => by subst e; exact (by repeat' (first | exact trivial | exact ⟨rfl⟩ | refine And.intro ?_ ?_)))
                        · exact nomatch h
set_option maxRecDepth 100000 in
theorem L06_FilterRuns_ok : SpecOK Try.prog 13 true (pureT k_L06_FilterRuns g_L06_FilterRuns) := by
  refine pureT_ok (sp := (sp_18 (sp_24 (sp_68 (sp_70 (sp_27 (sp_69 (sp_71 (sp_30 (sp_73 (sp_64 (sp_61 (sp_63 (sp_62 (sp_67 (sp_72 (sp_74 sp0))))))))))))))))) (fn := Try.f13) (body := bodyOf Try.f13) mixed (sp_18_ok (sp_24_ok (sp_68_ok (sp_70_ok (sp_27_ok (sp_69_ok (sp_71_ok (sp_30_ok (sp_73_ok (sp_64_ok (sp_61_ok (sp_63_ok (sp_62_ok (sp_67_ok (sp_72_ok (sp_74_ok sp0_ok)))))))))))))))) Try.func13 (by kernel_rfl) (by kernel_rfl) fun ls t h ho b hb => ?_
  unfold g_L06_FilterRuns at h
  split at h
  · rename_i c b x_List x_Raw
    cases h
    obtain rfl := bld_eq hb
    exact ⟨Nat.le_of_ble_eq_true (by kernel_rfl), _, _, L06_FilterRuns_vc c b x_List x_Raw _ (ok_some ho)⟩
  · cases h
theorem sp_13_ok {sp : Specs} (h : SpecsOK Try.prog sp) : SpecsOK Try.prog (sp_13 sp) := addK_ok L06_FilterRuns_ok h
end Go.Sh
