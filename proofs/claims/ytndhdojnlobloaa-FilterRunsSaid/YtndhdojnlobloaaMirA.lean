/- Mirrors of functions, and their contracts: made by a program of mine. -/
import Derived.Test.YtndhdojnlobloaaCz
import Derived.Test.YtndhdojnlobloaaXf
import Derived.Test.YtndhdojnlobloaaSb
set_option linter.unusedSectionVars false
set_option linter.unusedSimpArgs false
set_option linter.unusedVariables false
namespace Go.Sh
open Go Go.Proofs Go.RowKit Go.Sx
set_option linter.unusedVariables false

def k_R06_Numbers : List (Option Cont) := [some (.floats .f32 [])]
def R06_Numbers_b0 (l : List Nat) (x0 : (Int × List Int)) : Option ((Int × List Int) ⊕ (List Int)) :=
  if x0.1 < (↑(List.length l) : Int) then
   if (0 : Int) ≤ x0.1 ∧ x0.1 < (↑(List.length l) : Int) then
   if Int.toNat x0.1 < List.length l then
   if f2iOk FloatKind.f32 IntKind.i64 (List.getD l (Int.toNat x0.1) (0 : Nat)) = true then
   if (List.length x0.2 + List.length [f2i FloatKind.f32 (List.getD l (Int.toNat x0.1) (0 : Nat))]) * (8 : Nat) ≤ (140737488355328 : Nat) ∧ List.length x0.2 + List.length [f2i FloatKind.f32 (List.getD l (Int.toNat x0.1) (0 : Nat))] ≤ (9223372036854775807 : Nat) then
   some (.inl ((IntKind.wrap IntKind.i64 (x0.1 + (1 : Int)), x0.2 ++ [f2i FloatKind.f32 (List.getD l (Int.toNat x0.1) (0 : Nat))])))
   else none
   else none
   else none
   else none
  else
   some (.inr x0.2)
def R06_Numbers_r0 (y0_0 : List Int) : Option (List Int) :=
  some y0_0
/-- shoebox/shoeboxref06.Numbers -/
def R06_Numbers (l : List Nat) : Option (List Int) :=
  Option.bind (iter (R06_Numbers_b0 l) big (((0 : Int), []))) (R06_Numbers_r0)
def g_R06_Numbers : List A → Option (Prop × List RV)
  | [.r (.floats .f32 l)] => some (ok (R06_Numbers l), [.row 3 (.ints .i64 ((val (R06_Numbers l))))])
  | _ => none
abbrev sp_63 : Specs → Specs := addK 63 true (pureK k_R06_Numbers g_R06_Numbers)
set_option maxRecDepth 100000 in
theorem R06_Numbers_vc (l : List Nat) (r : List Int) (h : Option.bind (R06_Numbers l) some = some r) : runF Try.f63 (sp0) (fun gs id _ => match id with
 | 0 => some ⟨(Int × List Int) × Nat, fun z => ⟨[(0, .w (.c (.o 0))), (3, .w (.c (.o 1))), (4, .w (.c (.d (.i .i64 (Prod.fst (Prod.fst z))))))], [(0, .ext (.floats .f32 l)), (1, .row 3 (.ints .i64 (Prod.snd (Prod.fst z))))], 2⟩, fun z => Option.bind (iter (R06_Numbers_b0 l) (Prod.snd z) (Prod.fst z)) (fun y0 => Option.bind (R06_Numbers_r0 y0) some) = some r, fun z => Prod.snd z⟩
 | _ => none) [.r (.floats .f32 l)] [.row 3 (.ints .i64 r)] := by
  refine Eq.mp (by kernel_rfl : (
  ((∃ (v0 : (Int × List Int) × Nat), (Ob ((Option.bind (iter (R06_Numbers_b0 l) v0.2 v0.1) fun y0 => Option.bind (R06_Numbers_r0 y0) some) = some r) ∧
   (Ob ((0 : Int) = v0.1.1) ∧
   (Ob (l = l) ∧
   (Ob (List.length v0.1.2 = (0 : Nat)) ∧
   True))))) ∧
   (∀ (v0 : (Int × List Int) × Nat), ((Option.bind (iter (R06_Numbers_b0 l) v0.2 v0.1) fun y0 => Option.bind (R06_Numbers_r0 y0) some) = some r →
   Br (decide (v0.1.1 < (↑(List.length l) : Int)))
   ((Ob ((0 : Int) ≤ v0.1.1 ∧ v0.1.1 < (↑(List.length l) : Int)) ∧
   (Ob (Int.toNat v0.1.1 < List.length l) ∧
   (Ob (f2iOk FloatKind.f32 IntKind.i64 (List.getD l (Int.toNat v0.1.1) (0 : Nat)) = true) ∧
   (Ob ((List.length v0.1.2 + List.length [f2i FloatKind.f32 (List.getD l (Int.toNat v0.1.1) (0 : Nat))]) * (8 : Nat) ≤ (140737488355328 : Nat) ∧ List.length v0.1.2 + List.length [f2i FloatKind.f32 (List.getD l (Int.toNat v0.1.1) (0 : Nat))] ≤ (9223372036854775807 : Nat)) ∧
   (∃ (v1 : (Int × List Int) × Nat), (Ob ((Option.bind (iter (R06_Numbers_b0 l) v1.2 v1.1) fun y0 => Option.bind (R06_Numbers_r0 y0) some) = some r) ∧
   (Ob (v1.2 < v0.2) ∧
   (Ob (IntKind.wrap IntKind.i64 (v0.1.1 + (1 : Int)) = v1.1.1) ∧
   (Ob (l = l) ∧
   (Ob (v0.1.2 ++ [f2i FloatKind.f32 (List.getD l (Int.toNat v0.1.1) (0 : Nat))] = v1.1.2) ∧
   True)))))))))))
   ((Ob (True) ∧
   (Ob (v0.1.2 = r) ∧
   True))))))) = _) ?_
  refine ⟨⟨(((0 : Int), []), big), ⟨loop_s h⟩, (by repeat' (first | exact trivial | exact ⟨rfl⟩ | refine And.intro ?_ ?_))⟩, fun z0 hz0 => ?_⟩
  obtain ⟨k0, hm0, h⟩ := iter_pos hz0
  refine br_d h (fun h => ?_) (fun h => ?_)
  · refine ob_s h fun h => ?_
    refine ob_s h fun h => ?_
    refine ob_s h fun h => ?_
    refine ob_s h fun h => ?_
    exact ⟨((IntKind.wrap IntKind.i64 ((Prod.fst z0).1 + (1 : Int)), (Prod.fst z0).2 ++ [f2i FloatKind.f32 (List.getD l (Int.toNat (Prod.fst z0).1) (0 : Nat))]), k0), ⟨next_s h⟩, ⟨lt_gs hm0.symm⟩, (by repeat' (first | exact trivial | exact ⟨rfl⟩ | refine And.intro ?_ ?_))⟩
  · have h := exit_s h
    refine ob_t ?_
    exact ret_s h (fun e => by subst e; exact (by repeat' (first | exact trivial | exact ⟨rfl⟩ | refine And.intro ?_ ?_)))
set_option maxRecDepth 100000 in
theorem R06_Numbers_ok : SpecOK Try.prog 63 true (pureK k_R06_Numbers g_R06_Numbers) := by
  refine pureK_ok (sp := sp0) (fn := Try.f63) (body := bodyOf Try.f63) mixed sp0_ok Try.func63 (by kernel_rfl) (by kernel_rfl) fun as_ ob rs h ho => ?_
  unfold g_R06_Numbers at h
  split at h
  · rename_i l
    cases h
    exact ⟨Nat.le_of_ble_eq_true rfl, _, _, R06_Numbers_vc l _ (ok_some ho)⟩
  · cases h
theorem sp_63_ok {sp : Specs} (h : SpecsOK Try.prog sp) : SpecsOK Try.prog (sp_63 sp) := addK_ok R06_Numbers_ok h

def k_R06_NewState : List (Option Cont) := [some (.recs 5 [])]
def R06_NewState_b0 (c : List (List Int)) (x0 : (Int × List (List Int))) : Option ((Int × List (List Int)) ⊕ (List (List Int))) :=
  if x0.1 < (↑(List.length c) : Int) then
   if (List.length x0.2 + List.length [[(0 : Int), (0 : Int), (0 : Int), (0 : Int)]]) * (32 : Nat) ≤ (140737488355328 : Nat) ∧ List.length x0.2 + List.length [[(0 : Int), (0 : Int), (0 : Int), (0 : Int)]] ≤ (9223372036854775807 : Nat) then
   some (.inl ((IntKind.wrap IntKind.i64 (x0.1 + (1 : Int)), x0.2 ++ [[(0 : Int), (0 : Int), (0 : Int), (0 : Int)]])))
   else none
  else
   some (.inr x0.2)
def R06_NewState_r0 (y0_0 : List (List Int)) : Option (List (List Int)) :=
  some y0_0
/-- shoebox/shoeboxref06.NewState -/
def R06_NewState (c : List (List Int)) : Option (List (List Int)) :=
  Option.bind (iter (R06_NewState_b0 c) big (((0 : Int), []))) (R06_NewState_r0)
def g_R06_NewState : List A → Option (Prop × List RV)
  | [.r (.recs 5 c)] => some (ok (R06_NewState c), [.row 60 (.recs 4 ((val (R06_NewState c))))])
  | _ => none
abbrev sp_64 : Specs → Specs := addK 64 true (pureK k_R06_NewState g_R06_NewState)
set_option maxRecDepth 100000 in
theorem R06_NewState_vc (c : List (List Int)) (r : List (List Int)) (h : Option.bind (R06_NewState c) some = some r) : runF Try.f64 (sp0) (fun gs id _ => match id with
 | 0 => some ⟨(Int × List (List Int)) × Nat, fun z => ⟨[(0, .w (.c (.o 0))), (3, .w (.c (.o 1))), (4, .w (.c (.d (.i .i64 (Prod.fst (Prod.fst z))))))], [(0, .ext (.recs 5 c)), (1, .row 60 (.recs 4 (Prod.snd (Prod.fst z))))], 2⟩, fun z => Option.bind (iter (R06_NewState_b0 c) (Prod.snd z) (Prod.fst z)) (fun y0 => Option.bind (R06_NewState_r0 y0) some) = some r, fun z => Prod.snd z⟩
 | _ => none) [.r (.recs 5 c)] [.row 60 (.recs 4 r)] := by
  refine Eq.mp (by kernel_rfl : (
  ((∃ (v0 : (Int × List (List Int)) × Nat), (Ob ((Option.bind (iter (R06_NewState_b0 c) v0.2 v0.1) fun y0 => Option.bind (R06_NewState_r0 y0) some) = some r) ∧
   (Ob ((0 : Int) = v0.1.1) ∧
   (Ob (c = c) ∧
   (Ob (List.length v0.1.2 = (0 : Nat)) ∧
   True))))) ∧
   (∀ (v0 : (Int × List (List Int)) × Nat), ((Option.bind (iter (R06_NewState_b0 c) v0.2 v0.1) fun y0 => Option.bind (R06_NewState_r0 y0) some) = some r →
   Br (decide (v0.1.1 < (↑(List.length c) : Int)))
   ((Ob ((List.length v0.1.2 + List.length [[(0 : Int), (0 : Int), (0 : Int), (0 : Int)]]) * (32 : Nat) ≤ (140737488355328 : Nat) ∧ List.length v0.1.2 + List.length [[(0 : Int), (0 : Int), (0 : Int), (0 : Int)]] ≤ (9223372036854775807 : Nat)) ∧
   (∃ (v1 : (Int × List (List Int)) × Nat), (Ob ((Option.bind (iter (R06_NewState_b0 c) v1.2 v1.1) fun y0 => Option.bind (R06_NewState_r0 y0) some) = some r) ∧
   (Ob (v1.2 < v0.2) ∧
   (Ob (IntKind.wrap IntKind.i64 (v0.1.1 + (1 : Int)) = v1.1.1) ∧
   (Ob (c = c) ∧
   (Ob (v0.1.2 ++ [[(0 : Int), (0 : Int), (0 : Int), (0 : Int)]] = v1.1.2) ∧
   True))))))))
   ((Ob (True) ∧
   (Ob (v0.1.2 = r) ∧
   True))))))) = _) ?_
  refine ⟨⟨(((0 : Int), []), big), ⟨loop_s h⟩, (by repeat' (first | exact trivial | exact ⟨rfl⟩ | refine And.intro ?_ ?_))⟩, fun z0 hz0 => ?_⟩
  obtain ⟨k0, hm0, h⟩ := iter_pos hz0
  refine br_d h (fun h => ?_) (fun h => ?_)
  · refine ob_s h fun h => ?_
    exact ⟨((IntKind.wrap IntKind.i64 ((Prod.fst z0).1 + (1 : Int)), (Prod.fst z0).2 ++ [[(0 : Int), (0 : Int), (0 : Int), (0 : Int)]]), k0), ⟨next_s h⟩, ⟨lt_gs hm0.symm⟩, (by repeat' (first | exact trivial | exact ⟨rfl⟩ | refine And.intro ?_ ?_))⟩
  · have h := exit_s h
    refine ob_t ?_
    exact ret_s h (fun e => by subst e; exact (by repeat' (first | exact trivial | exact ⟨rfl⟩ | refine And.intro ?_ ?_)))
set_option maxRecDepth 100000 in
theorem R06_NewState_ok : SpecOK Try.prog 64 true (pureK k_R06_NewState g_R06_NewState) := by
  refine pureK_ok (sp := sp0) (fn := Try.f64) (body := bodyOf Try.f64) mixed sp0_ok Try.func64 (by kernel_rfl) (by kernel_rfl) fun as_ ob rs h ho => ?_
  unfold g_R06_NewState at h
  split at h
  · rename_i c
    cases h
    exact ⟨Nat.le_of_ble_eq_true rfl, _, _, R06_NewState_vc c _ (ok_some ho)⟩
  · cases h
theorem sp_64_ok {sp : Specs} (h : SpecsOK Try.prog sp) : SpecsOK Try.prog (sp_64 sp) := addK_ok R06_NewState_ok h

def k_R06_BlockOf : List SV := [.c (.r (.ints .i64 []))]
def R06_BlockOf_b0 (l : List Int) (x0 : (Int × List Nat)) : Option ((Int × List Nat) ⊕ (List Nat)) :=
  if x0.1 < (32 : Int) then
   if x0.1 < (↑(List.length l) : Int) then
   if (0 : Int) ≤ x0.1 ∧ x0.1 < (↑(List.length l) : Int) then
   if Int.toNat x0.1 < List.length l then
   if (0 : Int) ≤ x0.1 ∧ x0.1 < (↑(32 : Nat) : Int) then
   if (0 : Nat) + ((0 : Nat) + Int.toNat x0.1 * (1 : Nat)) < (32 : Nat) then
   some (.inl ((IntKind.wrap IntKind.i64 (x0.1 + (1 : Int)), setF (32 : Nat) x0.2 ((0 : Nat) + ((0 : Nat) + Int.toNat x0.1 * (1 : Nat))) (FloatKind.nearest FloatKind.f32 (List.getD l (Int.toNat x0.1) (0 : Int))))))
   else none
   else none
   else none
   else none
   else
   some (.inr x0.2)
  else
   some (.inr x0.2)
def R06_BlockOf_r0 (y0_0 : List Nat) : Option (List Nat) :=
  some y0_0
/-- shoebox/shoeboxref06.BlockOf -/
def R06_BlockOf (l : List Int) : Option (List Nat) :=
  Option.bind (iter (R06_BlockOf_b0 l) big (((0 : Int), [(0 : Nat), (0 : Nat), (0 : Nat), (0 : Nat), (0 : Nat), (0 : Nat), (0 : Nat), (0 : Nat), (0 : Nat), (0 : Nat), (0 : Nat), (0 : Nat), (0 : Nat), (0 : Nat), (0 : Nat), (0 : Nat), (0 : Nat), (0 : Nat), (0 : Nat), (0 : Nat), (0 : Nat), (0 : Nat), (0 : Nat), (0 : Nat), (0 : Nat), (0 : Nat), (0 : Nat), (0 : Nat), (0 : Nat), (0 : Nat), (0 : Nat), (0 : Nat)]))) (R06_BlockOf_r0)
def g_R06_BlockOf : List Lf → Option GT
  | [.r (.ints .i64 l)] => some (.leaf (ok (R06_BlockOf l)) [.b .f32 32 ((val (R06_BlockOf l)))])
  | _ => none
abbrev sp_67 : Specs → Specs := addK 67 true (pureT k_R06_BlockOf g_R06_BlockOf)
set_option maxRecDepth 100000 in
theorem R06_BlockOf_vc (l : List Int) (r : List Nat) (h : Option.bind (R06_BlockOf l) some = some r) : runT Try.f67 (sp0) (fun gs id _ => match id with
 | 0 => some ⟨(Int × List Nat) × Nat, fun z => ⟨[(0, .w (.c (.o 0))), (2, .w (.c (.p 1 (0 : Nat) 1 (0 : Nat)))), (3, .w (.c (.p 2 (0 : Nat) 1 (0 : Nat)))), (4, .w (.c (.d (.i .i64 (Prod.fst (Prod.fst z))))))], [(0, .ext (.ints .i64 l)), (1, .arr 122 .f32 32 ([(0 : Nat), (0 : Nat), (0 : Nat), (0 : Nat), (0 : Nat), (0 : Nat), (0 : Nat), (0 : Nat), (0 : Nat), (0 : Nat), (0 : Nat), (0 : Nat), (0 : Nat), (0 : Nat), (0 : Nat), (0 : Nat), (0 : Nat), (0 : Nat), (0 : Nat), (0 : Nat), (0 : Nat), (0 : Nat), (0 : Nat), (0 : Nat), (0 : Nat), (0 : Nat), (0 : Nat), (0 : Nat), (0 : Nat), (0 : Nat), (0 : Nat), (0 : Nat)])), (2, .arr 122 .f32 32 (Prod.snd (Prod.fst z)))], 3⟩, fun z => Option.bind (iter (R06_BlockOf_b0 l) (Prod.snd z) (Prod.fst z)) (fun y0 => Option.bind (R06_BlockOf_r0 y0) some) = some r, fun z => Prod.snd z⟩
 | _ => none) (bldD k_R06_BlockOf [.r (.ints .i64 l)]) [.b .f32 32 r] := by
  refine Eq.mp (by kernel_rfl : (
  ((∃ (v0 : (Int × List Nat) × Nat), (Ob ((Option.bind (iter (R06_BlockOf_b0 l) v0.2 v0.1) fun y0 => Option.bind (R06_BlockOf_r0 y0) some) = some r) ∧
   (Ob ((0 : Nat) = (0 : Nat)) ∧
   (Ob ((0 : Nat) = (0 : Nat)) ∧
   (Ob ((0 : Int) = v0.1.1) ∧
   (Ob (l = l) ∧
   (Ob ([(0 : Nat), (0 : Nat), (0 : Nat), (0 : Nat), (0 : Nat), (0 : Nat), (0 : Nat), (0 : Nat), (0 : Nat), (0 : Nat), (0 : Nat), (0 : Nat), (0 : Nat), (0 : Nat), (0 : Nat), (0 : Nat), (0 : Nat), (0 : Nat), (0 : Nat), (0 : Nat), (0 : Nat), (0 : Nat), (0 : Nat), (0 : Nat), (0 : Nat), (0 : Nat), (0 : Nat), (0 : Nat), (0 : Nat), (0 : Nat), (0 : Nat), (0 : Nat)] = [(0 : Nat), (0 : Nat), (0 : Nat), (0 : Nat), (0 : Nat), (0 : Nat), (0 : Nat), (0 : Nat), (0 : Nat), (0 : Nat), (0 : Nat), (0 : Nat), (0 : Nat), (0 : Nat), (0 : Nat), (0 : Nat), (0 : Nat), (0 : Nat), (0 : Nat), (0 : Nat), (0 : Nat), (0 : Nat), (0 : Nat), (0 : Nat), (0 : Nat), (0 : Nat), (0 : Nat), (0 : Nat), (0 : Nat), (0 : Nat), (0 : Nat), (0 : Nat)]) ∧
   (Ob ([(0 : Nat), (0 : Nat), (0 : Nat), (0 : Nat), (0 : Nat), (0 : Nat), (0 : Nat), (0 : Nat), (0 : Nat), (0 : Nat), (0 : Nat), (0 : Nat), (0 : Nat), (0 : Nat), (0 : Nat), (0 : Nat), (0 : Nat), (0 : Nat), (0 : Nat), (0 : Nat), (0 : Nat), (0 : Nat), (0 : Nat), (0 : Nat), (0 : Nat), (0 : Nat), (0 : Nat), (0 : Nat), (0 : Nat), (0 : Nat), (0 : Nat), (0 : Nat)] = v0.1.2) ∧
   True)))))))) ∧
   (∀ (v0 : (Int × List Nat) × Nat), ((Option.bind (iter (R06_BlockOf_b0 l) v0.2 v0.1) fun y0 => Option.bind (R06_BlockOf_r0 y0) some) = some r →
   Br (decide (v0.1.1 < (32 : Int)))
   (Br (decide (v0.1.1 < (↑(List.length l) : Int)))
   ((Ob ((0 : Int) ≤ v0.1.1 ∧ v0.1.1 < (↑(List.length l) : Int)) ∧
   (Ob (Int.toNat v0.1.1 < List.length l) ∧
   (Ob (True) ∧
   (Ob ((0 : Int) ≤ v0.1.1 ∧ v0.1.1 < (↑(32 : Nat) : Int)) ∧
   (Ob ((0 : Nat) + ((0 : Nat) + Int.toNat v0.1.1 * (1 : Nat)) < (32 : Nat)) ∧
   (∃ (v1 : (Int × List Nat) × Nat), (Ob ((Option.bind (iter (R06_BlockOf_b0 l) v1.2 v1.1) fun y0 => Option.bind (R06_BlockOf_r0 y0) some) = some r) ∧
   (Ob (v1.2 < v0.2) ∧
   (Ob ((0 : Nat) = (0 : Nat)) ∧
   (Ob ((0 : Nat) = (0 : Nat)) ∧
   (Ob (IntKind.wrap IntKind.i64 (v0.1.1 + (1 : Int)) = v1.1.1) ∧
   (Ob (l = l) ∧
   (Ob ([(0 : Nat), (0 : Nat), (0 : Nat), (0 : Nat), (0 : Nat), (0 : Nat), (0 : Nat), (0 : Nat), (0 : Nat), (0 : Nat), (0 : Nat), (0 : Nat), (0 : Nat), (0 : Nat), (0 : Nat), (0 : Nat), (0 : Nat), (0 : Nat), (0 : Nat), (0 : Nat), (0 : Nat), (0 : Nat), (0 : Nat), (0 : Nat), (0 : Nat), (0 : Nat), (0 : Nat), (0 : Nat), (0 : Nat), (0 : Nat), (0 : Nat), (0 : Nat)] = [(0 : Nat), (0 : Nat), (0 : Nat), (0 : Nat), (0 : Nat), (0 : Nat), (0 : Nat), (0 : Nat), (0 : Nat), (0 : Nat), (0 : Nat), (0 : Nat), (0 : Nat), (0 : Nat), (0 : Nat), (0 : Nat), (0 : Nat), (0 : Nat), (0 : Nat), (0 : Nat), (0 : Nat), (0 : Nat), (0 : Nat), (0 : Nat), (0 : Nat), (0 : Nat), (0 : Nat), (0 : Nat), (0 : Nat), (0 : Nat), (0 : Nat), (0 : Nat)]) ∧
   (Ob (setF (32 : Nat) v0.1.2 ((0 : Nat) + ((0 : Nat) + Int.toNat v0.1.1 * (1 : Nat))) (FloatKind.nearest FloatKind.f32 (List.getD l (Int.toNat v0.1.1) (0 : Int))) = v1.1.2) ∧
   True)))))))))))))))
   ((Ob (True) ∧
   (Ob (True) ∧
   (Ob (True) ∧
   (Ob (r = v0.1.2) ∧
   True))))))
   ((Ob (True) ∧
   (Ob (True) ∧
   (Ob (True) ∧
   (Ob (r = v0.1.2) ∧
   True))))))))) = _) ?_
  refine ⟨⟨(((0 : Int), [(0 : Nat), (0 : Nat), (0 : Nat), (0 : Nat), (0 : Nat), (0 : Nat), (0 : Nat), (0 : Nat), (0 : Nat), (0 : Nat), (0 : Nat), (0 : Nat), (0 : Nat), (0 : Nat), (0 : Nat), (0 : Nat), (0 : Nat), (0 : Nat), (0 : Nat), (0 : Nat), (0 : Nat), (0 : Nat), (0 : Nat), (0 : Nat), (0 : Nat), (0 : Nat), (0 : Nat), (0 : Nat), (0 : Nat), (0 : Nat), (0 : Nat), (0 : Nat)]), big), ⟨loop_s h⟩, (by repeat' (first | exact trivial | exact ⟨rfl⟩ | refine And.intro ?_ ?_))⟩, fun z0 hz0 => ?_⟩
  obtain ⟨k0, hm0, h⟩ := iter_pos hz0
  refine br_d h (fun h => ?_) (fun h => ?_)
  · refine br_d h (fun h => ?_) (fun h => ?_)
    · refine ob_s h fun h => ?_
      refine ob_s h fun h => ?_
      refine ob_t ?_
      refine ob_s h fun h => ?_
      refine ob_s h fun h => ?_
      exact ⟨((IntKind.wrap IntKind.i64 ((Prod.fst z0).1 + (1 : Int)), setF (32 : Nat) (Prod.fst z0).2 ((0 : Nat) + ((0 : Nat) + Int.toNat (Prod.fst z0).1 * (1 : Nat))) (FloatKind.nearest FloatKind.f32 (List.getD l (Int.toNat (Prod.fst z0).1) (0 : Int)))), k0), ⟨next_s h⟩, ⟨lt_gs hm0.symm⟩, (by repeat' (first | exact trivial | exact ⟨rfl⟩ | refine And.intro ?_ ?_))⟩
    · have h := exit_s h
      refine ob_t ?_
      refine ob_t ?_
      refine ob_t ?_
      exact ret_s h (fun e => by subst e; exact (by repeat' (first | exact trivial | exact ⟨rfl⟩ | refine And.intro ?_ ?_)))
  · have h := exit_s h
    refine ob_t ?_
    refine ob_t ?_
    refine ob_t ?_
    exact ret_s h (fun e => by subst e; exact (by repeat' (first | exact trivial | exact ⟨rfl⟩ | refine And.intro ?_ ?_)))
set_option maxRecDepth 100000 in
theorem R06_BlockOf_ok : SpecOK Try.prog 67 true (pureT k_R06_BlockOf g_R06_BlockOf) := by
  refine pureT_ok (sp := sp0) (fn := Try.f67) (body := bodyOf Try.f67) mixed sp0_ok Try.func67 (by kernel_rfl) (by kernel_rfl) fun ls t h ho b hb => ?_
  unfold g_R06_BlockOf at h
  split at h
  · rename_i l
    cases h
    obtain rfl := bld_eq hb
    exact ⟨Nat.le_of_ble_eq_true (by kernel_rfl), _, _, R06_BlockOf_vc l _ (ok_some ho)⟩
  · cases h
theorem sp_67_ok {sp : Specs} (h : SpecsOK Try.prog sp) : SpecsOK Try.prog (sp_67 sp) := addK_ok R06_BlockOf_ok h

def k_B_SameFloats : List (Option Cont) := [some (.floats .f32 []), some (.floats .f32 [])]
def B_SameFloats_b0 (a : List Nat) (b : List Nat) (x0 : Int) : Option (Int ⊕ (Unit ⊕ Unit)) :=
  if x0 < (↑(List.length a) : Int) then
   if (0 : Int) ≤ x0 ∧ x0 < (↑(List.length a) : Int) then
   if Int.toNat x0 < List.length a then
   if (0 : Int) ≤ x0 ∧ x0 < (↑(List.length b) : Int) then
   if Int.toNat x0 < List.length b then
   if ((↑(List.getD a (Int.toNat x0) (0 : Nat)) : Int) != (↑(List.getD b (Int.toNat x0) (0 : Nat)) : Int)) = true then
   some (.inr ((.inl ())))
   else
   some (.inl (IntKind.wrap IntKind.i64 (x0 + (1 : Int))))
   else none
   else none
   else none
   else none
  else
   some (.inr ((.inr ())))
def B_SameFloats_r0_0 (y0_0 : Unit) : Option Bool :=
  some false
def B_SameFloats_r0_1 (y0_1 : Unit) : Option Bool :=
  some true
def B_SameFloats_r0 : (Unit ⊕ Unit) → Option Bool :=
  (Sum.elim (B_SameFloats_r0_0) (B_SameFloats_r0_1))
/-- shoebox/shoeboxbase.SameFloats -/
def B_SameFloats (a : List Nat) (b : List Nat) : Option Bool :=
  if ((↑(List.length a) : Int) != (↑(List.length b) : Int)) = true then
   some false
  else
   Option.bind (iter (B_SameFloats_b0 a b) big (0 : Int)) (B_SameFloats_r0)
def g_B_SameFloats : List A → Option (Prop × List RV)
  | [.r (.floats .f32 a), .r (.floats .f32 b)] => some (ok (B_SameFloats a b), [.d (.b ((val (B_SameFloats a b))))])
  | _ => none
abbrev sp_65 : Specs → Specs := addK 65 true (pureK k_B_SameFloats g_B_SameFloats)
set_option maxRecDepth 100000 in
theorem B_SameFloats_vc (a : List Nat) (b : List Nat) (r : Bool) (h : Option.bind (B_SameFloats a b) some = some r) : runF Try.f65 ((sp_116 sp0)) (fun gs id _ => match id with
 | 0 => some ⟨Int × Nat, fun z => ⟨[(0, .w (.c (.o 0))), (1, .w (.c (.o 1))), (5, .w (.c (.d (.i .i64 (Prod.fst z)))))], [(0, .ext (.floats .f32 a)), (1, .ext (.floats .f32 b))], 2⟩, fun z => Option.bind (iter (B_SameFloats_b0 a b) (Prod.snd z) (Prod.fst z)) (fun y0 => Option.bind (B_SameFloats_r0 y0) some) = some r, fun z => Prod.snd z⟩
 | _ => none) [.r (.floats .f32 a), .r (.floats .f32 b)] [.d (.b r)] := by
  refine Eq.mp (by kernel_rfl : (
  Br ((↑(List.length a) : Int) != (↑(List.length b) : Int))
   ((Ob (True) ∧
   (Ob (false = r) ∧
   True)))
   (((∃ (v0 : Int × Nat), (Ob ((Option.bind (iter (B_SameFloats_b0 a b) v0.2 v0.1) fun y0 => Option.bind (B_SameFloats_r0 y0) some) = some r) ∧
   (Ob ((0 : Int) = v0.1) ∧
   (Ob (a = a) ∧
   (Ob (b = b) ∧
   True))))) ∧
   (∀ (v0 : Int × Nat), ((Option.bind (iter (B_SameFloats_b0 a b) v0.2 v0.1) fun y0 => Option.bind (B_SameFloats_r0 y0) some) = some r →
   Br (decide (v0.1 < (↑(List.length a) : Int)))
   ((Ob ((0 : Int) ≤ v0.1 ∧ v0.1 < (↑(List.length a) : Int)) ∧
   (Ob (Int.toNat v0.1 < List.length a) ∧
   (Ob (True) ∧
   (Ob ((0 : Int) ≤ v0.1 ∧ v0.1 < (↑(List.length b) : Int)) ∧
   (Ob (Int.toNat v0.1 < List.length b) ∧
   (Ob (True) ∧
   Br ((↑(List.getD a (Int.toNat v0.1) (0 : Nat)) : Int) != (↑(List.getD b (Int.toNat v0.1) (0 : Nat)) : Int))
   ((Ob (True) ∧
   (Ob (false = r) ∧
   True)))
   ((∃ (v1 : Int × Nat), (Ob ((Option.bind (iter (B_SameFloats_b0 a b) v1.2 v1.1) fun y0 => Option.bind (B_SameFloats_r0 y0) some) = some r) ∧
   (Ob (v1.2 < v0.2) ∧
   (Ob (IntKind.wrap IntKind.i64 (v0.1 + (1 : Int)) = v1.1) ∧
   (Ob (a = a) ∧
   (Ob (b = b) ∧
   True))))))))))))))
   ((Ob (True) ∧
   (Ob (true = r) ∧
   True)))))))) = _) ?_
  refine br_b h (fun h => ?_) (fun h => ?_)
  · refine ob_t ?_
    exact ret_s h (fun e => by subst e; exact (by repeat' (first | exact trivial | exact ⟨rfl⟩ | refine And.intro ?_ ?_)))
  · refine ⟨⟨((0 : Int), big), ⟨loop_s h⟩, (by repeat' (first | exact trivial | exact ⟨rfl⟩ | refine And.intro ?_ ?_))⟩, fun z0 hz0 => ?_⟩
    obtain ⟨k0, hm0, h⟩ := iter_pos hz0
    refine br_d h (fun h => ?_) (fun h => ?_)
    · refine ob_s h fun h => ?_
      refine ob_s h fun h => ?_
      refine ob_t ?_
      refine ob_s h fun h => ?_
      refine ob_s h fun h => ?_
      refine ob_t ?_
      refine br_b h (fun h => ?_) (fun h => ?_)
      · have h := exit_s h
        refine ob_t ?_
        exact ret_s h (fun e => by subst e; exact (by repeat' (first | exact trivial | exact ⟨rfl⟩ | refine And.intro ?_ ?_)))
      · exact ⟨(IntKind.wrap IntKind.i64 (Prod.fst z0 + (1 : Int)), k0), ⟨next_s h⟩, ⟨lt_gs hm0.symm⟩, (by repeat' (first | exact trivial | exact ⟨rfl⟩ | refine And.intro ?_ ?_))⟩
    · have h := exit_s h
      refine ob_t ?_
      exact ret_s h (fun e => by subst e; exact (by repeat' (first | exact trivial | exact ⟨rfl⟩ | refine And.intro ?_ ?_)))
set_option maxRecDepth 100000 in
theorem B_SameFloats_ok : SpecOK Try.prog 65 true (pureK k_B_SameFloats g_B_SameFloats) := by
  refine pureK_ok (sp := (sp_116 sp0)) (fn := Try.f65) (body := bodyOf Try.f65) mixed (sp_116_ok sp0_ok) Try.func65 (by kernel_rfl) (by kernel_rfl) fun as_ ob rs h ho => ?_
  unfold g_B_SameFloats at h
  split at h
  · rename_i a b
    cases h
    exact ⟨Nat.le_of_ble_eq_true rfl, _, _, B_SameFloats_vc a b _ (ok_some ho)⟩
  · cases h
theorem sp_65_ok {sp : Specs} (h : SpecsOK Try.prog sp) : SpecsOK Try.prog (sp_65 sp) := addK_ok B_SameFloats_ok h
/-- shoebox/shoeboxlaw06.Half -/
def L06_Half : Option (Int × Int × Int × Int × Int) :=
  some (((8192 : Int), (0 : Int), (0 : Int), (-8192 : Int), (0 : Int)))
def g_L06_Half : List A → Option (Prop × List RV)
  | [] => some (ok (L06_Half), [.s [.i .i64 ((val (L06_Half)).1), .i .i64 ((val (L06_Half)).2.1), .i .i64 ((val (L06_Half)).2.2.1), .i .i64 ((val (L06_Half)).2.2.2.1), .i .i64 ((val (L06_Half)).2.2.2.2)]])
  | _ => none
def k_L06_Half : List (Option Cont) := []
abbrev sp_81 : Specs → Specs := addK 81 true (pureK k_L06_Half g_L06_Half)
set_option maxRecDepth 100000 in
theorem L06_Half_vc (r : Int × Int × Int × Int × Int) (h : Option.bind (L06_Half) some = some r) : runF Try.f81 (sp0) (fun _ _ _ => none) [] [.s [.i .i64 r.1, .i .i64 r.2.1, .i .i64 r.2.2.1, .i .i64 r.2.2.2.1, .i .i64 r.2.2.2.2]] := by
  refine Eq.mp (by kernel_rfl : (
  (Ob (True) ∧
   (Ob ((8192 : Int) = r.1) ∧
   (Ob ((0 : Int) = r.2.1) ∧
   (Ob ((0 : Int) = r.2.2.1) ∧
   (Ob ((-8192 : Int) = r.2.2.2.1) ∧
   (Ob ((0 : Int) = r.2.2.2.2) ∧
   True))))))) = _) ?_
  refine ob_t ?_
  exact ret_s h (fun e => by subst e; exact (by repeat' (first | exact trivial | exact ⟨rfl⟩ | refine And.intro ?_ ?_)))
set_option maxRecDepth 100000 in
theorem L06_Half_ok : SpecOK Try.prog 81 true (pureK k_L06_Half g_L06_Half) := by
  refine pureK_ok (sp := sp0) (fn := Try.f81) (body := bodyOf Try.f81) mixed sp0_ok Try.func81 (by kernel_rfl) (by kernel_rfl) fun as_ ob rs h ho => ?_
  unfold g_L06_Half at h
  split at h
  · cases h
    exact ⟨Nat.le_of_ble_eq_true rfl, _, _, L06_Half_vc _ (ok_some ho)⟩
  · cases h
theorem sp_81_ok {sp : Specs} (h : SpecsOK Try.prog sp) : SpecsOK Try.prog (sp_81 sp) := addK_ok L06_Half_ok h

/-- math/bits.Mul64 -/
def math_bits_Mul64 (x_ : Int) (y_ : Int) : Option (Int × Int) :=
  some ((IntKind.wrap IntKind.u64 (IntKind.wrap IntKind.u64 (IntKind.wrap IntKind.u64 (Int.fdiv x_ ((2 : Int) ^ min (32 : Nat) (IntKind.bits IntKind.u64)) * Int.fdiv y_ ((2 : Int) ^ min (32 : Nat) (IntKind.bits IntKind.u64))) + Int.fdiv (IntKind.wrap IntKind.u64 (IntKind.wrap IntKind.u64 (Int.fdiv x_ ((2 : Int) ^ min (32 : Nat) (IntKind.bits IntKind.u64)) * IntKind.wrap IntKind.u64 (↑(BitVec.toNat (BitVec.ofInt (IntKind.bits IntKind.u64) y_ &&& BitVec.ofInt (IntKind.bits IntKind.u64) (4294967295 : Int))) : Int)) + Int.fdiv (IntKind.wrap IntKind.u64 (IntKind.wrap IntKind.u64 (↑(BitVec.toNat (BitVec.ofInt (IntKind.bits IntKind.u64) x_ &&& BitVec.ofInt (IntKind.bits IntKind.u64) (4294967295 : Int))) : Int) * IntKind.wrap IntKind.u64 (↑(BitVec.toNat (BitVec.ofInt (IntKind.bits IntKind.u64) y_ &&& BitVec.ofInt (IntKind.bits IntKind.u64) (4294967295 : Int))) : Int))) ((2 : Int) ^ min (32 : Nat) (IntKind.bits IntKind.u64)))) ((2 : Int) ^ min (32 : Nat) (IntKind.bits IntKind.u64))) + Int.fdiv (IntKind.wrap IntKind.u64 (IntKind.wrap IntKind.u64 (↑(BitVec.toNat (BitVec.ofInt (IntKind.bits IntKind.u64) (IntKind.wrap IntKind.u64 (IntKind.wrap IntKind.u64 (Int.fdiv x_ ((2 : Int) ^ min (32 : Nat) (IntKind.bits IntKind.u64)) * IntKind.wrap IntKind.u64 (↑(BitVec.toNat (BitVec.ofInt (IntKind.bits IntKind.u64) y_ &&& BitVec.ofInt (IntKind.bits IntKind.u64) (4294967295 : Int))) : Int)) + Int.fdiv (IntKind.wrap IntKind.u64 (IntKind.wrap IntKind.u64 (↑(BitVec.toNat (BitVec.ofInt (IntKind.bits IntKind.u64) x_ &&& BitVec.ofInt (IntKind.bits IntKind.u64) (4294967295 : Int))) : Int) * IntKind.wrap IntKind.u64 (↑(BitVec.toNat (BitVec.ofInt (IntKind.bits IntKind.u64) y_ &&& BitVec.ofInt (IntKind.bits IntKind.u64) (4294967295 : Int))) : Int))) ((2 : Int) ^ min (32 : Nat) (IntKind.bits IntKind.u64)))) &&& BitVec.ofInt (IntKind.bits IntKind.u64) (4294967295 : Int))) : Int) + IntKind.wrap IntKind.u64 (IntKind.wrap IntKind.u64 (↑(BitVec.toNat (BitVec.ofInt (IntKind.bits IntKind.u64) x_ &&& BitVec.ofInt (IntKind.bits IntKind.u64) (4294967295 : Int))) : Int) * Int.fdiv y_ ((2 : Int) ^ min (32 : Nat) (IntKind.bits IntKind.u64))))) ((2 : Int) ^ min (32 : Nat) (IntKind.bits IntKind.u64))), IntKind.wrap IntKind.u64 (x_ * y_)))
def g_math_bits_Mul64 : List A → Option (Prop × List RV)
  | [.d (.i .u64 x_), .d (.i .u64 y_)] => some (ok (math_bits_Mul64 x_ y_), [.d (.i .u64 ((val (math_bits_Mul64 x_ y_)).1)), .d (.i .u64 ((val (math_bits_Mul64 x_ y_)).2))])
  | _ => none
def k_math_bits_Mul64 : List (Option Cont) := [none, none]
abbrev sp_118 : Specs → Specs := addK 118 true (pureK k_math_bits_Mul64 g_math_bits_Mul64)
set_option maxRecDepth 100000 in
theorem math_bits_Mul64_vc (x_ : Int) (y_ : Int) (r : Int × Int) (h : Option.bind (math_bits_Mul64 x_ y_) some = some r) : runF Try.f118 (sp0) (fun _ _ _ => none) [.d (.i .u64 x_), .d (.i .u64 y_)] [.d (.i .u64 r.1), .d (.i .u64 r.2)] := by
  refine Eq.mp (by kernel_rfl : (
  (Ob ((0 : Int) ≤ (32 : Int)) ∧
   (Ob ((0 : Int) ≤ (32 : Int)) ∧
   (Ob ((0 : Int) ≤ (32 : Int)) ∧
   (Ob ((0 : Int) ≤ (32 : Int)) ∧
   (Ob ((0 : Int) ≤ (32 : Int)) ∧
   (Ob (True) ∧
   (Ob (True) ∧
   (Ob (IntKind.wrap IntKind.u64 (IntKind.wrap IntKind.u64 (IntKind.wrap IntKind.u64 (Int.fdiv x_ ((2 : Int) ^ min (32 : Nat) (IntKind.bits IntKind.u64)) * Int.fdiv y_ ((2 : Int) ^ min (32 : Nat) (IntKind.bits IntKind.u64))) + Int.fdiv (IntKind.wrap IntKind.u64 (IntKind.wrap IntKind.u64 (Int.fdiv x_ ((2 : Int) ^ min (32 : Nat) (IntKind.bits IntKind.u64)) * IntKind.wrap IntKind.u64 (↑(BitVec.toNat (BitVec.ofInt (IntKind.bits IntKind.u64) y_ &&& BitVec.ofInt (IntKind.bits IntKind.u64) (4294967295 : Int))) : Int)) + Int.fdiv (IntKind.wrap IntKind.u64 (IntKind.wrap IntKind.u64 (↑(BitVec.toNat (BitVec.ofInt (IntKind.bits IntKind.u64) x_ &&& BitVec.ofInt (IntKind.bits IntKind.u64) (4294967295 : Int))) : Int) * IntKind.wrap IntKind.u64 (↑(BitVec.toNat (BitVec.ofInt (IntKind.bits IntKind.u64) y_ &&& BitVec.ofInt (IntKind.bits IntKind.u64) (4294967295 : Int))) : Int))) ((2 : Int) ^ min (32 : Nat) (IntKind.bits IntKind.u64)))) ((2 : Int) ^ min (32 : Nat) (IntKind.bits IntKind.u64))) + Int.fdiv (IntKind.wrap IntKind.u64 (IntKind.wrap IntKind.u64 (↑(BitVec.toNat (BitVec.ofInt (IntKind.bits IntKind.u64) (IntKind.wrap IntKind.u64 (IntKind.wrap IntKind.u64 (Int.fdiv x_ ((2 : Int) ^ min (32 : Nat) (IntKind.bits IntKind.u64)) * IntKind.wrap IntKind.u64 (↑(BitVec.toNat (BitVec.ofInt (IntKind.bits IntKind.u64) y_ &&& BitVec.ofInt (IntKind.bits IntKind.u64) (4294967295 : Int))) : Int)) + Int.fdiv (IntKind.wrap IntKind.u64 (IntKind.wrap IntKind.u64 (↑(BitVec.toNat (BitVec.ofInt (IntKind.bits IntKind.u64) x_ &&& BitVec.ofInt (IntKind.bits IntKind.u64) (4294967295 : Int))) : Int) * IntKind.wrap IntKind.u64 (↑(BitVec.toNat (BitVec.ofInt (IntKind.bits IntKind.u64) y_ &&& BitVec.ofInt (IntKind.bits IntKind.u64) (4294967295 : Int))) : Int))) ((2 : Int) ^ min (32 : Nat) (IntKind.bits IntKind.u64)))) &&& BitVec.ofInt (IntKind.bits IntKind.u64) (4294967295 : Int))) : Int) + IntKind.wrap IntKind.u64 (IntKind.wrap IntKind.u64 (↑(BitVec.toNat (BitVec.ofInt (IntKind.bits IntKind.u64) x_ &&& BitVec.ofInt (IntKind.bits IntKind.u64) (4294967295 : Int))) : Int) * Int.fdiv y_ ((2 : Int) ^ min (32 : Nat) (IntKind.bits IntKind.u64))))) ((2 : Int) ^ min (32 : Nat) (IntKind.bits IntKind.u64))) = r.1) ∧
   (Ob (IntKind.wrap IntKind.u64 (x_ * y_) = r.2) ∧
   True)))))))))) = _) ?_
  refine ob_c (p := (0 : Int) ≤ (32 : Int)) (by decide) ?_
  refine ob_c (p := (0 : Int) ≤ (32 : Int)) (by decide) ?_
  refine ob_c (p := (0 : Int) ≤ (32 : Int)) (by decide) ?_
  refine ob_c (p := (0 : Int) ≤ (32 : Int)) (by decide) ?_
  refine ob_c (p := (0 : Int) ≤ (32 : Int)) (by decide) ?_
  refine ob_t ?_
  refine ob_t ?_
  exact ret_s h (fun e => by subst e; exact (by repeat' (first | exact trivial | exact ⟨rfl⟩ | refine And.intro ?_ ?_)))
set_option maxRecDepth 100000 in
theorem math_bits_Mul64_ok : SpecOK Try.prog 118 true (pureK k_math_bits_Mul64 g_math_bits_Mul64) := by
  refine pureK_ok (sp := sp0) (fn := Try.f118) (body := bodyOf Try.f118) mixed sp0_ok Try.func118 (by kernel_rfl) (by kernel_rfl) fun as_ ob rs h ho => ?_
  unfold g_math_bits_Mul64 at h
  split at h
  · rename_i x_ y_
    cases h
    exact ⟨Nat.le_of_ble_eq_true rfl, _, _, math_bits_Mul64_vc x_ y_ _ (ok_some ho)⟩
  · cases h
theorem sp_118_ok {sp : Specs} (h : SpecsOK Try.prog sp) : SpecsOK Try.prog (sp_118 sp) := addK_ok math_bits_Mul64_ok h

/-- math/bits.Len64 -/
def math_bits_Len64 (x_ : Int) : Option Int :=
  if x_ ≥ (4294967296 : Int) then
   if Int.fdiv x_ ((2 : Int) ^ min (32 : Nat) (IntKind.bits IntKind.u64)) ≥ (65536 : Int) then
   if Int.fdiv (Int.fdiv x_ ((2 : Int) ^ min (32 : Nat) (IntKind.bits IntKind.u64))) ((2 : Int) ^ min (16 : Nat) (IntKind.bits IntKind.u64)) ≥ (256 : Int) then
   if (0 : Int) ≤ IntKind.wrap IntKind.u8 (Int.fdiv (Int.fdiv (Int.fdiv x_ ((2 : Int) ^ min (32 : Nat) (IntKind.bits IntKind.u64))) ((2 : Int) ^ min (16 : Nat) (IntKind.bits IntKind.u64))) ((2 : Int) ^ min (8 : Nat) (IntKind.bits IntKind.u64))) ∧ IntKind.wrap IntKind.u8 (Int.fdiv (Int.fdiv (Int.fdiv x_ ((2 : Int) ^ min (32 : Nat) (IntKind.bits IntKind.u64))) ((2 : Int) ^ min (16 : Nat) (IntKind.bits IntKind.u64))) ((2 : Int) ^ min (8 : Nat) (IntKind.bits IntKind.u64))) < (↑(ByteArray.size tab8) : Int) then
   some (IntKind.wrap IntKind.i64 (IntKind.wrap IntKind.i64 (IntKind.wrap IntKind.i64 ((32 : Int) + (16 : Int)) + (8 : Int)) + IntKind.wrap IntKind.i64 (↑(UInt8.toNat (Array.getD (ByteArray.data tab8) (Int.toNat (IntKind.wrap IntKind.u8 (Int.fdiv (Int.fdiv (Int.fdiv x_ ((2 : Int) ^ min (32 : Nat) (IntKind.bits IntKind.u64))) ((2 : Int) ^ min (16 : Nat) (IntKind.bits IntKind.u64))) ((2 : Int) ^ min (8 : Nat) (IntKind.bits IntKind.u64))))) (0 : UInt8))) : Int)))
   else none
   else
   if (0 : Int) ≤ IntKind.wrap IntKind.u8 (Int.fdiv (Int.fdiv x_ ((2 : Int) ^ min (32 : Nat) (IntKind.bits IntKind.u64))) ((2 : Int) ^ min (16 : Nat) (IntKind.bits IntKind.u64))) ∧ IntKind.wrap IntKind.u8 (Int.fdiv (Int.fdiv x_ ((2 : Int) ^ min (32 : Nat) (IntKind.bits IntKind.u64))) ((2 : Int) ^ min (16 : Nat) (IntKind.bits IntKind.u64))) < (↑(ByteArray.size tab8) : Int) then
   some (IntKind.wrap IntKind.i64 (IntKind.wrap IntKind.i64 ((32 : Int) + (16 : Int)) + IntKind.wrap IntKind.i64 (↑(UInt8.toNat (Array.getD (ByteArray.data tab8) (Int.toNat (IntKind.wrap IntKind.u8 (Int.fdiv (Int.fdiv x_ ((2 : Int) ^ min (32 : Nat) (IntKind.bits IntKind.u64))) ((2 : Int) ^ min (16 : Nat) (IntKind.bits IntKind.u64))))) (0 : UInt8))) : Int)))
   else none
   else
   if Int.fdiv x_ ((2 : Int) ^ min (32 : Nat) (IntKind.bits IntKind.u64)) ≥ (256 : Int) then
   if (0 : Int) ≤ IntKind.wrap IntKind.u8 (Int.fdiv (Int.fdiv x_ ((2 : Int) ^ min (32 : Nat) (IntKind.bits IntKind.u64))) ((2 : Int) ^ min (8 : Nat) (IntKind.bits IntKind.u64))) ∧ IntKind.wrap IntKind.u8 (Int.fdiv (Int.fdiv x_ ((2 : Int) ^ min (32 : Nat) (IntKind.bits IntKind.u64))) ((2 : Int) ^ min (8 : Nat) (IntKind.bits IntKind.u64))) < (↑(ByteArray.size tab8) : Int) then
   some (IntKind.wrap IntKind.i64 (IntKind.wrap IntKind.i64 ((32 : Int) + (8 : Int)) + IntKind.wrap IntKind.i64 (↑(UInt8.toNat (Array.getD (ByteArray.data tab8) (Int.toNat (IntKind.wrap IntKind.u8 (Int.fdiv (Int.fdiv x_ ((2 : Int) ^ min (32 : Nat) (IntKind.bits IntKind.u64))) ((2 : Int) ^ min (8 : Nat) (IntKind.bits IntKind.u64))))) (0 : UInt8))) : Int)))
   else none
   else
   if (0 : Int) ≤ IntKind.wrap IntKind.u8 (Int.fdiv x_ ((2 : Int) ^ min (32 : Nat) (IntKind.bits IntKind.u64))) ∧ IntKind.wrap IntKind.u8 (Int.fdiv x_ ((2 : Int) ^ min (32 : Nat) (IntKind.bits IntKind.u64))) < (↑(ByteArray.size tab8) : Int) then
   some (IntKind.wrap IntKind.i64 ((32 : Int) + IntKind.wrap IntKind.i64 (↑(UInt8.toNat (Array.getD (ByteArray.data tab8) (Int.toNat (IntKind.wrap IntKind.u8 (Int.fdiv x_ ((2 : Int) ^ min (32 : Nat) (IntKind.bits IntKind.u64))))) (0 : UInt8))) : Int)))
   else none
  else
   if x_ ≥ (65536 : Int) then
   if Int.fdiv x_ ((2 : Int) ^ min (16 : Nat) (IntKind.bits IntKind.u64)) ≥ (256 : Int) then
   if (0 : Int) ≤ IntKind.wrap IntKind.u8 (Int.fdiv (Int.fdiv x_ ((2 : Int) ^ min (16 : Nat) (IntKind.bits IntKind.u64))) ((2 : Int) ^ min (8 : Nat) (IntKind.bits IntKind.u64))) ∧ IntKind.wrap IntKind.u8 (Int.fdiv (Int.fdiv x_ ((2 : Int) ^ min (16 : Nat) (IntKind.bits IntKind.u64))) ((2 : Int) ^ min (8 : Nat) (IntKind.bits IntKind.u64))) < (↑(ByteArray.size tab8) : Int) then
   some (IntKind.wrap IntKind.i64 (IntKind.wrap IntKind.i64 (IntKind.wrap IntKind.i64 ((0 : Int) + (16 : Int)) + (8 : Int)) + IntKind.wrap IntKind.i64 (↑(UInt8.toNat (Array.getD (ByteArray.data tab8) (Int.toNat (IntKind.wrap IntKind.u8 (Int.fdiv (Int.fdiv x_ ((2 : Int) ^ min (16 : Nat) (IntKind.bits IntKind.u64))) ((2 : Int) ^ min (8 : Nat) (IntKind.bits IntKind.u64))))) (0 : UInt8))) : Int)))
   else none
   else
   if (0 : Int) ≤ IntKind.wrap IntKind.u8 (Int.fdiv x_ ((2 : Int) ^ min (16 : Nat) (IntKind.bits IntKind.u64))) ∧ IntKind.wrap IntKind.u8 (Int.fdiv x_ ((2 : Int) ^ min (16 : Nat) (IntKind.bits IntKind.u64))) < (↑(ByteArray.size tab8) : Int) then
   some (IntKind.wrap IntKind.i64 (IntKind.wrap IntKind.i64 ((0 : Int) + (16 : Int)) + IntKind.wrap IntKind.i64 (↑(UInt8.toNat (Array.getD (ByteArray.data tab8) (Int.toNat (IntKind.wrap IntKind.u8 (Int.fdiv x_ ((2 : Int) ^ min (16 : Nat) (IntKind.bits IntKind.u64))))) (0 : UInt8))) : Int)))
   else none
   else
   if x_ ≥ (256 : Int) then
   if (0 : Int) ≤ IntKind.wrap IntKind.u8 (Int.fdiv x_ ((2 : Int) ^ min (8 : Nat) (IntKind.bits IntKind.u64))) ∧ IntKind.wrap IntKind.u8 (Int.fdiv x_ ((2 : Int) ^ min (8 : Nat) (IntKind.bits IntKind.u64))) < (↑(ByteArray.size tab8) : Int) then
   some (IntKind.wrap IntKind.i64 (IntKind.wrap IntKind.i64 ((0 : Int) + (8 : Int)) + IntKind.wrap IntKind.i64 (↑(UInt8.toNat (Array.getD (ByteArray.data tab8) (Int.toNat (IntKind.wrap IntKind.u8 (Int.fdiv x_ ((2 : Int) ^ min (8 : Nat) (IntKind.bits IntKind.u64))))) (0 : UInt8))) : Int)))
   else none
   else
   if (0 : Int) ≤ IntKind.wrap IntKind.u8 x_ ∧ IntKind.wrap IntKind.u8 x_ < (↑(ByteArray.size tab8) : Int) then
   some (IntKind.wrap IntKind.i64 ((0 : Int) + IntKind.wrap IntKind.i64 (↑(UInt8.toNat (Array.getD (ByteArray.data tab8) (Int.toNat (IntKind.wrap IntKind.u8 x_)) (0 : UInt8))) : Int)))
   else none
def g_math_bits_Len64 : List A → Option (Prop × List RV)
  | [.d (.i .u64 x_)] => some (ok (math_bits_Len64 x_), [.d (.i .i64 ((val (math_bits_Len64 x_))))])
  | _ => none
def k_math_bits_Len64 : List (Option Cont) := [none]
abbrev sp_137 : Specs → Specs := addK 137 true (pureK k_math_bits_Len64 g_math_bits_Len64)
set_option maxRecDepth 100000 in
theorem math_bits_Len64_vc (x_ : Int) (r : Int) (h : Option.bind (math_bits_Len64 x_) some = some r) : runF Try.f137 (sp0) (fun _ _ _ => none) [.d (.i .u64 x_)] [.d (.i .i64 r)] := by
  refine Eq.mp (by kernel_rfl : (
  Br (decide (x_ ≥ (4294967296 : Int)))
   ((Ob ((0 : Int) ≤ (32 : Int)) ∧
   Br (decide (Int.fdiv x_ ((2 : Int) ^ min (32 : Nat) (IntKind.bits IntKind.u64)) ≥ (65536 : Int)))
   ((Ob ((0 : Int) ≤ (16 : Int)) ∧
   Br (decide (Int.fdiv (Int.fdiv x_ ((2 : Int) ^ min (32 : Nat) (IntKind.bits IntKind.u64))) ((2 : Int) ^ min (16 : Nat) (IntKind.bits IntKind.u64)) ≥ (256 : Int)))
   ((Ob ((0 : Int) ≤ (8 : Int)) ∧
   (Ob (True) ∧
   (Ob ((0 : Int) ≤ IntKind.wrap IntKind.u8 (Int.fdiv (Int.fdiv (Int.fdiv x_ ((2 : Int) ^ min (32 : Nat) (IntKind.bits IntKind.u64))) ((2 : Int) ^ min (16 : Nat) (IntKind.bits IntKind.u64))) ((2 : Int) ^ min (8 : Nat) (IntKind.bits IntKind.u64))) ∧ IntKind.wrap IntKind.u8 (Int.fdiv (Int.fdiv (Int.fdiv x_ ((2 : Int) ^ min (32 : Nat) (IntKind.bits IntKind.u64))) ((2 : Int) ^ min (16 : Nat) (IntKind.bits IntKind.u64))) ((2 : Int) ^ min (8 : Nat) (IntKind.bits IntKind.u64))) < (↑(ByteArray.size tab8) : Int)) ∧
   (Ob (True) ∧
   (Ob (True) ∧
   (Ob (IntKind.wrap IntKind.i64 (IntKind.wrap IntKind.i64 (IntKind.wrap IntKind.i64 ((32 : Int) + (16 : Int)) + (8 : Int)) + IntKind.wrap IntKind.i64 (↑(UInt8.toNat (Array.getD (ByteArray.data tab8) (Int.toNat (IntKind.wrap IntKind.u8 (Int.fdiv (Int.fdiv (Int.fdiv x_ ((2 : Int) ^ min (32 : Nat) (IntKind.bits IntKind.u64))) ((2 : Int) ^ min (16 : Nat) (IntKind.bits IntKind.u64))) ((2 : Int) ^ min (8 : Nat) (IntKind.bits IntKind.u64))))) (0 : UInt8))) : Int)) = r) ∧
   True)))))))
   ((Ob (True) ∧
   (Ob ((0 : Int) ≤ IntKind.wrap IntKind.u8 (Int.fdiv (Int.fdiv x_ ((2 : Int) ^ min (32 : Nat) (IntKind.bits IntKind.u64))) ((2 : Int) ^ min (16 : Nat) (IntKind.bits IntKind.u64))) ∧ IntKind.wrap IntKind.u8 (Int.fdiv (Int.fdiv x_ ((2 : Int) ^ min (32 : Nat) (IntKind.bits IntKind.u64))) ((2 : Int) ^ min (16 : Nat) (IntKind.bits IntKind.u64))) < (↑(ByteArray.size tab8) : Int)) ∧
   (Ob (True) ∧
   (Ob (True) ∧
   (Ob (IntKind.wrap IntKind.i64 (IntKind.wrap IntKind.i64 ((32 : Int) + (16 : Int)) + IntKind.wrap IntKind.i64 (↑(UInt8.toNat (Array.getD (ByteArray.data tab8) (Int.toNat (IntKind.wrap IntKind.u8 (Int.fdiv (Int.fdiv x_ ((2 : Int) ^ min (32 : Nat) (IntKind.bits IntKind.u64))) ((2 : Int) ^ min (16 : Nat) (IntKind.bits IntKind.u64))))) (0 : UInt8))) : Int)) = r) ∧
   True))))))))
   (Br (decide (Int.fdiv x_ ((2 : Int) ^ min (32 : Nat) (IntKind.bits IntKind.u64)) ≥ (256 : Int)))
   ((Ob ((0 : Int) ≤ (8 : Int)) ∧
   (Ob (True) ∧
   (Ob ((0 : Int) ≤ IntKind.wrap IntKind.u8 (Int.fdiv (Int.fdiv x_ ((2 : Int) ^ min (32 : Nat) (IntKind.bits IntKind.u64))) ((2 : Int) ^ min (8 : Nat) (IntKind.bits IntKind.u64))) ∧ IntKind.wrap IntKind.u8 (Int.fdiv (Int.fdiv x_ ((2 : Int) ^ min (32 : Nat) (IntKind.bits IntKind.u64))) ((2 : Int) ^ min (8 : Nat) (IntKind.bits IntKind.u64))) < (↑(ByteArray.size tab8) : Int)) ∧
   (Ob (True) ∧
   (Ob (True) ∧
   (Ob (IntKind.wrap IntKind.i64 (IntKind.wrap IntKind.i64 ((32 : Int) + (8 : Int)) + IntKind.wrap IntKind.i64 (↑(UInt8.toNat (Array.getD (ByteArray.data tab8) (Int.toNat (IntKind.wrap IntKind.u8 (Int.fdiv (Int.fdiv x_ ((2 : Int) ^ min (32 : Nat) (IntKind.bits IntKind.u64))) ((2 : Int) ^ min (8 : Nat) (IntKind.bits IntKind.u64))))) (0 : UInt8))) : Int)) = r) ∧
   True)))))))
   ((Ob (True) ∧
   (Ob ((0 : Int) ≤ IntKind.wrap IntKind.u8 (Int.fdiv x_ ((2 : Int) ^ min (32 : Nat) (IntKind.bits IntKind.u64))) ∧ IntKind.wrap IntKind.u8 (Int.fdiv x_ ((2 : Int) ^ min (32 : Nat) (IntKind.bits IntKind.u64))) < (↑(ByteArray.size tab8) : Int)) ∧
   (Ob (True) ∧
   (Ob (True) ∧
   (Ob (IntKind.wrap IntKind.i64 ((32 : Int) + IntKind.wrap IntKind.i64 (↑(UInt8.toNat (Array.getD (ByteArray.data tab8) (Int.toNat (IntKind.wrap IntKind.u8 (Int.fdiv x_ ((2 : Int) ^ min (32 : Nat) (IntKind.bits IntKind.u64))))) (0 : UInt8))) : Int)) = r) ∧
   True)))))))))
   (Br (decide (x_ ≥ (65536 : Int)))
   ((Ob ((0 : Int) ≤ (16 : Int)) ∧
   Br (decide (Int.fdiv x_ ((2 : Int) ^ min (16 : Nat) (IntKind.bits IntKind.u64)) ≥ (256 : Int)))
   ((Ob ((0 : Int) ≤ (8 : Int)) ∧
   (Ob (True) ∧
   (Ob ((0 : Int) ≤ IntKind.wrap IntKind.u8 (Int.fdiv (Int.fdiv x_ ((2 : Int) ^ min (16 : Nat) (IntKind.bits IntKind.u64))) ((2 : Int) ^ min (8 : Nat) (IntKind.bits IntKind.u64))) ∧ IntKind.wrap IntKind.u8 (Int.fdiv (Int.fdiv x_ ((2 : Int) ^ min (16 : Nat) (IntKind.bits IntKind.u64))) ((2 : Int) ^ min (8 : Nat) (IntKind.bits IntKind.u64))) < (↑(ByteArray.size tab8) : Int)) ∧
   (Ob (True) ∧
   (Ob (True) ∧
   (Ob (IntKind.wrap IntKind.i64 (IntKind.wrap IntKind.i64 (IntKind.wrap IntKind.i64 ((0 : Int) + (16 : Int)) + (8 : Int)) + IntKind.wrap IntKind.i64 (↑(UInt8.toNat (Array.getD (ByteArray.data tab8) (Int.toNat (IntKind.wrap IntKind.u8 (Int.fdiv (Int.fdiv x_ ((2 : Int) ^ min (16 : Nat) (IntKind.bits IntKind.u64))) ((2 : Int) ^ min (8 : Nat) (IntKind.bits IntKind.u64))))) (0 : UInt8))) : Int)) = r) ∧
   True)))))))
   ((Ob (True) ∧
   (Ob ((0 : Int) ≤ IntKind.wrap IntKind.u8 (Int.fdiv x_ ((2 : Int) ^ min (16 : Nat) (IntKind.bits IntKind.u64))) ∧ IntKind.wrap IntKind.u8 (Int.fdiv x_ ((2 : Int) ^ min (16 : Nat) (IntKind.bits IntKind.u64))) < (↑(ByteArray.size tab8) : Int)) ∧
   (Ob (True) ∧
   (Ob (True) ∧
   (Ob (IntKind.wrap IntKind.i64 (IntKind.wrap IntKind.i64 ((0 : Int) + (16 : Int)) + IntKind.wrap IntKind.i64 (↑(UInt8.toNat (Array.getD (ByteArray.data tab8) (Int.toNat (IntKind.wrap IntKind.u8 (Int.fdiv x_ ((2 : Int) ^ min (16 : Nat) (IntKind.bits IntKind.u64))))) (0 : UInt8))) : Int)) = r) ∧
   True))))))))
   (Br (decide (x_ ≥ (256 : Int)))
   ((Ob ((0 : Int) ≤ (8 : Int)) ∧
   (Ob (True) ∧
   (Ob ((0 : Int) ≤ IntKind.wrap IntKind.u8 (Int.fdiv x_ ((2 : Int) ^ min (8 : Nat) (IntKind.bits IntKind.u64))) ∧ IntKind.wrap IntKind.u8 (Int.fdiv x_ ((2 : Int) ^ min (8 : Nat) (IntKind.bits IntKind.u64))) < (↑(ByteArray.size tab8) : Int)) ∧
   (Ob (True) ∧
   (Ob (True) ∧
   (Ob (IntKind.wrap IntKind.i64 (IntKind.wrap IntKind.i64 ((0 : Int) + (8 : Int)) + IntKind.wrap IntKind.i64 (↑(UInt8.toNat (Array.getD (ByteArray.data tab8) (Int.toNat (IntKind.wrap IntKind.u8 (Int.fdiv x_ ((2 : Int) ^ min (8 : Nat) (IntKind.bits IntKind.u64))))) (0 : UInt8))) : Int)) = r) ∧
   True)))))))
   ((Ob (True) ∧
   (Ob ((0 : Int) ≤ IntKind.wrap IntKind.u8 x_ ∧ IntKind.wrap IntKind.u8 x_ < (↑(ByteArray.size tab8) : Int)) ∧
   (Ob (True) ∧
   (Ob (True) ∧
   (Ob (IntKind.wrap IntKind.i64 ((0 : Int) + IntKind.wrap IntKind.i64 (↑(UInt8.toNat (Array.getD (ByteArray.data tab8) (Int.toNat (IntKind.wrap IntKind.u8 x_)) (0 : UInt8))) : Int)) = r) ∧
   True))))))))) = _) ?_
  refine br_d h (fun h => ?_) (fun h => ?_)
  · refine ob_c (p := (0 : Int) ≤ (32 : Int)) (by decide) ?_
    refine br_d h (fun h => ?_) (fun h => ?_)
    · refine ob_c (p := (0 : Int) ≤ (16 : Int)) (by decide) ?_
      refine br_d h (fun h => ?_) (fun h => ?_)
      · refine ob_c (p := (0 : Int) ≤ (8 : Int)) (by decide) ?_
        refine ob_t ?_
        refine ob_s h fun h => ?_
        refine ob_t ?_
        refine ob_t ?_
        exact ret_s h (fun e => by subst e; exact (by repeat' (first | exact trivial | exact ⟨rfl⟩ | refine And.intro ?_ ?_)))
      · refine ob_t ?_
        refine ob_s h fun h => ?_
        refine ob_t ?_
        refine ob_t ?_
        exact ret_s h (fun e => by subst e; exact (by repeat' (first | exact trivial | exact ⟨rfl⟩ | refine And.intro ?_ ?_)))
    · refine br_d h (fun h => ?_) (fun h => ?_)
      · refine ob_c (p := (0 : Int) ≤ (8 : Int)) (by decide) ?_
        refine ob_t ?_
        refine ob_s h fun h => ?_
        refine ob_t ?_
        refine ob_t ?_
        exact ret_s h (fun e => by subst e; exact (by repeat' (first | exact trivial | exact ⟨rfl⟩ | refine And.intro ?_ ?_)))
      · refine ob_t ?_
        refine ob_s h fun h => ?_
        refine ob_t ?_
        refine ob_t ?_
        exact ret_s h (fun e => by subst e; exact (by repeat' (first | exact trivial | exact ⟨rfl⟩ | refine And.intro ?_ ?_)))
  · refine br_d h (fun h => ?_) (fun h => ?_)
    · refine ob_c (p := (0 : Int) ≤ (16 : Int)) (by decide) ?_
      refine br_d h (fun h => ?_) (fun h => ?_)
      · refine ob_c (p := (0 : Int) ≤ (8 : Int)) (by decide) ?_
        refine ob_t ?_
        refine ob_s h fun h => ?_
        refine ob_t ?_
        refine ob_t ?_
        exact ret_s h (fun e => by subst e; exact (by repeat' (first | exact trivial | exact ⟨rfl⟩ | refine And.intro ?_ ?_)))
      · refine ob_t ?_
        refine ob_s h fun h => ?_
        refine ob_t ?_
        refine ob_t ?_
        exact ret_s h (fun e => by subst e; exact (by repeat' (first | exact trivial | exact ⟨rfl⟩ | refine And.intro ?_ ?_)))
    · refine br_d h (fun h => ?_) (fun h => ?_)
      · refine ob_c (p := (0 : Int) ≤ (8 : Int)) (by decide) ?_
        refine ob_t ?_
        refine ob_s h fun h => ?_
        refine ob_t ?_
        refine ob_t ?_
        exact ret_s h (fun e => by subst e; exact (by repeat' (first | exact trivial | exact ⟨rfl⟩ | refine And.intro ?_ ?_)))
      · refine ob_t ?_
        refine ob_s h fun h => ?_
        refine ob_t ?_
        refine ob_t ?_
        exact ret_s h (fun e => by subst e; exact (by repeat' (first | exact trivial | exact ⟨rfl⟩ | refine And.intro ?_ ?_)))
set_option maxRecDepth 100000 in
theorem math_bits_Len64_ok : SpecOK Try.prog 137 true (pureK k_math_bits_Len64 g_math_bits_Len64) := by
  refine pureK_ok (sp := sp0) (fn := Try.f137) (body := bodyOf Try.f137) mixed sp0_ok Try.func137 (by kernel_rfl) (by kernel_rfl) fun as_ ob rs h ho => ?_
  unfold g_math_bits_Len64 at h
  split at h
  · rename_i x_
    cases h
    exact ⟨Nat.le_of_ble_eq_true rfl, _, _, math_bits_Len64_vc x_ _ (ok_some ho)⟩
  · cases h
theorem sp_137_ok {sp : Specs} (h : SpecsOK Try.prog sp) : SpecsOK Try.prog (sp_137 sp) := addK_ok math_bits_Len64_ok h

/-- math/bits.LeadingZeros64 -/
def math_bits_LeadingZeros64 (x_ : Int) : Option Int :=
  Option.bind (math_bits_Len64 x_) fun r0 =>
  some (IntKind.wrap IntKind.i64 ((64 : Int) - r0))
def g_math_bits_LeadingZeros64 : List A → Option (Prop × List RV)
  | [.d (.i .u64 x_)] => some (ok (math_bits_LeadingZeros64 x_), [.d (.i .i64 ((val (math_bits_LeadingZeros64 x_))))])
  | _ => none
def k_math_bits_LeadingZeros64 : List (Option Cont) := [none]
abbrev sp_135 : Specs → Specs := addK 135 true (pureK k_math_bits_LeadingZeros64 g_math_bits_LeadingZeros64)
set_option maxRecDepth 100000 in
theorem math_bits_LeadingZeros64_vc (x_ : Int) (r : Int) (h : Option.bind (math_bits_LeadingZeros64 x_) some = some r) : runF Try.f135 ((sp_137 sp0)) (fun _ _ _ => none) [.d (.i .u64 x_)] [.d (.i .i64 r)] := by
  refine Eq.mp (by kernel_rfl : (
  (Ob (ok (math_bits_Len64 x_)) ∧
   (Ob (True) ∧
   (Ob (IntKind.wrap IntKind.i64 ((64 : Int) - val (math_bits_Len64 x_)) = r) ∧
   True)))) = _) ?_
  refine call_s h fun h => ?_
  refine ob_t ?_
  exact ret_s h (fun e => by subst e; exact (by repeat' (first | exact trivial | exact ⟨rfl⟩ | refine And.intro ?_ ?_)))
set_option maxRecDepth 100000 in
theorem math_bits_LeadingZeros64_ok : SpecOK Try.prog 135 true (pureK k_math_bits_LeadingZeros64 g_math_bits_LeadingZeros64) := by
  refine pureK_ok (sp := (sp_137 sp0)) (fn := Try.f135) (body := bodyOf Try.f135) mixed (sp_137_ok sp0_ok) Try.func135 (by kernel_rfl) (by kernel_rfl) fun as_ ob rs h ho => ?_
  unfold g_math_bits_LeadingZeros64 at h
  split at h
  · rename_i x_
    cases h
    exact ⟨Nat.le_of_ble_eq_true rfl, _, _, math_bits_LeadingZeros64_vc x_ _ (ok_some ho)⟩
  · cases h
theorem sp_135_ok {sp : Specs} (h : SpecsOK Try.prog sp) : SpecsOK Try.prog (sp_135 sp) := addK_ok math_bits_LeadingZeros64_ok h

def math_bits_Div64_b0 (lo : Int) (y_ : Int) (r0 : Int) (x0 : (Int × Int)) : Option ((Int × Int) ⊕ Int) :=
  if x0.1 ≥ (4294967296 : Int) then
   if IntKind.wrap IntKind.u64 (x0.2 + Int.fdiv (IntKind.wrap IntKind.u64 (y_ * (2 : Int) ^ min (Int.toNat (IntKind.wrap IntKind.u64 r0)) (IntKind.bits IntKind.u64))) ((2 : Int) ^ min (32 : Nat) (IntKind.bits IntKind.u64))) ≥ (4294967296 : Int) then
   some (.inr (IntKind.wrap IntKind.u64 (x0.1 - (1 : Int))))
   else
   some (.inl ((IntKind.wrap IntKind.u64 (x0.1 - (1 : Int)), IntKind.wrap IntKind.u64 (x0.2 + Int.fdiv (IntKind.wrap IntKind.u64 (y_ * (2 : Int) ^ min (Int.toNat (IntKind.wrap IntKind.u64 r0)) (IntKind.bits IntKind.u64))) ((2 : Int) ^ min (32 : Nat) (IntKind.bits IntKind.u64))))))
  else
   if IntKind.wrap IntKind.u64 (x0.1 * IntKind.wrap IntKind.u64 (↑(BitVec.toNat (BitVec.ofInt (IntKind.bits IntKind.u64) (IntKind.wrap IntKind.u64 (y_ * (2 : Int) ^ min (Int.toNat (IntKind.wrap IntKind.u64 r0)) (IntKind.bits IntKind.u64))) &&& BitVec.ofInt (IntKind.bits IntKind.u64) (4294967295 : Int))) : Int)) > IntKind.wrap IntKind.u64 (IntKind.wrap IntKind.u64 ((4294967296 : Int) * x0.2) + Int.fdiv (IntKind.wrap IntKind.u64 (lo * (2 : Int) ^ min (Int.toNat (IntKind.wrap IntKind.u64 r0)) (IntKind.bits IntKind.u64))) ((2 : Int) ^ min (32 : Nat) (IntKind.bits IntKind.u64))) then
   if IntKind.wrap IntKind.u64 (x0.2 + Int.fdiv (IntKind.wrap IntKind.u64 (y_ * (2 : Int) ^ min (Int.toNat (IntKind.wrap IntKind.u64 r0)) (IntKind.bits IntKind.u64))) ((2 : Int) ^ min (32 : Nat) (IntKind.bits IntKind.u64))) ≥ (4294967296 : Int) then
   some (.inr (IntKind.wrap IntKind.u64 (x0.1 - (1 : Int))))
   else
   some (.inl ((IntKind.wrap IntKind.u64 (x0.1 - (1 : Int)), IntKind.wrap IntKind.u64 (x0.2 + Int.fdiv (IntKind.wrap IntKind.u64 (y_ * (2 : Int) ^ min (Int.toNat (IntKind.wrap IntKind.u64 r0)) (IntKind.bits IntKind.u64))) ((2 : Int) ^ min (32 : Nat) (IntKind.bits IntKind.u64))))))
   else
   some (.inr x0.1)
def math_bits_Div64_b1 (lo : Int) (y_ : Int) (r0 : Int) (x1 : (Int × Int)) : Option ((Int × Int) ⊕ Int) :=
  if x1.2 ≥ (4294967296 : Int) then
   if IntKind.wrap IntKind.u64 (x1.1 + Int.fdiv (IntKind.wrap IntKind.u64 (y_ * (2 : Int) ^ min (Int.toNat (IntKind.wrap IntKind.u64 r0)) (IntKind.bits IntKind.u64))) ((2 : Int) ^ min (32 : Nat) (IntKind.bits IntKind.u64))) ≥ (4294967296 : Int) then
   some (.inr (IntKind.wrap IntKind.u64 (x1.2 - (1 : Int))))
   else
   some (.inl ((IntKind.wrap IntKind.u64 (x1.1 + Int.fdiv (IntKind.wrap IntKind.u64 (y_ * (2 : Int) ^ min (Int.toNat (IntKind.wrap IntKind.u64 r0)) (IntKind.bits IntKind.u64))) ((2 : Int) ^ min (32 : Nat) (IntKind.bits IntKind.u64))), IntKind.wrap IntKind.u64 (x1.2 - (1 : Int)))))
  else
   if IntKind.wrap IntKind.u64 (x1.2 * IntKind.wrap IntKind.u64 (↑(BitVec.toNat (BitVec.ofInt (IntKind.bits IntKind.u64) (IntKind.wrap IntKind.u64 (y_ * (2 : Int) ^ min (Int.toNat (IntKind.wrap IntKind.u64 r0)) (IntKind.bits IntKind.u64))) &&& BitVec.ofInt (IntKind.bits IntKind.u64) (4294967295 : Int))) : Int)) > IntKind.wrap IntKind.u64 (IntKind.wrap IntKind.u64 ((4294967296 : Int) * x1.1) + IntKind.wrap IntKind.u64 (↑(BitVec.toNat (BitVec.ofInt (IntKind.bits IntKind.u64) (IntKind.wrap IntKind.u64 (lo * (2 : Int) ^ min (Int.toNat (IntKind.wrap IntKind.u64 r0)) (IntKind.bits IntKind.u64))) &&& BitVec.ofInt (IntKind.bits IntKind.u64) (4294967295 : Int))) : Int)) then
   if IntKind.wrap IntKind.u64 (x1.1 + Int.fdiv (IntKind.wrap IntKind.u64 (y_ * (2 : Int) ^ min (Int.toNat (IntKind.wrap IntKind.u64 r0)) (IntKind.bits IntKind.u64))) ((2 : Int) ^ min (32 : Nat) (IntKind.bits IntKind.u64))) ≥ (4294967296 : Int) then
   some (.inr (IntKind.wrap IntKind.u64 (x1.2 - (1 : Int))))
   else
   some (.inl ((IntKind.wrap IntKind.u64 (x1.1 + Int.fdiv (IntKind.wrap IntKind.u64 (y_ * (2 : Int) ^ min (Int.toNat (IntKind.wrap IntKind.u64 r0)) (IntKind.bits IntKind.u64))) ((2 : Int) ^ min (32 : Nat) (IntKind.bits IntKind.u64))), IntKind.wrap IntKind.u64 (x1.2 - (1 : Int)))))
   else
   some (.inr x1.2)
def math_bits_Div64_r1 (hi : Int) (lo : Int) (y_ : Int) (y0_0 : Int) (r0 : Int) (y1_0 : Int) : Option (Int × Int) :=
  if (0 : Int) ≤ IntKind.wrap IntKind.u64 r0 then
   some ((IntKind.wrap IntKind.u64 (IntKind.wrap IntKind.u64 (y0_0 * (4294967296 : Int)) + y1_0), Int.fdiv (IntKind.wrap IntKind.u64 (IntKind.wrap IntKind.u64 (IntKind.wrap IntKind.u64 (IntKind.wrap IntKind.u64 (IntKind.wrap IntKind.u64 (IntKind.wrap IntKind.u64 (IntKind.wrap IntKind.u64 (↑(BitVec.toNat (BitVec.ofInt (IntKind.bits IntKind.u64) (IntKind.wrap IntKind.u64 (hi * (2 : Int) ^ min (Int.toNat (IntKind.wrap IntKind.u64 r0)) (IntKind.bits IntKind.u64))) ||| BitVec.ofInt (IntKind.bits IntKind.u64) (Int.fdiv lo ((2 : Int) ^ min (Int.toNat (IntKind.wrap IntKind.u64 ((64 : Int) - IntKind.wrap IntKind.u64 r0))) (IntKind.bits IntKind.u64))))) : Int) * (4294967296 : Int)) + Int.fdiv (IntKind.wrap IntKind.u64 (lo * (2 : Int) ^ min (Int.toNat (IntKind.wrap IntKind.u64 r0)) (IntKind.bits IntKind.u64))) ((2 : Int) ^ min (32 : Nat) (IntKind.bits IntKind.u64))) - IntKind.wrap IntKind.u64 (y0_0 * IntKind.wrap IntKind.u64 (y_ * (2 : Int) ^ min (Int.toNat (IntKind.wrap IntKind.u64 r0)) (IntKind.bits IntKind.u64)))) * (4294967296 : Int)) + IntKind.wrap IntKind.u64 (↑(BitVec.toNat (BitVec.ofInt (IntKind.bits IntKind.u64) (IntKind.wrap IntKind.u64 (lo * (2 : Int) ^ min (Int.toNat (IntKind.wrap IntKind.u64 r0)) (IntKind.bits IntKind.u64))) &&& BitVec.ofInt (IntKind.bits IntKind.u64) (4294967295 : Int))) : Int)) - IntKind.wrap IntKind.u64 (y1_0 * IntKind.wrap IntKind.u64 (y_ * (2 : Int) ^ min (Int.toNat (IntKind.wrap IntKind.u64 r0)) (IntKind.bits IntKind.u64))))) ((2 : Int) ^ min (Int.toNat (IntKind.wrap IntKind.u64 r0)) (IntKind.bits IntKind.u64))))
  else none
def math_bits_Div64_r0 (hi : Int) (lo : Int) (y_ : Int) (r0 : Int) (y0_0 : Int) : Option (Int × Int) :=
  if Int.fdiv (IntKind.wrap IntKind.u64 (y_ * (2 : Int) ^ min (Int.toNat (IntKind.wrap IntKind.u64 r0)) (IntKind.bits IntKind.u64))) ((2 : Int) ^ min (32 : Nat) (IntKind.bits IntKind.u64)) ≠ (0 : Int) then
   Option.bind (iter (math_bits_Div64_b1 lo y_ r0) big ((IntKind.wrap IntKind.u64 (IntKind.wrap IntKind.u64 (IntKind.wrap IntKind.u64 (IntKind.wrap IntKind.u64 (IntKind.wrap IntKind.u64 (↑(BitVec.toNat (BitVec.ofInt (IntKind.bits IntKind.u64) (IntKind.wrap IntKind.u64 (hi * (2 : Int) ^ min (Int.toNat (IntKind.wrap IntKind.u64 r0)) (IntKind.bits IntKind.u64))) ||| BitVec.ofInt (IntKind.bits IntKind.u64) (Int.fdiv lo ((2 : Int) ^ min (Int.toNat (IntKind.wrap IntKind.u64 ((64 : Int) - IntKind.wrap IntKind.u64 r0))) (IntKind.bits IntKind.u64))))) : Int) * (4294967296 : Int)) + Int.fdiv (IntKind.wrap IntKind.u64 (lo * (2 : Int) ^ min (Int.toNat (IntKind.wrap IntKind.u64 r0)) (IntKind.bits IntKind.u64))) ((2 : Int) ^ min (32 : Nat) (IntKind.bits IntKind.u64))) - IntKind.wrap IntKind.u64 (y0_0 * IntKind.wrap IntKind.u64 (y_ * (2 : Int) ^ min (Int.toNat (IntKind.wrap IntKind.u64 r0)) (IntKind.bits IntKind.u64)))) - IntKind.wrap IntKind.u64 (IntKind.wrap IntKind.u64 (Int.tdiv (IntKind.wrap IntKind.u64 (IntKind.wrap IntKind.u64 (IntKind.wrap IntKind.u64 (IntKind.wrap IntKind.u64 (↑(BitVec.toNat (BitVec.ofInt (IntKind.bits IntKind.u64) (IntKind.wrap IntKind.u64 (hi * (2 : Int) ^ min (Int.toNat (IntKind.wrap IntKind.u64 r0)) (IntKind.bits IntKind.u64))) ||| BitVec.ofInt (IntKind.bits IntKind.u64) (Int.fdiv lo ((2 : Int) ^ min (Int.toNat (IntKind.wrap IntKind.u64 ((64 : Int) - IntKind.wrap IntKind.u64 r0))) (IntKind.bits IntKind.u64))))) : Int) * (4294967296 : Int)) + Int.fdiv (IntKind.wrap IntKind.u64 (lo * (2 : Int) ^ min (Int.toNat (IntKind.wrap IntKind.u64 r0)) (IntKind.bits IntKind.u64))) ((2 : Int) ^ min (32 : Nat) (IntKind.bits IntKind.u64))) - IntKind.wrap IntKind.u64 (y0_0 * IntKind.wrap IntKind.u64 (y_ * (2 : Int) ^ min (Int.toNat (IntKind.wrap IntKind.u64 r0)) (IntKind.bits IntKind.u64))))) (Int.fdiv (IntKind.wrap IntKind.u64 (y_ * (2 : Int) ^ min (Int.toNat (IntKind.wrap IntKind.u64 r0)) (IntKind.bits IntKind.u64))) ((2 : Int) ^ min (32 : Nat) (IntKind.bits IntKind.u64)))) * Int.fdiv (IntKind.wrap IntKind.u64 (y_ * (2 : Int) ^ min (Int.toNat (IntKind.wrap IntKind.u64 r0)) (IntKind.bits IntKind.u64))) ((2 : Int) ^ min (32 : Nat) (IntKind.bits IntKind.u64)))), IntKind.wrap IntKind.u64 (Int.tdiv (IntKind.wrap IntKind.u64 (IntKind.wrap IntKind.u64 (IntKind.wrap IntKind.u64 (IntKind.wrap IntKind.u64 (↑(BitVec.toNat (BitVec.ofInt (IntKind.bits IntKind.u64) (IntKind.wrap IntKind.u64 (hi * (2 : Int) ^ min (Int.toNat (IntKind.wrap IntKind.u64 r0)) (IntKind.bits IntKind.u64))) ||| BitVec.ofInt (IntKind.bits IntKind.u64) (Int.fdiv lo ((2 : Int) ^ min (Int.toNat (IntKind.wrap IntKind.u64 ((64 : Int) - IntKind.wrap IntKind.u64 r0))) (IntKind.bits IntKind.u64))))) : Int) * (4294967296 : Int)) + Int.fdiv (IntKind.wrap IntKind.u64 (lo * (2 : Int) ^ min (Int.toNat (IntKind.wrap IntKind.u64 r0)) (IntKind.bits IntKind.u64))) ((2 : Int) ^ min (32 : Nat) (IntKind.bits IntKind.u64))) - IntKind.wrap IntKind.u64 (y0_0 * IntKind.wrap IntKind.u64 (y_ * (2 : Int) ^ min (Int.toNat (IntKind.wrap IntKind.u64 r0)) (IntKind.bits IntKind.u64))))) (Int.fdiv (IntKind.wrap IntKind.u64 (y_ * (2 : Int) ^ min (Int.toNat (IntKind.wrap IntKind.u64 r0)) (IntKind.bits IntKind.u64))) ((2 : Int) ^ min (32 : Nat) (IntKind.bits IntKind.u64))))))) (math_bits_Div64_r1 hi lo y_ y0_0 r0)
  else none
/-- math/bits.Div64 -/
def math_bits_Div64 (hi : Int) (lo : Int) (y_ : Int) : Option (Int × Int) :=
  if (y_ == (0 : Int)) = true then
   none /- False -/
  else
   if y_ ≤ hi then
   none /- False -/
   else
   if (hi == (0 : Int)) = true then
   if y_ ≠ (0 : Int) then
   if y_ ≠ (0 : Int) then
   some ((IntKind.wrap IntKind.u64 (Int.tdiv lo y_), Int.tmod lo y_))
   else none
   else none
   else
   Option.bind (math_bits_LeadingZeros64 y_) fun r0 =>
   if (0 : Int) ≤ IntKind.wrap IntKind.u64 r0 then
   if (0 : Int) ≤ IntKind.wrap IntKind.u64 r0 then
   if (0 : Int) ≤ IntKind.wrap IntKind.u64 ((64 : Int) - IntKind.wrap IntKind.u64 r0) then
   if (0 : Int) ≤ IntKind.wrap IntKind.u64 r0 then
   if Int.fdiv (IntKind.wrap IntKind.u64 (y_ * (2 : Int) ^ min (Int.toNat (IntKind.wrap IntKind.u64 r0)) (IntKind.bits IntKind.u64))) ((2 : Int) ^ min (32 : Nat) (IntKind.bits IntKind.u64)) ≠ (0 : Int) then
   Option.bind (iter (math_bits_Div64_b0 lo y_ r0) big ((IntKind.wrap IntKind.u64 (Int.tdiv (IntKind.wrap IntKind.u64 (↑(BitVec.toNat (BitVec.ofInt (IntKind.bits IntKind.u64) (IntKind.wrap IntKind.u64 (hi * (2 : Int) ^ min (Int.toNat (IntKind.wrap IntKind.u64 r0)) (IntKind.bits IntKind.u64))) ||| BitVec.ofInt (IntKind.bits IntKind.u64) (Int.fdiv lo ((2 : Int) ^ min (Int.toNat (IntKind.wrap IntKind.u64 ((64 : Int) - IntKind.wrap IntKind.u64 r0))) (IntKind.bits IntKind.u64))))) : Int)) (Int.fdiv (IntKind.wrap IntKind.u64 (y_ * (2 : Int) ^ min (Int.toNat (IntKind.wrap IntKind.u64 r0)) (IntKind.bits IntKind.u64))) ((2 : Int) ^ min (32 : Nat) (IntKind.bits IntKind.u64)))), IntKind.wrap IntKind.u64 (IntKind.wrap IntKind.u64 (↑(BitVec.toNat (BitVec.ofInt (IntKind.bits IntKind.u64) (IntKind.wrap IntKind.u64 (hi * (2 : Int) ^ min (Int.toNat (IntKind.wrap IntKind.u64 r0)) (IntKind.bits IntKind.u64))) ||| BitVec.ofInt (IntKind.bits IntKind.u64) (Int.fdiv lo ((2 : Int) ^ min (Int.toNat (IntKind.wrap IntKind.u64 ((64 : Int) - IntKind.wrap IntKind.u64 r0))) (IntKind.bits IntKind.u64))))) : Int) - IntKind.wrap IntKind.u64 (IntKind.wrap IntKind.u64 (Int.tdiv (IntKind.wrap IntKind.u64 (↑(BitVec.toNat (BitVec.ofInt (IntKind.bits IntKind.u64) (IntKind.wrap IntKind.u64 (hi * (2 : Int) ^ min (Int.toNat (IntKind.wrap IntKind.u64 r0)) (IntKind.bits IntKind.u64))) ||| BitVec.ofInt (IntKind.bits IntKind.u64) (Int.fdiv lo ((2 : Int) ^ min (Int.toNat (IntKind.wrap IntKind.u64 ((64 : Int) - IntKind.wrap IntKind.u64 r0))) (IntKind.bits IntKind.u64))))) : Int)) (Int.fdiv (IntKind.wrap IntKind.u64 (y_ * (2 : Int) ^ min (Int.toNat (IntKind.wrap IntKind.u64 r0)) (IntKind.bits IntKind.u64))) ((2 : Int) ^ min (32 : Nat) (IntKind.bits IntKind.u64)))) * Int.fdiv (IntKind.wrap IntKind.u64 (y_ * (2 : Int) ^ min (Int.toNat (IntKind.wrap IntKind.u64 r0)) (IntKind.bits IntKind.u64))) ((2 : Int) ^ min (32 : Nat) (IntKind.bits IntKind.u64))))))) (math_bits_Div64_r0 hi lo y_ r0)
   else none
   else none
   else none
   else none
   else none
def g_math_bits_Div64 : List A → Option (Prop × List RV)
  | [.d (.i .u64 hi), .d (.i .u64 lo), .d (.i .u64 y_)] => some (ok (math_bits_Div64 hi lo y_), [.d (.i .u64 ((val (math_bits_Div64 hi lo y_)).1)), .d (.i .u64 ((val (math_bits_Div64 hi lo y_)).2))])
  | _ => none
def k_math_bits_Div64 : List (Option Cont) := [none, none, none]
abbrev sp_128 : Specs → Specs := addK 128 true (pureK k_math_bits_Div64 g_math_bits_Div64)
set_option maxRecDepth 100000 in
theorem math_bits_Div64_vc (hi : Int) (lo : Int) (y_ : Int) (r : Int × Int) (h : Option.bind (math_bits_Div64 hi lo y_) some = some r) : runF Try.f128 ((sp_135 sp0)) (fun gs id _ => match id with
 | 0 => some ⟨(Int × Int) × Nat, fun z => ⟨[(2, .w (.c (.d (.i .u64 (IntKind.wrap IntKind.u64 (y_ * (2 : Int) ^ min (Int.toNat (IntKind.wrap IntKind.u64 (val (math_bits_LeadingZeros64 y_)))) (IntKind.bits IntKind.u64))))))), (8, .w (.c (.d (.i .u64 (IntKind.wrap IntKind.u64 (val (math_bits_LeadingZeros64 y_))))))), (9, .w (.c (.d (.i .u64 (Int.fdiv (IntKind.wrap IntKind.u64 (y_ * (2 : Int) ^ min (Int.toNat (IntKind.wrap IntKind.u64 (val (math_bits_LeadingZeros64 y_)))) (IntKind.bits IntKind.u64))) ((2 : Int) ^ min (32 : Nat) (IntKind.bits IntKind.u64))))))), (10, .w (.c (.d (.i .u64 (IntKind.wrap IntKind.u64 (↑(BitVec.toNat (BitVec.ofInt (IntKind.bits IntKind.u64) (IntKind.wrap IntKind.u64 (y_ * (2 : Int) ^ min (Int.toNat (IntKind.wrap IntKind.u64 (val (math_bits_LeadingZeros64 y_)))) (IntKind.bits IntKind.u64))) &&& BitVec.ofInt (IntKind.bits IntKind.u64) (4294967295 : Int))) : Int)))))), (11, .w (.c (.d (.i .u64 (IntKind.wrap IntKind.u64 (↑(BitVec.toNat (BitVec.ofInt (IntKind.bits IntKind.u64) (IntKind.wrap IntKind.u64 (hi * (2 : Int) ^ min (Int.toNat (IntKind.wrap IntKind.u64 (val (math_bits_LeadingZeros64 y_)))) (IntKind.bits IntKind.u64))) ||| BitVec.ofInt (IntKind.bits IntKind.u64) (Int.fdiv lo ((2 : Int) ^ min (Int.toNat (IntKind.wrap IntKind.u64 ((64 : Int) - IntKind.wrap IntKind.u64 (val (math_bits_LeadingZeros64 y_))))) (IntKind.bits IntKind.u64))))) : Int)))))), (13, .w (.c (.d (.i .u64 (Int.fdiv (IntKind.wrap IntKind.u64 (lo * (2 : Int) ^ min (Int.toNat (IntKind.wrap IntKind.u64 (val (math_bits_LeadingZeros64 y_)))) (IntKind.bits IntKind.u64))) ((2 : Int) ^ min (32 : Nat) (IntKind.bits IntKind.u64))))))), (14, .w (.c (.d (.i .u64 (IntKind.wrap IntKind.u64 (↑(BitVec.toNat (BitVec.ofInt (IntKind.bits IntKind.u64) (IntKind.wrap IntKind.u64 (lo * (2 : Int) ^ min (Int.toNat (IntKind.wrap IntKind.u64 (val (math_bits_LeadingZeros64 y_)))) (IntKind.bits IntKind.u64))) &&& BitVec.ofInt (IntKind.bits IntKind.u64) (4294967295 : Int))) : Int)))))), (15, .w (.c (.d (.i .u64 (Prod.fst (Prod.fst z)))))), (16, .w (.c (.d (.i .u64 (Prod.snd (Prod.fst z))))))], [], 3⟩, fun z => Option.bind (iter (math_bits_Div64_b0 lo y_ (val (math_bits_LeadingZeros64 y_))) (Prod.snd z) (Prod.fst z)) (fun y0 => Option.bind (math_bits_Div64_r0 hi lo y_ (val (math_bits_LeadingZeros64 y_)) y0) some) = some r, fun z => Prod.snd z⟩
 | 2 => some ⟨Int × (Int × Int) × Nat, fun z => ⟨[(2, .w (.c (.d (.i .u64 (IntKind.wrap IntKind.u64 (y_ * (2 : Int) ^ min (Int.toNat (IntKind.wrap IntKind.u64 (val (math_bits_LeadingZeros64 y_)))) (IntKind.bits IntKind.u64))))))), (8, .w (.c (.d (.i .u64 (IntKind.wrap IntKind.u64 (val (math_bits_LeadingZeros64 y_))))))), (9, .w (.c (.d (.i .u64 (Int.fdiv (IntKind.wrap IntKind.u64 (y_ * (2 : Int) ^ min (Int.toNat (IntKind.wrap IntKind.u64 (val (math_bits_LeadingZeros64 y_)))) (IntKind.bits IntKind.u64))) ((2 : Int) ^ min (32 : Nat) (IntKind.bits IntKind.u64))))))), (10, .w (.c (.d (.i .u64 (IntKind.wrap IntKind.u64 (↑(BitVec.toNat (BitVec.ofInt (IntKind.bits IntKind.u64) (IntKind.wrap IntKind.u64 (y_ * (2 : Int) ^ min (Int.toNat (IntKind.wrap IntKind.u64 (val (math_bits_LeadingZeros64 y_)))) (IntKind.bits IntKind.u64))) &&& BitVec.ofInt (IntKind.bits IntKind.u64) (4294967295 : Int))) : Int)))))), (14, .w (.c (.d (.i .u64 (IntKind.wrap IntKind.u64 (↑(BitVec.toNat (BitVec.ofInt (IntKind.bits IntKind.u64) (IntKind.wrap IntKind.u64 (lo * (2 : Int) ^ min (Int.toNat (IntKind.wrap IntKind.u64 (val (math_bits_LeadingZeros64 y_)))) (IntKind.bits IntKind.u64))) &&& BitVec.ofInt (IntKind.bits IntKind.u64) (4294967295 : Int))) : Int)))))), (15, .w (.c (.d (.i .u64 (Prod.fst z))))), (16, .w (.c (.d (.i .u64 (Prod.fst (Prod.fst (Prod.snd z))))))), (17, .w (.c (.d (.i .u64 (IntKind.wrap IntKind.u64 (IntKind.wrap IntKind.u64 (IntKind.wrap IntKind.u64 (IntKind.wrap IntKind.u64 (↑(BitVec.toNat (BitVec.ofInt (IntKind.bits IntKind.u64) (IntKind.wrap IntKind.u64 (hi * (2 : Int) ^ min (Int.toNat (IntKind.wrap IntKind.u64 (val (math_bits_LeadingZeros64 y_)))) (IntKind.bits IntKind.u64))) ||| BitVec.ofInt (IntKind.bits IntKind.u64) (Int.fdiv lo ((2 : Int) ^ min (Int.toNat (IntKind.wrap IntKind.u64 ((64 : Int) - IntKind.wrap IntKind.u64 (val (math_bits_LeadingZeros64 y_))))) (IntKind.bits IntKind.u64))))) : Int) * (4294967296 : Int)) + Int.fdiv (IntKind.wrap IntKind.u64 (lo * (2 : Int) ^ min (Int.toNat (IntKind.wrap IntKind.u64 (val (math_bits_LeadingZeros64 y_)))) (IntKind.bits IntKind.u64))) ((2 : Int) ^ min (32 : Nat) (IntKind.bits IntKind.u64))) - IntKind.wrap IntKind.u64 (Prod.fst z * IntKind.wrap IntKind.u64 (y_ * (2 : Int) ^ min (Int.toNat (IntKind.wrap IntKind.u64 (val (math_bits_LeadingZeros64 y_)))) (IntKind.bits IntKind.u64))))))))), (18, .w (.c (.d (.i .u64 (Prod.snd (Prod.fst (Prod.snd z)))))))], [], 3⟩, fun z => Option.bind (iter (math_bits_Div64_b1 lo y_ (val (math_bits_LeadingZeros64 y_))) (Prod.snd (Prod.snd z)) (Prod.fst (Prod.snd z))) (fun y0 => Option.bind (math_bits_Div64_r1 hi lo y_ (Prod.fst z) (val (math_bits_LeadingZeros64 y_)) y0) some) = some r, fun z => Prod.snd (Prod.snd z)⟩
 | _ => none) [.d (.i .u64 hi), .d (.i .u64 lo), .d (.i .u64 y_)] [.d (.i .u64 r.1), .d (.i .u64 r.2)] := by
  refine Eq.mp (by kernel_rfl : (
  Br (y_ == (0 : Int))
   (False)
   (Br (decide (y_ ≤ hi))
   (False)
   (Br (hi == (0 : Int))
   ((Ob (y_ ≠ (0 : Int)) ∧
   (Ob (y_ ≠ (0 : Int)) ∧
   (Ob (True) ∧
   (Ob (True) ∧
   (Ob (IntKind.wrap IntKind.u64 (Int.tdiv lo y_) = r.1) ∧
   (Ob (Int.tmod lo y_ = r.2) ∧
   True)))))))
   ((Ob (ok (math_bits_LeadingZeros64 y_)) ∧
   (Ob (True) ∧
   (Ob ((0 : Int) ≤ IntKind.wrap IntKind.u64 (val (math_bits_LeadingZeros64 y_))) ∧
   (Ob ((0 : Int) ≤ (32 : Int)) ∧
   (Ob ((0 : Int) ≤ IntKind.wrap IntKind.u64 (val (math_bits_LeadingZeros64 y_))) ∧
   (Ob ((0 : Int) ≤ IntKind.wrap IntKind.u64 ((64 : Int) - IntKind.wrap IntKind.u64 (val (math_bits_LeadingZeros64 y_)))) ∧
   (Ob ((0 : Int) ≤ IntKind.wrap IntKind.u64 (val (math_bits_LeadingZeros64 y_))) ∧
   (Ob ((0 : Int) ≤ (32 : Int)) ∧
   (Ob (Int.fdiv (IntKind.wrap IntKind.u64 (y_ * (2 : Int) ^ min (Int.toNat (IntKind.wrap IntKind.u64 (val (math_bits_LeadingZeros64 y_)))) (IntKind.bits IntKind.u64))) ((2 : Int) ^ min (32 : Nat) (IntKind.bits IntKind.u64)) ≠ (0 : Int)) ∧
   ((∃ (v0 : (Int × Int) × Nat), (Ob ((Option.bind (iter (math_bits_Div64_b0 lo y_ (val (math_bits_LeadingZeros64 y_))) v0.2 v0.1) fun y0 => Option.bind (math_bits_Div64_r0 hi lo y_ (val (math_bits_LeadingZeros64 y_)) y0) some) = some r) ∧
   (Ob (IntKind.wrap IntKind.u64 (y_ * (2 : Int) ^ min (Int.toNat (IntKind.wrap IntKind.u64 (val (math_bits_LeadingZeros64 y_)))) (IntKind.bits IntKind.u64)) = IntKind.wrap IntKind.u64 (y_ * (2 : Int) ^ min (Int.toNat (IntKind.wrap IntKind.u64 (val (math_bits_LeadingZeros64 y_)))) (IntKind.bits IntKind.u64))) ∧
   (Ob (IntKind.wrap IntKind.u64 (val (math_bits_LeadingZeros64 y_)) = IntKind.wrap IntKind.u64 (val (math_bits_LeadingZeros64 y_))) ∧
   (Ob (Int.fdiv (IntKind.wrap IntKind.u64 (y_ * (2 : Int) ^ min (Int.toNat (IntKind.wrap IntKind.u64 (val (math_bits_LeadingZeros64 y_)))) (IntKind.bits IntKind.u64))) ((2 : Int) ^ min (32 : Nat) (IntKind.bits IntKind.u64)) = Int.fdiv (IntKind.wrap IntKind.u64 (y_ * (2 : Int) ^ min (Int.toNat (IntKind.wrap IntKind.u64 (val (math_bits_LeadingZeros64 y_)))) (IntKind.bits IntKind.u64))) ((2 : Int) ^ min (32 : Nat) (IntKind.bits IntKind.u64))) ∧
   (Ob (IntKind.wrap IntKind.u64 (↑(BitVec.toNat (BitVec.ofInt (IntKind.bits IntKind.u64) (IntKind.wrap IntKind.u64 (y_ * (2 : Int) ^ min (Int.toNat (IntKind.wrap IntKind.u64 (val (math_bits_LeadingZeros64 y_)))) (IntKind.bits IntKind.u64))) &&& BitVec.ofInt (IntKind.bits IntKind.u64) (4294967295 : Int))) : Int) = IntKind.wrap IntKind.u64 (↑(BitVec.toNat (BitVec.ofInt (IntKind.bits IntKind.u64) (IntKind.wrap IntKind.u64 (y_ * (2 : Int) ^ min (Int.toNat (IntKind.wrap IntKind.u64 (val (math_bits_LeadingZeros64 y_)))) (IntKind.bits IntKind.u64))) &&& BitVec.ofInt (IntKind.bits IntKind.u64) (4294967295 : Int))) : Int)) ∧
   (Ob (IntKind.wrap IntKind.u64 (↑(BitVec.toNat (BitVec.ofInt (IntKind.bits IntKind.u64) (IntKind.wrap IntKind.u64 (hi * (2 : Int) ^ min (Int.toNat (IntKind.wrap IntKind.u64 (val (math_bits_LeadingZeros64 y_)))) (IntKind.bits IntKind.u64))) ||| BitVec.ofInt (IntKind.bits IntKind.u64) (Int.fdiv lo ((2 : Int) ^ min (Int.toNat (IntKind.wrap IntKind.u64 ((64 : Int) - IntKind.wrap IntKind.u64 (val (math_bits_LeadingZeros64 y_))))) (IntKind.bits IntKind.u64))))) : Int) = IntKind.wrap IntKind.u64 (↑(BitVec.toNat (BitVec.ofInt (IntKind.bits IntKind.u64) (IntKind.wrap IntKind.u64 (hi * (2 : Int) ^ min (Int.toNat (IntKind.wrap IntKind.u64 (val (math_bits_LeadingZeros64 y_)))) (IntKind.bits IntKind.u64))) ||| BitVec.ofInt (IntKind.bits IntKind.u64) (Int.fdiv lo ((2 : Int) ^ min (Int.toNat (IntKind.wrap IntKind.u64 ((64 : Int) - IntKind.wrap IntKind.u64 (val (math_bits_LeadingZeros64 y_))))) (IntKind.bits IntKind.u64))))) : Int)) ∧
   (Ob (Int.fdiv (IntKind.wrap IntKind.u64 (lo * (2 : Int) ^ min (Int.toNat (IntKind.wrap IntKind.u64 (val (math_bits_LeadingZeros64 y_)))) (IntKind.bits IntKind.u64))) ((2 : Int) ^ min (32 : Nat) (IntKind.bits IntKind.u64)) = Int.fdiv (IntKind.wrap IntKind.u64 (lo * (2 : Int) ^ min (Int.toNat (IntKind.wrap IntKind.u64 (val (math_bits_LeadingZeros64 y_)))) (IntKind.bits IntKind.u64))) ((2 : Int) ^ min (32 : Nat) (IntKind.bits IntKind.u64))) ∧
   (Ob (IntKind.wrap IntKind.u64 (↑(BitVec.toNat (BitVec.ofInt (IntKind.bits IntKind.u64) (IntKind.wrap IntKind.u64 (lo * (2 : Int) ^ min (Int.toNat (IntKind.wrap IntKind.u64 (val (math_bits_LeadingZeros64 y_)))) (IntKind.bits IntKind.u64))) &&& BitVec.ofInt (IntKind.bits IntKind.u64) (4294967295 : Int))) : Int) = IntKind.wrap IntKind.u64 (↑(BitVec.toNat (BitVec.ofInt (IntKind.bits IntKind.u64) (IntKind.wrap IntKind.u64 (lo * (2 : Int) ^ min (Int.toNat (IntKind.wrap IntKind.u64 (val (math_bits_LeadingZeros64 y_)))) (IntKind.bits IntKind.u64))) &&& BitVec.ofInt (IntKind.bits IntKind.u64) (4294967295 : Int))) : Int)) ∧
   (Ob (IntKind.wrap IntKind.u64 (Int.tdiv (IntKind.wrap IntKind.u64 (↑(BitVec.toNat (BitVec.ofInt (IntKind.bits IntKind.u64) (IntKind.wrap IntKind.u64 (hi * (2 : Int) ^ min (Int.toNat (IntKind.wrap IntKind.u64 (val (math_bits_LeadingZeros64 y_)))) (IntKind.bits IntKind.u64))) ||| BitVec.ofInt (IntKind.bits IntKind.u64) (Int.fdiv lo ((2 : Int) ^ min (Int.toNat (IntKind.wrap IntKind.u64 ((64 : Int) - IntKind.wrap IntKind.u64 (val (math_bits_LeadingZeros64 y_))))) (IntKind.bits IntKind.u64))))) : Int)) (Int.fdiv (IntKind.wrap IntKind.u64 (y_ * (2 : Int) ^ min (Int.toNat (IntKind.wrap IntKind.u64 (val (math_bits_LeadingZeros64 y_)))) (IntKind.bits IntKind.u64))) ((2 : Int) ^ min (32 : Nat) (IntKind.bits IntKind.u64)))) = v0.1.1) ∧
   (Ob (IntKind.wrap IntKind.u64 (IntKind.wrap IntKind.u64 (↑(BitVec.toNat (BitVec.ofInt (IntKind.bits IntKind.u64) (IntKind.wrap IntKind.u64 (hi * (2 : Int) ^ min (Int.toNat (IntKind.wrap IntKind.u64 (val (math_bits_LeadingZeros64 y_)))) (IntKind.bits IntKind.u64))) ||| BitVec.ofInt (IntKind.bits IntKind.u64) (Int.fdiv lo ((2 : Int) ^ min (Int.toNat (IntKind.wrap IntKind.u64 ((64 : Int) - IntKind.wrap IntKind.u64 (val (math_bits_LeadingZeros64 y_))))) (IntKind.bits IntKind.u64))))) : Int) - IntKind.wrap IntKind.u64 (IntKind.wrap IntKind.u64 (Int.tdiv (IntKind.wrap IntKind.u64 (↑(BitVec.toNat (BitVec.ofInt (IntKind.bits IntKind.u64) (IntKind.wrap IntKind.u64 (hi * (2 : Int) ^ min (Int.toNat (IntKind.wrap IntKind.u64 (val (math_bits_LeadingZeros64 y_)))) (IntKind.bits IntKind.u64))) ||| BitVec.ofInt (IntKind.bits IntKind.u64) (Int.fdiv lo ((2 : Int) ^ min (Int.toNat (IntKind.wrap IntKind.u64 ((64 : Int) - IntKind.wrap IntKind.u64 (val (math_bits_LeadingZeros64 y_))))) (IntKind.bits IntKind.u64))))) : Int)) (Int.fdiv (IntKind.wrap IntKind.u64 (y_ * (2 : Int) ^ min (Int.toNat (IntKind.wrap IntKind.u64 (val (math_bits_LeadingZeros64 y_)))) (IntKind.bits IntKind.u64))) ((2 : Int) ^ min (32 : Nat) (IntKind.bits IntKind.u64)))) * Int.fdiv (IntKind.wrap IntKind.u64 (y_ * (2 : Int) ^ min (Int.toNat (IntKind.wrap IntKind.u64 (val (math_bits_LeadingZeros64 y_)))) (IntKind.bits IntKind.u64))) ((2 : Int) ^ min (32 : Nat) (IntKind.bits IntKind.u64)))) = v0.1.2) ∧
   True))))))))))) ∧
   (∀ (v0 : (Int × Int) × Nat), ((Option.bind (iter (math_bits_Div64_b0 lo y_ (val (math_bits_LeadingZeros64 y_))) v0.2 v0.1) fun y0 => Option.bind (math_bits_Div64_r0 hi lo y_ (val (math_bits_LeadingZeros64 y_)) y0) some) = some r →
   Br (decide (v0.1.1 ≥ (4294967296 : Int)))
   (Br (decide (IntKind.wrap IntKind.u64 (v0.1.2 + Int.fdiv (IntKind.wrap IntKind.u64 (y_ * (2 : Int) ^ min (Int.toNat (IntKind.wrap IntKind.u64 (val (math_bits_LeadingZeros64 y_)))) (IntKind.bits IntKind.u64))) ((2 : Int) ^ min (32 : Nat) (IntKind.bits IntKind.u64))) ≥ (4294967296 : Int)))
   ((Ob (Int.fdiv (IntKind.wrap IntKind.u64 (y_ * (2 : Int) ^ min (Int.toNat (IntKind.wrap IntKind.u64 (val (math_bits_LeadingZeros64 y_)))) (IntKind.bits IntKind.u64))) ((2 : Int) ^ min (32 : Nat) (IntKind.bits IntKind.u64)) ≠ (0 : Int)) ∧
   ((∃ (v1 : Int × (Int × Int) × Nat), (Ob ((Option.bind (iter (math_bits_Div64_b1 lo y_ (val (math_bits_LeadingZeros64 y_))) v1.2.2 v1.2.1) fun y0 => Option.bind (math_bits_Div64_r1 hi lo y_ v1.1 (val (math_bits_LeadingZeros64 y_)) y0) some) = some r) ∧
   (Ob (IntKind.wrap IntKind.u64 (y_ * (2 : Int) ^ min (Int.toNat (IntKind.wrap IntKind.u64 (val (math_bits_LeadingZeros64 y_)))) (IntKind.bits IntKind.u64)) = IntKind.wrap IntKind.u64 (y_ * (2 : Int) ^ min (Int.toNat (IntKind.wrap IntKind.u64 (val (math_bits_LeadingZeros64 y_)))) (IntKind.bits IntKind.u64))) ∧
   (Ob (IntKind.wrap IntKind.u64 (val (math_bits_LeadingZeros64 y_)) = IntKind.wrap IntKind.u64 (val (math_bits_LeadingZeros64 y_))) ∧
   (Ob (Int.fdiv (IntKind.wrap IntKind.u64 (y_ * (2 : Int) ^ min (Int.toNat (IntKind.wrap IntKind.u64 (val (math_bits_LeadingZeros64 y_)))) (IntKind.bits IntKind.u64))) ((2 : Int) ^ min (32 : Nat) (IntKind.bits IntKind.u64)) = Int.fdiv (IntKind.wrap IntKind.u64 (y_ * (2 : Int) ^ min (Int.toNat (IntKind.wrap IntKind.u64 (val (math_bits_LeadingZeros64 y_)))) (IntKind.bits IntKind.u64))) ((2 : Int) ^ min (32 : Nat) (IntKind.bits IntKind.u64))) ∧
   (Ob (IntKind.wrap IntKind.u64 (↑(BitVec.toNat (BitVec.ofInt (IntKind.bits IntKind.u64) (IntKind.wrap IntKind.u64 (y_ * (2 : Int) ^ min (Int.toNat (IntKind.wrap IntKind.u64 (val (math_bits_LeadingZeros64 y_)))) (IntKind.bits IntKind.u64))) &&& BitVec.ofInt (IntKind.bits IntKind.u64) (4294967295 : Int))) : Int) = IntKind.wrap IntKind.u64 (↑(BitVec.toNat (BitVec.ofInt (IntKind.bits IntKind.u64) (IntKind.wrap IntKind.u64 (y_ * (2 : Int) ^ min (Int.toNat (IntKind.wrap IntKind.u64 (val (math_bits_LeadingZeros64 y_)))) (IntKind.bits IntKind.u64))) &&& BitVec.ofInt (IntKind.bits IntKind.u64) (4294967295 : Int))) : Int)) ∧
   (Ob (IntKind.wrap IntKind.u64 (↑(BitVec.toNat (BitVec.ofInt (IntKind.bits IntKind.u64) (IntKind.wrap IntKind.u64 (lo * (2 : Int) ^ min (Int.toNat (IntKind.wrap IntKind.u64 (val (math_bits_LeadingZeros64 y_)))) (IntKind.bits IntKind.u64))) &&& BitVec.ofInt (IntKind.bits IntKind.u64) (4294967295 : Int))) : Int) = IntKind.wrap IntKind.u64 (↑(BitVec.toNat (BitVec.ofInt (IntKind.bits IntKind.u64) (IntKind.wrap IntKind.u64 (lo * (2 : Int) ^ min (Int.toNat (IntKind.wrap IntKind.u64 (val (math_bits_LeadingZeros64 y_)))) (IntKind.bits IntKind.u64))) &&& BitVec.ofInt (IntKind.bits IntKind.u64) (4294967295 : Int))) : Int)) ∧
   (Ob (IntKind.wrap IntKind.u64 (v0.1.1 - (1 : Int)) = v1.1) ∧
   (Ob (IntKind.wrap IntKind.u64 (IntKind.wrap IntKind.u64 (IntKind.wrap IntKind.u64 (IntKind.wrap IntKind.u64 (IntKind.wrap IntKind.u64 (↑(BitVec.toNat (BitVec.ofInt (IntKind.bits IntKind.u64) (IntKind.wrap IntKind.u64 (hi * (2 : Int) ^ min (Int.toNat (IntKind.wrap IntKind.u64 (val (math_bits_LeadingZeros64 y_)))) (IntKind.bits IntKind.u64))) ||| BitVec.ofInt (IntKind.bits IntKind.u64) (Int.fdiv lo ((2 : Int) ^ min (Int.toNat (IntKind.wrap IntKind.u64 ((64 : Int) - IntKind.wrap IntKind.u64 (val (math_bits_LeadingZeros64 y_))))) (IntKind.bits IntKind.u64))))) : Int) * (4294967296 : Int)) + Int.fdiv (IntKind.wrap IntKind.u64 (lo * (2 : Int) ^ min (Int.toNat (IntKind.wrap IntKind.u64 (val (math_bits_LeadingZeros64 y_)))) (IntKind.bits IntKind.u64))) ((2 : Int) ^ min (32 : Nat) (IntKind.bits IntKind.u64))) - IntKind.wrap IntKind.u64 (IntKind.wrap IntKind.u64 (v0.1.1 - (1 : Int)) * IntKind.wrap IntKind.u64 (y_ * (2 : Int) ^ min (Int.toNat (IntKind.wrap IntKind.u64 (val (math_bits_LeadingZeros64 y_)))) (IntKind.bits IntKind.u64)))) - IntKind.wrap IntKind.u64 (IntKind.wrap IntKind.u64 (Int.tdiv (IntKind.wrap IntKind.u64 (IntKind.wrap IntKind.u64 (IntKind.wrap IntKind.u64 (IntKind.wrap IntKind.u64 (↑(BitVec.toNat (BitVec.ofInt (IntKind.bits IntKind.u64) (IntKind.wrap IntKind.u64 (hi * (2 : Int) ^ min (Int.toNat (IntKind.wrap IntKind.u64 (val (math_bits_LeadingZeros64 y_)))) (IntKind.bits IntKind.u64))) ||| BitVec.ofInt (IntKind.bits IntKind.u64) (Int.fdiv lo ((2 : Int) ^ min (Int.toNat (IntKind.wrap IntKind.u64 ((64 : Int) - IntKind.wrap IntKind.u64 (val (math_bits_LeadingZeros64 y_))))) (IntKind.bits IntKind.u64))))) : Int) * (4294967296 : Int)) + Int.fdiv (IntKind.wrap IntKind.u64 (lo * (2 : Int) ^ min (Int.toNat (IntKind.wrap IntKind.u64 (val (math_bits_LeadingZeros64 y_)))) (IntKind.bits IntKind.u64))) ((2 : Int) ^ min (32 : Nat) (IntKind.bits IntKind.u64))) - IntKind.wrap IntKind.u64 (IntKind.wrap IntKind.u64 (v0.1.1 - (1 : Int)) * IntKind.wrap IntKind.u64 (y_ * (2 : Int) ^ min (Int.toNat (IntKind.wrap IntKind.u64 (val (math_bits_LeadingZeros64 y_)))) (IntKind.bits IntKind.u64))))) (Int.fdiv (IntKind.wrap IntKind.u64 (y_ * (2 : Int) ^ min (Int.toNat (IntKind.wrap IntKind.u64 (val (math_bits_LeadingZeros64 y_)))) (IntKind.bits IntKind.u64))) ((2 : Int) ^ min (32 : Nat) (IntKind.bits IntKind.u64)))) * Int.fdiv (IntKind.wrap IntKind.u64 (y_ * (2 : Int) ^ min (Int.toNat (IntKind.wrap IntKind.u64 (val (math_bits_LeadingZeros64 y_)))) (IntKind.bits IntKind.u64))) ((2 : Int) ^ min (32 : Nat) (IntKind.bits IntKind.u64)))) = v1.2.1.1) ∧
   (Ob (IntKind.wrap IntKind.u64 (IntKind.wrap IntKind.u64 (IntKind.wrap IntKind.u64 (IntKind.wrap IntKind.u64 (↑(BitVec.toNat (BitVec.ofInt (IntKind.bits IntKind.u64) (IntKind.wrap IntKind.u64 (hi * (2 : Int) ^ min (Int.toNat (IntKind.wrap IntKind.u64 (val (math_bits_LeadingZeros64 y_)))) (IntKind.bits IntKind.u64))) ||| BitVec.ofInt (IntKind.bits IntKind.u64) (Int.fdiv lo ((2 : Int) ^ min (Int.toNat (IntKind.wrap IntKind.u64 ((64 : Int) - IntKind.wrap IntKind.u64 (val (math_bits_LeadingZeros64 y_))))) (IntKind.bits IntKind.u64))))) : Int) * (4294967296 : Int)) + Int.fdiv (IntKind.wrap IntKind.u64 (lo * (2 : Int) ^ min (Int.toNat (IntKind.wrap IntKind.u64 (val (math_bits_LeadingZeros64 y_)))) (IntKind.bits IntKind.u64))) ((2 : Int) ^ min (32 : Nat) (IntKind.bits IntKind.u64))) - IntKind.wrap IntKind.u64 (IntKind.wrap IntKind.u64 (v0.1.1 - (1 : Int)) * IntKind.wrap IntKind.u64 (y_ * (2 : Int) ^ min (Int.toNat (IntKind.wrap IntKind.u64 (val (math_bits_LeadingZeros64 y_)))) (IntKind.bits IntKind.u64)))) = IntKind.wrap IntKind.u64 (IntKind.wrap IntKind.u64 (IntKind.wrap IntKind.u64 (IntKind.wrap IntKind.u64 (↑(BitVec.toNat (BitVec.ofInt (IntKind.bits IntKind.u64) (IntKind.wrap IntKind.u64 (hi * (2 : Int) ^ min (Int.toNat (IntKind.wrap IntKind.u64 (val (math_bits_LeadingZeros64 y_)))) (IntKind.bits IntKind.u64))) ||| BitVec.ofInt (IntKind.bits IntKind.u64) (Int.fdiv lo ((2 : Int) ^ min (Int.toNat (IntKind.wrap IntKind.u64 ((64 : Int) - IntKind.wrap IntKind.u64 (val (math_bits_LeadingZeros64 y_))))) (IntKind.bits IntKind.u64))))) : Int) * (4294967296 : Int)) + Int.fdiv (IntKind.wrap IntKind.u64 (lo * (2 : Int) ^ min (Int.toNat (IntKind.wrap IntKind.u64 (val (math_bits_LeadingZeros64 y_)))) (IntKind.bits IntKind.u64))) ((2 : Int) ^ min (32 : Nat) (IntKind.bits IntKind.u64))) - IntKind.wrap IntKind.u64 (v1.1 * IntKind.wrap IntKind.u64 (y_ * (2 : Int) ^ min (Int.toNat (IntKind.wrap IntKind.u64 (val (math_bits_LeadingZeros64 y_)))) (IntKind.bits IntKind.u64))))) ∧
   (Ob (IntKind.wrap IntKind.u64 (Int.tdiv (IntKind.wrap IntKind.u64 (IntKind.wrap IntKind.u64 (IntKind.wrap IntKind.u64 (IntKind.wrap IntKind.u64 (↑(BitVec.toNat (BitVec.ofInt (IntKind.bits IntKind.u64) (IntKind.wrap IntKind.u64 (hi * (2 : Int) ^ min (Int.toNat (IntKind.wrap IntKind.u64 (val (math_bits_LeadingZeros64 y_)))) (IntKind.bits IntKind.u64))) ||| BitVec.ofInt (IntKind.bits IntKind.u64) (Int.fdiv lo ((2 : Int) ^ min (Int.toNat (IntKind.wrap IntKind.u64 ((64 : Int) - IntKind.wrap IntKind.u64 (val (math_bits_LeadingZeros64 y_))))) (IntKind.bits IntKind.u64))))) : Int) * (4294967296 : Int)) + Int.fdiv (IntKind.wrap IntKind.u64 (lo * (2 : Int) ^ min (Int.toNat (IntKind.wrap IntKind.u64 (val (math_bits_LeadingZeros64 y_)))) (IntKind.bits IntKind.u64))) ((2 : Int) ^ min (32 : Nat) (IntKind.bits IntKind.u64))) - IntKind.wrap IntKind.u64 (IntKind.wrap IntKind.u64 (v0.1.1 - (1 : Int)) * IntKind.wrap IntKind.u64 (y_ * (2 : Int) ^ min (Int.toNat (IntKind.wrap IntKind.u64 (val (math_bits_LeadingZeros64 y_)))) (IntKind.bits IntKind.u64))))) (Int.fdiv (IntKind.wrap IntKind.u64 (y_ * (2 : Int) ^ min (Int.toNat (IntKind.wrap IntKind.u64 (val (math_bits_LeadingZeros64 y_)))) (IntKind.bits IntKind.u64))) ((2 : Int) ^ min (32 : Nat) (IntKind.bits IntKind.u64)))) = v1.2.1.2) ∧
   True))))))))))) ∧
   (∀ (v1 : Int × (Int × Int) × Nat), ((Option.bind (iter (math_bits_Div64_b1 lo y_ (val (math_bits_LeadingZeros64 y_))) v1.2.2 v1.2.1) fun y0 => Option.bind (math_bits_Div64_r1 hi lo y_ v1.1 (val (math_bits_LeadingZeros64 y_)) y0) some) = some r →
   Br (decide (v1.2.1.2 ≥ (4294967296 : Int)))
   (Br (decide (IntKind.wrap IntKind.u64 (v1.2.1.1 + Int.fdiv (IntKind.wrap IntKind.u64 (y_ * (2 : Int) ^ min (Int.toNat (IntKind.wrap IntKind.u64 (val (math_bits_LeadingZeros64 y_)))) (IntKind.bits IntKind.u64))) ((2 : Int) ^ min (32 : Nat) (IntKind.bits IntKind.u64))) ≥ (4294967296 : Int)))
   ((Ob ((0 : Int) ≤ IntKind.wrap IntKind.u64 (val (math_bits_LeadingZeros64 y_))) ∧
   (Ob (True) ∧
   (Ob (True) ∧
   (Ob (IntKind.wrap IntKind.u64 (IntKind.wrap IntKind.u64 (v1.1 * (4294967296 : Int)) + IntKind.wrap IntKind.u64 (v1.2.1.2 - (1 : Int))) = r.1) ∧
   (Ob (Int.fdiv (IntKind.wrap IntKind.u64 (IntKind.wrap IntKind.u64 (IntKind.wrap IntKind.u64 (IntKind.wrap IntKind.u64 (IntKind.wrap IntKind.u64 (IntKind.wrap IntKind.u64 (IntKind.wrap IntKind.u64 (↑(BitVec.toNat (BitVec.ofInt (IntKind.bits IntKind.u64) (IntKind.wrap IntKind.u64 (hi * (2 : Int) ^ min (Int.toNat (IntKind.wrap IntKind.u64 (val (math_bits_LeadingZeros64 y_)))) (IntKind.bits IntKind.u64))) ||| BitVec.ofInt (IntKind.bits IntKind.u64) (Int.fdiv lo ((2 : Int) ^ min (Int.toNat (IntKind.wrap IntKind.u64 ((64 : Int) - IntKind.wrap IntKind.u64 (val (math_bits_LeadingZeros64 y_))))) (IntKind.bits IntKind.u64))))) : Int) * (4294967296 : Int)) + Int.fdiv (IntKind.wrap IntKind.u64 (lo * (2 : Int) ^ min (Int.toNat (IntKind.wrap IntKind.u64 (val (math_bits_LeadingZeros64 y_)))) (IntKind.bits IntKind.u64))) ((2 : Int) ^ min (32 : Nat) (IntKind.bits IntKind.u64))) - IntKind.wrap IntKind.u64 (v1.1 * IntKind.wrap IntKind.u64 (y_ * (2 : Int) ^ min (Int.toNat (IntKind.wrap IntKind.u64 (val (math_bits_LeadingZeros64 y_)))) (IntKind.bits IntKind.u64)))) * (4294967296 : Int)) + IntKind.wrap IntKind.u64 (↑(BitVec.toNat (BitVec.ofInt (IntKind.bits IntKind.u64) (IntKind.wrap IntKind.u64 (lo * (2 : Int) ^ min (Int.toNat (IntKind.wrap IntKind.u64 (val (math_bits_LeadingZeros64 y_)))) (IntKind.bits IntKind.u64))) &&& BitVec.ofInt (IntKind.bits IntKind.u64) (4294967295 : Int))) : Int)) - IntKind.wrap IntKind.u64 (IntKind.wrap IntKind.u64 (v1.2.1.2 - (1 : Int)) * IntKind.wrap IntKind.u64 (y_ * (2 : Int) ^ min (Int.toNat (IntKind.wrap IntKind.u64 (val (math_bits_LeadingZeros64 y_)))) (IntKind.bits IntKind.u64))))) ((2 : Int) ^ min (Int.toNat (IntKind.wrap IntKind.u64 (val (math_bits_LeadingZeros64 y_)))) (IntKind.bits IntKind.u64)) = r.2) ∧
   True))))))
   ((∃ (v2 : Int × (Int × Int) × Nat), (Ob ((Option.bind (iter (math_bits_Div64_b1 lo y_ (val (math_bits_LeadingZeros64 y_))) v2.2.2 v2.2.1) fun y0 => Option.bind (math_bits_Div64_r1 hi lo y_ v2.1 (val (math_bits_LeadingZeros64 y_)) y0) some) = some r) ∧
   (Ob (v2.2.2 < v1.2.2) ∧
   (Ob (IntKind.wrap IntKind.u64 (y_ * (2 : Int) ^ min (Int.toNat (IntKind.wrap IntKind.u64 (val (math_bits_LeadingZeros64 y_)))) (IntKind.bits IntKind.u64)) = IntKind.wrap IntKind.u64 (y_ * (2 : Int) ^ min (Int.toNat (IntKind.wrap IntKind.u64 (val (math_bits_LeadingZeros64 y_)))) (IntKind.bits IntKind.u64))) ∧
   (Ob (IntKind.wrap IntKind.u64 (val (math_bits_LeadingZeros64 y_)) = IntKind.wrap IntKind.u64 (val (math_bits_LeadingZeros64 y_))) ∧
   (Ob (Int.fdiv (IntKind.wrap IntKind.u64 (y_ * (2 : Int) ^ min (Int.toNat (IntKind.wrap IntKind.u64 (val (math_bits_LeadingZeros64 y_)))) (IntKind.bits IntKind.u64))) ((2 : Int) ^ min (32 : Nat) (IntKind.bits IntKind.u64)) = Int.fdiv (IntKind.wrap IntKind.u64 (y_ * (2 : Int) ^ min (Int.toNat (IntKind.wrap IntKind.u64 (val (math_bits_LeadingZeros64 y_)))) (IntKind.bits IntKind.u64))) ((2 : Int) ^ min (32 : Nat) (IntKind.bits IntKind.u64))) ∧
   (Ob (IntKind.wrap IntKind.u64 (↑(BitVec.toNat (BitVec.ofInt (IntKind.bits IntKind.u64) (IntKind.wrap IntKind.u64 (y_ * (2 : Int) ^ min (Int.toNat (IntKind.wrap IntKind.u64 (val (math_bits_LeadingZeros64 y_)))) (IntKind.bits IntKind.u64))) &&& BitVec.ofInt (IntKind.bits IntKind.u64) (4294967295 : Int))) : Int) = IntKind.wrap IntKind.u64 (↑(BitVec.toNat (BitVec.ofInt (IntKind.bits IntKind.u64) (IntKind.wrap IntKind.u64 (y_ * (2 : Int) ^ min (Int.toNat (IntKind.wrap IntKind.u64 (val (math_bits_LeadingZeros64 y_)))) (IntKind.bits IntKind.u64))) &&& BitVec.ofInt (IntKind.bits IntKind.u64) (4294967295 : Int))) : Int)) ∧
   (Ob (IntKind.wrap IntKind.u64 (↑(BitVec.toNat (BitVec.ofInt (IntKind.bits IntKind.u64) (IntKind.wrap IntKind.u64 (lo * (2 : Int) ^ min (Int.toNat (IntKind.wrap IntKind.u64 (val (math_bits_LeadingZeros64 y_)))) (IntKind.bits IntKind.u64))) &&& BitVec.ofInt (IntKind.bits IntKind.u64) (4294967295 : Int))) : Int) = IntKind.wrap IntKind.u64 (↑(BitVec.toNat (BitVec.ofInt (IntKind.bits IntKind.u64) (IntKind.wrap IntKind.u64 (lo * (2 : Int) ^ min (Int.toNat (IntKind.wrap IntKind.u64 (val (math_bits_LeadingZeros64 y_)))) (IntKind.bits IntKind.u64))) &&& BitVec.ofInt (IntKind.bits IntKind.u64) (4294967295 : Int))) : Int)) ∧
   (Ob (v1.1 = v2.1) ∧
   (Ob (IntKind.wrap IntKind.u64 (v1.2.1.1 + Int.fdiv (IntKind.wrap IntKind.u64 (y_ * (2 : Int) ^ min (Int.toNat (IntKind.wrap IntKind.u64 (val (math_bits_LeadingZeros64 y_)))) (IntKind.bits IntKind.u64))) ((2 : Int) ^ min (32 : Nat) (IntKind.bits IntKind.u64))) = v2.2.1.1) ∧
   (Ob (IntKind.wrap IntKind.u64 (IntKind.wrap IntKind.u64 (IntKind.wrap IntKind.u64 (IntKind.wrap IntKind.u64 (↑(BitVec.toNat (BitVec.ofInt (IntKind.bits IntKind.u64) (IntKind.wrap IntKind.u64 (hi * (2 : Int) ^ min (Int.toNat (IntKind.wrap IntKind.u64 (val (math_bits_LeadingZeros64 y_)))) (IntKind.bits IntKind.u64))) ||| BitVec.ofInt (IntKind.bits IntKind.u64) (Int.fdiv lo ((2 : Int) ^ min (Int.toNat (IntKind.wrap IntKind.u64 ((64 : Int) - IntKind.wrap IntKind.u64 (val (math_bits_LeadingZeros64 y_))))) (IntKind.bits IntKind.u64))))) : Int) * (4294967296 : Int)) + Int.fdiv (IntKind.wrap IntKind.u64 (lo * (2 : Int) ^ min (Int.toNat (IntKind.wrap IntKind.u64 (val (math_bits_LeadingZeros64 y_)))) (IntKind.bits IntKind.u64))) ((2 : Int) ^ min (32 : Nat) (IntKind.bits IntKind.u64))) - IntKind.wrap IntKind.u64 (v1.1 * IntKind.wrap IntKind.u64 (y_ * (2 : Int) ^ min (Int.toNat (IntKind.wrap IntKind.u64 (val (math_bits_LeadingZeros64 y_)))) (IntKind.bits IntKind.u64)))) = IntKind.wrap IntKind.u64 (IntKind.wrap IntKind.u64 (IntKind.wrap IntKind.u64 (IntKind.wrap IntKind.u64 (↑(BitVec.toNat (BitVec.ofInt (IntKind.bits IntKind.u64) (IntKind.wrap IntKind.u64 (hi * (2 : Int) ^ min (Int.toNat (IntKind.wrap IntKind.u64 (val (math_bits_LeadingZeros64 y_)))) (IntKind.bits IntKind.u64))) ||| BitVec.ofInt (IntKind.bits IntKind.u64) (Int.fdiv lo ((2 : Int) ^ min (Int.toNat (IntKind.wrap IntKind.u64 ((64 : Int) - IntKind.wrap IntKind.u64 (val (math_bits_LeadingZeros64 y_))))) (IntKind.bits IntKind.u64))))) : Int) * (4294967296 : Int)) + Int.fdiv (IntKind.wrap IntKind.u64 (lo * (2 : Int) ^ min (Int.toNat (IntKind.wrap IntKind.u64 (val (math_bits_LeadingZeros64 y_)))) (IntKind.bits IntKind.u64))) ((2 : Int) ^ min (32 : Nat) (IntKind.bits IntKind.u64))) - IntKind.wrap IntKind.u64 (v2.1 * IntKind.wrap IntKind.u64 (y_ * (2 : Int) ^ min (Int.toNat (IntKind.wrap IntKind.u64 (val (math_bits_LeadingZeros64 y_)))) (IntKind.bits IntKind.u64))))) ∧
   (Ob (IntKind.wrap IntKind.u64 (v1.2.1.2 - (1 : Int)) = v2.2.1.2) ∧
   True))))))))))))))
   (Br (decide (IntKind.wrap IntKind.u64 (v1.2.1.2 * IntKind.wrap IntKind.u64 (↑(BitVec.toNat (BitVec.ofInt (IntKind.bits IntKind.u64) (IntKind.wrap IntKind.u64 (y_ * (2 : Int) ^ min (Int.toNat (IntKind.wrap IntKind.u64 (val (math_bits_LeadingZeros64 y_)))) (IntKind.bits IntKind.u64))) &&& BitVec.ofInt (IntKind.bits IntKind.u64) (4294967295 : Int))) : Int)) > IntKind.wrap IntKind.u64 (IntKind.wrap IntKind.u64 ((4294967296 : Int) * v1.2.1.1) + IntKind.wrap IntKind.u64 (↑(BitVec.toNat (BitVec.ofInt (IntKind.bits IntKind.u64) (IntKind.wrap IntKind.u64 (lo * (2 : Int) ^ min (Int.toNat (IntKind.wrap IntKind.u64 (val (math_bits_LeadingZeros64 y_)))) (IntKind.bits IntKind.u64))) &&& BitVec.ofInt (IntKind.bits IntKind.u64) (4294967295 : Int))) : Int))))
   (Br (decide (IntKind.wrap IntKind.u64 (v1.2.1.1 + Int.fdiv (IntKind.wrap IntKind.u64 (y_ * (2 : Int) ^ min (Int.toNat (IntKind.wrap IntKind.u64 (val (math_bits_LeadingZeros64 y_)))) (IntKind.bits IntKind.u64))) ((2 : Int) ^ min (32 : Nat) (IntKind.bits IntKind.u64))) ≥ (4294967296 : Int)))
   ((Ob ((0 : Int) ≤ IntKind.wrap IntKind.u64 (val (math_bits_LeadingZeros64 y_))) ∧
   (Ob (True) ∧
   (Ob (True) ∧
   (Ob (IntKind.wrap IntKind.u64 (IntKind.wrap IntKind.u64 (v1.1 * (4294967296 : Int)) + IntKind.wrap IntKind.u64 (v1.2.1.2 - (1 : Int))) = r.1) ∧
   (Ob (Int.fdiv (IntKind.wrap IntKind.u64 (IntKind.wrap IntKind.u64 (IntKind.wrap IntKind.u64 (IntKind.wrap IntKind.u64 (IntKind.wrap IntKind.u64 (IntKind.wrap IntKind.u64 (IntKind.wrap IntKind.u64 (↑(BitVec.toNat (BitVec.ofInt (IntKind.bits IntKind.u64) (IntKind.wrap IntKind.u64 (hi * (2 : Int) ^ min (Int.toNat (IntKind.wrap IntKind.u64 (val (math_bits_LeadingZeros64 y_)))) (IntKind.bits IntKind.u64))) ||| BitVec.ofInt (IntKind.bits IntKind.u64) (Int.fdiv lo ((2 : Int) ^ min (Int.toNat (IntKind.wrap IntKind.u64 ((64 : Int) - IntKind.wrap IntKind.u64 (val (math_bits_LeadingZeros64 y_))))) (IntKind.bits IntKind.u64))))) : Int) * (4294967296 : Int)) + Int.fdiv (IntKind.wrap IntKind.u64 (lo * (2 : Int) ^ min (Int.toNat (IntKind.wrap IntKind.u64 (val (math_bits_LeadingZeros64 y_)))) (IntKind.bits IntKind.u64))) ((2 : Int) ^ min (32 : Nat) (IntKind.bits IntKind.u64))) - IntKind.wrap IntKind.u64 (v1.1 * IntKind.wrap IntKind.u64 (y_ * (2 : Int) ^ min (Int.toNat (IntKind.wrap IntKind.u64 (val (math_bits_LeadingZeros64 y_)))) (IntKind.bits IntKind.u64)))) * (4294967296 : Int)) + IntKind.wrap IntKind.u64 (↑(BitVec.toNat (BitVec.ofInt (IntKind.bits IntKind.u64) (IntKind.wrap IntKind.u64 (lo * (2 : Int) ^ min (Int.toNat (IntKind.wrap IntKind.u64 (val (math_bits_LeadingZeros64 y_)))) (IntKind.bits IntKind.u64))) &&& BitVec.ofInt (IntKind.bits IntKind.u64) (4294967295 : Int))) : Int)) - IntKind.wrap IntKind.u64 (IntKind.wrap IntKind.u64 (v1.2.1.2 - (1 : Int)) * IntKind.wrap IntKind.u64 (y_ * (2 : Int) ^ min (Int.toNat (IntKind.wrap IntKind.u64 (val (math_bits_LeadingZeros64 y_)))) (IntKind.bits IntKind.u64))))) ((2 : Int) ^ min (Int.toNat (IntKind.wrap IntKind.u64 (val (math_bits_LeadingZeros64 y_)))) (IntKind.bits IntKind.u64)) = r.2) ∧
   True))))))
   ((∃ (v2 : Int × (Int × Int) × Nat), (Ob ((Option.bind (iter (math_bits_Div64_b1 lo y_ (val (math_bits_LeadingZeros64 y_))) v2.2.2 v2.2.1) fun y0 => Option.bind (math_bits_Div64_r1 hi lo y_ v2.1 (val (math_bits_LeadingZeros64 y_)) y0) some) = some r) ∧
   (Ob (v2.2.2 < v1.2.2) ∧
   (Ob (IntKind.wrap IntKind.u64 (y_ * (2 : Int) ^ min (Int.toNat (IntKind.wrap IntKind.u64 (val (math_bits_LeadingZeros64 y_)))) (IntKind.bits IntKind.u64)) = IntKind.wrap IntKind.u64 (y_ * (2 : Int) ^ min (Int.toNat (IntKind.wrap IntKind.u64 (val (math_bits_LeadingZeros64 y_)))) (IntKind.bits IntKind.u64))) ∧
   (Ob (IntKind.wrap IntKind.u64 (val (math_bits_LeadingZeros64 y_)) = IntKind.wrap IntKind.u64 (val (math_bits_LeadingZeros64 y_))) ∧
   (Ob (Int.fdiv (IntKind.wrap IntKind.u64 (y_ * (2 : Int) ^ min (Int.toNat (IntKind.wrap IntKind.u64 (val (math_bits_LeadingZeros64 y_)))) (IntKind.bits IntKind.u64))) ((2 : Int) ^ min (32 : Nat) (IntKind.bits IntKind.u64)) = Int.fdiv (IntKind.wrap IntKind.u64 (y_ * (2 : Int) ^ min (Int.toNat (IntKind.wrap IntKind.u64 (val (math_bits_LeadingZeros64 y_)))) (IntKind.bits IntKind.u64))) ((2 : Int) ^ min (32 : Nat) (IntKind.bits IntKind.u64))) ∧
   (Ob (IntKind.wrap IntKind.u64 (↑(BitVec.toNat (BitVec.ofInt (IntKind.bits IntKind.u64) (IntKind.wrap IntKind.u64 (y_ * (2 : Int) ^ min (Int.toNat (IntKind.wrap IntKind.u64 (val (math_bits_LeadingZeros64 y_)))) (IntKind.bits IntKind.u64))) &&& BitVec.ofInt (IntKind.bits IntKind.u64) (4294967295 : Int))) : Int) = IntKind.wrap IntKind.u64 (↑(BitVec.toNat (BitVec.ofInt (IntKind.bits IntKind.u64) (IntKind.wrap IntKind.u64 (y_ * (2 : Int) ^ min (Int.toNat (IntKind.wrap IntKind.u64 (val (math_bits_LeadingZeros64 y_)))) (IntKind.bits IntKind.u64))) &&& BitVec.ofInt (IntKind.bits IntKind.u64) (4294967295 : Int))) : Int)) ∧
   (Ob (IntKind.wrap IntKind.u64 (↑(BitVec.toNat (BitVec.ofInt (IntKind.bits IntKind.u64) (IntKind.wrap IntKind.u64 (lo * (2 : Int) ^ min (Int.toNat (IntKind.wrap IntKind.u64 (val (math_bits_LeadingZeros64 y_)))) (IntKind.bits IntKind.u64))) &&& BitVec.ofInt (IntKind.bits IntKind.u64) (4294967295 : Int))) : Int) = IntKind.wrap IntKind.u64 (↑(BitVec.toNat (BitVec.ofInt (IntKind.bits IntKind.u64) (IntKind.wrap IntKind.u64 (lo * (2 : Int) ^ min (Int.toNat (IntKind.wrap IntKind.u64 (val (math_bits_LeadingZeros64 y_)))) (IntKind.bits IntKind.u64))) &&& BitVec.ofInt (IntKind.bits IntKind.u64) (4294967295 : Int))) : Int)) ∧
   (Ob (v1.1 = v2.1) ∧
   (Ob (IntKind.wrap IntKind.u64 (v1.2.1.1 + Int.fdiv (IntKind.wrap IntKind.u64 (y_ * (2 : Int) ^ min (Int.toNat (IntKind.wrap IntKind.u64 (val (math_bits_LeadingZeros64 y_)))) (IntKind.bits IntKind.u64))) ((2 : Int) ^ min (32 : Nat) (IntKind.bits IntKind.u64))) = v2.2.1.1) ∧
   (Ob (IntKind.wrap IntKind.u64 (IntKind.wrap IntKind.u64 (IntKind.wrap IntKind.u64 (IntKind.wrap IntKind.u64 (↑(BitVec.toNat (BitVec.ofInt (IntKind.bits IntKind.u64) (IntKind.wrap IntKind.u64 (hi * (2 : Int) ^ min (Int.toNat (IntKind.wrap IntKind.u64 (val (math_bits_LeadingZeros64 y_)))) (IntKind.bits IntKind.u64))) ||| BitVec.ofInt (IntKind.bits IntKind.u64) (Int.fdiv lo ((2 : Int) ^ min (Int.toNat (IntKind.wrap IntKind.u64 ((64 : Int) - IntKind.wrap IntKind.u64 (val (math_bits_LeadingZeros64 y_))))) (IntKind.bits IntKind.u64))))) : Int) * (4294967296 : Int)) + Int.fdiv (IntKind.wrap IntKind.u64 (lo * (2 : Int) ^ min (Int.toNat (IntKind.wrap IntKind.u64 (val (math_bits_LeadingZeros64 y_)))) (IntKind.bits IntKind.u64))) ((2 : Int) ^ min (32 : Nat) (IntKind.bits IntKind.u64))) - IntKind.wrap IntKind.u64 (v1.1 * IntKind.wrap IntKind.u64 (y_ * (2 : Int) ^ min (Int.toNat (IntKind.wrap IntKind.u64 (val (math_bits_LeadingZeros64 y_)))) (IntKind.bits IntKind.u64)))) = IntKind.wrap IntKind.u64 (IntKind.wrap IntKind.u64 (IntKind.wrap IntKind.u64 (IntKind.wrap IntKind.u64 (↑(BitVec.toNat (BitVec.ofInt (IntKind.bits IntKind.u64) (IntKind.wrap IntKind.u64 (hi * (2 : Int) ^ min (Int.toNat (IntKind.wrap IntKind.u64 (val (math_bits_LeadingZeros64 y_)))) (IntKind.bits IntKind.u64))) ||| BitVec.ofInt (IntKind.bits IntKind.u64) (Int.fdiv lo ((2 : Int) ^ min (Int.toNat (IntKind.wrap IntKind.u64 ((64 : Int) - IntKind.wrap IntKind.u64 (val (math_bits_LeadingZeros64 y_))))) (IntKind.bits IntKind.u64))))) : Int) * (4294967296 : Int)) + Int.fdiv (IntKind.wrap IntKind.u64 (lo * (2 : Int) ^ min (Int.toNat (IntKind.wrap IntKind.u64 (val (math_bits_LeadingZeros64 y_)))) (IntKind.bits IntKind.u64))) ((2 : Int) ^ min (32 : Nat) (IntKind.bits IntKind.u64))) - IntKind.wrap IntKind.u64 (v2.1 * IntKind.wrap IntKind.u64 (y_ * (2 : Int) ^ min (Int.toNat (IntKind.wrap IntKind.u64 (val (math_bits_LeadingZeros64 y_)))) (IntKind.bits IntKind.u64))))) ∧
   (Ob (IntKind.wrap IntKind.u64 (v1.2.1.2 - (1 : Int)) = v2.2.1.2) ∧
   True))))))))))))))
   ((Ob ((0 : Int) ≤ IntKind.wrap IntKind.u64 (val (math_bits_LeadingZeros64 y_))) ∧
   (Ob (True) ∧
   (Ob (True) ∧
   (Ob (IntKind.wrap IntKind.u64 (IntKind.wrap IntKind.u64 (v1.1 * (4294967296 : Int)) + v1.2.1.2) = r.1) ∧
   (Ob (Int.fdiv (IntKind.wrap IntKind.u64 (IntKind.wrap IntKind.u64 (IntKind.wrap IntKind.u64 (IntKind.wrap IntKind.u64 (IntKind.wrap IntKind.u64 (IntKind.wrap IntKind.u64 (IntKind.wrap IntKind.u64 (↑(BitVec.toNat (BitVec.ofInt (IntKind.bits IntKind.u64) (IntKind.wrap IntKind.u64 (hi * (2 : Int) ^ min (Int.toNat (IntKind.wrap IntKind.u64 (val (math_bits_LeadingZeros64 y_)))) (IntKind.bits IntKind.u64))) ||| BitVec.ofInt (IntKind.bits IntKind.u64) (Int.fdiv lo ((2 : Int) ^ min (Int.toNat (IntKind.wrap IntKind.u64 ((64 : Int) - IntKind.wrap IntKind.u64 (val (math_bits_LeadingZeros64 y_))))) (IntKind.bits IntKind.u64))))) : Int) * (4294967296 : Int)) + Int.fdiv (IntKind.wrap IntKind.u64 (lo * (2 : Int) ^ min (Int.toNat (IntKind.wrap IntKind.u64 (val (math_bits_LeadingZeros64 y_)))) (IntKind.bits IntKind.u64))) ((2 : Int) ^ min (32 : Nat) (IntKind.bits IntKind.u64))) - IntKind.wrap IntKind.u64 (v1.1 * IntKind.wrap IntKind.u64 (y_ * (2 : Int) ^ min (Int.toNat (IntKind.wrap IntKind.u64 (val (math_bits_LeadingZeros64 y_)))) (IntKind.bits IntKind.u64)))) * (4294967296 : Int)) + IntKind.wrap IntKind.u64 (↑(BitVec.toNat (BitVec.ofInt (IntKind.bits IntKind.u64) (IntKind.wrap IntKind.u64 (lo * (2 : Int) ^ min (Int.toNat (IntKind.wrap IntKind.u64 (val (math_bits_LeadingZeros64 y_)))) (IntKind.bits IntKind.u64))) &&& BitVec.ofInt (IntKind.bits IntKind.u64) (4294967295 : Int))) : Int)) - IntKind.wrap IntKind.u64 (v1.2.1.2 * IntKind.wrap IntKind.u64 (y_ * (2 : Int) ^ min (Int.toNat (IntKind.wrap IntKind.u64 (val (math_bits_LeadingZeros64 y_)))) (IntKind.bits IntKind.u64))))) ((2 : Int) ^ min (Int.toNat (IntKind.wrap IntKind.u64 (val (math_bits_LeadingZeros64 y_)))) (IntKind.bits IntKind.u64)) = r.2) ∧
   True))))))))))))
   ((∃ (v1 : (Int × Int) × Nat), (Ob ((Option.bind (iter (math_bits_Div64_b0 lo y_ (val (math_bits_LeadingZeros64 y_))) v1.2 v1.1) fun y0 => Option.bind (math_bits_Div64_r0 hi lo y_ (val (math_bits_LeadingZeros64 y_)) y0) some) = some r) ∧
   (Ob (v1.2 < v0.2) ∧
   (Ob (IntKind.wrap IntKind.u64 (y_ * (2 : Int) ^ min (Int.toNat (IntKind.wrap IntKind.u64 (val (math_bits_LeadingZeros64 y_)))) (IntKind.bits IntKind.u64)) = IntKind.wrap IntKind.u64 (y_ * (2 : Int) ^ min (Int.toNat (IntKind.wrap IntKind.u64 (val (math_bits_LeadingZeros64 y_)))) (IntKind.bits IntKind.u64))) ∧
   (Ob (IntKind.wrap IntKind.u64 (val (math_bits_LeadingZeros64 y_)) = IntKind.wrap IntKind.u64 (val (math_bits_LeadingZeros64 y_))) ∧
   (Ob (Int.fdiv (IntKind.wrap IntKind.u64 (y_ * (2 : Int) ^ min (Int.toNat (IntKind.wrap IntKind.u64 (val (math_bits_LeadingZeros64 y_)))) (IntKind.bits IntKind.u64))) ((2 : Int) ^ min (32 : Nat) (IntKind.bits IntKind.u64)) = Int.fdiv (IntKind.wrap IntKind.u64 (y_ * (2 : Int) ^ min (Int.toNat (IntKind.wrap IntKind.u64 (val (math_bits_LeadingZeros64 y_)))) (IntKind.bits IntKind.u64))) ((2 : Int) ^ min (32 : Nat) (IntKind.bits IntKind.u64))) ∧
   (Ob (IntKind.wrap IntKind.u64 (↑(BitVec.toNat (BitVec.ofInt (IntKind.bits IntKind.u64) (IntKind.wrap IntKind.u64 (y_ * (2 : Int) ^ min (Int.toNat (IntKind.wrap IntKind.u64 (val (math_bits_LeadingZeros64 y_)))) (IntKind.bits IntKind.u64))) &&& BitVec.ofInt (IntKind.bits IntKind.u64) (4294967295 : Int))) : Int) = IntKind.wrap IntKind.u64 (↑(BitVec.toNat (BitVec.ofInt (IntKind.bits IntKind.u64) (IntKind.wrap IntKind.u64 (y_ * (2 : Int) ^ min (Int.toNat (IntKind.wrap IntKind.u64 (val (math_bits_LeadingZeros64 y_)))) (IntKind.bits IntKind.u64))) &&& BitVec.ofInt (IntKind.bits IntKind.u64) (4294967295 : Int))) : Int)) ∧
   (Ob (IntKind.wrap IntKind.u64 (↑(BitVec.toNat (BitVec.ofInt (IntKind.bits IntKind.u64) (IntKind.wrap IntKind.u64 (hi * (2 : Int) ^ min (Int.toNat (IntKind.wrap IntKind.u64 (val (math_bits_LeadingZeros64 y_)))) (IntKind.bits IntKind.u64))) ||| BitVec.ofInt (IntKind.bits IntKind.u64) (Int.fdiv lo ((2 : Int) ^ min (Int.toNat (IntKind.wrap IntKind.u64 ((64 : Int) - IntKind.wrap IntKind.u64 (val (math_bits_LeadingZeros64 y_))))) (IntKind.bits IntKind.u64))))) : Int) = IntKind.wrap IntKind.u64 (↑(BitVec.toNat (BitVec.ofInt (IntKind.bits IntKind.u64) (IntKind.wrap IntKind.u64 (hi * (2 : Int) ^ min (Int.toNat (IntKind.wrap IntKind.u64 (val (math_bits_LeadingZeros64 y_)))) (IntKind.bits IntKind.u64))) ||| BitVec.ofInt (IntKind.bits IntKind.u64) (Int.fdiv lo ((2 : Int) ^ min (Int.toNat (IntKind.wrap IntKind.u64 ((64 : Int) - IntKind.wrap IntKind.u64 (val (math_bits_LeadingZeros64 y_))))) (IntKind.bits IntKind.u64))))) : Int)) ∧
   (Ob (Int.fdiv (IntKind.wrap IntKind.u64 (lo * (2 : Int) ^ min (Int.toNat (IntKind.wrap IntKind.u64 (val (math_bits_LeadingZeros64 y_)))) (IntKind.bits IntKind.u64))) ((2 : Int) ^ min (32 : Nat) (IntKind.bits IntKind.u64)) = Int.fdiv (IntKind.wrap IntKind.u64 (lo * (2 : Int) ^ min (Int.toNat (IntKind.wrap IntKind.u64 (val (math_bits_LeadingZeros64 y_)))) (IntKind.bits IntKind.u64))) ((2 : Int) ^ min (32 : Nat) (IntKind.bits IntKind.u64))) ∧
   (Ob (IntKind.wrap IntKind.u64 (↑(BitVec.toNat (BitVec.ofInt (IntKind.bits IntKind.u64) (IntKind.wrap IntKind.u64 (lo * (2 : Int) ^ min (Int.toNat (IntKind.wrap IntKind.u64 (val (math_bits_LeadingZeros64 y_)))) (IntKind.bits IntKind.u64))) &&& BitVec.ofInt (IntKind.bits IntKind.u64) (4294967295 : Int))) : Int) = IntKind.wrap IntKind.u64 (↑(BitVec.toNat (BitVec.ofInt (IntKind.bits IntKind.u64) (IntKind.wrap IntKind.u64 (lo * (2 : Int) ^ min (Int.toNat (IntKind.wrap IntKind.u64 (val (math_bits_LeadingZeros64 y_)))) (IntKind.bits IntKind.u64))) &&& BitVec.ofInt (IntKind.bits IntKind.u64) (4294967295 : Int))) : Int)) ∧
   (Ob (IntKind.wrap IntKind.u64 (v0.1.1 - (1 : Int)) = v1.1.1) ∧
   (Ob (IntKind.wrap IntKind.u64 (v0.1.2 + Int.fdiv (IntKind.wrap IntKind.u64 (y_ * (2 : Int) ^ min (Int.toNat (IntKind.wrap IntKind.u64 (val (math_bits_LeadingZeros64 y_)))) (IntKind.bits IntKind.u64))) ((2 : Int) ^ min (32 : Nat) (IntKind.bits IntKind.u64))) = v1.1.2) ∧
   True))))))))))))))
   (Br (decide (IntKind.wrap IntKind.u64 (v0.1.1 * IntKind.wrap IntKind.u64 (↑(BitVec.toNat (BitVec.ofInt (IntKind.bits IntKind.u64) (IntKind.wrap IntKind.u64 (y_ * (2 : Int) ^ min (Int.toNat (IntKind.wrap IntKind.u64 (val (math_bits_LeadingZeros64 y_)))) (IntKind.bits IntKind.u64))) &&& BitVec.ofInt (IntKind.bits IntKind.u64) (4294967295 : Int))) : Int)) > IntKind.wrap IntKind.u64 (IntKind.wrap IntKind.u64 ((4294967296 : Int) * v0.1.2) + Int.fdiv (IntKind.wrap IntKind.u64 (lo * (2 : Int) ^ min (Int.toNat (IntKind.wrap IntKind.u64 (val (math_bits_LeadingZeros64 y_)))) (IntKind.bits IntKind.u64))) ((2 : Int) ^ min (32 : Nat) (IntKind.bits IntKind.u64)))))
   (Br (decide (IntKind.wrap IntKind.u64 (v0.1.2 + Int.fdiv (IntKind.wrap IntKind.u64 (y_ * (2 : Int) ^ min (Int.toNat (IntKind.wrap IntKind.u64 (val (math_bits_LeadingZeros64 y_)))) (IntKind.bits IntKind.u64))) ((2 : Int) ^ min (32 : Nat) (IntKind.bits IntKind.u64))) ≥ (4294967296 : Int)))
   ((Ob (Int.fdiv (IntKind.wrap IntKind.u64 (y_ * (2 : Int) ^ min (Int.toNat (IntKind.wrap IntKind.u64 (val (math_bits_LeadingZeros64 y_)))) (IntKind.bits IntKind.u64))) ((2 : Int) ^ min (32 : Nat) (IntKind.bits IntKind.u64)) ≠ (0 : Int)) ∧
   ((∃ (v1 : Int × (Int × Int) × Nat), (Ob ((Option.bind (iter (math_bits_Div64_b1 lo y_ (val (math_bits_LeadingZeros64 y_))) v1.2.2 v1.2.1) fun y0 => Option.bind (math_bits_Div64_r1 hi lo y_ v1.1 (val (math_bits_LeadingZeros64 y_)) y0) some) = some r) ∧
   (Ob (IntKind.wrap IntKind.u64 (y_ * (2 : Int) ^ min (Int.toNat (IntKind.wrap IntKind.u64 (val (math_bits_LeadingZeros64 y_)))) (IntKind.bits IntKind.u64)) = IntKind.wrap IntKind.u64 (y_ * (2 : Int) ^ min (Int.toNat (IntKind.wrap IntKind.u64 (val (math_bits_LeadingZeros64 y_)))) (IntKind.bits IntKind.u64))) ∧
   (Ob (IntKind.wrap IntKind.u64 (val (math_bits_LeadingZeros64 y_)) = IntKind.wrap IntKind.u64 (val (math_bits_LeadingZeros64 y_))) ∧
   (Ob (Int.fdiv (IntKind.wrap IntKind.u64 (y_ * (2 : Int) ^ min (Int.toNat (IntKind.wrap IntKind.u64 (val (math_bits_LeadingZeros64 y_)))) (IntKind.bits IntKind.u64))) ((2 : Int) ^ min (32 : Nat) (IntKind.bits IntKind.u64)) = Int.fdiv (IntKind.wrap IntKind.u64 (y_ * (2 : Int) ^ min (Int.toNat (IntKind.wrap IntKind.u64 (val (math_bits_LeadingZeros64 y_)))) (IntKind.bits IntKind.u64))) ((2 : Int) ^ min (32 : Nat) (IntKind.bits IntKind.u64))) ∧
   (Ob (IntKind.wrap IntKind.u64 (↑(BitVec.toNat (BitVec.ofInt (IntKind.bits IntKind.u64) (IntKind.wrap IntKind.u64 (y_ * (2 : Int) ^ min (Int.toNat (IntKind.wrap IntKind.u64 (val (math_bits_LeadingZeros64 y_)))) (IntKind.bits IntKind.u64))) &&& BitVec.ofInt (IntKind.bits IntKind.u64) (4294967295 : Int))) : Int) = IntKind.wrap IntKind.u64 (↑(BitVec.toNat (BitVec.ofInt (IntKind.bits IntKind.u64) (IntKind.wrap IntKind.u64 (y_ * (2 : Int) ^ min (Int.toNat (IntKind.wrap IntKind.u64 (val (math_bits_LeadingZeros64 y_)))) (IntKind.bits IntKind.u64))) &&& BitVec.ofInt (IntKind.bits IntKind.u64) (4294967295 : Int))) : Int)) ∧
   (Ob (IntKind.wrap IntKind.u64 (↑(BitVec.toNat (BitVec.ofInt (IntKind.bits IntKind.u64) (IntKind.wrap IntKind.u64 (lo * (2 : Int) ^ min (Int.toNat (IntKind.wrap IntKind.u64 (val (math_bits_LeadingZeros64 y_)))) (IntKind.bits IntKind.u64))) &&& BitVec.ofInt (IntKind.bits IntKind.u64) (4294967295 : Int))) : Int) = IntKind.wrap IntKind.u64 (↑(BitVec.toNat (BitVec.ofInt (IntKind.bits IntKind.u64) (IntKind.wrap IntKind.u64 (lo * (2 : Int) ^ min (Int.toNat (IntKind.wrap IntKind.u64 (val (math_bits_LeadingZeros64 y_)))) (IntKind.bits IntKind.u64))) &&& BitVec.ofInt (IntKind.bits IntKind.u64) (4294967295 : Int))) : Int)) ∧
   (Ob (IntKind.wrap IntKind.u64 (v0.1.1 - (1 : Int)) = v1.1) ∧
   (Ob (IntKind.wrap IntKind.u64 (IntKind.wrap IntKind.u64 (IntKind.wrap IntKind.u64 (IntKind.wrap IntKind.u64 (IntKind.wrap IntKind.u64 (↑(BitVec.toNat (BitVec.ofInt (IntKind.bits IntKind.u64) (IntKind.wrap IntKind.u64 (hi * (2 : Int) ^ min (Int.toNat (IntKind.wrap IntKind.u64 (val (math_bits_LeadingZeros64 y_)))) (IntKind.bits IntKind.u64))) ||| BitVec.ofInt (IntKind.bits IntKind.u64) (Int.fdiv lo ((2 : Int) ^ min (Int.toNat (IntKind.wrap IntKind.u64 ((64 : Int) - IntKind.wrap IntKind.u64 (val (math_bits_LeadingZeros64 y_))))) (IntKind.bits IntKind.u64))))) : Int) * (4294967296 : Int)) + Int.fdiv (IntKind.wrap IntKind.u64 (lo * (2 : Int) ^ min (Int.toNat (IntKind.wrap IntKind.u64 (val (math_bits_LeadingZeros64 y_)))) (IntKind.bits IntKind.u64))) ((2 : Int) ^ min (32 : Nat) (IntKind.bits IntKind.u64))) - IntKind.wrap IntKind.u64 (IntKind.wrap IntKind.u64 (v0.1.1 - (1 : Int)) * IntKind.wrap IntKind.u64 (y_ * (2 : Int) ^ min (Int.toNat (IntKind.wrap IntKind.u64 (val (math_bits_LeadingZeros64 y_)))) (IntKind.bits IntKind.u64)))) - IntKind.wrap IntKind.u64 (IntKind.wrap IntKind.u64 (Int.tdiv (IntKind.wrap IntKind.u64 (IntKind.wrap IntKind.u64 (IntKind.wrap IntKind.u64 (IntKind.wrap IntKind.u64 (↑(BitVec.toNat (BitVec.ofInt (IntKind.bits IntKind.u64) (IntKind.wrap IntKind.u64 (hi * (2 : Int) ^ min (Int.toNat (IntKind.wrap IntKind.u64 (val (math_bits_LeadingZeros64 y_)))) (IntKind.bits IntKind.u64))) ||| BitVec.ofInt (IntKind.bits IntKind.u64) (Int.fdiv lo ((2 : Int) ^ min (Int.toNat (IntKind.wrap IntKind.u64 ((64 : Int) - IntKind.wrap IntKind.u64 (val (math_bits_LeadingZeros64 y_))))) (IntKind.bits IntKind.u64))))) : Int) * (4294967296 : Int)) + Int.fdiv (IntKind.wrap IntKind.u64 (lo * (2 : Int) ^ min (Int.toNat (IntKind.wrap IntKind.u64 (val (math_bits_LeadingZeros64 y_)))) (IntKind.bits IntKind.u64))) ((2 : Int) ^ min (32 : Nat) (IntKind.bits IntKind.u64))) - IntKind.wrap IntKind.u64 (IntKind.wrap IntKind.u64 (v0.1.1 - (1 : Int)) * IntKind.wrap IntKind.u64 (y_ * (2 : Int) ^ min (Int.toNat (IntKind.wrap IntKind.u64 (val (math_bits_LeadingZeros64 y_)))) (IntKind.bits IntKind.u64))))) (Int.fdiv (IntKind.wrap IntKind.u64 (y_ * (2 : Int) ^ min (Int.toNat (IntKind.wrap IntKind.u64 (val (math_bits_LeadingZeros64 y_)))) (IntKind.bits IntKind.u64))) ((2 : Int) ^ min (32 : Nat) (IntKind.bits IntKind.u64)))) * Int.fdiv (IntKind.wrap IntKind.u64 (y_ * (2 : Int) ^ min (Int.toNat (IntKind.wrap IntKind.u64 (val (math_bits_LeadingZeros64 y_)))) (IntKind.bits IntKind.u64))) ((2 : Int) ^ min (32 : Nat) (IntKind.bits IntKind.u64)))) = v1.2.1.1) ∧
   (Ob (IntKind.wrap IntKind.u64 (IntKind.wrap IntKind.u64 (IntKind.wrap IntKind.u64 (IntKind.wrap IntKind.u64 (↑(BitVec.toNat (BitVec.ofInt (IntKind.bits IntKind.u64) (IntKind.wrap IntKind.u64 (hi * (2 : Int) ^ min (Int.toNat (IntKind.wrap IntKind.u64 (val (math_bits_LeadingZeros64 y_)))) (IntKind.bits IntKind.u64))) ||| BitVec.ofInt (IntKind.bits IntKind.u64) (Int.fdiv lo ((2 : Int) ^ min (Int.toNat (IntKind.wrap IntKind.u64 ((64 : Int) - IntKind.wrap IntKind.u64 (val (math_bits_LeadingZeros64 y_))))) (IntKind.bits IntKind.u64))))) : Int) * (4294967296 : Int)) + Int.fdiv (IntKind.wrap IntKind.u64 (lo * (2 : Int) ^ min (Int.toNat (IntKind.wrap IntKind.u64 (val (math_bits_LeadingZeros64 y_)))) (IntKind.bits IntKind.u64))) ((2 : Int) ^ min (32 : Nat) (IntKind.bits IntKind.u64))) - IntKind.wrap IntKind.u64 (IntKind.wrap IntKind.u64 (v0.1.1 - (1 : Int)) * IntKind.wrap IntKind.u64 (y_ * (2 : Int) ^ min (Int.toNat (IntKind.wrap IntKind.u64 (val (math_bits_LeadingZeros64 y_)))) (IntKind.bits IntKind.u64)))) = IntKind.wrap IntKind.u64 (IntKind.wrap IntKind.u64 (IntKind.wrap IntKind.u64 (IntKind.wrap IntKind.u64 (↑(BitVec.toNat (BitVec.ofInt (IntKind.bits IntKind.u64) (IntKind.wrap IntKind.u64 (hi * (2 : Int) ^ min (Int.toNat (IntKind.wrap IntKind.u64 (val (math_bits_LeadingZeros64 y_)))) (IntKind.bits IntKind.u64))) ||| BitVec.ofInt (IntKind.bits IntKind.u64) (Int.fdiv lo ((2 : Int) ^ min (Int.toNat (IntKind.wrap IntKind.u64 ((64 : Int) - IntKind.wrap IntKind.u64 (val (math_bits_LeadingZeros64 y_))))) (IntKind.bits IntKind.u64))))) : Int) * (4294967296 : Int)) + Int.fdiv (IntKind.wrap IntKind.u64 (lo * (2 : Int) ^ min (Int.toNat (IntKind.wrap IntKind.u64 (val (math_bits_LeadingZeros64 y_)))) (IntKind.bits IntKind.u64))) ((2 : Int) ^ min (32 : Nat) (IntKind.bits IntKind.u64))) - IntKind.wrap IntKind.u64 (v1.1 * IntKind.wrap IntKind.u64 (y_ * (2 : Int) ^ min (Int.toNat (IntKind.wrap IntKind.u64 (val (math_bits_LeadingZeros64 y_)))) (IntKind.bits IntKind.u64))))) ∧
   (Ob (IntKind.wrap IntKind.u64 (Int.tdiv (IntKind.wrap IntKind.u64 (IntKind.wrap IntKind.u64 (IntKind.wrap IntKind.u64 (IntKind.wrap IntKind.u64 (↑(BitVec.toNat (BitVec.ofInt (IntKind.bits IntKind.u64) (IntKind.wrap IntKind.u64 (hi * (2 : Int) ^ min (Int.toNat (IntKind.wrap IntKind.u64 (val (math_bits_LeadingZeros64 y_)))) (IntKind.bits IntKind.u64))) ||| BitVec.ofInt (IntKind.bits IntKind.u64) (Int.fdiv lo ((2 : Int) ^ min (Int.toNat (IntKind.wrap IntKind.u64 ((64 : Int) - IntKind.wrap IntKind.u64 (val (math_bits_LeadingZeros64 y_))))) (IntKind.bits IntKind.u64))))) : Int) * (4294967296 : Int)) + Int.fdiv (IntKind.wrap IntKind.u64 (lo * (2 : Int) ^ min (Int.toNat (IntKind.wrap IntKind.u64 (val (math_bits_LeadingZeros64 y_)))) (IntKind.bits IntKind.u64))) ((2 : Int) ^ min (32 : Nat) (IntKind.bits IntKind.u64))) - IntKind.wrap IntKind.u64 (IntKind.wrap IntKind.u64 (v0.1.1 - (1 : Int)) * IntKind.wrap IntKind.u64 (y_ * (2 : Int) ^ min (Int.toNat (IntKind.wrap IntKind.u64 (val (math_bits_LeadingZeros64 y_)))) (IntKind.bits IntKind.u64))))) (Int.fdiv (IntKind.wrap IntKind.u64 (y_ * (2 : Int) ^ min (Int.toNat (IntKind.wrap IntKind.u64 (val (math_bits_LeadingZeros64 y_)))) (IntKind.bits IntKind.u64))) ((2 : Int) ^ min (32 : Nat) (IntKind.bits IntKind.u64)))) = v1.2.1.2) ∧
   True))))))))))) ∧
   (∀ (v1 : Int × (Int × Int) × Nat), ((Option.bind (iter (math_bits_Div64_b1 lo y_ (val (math_bits_LeadingZeros64 y_))) v1.2.2 v1.2.1) fun y0 => Option.bind (math_bits_Div64_r1 hi lo y_ v1.1 (val (math_bits_LeadingZeros64 y_)) y0) some) = some r →
   Br (decide (v1.2.1.2 ≥ (4294967296 : Int)))
   (Br (decide (IntKind.wrap IntKind.u64 (v1.2.1.1 + Int.fdiv (IntKind.wrap IntKind.u64 (y_ * (2 : Int) ^ min (Int.toNat (IntKind.wrap IntKind.u64 (val (math_bits_LeadingZeros64 y_)))) (IntKind.bits IntKind.u64))) ((2 : Int) ^ min (32 : Nat) (IntKind.bits IntKind.u64))) ≥ (4294967296 : Int)))
   ((Ob ((0 : Int) ≤ IntKind.wrap IntKind.u64 (val (math_bits_LeadingZeros64 y_))) ∧
   (Ob (True) ∧
   (Ob (True) ∧
   (Ob (IntKind.wrap IntKind.u64 (IntKind.wrap IntKind.u64 (v1.1 * (4294967296 : Int)) + IntKind.wrap IntKind.u64 (v1.2.1.2 - (1 : Int))) = r.1) ∧
   (Ob (Int.fdiv (IntKind.wrap IntKind.u64 (IntKind.wrap IntKind.u64 (IntKind.wrap IntKind.u64 (IntKind.wrap IntKind.u64 (IntKind.wrap IntKind.u64 (IntKind.wrap IntKind.u64 (IntKind.wrap IntKind.u64 (↑(BitVec.toNat (BitVec.ofInt (IntKind.bits IntKind.u64) (IntKind.wrap IntKind.u64 (hi * (2 : Int) ^ min (Int.toNat (IntKind.wrap IntKind.u64 (val (math_bits_LeadingZeros64 y_)))) (IntKind.bits IntKind.u64))) ||| BitVec.ofInt (IntKind.bits IntKind.u64) (Int.fdiv lo ((2 : Int) ^ min (Int.toNat (IntKind.wrap IntKind.u64 ((64 : Int) - IntKind.wrap IntKind.u64 (val (math_bits_LeadingZeros64 y_))))) (IntKind.bits IntKind.u64))))) : Int) * (4294967296 : Int)) + Int.fdiv (IntKind.wrap IntKind.u64 (lo * (2 : Int) ^ min (Int.toNat (IntKind.wrap IntKind.u64 (val (math_bits_LeadingZeros64 y_)))) (IntKind.bits IntKind.u64))) ((2 : Int) ^ min (32 : Nat) (IntKind.bits IntKind.u64))) - IntKind.wrap IntKind.u64 (v1.1 * IntKind.wrap IntKind.u64 (y_ * (2 : Int) ^ min (Int.toNat (IntKind.wrap IntKind.u64 (val (math_bits_LeadingZeros64 y_)))) (IntKind.bits IntKind.u64)))) * (4294967296 : Int)) + IntKind.wrap IntKind.u64 (↑(BitVec.toNat (BitVec.ofInt (IntKind.bits IntKind.u64) (IntKind.wrap IntKind.u64 (lo * (2 : Int) ^ min (Int.toNat (IntKind.wrap IntKind.u64 (val (math_bits_LeadingZeros64 y_)))) (IntKind.bits IntKind.u64))) &&& BitVec.ofInt (IntKind.bits IntKind.u64) (4294967295 : Int))) : Int)) - IntKind.wrap IntKind.u64 (IntKind.wrap IntKind.u64 (v1.2.1.2 - (1 : Int)) * IntKind.wrap IntKind.u64 (y_ * (2 : Int) ^ min (Int.toNat (IntKind.wrap IntKind.u64 (val (math_bits_LeadingZeros64 y_)))) (IntKind.bits IntKind.u64))))) ((2 : Int) ^ min (Int.toNat (IntKind.wrap IntKind.u64 (val (math_bits_LeadingZeros64 y_)))) (IntKind.bits IntKind.u64)) = r.2) ∧
   True))))))
   ((∃ (v2 : Int × (Int × Int) × Nat), (Ob ((Option.bind (iter (math_bits_Div64_b1 lo y_ (val (math_bits_LeadingZeros64 y_))) v2.2.2 v2.2.1) fun y0 => Option.bind (math_bits_Div64_r1 hi lo y_ v2.1 (val (math_bits_LeadingZeros64 y_)) y0) some) = some r) ∧
   (Ob (v2.2.2 < v1.2.2) ∧
   (Ob (IntKind.wrap IntKind.u64 (y_ * (2 : Int) ^ min (Int.toNat (IntKind.wrap IntKind.u64 (val (math_bits_LeadingZeros64 y_)))) (IntKind.bits IntKind.u64)) = IntKind.wrap IntKind.u64 (y_ * (2 : Int) ^ min (Int.toNat (IntKind.wrap IntKind.u64 (val (math_bits_LeadingZeros64 y_)))) (IntKind.bits IntKind.u64))) ∧
   (Ob (IntKind.wrap IntKind.u64 (val (math_bits_LeadingZeros64 y_)) = IntKind.wrap IntKind.u64 (val (math_bits_LeadingZeros64 y_))) ∧
   (Ob (Int.fdiv (IntKind.wrap IntKind.u64 (y_ * (2 : Int) ^ min (Int.toNat (IntKind.wrap IntKind.u64 (val (math_bits_LeadingZeros64 y_)))) (IntKind.bits IntKind.u64))) ((2 : Int) ^ min (32 : Nat) (IntKind.bits IntKind.u64)) = Int.fdiv (IntKind.wrap IntKind.u64 (y_ * (2 : Int) ^ min (Int.toNat (IntKind.wrap IntKind.u64 (val (math_bits_LeadingZeros64 y_)))) (IntKind.bits IntKind.u64))) ((2 : Int) ^ min (32 : Nat) (IntKind.bits IntKind.u64))) ∧
   (Ob (IntKind.wrap IntKind.u64 (↑(BitVec.toNat (BitVec.ofInt (IntKind.bits IntKind.u64) (IntKind.wrap IntKind.u64 (y_ * (2 : Int) ^ min (Int.toNat (IntKind.wrap IntKind.u64 (val (math_bits_LeadingZeros64 y_)))) (IntKind.bits IntKind.u64))) &&& BitVec.ofInt (IntKind.bits IntKind.u64) (4294967295 : Int))) : Int) = IntKind.wrap IntKind.u64 (↑(BitVec.toNat (BitVec.ofInt (IntKind.bits IntKind.u64) (IntKind.wrap IntKind.u64 (y_ * (2 : Int) ^ min (Int.toNat (IntKind.wrap IntKind.u64 (val (math_bits_LeadingZeros64 y_)))) (IntKind.bits IntKind.u64))) &&& BitVec.ofInt (IntKind.bits IntKind.u64) (4294967295 : Int))) : Int)) ∧
   (Ob (IntKind.wrap IntKind.u64 (↑(BitVec.toNat (BitVec.ofInt (IntKind.bits IntKind.u64) (IntKind.wrap IntKind.u64 (lo * (2 : Int) ^ min (Int.toNat (IntKind.wrap IntKind.u64 (val (math_bits_LeadingZeros64 y_)))) (IntKind.bits IntKind.u64))) &&& BitVec.ofInt (IntKind.bits IntKind.u64) (4294967295 : Int))) : Int) = IntKind.wrap IntKind.u64 (↑(BitVec.toNat (BitVec.ofInt (IntKind.bits IntKind.u64) (IntKind.wrap IntKind.u64 (lo * (2 : Int) ^ min (Int.toNat (IntKind.wrap IntKind.u64 (val (math_bits_LeadingZeros64 y_)))) (IntKind.bits IntKind.u64))) &&& BitVec.ofInt (IntKind.bits IntKind.u64) (4294967295 : Int))) : Int)) ∧
   (Ob (v1.1 = v2.1) ∧
   (Ob (IntKind.wrap IntKind.u64 (v1.2.1.1 + Int.fdiv (IntKind.wrap IntKind.u64 (y_ * (2 : Int) ^ min (Int.toNat (IntKind.wrap IntKind.u64 (val (math_bits_LeadingZeros64 y_)))) (IntKind.bits IntKind.u64))) ((2 : Int) ^ min (32 : Nat) (IntKind.bits IntKind.u64))) = v2.2.1.1) ∧
   (Ob (IntKind.wrap IntKind.u64 (IntKind.wrap IntKind.u64 (IntKind.wrap IntKind.u64 (IntKind.wrap IntKind.u64 (↑(BitVec.toNat (BitVec.ofInt (IntKind.bits IntKind.u64) (IntKind.wrap IntKind.u64 (hi * (2 : Int) ^ min (Int.toNat (IntKind.wrap IntKind.u64 (val (math_bits_LeadingZeros64 y_)))) (IntKind.bits IntKind.u64))) ||| BitVec.ofInt (IntKind.bits IntKind.u64) (Int.fdiv lo ((2 : Int) ^ min (Int.toNat (IntKind.wrap IntKind.u64 ((64 : Int) - IntKind.wrap IntKind.u64 (val (math_bits_LeadingZeros64 y_))))) (IntKind.bits IntKind.u64))))) : Int) * (4294967296 : Int)) + Int.fdiv (IntKind.wrap IntKind.u64 (lo * (2 : Int) ^ min (Int.toNat (IntKind.wrap IntKind.u64 (val (math_bits_LeadingZeros64 y_)))) (IntKind.bits IntKind.u64))) ((2 : Int) ^ min (32 : Nat) (IntKind.bits IntKind.u64))) - IntKind.wrap IntKind.u64 (v1.1 * IntKind.wrap IntKind.u64 (y_ * (2 : Int) ^ min (Int.toNat (IntKind.wrap IntKind.u64 (val (math_bits_LeadingZeros64 y_)))) (IntKind.bits IntKind.u64)))) = IntKind.wrap IntKind.u64 (IntKind.wrap IntKind.u64 (IntKind.wrap IntKind.u64 (IntKind.wrap IntKind.u64 (↑(BitVec.toNat (BitVec.ofInt (IntKind.bits IntKind.u64) (IntKind.wrap IntKind.u64 (hi * (2 : Int) ^ min (Int.toNat (IntKind.wrap IntKind.u64 (val (math_bits_LeadingZeros64 y_)))) (IntKind.bits IntKind.u64))) ||| BitVec.ofInt (IntKind.bits IntKind.u64) (Int.fdiv lo ((2 : Int) ^ min (Int.toNat (IntKind.wrap IntKind.u64 ((64 : Int) - IntKind.wrap IntKind.u64 (val (math_bits_LeadingZeros64 y_))))) (IntKind.bits IntKind.u64))))) : Int) * (4294967296 : Int)) + Int.fdiv (IntKind.wrap IntKind.u64 (lo * (2 : Int) ^ min (Int.toNat (IntKind.wrap IntKind.u64 (val (math_bits_LeadingZeros64 y_)))) (IntKind.bits IntKind.u64))) ((2 : Int) ^ min (32 : Nat) (IntKind.bits IntKind.u64))) - IntKind.wrap IntKind.u64 (v2.1 * IntKind.wrap IntKind.u64 (y_ * (2 : Int) ^ min (Int.toNat (IntKind.wrap IntKind.u64 (val (math_bits_LeadingZeros64 y_)))) (IntKind.bits IntKind.u64))))) ∧
   (Ob (IntKind.wrap IntKind.u64 (v1.2.1.2 - (1 : Int)) = v2.2.1.2) ∧
   True))))))))))))))
   (Br (decide (IntKind.wrap IntKind.u64 (v1.2.1.2 * IntKind.wrap IntKind.u64 (↑(BitVec.toNat (BitVec.ofInt (IntKind.bits IntKind.u64) (IntKind.wrap IntKind.u64 (y_ * (2 : Int) ^ min (Int.toNat (IntKind.wrap IntKind.u64 (val (math_bits_LeadingZeros64 y_)))) (IntKind.bits IntKind.u64))) &&& BitVec.ofInt (IntKind.bits IntKind.u64) (4294967295 : Int))) : Int)) > IntKind.wrap IntKind.u64 (IntKind.wrap IntKind.u64 ((4294967296 : Int) * v1.2.1.1) + IntKind.wrap IntKind.u64 (↑(BitVec.toNat (BitVec.ofInt (IntKind.bits IntKind.u64) (IntKind.wrap IntKind.u64 (lo * (2 : Int) ^ min (Int.toNat (IntKind.wrap IntKind.u64 (val (math_bits_LeadingZeros64 y_)))) (IntKind.bits IntKind.u64))) &&& BitVec.ofInt (IntKind.bits IntKind.u64) (4294967295 : Int))) : Int))))
   (Br (decide (IntKind.wrap IntKind.u64 (v1.2.1.1 + Int.fdiv (IntKind.wrap IntKind.u64 (y_ * (2 : Int) ^ min (Int.toNat (IntKind.wrap IntKind.u64 (val (math_bits_LeadingZeros64 y_)))) (IntKind.bits IntKind.u64))) ((2 : Int) ^ min (32 : Nat) (IntKind.bits IntKind.u64))) ≥ (4294967296 : Int)))
   ((Ob ((0 : Int) ≤ IntKind.wrap IntKind.u64 (val (math_bits_LeadingZeros64 y_))) ∧
   (Ob (True) ∧
   (Ob (True) ∧
   (Ob (IntKind.wrap IntKind.u64 (IntKind.wrap IntKind.u64 (v1.1 * (4294967296 : Int)) + IntKind.wrap IntKind.u64 (v1.2.1.2 - (1 : Int))) = r.1) ∧
   (Ob (Int.fdiv (IntKind.wrap IntKind.u64 (IntKind.wrap IntKind.u64 (IntKind.wrap IntKind.u64 (IntKind.wrap IntKind.u64 (IntKind.wrap IntKind.u64 (IntKind.wrap IntKind.u64 (IntKind.wrap IntKind.u64 (↑(BitVec.toNat (BitVec.ofInt (IntKind.bits IntKind.u64) (IntKind.wrap IntKind.u64 (hi * (2 : Int) ^ min (Int.toNat (IntKind.wrap IntKind.u64 (val (math_bits_LeadingZeros64 y_)))) (IntKind.bits IntKind.u64))) ||| BitVec.ofInt (IntKind.bits IntKind.u64) (Int.fdiv lo ((2 : Int) ^ min (Int.toNat (IntKind.wrap IntKind.u64 ((64 : Int) - IntKind.wrap IntKind.u64 (val (math_bits_LeadingZeros64 y_))))) (IntKind.bits IntKind.u64))))) : Int) * (4294967296 : Int)) + Int.fdiv (IntKind.wrap IntKind.u64 (lo * (2 : Int) ^ min (Int.toNat (IntKind.wrap IntKind.u64 (val (math_bits_LeadingZeros64 y_)))) (IntKind.bits IntKind.u64))) ((2 : Int) ^ min (32 : Nat) (IntKind.bits IntKind.u64))) - IntKind.wrap IntKind.u64 (v1.1 * IntKind.wrap IntKind.u64 (y_ * (2 : Int) ^ min (Int.toNat (IntKind.wrap IntKind.u64 (val (math_bits_LeadingZeros64 y_)))) (IntKind.bits IntKind.u64)))) * (4294967296 : Int)) + IntKind.wrap IntKind.u64 (↑(BitVec.toNat (BitVec.ofInt (IntKind.bits IntKind.u64) (IntKind.wrap IntKind.u64 (lo * (2 : Int) ^ min (Int.toNat (IntKind.wrap IntKind.u64 (val (math_bits_LeadingZeros64 y_)))) (IntKind.bits IntKind.u64))) &&& BitVec.ofInt (IntKind.bits IntKind.u64) (4294967295 : Int))) : Int)) - IntKind.wrap IntKind.u64 (IntKind.wrap IntKind.u64 (v1.2.1.2 - (1 : Int)) * IntKind.wrap IntKind.u64 (y_ * (2 : Int) ^ min (Int.toNat (IntKind.wrap IntKind.u64 (val (math_bits_LeadingZeros64 y_)))) (IntKind.bits IntKind.u64))))) ((2 : Int) ^ min (Int.toNat (IntKind.wrap IntKind.u64 (val (math_bits_LeadingZeros64 y_)))) (IntKind.bits IntKind.u64)) = r.2) ∧
   True))))))
   ((∃ (v2 : Int × (Int × Int) × Nat), (Ob ((Option.bind (iter (math_bits_Div64_b1 lo y_ (val (math_bits_LeadingZeros64 y_))) v2.2.2 v2.2.1) fun y0 => Option.bind (math_bits_Div64_r1 hi lo y_ v2.1 (val (math_bits_LeadingZeros64 y_)) y0) some) = some r) ∧
   (Ob (v2.2.2 < v1.2.2) ∧
   (Ob (IntKind.wrap IntKind.u64 (y_ * (2 : Int) ^ min (Int.toNat (IntKind.wrap IntKind.u64 (val (math_bits_LeadingZeros64 y_)))) (IntKind.bits IntKind.u64)) = IntKind.wrap IntKind.u64 (y_ * (2 : Int) ^ min (Int.toNat (IntKind.wrap IntKind.u64 (val (math_bits_LeadingZeros64 y_)))) (IntKind.bits IntKind.u64))) ∧
   (Ob (IntKind.wrap IntKind.u64 (val (math_bits_LeadingZeros64 y_)) = IntKind.wrap IntKind.u64 (val (math_bits_LeadingZeros64 y_))) ∧
   (Ob (Int.fdiv (IntKind.wrap IntKind.u64 (y_ * (2 : Int) ^ min (Int.toNat (IntKind.wrap IntKind.u64 (val (math_bits_LeadingZeros64 y_)))) (IntKind.bits IntKind.u64))) ((2 : Int) ^ min (32 : Nat) (IntKind.bits IntKind.u64)) = Int.fdiv (IntKind.wrap IntKind.u64 (y_ * (2 : Int) ^ min (Int.toNat (IntKind.wrap IntKind.u64 (val (math_bits_LeadingZeros64 y_)))) (IntKind.bits IntKind.u64))) ((2 : Int) ^ min (32 : Nat) (IntKind.bits IntKind.u64))) ∧
   (Ob (IntKind.wrap IntKind.u64 (↑(BitVec.toNat (BitVec.ofInt (IntKind.bits IntKind.u64) (IntKind.wrap IntKind.u64 (y_ * (2 : Int) ^ min (Int.toNat (IntKind.wrap IntKind.u64 (val (math_bits_LeadingZeros64 y_)))) (IntKind.bits IntKind.u64))) &&& BitVec.ofInt (IntKind.bits IntKind.u64) (4294967295 : Int))) : Int) = IntKind.wrap IntKind.u64 (↑(BitVec.toNat (BitVec.ofInt (IntKind.bits IntKind.u64) (IntKind.wrap IntKind.u64 (y_ * (2 : Int) ^ min (Int.toNat (IntKind.wrap IntKind.u64 (val (math_bits_LeadingZeros64 y_)))) (IntKind.bits IntKind.u64))) &&& BitVec.ofInt (IntKind.bits IntKind.u64) (4294967295 : Int))) : Int)) ∧
   (Ob (IntKind.wrap IntKind.u64 (↑(BitVec.toNat (BitVec.ofInt (IntKind.bits IntKind.u64) (IntKind.wrap IntKind.u64 (lo * (2 : Int) ^ min (Int.toNat (IntKind.wrap IntKind.u64 (val (math_bits_LeadingZeros64 y_)))) (IntKind.bits IntKind.u64))) &&& BitVec.ofInt (IntKind.bits IntKind.u64) (4294967295 : Int))) : Int) = IntKind.wrap IntKind.u64 (↑(BitVec.toNat (BitVec.ofInt (IntKind.bits IntKind.u64) (IntKind.wrap IntKind.u64 (lo * (2 : Int) ^ min (Int.toNat (IntKind.wrap IntKind.u64 (val (math_bits_LeadingZeros64 y_)))) (IntKind.bits IntKind.u64))) &&& BitVec.ofInt (IntKind.bits IntKind.u64) (4294967295 : Int))) : Int)) ∧
   (Ob (v1.1 = v2.1) ∧
   (Ob (IntKind.wrap IntKind.u64 (v1.2.1.1 + Int.fdiv (IntKind.wrap IntKind.u64 (y_ * (2 : Int) ^ min (Int.toNat (IntKind.wrap IntKind.u64 (val (math_bits_LeadingZeros64 y_)))) (IntKind.bits IntKind.u64))) ((2 : Int) ^ min (32 : Nat) (IntKind.bits IntKind.u64))) = v2.2.1.1) ∧
   (Ob (IntKind.wrap IntKind.u64 (IntKind.wrap IntKind.u64 (IntKind.wrap IntKind.u64 (IntKind.wrap IntKind.u64 (↑(BitVec.toNat (BitVec.ofInt (IntKind.bits IntKind.u64) (IntKind.wrap IntKind.u64 (hi * (2 : Int) ^ min (Int.toNat (IntKind.wrap IntKind.u64 (val (math_bits_LeadingZeros64 y_)))) (IntKind.bits IntKind.u64))) ||| BitVec.ofInt (IntKind.bits IntKind.u64) (Int.fdiv lo ((2 : Int) ^ min (Int.toNat (IntKind.wrap IntKind.u64 ((64 : Int) - IntKind.wrap IntKind.u64 (val (math_bits_LeadingZeros64 y_))))) (IntKind.bits IntKind.u64))))) : Int) * (4294967296 : Int)) + Int.fdiv (IntKind.wrap IntKind.u64 (lo * (2 : Int) ^ min (Int.toNat (IntKind.wrap IntKind.u64 (val (math_bits_LeadingZeros64 y_)))) (IntKind.bits IntKind.u64))) ((2 : Int) ^ min (32 : Nat) (IntKind.bits IntKind.u64))) - IntKind.wrap IntKind.u64 (v1.1 * IntKind.wrap IntKind.u64 (y_ * (2 : Int) ^ min (Int.toNat (IntKind.wrap IntKind.u64 (val (math_bits_LeadingZeros64 y_)))) (IntKind.bits IntKind.u64)))) = IntKind.wrap IntKind.u64 (IntKind.wrap IntKind.u64 (IntKind.wrap IntKind.u64 (IntKind.wrap IntKind.u64 (↑(BitVec.toNat (BitVec.ofInt (IntKind.bits IntKind.u64) (IntKind.wrap IntKind.u64 (hi * (2 : Int) ^ min (Int.toNat (IntKind.wrap IntKind.u64 (val (math_bits_LeadingZeros64 y_)))) (IntKind.bits IntKind.u64))) ||| BitVec.ofInt (IntKind.bits IntKind.u64) (Int.fdiv lo ((2 : Int) ^ min (Int.toNat (IntKind.wrap IntKind.u64 ((64 : Int) - IntKind.wrap IntKind.u64 (val (math_bits_LeadingZeros64 y_))))) (IntKind.bits IntKind.u64))))) : Int) * (4294967296 : Int)) + Int.fdiv (IntKind.wrap IntKind.u64 (lo * (2 : Int) ^ min (Int.toNat (IntKind.wrap IntKind.u64 (val (math_bits_LeadingZeros64 y_)))) (IntKind.bits IntKind.u64))) ((2 : Int) ^ min (32 : Nat) (IntKind.bits IntKind.u64))) - IntKind.wrap IntKind.u64 (v2.1 * IntKind.wrap IntKind.u64 (y_ * (2 : Int) ^ min (Int.toNat (IntKind.wrap IntKind.u64 (val (math_bits_LeadingZeros64 y_)))) (IntKind.bits IntKind.u64))))) ∧
   (Ob (IntKind.wrap IntKind.u64 (v1.2.1.2 - (1 : Int)) = v2.2.1.2) ∧
   True))))))))))))))
   ((Ob ((0 : Int) ≤ IntKind.wrap IntKind.u64 (val (math_bits_LeadingZeros64 y_))) ∧
   (Ob (True) ∧
   (Ob (True) ∧
   (Ob (IntKind.wrap IntKind.u64 (IntKind.wrap IntKind.u64 (v1.1 * (4294967296 : Int)) + v1.2.1.2) = r.1) ∧
   (Ob (Int.fdiv (IntKind.wrap IntKind.u64 (IntKind.wrap IntKind.u64 (IntKind.wrap IntKind.u64 (IntKind.wrap IntKind.u64 (IntKind.wrap IntKind.u64 (IntKind.wrap IntKind.u64 (IntKind.wrap IntKind.u64 (↑(BitVec.toNat (BitVec.ofInt (IntKind.bits IntKind.u64) (IntKind.wrap IntKind.u64 (hi * (2 : Int) ^ min (Int.toNat (IntKind.wrap IntKind.u64 (val (math_bits_LeadingZeros64 y_)))) (IntKind.bits IntKind.u64))) ||| BitVec.ofInt (IntKind.bits IntKind.u64) (Int.fdiv lo ((2 : Int) ^ min (Int.toNat (IntKind.wrap IntKind.u64 ((64 : Int) - IntKind.wrap IntKind.u64 (val (math_bits_LeadingZeros64 y_))))) (IntKind.bits IntKind.u64))))) : Int) * (4294967296 : Int)) + Int.fdiv (IntKind.wrap IntKind.u64 (lo * (2 : Int) ^ min (Int.toNat (IntKind.wrap IntKind.u64 (val (math_bits_LeadingZeros64 y_)))) (IntKind.bits IntKind.u64))) ((2 : Int) ^ min (32 : Nat) (IntKind.bits IntKind.u64))) - IntKind.wrap IntKind.u64 (v1.1 * IntKind.wrap IntKind.u64 (y_ * (2 : Int) ^ min (Int.toNat (IntKind.wrap IntKind.u64 (val (math_bits_LeadingZeros64 y_)))) (IntKind.bits IntKind.u64)))) * (4294967296 : Int)) + IntKind.wrap IntKind.u64 (↑(BitVec.toNat (BitVec.ofInt (IntKind.bits IntKind.u64) (IntKind.wrap IntKind.u64 (lo * (2 : Int) ^ min (Int.toNat (IntKind.wrap IntKind.u64 (val (math_bits_LeadingZeros64 y_)))) (IntKind.bits IntKind.u64))) &&& BitVec.ofInt (IntKind.bits IntKind.u64) (4294967295 : Int))) : Int)) - IntKind.wrap IntKind.u64 (v1.2.1.2 * IntKind.wrap IntKind.u64 (y_ * (2 : Int) ^ min (Int.toNat (IntKind.wrap IntKind.u64 (val (math_bits_LeadingZeros64 y_)))) (IntKind.bits IntKind.u64))))) ((2 : Int) ^ min (Int.toNat (IntKind.wrap IntKind.u64 (val (math_bits_LeadingZeros64 y_)))) (IntKind.bits IntKind.u64)) = r.2) ∧
   True))))))))))))
   ((∃ (v1 : (Int × Int) × Nat), (Ob ((Option.bind (iter (math_bits_Div64_b0 lo y_ (val (math_bits_LeadingZeros64 y_))) v1.2 v1.1) fun y0 => Option.bind (math_bits_Div64_r0 hi lo y_ (val (math_bits_LeadingZeros64 y_)) y0) some) = some r) ∧
   (Ob (v1.2 < v0.2) ∧
   (Ob (IntKind.wrap IntKind.u64 (y_ * (2 : Int) ^ min (Int.toNat (IntKind.wrap IntKind.u64 (val (math_bits_LeadingZeros64 y_)))) (IntKind.bits IntKind.u64)) = IntKind.wrap IntKind.u64 (y_ * (2 : Int) ^ min (Int.toNat (IntKind.wrap IntKind.u64 (val (math_bits_LeadingZeros64 y_)))) (IntKind.bits IntKind.u64))) ∧
   (Ob (IntKind.wrap IntKind.u64 (val (math_bits_LeadingZeros64 y_)) = IntKind.wrap IntKind.u64 (val (math_bits_LeadingZeros64 y_))) ∧
   (Ob (Int.fdiv (IntKind.wrap IntKind.u64 (y_ * (2 : Int) ^ min (Int.toNat (IntKind.wrap IntKind.u64 (val (math_bits_LeadingZeros64 y_)))) (IntKind.bits IntKind.u64))) ((2 : Int) ^ min (32 : Nat) (IntKind.bits IntKind.u64)) = Int.fdiv (IntKind.wrap IntKind.u64 (y_ * (2 : Int) ^ min (Int.toNat (IntKind.wrap IntKind.u64 (val (math_bits_LeadingZeros64 y_)))) (IntKind.bits IntKind.u64))) ((2 : Int) ^ min (32 : Nat) (IntKind.bits IntKind.u64))) ∧
   (Ob (IntKind.wrap IntKind.u64 (↑(BitVec.toNat (BitVec.ofInt (IntKind.bits IntKind.u64) (IntKind.wrap IntKind.u64 (y_ * (2 : Int) ^ min (Int.toNat (IntKind.wrap IntKind.u64 (val (math_bits_LeadingZeros64 y_)))) (IntKind.bits IntKind.u64))) &&& BitVec.ofInt (IntKind.bits IntKind.u64) (4294967295 : Int))) : Int) = IntKind.wrap IntKind.u64 (↑(BitVec.toNat (BitVec.ofInt (IntKind.bits IntKind.u64) (IntKind.wrap IntKind.u64 (y_ * (2 : Int) ^ min (Int.toNat (IntKind.wrap IntKind.u64 (val (math_bits_LeadingZeros64 y_)))) (IntKind.bits IntKind.u64))) &&& BitVec.ofInt (IntKind.bits IntKind.u64) (4294967295 : Int))) : Int)) ∧
   (Ob (IntKind.wrap IntKind.u64 (↑(BitVec.toNat (BitVec.ofInt (IntKind.bits IntKind.u64) (IntKind.wrap IntKind.u64 (hi * (2 : Int) ^ min (Int.toNat (IntKind.wrap IntKind.u64 (val (math_bits_LeadingZeros64 y_)))) (IntKind.bits IntKind.u64))) ||| BitVec.ofInt (IntKind.bits IntKind.u64) (Int.fdiv lo ((2 : Int) ^ min (Int.toNat (IntKind.wrap IntKind.u64 ((64 : Int) - IntKind.wrap IntKind.u64 (val (math_bits_LeadingZeros64 y_))))) (IntKind.bits IntKind.u64))))) : Int) = IntKind.wrap IntKind.u64 (↑(BitVec.toNat (BitVec.ofInt (IntKind.bits IntKind.u64) (IntKind.wrap IntKind.u64 (hi * (2 : Int) ^ min (Int.toNat (IntKind.wrap IntKind.u64 (val (math_bits_LeadingZeros64 y_)))) (IntKind.bits IntKind.u64))) ||| BitVec.ofInt (IntKind.bits IntKind.u64) (Int.fdiv lo ((2 : Int) ^ min (Int.toNat (IntKind.wrap IntKind.u64 ((64 : Int) - IntKind.wrap IntKind.u64 (val (math_bits_LeadingZeros64 y_))))) (IntKind.bits IntKind.u64))))) : Int)) ∧
   (Ob (Int.fdiv (IntKind.wrap IntKind.u64 (lo * (2 : Int) ^ min (Int.toNat (IntKind.wrap IntKind.u64 (val (math_bits_LeadingZeros64 y_)))) (IntKind.bits IntKind.u64))) ((2 : Int) ^ min (32 : Nat) (IntKind.bits IntKind.u64)) = Int.fdiv (IntKind.wrap IntKind.u64 (lo * (2 : Int) ^ min (Int.toNat (IntKind.wrap IntKind.u64 (val (math_bits_LeadingZeros64 y_)))) (IntKind.bits IntKind.u64))) ((2 : Int) ^ min (32 : Nat) (IntKind.bits IntKind.u64))) ∧
   (Ob (IntKind.wrap IntKind.u64 (↑(BitVec.toNat (BitVec.ofInt (IntKind.bits IntKind.u64) (IntKind.wrap IntKind.u64 (lo * (2 : Int) ^ min (Int.toNat (IntKind.wrap IntKind.u64 (val (math_bits_LeadingZeros64 y_)))) (IntKind.bits IntKind.u64))) &&& BitVec.ofInt (IntKind.bits IntKind.u64) (4294967295 : Int))) : Int) = IntKind.wrap IntKind.u64 (↑(BitVec.toNat (BitVec.ofInt (IntKind.bits IntKind.u64) (IntKind.wrap IntKind.u64 (lo * (2 : Int) ^ min (Int.toNat (IntKind.wrap IntKind.u64 (val (math_bits_LeadingZeros64 y_)))) (IntKind.bits IntKind.u64))) &&& BitVec.ofInt (IntKind.bits IntKind.u64) (4294967295 : Int))) : Int)) ∧
   (Ob (IntKind.wrap IntKind.u64 (v0.1.1 - (1 : Int)) = v1.1.1) ∧
   (Ob (IntKind.wrap IntKind.u64 (v0.1.2 + Int.fdiv (IntKind.wrap IntKind.u64 (y_ * (2 : Int) ^ min (Int.toNat (IntKind.wrap IntKind.u64 (val (math_bits_LeadingZeros64 y_)))) (IntKind.bits IntKind.u64))) ((2 : Int) ^ min (32 : Nat) (IntKind.bits IntKind.u64))) = v1.1.2) ∧
   True))))))))))))))
   ((Ob (Int.fdiv (IntKind.wrap IntKind.u64 (y_ * (2 : Int) ^ min (Int.toNat (IntKind.wrap IntKind.u64 (val (math_bits_LeadingZeros64 y_)))) (IntKind.bits IntKind.u64))) ((2 : Int) ^ min (32 : Nat) (IntKind.bits IntKind.u64)) ≠ (0 : Int)) ∧
   ((∃ (v1 : Int × (Int × Int) × Nat), (Ob ((Option.bind (iter (math_bits_Div64_b1 lo y_ (val (math_bits_LeadingZeros64 y_))) v1.2.2 v1.2.1) fun y0 => Option.bind (math_bits_Div64_r1 hi lo y_ v1.1 (val (math_bits_LeadingZeros64 y_)) y0) some) = some r) ∧
   (Ob (IntKind.wrap IntKind.u64 (y_ * (2 : Int) ^ min (Int.toNat (IntKind.wrap IntKind.u64 (val (math_bits_LeadingZeros64 y_)))) (IntKind.bits IntKind.u64)) = IntKind.wrap IntKind.u64 (y_ * (2 : Int) ^ min (Int.toNat (IntKind.wrap IntKind.u64 (val (math_bits_LeadingZeros64 y_)))) (IntKind.bits IntKind.u64))) ∧
   (Ob (IntKind.wrap IntKind.u64 (val (math_bits_LeadingZeros64 y_)) = IntKind.wrap IntKind.u64 (val (math_bits_LeadingZeros64 y_))) ∧
   (Ob (Int.fdiv (IntKind.wrap IntKind.u64 (y_ * (2 : Int) ^ min (Int.toNat (IntKind.wrap IntKind.u64 (val (math_bits_LeadingZeros64 y_)))) (IntKind.bits IntKind.u64))) ((2 : Int) ^ min (32 : Nat) (IntKind.bits IntKind.u64)) = Int.fdiv (IntKind.wrap IntKind.u64 (y_ * (2 : Int) ^ min (Int.toNat (IntKind.wrap IntKind.u64 (val (math_bits_LeadingZeros64 y_)))) (IntKind.bits IntKind.u64))) ((2 : Int) ^ min (32 : Nat) (IntKind.bits IntKind.u64))) ∧
   (Ob (IntKind.wrap IntKind.u64 (↑(BitVec.toNat (BitVec.ofInt (IntKind.bits IntKind.u64) (IntKind.wrap IntKind.u64 (y_ * (2 : Int) ^ min (Int.toNat (IntKind.wrap IntKind.u64 (val (math_bits_LeadingZeros64 y_)))) (IntKind.bits IntKind.u64))) &&& BitVec.ofInt (IntKind.bits IntKind.u64) (4294967295 : Int))) : Int) = IntKind.wrap IntKind.u64 (↑(BitVec.toNat (BitVec.ofInt (IntKind.bits IntKind.u64) (IntKind.wrap IntKind.u64 (y_ * (2 : Int) ^ min (Int.toNat (IntKind.wrap IntKind.u64 (val (math_bits_LeadingZeros64 y_)))) (IntKind.bits IntKind.u64))) &&& BitVec.ofInt (IntKind.bits IntKind.u64) (4294967295 : Int))) : Int)) ∧
   (Ob (IntKind.wrap IntKind.u64 (↑(BitVec.toNat (BitVec.ofInt (IntKind.bits IntKind.u64) (IntKind.wrap IntKind.u64 (lo * (2 : Int) ^ min (Int.toNat (IntKind.wrap IntKind.u64 (val (math_bits_LeadingZeros64 y_)))) (IntKind.bits IntKind.u64))) &&& BitVec.ofInt (IntKind.bits IntKind.u64) (4294967295 : Int))) : Int) = IntKind.wrap IntKind.u64 (↑(BitVec.toNat (BitVec.ofInt (IntKind.bits IntKind.u64) (IntKind.wrap IntKind.u64 (lo * (2 : Int) ^ min (Int.toNat (IntKind.wrap IntKind.u64 (val (math_bits_LeadingZeros64 y_)))) (IntKind.bits IntKind.u64))) &&& BitVec.ofInt (IntKind.bits IntKind.u64) (4294967295 : Int))) : Int)) ∧
   (Ob (v0.1.1 = v1.1) ∧
   (Ob (IntKind.wrap IntKind.u64 (IntKind.wrap IntKind.u64 (IntKind.wrap IntKind.u64 (IntKind.wrap IntKind.u64 (IntKind.wrap IntKind.u64 (↑(BitVec.toNat (BitVec.ofInt (IntKind.bits IntKind.u64) (IntKind.wrap IntKind.u64 (hi * (2 : Int) ^ min (Int.toNat (IntKind.wrap IntKind.u64 (val (math_bits_LeadingZeros64 y_)))) (IntKind.bits IntKind.u64))) ||| BitVec.ofInt (IntKind.bits IntKind.u64) (Int.fdiv lo ((2 : Int) ^ min (Int.toNat (IntKind.wrap IntKind.u64 ((64 : Int) - IntKind.wrap IntKind.u64 (val (math_bits_LeadingZeros64 y_))))) (IntKind.bits IntKind.u64))))) : Int) * (4294967296 : Int)) + Int.fdiv (IntKind.wrap IntKind.u64 (lo * (2 : Int) ^ min (Int.toNat (IntKind.wrap IntKind.u64 (val (math_bits_LeadingZeros64 y_)))) (IntKind.bits IntKind.u64))) ((2 : Int) ^ min (32 : Nat) (IntKind.bits IntKind.u64))) - IntKind.wrap IntKind.u64 (v0.1.1 * IntKind.wrap IntKind.u64 (y_ * (2 : Int) ^ min (Int.toNat (IntKind.wrap IntKind.u64 (val (math_bits_LeadingZeros64 y_)))) (IntKind.bits IntKind.u64)))) - IntKind.wrap IntKind.u64 (IntKind.wrap IntKind.u64 (Int.tdiv (IntKind.wrap IntKind.u64 (IntKind.wrap IntKind.u64 (IntKind.wrap IntKind.u64 (IntKind.wrap IntKind.u64 (↑(BitVec.toNat (BitVec.ofInt (IntKind.bits IntKind.u64) (IntKind.wrap IntKind.u64 (hi * (2 : Int) ^ min (Int.toNat (IntKind.wrap IntKind.u64 (val (math_bits_LeadingZeros64 y_)))) (IntKind.bits IntKind.u64))) ||| BitVec.ofInt (IntKind.bits IntKind.u64) (Int.fdiv lo ((2 : Int) ^ min (Int.toNat (IntKind.wrap IntKind.u64 ((64 : Int) - IntKind.wrap IntKind.u64 (val (math_bits_LeadingZeros64 y_))))) (IntKind.bits IntKind.u64))))) : Int) * (4294967296 : Int)) + Int.fdiv (IntKind.wrap IntKind.u64 (lo * (2 : Int) ^ min (Int.toNat (IntKind.wrap IntKind.u64 (val (math_bits_LeadingZeros64 y_)))) (IntKind.bits IntKind.u64))) ((2 : Int) ^ min (32 : Nat) (IntKind.bits IntKind.u64))) - IntKind.wrap IntKind.u64 (v0.1.1 * IntKind.wrap IntKind.u64 (y_ * (2 : Int) ^ min (Int.toNat (IntKind.wrap IntKind.u64 (val (math_bits_LeadingZeros64 y_)))) (IntKind.bits IntKind.u64))))) (Int.fdiv (IntKind.wrap IntKind.u64 (y_ * (2 : Int) ^ min (Int.toNat (IntKind.wrap IntKind.u64 (val (math_bits_LeadingZeros64 y_)))) (IntKind.bits IntKind.u64))) ((2 : Int) ^ min (32 : Nat) (IntKind.bits IntKind.u64)))) * Int.fdiv (IntKind.wrap IntKind.u64 (y_ * (2 : Int) ^ min (Int.toNat (IntKind.wrap IntKind.u64 (val (math_bits_LeadingZeros64 y_)))) (IntKind.bits IntKind.u64))) ((2 : Int) ^ min (32 : Nat) (IntKind.bits IntKind.u64)))) = v1.2.1.1) ∧
   (Ob (IntKind.wrap IntKind.u64 (IntKind.wrap IntKind.u64 (IntKind.wrap IntKind.u64 (IntKind.wrap IntKind.u64 (↑(BitVec.toNat (BitVec.ofInt (IntKind.bits IntKind.u64) (IntKind.wrap IntKind.u64 (hi * (2 : Int) ^ min (Int.toNat (IntKind.wrap IntKind.u64 (val (math_bits_LeadingZeros64 y_)))) (IntKind.bits IntKind.u64))) ||| BitVec.ofInt (IntKind.bits IntKind.u64) (Int.fdiv lo ((2 : Int) ^ min (Int.toNat (IntKind.wrap IntKind.u64 ((64 : Int) - IntKind.wrap IntKind.u64 (val (math_bits_LeadingZeros64 y_))))) (IntKind.bits IntKind.u64))))) : Int) * (4294967296 : Int)) + Int.fdiv (IntKind.wrap IntKind.u64 (lo * (2 : Int) ^ min (Int.toNat (IntKind.wrap IntKind.u64 (val (math_bits_LeadingZeros64 y_)))) (IntKind.bits IntKind.u64))) ((2 : Int) ^ min (32 : Nat) (IntKind.bits IntKind.u64))) - IntKind.wrap IntKind.u64 (v0.1.1 * IntKind.wrap IntKind.u64 (y_ * (2 : Int) ^ min (Int.toNat (IntKind.wrap IntKind.u64 (val (math_bits_LeadingZeros64 y_)))) (IntKind.bits IntKind.u64)))) = IntKind.wrap IntKind.u64 (IntKind.wrap IntKind.u64 (IntKind.wrap IntKind.u64 (IntKind.wrap IntKind.u64 (↑(BitVec.toNat (BitVec.ofInt (IntKind.bits IntKind.u64) (IntKind.wrap IntKind.u64 (hi * (2 : Int) ^ min (Int.toNat (IntKind.wrap IntKind.u64 (val (math_bits_LeadingZeros64 y_)))) (IntKind.bits IntKind.u64))) ||| BitVec.ofInt (IntKind.bits IntKind.u64) (Int.fdiv lo ((2 : Int) ^ min (Int.toNat (IntKind.wrap IntKind.u64 ((64 : Int) - IntKind.wrap IntKind.u64 (val (math_bits_LeadingZeros64 y_))))) (IntKind.bits IntKind.u64))))) : Int) * (4294967296 : Int)) + Int.fdiv (IntKind.wrap IntKind.u64 (lo * (2 : Int) ^ min (Int.toNat (IntKind.wrap IntKind.u64 (val (math_bits_LeadingZeros64 y_)))) (IntKind.bits IntKind.u64))) ((2 : Int) ^ min (32 : Nat) (IntKind.bits IntKind.u64))) - IntKind.wrap IntKind.u64 (v1.1 * IntKind.wrap IntKind.u64 (y_ * (2 : Int) ^ min (Int.toNat (IntKind.wrap IntKind.u64 (val (math_bits_LeadingZeros64 y_)))) (IntKind.bits IntKind.u64))))) ∧
   (Ob (IntKind.wrap IntKind.u64 (Int.tdiv (IntKind.wrap IntKind.u64 (IntKind.wrap IntKind.u64 (IntKind.wrap IntKind.u64 (IntKind.wrap IntKind.u64 (↑(BitVec.toNat (BitVec.ofInt (IntKind.bits IntKind.u64) (IntKind.wrap IntKind.u64 (hi * (2 : Int) ^ min (Int.toNat (IntKind.wrap IntKind.u64 (val (math_bits_LeadingZeros64 y_)))) (IntKind.bits IntKind.u64))) ||| BitVec.ofInt (IntKind.bits IntKind.u64) (Int.fdiv lo ((2 : Int) ^ min (Int.toNat (IntKind.wrap IntKind.u64 ((64 : Int) - IntKind.wrap IntKind.u64 (val (math_bits_LeadingZeros64 y_))))) (IntKind.bits IntKind.u64))))) : Int) * (4294967296 : Int)) + Int.fdiv (IntKind.wrap IntKind.u64 (lo * (2 : Int) ^ min (Int.toNat (IntKind.wrap IntKind.u64 (val (math_bits_LeadingZeros64 y_)))) (IntKind.bits IntKind.u64))) ((2 : Int) ^ min (32 : Nat) (IntKind.bits IntKind.u64))) - IntKind.wrap IntKind.u64 (v0.1.1 * IntKind.wrap IntKind.u64 (y_ * (2 : Int) ^ min (Int.toNat (IntKind.wrap IntKind.u64 (val (math_bits_LeadingZeros64 y_)))) (IntKind.bits IntKind.u64))))) (Int.fdiv (IntKind.wrap IntKind.u64 (y_ * (2 : Int) ^ min (Int.toNat (IntKind.wrap IntKind.u64 (val (math_bits_LeadingZeros64 y_)))) (IntKind.bits IntKind.u64))) ((2 : Int) ^ min (32 : Nat) (IntKind.bits IntKind.u64)))) = v1.2.1.2) ∧
   True))))))))))) ∧
   (∀ (v1 : Int × (Int × Int) × Nat), ((Option.bind (iter (math_bits_Div64_b1 lo y_ (val (math_bits_LeadingZeros64 y_))) v1.2.2 v1.2.1) fun y0 => Option.bind (math_bits_Div64_r1 hi lo y_ v1.1 (val (math_bits_LeadingZeros64 y_)) y0) some) = some r →
   Br (decide (v1.2.1.2 ≥ (4294967296 : Int)))
   (Br (decide (IntKind.wrap IntKind.u64 (v1.2.1.1 + Int.fdiv (IntKind.wrap IntKind.u64 (y_ * (2 : Int) ^ min (Int.toNat (IntKind.wrap IntKind.u64 (val (math_bits_LeadingZeros64 y_)))) (IntKind.bits IntKind.u64))) ((2 : Int) ^ min (32 : Nat) (IntKind.bits IntKind.u64))) ≥ (4294967296 : Int)))
   ((Ob ((0 : Int) ≤ IntKind.wrap IntKind.u64 (val (math_bits_LeadingZeros64 y_))) ∧
   (Ob (True) ∧
   (Ob (True) ∧
   (Ob (IntKind.wrap IntKind.u64 (IntKind.wrap IntKind.u64 (v1.1 * (4294967296 : Int)) + IntKind.wrap IntKind.u64 (v1.2.1.2 - (1 : Int))) = r.1) ∧
   (Ob (Int.fdiv (IntKind.wrap IntKind.u64 (IntKind.wrap IntKind.u64 (IntKind.wrap IntKind.u64 (IntKind.wrap IntKind.u64 (IntKind.wrap IntKind.u64 (IntKind.wrap IntKind.u64 (IntKind.wrap IntKind.u64 (↑(BitVec.toNat (BitVec.ofInt (IntKind.bits IntKind.u64) (IntKind.wrap IntKind.u64 (hi * (2 : Int) ^ min (Int.toNat (IntKind.wrap IntKind.u64 (val (math_bits_LeadingZeros64 y_)))) (IntKind.bits IntKind.u64))) ||| BitVec.ofInt (IntKind.bits IntKind.u64) (Int.fdiv lo ((2 : Int) ^ min (Int.toNat (IntKind.wrap IntKind.u64 ((64 : Int) - IntKind.wrap IntKind.u64 (val (math_bits_LeadingZeros64 y_))))) (IntKind.bits IntKind.u64))))) : Int) * (4294967296 : Int)) + Int.fdiv (IntKind.wrap IntKind.u64 (lo * (2 : Int) ^ min (Int.toNat (IntKind.wrap IntKind.u64 (val (math_bits_LeadingZeros64 y_)))) (IntKind.bits IntKind.u64))) ((2 : Int) ^ min (32 : Nat) (IntKind.bits IntKind.u64))) - IntKind.wrap IntKind.u64 (v1.1 * IntKind.wrap IntKind.u64 (y_ * (2 : Int) ^ min (Int.toNat (IntKind.wrap IntKind.u64 (val (math_bits_LeadingZeros64 y_)))) (IntKind.bits IntKind.u64)))) * (4294967296 : Int)) + IntKind.wrap IntKind.u64 (↑(BitVec.toNat (BitVec.ofInt (IntKind.bits IntKind.u64) (IntKind.wrap IntKind.u64 (lo * (2 : Int) ^ min (Int.toNat (IntKind.wrap IntKind.u64 (val (math_bits_LeadingZeros64 y_)))) (IntKind.bits IntKind.u64))) &&& BitVec.ofInt (IntKind.bits IntKind.u64) (4294967295 : Int))) : Int)) - IntKind.wrap IntKind.u64 (IntKind.wrap IntKind.u64 (v1.2.1.2 - (1 : Int)) * IntKind.wrap IntKind.u64 (y_ * (2 : Int) ^ min (Int.toNat (IntKind.wrap IntKind.u64 (val (math_bits_LeadingZeros64 y_)))) (IntKind.bits IntKind.u64))))) ((2 : Int) ^ min (Int.toNat (IntKind.wrap IntKind.u64 (val (math_bits_LeadingZeros64 y_)))) (IntKind.bits IntKind.u64)) = r.2) ∧
   True))))))
   ((∃ (v2 : Int × (Int × Int) × Nat), (Ob ((Option.bind (iter (math_bits_Div64_b1 lo y_ (val (math_bits_LeadingZeros64 y_))) v2.2.2 v2.2.1) fun y0 => Option.bind (math_bits_Div64_r1 hi lo y_ v2.1 (val (math_bits_LeadingZeros64 y_)) y0) some) = some r) ∧
   (Ob (v2.2.2 < v1.2.2) ∧
   (Ob (IntKind.wrap IntKind.u64 (y_ * (2 : Int) ^ min (Int.toNat (IntKind.wrap IntKind.u64 (val (math_bits_LeadingZeros64 y_)))) (IntKind.bits IntKind.u64)) = IntKind.wrap IntKind.u64 (y_ * (2 : Int) ^ min (Int.toNat (IntKind.wrap IntKind.u64 (val (math_bits_LeadingZeros64 y_)))) (IntKind.bits IntKind.u64))) ∧
   (Ob (IntKind.wrap IntKind.u64 (val (math_bits_LeadingZeros64 y_)) = IntKind.wrap IntKind.u64 (val (math_bits_LeadingZeros64 y_))) ∧
   (Ob (Int.fdiv (IntKind.wrap IntKind.u64 (y_ * (2 : Int) ^ min (Int.toNat (IntKind.wrap IntKind.u64 (val (math_bits_LeadingZeros64 y_)))) (IntKind.bits IntKind.u64))) ((2 : Int) ^ min (32 : Nat) (IntKind.bits IntKind.u64)) = Int.fdiv (IntKind.wrap IntKind.u64 (y_ * (2 : Int) ^ min (Int.toNat (IntKind.wrap IntKind.u64 (val (math_bits_LeadingZeros64 y_)))) (IntKind.bits IntKind.u64))) ((2 : Int) ^ min (32 : Nat) (IntKind.bits IntKind.u64))) ∧
   (Ob (IntKind.wrap IntKind.u64 (↑(BitVec.toNat (BitVec.ofInt (IntKind.bits IntKind.u64) (IntKind.wrap IntKind.u64 (y_ * (2 : Int) ^ min (Int.toNat (IntKind.wrap IntKind.u64 (val (math_bits_LeadingZeros64 y_)))) (IntKind.bits IntKind.u64))) &&& BitVec.ofInt (IntKind.bits IntKind.u64) (4294967295 : Int))) : Int) = IntKind.wrap IntKind.u64 (↑(BitVec.toNat (BitVec.ofInt (IntKind.bits IntKind.u64) (IntKind.wrap IntKind.u64 (y_ * (2 : Int) ^ min (Int.toNat (IntKind.wrap IntKind.u64 (val (math_bits_LeadingZeros64 y_)))) (IntKind.bits IntKind.u64))) &&& BitVec.ofInt (IntKind.bits IntKind.u64) (4294967295 : Int))) : Int)) ∧
   (Ob (IntKind.wrap IntKind.u64 (↑(BitVec.toNat (BitVec.ofInt (IntKind.bits IntKind.u64) (IntKind.wrap IntKind.u64 (lo * (2 : Int) ^ min (Int.toNat (IntKind.wrap IntKind.u64 (val (math_bits_LeadingZeros64 y_)))) (IntKind.bits IntKind.u64))) &&& BitVec.ofInt (IntKind.bits IntKind.u64) (4294967295 : Int))) : Int) = IntKind.wrap IntKind.u64 (↑(BitVec.toNat (BitVec.ofInt (IntKind.bits IntKind.u64) (IntKind.wrap IntKind.u64 (lo * (2 : Int) ^ min (Int.toNat (IntKind.wrap IntKind.u64 (val (math_bits_LeadingZeros64 y_)))) (IntKind.bits IntKind.u64))) &&& BitVec.ofInt (IntKind.bits IntKind.u64) (4294967295 : Int))) : Int)) ∧
   (Ob (v1.1 = v2.1) ∧
   (Ob (IntKind.wrap IntKind.u64 (v1.2.1.1 + Int.fdiv (IntKind.wrap IntKind.u64 (y_ * (2 : Int) ^ min (Int.toNat (IntKind.wrap IntKind.u64 (val (math_bits_LeadingZeros64 y_)))) (IntKind.bits IntKind.u64))) ((2 : Int) ^ min (32 : Nat) (IntKind.bits IntKind.u64))) = v2.2.1.1) ∧
   (Ob (IntKind.wrap IntKind.u64 (IntKind.wrap IntKind.u64 (IntKind.wrap IntKind.u64 (IntKind.wrap IntKind.u64 (↑(BitVec.toNat (BitVec.ofInt (IntKind.bits IntKind.u64) (IntKind.wrap IntKind.u64 (hi * (2 : Int) ^ min (Int.toNat (IntKind.wrap IntKind.u64 (val (math_bits_LeadingZeros64 y_)))) (IntKind.bits IntKind.u64))) ||| BitVec.ofInt (IntKind.bits IntKind.u64) (Int.fdiv lo ((2 : Int) ^ min (Int.toNat (IntKind.wrap IntKind.u64 ((64 : Int) - IntKind.wrap IntKind.u64 (val (math_bits_LeadingZeros64 y_))))) (IntKind.bits IntKind.u64))))) : Int) * (4294967296 : Int)) + Int.fdiv (IntKind.wrap IntKind.u64 (lo * (2 : Int) ^ min (Int.toNat (IntKind.wrap IntKind.u64 (val (math_bits_LeadingZeros64 y_)))) (IntKind.bits IntKind.u64))) ((2 : Int) ^ min (32 : Nat) (IntKind.bits IntKind.u64))) - IntKind.wrap IntKind.u64 (v1.1 * IntKind.wrap IntKind.u64 (y_ * (2 : Int) ^ min (Int.toNat (IntKind.wrap IntKind.u64 (val (math_bits_LeadingZeros64 y_)))) (IntKind.bits IntKind.u64)))) = IntKind.wrap IntKind.u64 (IntKind.wrap IntKind.u64 (IntKind.wrap IntKind.u64 (IntKind.wrap IntKind.u64 (↑(BitVec.toNat (BitVec.ofInt (IntKind.bits IntKind.u64) (IntKind.wrap IntKind.u64 (hi * (2 : Int) ^ min (Int.toNat (IntKind.wrap IntKind.u64 (val (math_bits_LeadingZeros64 y_)))) (IntKind.bits IntKind.u64))) ||| BitVec.ofInt (IntKind.bits IntKind.u64) (Int.fdiv lo ((2 : Int) ^ min (Int.toNat (IntKind.wrap IntKind.u64 ((64 : Int) - IntKind.wrap IntKind.u64 (val (math_bits_LeadingZeros64 y_))))) (IntKind.bits IntKind.u64))))) : Int) * (4294967296 : Int)) + Int.fdiv (IntKind.wrap IntKind.u64 (lo * (2 : Int) ^ min (Int.toNat (IntKind.wrap IntKind.u64 (val (math_bits_LeadingZeros64 y_)))) (IntKind.bits IntKind.u64))) ((2 : Int) ^ min (32 : Nat) (IntKind.bits IntKind.u64))) - IntKind.wrap IntKind.u64 (v2.1 * IntKind.wrap IntKind.u64 (y_ * (2 : Int) ^ min (Int.toNat (IntKind.wrap IntKind.u64 (val (math_bits_LeadingZeros64 y_)))) (IntKind.bits IntKind.u64))))) ∧
   (Ob (IntKind.wrap IntKind.u64 (v1.2.1.2 - (1 : Int)) = v2.2.1.2) ∧
   True))))))))))))))
   (Br (decide (IntKind.wrap IntKind.u64 (v1.2.1.2 * IntKind.wrap IntKind.u64 (↑(BitVec.toNat (BitVec.ofInt (IntKind.bits IntKind.u64) (IntKind.wrap IntKind.u64 (y_ * (2 : Int) ^ min (Int.toNat (IntKind.wrap IntKind.u64 (val (math_bits_LeadingZeros64 y_)))) (IntKind.bits IntKind.u64))) &&& BitVec.ofInt (IntKind.bits IntKind.u64) (4294967295 : Int))) : Int)) > IntKind.wrap IntKind.u64 (IntKind.wrap IntKind.u64 ((4294967296 : Int) * v1.2.1.1) + IntKind.wrap IntKind.u64 (↑(BitVec.toNat (BitVec.ofInt (IntKind.bits IntKind.u64) (IntKind.wrap IntKind.u64 (lo * (2 : Int) ^ min (Int.toNat (IntKind.wrap IntKind.u64 (val (math_bits_LeadingZeros64 y_)))) (IntKind.bits IntKind.u64))) &&& BitVec.ofInt (IntKind.bits IntKind.u64) (4294967295 : Int))) : Int))))
   (Br (decide (IntKind.wrap IntKind.u64 (v1.2.1.1 + Int.fdiv (IntKind.wrap IntKind.u64 (y_ * (2 : Int) ^ min (Int.toNat (IntKind.wrap IntKind.u64 (val (math_bits_LeadingZeros64 y_)))) (IntKind.bits IntKind.u64))) ((2 : Int) ^ min (32 : Nat) (IntKind.bits IntKind.u64))) ≥ (4294967296 : Int)))
   ((Ob ((0 : Int) ≤ IntKind.wrap IntKind.u64 (val (math_bits_LeadingZeros64 y_))) ∧
   (Ob (True) ∧
   (Ob (True) ∧
   (Ob (IntKind.wrap IntKind.u64 (IntKind.wrap IntKind.u64 (v1.1 * (4294967296 : Int)) + IntKind.wrap IntKind.u64 (v1.2.1.2 - (1 : Int))) = r.1) ∧
   (Ob (Int.fdiv (IntKind.wrap IntKind.u64 (IntKind.wrap IntKind.u64 (IntKind.wrap IntKind.u64 (IntKind.wrap IntKind.u64 (IntKind.wrap IntKind.u64 (IntKind.wrap IntKind.u64 (IntKind.wrap IntKind.u64 (↑(BitVec.toNat (BitVec.ofInt (IntKind.bits IntKind.u64) (IntKind.wrap IntKind.u64 (hi * (2 : Int) ^ min (Int.toNat (IntKind.wrap IntKind.u64 (val (math_bits_LeadingZeros64 y_)))) (IntKind.bits IntKind.u64))) ||| BitVec.ofInt (IntKind.bits IntKind.u64) (Int.fdiv lo ((2 : Int) ^ min (Int.toNat (IntKind.wrap IntKind.u64 ((64 : Int) - IntKind.wrap IntKind.u64 (val (math_bits_LeadingZeros64 y_))))) (IntKind.bits IntKind.u64))))) : Int) * (4294967296 : Int)) + Int.fdiv (IntKind.wrap IntKind.u64 (lo * (2 : Int) ^ min (Int.toNat (IntKind.wrap IntKind.u64 (val (math_bits_LeadingZeros64 y_)))) (IntKind.bits IntKind.u64))) ((2 : Int) ^ min (32 : Nat) (IntKind.bits IntKind.u64))) - IntKind.wrap IntKind.u64 (v1.1 * IntKind.wrap IntKind.u64 (y_ * (2 : Int) ^ min (Int.toNat (IntKind.wrap IntKind.u64 (val (math_bits_LeadingZeros64 y_)))) (IntKind.bits IntKind.u64)))) * (4294967296 : Int)) + IntKind.wrap IntKind.u64 (↑(BitVec.toNat (BitVec.ofInt (IntKind.bits IntKind.u64) (IntKind.wrap IntKind.u64 (lo * (2 : Int) ^ min (Int.toNat (IntKind.wrap IntKind.u64 (val (math_bits_LeadingZeros64 y_)))) (IntKind.bits IntKind.u64))) &&& BitVec.ofInt (IntKind.bits IntKind.u64) (4294967295 : Int))) : Int)) - IntKind.wrap IntKind.u64 (IntKind.wrap IntKind.u64 (v1.2.1.2 - (1 : Int)) * IntKind.wrap IntKind.u64 (y_ * (2 : Int) ^ min (Int.toNat (IntKind.wrap IntKind.u64 (val (math_bits_LeadingZeros64 y_)))) (IntKind.bits IntKind.u64))))) ((2 : Int) ^ min (Int.toNat (IntKind.wrap IntKind.u64 (val (math_bits_LeadingZeros64 y_)))) (IntKind.bits IntKind.u64)) = r.2) ∧
   True))))))
   ((∃ (v2 : Int × (Int × Int) × Nat), (Ob ((Option.bind (iter (math_bits_Div64_b1 lo y_ (val (math_bits_LeadingZeros64 y_))) v2.2.2 v2.2.1) fun y0 => Option.bind (math_bits_Div64_r1 hi lo y_ v2.1 (val (math_bits_LeadingZeros64 y_)) y0) some) = some r) ∧
   (Ob (v2.2.2 < v1.2.2) ∧
   (Ob (IntKind.wrap IntKind.u64 (y_ * (2 : Int) ^ min (Int.toNat (IntKind.wrap IntKind.u64 (val (math_bits_LeadingZeros64 y_)))) (IntKind.bits IntKind.u64)) = IntKind.wrap IntKind.u64 (y_ * (2 : Int) ^ min (Int.toNat (IntKind.wrap IntKind.u64 (val (math_bits_LeadingZeros64 y_)))) (IntKind.bits IntKind.u64))) ∧
   (Ob (IntKind.wrap IntKind.u64 (val (math_bits_LeadingZeros64 y_)) = IntKind.wrap IntKind.u64 (val (math_bits_LeadingZeros64 y_))) ∧
   (Ob (Int.fdiv (IntKind.wrap IntKind.u64 (y_ * (2 : Int) ^ min (Int.toNat (IntKind.wrap IntKind.u64 (val (math_bits_LeadingZeros64 y_)))) (IntKind.bits IntKind.u64))) ((2 : Int) ^ min (32 : Nat) (IntKind.bits IntKind.u64)) = Int.fdiv (IntKind.wrap IntKind.u64 (y_ * (2 : Int) ^ min (Int.toNat (IntKind.wrap IntKind.u64 (val (math_bits_LeadingZeros64 y_)))) (IntKind.bits IntKind.u64))) ((2 : Int) ^ min (32 : Nat) (IntKind.bits IntKind.u64))) ∧
   (Ob (IntKind.wrap IntKind.u64 (↑(BitVec.toNat (BitVec.ofInt (IntKind.bits IntKind.u64) (IntKind.wrap IntKind.u64 (y_ * (2 : Int) ^ min (Int.toNat (IntKind.wrap IntKind.u64 (val (math_bits_LeadingZeros64 y_)))) (IntKind.bits IntKind.u64))) &&& BitVec.ofInt (IntKind.bits IntKind.u64) (4294967295 : Int))) : Int) = IntKind.wrap IntKind.u64 (↑(BitVec.toNat (BitVec.ofInt (IntKind.bits IntKind.u64) (IntKind.wrap IntKind.u64 (y_ * (2 : Int) ^ min (Int.toNat (IntKind.wrap IntKind.u64 (val (math_bits_LeadingZeros64 y_)))) (IntKind.bits IntKind.u64))) &&& BitVec.ofInt (IntKind.bits IntKind.u64) (4294967295 : Int))) : Int)) ∧
   (Ob (IntKind.wrap IntKind.u64 (↑(BitVec.toNat (BitVec.ofInt (IntKind.bits IntKind.u64) (IntKind.wrap IntKind.u64 (lo * (2 : Int) ^ min (Int.toNat (IntKind.wrap IntKind.u64 (val (math_bits_LeadingZeros64 y_)))) (IntKind.bits IntKind.u64))) &&& BitVec.ofInt (IntKind.bits IntKind.u64) (4294967295 : Int))) : Int) = IntKind.wrap IntKind.u64 (↑(BitVec.toNat (BitVec.ofInt (IntKind.bits IntKind.u64) (IntKind.wrap IntKind.u64 (lo * (2 : Int) ^ min (Int.toNat (IntKind.wrap IntKind.u64 (val (math_bits_LeadingZeros64 y_)))) (IntKind.bits IntKind.u64))) &&& BitVec.ofInt (IntKind.bits IntKind.u64) (4294967295 : Int))) : Int)) ∧
   (Ob (v1.1 = v2.1) ∧
   (Ob (IntKind.wrap IntKind.u64 (v1.2.1.1 + Int.fdiv (IntKind.wrap IntKind.u64 (y_ * (2 : Int) ^ min (Int.toNat (IntKind.wrap IntKind.u64 (val (math_bits_LeadingZeros64 y_)))) (IntKind.bits IntKind.u64))) ((2 : Int) ^ min (32 : Nat) (IntKind.bits IntKind.u64))) = v2.2.1.1) ∧
   (Ob (IntKind.wrap IntKind.u64 (IntKind.wrap IntKind.u64 (IntKind.wrap IntKind.u64 (IntKind.wrap IntKind.u64 (↑(BitVec.toNat (BitVec.ofInt (IntKind.bits IntKind.u64) (IntKind.wrap IntKind.u64 (hi * (2 : Int) ^ min (Int.toNat (IntKind.wrap IntKind.u64 (val (math_bits_LeadingZeros64 y_)))) (IntKind.bits IntKind.u64))) ||| BitVec.ofInt (IntKind.bits IntKind.u64) (Int.fdiv lo ((2 : Int) ^ min (Int.toNat (IntKind.wrap IntKind.u64 ((64 : Int) - IntKind.wrap IntKind.u64 (val (math_bits_LeadingZeros64 y_))))) (IntKind.bits IntKind.u64))))) : Int) * (4294967296 : Int)) + Int.fdiv (IntKind.wrap IntKind.u64 (lo * (2 : Int) ^ min (Int.toNat (IntKind.wrap IntKind.u64 (val (math_bits_LeadingZeros64 y_)))) (IntKind.bits IntKind.u64))) ((2 : Int) ^ min (32 : Nat) (IntKind.bits IntKind.u64))) - IntKind.wrap IntKind.u64 (v1.1 * IntKind.wrap IntKind.u64 (y_ * (2 : Int) ^ min (Int.toNat (IntKind.wrap IntKind.u64 (val (math_bits_LeadingZeros64 y_)))) (IntKind.bits IntKind.u64)))) = IntKind.wrap IntKind.u64 (IntKind.wrap IntKind.u64 (IntKind.wrap IntKind.u64 (IntKind.wrap IntKind.u64 (↑(BitVec.toNat (BitVec.ofInt (IntKind.bits IntKind.u64) (IntKind.wrap IntKind.u64 (hi * (2 : Int) ^ min (Int.toNat (IntKind.wrap IntKind.u64 (val (math_bits_LeadingZeros64 y_)))) (IntKind.bits IntKind.u64))) ||| BitVec.ofInt (IntKind.bits IntKind.u64) (Int.fdiv lo ((2 : Int) ^ min (Int.toNat (IntKind.wrap IntKind.u64 ((64 : Int) - IntKind.wrap IntKind.u64 (val (math_bits_LeadingZeros64 y_))))) (IntKind.bits IntKind.u64))))) : Int) * (4294967296 : Int)) + Int.fdiv (IntKind.wrap IntKind.u64 (lo * (2 : Int) ^ min (Int.toNat (IntKind.wrap IntKind.u64 (val (math_bits_LeadingZeros64 y_)))) (IntKind.bits IntKind.u64))) ((2 : Int) ^ min (32 : Nat) (IntKind.bits IntKind.u64))) - IntKind.wrap IntKind.u64 (v2.1 * IntKind.wrap IntKind.u64 (y_ * (2 : Int) ^ min (Int.toNat (IntKind.wrap IntKind.u64 (val (math_bits_LeadingZeros64 y_)))) (IntKind.bits IntKind.u64))))) ∧
   (Ob (IntKind.wrap IntKind.u64 (v1.2.1.2 - (1 : Int)) = v2.2.1.2) ∧
   True))))))))))))))
   ((Ob ((0 : Int) ≤ IntKind.wrap IntKind.u64 (val (math_bits_LeadingZeros64 y_))) ∧
   (Ob (True) ∧
   (Ob (True) ∧
   (Ob (IntKind.wrap IntKind.u64 (IntKind.wrap IntKind.u64 (v1.1 * (4294967296 : Int)) + v1.2.1.2) = r.1) ∧
   (Ob (Int.fdiv (IntKind.wrap IntKind.u64 (IntKind.wrap IntKind.u64 (IntKind.wrap IntKind.u64 (IntKind.wrap IntKind.u64 (IntKind.wrap IntKind.u64 (IntKind.wrap IntKind.u64 (IntKind.wrap IntKind.u64 (↑(BitVec.toNat (BitVec.ofInt (IntKind.bits IntKind.u64) (IntKind.wrap IntKind.u64 (hi * (2 : Int) ^ min (Int.toNat (IntKind.wrap IntKind.u64 (val (math_bits_LeadingZeros64 y_)))) (IntKind.bits IntKind.u64))) ||| BitVec.ofInt (IntKind.bits IntKind.u64) (Int.fdiv lo ((2 : Int) ^ min (Int.toNat (IntKind.wrap IntKind.u64 ((64 : Int) - IntKind.wrap IntKind.u64 (val (math_bits_LeadingZeros64 y_))))) (IntKind.bits IntKind.u64))))) : Int) * (4294967296 : Int)) + Int.fdiv (IntKind.wrap IntKind.u64 (lo * (2 : Int) ^ min (Int.toNat (IntKind.wrap IntKind.u64 (val (math_bits_LeadingZeros64 y_)))) (IntKind.bits IntKind.u64))) ((2 : Int) ^ min (32 : Nat) (IntKind.bits IntKind.u64))) - IntKind.wrap IntKind.u64 (v1.1 * IntKind.wrap IntKind.u64 (y_ * (2 : Int) ^ min (Int.toNat (IntKind.wrap IntKind.u64 (val (math_bits_LeadingZeros64 y_)))) (IntKind.bits IntKind.u64)))) * (4294967296 : Int)) + IntKind.wrap IntKind.u64 (↑(BitVec.toNat (BitVec.ofInt (IntKind.bits IntKind.u64) (IntKind.wrap IntKind.u64 (lo * (2 : Int) ^ min (Int.toNat (IntKind.wrap IntKind.u64 (val (math_bits_LeadingZeros64 y_)))) (IntKind.bits IntKind.u64))) &&& BitVec.ofInt (IntKind.bits IntKind.u64) (4294967295 : Int))) : Int)) - IntKind.wrap IntKind.u64 (v1.2.1.2 * IntKind.wrap IntKind.u64 (y_ * (2 : Int) ^ min (Int.toNat (IntKind.wrap IntKind.u64 (val (math_bits_LeadingZeros64 y_)))) (IntKind.bits IntKind.u64))))) ((2 : Int) ^ min (Int.toNat (IntKind.wrap IntKind.u64 (val (math_bits_LeadingZeros64 y_)))) (IntKind.bits IntKind.u64)) = r.2) ∧
   True))))))))))))))))))))))))))))) = _) ?_
  refine br_b h (fun h => ?_) (fun h => ?_)
  · exact nomatch h
  · refine br_d h (fun h => ?_) (fun h => ?_)
    · exact nomatch h
    · refine br_b h (fun h => ?_) (fun h => ?_)
      · refine ob_s h fun h => ?_
        refine ob_s h fun h => ?_
        refine ob_t ?_
        refine ob_t ?_
        exact ret_s h (fun e => by subst e; exact (by repeat' (first | exact trivial | exact ⟨rfl⟩ | refine And.intro ?_ ?_)))
      · refine call_s h fun h => ?_
        refine ob_t ?_
        refine ob_s h fun h => ?_
        refine ob_c (p := (0 : Int) ≤ (32 : Int)) (by decide) ?_
        refine ob_s h fun h => ?_
        refine ob_s h fun h => ?_
        refine ob_s h fun h => ?_
        refine ob_c (p := (0 : Int) ≤ (32 : Int)) (by decide) ?_
        refine ob_s h fun h => ?_
        refine ⟨⟨((IntKind.wrap IntKind.u64 (Int.tdiv (IntKind.wrap IntKind.u64 (↑(BitVec.toNat (BitVec.ofInt (IntKind.bits IntKind.u64) (IntKind.wrap IntKind.u64 (hi * (2 : Int) ^ min (Int.toNat (IntKind.wrap IntKind.u64 (val (math_bits_LeadingZeros64 y_)))) (IntKind.bits IntKind.u64))) ||| BitVec.ofInt (IntKind.bits IntKind.u64) (Int.fdiv lo ((2 : Int) ^ min (Int.toNat (IntKind.wrap IntKind.u64 ((64 : Int) - IntKind.wrap IntKind.u64 (val (math_bits_LeadingZeros64 y_))))) (IntKind.bits IntKind.u64))))) : Int)) (Int.fdiv (IntKind.wrap IntKind.u64 (y_ * (2 : Int) ^ min (Int.toNat (IntKind.wrap IntKind.u64 (val (math_bits_LeadingZeros64 y_)))) (IntKind.bits IntKind.u64))) ((2 : Int) ^ min (32 : Nat) (IntKind.bits IntKind.u64)))), IntKind.wrap IntKind.u64 (IntKind.wrap IntKind.u64 (↑(BitVec.toNat (BitVec.ofInt (IntKind.bits IntKind.u64) (IntKind.wrap IntKind.u64 (hi * (2 : Int) ^ min (Int.toNat (IntKind.wrap IntKind.u64 (val (math_bits_LeadingZeros64 y_)))) (IntKind.bits IntKind.u64))) ||| BitVec.ofInt (IntKind.bits IntKind.u64) (Int.fdiv lo ((2 : Int) ^ min (Int.toNat (IntKind.wrap IntKind.u64 ((64 : Int) - IntKind.wrap IntKind.u64 (val (math_bits_LeadingZeros64 y_))))) (IntKind.bits IntKind.u64))))) : Int) - IntKind.wrap IntKind.u64 (IntKind.wrap IntKind.u64 (Int.tdiv (IntKind.wrap IntKind.u64 (↑(BitVec.toNat (BitVec.ofInt (IntKind.bits IntKind.u64) (IntKind.wrap IntKind.u64 (hi * (2 : Int) ^ min (Int.toNat (IntKind.wrap IntKind.u64 (val (math_bits_LeadingZeros64 y_)))) (IntKind.bits IntKind.u64))) ||| BitVec.ofInt (IntKind.bits IntKind.u64) (Int.fdiv lo ((2 : Int) ^ min (Int.toNat (IntKind.wrap IntKind.u64 ((64 : Int) - IntKind.wrap IntKind.u64 (val (math_bits_LeadingZeros64 y_))))) (IntKind.bits IntKind.u64))))) : Int)) (Int.fdiv (IntKind.wrap IntKind.u64 (y_ * (2 : Int) ^ min (Int.toNat (IntKind.wrap IntKind.u64 (val (math_bits_LeadingZeros64 y_)))) (IntKind.bits IntKind.u64))) ((2 : Int) ^ min (32 : Nat) (IntKind.bits IntKind.u64)))) * Int.fdiv (IntKind.wrap IntKind.u64 (y_ * (2 : Int) ^ min (Int.toNat (IntKind.wrap IntKind.u64 (val (math_bits_LeadingZeros64 y_)))) (IntKind.bits IntKind.u64))) ((2 : Int) ^ min (32 : Nat) (IntKind.bits IntKind.u64))))), big), ⟨loop_s h⟩, (by repeat' (first | exact trivial | exact ⟨rfl⟩ | refine And.intro ?_ ?_))⟩, fun z1 hz1 => ?_⟩
        obtain ⟨k1, hm1, h⟩ := iter_pos hz1
        refine br_d h (fun h => ?_) (fun h => ?_)
        · refine br_d h (fun h => ?_) (fun h => ?_)
          · have h := exit_s h
            refine ob_s h fun h => ?_
            refine ⟨⟨(IntKind.wrap IntKind.u64 ((Prod.fst z1).1 - (1 : Int)), (IntKind.wrap IntKind.u64 (IntKind.wrap IntKind.u64 (IntKind.wrap IntKind.u64 (IntKind.wrap IntKind.u64 (IntKind.wrap IntKind.u64 (↑(BitVec.toNat (BitVec.ofInt (IntKind.bits IntKind.u64) (IntKind.wrap IntKind.u64 (hi * (2 : Int) ^ min (Int.toNat (IntKind.wrap IntKind.u64 (val (math_bits_LeadingZeros64 y_)))) (IntKind.bits IntKind.u64))) ||| BitVec.ofInt (IntKind.bits IntKind.u64) (Int.fdiv lo ((2 : Int) ^ min (Int.toNat (IntKind.wrap IntKind.u64 ((64 : Int) - IntKind.wrap IntKind.u64 (val (math_bits_LeadingZeros64 y_))))) (IntKind.bits IntKind.u64))))) : Int) * (4294967296 : Int)) + Int.fdiv (IntKind.wrap IntKind.u64 (lo * (2 : Int) ^ min (Int.toNat (IntKind.wrap IntKind.u64 (val (math_bits_LeadingZeros64 y_)))) (IntKind.bits IntKind.u64))) ((2 : Int) ^ min (32 : Nat) (IntKind.bits IntKind.u64))) - IntKind.wrap IntKind.u64 (IntKind.wrap IntKind.u64 ((Prod.fst z1).1 - (1 : Int)) * IntKind.wrap IntKind.u64 (y_ * (2 : Int) ^ min (Int.toNat (IntKind.wrap IntKind.u64 (val (math_bits_LeadingZeros64 y_)))) (IntKind.bits IntKind.u64)))) - IntKind.wrap IntKind.u64 (IntKind.wrap IntKind.u64 (Int.tdiv (IntKind.wrap IntKind.u64 (IntKind.wrap IntKind.u64 (IntKind.wrap IntKind.u64 (IntKind.wrap IntKind.u64 (↑(BitVec.toNat (BitVec.ofInt (IntKind.bits IntKind.u64) (IntKind.wrap IntKind.u64 (hi * (2 : Int) ^ min (Int.toNat (IntKind.wrap IntKind.u64 (val (math_bits_LeadingZeros64 y_)))) (IntKind.bits IntKind.u64))) ||| BitVec.ofInt (IntKind.bits IntKind.u64) (Int.fdiv lo ((2 : Int) ^ min (Int.toNat (IntKind.wrap IntKind.u64 ((64 : Int) - IntKind.wrap IntKind.u64 (val (math_bits_LeadingZeros64 y_))))) (IntKind.bits IntKind.u64))))) : Int) * (4294967296 : Int)) + Int.fdiv (IntKind.wrap IntKind.u64 (lo * (2 : Int) ^ min (Int.toNat (IntKind.wrap IntKind.u64 (val (math_bits_LeadingZeros64 y_)))) (IntKind.bits IntKind.u64))) ((2 : Int) ^ min (32 : Nat) (IntKind.bits IntKind.u64))) - IntKind.wrap IntKind.u64 (IntKind.wrap IntKind.u64 ((Prod.fst z1).1 - (1 : Int)) * IntKind.wrap IntKind.u64 (y_ * (2 : Int) ^ min (Int.toNat (IntKind.wrap IntKind.u64 (val (math_bits_LeadingZeros64 y_)))) (IntKind.bits IntKind.u64))))) (Int.fdiv (IntKind.wrap IntKind.u64 (y_ * (2 : Int) ^ min (Int.toNat (IntKind.wrap IntKind.u64 (val (math_bits_LeadingZeros64 y_)))) (IntKind.bits IntKind.u64))) ((2 : Int) ^ min (32 : Nat) (IntKind.bits IntKind.u64)))) * Int.fdiv (IntKind.wrap IntKind.u64 (y_ * (2 : Int) ^ min (Int.toNat (IntKind.wrap IntKind.u64 (val (math_bits_LeadingZeros64 y_)))) (IntKind.bits IntKind.u64))) ((2 : Int) ^ min (32 : Nat) (IntKind.bits IntKind.u64)))), IntKind.wrap IntKind.u64 (Int.tdiv (IntKind.wrap IntKind.u64 (IntKind.wrap IntKind.u64 (IntKind.wrap IntKind.u64 (IntKind.wrap IntKind.u64 (↑(BitVec.toNat (BitVec.ofInt (IntKind.bits IntKind.u64) (IntKind.wrap IntKind.u64 (hi * (2 : Int) ^ min (Int.toNat (IntKind.wrap IntKind.u64 (val (math_bits_LeadingZeros64 y_)))) (IntKind.bits IntKind.u64))) ||| BitVec.ofInt (IntKind.bits IntKind.u64) (Int.fdiv lo ((2 : Int) ^ min (Int.toNat (IntKind.wrap IntKind.u64 ((64 : Int) - IntKind.wrap IntKind.u64 (val (math_bits_LeadingZeros64 y_))))) (IntKind.bits IntKind.u64))))) : Int) * (4294967296 : Int)) + Int.fdiv (IntKind.wrap IntKind.u64 (lo * (2 : Int) ^ min (Int.toNat (IntKind.wrap IntKind.u64 (val (math_bits_LeadingZeros64 y_)))) (IntKind.bits IntKind.u64))) ((2 : Int) ^ min (32 : Nat) (IntKind.bits IntKind.u64))) - IntKind.wrap IntKind.u64 (IntKind.wrap IntKind.u64 ((Prod.fst z1).1 - (1 : Int)) * IntKind.wrap IntKind.u64 (y_ * (2 : Int) ^ min (Int.toNat (IntKind.wrap IntKind.u64 (val (math_bits_LeadingZeros64 y_)))) (IntKind.bits IntKind.u64))))) (Int.fdiv (IntKind.wrap IntKind.u64 (y_ * (2 : Int) ^ min (Int.toNat (IntKind.wrap IntKind.u64 (val (math_bits_LeadingZeros64 y_)))) (IntKind.bits IntKind.u64))) ((2 : Int) ^ min (32 : Nat) (IntKind.bits IntKind.u64))))), big), ⟨loop_s h⟩, (by repeat' (first | exact trivial | exact ⟨rfl⟩ | refine And.intro ?_ ?_))⟩, fun z2 hz2 => ?_⟩
            obtain ⟨k2, hm2, h⟩ := iter_pos hz2
            refine br_d h (fun h => ?_) (fun h => ?_)
            · refine br_d h (fun h => ?_) (fun h => ?_)
              · have h := exit_s h
                refine ob_s h fun h => ?_
                refine ob_t ?_
                refine ob_t ?_
                exact ret_s h (fun e => by subst e; exact (by repeat' (first | exact trivial | exact ⟨rfl⟩ | refine And.intro ?_ ?_)))
              · exact ⟨(Prod.fst z2, (IntKind.wrap IntKind.u64 ((Prod.fst (Prod.snd z2)).1 + Int.fdiv (IntKind.wrap IntKind.u64 (y_ * (2 : Int) ^ min (Int.toNat (IntKind.wrap IntKind.u64 (val (math_bits_LeadingZeros64 y_)))) (IntKind.bits IntKind.u64))) ((2 : Int) ^ min (32 : Nat) (IntKind.bits IntKind.u64))), IntKind.wrap IntKind.u64 ((Prod.fst (Prod.snd z2)).2 - (1 : Int))), k2), ⟨next_s h⟩, ⟨lt_gs hm2.symm⟩, (by repeat' (first | exact trivial | exact ⟨rfl⟩ | refine And.intro ?_ ?_))⟩
            · refine br_d h (fun h => ?_) (fun h => ?_)
              · refine br_d h (fun h => ?_) (fun h => ?_)
                · have h := exit_s h
                  refine ob_s h fun h => ?_
                  refine ob_t ?_
                  refine ob_t ?_
                  exact ret_s h (fun e => by subst e; exact (by repeat' (first | exact trivial | exact ⟨rfl⟩ | refine And.intro ?_ ?_)))
                · exact ⟨(Prod.fst z2, (IntKind.wrap IntKind.u64 ((Prod.fst (Prod.snd z2)).1 + Int.fdiv (IntKind.wrap IntKind.u64 (y_ * (2 : Int) ^ min (Int.toNat (IntKind.wrap IntKind.u64 (val (math_bits_LeadingZeros64 y_)))) (IntKind.bits IntKind.u64))) ((2 : Int) ^ min (32 : Nat) (IntKind.bits IntKind.u64))), IntKind.wrap IntKind.u64 ((Prod.fst (Prod.snd z2)).2 - (1 : Int))), k2), ⟨next_s h⟩, ⟨lt_gs hm2.symm⟩, (by repeat' (first | exact trivial | exact ⟨rfl⟩ | refine And.intro ?_ ?_))⟩
              · have h := exit_s h
                refine ob_s h fun h => ?_
                refine ob_t ?_
                refine ob_t ?_
                exact ret_s h (fun e => by subst e; exact (by repeat' (first | exact trivial | exact ⟨rfl⟩ | refine And.intro ?_ ?_)))
          · exact ⟨((IntKind.wrap IntKind.u64 ((Prod.fst z1).1 - (1 : Int)), IntKind.wrap IntKind.u64 ((Prod.fst z1).2 + Int.fdiv (IntKind.wrap IntKind.u64 (y_ * (2 : Int) ^ min (Int.toNat (IntKind.wrap IntKind.u64 (val (math_bits_LeadingZeros64 y_)))) (IntKind.bits IntKind.u64))) ((2 : Int) ^ min (32 : Nat) (IntKind.bits IntKind.u64)))), k1), ⟨next_s h⟩, ⟨lt_gs hm1.symm⟩, (by repeat' (first | exact trivial | exact ⟨rfl⟩ | refine And.intro ?_ ?_))⟩
        · refine br_d h (fun h => ?_) (fun h => ?_)
          · refine br_d h (fun h => ?_) (fun h => ?_)
            · have h := exit_s h
              refine ob_s h fun h => ?_
              refine ⟨⟨(IntKind.wrap IntKind.u64 ((Prod.fst z1).1 - (1 : Int)), (IntKind.wrap IntKind.u64 (IntKind.wrap IntKind.u64 (IntKind.wrap IntKind.u64 (IntKind.wrap IntKind.u64 (IntKind.wrap IntKind.u64 (↑(BitVec.toNat (BitVec.ofInt (IntKind.bits IntKind.u64) (IntKind.wrap IntKind.u64 (hi * (2 : Int) ^ min (Int.toNat (IntKind.wrap IntKind.u64 (val (math_bits_LeadingZeros64 y_)))) (IntKind.bits IntKind.u64))) ||| BitVec.ofInt (IntKind.bits IntKind.u64) (Int.fdiv lo ((2 : Int) ^ min (Int.toNat (IntKind.wrap IntKind.u64 ((64 : Int) - IntKind.wrap IntKind.u64 (val (math_bits_LeadingZeros64 y_))))) (IntKind.bits IntKind.u64))))) : Int) * (4294967296 : Int)) + Int.fdiv (IntKind.wrap IntKind.u64 (lo * (2 : Int) ^ min (Int.toNat (IntKind.wrap IntKind.u64 (val (math_bits_LeadingZeros64 y_)))) (IntKind.bits IntKind.u64))) ((2 : Int) ^ min (32 : Nat) (IntKind.bits IntKind.u64))) - IntKind.wrap IntKind.u64 (IntKind.wrap IntKind.u64 ((Prod.fst z1).1 - (1 : Int)) * IntKind.wrap IntKind.u64 (y_ * (2 : Int) ^ min (Int.toNat (IntKind.wrap IntKind.u64 (val (math_bits_LeadingZeros64 y_)))) (IntKind.bits IntKind.u64)))) - IntKind.wrap IntKind.u64 (IntKind.wrap IntKind.u64 (Int.tdiv (IntKind.wrap IntKind.u64 (IntKind.wrap IntKind.u64 (IntKind.wrap IntKind.u64 (IntKind.wrap IntKind.u64 (↑(BitVec.toNat (BitVec.ofInt (IntKind.bits IntKind.u64) (IntKind.wrap IntKind.u64 (hi * (2 : Int) ^ min (Int.toNat (IntKind.wrap IntKind.u64 (val (math_bits_LeadingZeros64 y_)))) (IntKind.bits IntKind.u64))) ||| BitVec.ofInt (IntKind.bits IntKind.u64) (Int.fdiv lo ((2 : Int) ^ min (Int.toNat (IntKind.wrap IntKind.u64 ((64 : Int) - IntKind.wrap IntKind.u64 (val (math_bits_LeadingZeros64 y_))))) (IntKind.bits IntKind.u64))))) : Int) * (4294967296 : Int)) + Int.fdiv (IntKind.wrap IntKind.u64 (lo * (2 : Int) ^ min (Int.toNat (IntKind.wrap IntKind.u64 (val (math_bits_LeadingZeros64 y_)))) (IntKind.bits IntKind.u64))) ((2 : Int) ^ min (32 : Nat) (IntKind.bits IntKind.u64))) - IntKind.wrap IntKind.u64 (IntKind.wrap IntKind.u64 ((Prod.fst z1).1 - (1 : Int)) * IntKind.wrap IntKind.u64 (y_ * (2 : Int) ^ min (Int.toNat (IntKind.wrap IntKind.u64 (val (math_bits_LeadingZeros64 y_)))) (IntKind.bits IntKind.u64))))) (Int.fdiv (IntKind.wrap IntKind.u64 (y_ * (2 : Int) ^ min (Int.toNat (IntKind.wrap IntKind.u64 (val (math_bits_LeadingZeros64 y_)))) (IntKind.bits IntKind.u64))) ((2 : Int) ^ min (32 : Nat) (IntKind.bits IntKind.u64)))) * Int.fdiv (IntKind.wrap IntKind.u64 (y_ * (2 : Int) ^ min (Int.toNat (IntKind.wrap IntKind.u64 (val (math_bits_LeadingZeros64 y_)))) (IntKind.bits IntKind.u64))) ((2 : Int) ^ min (32 : Nat) (IntKind.bits IntKind.u64)))), IntKind.wrap IntKind.u64 (Int.tdiv (IntKind.wrap IntKind.u64 (IntKind.wrap IntKind.u64 (IntKind.wrap IntKind.u64 (IntKind.wrap IntKind.u64 (↑(BitVec.toNat (BitVec.ofInt (IntKind.bits IntKind.u64) (IntKind.wrap IntKind.u64 (hi * (2 : Int) ^ min (Int.toNat (IntKind.wrap IntKind.u64 (val (math_bits_LeadingZeros64 y_)))) (IntKind.bits IntKind.u64))) ||| BitVec.ofInt (IntKind.bits IntKind.u64) (Int.fdiv lo ((2 : Int) ^ min (Int.toNat (IntKind.wrap IntKind.u64 ((64 : Int) - IntKind.wrap IntKind.u64 (val (math_bits_LeadingZeros64 y_))))) (IntKind.bits IntKind.u64))))) : Int) * (4294967296 : Int)) + Int.fdiv (IntKind.wrap IntKind.u64 (lo * (2 : Int) ^ min (Int.toNat (IntKind.wrap IntKind.u64 (val (math_bits_LeadingZeros64 y_)))) (IntKind.bits IntKind.u64))) ((2 : Int) ^ min (32 : Nat) (IntKind.bits IntKind.u64))) - IntKind.wrap IntKind.u64 (IntKind.wrap IntKind.u64 ((Prod.fst z1).1 - (1 : Int)) * IntKind.wrap IntKind.u64 (y_ * (2 : Int) ^ min (Int.toNat (IntKind.wrap IntKind.u64 (val (math_bits_LeadingZeros64 y_)))) (IntKind.bits IntKind.u64))))) (Int.fdiv (IntKind.wrap IntKind.u64 (y_ * (2 : Int) ^ min (Int.toNat (IntKind.wrap IntKind.u64 (val (math_bits_LeadingZeros64 y_)))) (IntKind.bits IntKind.u64))) ((2 : Int) ^ min (32 : Nat) (IntKind.bits IntKind.u64))))), big), ⟨loop_s h⟩, (by repeat' (first | exact trivial | exact ⟨rfl⟩ | refine And.intro ?_ ?_))⟩, fun z3 hz3 => ?_⟩
              obtain ⟨k3, hm3, h⟩ := iter_pos hz3
              refine br_d h (fun h => ?_) (fun h => ?_)
              · refine br_d h (fun h => ?_) (fun h => ?_)
                · have h := exit_s h
                  refine ob_s h fun h => ?_
                  refine ob_t ?_
                  refine ob_t ?_
                  exact ret_s h (fun e => by subst e; exact (by repeat' (first | exact trivial | exact ⟨rfl⟩ | refine And.intro ?_ ?_)))
                · exact ⟨(Prod.fst z3, (IntKind.wrap IntKind.u64 ((Prod.fst (Prod.snd z3)).1 + Int.fdiv (IntKind.wrap IntKind.u64 (y_ * (2 : Int) ^ min (Int.toNat (IntKind.wrap IntKind.u64 (val (math_bits_LeadingZeros64 y_)))) (IntKind.bits IntKind.u64))) ((2 : Int) ^ min (32 : Nat) (IntKind.bits IntKind.u64))), IntKind.wrap IntKind.u64 ((Prod.fst (Prod.snd z3)).2 - (1 : Int))), k3), ⟨next_s h⟩, ⟨lt_gs hm3.symm⟩, (by repeat' (first | exact trivial | exact ⟨rfl⟩ | refine And.intro ?_ ?_))⟩
              · refine br_d h (fun h => ?_) (fun h => ?_)
                · refine br_d h (fun h => ?_) (fun h => ?_)
                  · have h := exit_s h
                    refine ob_s h fun h => ?_
                    refine ob_t ?_
                    refine ob_t ?_
                    exact ret_s h (fun e => by subst e; exact (by repeat' (first | exact trivial | exact ⟨rfl⟩ | refine And.intro ?_ ?_)))
                  · exact ⟨(Prod.fst z3, (IntKind.wrap IntKind.u64 ((Prod.fst (Prod.snd z3)).1 + Int.fdiv (IntKind.wrap IntKind.u64 (y_ * (2 : Int) ^ min (Int.toNat (IntKind.wrap IntKind.u64 (val (math_bits_LeadingZeros64 y_)))) (IntKind.bits IntKind.u64))) ((2 : Int) ^ min (32 : Nat) (IntKind.bits IntKind.u64))), IntKind.wrap IntKind.u64 ((Prod.fst (Prod.snd z3)).2 - (1 : Int))), k3), ⟨next_s h⟩, ⟨lt_gs hm3.symm⟩, (by repeat' (first | exact trivial | exact ⟨rfl⟩ | refine And.intro ?_ ?_))⟩
                · have h := exit_s h
                  refine ob_s h fun h => ?_
                  refine ob_t ?_
                  refine ob_t ?_
                  exact ret_s h (fun e => by subst e; exact (by repeat' (first | exact trivial | exact ⟨rfl⟩ | refine And.intro ?_ ?_)))
            · exact ⟨((IntKind.wrap IntKind.u64 ((Prod.fst z1).1 - (1 : Int)), IntKind.wrap IntKind.u64 ((Prod.fst z1).2 + Int.fdiv (IntKind.wrap IntKind.u64 (y_ * (2 : Int) ^ min (Int.toNat (IntKind.wrap IntKind.u64 (val (math_bits_LeadingZeros64 y_)))) (IntKind.bits IntKind.u64))) ((2 : Int) ^ min (32 : Nat) (IntKind.bits IntKind.u64)))), k1), ⟨next_s h⟩, ⟨lt_gs hm1.symm⟩, (by repeat' (first | exact trivial | exact ⟨rfl⟩ | refine And.intro ?_ ?_))⟩
          · have h := exit_s h
            refine ob_s h fun h => ?_
            refine ⟨⟨((Prod.fst z1).1, (IntKind.wrap IntKind.u64 (IntKind.wrap IntKind.u64 (IntKind.wrap IntKind.u64 (IntKind.wrap IntKind.u64 (IntKind.wrap IntKind.u64 (↑(BitVec.toNat (BitVec.ofInt (IntKind.bits IntKind.u64) (IntKind.wrap IntKind.u64 (hi * (2 : Int) ^ min (Int.toNat (IntKind.wrap IntKind.u64 (val (math_bits_LeadingZeros64 y_)))) (IntKind.bits IntKind.u64))) ||| BitVec.ofInt (IntKind.bits IntKind.u64) (Int.fdiv lo ((2 : Int) ^ min (Int.toNat (IntKind.wrap IntKind.u64 ((64 : Int) - IntKind.wrap IntKind.u64 (val (math_bits_LeadingZeros64 y_))))) (IntKind.bits IntKind.u64))))) : Int) * (4294967296 : Int)) + Int.fdiv (IntKind.wrap IntKind.u64 (lo * (2 : Int) ^ min (Int.toNat (IntKind.wrap IntKind.u64 (val (math_bits_LeadingZeros64 y_)))) (IntKind.bits IntKind.u64))) ((2 : Int) ^ min (32 : Nat) (IntKind.bits IntKind.u64))) - IntKind.wrap IntKind.u64 ((Prod.fst z1).1 * IntKind.wrap IntKind.u64 (y_ * (2 : Int) ^ min (Int.toNat (IntKind.wrap IntKind.u64 (val (math_bits_LeadingZeros64 y_)))) (IntKind.bits IntKind.u64)))) - IntKind.wrap IntKind.u64 (IntKind.wrap IntKind.u64 (Int.tdiv (IntKind.wrap IntKind.u64 (IntKind.wrap IntKind.u64 (IntKind.wrap IntKind.u64 (IntKind.wrap IntKind.u64 (↑(BitVec.toNat (BitVec.ofInt (IntKind.bits IntKind.u64) (IntKind.wrap IntKind.u64 (hi * (2 : Int) ^ min (Int.toNat (IntKind.wrap IntKind.u64 (val (math_bits_LeadingZeros64 y_)))) (IntKind.bits IntKind.u64))) ||| BitVec.ofInt (IntKind.bits IntKind.u64) (Int.fdiv lo ((2 : Int) ^ min (Int.toNat (IntKind.wrap IntKind.u64 ((64 : Int) - IntKind.wrap IntKind.u64 (val (math_bits_LeadingZeros64 y_))))) (IntKind.bits IntKind.u64))))) : Int) * (4294967296 : Int)) + Int.fdiv (IntKind.wrap IntKind.u64 (lo * (2 : Int) ^ min (Int.toNat (IntKind.wrap IntKind.u64 (val (math_bits_LeadingZeros64 y_)))) (IntKind.bits IntKind.u64))) ((2 : Int) ^ min (32 : Nat) (IntKind.bits IntKind.u64))) - IntKind.wrap IntKind.u64 ((Prod.fst z1).1 * IntKind.wrap IntKind.u64 (y_ * (2 : Int) ^ min (Int.toNat (IntKind.wrap IntKind.u64 (val (math_bits_LeadingZeros64 y_)))) (IntKind.bits IntKind.u64))))) (Int.fdiv (IntKind.wrap IntKind.u64 (y_ * (2 : Int) ^ min (Int.toNat (IntKind.wrap IntKind.u64 (val (math_bits_LeadingZeros64 y_)))) (IntKind.bits IntKind.u64))) ((2 : Int) ^ min (32 : Nat) (IntKind.bits IntKind.u64)))) * Int.fdiv (IntKind.wrap IntKind.u64 (y_ * (2 : Int) ^ min (Int.toNat (IntKind.wrap IntKind.u64 (val (math_bits_LeadingZeros64 y_)))) (IntKind.bits IntKind.u64))) ((2 : Int) ^ min (32 : Nat) (IntKind.bits IntKind.u64)))), IntKind.wrap IntKind.u64 (Int.tdiv (IntKind.wrap IntKind.u64 (IntKind.wrap IntKind.u64 (IntKind.wrap IntKind.u64 (IntKind.wrap IntKind.u64 (↑(BitVec.toNat (BitVec.ofInt (IntKind.bits IntKind.u64) (IntKind.wrap IntKind.u64 (hi * (2 : Int) ^ min (Int.toNat (IntKind.wrap IntKind.u64 (val (math_bits_LeadingZeros64 y_)))) (IntKind.bits IntKind.u64))) ||| BitVec.ofInt (IntKind.bits IntKind.u64) (Int.fdiv lo ((2 : Int) ^ min (Int.toNat (IntKind.wrap IntKind.u64 ((64 : Int) - IntKind.wrap IntKind.u64 (val (math_bits_LeadingZeros64 y_))))) (IntKind.bits IntKind.u64))))) : Int) * (4294967296 : Int)) + Int.fdiv (IntKind.wrap IntKind.u64 (lo * (2 : Int) ^ min (Int.toNat (IntKind.wrap IntKind.u64 (val (math_bits_LeadingZeros64 y_)))) (IntKind.bits IntKind.u64))) ((2 : Int) ^ min (32 : Nat) (IntKind.bits IntKind.u64))) - IntKind.wrap IntKind.u64 ((Prod.fst z1).1 * IntKind.wrap IntKind.u64 (y_ * (2 : Int) ^ min (Int.toNat (IntKind.wrap IntKind.u64 (val (math_bits_LeadingZeros64 y_)))) (IntKind.bits IntKind.u64))))) (Int.fdiv (IntKind.wrap IntKind.u64 (y_ * (2 : Int) ^ min (Int.toNat (IntKind.wrap IntKind.u64 (val (math_bits_LeadingZeros64 y_)))) (IntKind.bits IntKind.u64))) ((2 : Int) ^ min (32 : Nat) (IntKind.bits IntKind.u64))))), big), ⟨loop_s h⟩, (by repeat' (first | exact trivial | exact ⟨rfl⟩ | refine And.intro ?_ ?_))⟩, fun z4 hz4 => ?_⟩
            obtain ⟨k4, hm4, h⟩ := iter_pos hz4
            refine br_d h (fun h => ?_) (fun h => ?_)
            · refine br_d h (fun h => ?_) (fun h => ?_)
              · have h := exit_s h
                refine ob_s h fun h => ?_
                refine ob_t ?_
                refine ob_t ?_
                exact ret_s h (fun e => by subst e; exact (by repeat' (first | exact trivial | exact ⟨rfl⟩ | refine And.intro ?_ ?_)))
              · exact ⟨(Prod.fst z4, (IntKind.wrap IntKind.u64 ((Prod.fst (Prod.snd z4)).1 + Int.fdiv (IntKind.wrap IntKind.u64 (y_ * (2 : Int) ^ min (Int.toNat (IntKind.wrap IntKind.u64 (val (math_bits_LeadingZeros64 y_)))) (IntKind.bits IntKind.u64))) ((2 : Int) ^ min (32 : Nat) (IntKind.bits IntKind.u64))), IntKind.wrap IntKind.u64 ((Prod.fst (Prod.snd z4)).2 - (1 : Int))), k4), ⟨next_s h⟩, ⟨lt_gs hm4.symm⟩, (by repeat' (first | exact trivial | exact ⟨rfl⟩ | refine And.intro ?_ ?_))⟩
            · refine br_d h (fun h => ?_) (fun h => ?_)
              · refine br_d h (fun h => ?_) (fun h => ?_)
                · have h := exit_s h
                  refine ob_s h fun h => ?_
                  refine ob_t ?_
                  refine ob_t ?_
                  exact ret_s h (fun e => by subst e; exact (by repeat' (first | exact trivial | exact ⟨rfl⟩ | refine And.intro ?_ ?_)))
                · exact ⟨(Prod.fst z4, (IntKind.wrap IntKind.u64 ((Prod.fst (Prod.snd z4)).1 + Int.fdiv (IntKind.wrap IntKind.u64 (y_ * (2 : Int) ^ min (Int.toNat (IntKind.wrap IntKind.u64 (val (math_bits_LeadingZeros64 y_)))) (IntKind.bits IntKind.u64))) ((2 : Int) ^ min (32 : Nat) (IntKind.bits IntKind.u64))), IntKind.wrap IntKind.u64 ((Prod.fst (Prod.snd z4)).2 - (1 : Int))), k4), ⟨next_s h⟩, ⟨lt_gs hm4.symm⟩, (by repeat' (first | exact trivial | exact ⟨rfl⟩ | refine And.intro ?_ ?_))⟩
              · have h := exit_s h
                refine ob_s h fun h => ?_
                refine ob_t ?_
                refine ob_t ?_
                exact ret_s h (fun e => by subst e; exact (by repeat' (first | exact trivial | exact ⟨rfl⟩ | refine And.intro ?_ ?_)))
set_option maxRecDepth 100000 in
theorem math_bits_Div64_ok : SpecOK Try.prog 128 true (pureK k_math_bits_Div64 g_math_bits_Div64) := by
  refine pureK_ok (sp := (sp_135 sp0)) (fn := Try.f128) (body := bodyOf Try.f128) mixed (sp_135_ok sp0_ok) Try.func128 (by kernel_rfl) (by kernel_rfl) fun as_ ob rs h ho => ?_
  unfold g_math_bits_Div64 at h
  split at h
  · rename_i hi lo y_
    cases h
    exact ⟨Nat.le_of_ble_eq_true rfl, _, _, math_bits_Div64_vc hi lo y_ _ (ok_some ho)⟩
  · cases h
theorem sp_128_ok {sp : Specs} (h : SpecsOK Try.prog sp) : SpecsOK Try.prog (sp_128 sp) := addK_ok math_bits_Div64_ok h

/-- shoebox/filter.parts -/
def F_parts (num : Int) (den : Int) : Option (Int × Int × Bool) :=
  Option.bind (math_bits_Mul64 (IntKind.wrap IntKind.u64 num) (1048576 : Int)) fun r0 =>
  if IntKind.wrap IntKind.u64 (IntKind.wrap IntKind.u64 (IntKind.wrap IntKind.u64 (Int.fdiv (IntKind.wrap IntKind.u64 num) ((2 : Int) ^ min (32 : Nat) (IntKind.bits IntKind.u64)) * Int.fdiv (1048576 : Int) ((2 : Int) ^ min (32 : Nat) (IntKind.bits IntKind.u64))) + Int.fdiv (IntKind.wrap IntKind.u64 (IntKind.wrap IntKind.u64 (Int.fdiv (IntKind.wrap IntKind.u64 num) ((2 : Int) ^ min (32 : Nat) (IntKind.bits IntKind.u64)) * IntKind.wrap IntKind.u64 (↑(BitVec.toNat (BitVec.ofInt (IntKind.bits IntKind.u64) (1048576 : Int) &&& BitVec.ofInt (IntKind.bits IntKind.u64) (4294967295 : Int))) : Int)) + Int.fdiv (IntKind.wrap IntKind.u64 (IntKind.wrap IntKind.u64 (↑(BitVec.toNat (BitVec.ofInt (IntKind.bits IntKind.u64) (IntKind.wrap IntKind.u64 num) &&& BitVec.ofInt (IntKind.bits IntKind.u64) (4294967295 : Int))) : Int) * IntKind.wrap IntKind.u64 (↑(BitVec.toNat (BitVec.ofInt (IntKind.bits IntKind.u64) (1048576 : Int) &&& BitVec.ofInt (IntKind.bits IntKind.u64) (4294967295 : Int))) : Int))) ((2 : Int) ^ min (32 : Nat) (IntKind.bits IntKind.u64)))) ((2 : Int) ^ min (32 : Nat) (IntKind.bits IntKind.u64))) + Int.fdiv (IntKind.wrap IntKind.u64 (IntKind.wrap IntKind.u64 (↑(BitVec.toNat (BitVec.ofInt (IntKind.bits IntKind.u64) (IntKind.wrap IntKind.u64 (IntKind.wrap IntKind.u64 (Int.fdiv (IntKind.wrap IntKind.u64 num) ((2 : Int) ^ min (32 : Nat) (IntKind.bits IntKind.u64)) * IntKind.wrap IntKind.u64 (↑(BitVec.toNat (BitVec.ofInt (IntKind.bits IntKind.u64) (1048576 : Int) &&& BitVec.ofInt (IntKind.bits IntKind.u64) (4294967295 : Int))) : Int)) + Int.fdiv (IntKind.wrap IntKind.u64 (IntKind.wrap IntKind.u64 (↑(BitVec.toNat (BitVec.ofInt (IntKind.bits IntKind.u64) (IntKind.wrap IntKind.u64 num) &&& BitVec.ofInt (IntKind.bits IntKind.u64) (4294967295 : Int))) : Int) * IntKind.wrap IntKind.u64 (↑(BitVec.toNat (BitVec.ofInt (IntKind.bits IntKind.u64) (1048576 : Int) &&& BitVec.ofInt (IntKind.bits IntKind.u64) (4294967295 : Int))) : Int))) ((2 : Int) ^ min (32 : Nat) (IntKind.bits IntKind.u64)))) &&& BitVec.ofInt (IntKind.bits IntKind.u64) (4294967295 : Int))) : Int) + IntKind.wrap IntKind.u64 (IntKind.wrap IntKind.u64 (↑(BitVec.toNat (BitVec.ofInt (IntKind.bits IntKind.u64) (IntKind.wrap IntKind.u64 num) &&& BitVec.ofInt (IntKind.bits IntKind.u64) (4294967295 : Int))) : Int) * Int.fdiv (1048576 : Int) ((2 : Int) ^ min (32 : Nat) (IntKind.bits IntKind.u64))))) ((2 : Int) ^ min (32 : Nat) (IntKind.bits IntKind.u64))) ≥ IntKind.wrap IntKind.u64 den then
   some (((0 : Int), (0 : Int), false))
  else
   Option.bind (math_bits_Div64 (IntKind.wrap IntKind.u64 (IntKind.wrap IntKind.u64 (IntKind.wrap IntKind.u64 (Int.fdiv (IntKind.wrap IntKind.u64 num) ((2 : Int) ^ min (32 : Nat) (IntKind.bits IntKind.u64)) * Int.fdiv (1048576 : Int) ((2 : Int) ^ min (32 : Nat) (IntKind.bits IntKind.u64))) + Int.fdiv (IntKind.wrap IntKind.u64 (IntKind.wrap IntKind.u64 (Int.fdiv (IntKind.wrap IntKind.u64 num) ((2 : Int) ^ min (32 : Nat) (IntKind.bits IntKind.u64)) * IntKind.wrap IntKind.u64 (↑(BitVec.toNat (BitVec.ofInt (IntKind.bits IntKind.u64) (1048576 : Int) &&& BitVec.ofInt (IntKind.bits IntKind.u64) (4294967295 : Int))) : Int)) + Int.fdiv (IntKind.wrap IntKind.u64 (IntKind.wrap IntKind.u64 (↑(BitVec.toNat (BitVec.ofInt (IntKind.bits IntKind.u64) (IntKind.wrap IntKind.u64 num) &&& BitVec.ofInt (IntKind.bits IntKind.u64) (4294967295 : Int))) : Int) * IntKind.wrap IntKind.u64 (↑(BitVec.toNat (BitVec.ofInt (IntKind.bits IntKind.u64) (1048576 : Int) &&& BitVec.ofInt (IntKind.bits IntKind.u64) (4294967295 : Int))) : Int))) ((2 : Int) ^ min (32 : Nat) (IntKind.bits IntKind.u64)))) ((2 : Int) ^ min (32 : Nat) (IntKind.bits IntKind.u64))) + Int.fdiv (IntKind.wrap IntKind.u64 (IntKind.wrap IntKind.u64 (↑(BitVec.toNat (BitVec.ofInt (IntKind.bits IntKind.u64) (IntKind.wrap IntKind.u64 (IntKind.wrap IntKind.u64 (Int.fdiv (IntKind.wrap IntKind.u64 num) ((2 : Int) ^ min (32 : Nat) (IntKind.bits IntKind.u64)) * IntKind.wrap IntKind.u64 (↑(BitVec.toNat (BitVec.ofInt (IntKind.bits IntKind.u64) (1048576 : Int) &&& BitVec.ofInt (IntKind.bits IntKind.u64) (4294967295 : Int))) : Int)) + Int.fdiv (IntKind.wrap IntKind.u64 (IntKind.wrap IntKind.u64 (↑(BitVec.toNat (BitVec.ofInt (IntKind.bits IntKind.u64) (IntKind.wrap IntKind.u64 num) &&& BitVec.ofInt (IntKind.bits IntKind.u64) (4294967295 : Int))) : Int) * IntKind.wrap IntKind.u64 (↑(BitVec.toNat (BitVec.ofInt (IntKind.bits IntKind.u64) (1048576 : Int) &&& BitVec.ofInt (IntKind.bits IntKind.u64) (4294967295 : Int))) : Int))) ((2 : Int) ^ min (32 : Nat) (IntKind.bits IntKind.u64)))) &&& BitVec.ofInt (IntKind.bits IntKind.u64) (4294967295 : Int))) : Int) + IntKind.wrap IntKind.u64 (IntKind.wrap IntKind.u64 (↑(BitVec.toNat (BitVec.ofInt (IntKind.bits IntKind.u64) (IntKind.wrap IntKind.u64 num) &&& BitVec.ofInt (IntKind.bits IntKind.u64) (4294967295 : Int))) : Int) * Int.fdiv (1048576 : Int) ((2 : Int) ^ min (32 : Nat) (IntKind.bits IntKind.u64))))) ((2 : Int) ^ min (32 : Nat) (IntKind.bits IntKind.u64)))) (IntKind.wrap IntKind.u64 (IntKind.wrap IntKind.u64 num * (1048576 : Int))) (IntKind.wrap IntKind.u64 den)) fun r1 =>
   if r1.1 > (1073741824 : Int) then
   some (((0 : Int), (0 : Int), false))
   else
   if r1.2 > (0 : Int) then
   some ((IntKind.wrap IntKind.i64 r1.1, IntKind.wrap IntKind.i64 (IntKind.wrap IntKind.i64 r1.1 + (1 : Int)), decide (IntKind.wrap IntKind.i64 (IntKind.wrap IntKind.i64 r1.1 + (1 : Int)) ≤ (1073741824 : Int))))
   else
   some ((IntKind.wrap IntKind.i64 r1.1, IntKind.wrap IntKind.i64 r1.1, decide (IntKind.wrap IntKind.i64 r1.1 ≤ (1073741824 : Int))))
def g_F_parts : List A → Option (Prop × List RV)
  | [.d (.i .i64 num), .d (.i .i64 den)] => some (ok (F_parts num den), [.s [.i .i64 ((val (F_parts num den)).1), .i .i64 ((val (F_parts num den)).2.1)], .d (.b ((val (F_parts num den)).2.2))])
  | _ => none
def k_F_parts : List (Option Cont) := [none, none]
abbrev sp_99 : Specs → Specs := addK 99 true (pureK k_F_parts g_F_parts)
set_option maxRecDepth 100000 in
theorem F_parts_vc (num : Int) (den : Int) (r : Int × Int × Bool) (h : Option.bind (F_parts num den) some = some r) : runF Try.f99 ((sp_118 (sp_128 sp0))) (fun _ _ _ => none) [.d (.i .i64 num), .d (.i .i64 den)] [.s [.i .i64 r.1, .i .i64 r.2.1], .d (.b r.2.2)] := by
  refine Eq.mp (by kernel_rfl : (
  (Ob (True) ∧
   (Ob (ok (math_bits_Mul64 (IntKind.wrap IntKind.u64 num) (1048576 : Int))) ∧
   (Ob (True) ∧
   Br (decide (IntKind.wrap IntKind.u64 (IntKind.wrap IntKind.u64 (IntKind.wrap IntKind.u64 (Int.fdiv (IntKind.wrap IntKind.u64 num) ((2 : Int) ^ min (32 : Nat) (IntKind.bits IntKind.u64)) * Int.fdiv (1048576 : Int) ((2 : Int) ^ min (32 : Nat) (IntKind.bits IntKind.u64))) + Int.fdiv (IntKind.wrap IntKind.u64 (IntKind.wrap IntKind.u64 (Int.fdiv (IntKind.wrap IntKind.u64 num) ((2 : Int) ^ min (32 : Nat) (IntKind.bits IntKind.u64)) * IntKind.wrap IntKind.u64 (↑(BitVec.toNat (BitVec.ofInt (IntKind.bits IntKind.u64) (1048576 : Int) &&& BitVec.ofInt (IntKind.bits IntKind.u64) (4294967295 : Int))) : Int)) + Int.fdiv (IntKind.wrap IntKind.u64 (IntKind.wrap IntKind.u64 (↑(BitVec.toNat (BitVec.ofInt (IntKind.bits IntKind.u64) (IntKind.wrap IntKind.u64 num) &&& BitVec.ofInt (IntKind.bits IntKind.u64) (4294967295 : Int))) : Int) * IntKind.wrap IntKind.u64 (↑(BitVec.toNat (BitVec.ofInt (IntKind.bits IntKind.u64) (1048576 : Int) &&& BitVec.ofInt (IntKind.bits IntKind.u64) (4294967295 : Int))) : Int))) ((2 : Int) ^ min (32 : Nat) (IntKind.bits IntKind.u64)))) ((2 : Int) ^ min (32 : Nat) (IntKind.bits IntKind.u64))) + Int.fdiv (IntKind.wrap IntKind.u64 (IntKind.wrap IntKind.u64 (↑(BitVec.toNat (BitVec.ofInt (IntKind.bits IntKind.u64) (IntKind.wrap IntKind.u64 (IntKind.wrap IntKind.u64 (Int.fdiv (IntKind.wrap IntKind.u64 num) ((2 : Int) ^ min (32 : Nat) (IntKind.bits IntKind.u64)) * IntKind.wrap IntKind.u64 (↑(BitVec.toNat (BitVec.ofInt (IntKind.bits IntKind.u64) (1048576 : Int) &&& BitVec.ofInt (IntKind.bits IntKind.u64) (4294967295 : Int))) : Int)) + Int.fdiv (IntKind.wrap IntKind.u64 (IntKind.wrap IntKind.u64 (↑(BitVec.toNat (BitVec.ofInt (IntKind.bits IntKind.u64) (IntKind.wrap IntKind.u64 num) &&& BitVec.ofInt (IntKind.bits IntKind.u64) (4294967295 : Int))) : Int) * IntKind.wrap IntKind.u64 (↑(BitVec.toNat (BitVec.ofInt (IntKind.bits IntKind.u64) (1048576 : Int) &&& BitVec.ofInt (IntKind.bits IntKind.u64) (4294967295 : Int))) : Int))) ((2 : Int) ^ min (32 : Nat) (IntKind.bits IntKind.u64)))) &&& BitVec.ofInt (IntKind.bits IntKind.u64) (4294967295 : Int))) : Int) + IntKind.wrap IntKind.u64 (IntKind.wrap IntKind.u64 (↑(BitVec.toNat (BitVec.ofInt (IntKind.bits IntKind.u64) (IntKind.wrap IntKind.u64 num) &&& BitVec.ofInt (IntKind.bits IntKind.u64) (4294967295 : Int))) : Int) * Int.fdiv (1048576 : Int) ((2 : Int) ^ min (32 : Nat) (IntKind.bits IntKind.u64))))) ((2 : Int) ^ min (32 : Nat) (IntKind.bits IntKind.u64))) ≥ IntKind.wrap IntKind.u64 den))
   ((Ob (True) ∧
   (Ob (True) ∧
   (Ob ((0 : Int) = r.1) ∧
   (Ob ((0 : Int) = r.2.1) ∧
   (Ob (false = r.2.2) ∧
   True))))))
   ((Ob (True) ∧
   (Ob (ok (math_bits_Div64 (IntKind.wrap IntKind.u64 (IntKind.wrap IntKind.u64 (IntKind.wrap IntKind.u64 (Int.fdiv (IntKind.wrap IntKind.u64 num) ((2 : Int) ^ min (32 : Nat) (IntKind.bits IntKind.u64)) * Int.fdiv (1048576 : Int) ((2 : Int) ^ min (32 : Nat) (IntKind.bits IntKind.u64))) + Int.fdiv (IntKind.wrap IntKind.u64 (IntKind.wrap IntKind.u64 (Int.fdiv (IntKind.wrap IntKind.u64 num) ((2 : Int) ^ min (32 : Nat) (IntKind.bits IntKind.u64)) * IntKind.wrap IntKind.u64 (↑(BitVec.toNat (BitVec.ofInt (IntKind.bits IntKind.u64) (1048576 : Int) &&& BitVec.ofInt (IntKind.bits IntKind.u64) (4294967295 : Int))) : Int)) + Int.fdiv (IntKind.wrap IntKind.u64 (IntKind.wrap IntKind.u64 (↑(BitVec.toNat (BitVec.ofInt (IntKind.bits IntKind.u64) (IntKind.wrap IntKind.u64 num) &&& BitVec.ofInt (IntKind.bits IntKind.u64) (4294967295 : Int))) : Int) * IntKind.wrap IntKind.u64 (↑(BitVec.toNat (BitVec.ofInt (IntKind.bits IntKind.u64) (1048576 : Int) &&& BitVec.ofInt (IntKind.bits IntKind.u64) (4294967295 : Int))) : Int))) ((2 : Int) ^ min (32 : Nat) (IntKind.bits IntKind.u64)))) ((2 : Int) ^ min (32 : Nat) (IntKind.bits IntKind.u64))) + Int.fdiv (IntKind.wrap IntKind.u64 (IntKind.wrap IntKind.u64 (↑(BitVec.toNat (BitVec.ofInt (IntKind.bits IntKind.u64) (IntKind.wrap IntKind.u64 (IntKind.wrap IntKind.u64 (Int.fdiv (IntKind.wrap IntKind.u64 num) ((2 : Int) ^ min (32 : Nat) (IntKind.bits IntKind.u64)) * IntKind.wrap IntKind.u64 (↑(BitVec.toNat (BitVec.ofInt (IntKind.bits IntKind.u64) (1048576 : Int) &&& BitVec.ofInt (IntKind.bits IntKind.u64) (4294967295 : Int))) : Int)) + Int.fdiv (IntKind.wrap IntKind.u64 (IntKind.wrap IntKind.u64 (↑(BitVec.toNat (BitVec.ofInt (IntKind.bits IntKind.u64) (IntKind.wrap IntKind.u64 num) &&& BitVec.ofInt (IntKind.bits IntKind.u64) (4294967295 : Int))) : Int) * IntKind.wrap IntKind.u64 (↑(BitVec.toNat (BitVec.ofInt (IntKind.bits IntKind.u64) (1048576 : Int) &&& BitVec.ofInt (IntKind.bits IntKind.u64) (4294967295 : Int))) : Int))) ((2 : Int) ^ min (32 : Nat) (IntKind.bits IntKind.u64)))) &&& BitVec.ofInt (IntKind.bits IntKind.u64) (4294967295 : Int))) : Int) + IntKind.wrap IntKind.u64 (IntKind.wrap IntKind.u64 (↑(BitVec.toNat (BitVec.ofInt (IntKind.bits IntKind.u64) (IntKind.wrap IntKind.u64 num) &&& BitVec.ofInt (IntKind.bits IntKind.u64) (4294967295 : Int))) : Int) * Int.fdiv (1048576 : Int) ((2 : Int) ^ min (32 : Nat) (IntKind.bits IntKind.u64))))) ((2 : Int) ^ min (32 : Nat) (IntKind.bits IntKind.u64)))) (IntKind.wrap IntKind.u64 (IntKind.wrap IntKind.u64 num * (1048576 : Int))) (IntKind.wrap IntKind.u64 den))) ∧
   Br (decide ((val (math_bits_Div64 (IntKind.wrap IntKind.u64 (IntKind.wrap IntKind.u64 (IntKind.wrap IntKind.u64 (Int.fdiv (IntKind.wrap IntKind.u64 num) ((2 : Int) ^ min (32 : Nat) (IntKind.bits IntKind.u64)) * Int.fdiv (1048576 : Int) ((2 : Int) ^ min (32 : Nat) (IntKind.bits IntKind.u64))) + Int.fdiv (IntKind.wrap IntKind.u64 (IntKind.wrap IntKind.u64 (Int.fdiv (IntKind.wrap IntKind.u64 num) ((2 : Int) ^ min (32 : Nat) (IntKind.bits IntKind.u64)) * IntKind.wrap IntKind.u64 (↑(BitVec.toNat (BitVec.ofInt (IntKind.bits IntKind.u64) (1048576 : Int) &&& BitVec.ofInt (IntKind.bits IntKind.u64) (4294967295 : Int))) : Int)) + Int.fdiv (IntKind.wrap IntKind.u64 (IntKind.wrap IntKind.u64 (↑(BitVec.toNat (BitVec.ofInt (IntKind.bits IntKind.u64) (IntKind.wrap IntKind.u64 num) &&& BitVec.ofInt (IntKind.bits IntKind.u64) (4294967295 : Int))) : Int) * IntKind.wrap IntKind.u64 (↑(BitVec.toNat (BitVec.ofInt (IntKind.bits IntKind.u64) (1048576 : Int) &&& BitVec.ofInt (IntKind.bits IntKind.u64) (4294967295 : Int))) : Int))) ((2 : Int) ^ min (32 : Nat) (IntKind.bits IntKind.u64)))) ((2 : Int) ^ min (32 : Nat) (IntKind.bits IntKind.u64))) + Int.fdiv (IntKind.wrap IntKind.u64 (IntKind.wrap IntKind.u64 (↑(BitVec.toNat (BitVec.ofInt (IntKind.bits IntKind.u64) (IntKind.wrap IntKind.u64 (IntKind.wrap IntKind.u64 (Int.fdiv (IntKind.wrap IntKind.u64 num) ((2 : Int) ^ min (32 : Nat) (IntKind.bits IntKind.u64)) * IntKind.wrap IntKind.u64 (↑(BitVec.toNat (BitVec.ofInt (IntKind.bits IntKind.u64) (1048576 : Int) &&& BitVec.ofInt (IntKind.bits IntKind.u64) (4294967295 : Int))) : Int)) + Int.fdiv (IntKind.wrap IntKind.u64 (IntKind.wrap IntKind.u64 (↑(BitVec.toNat (BitVec.ofInt (IntKind.bits IntKind.u64) (IntKind.wrap IntKind.u64 num) &&& BitVec.ofInt (IntKind.bits IntKind.u64) (4294967295 : Int))) : Int) * IntKind.wrap IntKind.u64 (↑(BitVec.toNat (BitVec.ofInt (IntKind.bits IntKind.u64) (1048576 : Int) &&& BitVec.ofInt (IntKind.bits IntKind.u64) (4294967295 : Int))) : Int))) ((2 : Int) ^ min (32 : Nat) (IntKind.bits IntKind.u64)))) &&& BitVec.ofInt (IntKind.bits IntKind.u64) (4294967295 : Int))) : Int) + IntKind.wrap IntKind.u64 (IntKind.wrap IntKind.u64 (↑(BitVec.toNat (BitVec.ofInt (IntKind.bits IntKind.u64) (IntKind.wrap IntKind.u64 num) &&& BitVec.ofInt (IntKind.bits IntKind.u64) (4294967295 : Int))) : Int) * Int.fdiv (1048576 : Int) ((2 : Int) ^ min (32 : Nat) (IntKind.bits IntKind.u64))))) ((2 : Int) ^ min (32 : Nat) (IntKind.bits IntKind.u64)))) (IntKind.wrap IntKind.u64 (IntKind.wrap IntKind.u64 num * (1048576 : Int))) (IntKind.wrap IntKind.u64 den))).1 > (1073741824 : Int)))
   ((Ob (True) ∧
   (Ob (True) ∧
   (Ob ((0 : Int) = r.1) ∧
   (Ob ((0 : Int) = r.2.1) ∧
   (Ob (false = r.2.2) ∧
   True))))))
   ((Ob (True) ∧
   (Ob (True) ∧
   Br (decide ((val (math_bits_Div64 (IntKind.wrap IntKind.u64 (IntKind.wrap IntKind.u64 (IntKind.wrap IntKind.u64 (Int.fdiv (IntKind.wrap IntKind.u64 num) ((2 : Int) ^ min (32 : Nat) (IntKind.bits IntKind.u64)) * Int.fdiv (1048576 : Int) ((2 : Int) ^ min (32 : Nat) (IntKind.bits IntKind.u64))) + Int.fdiv (IntKind.wrap IntKind.u64 (IntKind.wrap IntKind.u64 (Int.fdiv (IntKind.wrap IntKind.u64 num) ((2 : Int) ^ min (32 : Nat) (IntKind.bits IntKind.u64)) * IntKind.wrap IntKind.u64 (↑(BitVec.toNat (BitVec.ofInt (IntKind.bits IntKind.u64) (1048576 : Int) &&& BitVec.ofInt (IntKind.bits IntKind.u64) (4294967295 : Int))) : Int)) + Int.fdiv (IntKind.wrap IntKind.u64 (IntKind.wrap IntKind.u64 (↑(BitVec.toNat (BitVec.ofInt (IntKind.bits IntKind.u64) (IntKind.wrap IntKind.u64 num) &&& BitVec.ofInt (IntKind.bits IntKind.u64) (4294967295 : Int))) : Int) * IntKind.wrap IntKind.u64 (↑(BitVec.toNat (BitVec.ofInt (IntKind.bits IntKind.u64) (1048576 : Int) &&& BitVec.ofInt (IntKind.bits IntKind.u64) (4294967295 : Int))) : Int))) ((2 : Int) ^ min (32 : Nat) (IntKind.bits IntKind.u64)))) ((2 : Int) ^ min (32 : Nat) (IntKind.bits IntKind.u64))) + Int.fdiv (IntKind.wrap IntKind.u64 (IntKind.wrap IntKind.u64 (↑(BitVec.toNat (BitVec.ofInt (IntKind.bits IntKind.u64) (IntKind.wrap IntKind.u64 (IntKind.wrap IntKind.u64 (Int.fdiv (IntKind.wrap IntKind.u64 num) ((2 : Int) ^ min (32 : Nat) (IntKind.bits IntKind.u64)) * IntKind.wrap IntKind.u64 (↑(BitVec.toNat (BitVec.ofInt (IntKind.bits IntKind.u64) (1048576 : Int) &&& BitVec.ofInt (IntKind.bits IntKind.u64) (4294967295 : Int))) : Int)) + Int.fdiv (IntKind.wrap IntKind.u64 (IntKind.wrap IntKind.u64 (↑(BitVec.toNat (BitVec.ofInt (IntKind.bits IntKind.u64) (IntKind.wrap IntKind.u64 num) &&& BitVec.ofInt (IntKind.bits IntKind.u64) (4294967295 : Int))) : Int) * IntKind.wrap IntKind.u64 (↑(BitVec.toNat (BitVec.ofInt (IntKind.bits IntKind.u64) (1048576 : Int) &&& BitVec.ofInt (IntKind.bits IntKind.u64) (4294967295 : Int))) : Int))) ((2 : Int) ^ min (32 : Nat) (IntKind.bits IntKind.u64)))) &&& BitVec.ofInt (IntKind.bits IntKind.u64) (4294967295 : Int))) : Int) + IntKind.wrap IntKind.u64 (IntKind.wrap IntKind.u64 (↑(BitVec.toNat (BitVec.ofInt (IntKind.bits IntKind.u64) (IntKind.wrap IntKind.u64 num) &&& BitVec.ofInt (IntKind.bits IntKind.u64) (4294967295 : Int))) : Int) * Int.fdiv (1048576 : Int) ((2 : Int) ^ min (32 : Nat) (IntKind.bits IntKind.u64))))) ((2 : Int) ^ min (32 : Nat) (IntKind.bits IntKind.u64)))) (IntKind.wrap IntKind.u64 (IntKind.wrap IntKind.u64 num * (1048576 : Int))) (IntKind.wrap IntKind.u64 den))).2 > (0 : Int)))
   ((Ob (True) ∧
   (Ob (True) ∧
   (Ob (IntKind.wrap IntKind.i64 (val (math_bits_Div64 (IntKind.wrap IntKind.u64 (IntKind.wrap IntKind.u64 (IntKind.wrap IntKind.u64 (Int.fdiv (IntKind.wrap IntKind.u64 num) ((2 : Int) ^ min (32 : Nat) (IntKind.bits IntKind.u64)) * Int.fdiv (1048576 : Int) ((2 : Int) ^ min (32 : Nat) (IntKind.bits IntKind.u64))) + Int.fdiv (IntKind.wrap IntKind.u64 (IntKind.wrap IntKind.u64 (Int.fdiv (IntKind.wrap IntKind.u64 num) ((2 : Int) ^ min (32 : Nat) (IntKind.bits IntKind.u64)) * IntKind.wrap IntKind.u64 (↑(BitVec.toNat (BitVec.ofInt (IntKind.bits IntKind.u64) (1048576 : Int) &&& BitVec.ofInt (IntKind.bits IntKind.u64) (4294967295 : Int))) : Int)) + Int.fdiv (IntKind.wrap IntKind.u64 (IntKind.wrap IntKind.u64 (↑(BitVec.toNat (BitVec.ofInt (IntKind.bits IntKind.u64) (IntKind.wrap IntKind.u64 num) &&& BitVec.ofInt (IntKind.bits IntKind.u64) (4294967295 : Int))) : Int) * IntKind.wrap IntKind.u64 (↑(BitVec.toNat (BitVec.ofInt (IntKind.bits IntKind.u64) (1048576 : Int) &&& BitVec.ofInt (IntKind.bits IntKind.u64) (4294967295 : Int))) : Int))) ((2 : Int) ^ min (32 : Nat) (IntKind.bits IntKind.u64)))) ((2 : Int) ^ min (32 : Nat) (IntKind.bits IntKind.u64))) + Int.fdiv (IntKind.wrap IntKind.u64 (IntKind.wrap IntKind.u64 (↑(BitVec.toNat (BitVec.ofInt (IntKind.bits IntKind.u64) (IntKind.wrap IntKind.u64 (IntKind.wrap IntKind.u64 (Int.fdiv (IntKind.wrap IntKind.u64 num) ((2 : Int) ^ min (32 : Nat) (IntKind.bits IntKind.u64)) * IntKind.wrap IntKind.u64 (↑(BitVec.toNat (BitVec.ofInt (IntKind.bits IntKind.u64) (1048576 : Int) &&& BitVec.ofInt (IntKind.bits IntKind.u64) (4294967295 : Int))) : Int)) + Int.fdiv (IntKind.wrap IntKind.u64 (IntKind.wrap IntKind.u64 (↑(BitVec.toNat (BitVec.ofInt (IntKind.bits IntKind.u64) (IntKind.wrap IntKind.u64 num) &&& BitVec.ofInt (IntKind.bits IntKind.u64) (4294967295 : Int))) : Int) * IntKind.wrap IntKind.u64 (↑(BitVec.toNat (BitVec.ofInt (IntKind.bits IntKind.u64) (1048576 : Int) &&& BitVec.ofInt (IntKind.bits IntKind.u64) (4294967295 : Int))) : Int))) ((2 : Int) ^ min (32 : Nat) (IntKind.bits IntKind.u64)))) &&& BitVec.ofInt (IntKind.bits IntKind.u64) (4294967295 : Int))) : Int) + IntKind.wrap IntKind.u64 (IntKind.wrap IntKind.u64 (↑(BitVec.toNat (BitVec.ofInt (IntKind.bits IntKind.u64) (IntKind.wrap IntKind.u64 num) &&& BitVec.ofInt (IntKind.bits IntKind.u64) (4294967295 : Int))) : Int) * Int.fdiv (1048576 : Int) ((2 : Int) ^ min (32 : Nat) (IntKind.bits IntKind.u64))))) ((2 : Int) ^ min (32 : Nat) (IntKind.bits IntKind.u64)))) (IntKind.wrap IntKind.u64 (IntKind.wrap IntKind.u64 num * (1048576 : Int))) (IntKind.wrap IntKind.u64 den))).1 = r.1) ∧
   (Ob (IntKind.wrap IntKind.i64 (IntKind.wrap IntKind.i64 (val (math_bits_Div64 (IntKind.wrap IntKind.u64 (IntKind.wrap IntKind.u64 (IntKind.wrap IntKind.u64 (Int.fdiv (IntKind.wrap IntKind.u64 num) ((2 : Int) ^ min (32 : Nat) (IntKind.bits IntKind.u64)) * Int.fdiv (1048576 : Int) ((2 : Int) ^ min (32 : Nat) (IntKind.bits IntKind.u64))) + Int.fdiv (IntKind.wrap IntKind.u64 (IntKind.wrap IntKind.u64 (Int.fdiv (IntKind.wrap IntKind.u64 num) ((2 : Int) ^ min (32 : Nat) (IntKind.bits IntKind.u64)) * IntKind.wrap IntKind.u64 (↑(BitVec.toNat (BitVec.ofInt (IntKind.bits IntKind.u64) (1048576 : Int) &&& BitVec.ofInt (IntKind.bits IntKind.u64) (4294967295 : Int))) : Int)) + Int.fdiv (IntKind.wrap IntKind.u64 (IntKind.wrap IntKind.u64 (↑(BitVec.toNat (BitVec.ofInt (IntKind.bits IntKind.u64) (IntKind.wrap IntKind.u64 num) &&& BitVec.ofInt (IntKind.bits IntKind.u64) (4294967295 : Int))) : Int) * IntKind.wrap IntKind.u64 (↑(BitVec.toNat (BitVec.ofInt (IntKind.bits IntKind.u64) (1048576 : Int) &&& BitVec.ofInt (IntKind.bits IntKind.u64) (4294967295 : Int))) : Int))) ((2 : Int) ^ min (32 : Nat) (IntKind.bits IntKind.u64)))) ((2 : Int) ^ min (32 : Nat) (IntKind.bits IntKind.u64))) + Int.fdiv (IntKind.wrap IntKind.u64 (IntKind.wrap IntKind.u64 (↑(BitVec.toNat (BitVec.ofInt (IntKind.bits IntKind.u64) (IntKind.wrap IntKind.u64 (IntKind.wrap IntKind.u64 (Int.fdiv (IntKind.wrap IntKind.u64 num) ((2 : Int) ^ min (32 : Nat) (IntKind.bits IntKind.u64)) * IntKind.wrap IntKind.u64 (↑(BitVec.toNat (BitVec.ofInt (IntKind.bits IntKind.u64) (1048576 : Int) &&& BitVec.ofInt (IntKind.bits IntKind.u64) (4294967295 : Int))) : Int)) + Int.fdiv (IntKind.wrap IntKind.u64 (IntKind.wrap IntKind.u64 (↑(BitVec.toNat (BitVec.ofInt (IntKind.bits IntKind.u64) (IntKind.wrap IntKind.u64 num) &&& BitVec.ofInt (IntKind.bits IntKind.u64) (4294967295 : Int))) : Int) * IntKind.wrap IntKind.u64 (↑(BitVec.toNat (BitVec.ofInt (IntKind.bits IntKind.u64) (1048576 : Int) &&& BitVec.ofInt (IntKind.bits IntKind.u64) (4294967295 : Int))) : Int))) ((2 : Int) ^ min (32 : Nat) (IntKind.bits IntKind.u64)))) &&& BitVec.ofInt (IntKind.bits IntKind.u64) (4294967295 : Int))) : Int) + IntKind.wrap IntKind.u64 (IntKind.wrap IntKind.u64 (↑(BitVec.toNat (BitVec.ofInt (IntKind.bits IntKind.u64) (IntKind.wrap IntKind.u64 num) &&& BitVec.ofInt (IntKind.bits IntKind.u64) (4294967295 : Int))) : Int) * Int.fdiv (1048576 : Int) ((2 : Int) ^ min (32 : Nat) (IntKind.bits IntKind.u64))))) ((2 : Int) ^ min (32 : Nat) (IntKind.bits IntKind.u64)))) (IntKind.wrap IntKind.u64 (IntKind.wrap IntKind.u64 num * (1048576 : Int))) (IntKind.wrap IntKind.u64 den))).1 + (1 : Int)) = r.2.1) ∧
   (Ob (decide (IntKind.wrap IntKind.i64 (IntKind.wrap IntKind.i64 (val (math_bits_Div64 (IntKind.wrap IntKind.u64 (IntKind.wrap IntKind.u64 (IntKind.wrap IntKind.u64 (Int.fdiv (IntKind.wrap IntKind.u64 num) ((2 : Int) ^ min (32 : Nat) (IntKind.bits IntKind.u64)) * Int.fdiv (1048576 : Int) ((2 : Int) ^ min (32 : Nat) (IntKind.bits IntKind.u64))) + Int.fdiv (IntKind.wrap IntKind.u64 (IntKind.wrap IntKind.u64 (Int.fdiv (IntKind.wrap IntKind.u64 num) ((2 : Int) ^ min (32 : Nat) (IntKind.bits IntKind.u64)) * IntKind.wrap IntKind.u64 (↑(BitVec.toNat (BitVec.ofInt (IntKind.bits IntKind.u64) (1048576 : Int) &&& BitVec.ofInt (IntKind.bits IntKind.u64) (4294967295 : Int))) : Int)) + Int.fdiv (IntKind.wrap IntKind.u64 (IntKind.wrap IntKind.u64 (↑(BitVec.toNat (BitVec.ofInt (IntKind.bits IntKind.u64) (IntKind.wrap IntKind.u64 num) &&& BitVec.ofInt (IntKind.bits IntKind.u64) (4294967295 : Int))) : Int) * IntKind.wrap IntKind.u64 (↑(BitVec.toNat (BitVec.ofInt (IntKind.bits IntKind.u64) (1048576 : Int) &&& BitVec.ofInt (IntKind.bits IntKind.u64) (4294967295 : Int))) : Int))) ((2 : Int) ^ min (32 : Nat) (IntKind.bits IntKind.u64)))) ((2 : Int) ^ min (32 : Nat) (IntKind.bits IntKind.u64))) + Int.fdiv (IntKind.wrap IntKind.u64 (IntKind.wrap IntKind.u64 (↑(BitVec.toNat (BitVec.ofInt (IntKind.bits IntKind.u64) (IntKind.wrap IntKind.u64 (IntKind.wrap IntKind.u64 (Int.fdiv (IntKind.wrap IntKind.u64 num) ((2 : Int) ^ min (32 : Nat) (IntKind.bits IntKind.u64)) * IntKind.wrap IntKind.u64 (↑(BitVec.toNat (BitVec.ofInt (IntKind.bits IntKind.u64) (1048576 : Int) &&& BitVec.ofInt (IntKind.bits IntKind.u64) (4294967295 : Int))) : Int)) + Int.fdiv (IntKind.wrap IntKind.u64 (IntKind.wrap IntKind.u64 (↑(BitVec.toNat (BitVec.ofInt (IntKind.bits IntKind.u64) (IntKind.wrap IntKind.u64 num) &&& BitVec.ofInt (IntKind.bits IntKind.u64) (4294967295 : Int))) : Int) * IntKind.wrap IntKind.u64 (↑(BitVec.toNat (BitVec.ofInt (IntKind.bits IntKind.u64) (1048576 : Int) &&& BitVec.ofInt (IntKind.bits IntKind.u64) (4294967295 : Int))) : Int))) ((2 : Int) ^ min (32 : Nat) (IntKind.bits IntKind.u64)))) &&& BitVec.ofInt (IntKind.bits IntKind.u64) (4294967295 : Int))) : Int) + IntKind.wrap IntKind.u64 (IntKind.wrap IntKind.u64 (↑(BitVec.toNat (BitVec.ofInt (IntKind.bits IntKind.u64) (IntKind.wrap IntKind.u64 num) &&& BitVec.ofInt (IntKind.bits IntKind.u64) (4294967295 : Int))) : Int) * Int.fdiv (1048576 : Int) ((2 : Int) ^ min (32 : Nat) (IntKind.bits IntKind.u64))))) ((2 : Int) ^ min (32 : Nat) (IntKind.bits IntKind.u64)))) (IntKind.wrap IntKind.u64 (IntKind.wrap IntKind.u64 num * (1048576 : Int))) (IntKind.wrap IntKind.u64 den))).1 + (1 : Int)) ≤ (1073741824 : Int)) = r.2.2) ∧
   True))))))
   ((Ob (True) ∧
   (Ob (True) ∧
   (Ob (IntKind.wrap IntKind.i64 (val (math_bits_Div64 (IntKind.wrap IntKind.u64 (IntKind.wrap IntKind.u64 (IntKind.wrap IntKind.u64 (Int.fdiv (IntKind.wrap IntKind.u64 num) ((2 : Int) ^ min (32 : Nat) (IntKind.bits IntKind.u64)) * Int.fdiv (1048576 : Int) ((2 : Int) ^ min (32 : Nat) (IntKind.bits IntKind.u64))) + Int.fdiv (IntKind.wrap IntKind.u64 (IntKind.wrap IntKind.u64 (Int.fdiv (IntKind.wrap IntKind.u64 num) ((2 : Int) ^ min (32 : Nat) (IntKind.bits IntKind.u64)) * IntKind.wrap IntKind.u64 (↑(BitVec.toNat (BitVec.ofInt (IntKind.bits IntKind.u64) (1048576 : Int) &&& BitVec.ofInt (IntKind.bits IntKind.u64) (4294967295 : Int))) : Int)) + Int.fdiv (IntKind.wrap IntKind.u64 (IntKind.wrap IntKind.u64 (↑(BitVec.toNat (BitVec.ofInt (IntKind.bits IntKind.u64) (IntKind.wrap IntKind.u64 num) &&& BitVec.ofInt (IntKind.bits IntKind.u64) (4294967295 : Int))) : Int) * IntKind.wrap IntKind.u64 (↑(BitVec.toNat (BitVec.ofInt (IntKind.bits IntKind.u64) (1048576 : Int) &&& BitVec.ofInt (IntKind.bits IntKind.u64) (4294967295 : Int))) : Int))) ((2 : Int) ^ min (32 : Nat) (IntKind.bits IntKind.u64)))) ((2 : Int) ^ min (32 : Nat) (IntKind.bits IntKind.u64))) + Int.fdiv (IntKind.wrap IntKind.u64 (IntKind.wrap IntKind.u64 (↑(BitVec.toNat (BitVec.ofInt (IntKind.bits IntKind.u64) (IntKind.wrap IntKind.u64 (IntKind.wrap IntKind.u64 (Int.fdiv (IntKind.wrap IntKind.u64 num) ((2 : Int) ^ min (32 : Nat) (IntKind.bits IntKind.u64)) * IntKind.wrap IntKind.u64 (↑(BitVec.toNat (BitVec.ofInt (IntKind.bits IntKind.u64) (1048576 : Int) &&& BitVec.ofInt (IntKind.bits IntKind.u64) (4294967295 : Int))) : Int)) + Int.fdiv (IntKind.wrap IntKind.u64 (IntKind.wrap IntKind.u64 (↑(BitVec.toNat (BitVec.ofInt (IntKind.bits IntKind.u64) (IntKind.wrap IntKind.u64 num) &&& BitVec.ofInt (IntKind.bits IntKind.u64) (4294967295 : Int))) : Int) * IntKind.wrap IntKind.u64 (↑(BitVec.toNat (BitVec.ofInt (IntKind.bits IntKind.u64) (1048576 : Int) &&& BitVec.ofInt (IntKind.bits IntKind.u64) (4294967295 : Int))) : Int))) ((2 : Int) ^ min (32 : Nat) (IntKind.bits IntKind.u64)))) &&& BitVec.ofInt (IntKind.bits IntKind.u64) (4294967295 : Int))) : Int) + IntKind.wrap IntKind.u64 (IntKind.wrap IntKind.u64 (↑(BitVec.toNat (BitVec.ofInt (IntKind.bits IntKind.u64) (IntKind.wrap IntKind.u64 num) &&& BitVec.ofInt (IntKind.bits IntKind.u64) (4294967295 : Int))) : Int) * Int.fdiv (1048576 : Int) ((2 : Int) ^ min (32 : Nat) (IntKind.bits IntKind.u64))))) ((2 : Int) ^ min (32 : Nat) (IntKind.bits IntKind.u64)))) (IntKind.wrap IntKind.u64 (IntKind.wrap IntKind.u64 num * (1048576 : Int))) (IntKind.wrap IntKind.u64 den))).1 = r.1) ∧
   (Ob (IntKind.wrap IntKind.i64 (val (math_bits_Div64 (IntKind.wrap IntKind.u64 (IntKind.wrap IntKind.u64 (IntKind.wrap IntKind.u64 (Int.fdiv (IntKind.wrap IntKind.u64 num) ((2 : Int) ^ min (32 : Nat) (IntKind.bits IntKind.u64)) * Int.fdiv (1048576 : Int) ((2 : Int) ^ min (32 : Nat) (IntKind.bits IntKind.u64))) + Int.fdiv (IntKind.wrap IntKind.u64 (IntKind.wrap IntKind.u64 (Int.fdiv (IntKind.wrap IntKind.u64 num) ((2 : Int) ^ min (32 : Nat) (IntKind.bits IntKind.u64)) * IntKind.wrap IntKind.u64 (↑(BitVec.toNat (BitVec.ofInt (IntKind.bits IntKind.u64) (1048576 : Int) &&& BitVec.ofInt (IntKind.bits IntKind.u64) (4294967295 : Int))) : Int)) + Int.fdiv (IntKind.wrap IntKind.u64 (IntKind.wrap IntKind.u64 (↑(BitVec.toNat (BitVec.ofInt (IntKind.bits IntKind.u64) (IntKind.wrap IntKind.u64 num) &&& BitVec.ofInt (IntKind.bits IntKind.u64) (4294967295 : Int))) : Int) * IntKind.wrap IntKind.u64 (↑(BitVec.toNat (BitVec.ofInt (IntKind.bits IntKind.u64) (1048576 : Int) &&& BitVec.ofInt (IntKind.bits IntKind.u64) (4294967295 : Int))) : Int))) ((2 : Int) ^ min (32 : Nat) (IntKind.bits IntKind.u64)))) ((2 : Int) ^ min (32 : Nat) (IntKind.bits IntKind.u64))) + Int.fdiv (IntKind.wrap IntKind.u64 (IntKind.wrap IntKind.u64 (↑(BitVec.toNat (BitVec.ofInt (IntKind.bits IntKind.u64) (IntKind.wrap IntKind.u64 (IntKind.wrap IntKind.u64 (Int.fdiv (IntKind.wrap IntKind.u64 num) ((2 : Int) ^ min (32 : Nat) (IntKind.bits IntKind.u64)) * IntKind.wrap IntKind.u64 (↑(BitVec.toNat (BitVec.ofInt (IntKind.bits IntKind.u64) (1048576 : Int) &&& BitVec.ofInt (IntKind.bits IntKind.u64) (4294967295 : Int))) : Int)) + Int.fdiv (IntKind.wrap IntKind.u64 (IntKind.wrap IntKind.u64 (↑(BitVec.toNat (BitVec.ofInt (IntKind.bits IntKind.u64) (IntKind.wrap IntKind.u64 num) &&& BitVec.ofInt (IntKind.bits IntKind.u64) (4294967295 : Int))) : Int) * IntKind.wrap IntKind.u64 (↑(BitVec.toNat (BitVec.ofInt (IntKind.bits IntKind.u64) (1048576 : Int) &&& BitVec.ofInt (IntKind.bits IntKind.u64) (4294967295 : Int))) : Int))) ((2 : Int) ^ min (32 : Nat) (IntKind.bits IntKind.u64)))) &&& BitVec.ofInt (IntKind.bits IntKind.u64) (4294967295 : Int))) : Int) + IntKind.wrap IntKind.u64 (IntKind.wrap IntKind.u64 (↑(BitVec.toNat (BitVec.ofInt (IntKind.bits IntKind.u64) (IntKind.wrap IntKind.u64 num) &&& BitVec.ofInt (IntKind.bits IntKind.u64) (4294967295 : Int))) : Int) * Int.fdiv (1048576 : Int) ((2 : Int) ^ min (32 : Nat) (IntKind.bits IntKind.u64))))) ((2 : Int) ^ min (32 : Nat) (IntKind.bits IntKind.u64)))) (IntKind.wrap IntKind.u64 (IntKind.wrap IntKind.u64 num * (1048576 : Int))) (IntKind.wrap IntKind.u64 den))).1 = r.2.1) ∧
   (Ob (decide (IntKind.wrap IntKind.i64 (val (math_bits_Div64 (IntKind.wrap IntKind.u64 (IntKind.wrap IntKind.u64 (IntKind.wrap IntKind.u64 (Int.fdiv (IntKind.wrap IntKind.u64 num) ((2 : Int) ^ min (32 : Nat) (IntKind.bits IntKind.u64)) * Int.fdiv (1048576 : Int) ((2 : Int) ^ min (32 : Nat) (IntKind.bits IntKind.u64))) + Int.fdiv (IntKind.wrap IntKind.u64 (IntKind.wrap IntKind.u64 (Int.fdiv (IntKind.wrap IntKind.u64 num) ((2 : Int) ^ min (32 : Nat) (IntKind.bits IntKind.u64)) * IntKind.wrap IntKind.u64 (↑(BitVec.toNat (BitVec.ofInt (IntKind.bits IntKind.u64) (1048576 : Int) &&& BitVec.ofInt (IntKind.bits IntKind.u64) (4294967295 : Int))) : Int)) + Int.fdiv (IntKind.wrap IntKind.u64 (IntKind.wrap IntKind.u64 (↑(BitVec.toNat (BitVec.ofInt (IntKind.bits IntKind.u64) (IntKind.wrap IntKind.u64 num) &&& BitVec.ofInt (IntKind.bits IntKind.u64) (4294967295 : Int))) : Int) * IntKind.wrap IntKind.u64 (↑(BitVec.toNat (BitVec.ofInt (IntKind.bits IntKind.u64) (1048576 : Int) &&& BitVec.ofInt (IntKind.bits IntKind.u64) (4294967295 : Int))) : Int))) ((2 : Int) ^ min (32 : Nat) (IntKind.bits IntKind.u64)))) ((2 : Int) ^ min (32 : Nat) (IntKind.bits IntKind.u64))) + Int.fdiv (IntKind.wrap IntKind.u64 (IntKind.wrap IntKind.u64 (↑(BitVec.toNat (BitVec.ofInt (IntKind.bits IntKind.u64) (IntKind.wrap IntKind.u64 (IntKind.wrap IntKind.u64 (Int.fdiv (IntKind.wrap IntKind.u64 num) ((2 : Int) ^ min (32 : Nat) (IntKind.bits IntKind.u64)) * IntKind.wrap IntKind.u64 (↑(BitVec.toNat (BitVec.ofInt (IntKind.bits IntKind.u64) (1048576 : Int) &&& BitVec.ofInt (IntKind.bits IntKind.u64) (4294967295 : Int))) : Int)) + Int.fdiv (IntKind.wrap IntKind.u64 (IntKind.wrap IntKind.u64 (↑(BitVec.toNat (BitVec.ofInt (IntKind.bits IntKind.u64) (IntKind.wrap IntKind.u64 num) &&& BitVec.ofInt (IntKind.bits IntKind.u64) (4294967295 : Int))) : Int) * IntKind.wrap IntKind.u64 (↑(BitVec.toNat (BitVec.ofInt (IntKind.bits IntKind.u64) (1048576 : Int) &&& BitVec.ofInt (IntKind.bits IntKind.u64) (4294967295 : Int))) : Int))) ((2 : Int) ^ min (32 : Nat) (IntKind.bits IntKind.u64)))) &&& BitVec.ofInt (IntKind.bits IntKind.u64) (4294967295 : Int))) : Int) + IntKind.wrap IntKind.u64 (IntKind.wrap IntKind.u64 (↑(BitVec.toNat (BitVec.ofInt (IntKind.bits IntKind.u64) (IntKind.wrap IntKind.u64 num) &&& BitVec.ofInt (IntKind.bits IntKind.u64) (4294967295 : Int))) : Int) * Int.fdiv (1048576 : Int) ((2 : Int) ^ min (32 : Nat) (IntKind.bits IntKind.u64))))) ((2 : Int) ^ min (32 : Nat) (IntKind.bits IntKind.u64)))) (IntKind.wrap IntKind.u64 (IntKind.wrap IntKind.u64 num * (1048576 : Int))) (IntKind.wrap IntKind.u64 den))).1 ≤ (1073741824 : Int)) = r.2.2) ∧
   True)))))))))))))))) = _) ?_
  refine ob_t ?_
  refine call_s h fun h => ?_
  refine ob_t ?_
  refine br_d h (fun h => ?_) (fun h => ?_)
  · refine ob_t ?_
    refine ob_t ?_
    exact ret_s h (fun e => by subst e; exact (by repeat' (first | exact trivial | exact ⟨rfl⟩ | refine And.intro ?_ ?_)))
  · refine ob_t ?_
    refine call_s h fun h => ?_
    refine br_d h (fun h => ?_) (fun h => ?_)
    · refine ob_t ?_
      refine ob_t ?_
      exact ret_s h (fun e => by subst e; exact (by repeat' (first | exact trivial | exact ⟨rfl⟩ | refine And.intro ?_ ?_)))
    · refine ob_t ?_
      refine ob_t ?_
      refine br_d h (fun h => ?_) (fun h => ?_)
      · refine ob_t ?_
        refine ob_t ?_
        exact ret_s h (fun e => by subst e; exact (by repeat' (first | exact trivial | exact ⟨rfl⟩ | refine And.intro ?_ ?_)))
      · refine ob_t ?_
        refine ob_t ?_
        exact ret_s h (fun e => by subst e; exact (by repeat' (first | exact trivial | exact ⟨rfl⟩ | refine And.intro ?_ ?_)))
set_option maxRecDepth 100000 in
theorem F_parts_ok : SpecOK Try.prog 99 true (pureK k_F_parts g_F_parts) := by
  refine pureK_ok (sp := (sp_118 (sp_128 sp0))) (fn := Try.f99) (body := bodyOf Try.f99) mixed (sp_118_ok (sp_128_ok sp0_ok)) Try.func99 (by kernel_rfl) (by kernel_rfl) fun as_ ob rs h ho => ?_
  unfold g_F_parts at h
  split at h
  · rename_i num den
    cases h
    exact ⟨Nat.le_of_ble_eq_true rfl, _, _, F_parts_vc num den _ (ok_some ho)⟩
  · cases h
theorem sp_99_ok {sp : Specs} (h : SpecsOK Try.prog sp) : SpecsOK Try.prog (sp_99 sp) := addK_ok F_parts_ok h

def F_GainRange_b0 (c : List (List Int)) (tP : Int) (tQ : Int) (tR : Int) (x0 : (Int × Int × Int)) : Option ((Int × Int × Int) ⊕ (Int ⊕ (Int × Int))) :=
  if x0.1 < (↑(List.length c) : Int) then
   if (0 : Int) ≤ x0.1 ∧ x0.1 < (↑(List.length c) : Int) then
   if Int.toNat x0.1 < List.length c then
   if Sx06.secB (List.getD (List.getD c (Int.toNat x0.1) []) (0 : Nat) (0 : Int)) (List.getD (List.getD c (Int.toNat x0.1) []) (1 : Nat) (0 : Int)) (List.getD (List.getD c (Int.toNat x0.1) []) (2 : Nat) (0 : Int)) (List.getD (List.getD c (Int.toNat x0.1) []) (3 : Nat) (0 : Int)) (List.getD (List.getD c (Int.toNat x0.1) []) (4 : Nat) (0 : Int)) = true ∧ ((-100 : Int) ≤ tP ∧ tP ≤ (100 : Int)) ∧ ((-100 : Int) ≤ tQ ∧ tQ ≤ (100 : Int)) ∧ (-100 : Int) ≤ tR ∧ tR ≤ (100 : Int) then
   if (Sx06.sqS (16384 : Int) (List.getD (List.getD c (Int.toNat x0.1) []) (3 : Nat) (0 : Int)) (List.getD (List.getD c (Int.toNat x0.1) []) (4 : Nat) (0 : Int)) tP tQ tR == (0 : Int)) = true then
   some (.inr ((.inl (11 : Int))))
   else
   Option.bind (F_parts (Sx06.sqS (List.getD (List.getD c (Int.toNat x0.1) []) (0 : Nat) (0 : Int)) (List.getD (List.getD c (Int.toNat x0.1) []) (1 : Nat) (0 : Int)) (List.getD (List.getD c (Int.toNat x0.1) []) (2 : Nat) (0 : Int)) tP tQ tR) (Sx06.sqS (16384 : Int) (List.getD (List.getD c (Int.toNat x0.1) []) (3 : Nat) (0 : Int)) (List.getD (List.getD c (Int.toNat x0.1) []) (4 : Nat) (0 : Int)) tP tQ tR)) fun r0 =>
   if (!r0.2.2) = true then
   some (.inr ((.inl (8 : Int))))
   else
   if IntKind.wrap IntKind.i64 (Int.tdiv (IntKind.wrap IntKind.i64 (IntKind.wrap IntKind.i64 (IntKind.wrap IntKind.i64 (x0.2.2 * r0.2.1) + (1048576 : Int)) - (1 : Int))) (1048576 : Int)) > (1073741824 : Int) then
   some (.inr ((.inl (8 : Int))))
   else
   some (.inl ((IntKind.wrap IntKind.i64 (x0.1 + (1 : Int)), IntKind.wrap IntKind.i64 (Int.tdiv (IntKind.wrap IntKind.i64 (x0.2.1 * r0.1)) (1048576 : Int)), IntKind.wrap IntKind.i64 (Int.tdiv (IntKind.wrap IntKind.i64 (IntKind.wrap IntKind.i64 (IntKind.wrap IntKind.i64 (x0.2.2 * r0.2.1) + (1048576 : Int)) - (1 : Int))) (1048576 : Int)))))
   else none
   else none
   else none
  else
   some (.inr ((.inr (x0.2.1, x0.2.2))))
def F_GainRange_r0_0 (y0_0 : Int) : Option (Int × Int × Int) :=
  some (((0 : Int), (0 : Int), y0_0))
def F_GainRange_r0_1 (y0_1 : Int × Int) : Option (Int × Int × Int) :=
  some ((y0_1.1, y0_1.2, (0 : Int)))
def F_GainRange_r0 : (Int ⊕ (Int × Int)) → Option (Int × Int × Int) :=
  (Sum.elim (F_GainRange_r0_0) (F_GainRange_r0_1))
/-- shoebox/filter.GainRange -/
def F_GainRange (c : List (List Int)) (tP : Int) (tQ : Int) (tR : Int) : Option (Int × Int × Int) :=
  if List.length c ≤ (1000000000 : Nat) then
   if List.length [Sx06.chkE c, Sx06.turnE tP tQ tR] ≤ (1000000 : Nat) then
   if (Option.getD (List.find? (fun x => x != (0 : Int)) [Sx06.chkE c, Sx06.turnE tP tQ tR]) (0 : Int) != (0 : Int)) = true then
   some (((0 : Int), (0 : Int), Option.getD (List.find? (fun x => x != (0 : Int)) [Sx06.chkE c, Sx06.turnE tP tQ tR]) (0 : Int)))
   else
   Option.bind (iter (F_GainRange_b0 c tP tQ tR) big (((0 : Int), (1048576 : Int), (1048576 : Int)))) (F_GainRange_r0)
   else none
  else none
def g_F_GainRange : List A → Option (Prop × List RV)
  | [.r (.recs 5 c), .s [.i .i64 tP, .i .i64 tQ, .i .i64 tR]] => some (ok (F_GainRange c tP tQ tR), [.s [.i .i64 ((val (F_GainRange c tP tQ tR)).1), .i .i64 ((val (F_GainRange c tP tQ tR)).2.1)], .d (.i .i64 ((val (F_GainRange c tP tQ tR)).2.2))])
  | _ => none
def k_F_GainRange : List (Option Cont) := [some (.recs 5 []), none]
abbrev sp_41 : Specs → Specs := addK 41 true (pureK k_F_GainRange g_F_GainRange)
set_option maxRecDepth 100000 in
theorem F_GainRange_vc (c : List (List Int)) (tP : Int) (tQ : Int) (tR : Int) (r : Int × Int × Int) (h : Option.bind (F_GainRange c tP tQ tR) some = some r) : runF Try.f41 ((sp_86 (sp_97 (sp_85 (sp_98 (sp_99 sp0)))))) (fun gs id _ => match id with
 | 0 => some ⟨(Int × Int × Int) × Nat, fun z => ⟨[(3, .w (.c (.p 2 (0 : Nat) 1 0))), (4, .w (.c (.p 3 (0 : Nat) 1 0))), (7, .w (.c (.p 4 (0 : Nat) 1 0))), (25, .w (.c (.o 0))), (26, .w (.c (.d (.i .i64 ((↑(List.length c) : Int)))))), (27, .w (.c (.d (.i .i64 (Prod.fst (Prod.fst z))))))], [(2, .box 74 [.d (.i .i64 tP), .d (.i .i64 tQ), .d (.i .i64 tR)]), (3, .box 76 [.d (.i .i64 (0 : Int)), .d (.i .i64 (0 : Int))]), (4, .box 76 [.d (.i .i64 (Prod.fst (Prod.snd (Prod.fst z)))), .d (.i .i64 (Prod.snd (Prod.snd (Prod.fst z))))]), (0, .ext (.recs 5 c))], 5⟩, fun z => Option.bind (iter (F_GainRange_b0 c tP tQ tR) (Prod.snd z) (Prod.fst z)) (fun y0 => Option.bind (F_GainRange_r0 y0) some) = some r, fun z => Prod.snd z⟩
 | _ => none) [.r (.recs 5 c), .s [.i .i64 tP, .i .i64 tQ, .i .i64 tR]] [.s [.i .i64 r.1, .i .i64 r.2.1], .d (.i .i64 r.2.2)] := by
  refine Eq.mp (by kernel_rfl : (
  (Ob (List.length c ≤ (1000000000 : Nat)) ∧
   (Ob (True) ∧
   (Ob (List.length [Sx06.chkE c, Sx06.turnE tP tQ tR] ≤ (1000000 : Nat)) ∧
   Br (Option.getD (List.find? (fun x => x != (0 : Int)) [Sx06.chkE c, Sx06.turnE tP tQ tR]) (0 : Int) != (0 : Int))
   ((Ob (True) ∧
   (Ob (True) ∧
   (Ob ((0 : Int) = r.1) ∧
   (Ob ((0 : Int) = r.2.1) ∧
   (Ob (Option.getD (List.find? (fun x => x != (0 : Int)) [Sx06.chkE c, Sx06.turnE tP tQ tR]) (0 : Int) = r.2.2) ∧
   True))))))
   (((∃ (v0 : (Int × Int × Int) × Nat), (Ob ((Option.bind (iter (F_GainRange_b0 c tP tQ tR) v0.2 v0.1) fun y0 => Option.bind (F_GainRange_r0 y0) some) = some r) ∧
   (Ob ((0 : Nat) = (0 : Nat)) ∧
   (Ob ((0 : Nat) = (0 : Nat)) ∧
   (Ob ((0 : Nat) = (0 : Nat)) ∧
   (Ob ((↑(List.length c) : Int) = (↑(List.length c) : Int)) ∧
   (Ob ((0 : Int) = v0.1.1) ∧
   (Ob (tP = tP) ∧
   (Ob (tQ = tQ) ∧
   (Ob (tR = tR) ∧
   (Ob ((0 : Int) = (0 : Int)) ∧
   (Ob ((0 : Int) = (0 : Int)) ∧
   (Ob ((1048576 : Int) = v0.1.2.1) ∧
   (Ob ((1048576 : Int) = v0.1.2.2) ∧
   (Ob (c = c) ∧
   True))))))))))))))) ∧
   (∀ (v0 : (Int × Int × Int) × Nat), ((Option.bind (iter (F_GainRange_b0 c tP tQ tR) v0.2 v0.1) fun y0 => Option.bind (F_GainRange_r0 y0) some) = some r →
   Br (decide (v0.1.1 < (↑(List.length c) : Int)))
   ((Ob ((0 : Int) ≤ v0.1.1 ∧ v0.1.1 < (↑(List.length c) : Int)) ∧
   (Ob (Int.toNat v0.1.1 < List.length c) ∧
   (Ob (Sx06.secB (List.getD (List.getD c (Int.toNat v0.1.1) []) (0 : Nat) (0 : Int)) (List.getD (List.getD c (Int.toNat v0.1.1) []) (1 : Nat) (0 : Int)) (List.getD (List.getD c (Int.toNat v0.1.1) []) (2 : Nat) (0 : Int)) (List.getD (List.getD c (Int.toNat v0.1.1) []) (3 : Nat) (0 : Int)) (List.getD (List.getD c (Int.toNat v0.1.1) []) (4 : Nat) (0 : Int)) = true ∧ ((-100 : Int) ≤ tP ∧ tP ≤ (100 : Int)) ∧ ((-100 : Int) ≤ tQ ∧ tQ ≤ (100 : Int)) ∧ (-100 : Int) ≤ tR ∧ tR ≤ (100 : Int)) ∧
   Br (Sx06.sqS (16384 : Int) (List.getD (List.getD c (Int.toNat v0.1.1) []) (3 : Nat) (0 : Int)) (List.getD (List.getD c (Int.toNat v0.1.1) []) (4 : Nat) (0 : Int)) tP tQ tR == (0 : Int))
   ((Ob (True) ∧
   (Ob (True) ∧
   (Ob ((0 : Int) = r.1) ∧
   (Ob ((0 : Int) = r.2.1) ∧
   (Ob ((11 : Int) = r.2.2) ∧
   True))))))
   ((Ob (ok (F_parts (Sx06.sqS (List.getD (List.getD c (Int.toNat v0.1.1) []) (0 : Nat) (0 : Int)) (List.getD (List.getD c (Int.toNat v0.1.1) []) (1 : Nat) (0 : Int)) (List.getD (List.getD c (Int.toNat v0.1.1) []) (2 : Nat) (0 : Int)) tP tQ tR) (Sx06.sqS (16384 : Int) (List.getD (List.getD c (Int.toNat v0.1.1) []) (3 : Nat) (0 : Int)) (List.getD (List.getD c (Int.toNat v0.1.1) []) (4 : Nat) (0 : Int)) tP tQ tR))) ∧
   Br (!(val (F_parts (Sx06.sqS (List.getD (List.getD c (Int.toNat v0.1.1) []) (0 : Nat) (0 : Int)) (List.getD (List.getD c (Int.toNat v0.1.1) []) (1 : Nat) (0 : Int)) (List.getD (List.getD c (Int.toNat v0.1.1) []) (2 : Nat) (0 : Int)) tP tQ tR) (Sx06.sqS (16384 : Int) (List.getD (List.getD c (Int.toNat v0.1.1) []) (3 : Nat) (0 : Int)) (List.getD (List.getD c (Int.toNat v0.1.1) []) (4 : Nat) (0 : Int)) tP tQ tR))).2.2)
   ((Ob (True) ∧
   (Ob (True) ∧
   (Ob ((0 : Int) = r.1) ∧
   (Ob ((0 : Int) = r.2.1) ∧
   (Ob ((8 : Int) = r.2.2) ∧
   True))))))
   ((Ob ((1048576 : Int) ≠ (0 : Int)) ∧
   (Ob ((1048576 : Int) ≠ (0 : Int)) ∧
   Br (decide (IntKind.wrap IntKind.i64 (Int.tdiv (IntKind.wrap IntKind.i64 (IntKind.wrap IntKind.i64 (IntKind.wrap IntKind.i64 (v0.1.2.2 * (val (F_parts (Sx06.sqS (List.getD (List.getD c (Int.toNat v0.1.1) []) (0 : Nat) (0 : Int)) (List.getD (List.getD c (Int.toNat v0.1.1) []) (1 : Nat) (0 : Int)) (List.getD (List.getD c (Int.toNat v0.1.1) []) (2 : Nat) (0 : Int)) tP tQ tR) (Sx06.sqS (16384 : Int) (List.getD (List.getD c (Int.toNat v0.1.1) []) (3 : Nat) (0 : Int)) (List.getD (List.getD c (Int.toNat v0.1.1) []) (4 : Nat) (0 : Int)) tP tQ tR))).2.1) + (1048576 : Int)) - (1 : Int))) (1048576 : Int)) > (1073741824 : Int)))
   ((Ob (True) ∧
   (Ob (True) ∧
   (Ob ((0 : Int) = r.1) ∧
   (Ob ((0 : Int) = r.2.1) ∧
   (Ob ((8 : Int) = r.2.2) ∧
   True))))))
   ((∃ (v1 : (Int × Int × Int) × Nat), (Ob ((Option.bind (iter (F_GainRange_b0 c tP tQ tR) v1.2 v1.1) fun y0 => Option.bind (F_GainRange_r0 y0) some) = some r) ∧
   (Ob (v1.2 < v0.2) ∧
   (Ob ((0 : Nat) = (0 : Nat)) ∧
   (Ob ((0 : Nat) = (0 : Nat)) ∧
   (Ob ((0 : Nat) = (0 : Nat)) ∧
   (Ob ((↑(List.length c) : Int) = (↑(List.length c) : Int)) ∧
   (Ob (IntKind.wrap IntKind.i64 (v0.1.1 + (1 : Int)) = v1.1.1) ∧
   (Ob (tP = tP) ∧
   (Ob (tQ = tQ) ∧
   (Ob (tR = tR) ∧
   (Ob ((0 : Int) = (0 : Int)) ∧
   (Ob ((0 : Int) = (0 : Int)) ∧
   (Ob (IntKind.wrap IntKind.i64 (Int.tdiv (IntKind.wrap IntKind.i64 (v0.1.2.1 * (val (F_parts (Sx06.sqS (List.getD (List.getD c (Int.toNat v0.1.1) []) (0 : Nat) (0 : Int)) (List.getD (List.getD c (Int.toNat v0.1.1) []) (1 : Nat) (0 : Int)) (List.getD (List.getD c (Int.toNat v0.1.1) []) (2 : Nat) (0 : Int)) tP tQ tR) (Sx06.sqS (16384 : Int) (List.getD (List.getD c (Int.toNat v0.1.1) []) (3 : Nat) (0 : Int)) (List.getD (List.getD c (Int.toNat v0.1.1) []) (4 : Nat) (0 : Int)) tP tQ tR))).1)) (1048576 : Int)) = v1.1.2.1) ∧
   (Ob (IntKind.wrap IntKind.i64 (Int.tdiv (IntKind.wrap IntKind.i64 (IntKind.wrap IntKind.i64 (IntKind.wrap IntKind.i64 (v0.1.2.2 * (val (F_parts (Sx06.sqS (List.getD (List.getD c (Int.toNat v0.1.1) []) (0 : Nat) (0 : Int)) (List.getD (List.getD c (Int.toNat v0.1.1) []) (1 : Nat) (0 : Int)) (List.getD (List.getD c (Int.toNat v0.1.1) []) (2 : Nat) (0 : Int)) tP tQ tR) (Sx06.sqS (16384 : Int) (List.getD (List.getD c (Int.toNat v0.1.1) []) (3 : Nat) (0 : Int)) (List.getD (List.getD c (Int.toNat v0.1.1) []) (4 : Nat) (0 : Int)) tP tQ tR))).2.1) + (1048576 : Int)) - (1 : Int))) (1048576 : Int)) = v1.1.2.2) ∧
   (Ob (c = c) ∧
   True))))))))))))))))))))))))))
   ((Ob (True) ∧
   (Ob (True) ∧
   (Ob (v0.1.2.1 = r.1) ∧
   (Ob (v0.1.2.2 = r.2.1) ∧
   (Ob ((0 : Int) = r.2.2) ∧
   True)))))))))))))) = _) ?_
  refine ob_s h fun h => ?_
  refine ob_t ?_
  refine ob_s h fun h => ?_
  refine br_b h (fun h => ?_) (fun h => ?_)
  · refine ob_t ?_
    refine ob_t ?_
    exact ret_s h (fun e => by subst e; exact (by repeat' (first | exact trivial | exact ⟨rfl⟩ | refine And.intro ?_ ?_)))
  · refine ⟨⟨(((0 : Int), (1048576 : Int), (1048576 : Int)), big), ⟨loop_s h⟩, (by repeat' (first | exact trivial | exact ⟨rfl⟩ | refine And.intro ?_ ?_))⟩, fun z1 hz1 => ?_⟩
    obtain ⟨k1, hm1, h⟩ := iter_pos hz1
    refine br_d h (fun h => ?_) (fun h => ?_)
    · refine ob_s h fun h => ?_
      refine ob_s h fun h => ?_
      refine ob_s h fun h => ?_
      refine br_b h (fun h => ?_) (fun h => ?_)
      · have h := exit_s h
        refine ob_t ?_
        refine ob_t ?_
        exact ret_s h (fun e => by subst e; exact (by repeat' (first | exact trivial | exact ⟨rfl⟩ | refine And.intro ?_ ?_)))
      · refine call_s h fun h => ?_
        refine br_b h (fun h => ?_) (fun h => ?_)
        · have h := exit_s h
          refine ob_t ?_
          refine ob_t ?_
          exact ret_s h (fun e => by subst e; exact (by repeat' (first | exact trivial | exact ⟨rfl⟩ | refine And.intro ?_ ?_)))
        · refine ob_c (p := (1048576 : Int) ≠ (0 : Int)) (by decide) ?_
          refine ob_c (p := (1048576 : Int) ≠ (0 : Int)) (by decide) ?_
          refine br_d h (fun h => ?_) (fun h => ?_)
          · have h := exit_s h
            refine ob_t ?_
            refine ob_t ?_
            exact ret_s h (fun e => by subst e; exact (by repeat' (first | exact trivial | exact ⟨rfl⟩ | refine And.intro ?_ ?_)))
          · exact ⟨((IntKind.wrap IntKind.i64 ((Prod.fst z1).1 + (1 : Int)), IntKind.wrap IntKind.i64 (Int.tdiv (IntKind.wrap IntKind.i64 ((Prod.fst z1).2.1 * (val (F_parts (Sx06.sqS (List.getD (List.getD c (Int.toNat (Prod.fst z1).1) []) (0 : Nat) (0 : Int)) (List.getD (List.getD c (Int.toNat (Prod.fst z1).1) []) (1 : Nat) (0 : Int)) (List.getD (List.getD c (Int.toNat (Prod.fst z1).1) []) (2 : Nat) (0 : Int)) tP tQ tR) (Sx06.sqS (16384 : Int) (List.getD (List.getD c (Int.toNat (Prod.fst z1).1) []) (3 : Nat) (0 : Int)) (List.getD (List.getD c (Int.toNat (Prod.fst z1).1) []) (4 : Nat) (0 : Int)) tP tQ tR))).1)) (1048576 : Int)), IntKind.wrap IntKind.i64 (Int.tdiv (IntKind.wrap IntKind.i64 (IntKind.wrap IntKind.i64 (IntKind.wrap IntKind.i64 ((Prod.fst z1).2.2 * (val (F_parts (Sx06.sqS (List.getD (List.getD c (Int.toNat (Prod.fst z1).1) []) (0 : Nat) (0 : Int)) (List.getD (List.getD c (Int.toNat (Prod.fst z1).1) []) (1 : Nat) (0 : Int)) (List.getD (List.getD c (Int.toNat (Prod.fst z1).1) []) (2 : Nat) (0 : Int)) tP tQ tR) (Sx06.sqS (16384 : Int) (List.getD (List.getD c (Int.toNat (Prod.fst z1).1) []) (3 : Nat) (0 : Int)) (List.getD (List.getD c (Int.toNat (Prod.fst z1).1) []) (4 : Nat) (0 : Int)) tP tQ tR))).2.1) + (1048576 : Int)) - (1 : Int))) (1048576 : Int))), k1), ⟨next_s h⟩, ⟨lt_gs hm1.symm⟩, (by repeat' (first | exact trivial | exact ⟨rfl⟩ | refine And.intro ?_ ?_))⟩
    · have h := exit_s h
      refine ob_t ?_
      refine ob_t ?_
      exact ret_s h (fun e => by subst e; exact (by repeat' (first | exact trivial | exact ⟨rfl⟩ | refine And.intro ?_ ?_)))
set_option maxRecDepth 100000 in
theorem F_GainRange_ok : SpecOK Try.prog 41 true (pureK k_F_GainRange g_F_GainRange) := by
  refine pureK_ok (sp := (sp_86 (sp_97 (sp_85 (sp_98 (sp_99 sp0)))))) (fn := Try.f41) (body := bodyOf Try.f41) mixed (sp_86_ok (sp_97_ok (sp_85_ok (sp_98_ok (sp_99_ok sp0_ok))))) Try.func41 (by kernel_rfl) (by kernel_rfl) fun as_ ob rs h ho => ?_
  unfold g_F_GainRange at h
  split at h
  · rename_i c tP tQ tR
    cases h
    exact ⟨Nat.le_of_ble_eq_true rfl, _, _, F_GainRange_vc c tP tQ tR _ (ok_some ho)⟩
  · cases h
theorem sp_41_ok {sp : Specs} (h : SpecsOK Try.prog sp) : SpecsOK Try.prog (sp_41 sp) := addK_ok F_GainRange_ok h

/-- shoebox/shoeboxlaw06.awake -/
def L06_awake : Option Bool :=
  some true
def g_L06_awake : List A → Option (Prop × List RV)
  | [] => some (ok (L06_awake), [.d (.b ((val (L06_awake))))])
  | _ => none
def k_L06_awake : List (Option Cont) := []
abbrev sp_18 : Specs → Specs := addK 18 true (pureK k_L06_awake g_L06_awake)
set_option maxRecDepth 100000 in
theorem L06_awake_vc (r : Bool) (h : Option.bind (L06_awake) some = some r) : runF Try.f18 ((sp_60 (sp_25 (sp_21 (sp_81 (sp_41 (sp_34 sp0))))))) (fun _ _ _ => none) [] [.d (.b r)] := by
  refine Eq.mp (by kernel_rfl : (
  (Ob (ok L06_Half) ∧
   (Ob (List.length [[(8192 : Int), (0 : Int), (0 : Int), (-8192 : Int), (0 : Int)]] ≤ (1000000000 : Nat)) ∧
   (Ob (ok L06_Half) ∧
   (Ob (True) ∧
   (Ob (List.length [(2 : Int), (1 : Int), (1 : Int)] ≤ (1000000000 : Nat)) ∧
   (Ob (ok L06_Half) ∧
   (Ob (ok (F_GainRange [[(8192 : Int), (0 : Int), (0 : Int), (-8192 : Int), (0 : Int)]] (0 : Int) (1 : Int) (1 : Int))) ∧
   (Ob (List.length (Sx06.impL [[(8192 : Int), (0 : Int), (0 : Int), (-8192 : Int), (0 : Int)]] (100 : Int) (5 : Int)) ≤ (1000000000 : Nat)) ∧
   (Ob (True) ∧
   (Ob (((fun α β self => self.1) Int (Int × Int) (val (F_GainRange [[(8192 : Int), (0 : Int), (0 : Int), (-8192 : Int), (0 : Int)]] (0 : Int) (1 : Int) (1 : Int))) == (209715 : Int) && (fun α β self => self.2) Int Int (IntKind.wrap IntKind.i64 (Int.tdiv (IntKind.wrap IntKind.i64 ((1048576 : Int) * IntKind.wrap IntKind.i64 (IntKind.wrap IntKind.u64 (Int.tdiv (IntKind.wrap IntKind.u64 (IntKind.wrap IntKind.u64 (Sx06.sqS (List.getD (List.getD [[(8192 : Int), (0 : Int), (0 : Int), (-8192 : Int), (0 : Int)]] (0 : Nat) []) (0 : Nat) (0 : Int)) (List.getD (List.getD [[(8192 : Int), (0 : Int), (0 : Int), (-8192 : Int), (0 : Int)]] (0 : Nat) []) (1 : Nat) (0 : Int)) (List.getD (List.getD [[(8192 : Int), (0 : Int), (0 : Int), (-8192 : Int), (0 : Int)]] (0 : Nat) []) (2 : Nat) (0 : Int)) (0 : Int) (1 : Int) (1 : Int)) * (1048576 : Int))) (IntKind.wrap IntKind.u64 (Sx06.sqS (16384 : Int) (List.getD (List.getD [[(8192 : Int), (0 : Int), (0 : Int), (-8192 : Int), (0 : Int)]] (0 : Nat) []) (3 : Nat) (0 : Int)) (List.getD (List.getD [[(8192 : Int), (0 : Int), (0 : Int), (-8192 : Int), (0 : Int)]] (0 : Nat) []) (4 : Nat) (0 : Int)) (0 : Int) (1 : Int) (1 : Int))))))) (1048576 : Int)), IntKind.wrap IntKind.i64 (Int.tdiv (IntKind.wrap IntKind.i64 (IntKind.wrap IntKind.i64 (IntKind.wrap IntKind.i64 ((1048576 : Int) * IntKind.wrap IntKind.i64 (IntKind.wrap IntKind.i64 (IntKind.wrap IntKind.u64 (Int.tdiv (IntKind.wrap IntKind.u64 (IntKind.wrap IntKind.u64 (Sx06.sqS (List.getD (List.getD [[(8192 : Int), (0 : Int), (0 : Int), (-8192 : Int), (0 : Int)]] (0 : Nat) []) (0 : Nat) (0 : Int)) (List.getD (List.getD [[(8192 : Int), (0 : Int), (0 : Int), (-8192 : Int), (0 : Int)]] (0 : Nat) []) (1 : Nat) (0 : Int)) (List.getD (List.getD [[(8192 : Int), (0 : Int), (0 : Int), (-8192 : Int), (0 : Int)]] (0 : Nat) []) (2 : Nat) (0 : Int)) (0 : Int) (1 : Int) (1 : Int)) * (1048576 : Int))) (IntKind.wrap IntKind.u64 (Sx06.sqS (16384 : Int) (List.getD (List.getD [[(8192 : Int), (0 : Int), (0 : Int), (-8192 : Int), (0 : Int)]] (0 : Nat) []) (3 : Nat) (0 : Int)) (List.getD (List.getD [[(8192 : Int), (0 : Int), (0 : Int), (-8192 : Int), (0 : Int)]] (0 : Nat) []) (4 : Nat) (0 : Int)) (0 : Int) (1 : Int) (1 : Int))))) + (1 : Int))) + (1048576 : Int)) - (1 : Int))) (1048576 : Int))) == (209716 : Int)) = r) ∧
   True))))))))))) = _) ?_
  refine ob_c (p := ok L06_Half) (by decide) ?_
  refine ob_c (p := List.length [[(8192 : Int), (0 : Int), (0 : Int), (-8192 : Int), (0 : Int)]] ≤ (1000000000 : Nat)) (by decide) ?_
  refine ob_c (p := ok L06_Half) (by decide) ?_
  refine ob_t ?_
  refine ob_c (p := List.length [(2 : Int), (1 : Int), (1 : Int)] ≤ (1000000000 : Nat)) (by decide) ?_
  refine ob_c (p := ok L06_Half) (by decide) ?_
  refine ob_c (p := ok (F_GainRange [[(8192 : Int), (0 : Int), (0 : Int), (-8192 : Int), (0 : Int)]] (0 : Int) (1 : Int) (1 : Int))) (by decide) ?_
  refine ob_c (p := List.length (Sx06.impL [[(8192 : Int), (0 : Int), (0 : Int), (-8192 : Int), (0 : Int)]] (100 : Int) (5 : Int)) ≤ (1000000000 : Nat)) (by decide) ?_
  refine ob_t ?_
  exact ret_s h (fun e => by subst e; exact (by repeat' (first | exact trivial | exact ⟨rfl⟩ | refine And.intro ?_ ?_)))
set_option maxRecDepth 100000 in
theorem L06_awake_ok : SpecOK Try.prog 18 true (pureK k_L06_awake g_L06_awake) := by
  refine pureK_ok (sp := (sp_60 (sp_25 (sp_21 (sp_81 (sp_41 (sp_34 sp0))))))) (fn := Try.f18) (body := bodyOf Try.f18) mixed (sp_60_ok (sp_25_ok (sp_21_ok (sp_81_ok (sp_41_ok (sp_34_ok sp0_ok)))))) Try.func18 (by kernel_rfl) (by kernel_rfl) fun as_ ob rs h ho => ?_
  unfold g_L06_awake at h
  split at h
  · cases h
    exact ⟨Nat.le_of_ble_eq_true rfl, _, _, L06_awake_vc _ (ok_some ho)⟩
  · cases h
theorem sp_18_ok {sp : Specs} (h : SpecsOK Try.prog sp) : SpecsOK Try.prog (sp_18 sp) := addK_ok L06_awake_ok h
/-- shoebox/shoeboxlaw06.few -/
def L06_few (c : List (List Int)) : Option Bool :=
  some (decide ((↑(List.length c) : Int) ≤ (8 : Int)))
def g_L06_few : List A → Option (Prop × List RV)
  | [.r (.recs 5 c)] => some (ok (L06_few c), [.d (.b ((val (L06_few c))))])
  | _ => none
def k_L06_few : List (Option Cont) := [some (.recs 5 [])]
abbrev sp_24 : Specs → Specs := addK 24 true (pureK k_L06_few g_L06_few)
set_option maxRecDepth 100000 in
theorem L06_few_vc (c : List (List Int)) (r : Bool) (h : Option.bind (L06_few c) some = some r) : runF Try.f24 (sp0) (fun _ _ _ => none) [.r (.recs 5 c)] [.d (.b r)] := by
  refine Eq.mp (by kernel_rfl : (
  (Ob (True) ∧
   (Ob (decide ((↑(List.length c) : Int) ≤ (8 : Int)) = r) ∧
   True))) = _) ?_
  refine ob_t ?_
  exact ret_s h (fun e => by subst e; exact (by repeat' (first | exact trivial | exact ⟨rfl⟩ | refine And.intro ?_ ?_)))
set_option maxRecDepth 100000 in
theorem L06_few_ok : SpecOK Try.prog 24 true (pureK k_L06_few g_L06_few) := by
  refine pureK_ok (sp := sp0) (fn := Try.f24) (body := bodyOf Try.f24) mixed sp0_ok Try.func24 (by kernel_rfl) (by kernel_rfl) fun as_ ob rs h ho => ?_
  unfold g_L06_few at h
  split at h
  · rename_i c
    cases h
    exact ⟨Nat.le_of_ble_eq_true rfl, _, _, L06_few_vc c _ (ok_some ho)⟩
  · cases h
theorem sp_24_ok {sp : Specs} (h : SpecsOK Try.prog sp) : SpecsOK Try.prog (sp_24 sp) := addK_ok L06_few_ok h

/-- shoebox/shoeboxref06.Copy -/
def R06_Copy (c : List (List Int)) : Option (List (List Int)) :=
  if ((0 : Nat) + List.length c) * (40 : Nat) ≤ (140737488355328 : Nat) ∧ (0 : Nat) + List.length c ≤ (9223372036854775807 : Nat) then
   some ([] ++ c)
  else none
def g_R06_Copy : List A → Option (Prop × List RV)
  | [.r (.recs 5 c)] => some (ok (R06_Copy c), [.row 36 (.recs 5 ((val (R06_Copy c))))])
  | _ => none
def k_R06_Copy : List (Option Cont) := [some (.recs 5 [])]
abbrev sp_27 : Specs → Specs := addK 27 true (pureK k_R06_Copy g_R06_Copy)
set_option maxRecDepth 100000 in
theorem R06_Copy_vc (c : List (List Int)) (r : List (List Int)) (h : Option.bind (R06_Copy c) some = some r) : runF Try.f27 (sp0) (fun _ _ _ => none) [.r (.recs 5 c)] [.row 36 (.recs 5 r)] := by
  refine Eq.mp (by kernel_rfl : (
  (Ob (((0 : Nat) + List.length c) * (40 : Nat) ≤ (140737488355328 : Nat) ∧ (0 : Nat) + List.length c ≤ (9223372036854775807 : Nat)) ∧
   (Ob (True) ∧
   (Ob ([] ++ c = r) ∧
   True)))) = _) ?_
  refine ob_s h fun h => ?_
  refine ob_t ?_
  exact ret_s h (fun e => by subst e; exact (by repeat' (first | exact trivial | exact ⟨rfl⟩ | refine And.intro ?_ ?_)))
set_option maxRecDepth 100000 in
theorem R06_Copy_ok : SpecOK Try.prog 27 true (pureK k_R06_Copy g_R06_Copy) := by
  refine pureK_ok (sp := sp0) (fn := Try.f27) (body := bodyOf Try.f27) mixed sp0_ok Try.func27 (by kernel_rfl) (by kernel_rfl) fun as_ ob rs h ho => ?_
  unfold g_R06_Copy at h
  split at h
  · rename_i c
    cases h
    exact ⟨Nat.le_of_ble_eq_true rfl, _, _, R06_Copy_vc c _ (ok_some ho)⟩
  · cases h
theorem sp_27_ok {sp : Specs} (h : SpecsOK Try.prog sp) : SpecsOK Try.prog (sp_27 sp) := addK_ok R06_Copy_ok h
end Go.Sh
