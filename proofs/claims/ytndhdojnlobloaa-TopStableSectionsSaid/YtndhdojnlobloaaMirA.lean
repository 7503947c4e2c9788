/- Mirrors of functions, and their contracts: made by a program of mine. -/
import Derived.Test.YtndhdojnlobloaaCz
import Derived.Test.YtndhdojnlobloaaSb
namespace Go.Sh
open Go Go.Proofs Go.RowKit Go.Sx
set_option linter.unusedVariables false
/-- shoebox/shoeboxlaw06.Half -/
def L06_Half : Option (Int × Int × Int × Int × Int) :=
  some (((8192 : Int), (0 : Int), (0 : Int), (-8192 : Int), (0 : Int)))
def g_L06_Half : List A → Option (Prop × List RV)
  | [] => some (ok (L06_Half), [.s [.i .i64 ((val (L06_Half)).1), .i .i64 ((val (L06_Half)).2.1), .i .i64 ((val (L06_Half)).2.2.1), .i .i64 ((val (L06_Half)).2.2.2.1), .i .i64 ((val (L06_Half)).2.2.2.2)]])
  | _ => none
def k_L06_Half : List (Option Cont) := []
abbrev sp_81 : Specs → Specs := addK 81 true (pureK k_L06_Half g_L06_Half)
set_option maxRecDepth 100000 in
theorem L06_Half_vc (r : Int × Int × Int × Int × Int) (h : Option.bind (L06_Half) some = some r) : runF Try.f81 (sp0) (fun _ _ _ => none) [] [.s [.i .i64 r.1, .i .i64 r.2.1, .i .i64 r.2.2.1, .i .i64 r.2.2.2.1, .i .i64 r.2.2.2.2]] := by
  refine Eq.mp (by kernel_rfl : (
  (Ob (True) ∧
   (Ob ((8192 : Int) = r.1) ∧
   (Ob ((0 : Int) = r.2.1) ∧
   (Ob ((0 : Int) = r.2.2.1) ∧
   (Ob ((-8192 : Int) = r.2.2.2.1) ∧
   (Ob ((0 : Int) = r.2.2.2.2) ∧
   True))))))) = _) ?_
  refine ob_t ?_
  exact ret_s h (fun e => by subst e; exact (by repeat' (first | exact trivial | exact ⟨rfl⟩ | refine And.intro ?_ ?_)))
set_option maxRecDepth 100000 in
theorem L06_Half_ok : SpecOK Try.prog 81 true (pureK k_L06_Half g_L06_Half) := by
  refine pureK_ok (sp := sp0) (fn := Try.f81) (body := bodyOf Try.f81) mixed sp0_ok Try.func81 (by kernel_rfl) (by kernel_rfl) fun as_ ob rs h ho => ?_
  unfold g_L06_Half at h
  split at h
  · cases h
    exact ⟨Nat.le_of_ble_eq_true rfl, _, _, L06_Half_vc _ (ok_some ho)⟩
  · cases h
theorem sp_81_ok {sp : Specs} (h : SpecsOK Try.prog sp) : SpecsOK Try.prog (sp_81 sp) := addK_ok L06_Half_ok h

def L06_times_b1 (p : List Int) (q : List Int) (x0 : Int × List Int) (x1 : (Int × List Int)) : Option ((Int × List Int) ⊕ (List Int)) :=
  if x1.1 < (↑(List.length q) : Int) then
   if (0 : Int) ≤ IntKind.wrap IntKind.i64 (x0.1 + x1.1) ∧ IntKind.wrap IntKind.i64 (x0.1 + x1.1) < (↑(List.length x1.2) : Int) then
    if Int.toNat (IntKind.wrap IntKind.i64 (x0.1 + x1.1)) < List.length x1.2 then
     if (0 : Int) ≤ x0.1 ∧ x0.1 < (↑(List.length p) : Int) then
      if Int.toNat x0.1 < List.length p then
       if (0 : Int) ≤ x1.1 ∧ x1.1 < (↑(List.length q) : Int) then
        if Int.toNat x1.1 < List.length q then
         if (0 : Int) ≤ IntKind.wrap IntKind.i64 (x0.1 + x1.1) ∧ IntKind.wrap IntKind.i64 (x0.1 + x1.1) < (↑(List.length x1.2) : Int) then
          if Int.toNat (IntKind.wrap IntKind.i64 (x0.1 + x1.1)) < List.length x1.2 then
           some (.inl ((IntKind.wrap IntKind.i64 (x1.1 + (1 : Int)), List.set x1.2 (Int.toNat (IntKind.wrap IntKind.i64 (x0.1 + x1.1))) (IntKind.wrap IntKind.i64 (List.getD x1.2 (Int.toNat (IntKind.wrap IntKind.i64 (x0.1 + x1.1))) (0 : Int) + IntKind.wrap IntKind.i64 (List.getD p (Int.toNat x0.1) (0 : Int) * List.getD q (Int.toNat x1.1) (0 : Int)))))))
          else none
         else none
        else none
       else none
      else none
     else none
    else none
   else none
  else
   some (.inr x1.2)
def L06_times_r1 (x0 : Int × List Int) (y1_0 : List Int) : Option ((Int × List Int) ⊕ (List Int)) :=
  some (.inl ((IntKind.wrap IntKind.i64 (x0.1 + (1 : Int)), y1_0)))
def L06_times_b0 (p : List Int) (q : List Int) (x0 : (Int × List Int)) : Option ((Int × List Int) ⊕ (List Int)) :=
  if x0.1 < (↑(List.length p) : Int) then
   Option.bind (iter (L06_times_b1 p q x0) big (((0 : Int), x0.2))) (L06_times_r1 x0)
  else
   some (.inr x0.2)
def L06_times_r0 (y0_0 : List Int) : Option (List Int) :=
  some y0_0
/-- shoebox/shoeboxlaw06.times -/
def L06_times (p : List Int) (q : List Int) : Option (List Int) :=
  if (0 : Int) ≤ IntKind.wrap IntKind.i64 (IntKind.wrap IntKind.i64 ((↑(List.length p) : Int) + (↑(List.length q) : Int)) - (1 : Int)) ∧ IntKind.wrap IntKind.i64 (IntKind.wrap IntKind.i64 ((↑(List.length p) : Int) + (↑(List.length q) : Int)) - (1 : Int)) = IntKind.wrap IntKind.i64 (IntKind.wrap IntKind.i64 ((↑(List.length p) : Int) + (↑(List.length q) : Int)) - (1 : Int)) ∧ (↑(8 : Nat) : Int) * IntKind.wrap IntKind.i64 (IntKind.wrap IntKind.i64 ((↑(List.length p) : Int) + (↑(List.length q) : Int)) - (1 : Int)) ≤ (281474976710656 : Int) ∧ IntKind.wrap IntKind.i64 (IntKind.wrap IntKind.i64 ((↑(List.length p) : Int) + (↑(List.length q) : Int)) - (1 : Int)) ≤ (9223372036854775807 : Int) then
   Option.bind (iter (L06_times_b0 p q) big (((0 : Int), List.replicate (Int.toNat (IntKind.wrap IntKind.i64 (IntKind.wrap IntKind.i64 ((↑(List.length p) : Int) + (↑(List.length q) : Int)) - (1 : Int)))) (0 : Int)))) (L06_times_r0)
  else none
def g_L06_times : List A → Option (Prop × List RV)
  | [.r (.ints .i64 p), .r (.ints .i64 q)] => some (ok (L06_times p q), [.row 3 (.ints .i64 ((val (L06_times p q))))])
  | _ => none
def k_L06_times : List (Option Cont) := [some (.ints .i64 []), some (.ints .i64 [])]
abbrev sp_20 : Specs → Specs := addK 20 true (pureK k_L06_times g_L06_times)
set_option maxRecDepth 100000 in
theorem L06_times_vc (p : List Int) (q : List Int) (r : List Int) (h : Option.bind (L06_times p q) some = some r) : runF Try.f20 (sp0) (fun gs id _ => match id with
 | 0 => some ⟨(Int × List Int) × Nat, fun z => ⟨[(0, .w (.c (.o 0))), (1, .w (.c (.o 1))), (5, .w (.c (.o 2))), (6, .w (.c (.d (.i .i64 (Prod.fst (Prod.fst z))))))], [(0, .ext (.ints .i64 p)), (1, .ext (.ints .i64 q)), (2, .row 3 (.ints .i64 (Prod.snd (Prod.fst z))))], 3⟩, fun z => Option.bind (iter (L06_times_b0 p q) (Prod.snd z) (Prod.fst z)) (fun y0 => Option.bind (L06_times_r0 y0) some) = some r, fun z => Prod.snd z⟩
 | 2 => some ⟨(Int × List Int) × Nat × (Int × List Int) × Nat, fun z => ⟨[(0, .w (.c (.o 0))), (1, .w (.c (.o 1))), (5, .w (.c (.o 2))), (6, .w (.c (.d (.i .i64 ((Prod.fst z).1))))), (7, .w (.c (.d (.i .i64 (Prod.fst (Prod.fst (Prod.snd (Prod.snd z))))))))], [(0, .ext (.ints .i64 p)), (1, .ext (.ints .i64 q)), (2, .row 3 (.ints .i64 (Prod.snd (Prod.fst (Prod.snd (Prod.snd z))))))], 3⟩, fun z => Prod.fst (Prod.snd z) + 1 = gs.getD 0 0 ∧ Option.bind (iter (L06_times_b1 p q (Prod.fst z)) (Prod.snd (Prod.snd (Prod.snd z))) (Prod.fst (Prod.snd (Prod.snd z)))) (fun y0 => Option.bind (L06_times_r1 (Prod.fst z) y0) (stepK (L06_times_b0 p q) (Prod.fst (Prod.snd z)) (fun y1 => Option.bind (L06_times_r0 y1) some))) = some r, fun z => Prod.snd (Prod.snd (Prod.snd z))⟩
 | _ => none) [.r (.ints .i64 p), .r (.ints .i64 q)] [.row 3 (.ints .i64 r)] := by
  refine Eq.mp (by kernel_rfl : (
  (Ob ((0 : Int) ≤ IntKind.wrap IntKind.i64 (IntKind.wrap IntKind.i64 ((↑(List.length p) : Int) + (↑(List.length q) : Int)) - (1 : Int)) ∧ IntKind.wrap IntKind.i64 (IntKind.wrap IntKind.i64 ((↑(List.length p) : Int) + (↑(List.length q) : Int)) - (1 : Int)) = IntKind.wrap IntKind.i64 (IntKind.wrap IntKind.i64 ((↑(List.length p) : Int) + (↑(List.length q) : Int)) - (1 : Int)) ∧ (↑(8 : Nat) : Int) * IntKind.wrap IntKind.i64 (IntKind.wrap IntKind.i64 ((↑(List.length p) : Int) + (↑(List.length q) : Int)) - (1 : Int)) ≤ (281474976710656 : Int) ∧ IntKind.wrap IntKind.i64 (IntKind.wrap IntKind.i64 ((↑(List.length p) : Int) + (↑(List.length q) : Int)) - (1 : Int)) ≤ (9223372036854775807 : Int)) ∧
   ((∃ (v0 : (Int × List Int) × Nat), (Ob ((Option.bind (iter (L06_times_b0 p q) v0.2 v0.1) fun y0 => Option.bind (L06_times_r0 y0) some) = some r) ∧
   (Ob ((0 : Int) = v0.1.1) ∧
   (Ob (p = p) ∧
   (Ob (q = q) ∧
   (Ob (List.replicate (Int.toNat (IntKind.wrap IntKind.i64 (IntKind.wrap IntKind.i64 ((↑(List.length p) : Int) + (↑(List.length q) : Int)) - (1 : Int)))) (0 : Int) = v0.1.2) ∧
   True)))))) ∧
   (∀ (v0 : (Int × List Int) × Nat), ((Option.bind (iter (L06_times_b0 p q) v0.2 v0.1) fun y0 => Option.bind (L06_times_r0 y0) some) = some r →
   Br (decide (v0.1.1 < (↑(List.length p) : Int)))
   (((∃ (v1 : (Int × List Int) × Nat × (Int × List Int) × Nat), (Ob (v1.2.1 + (1 : Nat) = List.getD [v0.2] (0 : Nat) (0 : Nat) ∧ (Option.bind (iter (L06_times_b1 p q v1.1) v1.2.2.2 v1.2.2.1) fun y0 => Option.bind (L06_times_r1 v1.1 y0) (stepK (L06_times_b0 p q) v1.2.1 fun y1 => Option.bind (L06_times_r0 y1) some)) = some r) ∧
   (Ob (v0.1.1 = v1.1.1) ∧
   (Ob ((0 : Int) = v1.2.2.1.1) ∧
   (Ob (p = p) ∧
   (Ob (q = q) ∧
   (Ob (v0.1.2 = v1.2.2.1.2) ∧
   True))))))) ∧
   (∀ (v1 : (Int × List Int) × Nat × (Int × List Int) × Nat), (v1.2.1 + (1 : Nat) = List.getD [v0.2] (0 : Nat) (0 : Nat) ∧ (Option.bind (iter (L06_times_b1 p q v1.1) v1.2.2.2 v1.2.2.1) fun y0 => Option.bind (L06_times_r1 v1.1 y0) (stepK (L06_times_b0 p q) v1.2.1 fun y1 => Option.bind (L06_times_r0 y1) some)) = some r →
   Br (decide (v1.2.2.1.1 < (↑(List.length q) : Int)))
   ((Ob ((0 : Int) ≤ IntKind.wrap IntKind.i64 (v1.1.1 + v1.2.2.1.1) ∧ IntKind.wrap IntKind.i64 (v1.1.1 + v1.2.2.1.1) < (↑(List.length v1.2.2.1.2) : Int)) ∧
   (Ob (Int.toNat (IntKind.wrap IntKind.i64 (v1.1.1 + v1.2.2.1.1)) < List.length v1.2.2.1.2) ∧
   (Ob ((0 : Int) ≤ v1.1.1 ∧ v1.1.1 < (↑(List.length p) : Int)) ∧
   (Ob (Int.toNat v1.1.1 < List.length p) ∧
   (Ob ((0 : Int) ≤ v1.2.2.1.1 ∧ v1.2.2.1.1 < (↑(List.length q) : Int)) ∧
   (Ob (Int.toNat v1.2.2.1.1 < List.length q) ∧
   (Ob ((0 : Int) ≤ IntKind.wrap IntKind.i64 (v1.1.1 + v1.2.2.1.1) ∧ IntKind.wrap IntKind.i64 (v1.1.1 + v1.2.2.1.1) < (↑(List.length v1.2.2.1.2) : Int)) ∧
   (Ob (Int.toNat (IntKind.wrap IntKind.i64 (v1.1.1 + v1.2.2.1.1)) < List.length v1.2.2.1.2) ∧
   (∃ (v2 : (Int × List Int) × Nat × (Int × List Int) × Nat), (Ob (v2.2.1 + (1 : Nat) = List.getD [v0.2] (0 : Nat) (0 : Nat) ∧ (Option.bind (iter (L06_times_b1 p q v2.1) v2.2.2.2 v2.2.2.1) fun y0 => Option.bind (L06_times_r1 v2.1 y0) (stepK (L06_times_b0 p q) v2.2.1 fun y1 => Option.bind (L06_times_r0 y1) some)) = some r) ∧
   (Ob (v2.2.2.2 < v1.2.2.2) ∧
   (Ob (v1.1.1 = v2.1.1) ∧
   (Ob (IntKind.wrap IntKind.i64 (v1.2.2.1.1 + (1 : Int)) = v2.2.2.1.1) ∧
   (Ob (p = p) ∧
   (Ob (q = q) ∧
   (Ob (List.set v1.2.2.1.2 (Int.toNat (IntKind.wrap IntKind.i64 (v1.1.1 + v1.2.2.1.1))) (IntKind.wrap IntKind.i64 (List.getD v1.2.2.1.2 (Int.toNat (IntKind.wrap IntKind.i64 (v1.1.1 + v1.2.2.1.1))) (0 : Int) + IntKind.wrap IntKind.i64 (List.getD p (Int.toNat v1.1.1) (0 : Int) * List.getD q (Int.toNat v1.2.2.1.1) (0 : Int)))) = v2.2.2.1.2) ∧
   True)))))))))))))))))
   ((∃ (v2 : (Int × List Int) × Nat), (Ob ((Option.bind (iter (L06_times_b0 p q) v2.2 v2.1) fun y0 => Option.bind (L06_times_r0 y0) some) = some r) ∧
   (Ob (v2.2 < v0.2) ∧
   (Ob (IntKind.wrap IntKind.i64 (v1.1.1 + (1 : Int)) = v2.1.1) ∧
   (Ob (p = p) ∧
   (Ob (q = q) ∧
   (Ob (v1.2.2.1.2 = v2.1.2) ∧
   True))))))))))))
   ((Ob (True) ∧
   (Ob (v0.1.2 = r) ∧
   True)))))))) = _) ?_
  refine ob_s h fun h => ?_
  refine ⟨⟨(((0 : Int), List.replicate (Int.toNat (IntKind.wrap IntKind.i64 (IntKind.wrap IntKind.i64 ((↑(List.length p) : Int) + (↑(List.length q) : Int)) - (1 : Int)))) (0 : Int)), big), ⟨loop_s h⟩, (by repeat' (first | exact trivial | exact ⟨rfl⟩ | refine And.intro ?_ ?_))⟩, fun z0 hz0 => ?_⟩
  obtain ⟨k0, hm0, h⟩ := iter_pos hz0
  refine br_d h (fun h => ?_) (fun h => ?_)
  · refine ⟨⟨(Prod.fst z0, k0, ((0 : Int), (Prod.fst z0).2), big), ⟨⟨hm0.symm, loop_s h⟩⟩, (by repeat' (first | exact trivial | exact ⟨rfl⟩ | refine And.intro ?_ ?_))⟩, fun z1 hz1 => ?_⟩
    obtain ⟨k1, hm1, h⟩ := iter_pos hz1.2
    refine br_d h (fun h => ?_) (fun h => ?_)
    · refine ob_s h fun h => ?_
      refine ob_s h fun h => ?_
      refine ob_s h fun h => ?_
      refine ob_s h fun h => ?_
      refine ob_s h fun h => ?_
      refine ob_s h fun h => ?_
      refine ob_s h fun h => ?_
      refine ob_s h fun h => ?_
      exact ⟨(Prod.fst z1, Prod.fst (Prod.snd z1), (IntKind.wrap IntKind.i64 ((Prod.fst (Prod.snd (Prod.snd z1))).1 + (1 : Int)), List.set (Prod.fst (Prod.snd (Prod.snd z1))).2 (Int.toNat (IntKind.wrap IntKind.i64 ((Prod.fst z1).1 + (Prod.fst (Prod.snd (Prod.snd z1))).1))) (IntKind.wrap IntKind.i64 (List.getD (Prod.fst (Prod.snd (Prod.snd z1))).2 (Int.toNat (IntKind.wrap IntKind.i64 ((Prod.fst z1).1 + (Prod.fst (Prod.snd (Prod.snd z1))).1))) (0 : Int) + IntKind.wrap IntKind.i64 (List.getD p (Int.toNat (Prod.fst z1).1) (0 : Int) * List.getD q (Int.toNat (Prod.fst (Prod.snd (Prod.snd z1))).1) (0 : Int))))), k1), ⟨⟨hz1.1, next_s h⟩⟩, ⟨lt_gs hm1.symm⟩, (by repeat' (first | exact trivial | exact ⟨rfl⟩ | refine And.intro ?_ ?_))⟩
    · have h := exit_s h
      exact ⟨((IntKind.wrap IntKind.i64 ((Prod.fst z1).1 + (1 : Int)), (Prod.fst (Prod.snd (Prod.snd z1))).2), Prod.fst (Prod.snd z1)), ⟨next_s h⟩, ⟨lt_gs hz1.1⟩, (by repeat' (first | exact trivial | exact ⟨rfl⟩ | refine And.intro ?_ ?_))⟩
  · have h := exit_s h
    refine ob_t ?_
    exact ret_s h (fun e => by subst e; exact (by repeat' (first | exact trivial | exact ⟨rfl⟩ | refine And.intro ?_ ?_)))
set_option maxRecDepth 100000 in
theorem L06_times_ok : SpecOK Try.prog 20 true (pureK k_L06_times g_L06_times) := by
  refine pureK_ok (sp := sp0) (fn := Try.f20) (body := bodyOf Try.f20) mixed sp0_ok Try.func20 (by kernel_rfl) (by kernel_rfl) fun as_ ob rs h ho => ?_
  unfold g_L06_times at h
  split at h
  · rename_i p q
    cases h
    exact ⟨Nat.le_of_ble_eq_true rfl, _, _, L06_times_vc p q _ (ok_some ho)⟩
  · cases h
theorem sp_20_ok {sp : Specs} (h : SpecsOK Try.prog sp) : SpecsOK Try.prog (sp_20 sp) := addK_ok L06_times_ok h

/-- shoebox/shoeboxref06.Copy -/
def R06_Copy (c : List (List Int)) : Option (List (List Int)) :=
  if ((0 : Nat) + List.length c) * (40 : Nat) ≤ (140737488355328 : Nat) ∧ (0 : Nat) + List.length c ≤ (9223372036854775807 : Nat) then
   some ([] ++ c)
  else none
def g_R06_Copy : List A → Option (Prop × List RV)
  | [.r (.recs 5 c)] => some (ok (R06_Copy c), [.row 36 (.recs 5 ((val (R06_Copy c))))])
  | _ => none
def k_R06_Copy : List (Option Cont) := [some (.recs 5 [])]
abbrev sp_27 : Specs → Specs := addK 27 true (pureK k_R06_Copy g_R06_Copy)
set_option maxRecDepth 100000 in
theorem R06_Copy_vc (c : List (List Int)) (r : List (List Int)) (h : Option.bind (R06_Copy c) some = some r) : runF Try.f27 (sp0) (fun _ _ _ => none) [.r (.recs 5 c)] [.row 36 (.recs 5 r)] := by
  refine Eq.mp (by kernel_rfl : (
  (Ob (((0 : Nat) + List.length c) * (40 : Nat) ≤ (140737488355328 : Nat) ∧ (0 : Nat) + List.length c ≤ (9223372036854775807 : Nat)) ∧
   (Ob (True) ∧
   (Ob ([] ++ c = r) ∧
   True)))) = _) ?_
  refine ob_s h fun h => ?_
  refine ob_t ?_
  exact ret_s h (fun e => by subst e; exact (by repeat' (first | exact trivial | exact ⟨rfl⟩ | refine And.intro ?_ ?_)))
set_option maxRecDepth 100000 in
theorem R06_Copy_ok : SpecOK Try.prog 27 true (pureK k_R06_Copy g_R06_Copy) := by
  refine pureK_ok (sp := sp0) (fn := Try.f27) (body := bodyOf Try.f27) mixed sp0_ok Try.func27 (by kernel_rfl) (by kernel_rfl) fun as_ ob rs h ho => ?_
  unfold g_R06_Copy at h
  split at h
  · rename_i c
    cases h
    exact ⟨Nat.le_of_ble_eq_true rfl, _, _, R06_Copy_vc c _ (ok_some ho)⟩
  · cases h
theorem sp_27_ok {sp : Specs} (h : SpecsOK Try.prog sp) : SpecsOK Try.prog (sp_27 sp) := addK_ok R06_Copy_ok h

/-- shoebox/filter.IsStable -/
def F_IsStable (sB0 : Int) (sB1 : Int) (sB2 : Int) (sA0 : Int) (sA1 : Int) : Option (Bool × Int) :=
  if (Sx06.chkS sB0 sB1 sB2 sA0 sA1 != (0 : Int)) = true then
   some (false, Sx06.chkS sB0 sB1 sB2 sA0 sA1)
  else
   if Sx06.secB sB0 sB1 sB2 sA0 sA1 = true then
    some ((decide (max sA1 (-sA1) < (16384 : Int)) && decide (max sA0 (-sA0) < (16384 : Int) + sA1), (0 : Int)))
   else none
def g_F_IsStable : List A → Option (Prop × List RV)
  | [.s [.i .i64 sB0, .i .i64 sB1, .i .i64 sB2, .i .i64 sA0, .i .i64 sA1]] => some (ok (F_IsStable sB0 sB1 sB2 sA0 sA1), [.d (.b ((val (F_IsStable sB0 sB1 sB2 sA0 sA1)).1)), .d (.i .i64 ((val (F_IsStable sB0 sB1 sB2 sA0 sA1)).2))])
  | _ => none
def k_F_IsStable : List (Option Cont) := [none]
abbrev sp_48 : Specs → Specs := addK 48 true (pureK k_F_IsStable g_F_IsStable)
set_option maxRecDepth 100000 in
theorem F_IsStable_vc (sB0 : Int) (sB1 : Int) (sB2 : Int) (sA0 : Int) (sA1 : Int) (r : Bool × Int) (h : Option.bind (F_IsStable sB0 sB1 sB2 sA0 sA1) some = some r) : runF Try.f48 ((sp_57 (sp_106 sp0))) (fun _ _ _ => none) [.s [.i .i64 sB0, .i .i64 sB1, .i .i64 sB2, .i .i64 sA0, .i .i64 sA1]] [.d (.b r.1), .d (.i .i64 r.2)] := by
  refine Eq.mp (by kernel_rfl : (
  (Ob (True) ∧
   Br (Sx06.chkS sB0 sB1 sB2 sA0 sA1 != (0 : Int))
   ((Ob (True) ∧
   (Ob (True) ∧
   (Ob (false = r.1) ∧
   (Ob (Sx06.chkS sB0 sB1 sB2 sA0 sA1 = r.2) ∧
   True)))))
   ((Ob (Sx06.secB sB0 sB1 sB2 sA0 sA1 = true) ∧
   (Ob (True) ∧
   (Ob (True) ∧
   (Ob ((decide (max sA1 (-sA1) < (16384 : Int)) && decide (max sA0 (-sA0) < (16384 : Int) + sA1)) = r.1) ∧
   (Ob ((0 : Int) = r.2) ∧
   True)))))))) = _) ?_
  refine ob_t ?_
  refine br_b h (fun h => ?_) (fun h => ?_)
  · refine ob_t ?_
    refine ob_t ?_
    exact ret_s h (fun e => by subst e; exact (by repeat' (first | exact trivial | exact ⟨rfl⟩ | refine And.intro ?_ ?_)))
  · refine ob_s h fun h => ?_
    refine ob_t ?_
    refine ob_t ?_
    exact ret_s h (fun e => by subst e; exact (by repeat' (first | exact trivial | exact ⟨rfl⟩ | refine And.intro ?_ ?_)))
set_option maxRecDepth 100000 in
theorem F_IsStable_ok : SpecOK Try.prog 48 true (pureK k_F_IsStable g_F_IsStable) := by
  refine pureK_ok (sp := (sp_57 (sp_106 sp0))) (fn := Try.f48) (body := bodyOf Try.f48) mixed (sp_57_ok (sp_106_ok sp0_ok)) Try.func48 (by kernel_rfl) (by kernel_rfl) fun as_ ob rs h ho => ?_
  unfold g_F_IsStable at h
  split at h
  · rename_i sB0 sB1 sB2 sA0 sA1
    cases h
    exact ⟨Nat.le_of_ble_eq_true rfl, _, _, F_IsStable_vc sB0 sB1 sB2 sA0 sA1 _ (ok_some ho)⟩
  · cases h
theorem sp_48_ok {sp : Specs} (h : SpecsOK Try.prog sp) : SpecsOK Try.prog (sp_48 sp) := addK_ok F_IsStable_ok h

/-- shoebox/filter.FirstUnstable$1 -/
def F_FirstUnstable_1 (sB0 : Int) (sB1 : Int) (sB2 : Int) (sA0 : Int) (sA1 : Int) : Option Bool :=
  if Sx06.secB sB0 sB1 sB2 sA0 sA1 = true then
   some (!(decide (max sA1 (-sA1) < (16384 : Int)) && decide (max sA0 (-sA0) < (16384 : Int) + sA1)))
  else none
def g_F_FirstUnstable_1 : List A → Option (Prop × List RV)
  | [.s [.i .i64 sB0, .i .i64 sB1, .i .i64 sB2, .i .i64 sA0, .i .i64 sA1]] => some (ok (F_FirstUnstable_1 sB0 sB1 sB2 sA0 sA1), [.d (.b ((val (F_FirstUnstable_1 sB0 sB1 sB2 sA0 sA1))))])
  | _ => none
def k_F_FirstUnstable_1 : List (Option Cont) := [none]
abbrev sp_112 : Specs → Specs := addK 112 true (pureK k_F_FirstUnstable_1 g_F_FirstUnstable_1)
set_option maxRecDepth 100000 in
theorem F_FirstUnstable_1_vc (sB0 : Int) (sB1 : Int) (sB2 : Int) (sA0 : Int) (sA1 : Int) (r : Bool) (h : Option.bind (F_FirstUnstable_1 sB0 sB1 sB2 sA0 sA1) some = some r) : runF Try.f112 ((sp_106 sp0)) (fun _ _ _ => none) [.s [.i .i64 sB0, .i .i64 sB1, .i .i64 sB2, .i .i64 sA0, .i .i64 sA1]] [.d (.b r)] := by
  refine Eq.mp (by kernel_rfl : (
  (Ob (Sx06.secB sB0 sB1 sB2 sA0 sA1 = true) ∧
   (Ob (True) ∧
   (Ob ((!(decide (max sA1 (-sA1) < (16384 : Int)) && decide (max sA0 (-sA0) < (16384 : Int) + sA1))) = r) ∧
   True)))) = _) ?_
  refine ob_s h fun h => ?_
  refine ob_t ?_
  exact ret_s h (fun e => by subst e; exact (by repeat' (first | exact trivial | exact ⟨rfl⟩ | refine And.intro ?_ ?_)))
set_option maxRecDepth 100000 in
theorem F_FirstUnstable_1_ok : SpecOK Try.prog 112 true (pureK k_F_FirstUnstable_1 g_F_FirstUnstable_1) := by
  refine pureK_ok (sp := (sp_106 sp0)) (fn := Try.f112) (body := bodyOf Try.f112) mixed (sp_106_ok sp0_ok) Try.func112 (by kernel_rfl) (by kernel_rfl) fun as_ ob rs h ho => ?_
  unfold g_F_FirstUnstable_1 at h
  split at h
  · rename_i sB0 sB1 sB2 sA0 sA1
    cases h
    exact ⟨Nat.le_of_ble_eq_true rfl, _, _, F_FirstUnstable_1_vc sB0 sB1 sB2 sA0 sA1 _ (ok_some ho)⟩
  · cases h
theorem sp_112_ok {sp : Specs} (h : SpecsOK Try.prog sp) : SpecsOK Try.prog (sp_112 sp) := addK_ok F_FirstUnstable_1_ok h

def slices_IndexFunc_FilterSection_b0 (s : List (List Int)) (x0 : Int) : Option (Int ⊕ (Int ⊕ Unit)) :=
  if x0 < (↑(List.length s) : Int) then
   if (0 : Int) ≤ x0 ∧ x0 < (↑(List.length s) : Int) then
    if Int.toNat x0 < List.length s then
     Option.bind (F_FirstUnstable_1 (List.getD (List.getD s (Int.toNat x0) []) (0 : Nat) (0 : Int)) (List.getD (List.getD s (Int.toNat x0) []) (1 : Nat) (0 : Int)) (List.getD (List.getD s (Int.toNat x0) []) (2 : Nat) (0 : Int)) (List.getD (List.getD s (Int.toNat x0) []) (3 : Nat) (0 : Int)) (List.getD (List.getD s (Int.toNat x0) []) (4 : Nat) (0 : Int))) fun r0 =>
     if (r0) = true then
      some (.inr (.inl x0))
     else
      some (.inl (IntKind.wrap IntKind.i64 (x0 + (1 : Int))))
    else none
   else none
  else
   some (.inr ((.inr ())))
def slices_IndexFunc_FilterSection_r0_0 (y0_0 : Int) : Option Int :=
  some y0_0
def slices_IndexFunc_FilterSection_r0_1 (y0_1 : Unit) : Option Int :=
  some (-1 : Int)
def slices_IndexFunc_FilterSection_r0 : (Int ⊕ Unit) → Option Int :=
  (Sum.elim (slices_IndexFunc_FilterSection_r0_0) (slices_IndexFunc_FilterSection_r0_1))
/-- slices.IndexFunc[[]shoebox/api.FilterSection,shoebox/api.FilterSection] -/
def slices_IndexFunc_FilterSection (s : List (List Int)) : Option Int :=
  Option.bind (iter (slices_IndexFunc_FilterSection_b0 s) big (0 : Int)) (slices_IndexFunc_FilterSection_r0)
def g_slices_IndexFunc_FilterSection : List A → Option (Prop × List RV)
  | [.r (.recs 5 s), .f 112] => some (ok (slices_IndexFunc_FilterSection s), [.d (.i .i64 ((val (slices_IndexFunc_FilterSection s))))])
  | _ => none
def k_slices_IndexFunc_FilterSection : List (Option Cont) := [some (.recs 5 []), none]
abbrev sp_111 : Specs → Specs := addK 111 true (pureK k_slices_IndexFunc_FilterSection g_slices_IndexFunc_FilterSection)
set_option maxRecDepth 100000 in
theorem slices_IndexFunc_FilterSection_vc (s : List (List Int)) (r : Int) (h : Option.bind (slices_IndexFunc_FilterSection s) some = some r) : runF Try.f111 ((sp_112 sp0)) (fun gs id _ => match id with
 | 0 => some ⟨Int × Nat, fun z => ⟨[(0, .w (.c (.o 0))), (1, .w (.c (.fn 112 []))), (7, .w (.c (.d (.i .i64 ((↑(List.length s) : Int)))))), (8, .w (.c (.d (.i .i64 (Prod.fst z)))))], [(0, .ext (.recs 5 s))], 2⟩, fun z => Option.bind (iter (slices_IndexFunc_FilterSection_b0 s) (Prod.snd z) (Prod.fst z)) (fun y0 => Option.bind (slices_IndexFunc_FilterSection_r0 y0) some) = some r, fun z => Prod.snd z⟩
 | _ => none) [.r (.recs 5 s), .f 112] [.d (.i .i64 r)] := by
  refine Eq.mp (by kernel_rfl : (
  ((∃ (v0 : Int × Nat), (Ob ((Option.bind (iter (slices_IndexFunc_FilterSection_b0 s) v0.2 v0.1) fun y0 => Option.bind (slices_IndexFunc_FilterSection_r0 y0) some) = some r) ∧
   (Ob ((↑(List.length s) : Int) = (↑(List.length s) : Int)) ∧
   (Ob ((0 : Int) = v0.1) ∧
   (Ob (s = s) ∧
   True))))) ∧
   (∀ (v0 : Int × Nat), ((Option.bind (iter (slices_IndexFunc_FilterSection_b0 s) v0.2 v0.1) fun y0 => Option.bind (slices_IndexFunc_FilterSection_r0 y0) some) = some r →
   Br (decide (v0.1 < (↑(List.length s) : Int)))
   ((Ob ((0 : Int) ≤ v0.1 ∧ v0.1 < (↑(List.length s) : Int)) ∧
   (Ob (Int.toNat v0.1 < List.length s) ∧
   (Ob (ok (F_FirstUnstable_1 (List.getD (List.getD s (Int.toNat v0.1) []) (0 : Nat) (0 : Int)) (List.getD (List.getD s (Int.toNat v0.1) []) (1 : Nat) (0 : Int)) (List.getD (List.getD s (Int.toNat v0.1) []) (2 : Nat) (0 : Int)) (List.getD (List.getD s (Int.toNat v0.1) []) (3 : Nat) (0 : Int)) (List.getD (List.getD s (Int.toNat v0.1) []) (4 : Nat) (0 : Int)))) ∧
   Br (val (F_FirstUnstable_1 (List.getD (List.getD s (Int.toNat v0.1) []) (0 : Nat) (0 : Int)) (List.getD (List.getD s (Int.toNat v0.1) []) (1 : Nat) (0 : Int)) (List.getD (List.getD s (Int.toNat v0.1) []) (2 : Nat) (0 : Int)) (List.getD (List.getD s (Int.toNat v0.1) []) (3 : Nat) (0 : Int)) (List.getD (List.getD s (Int.toNat v0.1) []) (4 : Nat) (0 : Int))))
   ((Ob (True) ∧
   (Ob (v0.1 = r) ∧
   True)))
   ((∃ (v1 : Int × Nat), (Ob ((Option.bind (iter (slices_IndexFunc_FilterSection_b0 s) v1.2 v1.1) fun y0 => Option.bind (slices_IndexFunc_FilterSection_r0 y0) some) = some r) ∧
   (Ob (v1.2 < v0.2) ∧
   (Ob ((↑(List.length s) : Int) = (↑(List.length s) : Int)) ∧
   (Ob (IntKind.wrap IntKind.i64 (v0.1 + (1 : Int)) = v1.1) ∧
   (Ob (s = s) ∧
   True)))))))))))
   ((Ob (True) ∧
   (Ob ((-1 : Int) = r) ∧
   True))))))) = _) ?_
  refine ⟨⟨((0 : Int), big), ⟨loop_s h⟩, (by repeat' (first | exact trivial | exact ⟨rfl⟩ | refine And.intro ?_ ?_))⟩, fun z1 hz1 => ?_⟩
  obtain ⟨k1, hm1, h⟩ := iter_pos hz1
  refine br_d h (fun h => ?_) (fun h => ?_)
  · refine ob_s h fun h => ?_
    refine ob_s h fun h => ?_
    refine call_s h fun h => ?_
    refine br_b h (fun h => ?_) (fun h => ?_)
    · have h := exit_s h
      refine ob_t ?_
      exact ret_s h (fun e => by subst e; exact (by repeat' (first | exact trivial | exact ⟨rfl⟩ | refine And.intro ?_ ?_)))
    · exact ⟨(IntKind.wrap IntKind.i64 (Prod.fst z1 + (1 : Int)), k1), ⟨next_s h⟩, ⟨lt_gs hm1.symm⟩, (by repeat' (first | exact trivial | exact ⟨rfl⟩ | refine And.intro ?_ ?_))⟩
  · have h := exit_s h
    refine ob_t ?_
    exact ret_s h (fun e => by subst e; exact (by repeat' (first | exact trivial | exact ⟨rfl⟩ | refine And.intro ?_ ?_)))
set_option maxRecDepth 100000 in
theorem slices_IndexFunc_FilterSection_ok : SpecOK Try.prog 111 true (pureK k_slices_IndexFunc_FilterSection g_slices_IndexFunc_FilterSection) := by
  refine pureK_ok (sp := (sp_112 sp0)) (fn := Try.f111) (body := bodyOf Try.f111) mixed (sp_112_ok sp0_ok) Try.func111 (by kernel_rfl) (by kernel_rfl) fun as_ ob rs h ho => ?_
  unfold g_slices_IndexFunc_FilterSection at h
  split at h
  · rename_i s
    cases h
    exact ⟨Nat.le_of_ble_eq_true rfl, _, _, slices_IndexFunc_FilterSection_vc s _ (ok_some ho)⟩
  · cases h
theorem sp_111_ok {sp : Specs} (h : SpecsOK Try.prog sp) : SpecsOK Try.prog (sp_111 sp) := addK_ok slices_IndexFunc_FilterSection_ok h

/-- shoebox/filter.FirstUnstable -/
def F_FirstUnstable (c : List (List Int)) : Option (Int × Int) :=
  if List.length c ≤ (1000000000 : Nat) then
   if (Sx06.chkE c != (0 : Int)) = true then
    some (((0 : Int), Sx06.chkE c))
   else
    Option.bind (slices_IndexFunc_FilterSection c) fun r0 =>
    if r0 < (0 : Int) then
     some (((0 : Int), (12 : Int)))
    else
     some ((r0, (0 : Int)))
  else none
def g_F_FirstUnstable : List A → Option (Prop × List RV)
  | [.r (.recs 5 c)] => some (ok (F_FirstUnstable c), [.d (.i .i64 ((val (F_FirstUnstable c)).1)), .d (.i .i64 ((val (F_FirstUnstable c)).2))])
  | _ => none
def k_F_FirstUnstable : List (Option Cont) := [some (.recs 5 [])]
abbrev sp_54 : Specs → Specs := addK 54 true (pureK k_F_FirstUnstable g_F_FirstUnstable)
set_option maxRecDepth 100000 in
theorem F_FirstUnstable_vc (c : List (List Int)) (r : Int × Int) (h : Option.bind (F_FirstUnstable c) some = some r) : runF Try.f54 ((sp_86 (sp_111 (sp_112 sp0)))) (fun _ _ _ => none) [.r (.recs 5 c)] [.d (.i .i64 r.1), .d (.i .i64 r.2)] := by
  refine Eq.mp (by kernel_rfl : (
  (Ob (List.length c ≤ (1000000000 : Nat)) ∧
   Br (Sx06.chkE c != (0 : Int))
   ((Ob (True) ∧
   (Ob (True) ∧
   (Ob ((0 : Int) = r.1) ∧
   (Ob (Sx06.chkE c = r.2) ∧
   True)))))
   ((Ob (ok (slices_IndexFunc_FilterSection c)) ∧
   Br (decide (val (slices_IndexFunc_FilterSection c) < (0 : Int)))
   ((Ob (True) ∧
   (Ob (True) ∧
   (Ob ((0 : Int) = r.1) ∧
   (Ob ((12 : Int) = r.2) ∧
   True)))))
   ((Ob (True) ∧
   (Ob (True) ∧
   (Ob (val (slices_IndexFunc_FilterSection c) = r.1) ∧
   (Ob ((0 : Int) = r.2) ∧
   True))))))))) = _) ?_
  refine ob_s h fun h => ?_
  refine br_b h (fun h => ?_) (fun h => ?_)
  · refine ob_t ?_
    refine ob_t ?_
    exact ret_s h (fun e => by subst e; exact (by repeat' (first | exact trivial | exact ⟨rfl⟩ | refine And.intro ?_ ?_)))
  · refine call_s h fun h => ?_
    refine br_d h (fun h => ?_) (fun h => ?_)
    · refine ob_t ?_
      refine ob_t ?_
      exact ret_s h (fun e => by subst e; exact (by repeat' (first | exact trivial | exact ⟨rfl⟩ | refine And.intro ?_ ?_)))
    · refine ob_t ?_
      refine ob_t ?_
      exact ret_s h (fun e => by subst e; exact (by repeat' (first | exact trivial | exact ⟨rfl⟩ | refine And.intro ?_ ?_)))
set_option maxRecDepth 100000 in
theorem F_FirstUnstable_ok : SpecOK Try.prog 54 true (pureK k_F_FirstUnstable g_F_FirstUnstable) := by
  refine pureK_ok (sp := (sp_86 (sp_111 (sp_112 sp0)))) (fn := Try.f54) (body := bodyOf Try.f54) mixed (sp_86_ok (sp_111_ok (sp_112_ok sp0_ok))) Try.func54 (by kernel_rfl) (by kernel_rfl) fun as_ ob rs h ho => ?_
  unfold g_F_FirstUnstable at h
  split at h
  · rename_i c
    cases h
    exact ⟨Nat.le_of_ble_eq_true rfl, _, _, F_FirstUnstable_vc c _ (ok_some ho)⟩
  · cases h
theorem sp_54_ok {sp : Specs} (h : SpecsOK Try.prog sp) : SpecsOK Try.prog (sp_54 sp) := addK_ok F_FirstUnstable_ok h

/-- shoebox/shoeboxtop.filtered -/
def T_filtered : Option Bool :=
  some true
def g_T_filtered : List A → Option (Prop × List RV)
  | [] => some (ok (T_filtered), [.d (.b ((val (T_filtered))))])
  | _ => none
def k_T_filtered : List (Option Cont) := []
abbrev sp_80 : Specs → Specs := addK 80 true (pureK k_T_filtered g_T_filtered)
set_option maxRecDepth 100000 in
theorem T_filtered_vc (r : Bool) (h : Option.bind (T_filtered) some = some r) : runF Try.f80 ((sp_81 (sp_60 (sp_34 sp0)))) (fun _ _ _ => none) [] [.d (.b r)] := by
  refine Eq.mp (by kernel_rfl : (
  (Ob (ok L06_Half) ∧
   (Ob (List.length [[(8192 : Int), (0 : Int), (0 : Int), (-8192 : Int), (0 : Int)]] ≤ (1000000000 : Nat)) ∧
   (Ob (List.length (Sx06.impL [[(8192 : Int), (0 : Int), (0 : Int), (-8192 : Int), (0 : Int)]] (100 : Int) (4 : Int)) ≤ (1000000000 : Nat)) ∧
   (Ob (True) ∧
   (Ob (decide (Sx06.impL [[(8192 : Int), (0 : Int), (0 : Int), (-8192 : Int), (0 : Int)]] (100 : Int) (4 : Int) = [(50 : Int), (25 : Int), (13 : Int), (7 : Int)]) = r) ∧
   True)))))) = _) ?_
  refine ob_c (p := ok L06_Half) (by decide) ?_
  refine ob_c (p := List.length [[(8192 : Int), (0 : Int), (0 : Int), (-8192 : Int), (0 : Int)]] ≤ (1000000000 : Nat)) (by decide) ?_
  refine ob_c (p := List.length (Sx06.impL [[(8192 : Int), (0 : Int), (0 : Int), (-8192 : Int), (0 : Int)]] (100 : Int) (4 : Int)) ≤ (1000000000 : Nat)) (by decide) ?_
  refine ob_t ?_
  exact ret_s h (fun e => by subst e; exact (by repeat' (first | exact trivial | exact ⟨rfl⟩ | refine And.intro ?_ ?_)))
set_option maxRecDepth 100000 in
theorem T_filtered_ok : SpecOK Try.prog 80 true (pureK k_T_filtered g_T_filtered) := by
  refine pureK_ok (sp := (sp_81 (sp_60 (sp_34 sp0)))) (fn := Try.f80) (body := bodyOf Try.f80) mixed (sp_81_ok (sp_60_ok (sp_34_ok sp0_ok))) Try.func80 (by kernel_rfl) (by kernel_rfl) fun as_ ob rs h ho => ?_
  unfold g_T_filtered at h
  split at h
  · cases h
    exact ⟨Nat.le_of_ble_eq_true rfl, _, _, T_filtered_vc _ (ok_some ho)⟩
  · cases h
theorem sp_80_ok {sp : Specs} (h : SpecsOK Try.prog sp) : SpecsOK Try.prog (sp_80 sp) := addK_ok T_filtered_ok h

def T_TopStableSections_b1 (p0 : Int) (p1 : Int) (q0 : Int) (q1 : Int) (x0 : Int × List Int) (x1 : (Int × List Int)) : Option ((Int × List Int) ⊕ (List Int)) :=
  if x1.1 < (3 : Int) then
   if (0 : Int) ≤ IntKind.wrap IntKind.i64 (x0.1 + x1.1) ∧ IntKind.wrap IntKind.i64 (x0.1 + x1.1) < (↑(List.length x1.2) : Int) then
    if Int.toNat (IntKind.wrap IntKind.i64 (x0.1 + x1.1)) < List.length x1.2 then
     if (0 : Int) ≤ x0.1 ∧ x0.1 < (↑(List.length [(4 : Int), p0, p1]) : Int) then
      if Int.toNat x0.1 < List.length [(4 : Int), p0, p1] then
       if (0 : Int) ≤ x1.1 ∧ x1.1 < (↑(List.length [(4 : Int), q0, q1]) : Int) then
        if Int.toNat x1.1 < List.length [(4 : Int), q0, q1] then
         if (0 : Int) ≤ IntKind.wrap IntKind.i64 (x0.1 + x1.1) ∧ IntKind.wrap IntKind.i64 (x0.1 + x1.1) < (↑(List.length x1.2) : Int) then
          if Int.toNat (IntKind.wrap IntKind.i64 (x0.1 + x1.1)) < List.length x1.2 then
           some (.inl ((IntKind.wrap IntKind.i64 (x1.1 + (1 : Int)), List.set x1.2 (Int.toNat (IntKind.wrap IntKind.i64 (x0.1 + x1.1))) (IntKind.wrap IntKind.i64 (List.getD x1.2 (Int.toNat (IntKind.wrap IntKind.i64 (x0.1 + x1.1))) (0 : Int) + IntKind.wrap IntKind.i64 (List.getD [(4 : Int), p0, p1] (Int.toNat x0.1) (0 : Int) * List.getD [(4 : Int), q0, q1] (Int.toNat x1.1) (0 : Int)))))))
          else none
         else none
        else none
       else none
      else none
     else none
    else none
   else none
  else
   some (.inr x1.2)
def T_TopStableSections_r1 (x0 : Int × List Int) (y1_0 : List Int) : Option ((Int × List Int) ⊕ (List Int)) :=
  some (.inl ((IntKind.wrap IntKind.i64 (x0.1 + (1 : Int)), y1_0)))
def T_TopStableSections_b0 (p0 : Int) (p1 : Int) (q0 : Int) (q1 : Int) (x0 : (Int × List Int)) : Option ((Int × List Int) ⊕ (List Int)) :=
  if x0.1 < (3 : Int) then
   Option.bind (iter (T_TopStableSections_b1 p0 p1 q0 q1 x0) big (((0 : Int), x0.2))) (T_TopStableSections_r1 x0)
  else
   some (.inr x0.2)
def T_TopStableSections_r0 (p0 : Int) (p1 : Int) (q0 : Int) (q1 : Int) (y0_0 : List Int) : Option Bool :=
  if List.length y0_0 ≤ (1000000000 : Nat) then
   Option.bind (R06_Copy ([] ++ [[(16384 : Int), (0 : Int), (0 : Int), IntKind.wrap IntKind.i64 (p0 * (4096 : Int)), IntKind.wrap IntKind.i64 (p1 * (4096 : Int))]] ++ [[(16384 : Int), (0 : Int), (0 : Int), IntKind.wrap IntKind.i64 (q0 * (4096 : Int)), IntKind.wrap IntKind.i64 (q1 * (4096 : Int))]])) fun r2 =>
   Option.bind (F_FirstUnstable r2) fun r3 =>
   if (Sx06.polyE y0_0 == (0 : Int)) = true then
    if (r3.2 == (0 : Int)) = true then
     some (Sx06.schurOk y0_0 == (r3.2 == (12 : Int)))
    else
     if (r3.2 == (12 : Int)) = true then
      some (Sx06.schurOk y0_0 == (r3.2 == (12 : Int)))
     else
      some false
   else
    some false
  else none
/-- shoebox/shoeboxtop.TopStableSections -/
def T_TopStableSections (p0 : Int) (p1 : Int) (q0 : Int) (q1 : Int) : Option Bool :=
  if (!(decide ((-6 : Int) ≤ p0) && decide (p0 ≤ (6 : Int)))) = true then
   some true
  else
   if (!(decide ((-6 : Int) ≤ p1) && decide (p1 ≤ (6 : Int)))) = true then
    some true
   else
    if ((0 : Nat) + List.length [[(16384 : Int), (0 : Int), (0 : Int), IntKind.wrap IntKind.i64 (p0 * (4096 : Int)), IntKind.wrap IntKind.i64 (p1 * (4096 : Int))]]) * (40 : Nat) ≤ (140737488355328 : Nat) ∧ (0 : Nat) + List.length [[(16384 : Int), (0 : Int), (0 : Int), IntKind.wrap IntKind.i64 (p0 * (4096 : Int)), IntKind.wrap IntKind.i64 (p1 * (4096 : Int))]] ≤ (9223372036854775807 : Nat) then
     if (0 : Int) ≤ (0 : Int) ∧ (0 : Int) < (↑(List.length ([] ++ [[(16384 : Int), (0 : Int), (0 : Int), IntKind.wrap IntKind.i64 (p0 * (4096 : Int)), IntKind.wrap IntKind.i64 (p1 * (4096 : Int))]])) : Int) then
      if (0 : Nat) < List.length ([] ++ [[(16384 : Int), (0 : Int), (0 : Int), IntKind.wrap IntKind.i64 (p0 * (4096 : Int)), IntKind.wrap IntKind.i64 (p1 * (4096 : Int))]]) then
       Option.bind (F_IsStable (List.getD (List.getD ([] ++ [[(16384 : Int), (0 : Int), (0 : Int), IntKind.wrap IntKind.i64 (p0 * (4096 : Int)), IntKind.wrap IntKind.i64 (p1 * (4096 : Int))]]) (0 : Nat) []) (0 : Nat) (0 : Int)) (List.getD (List.getD ([] ++ [[(16384 : Int), (0 : Int), (0 : Int), IntKind.wrap IntKind.i64 (p0 * (4096 : Int)), IntKind.wrap IntKind.i64 (p1 * (4096 : Int))]]) (0 : Nat) []) (1 : Nat) (0 : Int)) (List.getD (List.getD ([] ++ [[(16384 : Int), (0 : Int), (0 : Int), IntKind.wrap IntKind.i64 (p0 * (4096 : Int)), IntKind.wrap IntKind.i64 (p1 * (4096 : Int))]]) (0 : Nat) []) (2 : Nat) (0 : Int)) (List.getD (List.getD ([] ++ [[(16384 : Int), (0 : Int), (0 : Int), IntKind.wrap IntKind.i64 (p0 * (4096 : Int)), IntKind.wrap IntKind.i64 (p1 * (4096 : Int))]]) (0 : Nat) []) (3 : Nat) (0 : Int)) (List.getD (List.getD ([] ++ [[(16384 : Int), (0 : Int), (0 : Int), IntKind.wrap IntKind.i64 (p0 * (4096 : Int)), IntKind.wrap IntKind.i64 (p1 * (4096 : Int))]]) (0 : Nat) []) (4 : Nat) (0 : Int))) fun r0 =>
       if List.length [(4 : Int), p0, p1] ≤ (1000000000 : Nat) then
        if List.length [(4 : Int), p0, p1] ≤ (1000000000 : Nat) then
         if (r0.2 != (0 : Int)) = true then
          some false
         else
          if (Sx06.polyE [(4 : Int), p0, p1] != (0 : Int)) = true then
           some false
          else
           if (!r0.1 == Sx06.schurOk [(4 : Int), p0, p1]) = true then
            some false
           else
            if (!(decide ((-6 : Int) ≤ q0) && decide (q0 ≤ (6 : Int)))) = true then
             some true
            else
             if (!(decide ((-6 : Int) ≤ q1) && decide (q1 ≤ (6 : Int)))) = true then
              some true
             else
              if (List.length ([] ++ [[(16384 : Int), (0 : Int), (0 : Int), IntKind.wrap IntKind.i64 (p0 * (4096 : Int)), IntKind.wrap IntKind.i64 (p1 * (4096 : Int))]]) + List.length [[(16384 : Int), (0 : Int), (0 : Int), IntKind.wrap IntKind.i64 (q0 * (4096 : Int)), IntKind.wrap IntKind.i64 (q1 * (4096 : Int))]]) * (40 : Nat) ≤ (140737488355328 : Nat) ∧ List.length ([] ++ [[(16384 : Int), (0 : Int), (0 : Int), IntKind.wrap IntKind.i64 (p0 * (4096 : Int)), IntKind.wrap IntKind.i64 (p1 * (4096 : Int))]]) + List.length [[(16384 : Int), (0 : Int), (0 : Int), IntKind.wrap IntKind.i64 (q0 * (4096 : Int)), IntKind.wrap IntKind.i64 (q1 * (4096 : Int))]] ≤ (9223372036854775807 : Nat) then
               if (0 : Int) ≤ IntKind.wrap IntKind.i64 ((0 : Int) + (1 : Int)) ∧ IntKind.wrap IntKind.i64 ((0 : Int) + (1 : Int)) < (↑(List.length ([] ++ [[(16384 : Int), (0 : Int), (0 : Int), IntKind.wrap IntKind.i64 (p0 * (4096 : Int)), IntKind.wrap IntKind.i64 (p1 * (4096 : Int))]] ++ [[(16384 : Int), (0 : Int), (0 : Int), IntKind.wrap IntKind.i64 (q0 * (4096 : Int)), IntKind.wrap IntKind.i64 (q1 * (4096 : Int))]])) : Int) then
                if (1 : Nat) < List.length ([] ++ [[(16384 : Int), (0 : Int), (0 : Int), IntKind.wrap IntKind.i64 (p0 * (4096 : Int)), IntKind.wrap IntKind.i64 (p1 * (4096 : Int))]] ++ [[(16384 : Int), (0 : Int), (0 : Int), IntKind.wrap IntKind.i64 (q0 * (4096 : Int)), IntKind.wrap IntKind.i64 (q1 * (4096 : Int))]]) then
                 Option.bind (F_IsStable (List.getD (List.getD ([] ++ [[(16384 : Int), (0 : Int), (0 : Int), IntKind.wrap IntKind.i64 (p0 * (4096 : Int)), IntKind.wrap IntKind.i64 (p1 * (4096 : Int))]] ++ [[(16384 : Int), (0 : Int), (0 : Int), IntKind.wrap IntKind.i64 (q0 * (4096 : Int)), IntKind.wrap IntKind.i64 (q1 * (4096 : Int))]]) (1 : Nat) []) (0 : Nat) (0 : Int)) (List.getD (List.getD ([] ++ [[(16384 : Int), (0 : Int), (0 : Int), IntKind.wrap IntKind.i64 (p0 * (4096 : Int)), IntKind.wrap IntKind.i64 (p1 * (4096 : Int))]] ++ [[(16384 : Int), (0 : Int), (0 : Int), IntKind.wrap IntKind.i64 (q0 * (4096 : Int)), IntKind.wrap IntKind.i64 (q1 * (4096 : Int))]]) (1 : Nat) []) (1 : Nat) (0 : Int)) (List.getD (List.getD ([] ++ [[(16384 : Int), (0 : Int), (0 : Int), IntKind.wrap IntKind.i64 (p0 * (4096 : Int)), IntKind.wrap IntKind.i64 (p1 * (4096 : Int))]] ++ [[(16384 : Int), (0 : Int), (0 : Int), IntKind.wrap IntKind.i64 (q0 * (4096 : Int)), IntKind.wrap IntKind.i64 (q1 * (4096 : Int))]]) (1 : Nat) []) (2 : Nat) (0 : Int)) (List.getD (List.getD ([] ++ [[(16384 : Int), (0 : Int), (0 : Int), IntKind.wrap IntKind.i64 (p0 * (4096 : Int)), IntKind.wrap IntKind.i64 (p1 * (4096 : Int))]] ++ [[(16384 : Int), (0 : Int), (0 : Int), IntKind.wrap IntKind.i64 (q0 * (4096 : Int)), IntKind.wrap IntKind.i64 (q1 * (4096 : Int))]]) (1 : Nat) []) (3 : Nat) (0 : Int)) (List.getD (List.getD ([] ++ [[(16384 : Int), (0 : Int), (0 : Int), IntKind.wrap IntKind.i64 (p0 * (4096 : Int)), IntKind.wrap IntKind.i64 (p1 * (4096 : Int))]] ++ [[(16384 : Int), (0 : Int), (0 : Int), IntKind.wrap IntKind.i64 (q0 * (4096 : Int)), IntKind.wrap IntKind.i64 (q1 * (4096 : Int))]]) (1 : Nat) []) (4 : Nat) (0 : Int))) fun r1 =>
                 if List.length [(4 : Int), q0, q1] ≤ (1000000000 : Nat) then
                  if List.length [(4 : Int), q0, q1] ≤ (1000000000 : Nat) then
                   if (r1.2 != (0 : Int)) = true then
                    some false
                   else
                    if (Sx06.polyE [(4 : Int), q0, q1] != (0 : Int)) = true then
                     some false
                    else
                     if (!r1.1 == Sx06.schurOk [(4 : Int), q0, q1]) = true then
                      some false
                     else
                      Option.bind (iter (T_TopStableSections_b0 p0 p1 q0 q1) big (((0 : Int), List.replicate (5 : Nat) (0 : Int)))) (T_TopStableSections_r0 p0 p1 q0 q1)
                  else none
                 else none
                else none
               else none
              else none
        else none
       else none
      else none
     else none
    else none
def g_T_TopStableSections : List A → Option (Prop × List RV)
  | [.s [.i .i64 p0, .i .i64 p1], .s [.i .i64 q0, .i .i64 q1]] => some (ok (T_TopStableSections p0 p1 q0 q1), [.d (.b ((val (T_TopStableSections p0 p1 q0 q1))))])
  | _ => none
def k_T_TopStableSections : List (Option Cont) := [none, none]
abbrev sp_16 : Specs → Specs := addK 16 true (pureK k_T_TopStableSections g_T_TopStableSections)
set_option maxRecDepth 100000 in
theorem T_TopStableSections_vc (p0 : Int) (p1 : Int) (q0 : Int) (q1 : Int) (r : Bool) (h : Option.bind (T_TopStableSections p0 p1 q0 q1) some = some r) : runF Try.f16 ((sp_80 (sp_50 (sp_48 (sp_22 (sp_21 (sp_27 (sp_54 sp0)))))))) (fun gs id _ => match id with
 | 2 => some ⟨(Int × List Int) × Nat, fun z => ⟨[(6, .w (.c (.o 2))), (14, .w (.c (.o 3))), (15, .w (.c (.o 4))), (16, .w (.c (.o 5))), (17, .w (.c (.d (.i .i64 (Prod.fst (Prod.fst z))))))], [(2, .row 36 (.recs 5 ([] ++ [[(16384 : Int), (0 : Int), (0 : Int), IntKind.wrap IntKind.i64 (p0 * (4096 : Int)), IntKind.wrap IntKind.i64 (p1 * (4096 : Int))]] ++ [[(16384 : Int), (0 : Int), (0 : Int), IntKind.wrap IntKind.i64 (q0 * (4096 : Int)), IntKind.wrap IntKind.i64 (q1 * (4096 : Int))]]))), (3, .row 3 (.ints .i64 ([(4 : Int), p0, p1]))), (4, .row 3 (.ints .i64 ([(4 : Int), q0, q1]))), (5, .row 3 (.ints .i64 (Prod.snd (Prod.fst z))))], 6⟩, fun z => Option.bind (iter (T_TopStableSections_b0 p0 p1 q0 q1) (Prod.snd z) (Prod.fst z)) (fun y0 => Option.bind (T_TopStableSections_r0 p0 p1 q0 q1 y0) some) = some r, fun z => Prod.snd z⟩
 | 4 => some ⟨(Int × List Int) × Nat × (Int × List Int) × Nat, fun z => ⟨[(6, .w (.c (.o 2))), (14, .w (.c (.o 3))), (15, .w (.c (.o 4))), (16, .w (.c (.o 5))), (17, .w (.c (.d (.i .i64 ((Prod.fst z).1))))), (18, .w (.c (.d (.i .i64 (Prod.fst (Prod.fst (Prod.snd (Prod.snd z))))))))], [(2, .row 36 (.recs 5 ([] ++ [[(16384 : Int), (0 : Int), (0 : Int), IntKind.wrap IntKind.i64 (p0 * (4096 : Int)), IntKind.wrap IntKind.i64 (p1 * (4096 : Int))]] ++ [[(16384 : Int), (0 : Int), (0 : Int), IntKind.wrap IntKind.i64 (q0 * (4096 : Int)), IntKind.wrap IntKind.i64 (q1 * (4096 : Int))]]))), (3, .row 3 (.ints .i64 ([(4 : Int), p0, p1]))), (4, .row 3 (.ints .i64 ([(4 : Int), q0, q1]))), (5, .row 3 (.ints .i64 (Prod.snd (Prod.fst (Prod.snd (Prod.snd z))))))], 6⟩, fun z => Prod.fst (Prod.snd z) + 1 = gs.getD 0 0 ∧ Option.bind (iter (T_TopStableSections_b1 p0 p1 q0 q1 (Prod.fst z)) (Prod.snd (Prod.snd (Prod.snd z))) (Prod.fst (Prod.snd (Prod.snd z)))) (fun y0 => Option.bind (T_TopStableSections_r1 (Prod.fst z) y0) (stepK (T_TopStableSections_b0 p0 p1 q0 q1) (Prod.fst (Prod.snd z)) (fun y1 => Option.bind (T_TopStableSections_r0 p0 p1 q0 q1 y1) some))) = some r, fun z => Prod.snd (Prod.snd (Prod.snd z))⟩
 | _ => none) [.s [.i .i64 p0, .i .i64 p1], .s [.i .i64 q0, .i .i64 q1]] [.d (.b r)] := by
  refine Eq.mp (by kernel_rfl : (
  (Ob (ok T_filtered) ∧
   (Ob ((0 : Int) ≤ (0 : Int) ∧ (0 : Int) < (↑(2 : Nat) : Int)) ∧
   (Ob ((0 : Int) ≤ (0 : Int) ∧ (0 : Int) < (↑(2 : Nat) : Int)) ∧
   (Ob (True) ∧
   Br (!(decide ((-6 : Int) ≤ p0) && decide (p0 ≤ (6 : Int))))
   ((Ob (True) ∧
   (Ob (true = r) ∧
   True)))
   ((Ob ((0 : Int) ≤ (0 : Int) ∧ (0 : Int) < (↑(2 : Nat) : Int)) ∧
   (Ob ((0 : Int) ≤ (1 : Int) ∧ (1 : Int) < (↑(2 : Nat) : Int)) ∧
   (Ob (True) ∧
   Br (!(decide ((-6 : Int) ≤ p1) && decide (p1 ≤ (6 : Int))))
   ((Ob (True) ∧
   (Ob (true = r) ∧
   True)))
   ((Ob ((0 : Int) ≤ (0 : Int) ∧ (0 : Int) < (↑(2 : Nat) : Int)) ∧
   (Ob ((0 : Int) ≤ (0 : Int) ∧ (0 : Int) < (↑(2 : Nat) : Int)) ∧
   (Ob ((0 : Int) ≤ (0 : Int) ∧ (0 : Int) < (↑(2 : Nat) : Int)) ∧
   (Ob ((0 : Int) ≤ (1 : Int) ∧ (1 : Int) < (↑(2 : Nat) : Int)) ∧
   (Ob (((0 : Nat) + List.length [[(16384 : Int), (0 : Int), (0 : Int), IntKind.wrap IntKind.i64 (p0 * (4096 : Int)), IntKind.wrap IntKind.i64 (p1 * (4096 : Int))]]) * (40 : Nat) ≤ (140737488355328 : Nat) ∧ (0 : Nat) + List.length [[(16384 : Int), (0 : Int), (0 : Int), IntKind.wrap IntKind.i64 (p0 * (4096 : Int)), IntKind.wrap IntKind.i64 (p1 * (4096 : Int))]] ≤ (9223372036854775807 : Nat)) ∧
   (Ob ((0 : Int) ≤ (0 : Int) ∧ (0 : Int) < (↑(2 : Nat) : Int)) ∧
   (Ob ((0 : Int) ≤ (0 : Int) ∧ (0 : Int) < (↑(2 : Nat) : Int)) ∧
   (Ob ((0 : Int) ≤ (0 : Int) ∧ (0 : Int) < (↑(2 : Nat) : Int)) ∧
   (Ob ((0 : Int) ≤ (1 : Int) ∧ (1 : Int) < (↑(2 : Nat) : Int)) ∧
   (Ob ((0 : Int) ≤ (0 : Int) ∧ (0 : Int) < (↑(2 : Nat) : Int)) ∧
   (Ob ((0 : Int) ≤ (0 : Int) ∧ (0 : Int) < (↑(List.length ([] ++ [[(16384 : Int), (0 : Int), (0 : Int), IntKind.wrap IntKind.i64 (p0 * (4096 : Int)), IntKind.wrap IntKind.i64 (p1 * (4096 : Int))]])) : Int)) ∧
   (Ob ((0 : Nat) < List.length ([] ++ [[(16384 : Int), (0 : Int), (0 : Int), IntKind.wrap IntKind.i64 (p0 * (4096 : Int)), IntKind.wrap IntKind.i64 (p1 * (4096 : Int))]])) ∧
   (Ob (ok (F_IsStable (List.getD (List.getD ([] ++ [[(16384 : Int), (0 : Int), (0 : Int), IntKind.wrap IntKind.i64 (p0 * (4096 : Int)), IntKind.wrap IntKind.i64 (p1 * (4096 : Int))]]) (0 : Nat) []) (0 : Nat) (0 : Int)) (List.getD (List.getD ([] ++ [[(16384 : Int), (0 : Int), (0 : Int), IntKind.wrap IntKind.i64 (p0 * (4096 : Int)), IntKind.wrap IntKind.i64 (p1 * (4096 : Int))]]) (0 : Nat) []) (1 : Nat) (0 : Int)) (List.getD (List.getD ([] ++ [[(16384 : Int), (0 : Int), (0 : Int), IntKind.wrap IntKind.i64 (p0 * (4096 : Int)), IntKind.wrap IntKind.i64 (p1 * (4096 : Int))]]) (0 : Nat) []) (2 : Nat) (0 : Int)) (List.getD (List.getD ([] ++ [[(16384 : Int), (0 : Int), (0 : Int), IntKind.wrap IntKind.i64 (p0 * (4096 : Int)), IntKind.wrap IntKind.i64 (p1 * (4096 : Int))]]) (0 : Nat) []) (3 : Nat) (0 : Int)) (List.getD (List.getD ([] ++ [[(16384 : Int), (0 : Int), (0 : Int), IntKind.wrap IntKind.i64 (p0 * (4096 : Int)), IntKind.wrap IntKind.i64 (p1 * (4096 : Int))]]) (0 : Nat) []) (4 : Nat) (0 : Int)))) ∧
   (Ob ((0 : Int) ≤ (0 : Int) ∧ (0 : Int) < (↑(2 : Nat) : Int)) ∧
   (Ob (List.length [(4 : Int), p0, p1] ≤ (1000000000 : Nat)) ∧
   (Ob (List.length [(4 : Int), p0, p1] ≤ (1000000000 : Nat)) ∧
   Br ((val (F_IsStable (List.getD (List.getD ([] ++ [[(16384 : Int), (0 : Int), (0 : Int), IntKind.wrap IntKind.i64 (p0 * (4096 : Int)), IntKind.wrap IntKind.i64 (p1 * (4096 : Int))]]) (0 : Nat) []) (0 : Nat) (0 : Int)) (List.getD (List.getD ([] ++ [[(16384 : Int), (0 : Int), (0 : Int), IntKind.wrap IntKind.i64 (p0 * (4096 : Int)), IntKind.wrap IntKind.i64 (p1 * (4096 : Int))]]) (0 : Nat) []) (1 : Nat) (0 : Int)) (List.getD (List.getD ([] ++ [[(16384 : Int), (0 : Int), (0 : Int), IntKind.wrap IntKind.i64 (p0 * (4096 : Int)), IntKind.wrap IntKind.i64 (p1 * (4096 : Int))]]) (0 : Nat) []) (2 : Nat) (0 : Int)) (List.getD (List.getD ([] ++ [[(16384 : Int), (0 : Int), (0 : Int), IntKind.wrap IntKind.i64 (p0 * (4096 : Int)), IntKind.wrap IntKind.i64 (p1 * (4096 : Int))]]) (0 : Nat) []) (3 : Nat) (0 : Int)) (List.getD (List.getD ([] ++ [[(16384 : Int), (0 : Int), (0 : Int), IntKind.wrap IntKind.i64 (p0 * (4096 : Int)), IntKind.wrap IntKind.i64 (p1 * (4096 : Int))]]) (0 : Nat) []) (4 : Nat) (0 : Int)))).2 != (0 : Int))
   ((Ob (True) ∧
   (Ob (false = r) ∧
   True)))
   (Br (Sx06.polyE [(4 : Int), p0, p1] != (0 : Int))
   ((Ob (True) ∧
   (Ob (false = r) ∧
   True)))
   (Br (!(val (F_IsStable (List.getD (List.getD ([] ++ [[(16384 : Int), (0 : Int), (0 : Int), IntKind.wrap IntKind.i64 (p0 * (4096 : Int)), IntKind.wrap IntKind.i64 (p1 * (4096 : Int))]]) (0 : Nat) []) (0 : Nat) (0 : Int)) (List.getD (List.getD ([] ++ [[(16384 : Int), (0 : Int), (0 : Int), IntKind.wrap IntKind.i64 (p0 * (4096 : Int)), IntKind.wrap IntKind.i64 (p1 * (4096 : Int))]]) (0 : Nat) []) (1 : Nat) (0 : Int)) (List.getD (List.getD ([] ++ [[(16384 : Int), (0 : Int), (0 : Int), IntKind.wrap IntKind.i64 (p0 * (4096 : Int)), IntKind.wrap IntKind.i64 (p1 * (4096 : Int))]]) (0 : Nat) []) (2 : Nat) (0 : Int)) (List.getD (List.getD ([] ++ [[(16384 : Int), (0 : Int), (0 : Int), IntKind.wrap IntKind.i64 (p0 * (4096 : Int)), IntKind.wrap IntKind.i64 (p1 * (4096 : Int))]]) (0 : Nat) []) (3 : Nat) (0 : Int)) (List.getD (List.getD ([] ++ [[(16384 : Int), (0 : Int), (0 : Int), IntKind.wrap IntKind.i64 (p0 * (4096 : Int)), IntKind.wrap IntKind.i64 (p1 * (4096 : Int))]]) (0 : Nat) []) (4 : Nat) (0 : Int)))).1 == Sx06.schurOk [(4 : Int), p0, p1])
   ((Ob (True) ∧
   (Ob (false = r) ∧
   True)))
   ((Ob ((0 : Int) ≤ IntKind.wrap IntKind.i64 ((0 : Int) + (1 : Int)) ∧ IntKind.wrap IntKind.i64 ((0 : Int) + (1 : Int)) < (↑(2 : Nat) : Int)) ∧
   (Ob ((0 : Int) ≤ (0 : Int) ∧ (0 : Int) < (↑(2 : Nat) : Int)) ∧
   (Ob (True) ∧
   Br (!(decide ((-6 : Int) ≤ q0) && decide (q0 ≤ (6 : Int))))
   ((Ob (True) ∧
   (Ob (true = r) ∧
   True)))
   ((Ob ((0 : Int) ≤ IntKind.wrap IntKind.i64 ((0 : Int) + (1 : Int)) ∧ IntKind.wrap IntKind.i64 ((0 : Int) + (1 : Int)) < (↑(2 : Nat) : Int)) ∧
   (Ob ((0 : Int) ≤ (1 : Int) ∧ (1 : Int) < (↑(2 : Nat) : Int)) ∧
   (Ob (True) ∧
   Br (!(decide ((-6 : Int) ≤ q1) && decide (q1 ≤ (6 : Int))))
   ((Ob (True) ∧
   (Ob (true = r) ∧
   True)))
   ((Ob ((0 : Int) ≤ IntKind.wrap IntKind.i64 ((0 : Int) + (1 : Int)) ∧ IntKind.wrap IntKind.i64 ((0 : Int) + (1 : Int)) < (↑(2 : Nat) : Int)) ∧
   (Ob ((0 : Int) ≤ (0 : Int) ∧ (0 : Int) < (↑(2 : Nat) : Int)) ∧
   (Ob ((0 : Int) ≤ IntKind.wrap IntKind.i64 ((0 : Int) + (1 : Int)) ∧ IntKind.wrap IntKind.i64 ((0 : Int) + (1 : Int)) < (↑(2 : Nat) : Int)) ∧
   (Ob ((0 : Int) ≤ (1 : Int) ∧ (1 : Int) < (↑(2 : Nat) : Int)) ∧
   (Ob ((List.length ([] ++ [[(16384 : Int), (0 : Int), (0 : Int), IntKind.wrap IntKind.i64 (p0 * (4096 : Int)), IntKind.wrap IntKind.i64 (p1 * (4096 : Int))]]) + List.length [[(16384 : Int), (0 : Int), (0 : Int), IntKind.wrap IntKind.i64 (q0 * (4096 : Int)), IntKind.wrap IntKind.i64 (q1 * (4096 : Int))]]) * (40 : Nat) ≤ (140737488355328 : Nat) ∧ List.length ([] ++ [[(16384 : Int), (0 : Int), (0 : Int), IntKind.wrap IntKind.i64 (p0 * (4096 : Int)), IntKind.wrap IntKind.i64 (p1 * (4096 : Int))]]) + List.length [[(16384 : Int), (0 : Int), (0 : Int), IntKind.wrap IntKind.i64 (q0 * (4096 : Int)), IntKind.wrap IntKind.i64 (q1 * (4096 : Int))]] ≤ (9223372036854775807 : Nat)) ∧
   (Ob ((0 : Int) ≤ IntKind.wrap IntKind.i64 ((0 : Int) + (1 : Int)) ∧ IntKind.wrap IntKind.i64 ((0 : Int) + (1 : Int)) < (↑(2 : Nat) : Int)) ∧
   (Ob ((0 : Int) ≤ (0 : Int) ∧ (0 : Int) < (↑(2 : Nat) : Int)) ∧
   (Ob ((0 : Int) ≤ IntKind.wrap IntKind.i64 ((0 : Int) + (1 : Int)) ∧ IntKind.wrap IntKind.i64 ((0 : Int) + (1 : Int)) < (↑(2 : Nat) : Int)) ∧
   (Ob ((0 : Int) ≤ (1 : Int) ∧ (1 : Int) < (↑(2 : Nat) : Int)) ∧
   (Ob ((0 : Int) ≤ IntKind.wrap IntKind.i64 ((0 : Int) + (1 : Int)) ∧ IntKind.wrap IntKind.i64 ((0 : Int) + (1 : Int)) < (↑(2 : Nat) : Int)) ∧
   (Ob ((0 : Int) ≤ IntKind.wrap IntKind.i64 ((0 : Int) + (1 : Int)) ∧ IntKind.wrap IntKind.i64 ((0 : Int) + (1 : Int)) < (↑(List.length ([] ++ [[(16384 : Int), (0 : Int), (0 : Int), IntKind.wrap IntKind.i64 (p0 * (4096 : Int)), IntKind.wrap IntKind.i64 (p1 * (4096 : Int))]] ++ [[(16384 : Int), (0 : Int), (0 : Int), IntKind.wrap IntKind.i64 (q0 * (4096 : Int)), IntKind.wrap IntKind.i64 (q1 * (4096 : Int))]])) : Int)) ∧
   (Ob ((1 : Nat) < List.length ([] ++ [[(16384 : Int), (0 : Int), (0 : Int), IntKind.wrap IntKind.i64 (p0 * (4096 : Int)), IntKind.wrap IntKind.i64 (p1 * (4096 : Int))]] ++ [[(16384 : Int), (0 : Int), (0 : Int), IntKind.wrap IntKind.i64 (q0 * (4096 : Int)), IntKind.wrap IntKind.i64 (q1 * (4096 : Int))]])) ∧
   (Ob (ok (F_IsStable (List.getD (List.getD ([] ++ [[(16384 : Int), (0 : Int), (0 : Int), IntKind.wrap IntKind.i64 (p0 * (4096 : Int)), IntKind.wrap IntKind.i64 (p1 * (4096 : Int))]] ++ [[(16384 : Int), (0 : Int), (0 : Int), IntKind.wrap IntKind.i64 (q0 * (4096 : Int)), IntKind.wrap IntKind.i64 (q1 * (4096 : Int))]]) (1 : Nat) []) (0 : Nat) (0 : Int)) (List.getD (List.getD ([] ++ [[(16384 : Int), (0 : Int), (0 : Int), IntKind.wrap IntKind.i64 (p0 * (4096 : Int)), IntKind.wrap IntKind.i64 (p1 * (4096 : Int))]] ++ [[(16384 : Int), (0 : Int), (0 : Int), IntKind.wrap IntKind.i64 (q0 * (4096 : Int)), IntKind.wrap IntKind.i64 (q1 * (4096 : Int))]]) (1 : Nat) []) (1 : Nat) (0 : Int)) (List.getD (List.getD ([] ++ [[(16384 : Int), (0 : Int), (0 : Int), IntKind.wrap IntKind.i64 (p0 * (4096 : Int)), IntKind.wrap IntKind.i64 (p1 * (4096 : Int))]] ++ [[(16384 : Int), (0 : Int), (0 : Int), IntKind.wrap IntKind.i64 (q0 * (4096 : Int)), IntKind.wrap IntKind.i64 (q1 * (4096 : Int))]]) (1 : Nat) []) (2 : Nat) (0 : Int)) (List.getD (List.getD ([] ++ [[(16384 : Int), (0 : Int), (0 : Int), IntKind.wrap IntKind.i64 (p0 * (4096 : Int)), IntKind.wrap IntKind.i64 (p1 * (4096 : Int))]] ++ [[(16384 : Int), (0 : Int), (0 : Int), IntKind.wrap IntKind.i64 (q0 * (4096 : Int)), IntKind.wrap IntKind.i64 (q1 * (4096 : Int))]]) (1 : Nat) []) (3 : Nat) (0 : Int)) (List.getD (List.getD ([] ++ [[(16384 : Int), (0 : Int), (0 : Int), IntKind.wrap IntKind.i64 (p0 * (4096 : Int)), IntKind.wrap IntKind.i64 (p1 * (4096 : Int))]] ++ [[(16384 : Int), (0 : Int), (0 : Int), IntKind.wrap IntKind.i64 (q0 * (4096 : Int)), IntKind.wrap IntKind.i64 (q1 * (4096 : Int))]]) (1 : Nat) []) (4 : Nat) (0 : Int)))) ∧
   (Ob ((0 : Int) ≤ IntKind.wrap IntKind.i64 ((0 : Int) + (1 : Int)) ∧ IntKind.wrap IntKind.i64 ((0 : Int) + (1 : Int)) < (↑(2 : Nat) : Int)) ∧
   (Ob (List.length [(4 : Int), q0, q1] ≤ (1000000000 : Nat)) ∧
   (Ob (List.length [(4 : Int), q0, q1] ≤ (1000000000 : Nat)) ∧
   Br ((val (F_IsStable (List.getD (List.getD ([] ++ [[(16384 : Int), (0 : Int), (0 : Int), IntKind.wrap IntKind.i64 (p0 * (4096 : Int)), IntKind.wrap IntKind.i64 (p1 * (4096 : Int))]] ++ [[(16384 : Int), (0 : Int), (0 : Int), IntKind.wrap IntKind.i64 (q0 * (4096 : Int)), IntKind.wrap IntKind.i64 (q1 * (4096 : Int))]]) (1 : Nat) []) (0 : Nat) (0 : Int)) (List.getD (List.getD ([] ++ [[(16384 : Int), (0 : Int), (0 : Int), IntKind.wrap IntKind.i64 (p0 * (4096 : Int)), IntKind.wrap IntKind.i64 (p1 * (4096 : Int))]] ++ [[(16384 : Int), (0 : Int), (0 : Int), IntKind.wrap IntKind.i64 (q0 * (4096 : Int)), IntKind.wrap IntKind.i64 (q1 * (4096 : Int))]]) (1 : Nat) []) (1 : Nat) (0 : Int)) (List.getD (List.getD ([] ++ [[(16384 : Int), (0 : Int), (0 : Int), IntKind.wrap IntKind.i64 (p0 * (4096 : Int)), IntKind.wrap IntKind.i64 (p1 * (4096 : Int))]] ++ [[(16384 : Int), (0 : Int), (0 : Int), IntKind.wrap IntKind.i64 (q0 * (4096 : Int)), IntKind.wrap IntKind.i64 (q1 * (4096 : Int))]]) (1 : Nat) []) (2 : Nat) (0 : Int)) (List.getD (List.getD ([] ++ [[(16384 : Int), (0 : Int), (0 : Int), IntKind.wrap IntKind.i64 (p0 * (4096 : Int)), IntKind.wrap IntKind.i64 (p1 * (4096 : Int))]] ++ [[(16384 : Int), (0 : Int), (0 : Int), IntKind.wrap IntKind.i64 (q0 * (4096 : Int)), IntKind.wrap IntKind.i64 (q1 * (4096 : Int))]]) (1 : Nat) []) (3 : Nat) (0 : Int)) (List.getD (List.getD ([] ++ [[(16384 : Int), (0 : Int), (0 : Int), IntKind.wrap IntKind.i64 (p0 * (4096 : Int)), IntKind.wrap IntKind.i64 (p1 * (4096 : Int))]] ++ [[(16384 : Int), (0 : Int), (0 : Int), IntKind.wrap IntKind.i64 (q0 * (4096 : Int)), IntKind.wrap IntKind.i64 (q1 * (4096 : Int))]]) (1 : Nat) []) (4 : Nat) (0 : Int)))).2 != (0 : Int))
   ((Ob (True) ∧
   (Ob (false = r) ∧
   True)))
   (Br (Sx06.polyE [(4 : Int), q0, q1] != (0 : Int))
   ((Ob (True) ∧
   (Ob (false = r) ∧
   True)))
   (Br (!(val (F_IsStable (List.getD (List.getD ([] ++ [[(16384 : Int), (0 : Int), (0 : Int), IntKind.wrap IntKind.i64 (p0 * (4096 : Int)), IntKind.wrap IntKind.i64 (p1 * (4096 : Int))]] ++ [[(16384 : Int), (0 : Int), (0 : Int), IntKind.wrap IntKind.i64 (q0 * (4096 : Int)), IntKind.wrap IntKind.i64 (q1 * (4096 : Int))]]) (1 : Nat) []) (0 : Nat) (0 : Int)) (List.getD (List.getD ([] ++ [[(16384 : Int), (0 : Int), (0 : Int), IntKind.wrap IntKind.i64 (p0 * (4096 : Int)), IntKind.wrap IntKind.i64 (p1 * (4096 : Int))]] ++ [[(16384 : Int), (0 : Int), (0 : Int), IntKind.wrap IntKind.i64 (q0 * (4096 : Int)), IntKind.wrap IntKind.i64 (q1 * (4096 : Int))]]) (1 : Nat) []) (1 : Nat) (0 : Int)) (List.getD (List.getD ([] ++ [[(16384 : Int), (0 : Int), (0 : Int), IntKind.wrap IntKind.i64 (p0 * (4096 : Int)), IntKind.wrap IntKind.i64 (p1 * (4096 : Int))]] ++ [[(16384 : Int), (0 : Int), (0 : Int), IntKind.wrap IntKind.i64 (q0 * (4096 : Int)), IntKind.wrap IntKind.i64 (q1 * (4096 : Int))]]) (1 : Nat) []) (2 : Nat) (0 : Int)) (List.getD (List.getD ([] ++ [[(16384 : Int), (0 : Int), (0 : Int), IntKind.wrap IntKind.i64 (p0 * (4096 : Int)), IntKind.wrap IntKind.i64 (p1 * (4096 : Int))]] ++ [[(16384 : Int), (0 : Int), (0 : Int), IntKind.wrap IntKind.i64 (q0 * (4096 : Int)), IntKind.wrap IntKind.i64 (q1 * (4096 : Int))]]) (1 : Nat) []) (3 : Nat) (0 : Int)) (List.getD (List.getD ([] ++ [[(16384 : Int), (0 : Int), (0 : Int), IntKind.wrap IntKind.i64 (p0 * (4096 : Int)), IntKind.wrap IntKind.i64 (p1 * (4096 : Int))]] ++ [[(16384 : Int), (0 : Int), (0 : Int), IntKind.wrap IntKind.i64 (q0 * (4096 : Int)), IntKind.wrap IntKind.i64 (q1 * (4096 : Int))]]) (1 : Nat) []) (4 : Nat) (0 : Int)))).1 == Sx06.schurOk [(4 : Int), q0, q1])
   ((Ob (True) ∧
   (Ob (false = r) ∧
   True)))
   ((Ob ((0 : Int) ≤ (0 : Int) ∧ (0 : Int) < (↑(2 : Nat) : Int)) ∧
   (Ob ((0 : Int) ≤ (1 : Int) ∧ (1 : Int) < (↑(2 : Nat) : Int)) ∧
   (Ob ((0 : Int) ≤ (5 : Int) ∧ (5 : Int) = (5 : Int) ∧ (↑(8 : Nat) : Int) * (5 : Int) ≤ (281474976710656 : Int) ∧ (5 : Int) ≤ (9223372036854775807 : Int)) ∧
   ((∃ (v0 : (Int × List Int) × Nat), (Ob ((Option.bind (iter (T_TopStableSections_b0 p0 p1 q0 q1) v0.2 v0.1) fun y0 => Option.bind (T_TopStableSections_r0 p0 p1 q0 q1 y0) some) = some r) ∧
   (Ob ((0 : Int) = v0.1.1) ∧
   (Ob ([] ++ [[(16384 : Int), (0 : Int), (0 : Int), IntKind.wrap IntKind.i64 (p0 * (4096 : Int)), IntKind.wrap IntKind.i64 (p1 * (4096 : Int))]] ++ [[(16384 : Int), (0 : Int), (0 : Int), IntKind.wrap IntKind.i64 (q0 * (4096 : Int)), IntKind.wrap IntKind.i64 (q1 * (4096 : Int))]] = [] ++ [[(16384 : Int), (0 : Int), (0 : Int), IntKind.wrap IntKind.i64 (p0 * (4096 : Int)), IntKind.wrap IntKind.i64 (p1 * (4096 : Int))]] ++ [[(16384 : Int), (0 : Int), (0 : Int), IntKind.wrap IntKind.i64 (q0 * (4096 : Int)), IntKind.wrap IntKind.i64 (q1 * (4096 : Int))]]) ∧
   (Ob ([(4 : Int), p0, p1] = [(4 : Int), p0, p1]) ∧
   (Ob ([(4 : Int), q0, q1] = [(4 : Int), q0, q1]) ∧
   (Ob (List.replicate (5 : Nat) (0 : Int) = v0.1.2) ∧
   True))))))) ∧
   (∀ (v0 : (Int × List Int) × Nat), ((Option.bind (iter (T_TopStableSections_b0 p0 p1 q0 q1) v0.2 v0.1) fun y0 => Option.bind (T_TopStableSections_r0 p0 p1 q0 q1 y0) some) = some r →
   Br (decide (v0.1.1 < (3 : Int)))
   (((∃ (v1 : (Int × List Int) × Nat × (Int × List Int) × Nat), (Ob (v1.2.1 + (1 : Nat) = List.getD [v0.2] (0 : Nat) (0 : Nat) ∧ (Option.bind (iter (T_TopStableSections_b1 p0 p1 q0 q1 v1.1) v1.2.2.2 v1.2.2.1) fun y0 => Option.bind (T_TopStableSections_r1 v1.1 y0) (stepK (T_TopStableSections_b0 p0 p1 q0 q1) v1.2.1 fun y1 => Option.bind (T_TopStableSections_r0 p0 p1 q0 q1 y1) some)) = some r) ∧
   (Ob (v0.1.1 = v1.1.1) ∧
   (Ob ((0 : Int) = v1.2.2.1.1) ∧
   (Ob ([] ++ [[(16384 : Int), (0 : Int), (0 : Int), IntKind.wrap IntKind.i64 (p0 * (4096 : Int)), IntKind.wrap IntKind.i64 (p1 * (4096 : Int))]] ++ [[(16384 : Int), (0 : Int), (0 : Int), IntKind.wrap IntKind.i64 (q0 * (4096 : Int)), IntKind.wrap IntKind.i64 (q1 * (4096 : Int))]] = [] ++ [[(16384 : Int), (0 : Int), (0 : Int), IntKind.wrap IntKind.i64 (p0 * (4096 : Int)), IntKind.wrap IntKind.i64 (p1 * (4096 : Int))]] ++ [[(16384 : Int), (0 : Int), (0 : Int), IntKind.wrap IntKind.i64 (q0 * (4096 : Int)), IntKind.wrap IntKind.i64 (q1 * (4096 : Int))]]) ∧
   (Ob ([(4 : Int), p0, p1] = [(4 : Int), p0, p1]) ∧
   (Ob ([(4 : Int), q0, q1] = [(4 : Int), q0, q1]) ∧
   (Ob (v0.1.2 = v1.2.2.1.2) ∧
   True)))))))) ∧
   (∀ (v1 : (Int × List Int) × Nat × (Int × List Int) × Nat), (v1.2.1 + (1 : Nat) = List.getD [v0.2] (0 : Nat) (0 : Nat) ∧ (Option.bind (iter (T_TopStableSections_b1 p0 p1 q0 q1 v1.1) v1.2.2.2 v1.2.2.1) fun y0 => Option.bind (T_TopStableSections_r1 v1.1 y0) (stepK (T_TopStableSections_b0 p0 p1 q0 q1) v1.2.1 fun y1 => Option.bind (T_TopStableSections_r0 p0 p1 q0 q1 y1) some)) = some r →
   Br (decide (v1.2.2.1.1 < (3 : Int)))
   ((Ob ((0 : Int) ≤ IntKind.wrap IntKind.i64 (v1.1.1 + v1.2.2.1.1) ∧ IntKind.wrap IntKind.i64 (v1.1.1 + v1.2.2.1.1) < (↑(List.length v1.2.2.1.2) : Int)) ∧
   (Ob (Int.toNat (IntKind.wrap IntKind.i64 (v1.1.1 + v1.2.2.1.1)) < List.length v1.2.2.1.2) ∧
   (Ob ((0 : Int) ≤ v1.1.1 ∧ v1.1.1 < (↑(List.length [(4 : Int), p0, p1]) : Int)) ∧
   (Ob (Int.toNat v1.1.1 < List.length [(4 : Int), p0, p1]) ∧
   (Ob ((0 : Int) ≤ v1.2.2.1.1 ∧ v1.2.2.1.1 < (↑(List.length [(4 : Int), q0, q1]) : Int)) ∧
   (Ob (Int.toNat v1.2.2.1.1 < List.length [(4 : Int), q0, q1]) ∧
   (Ob ((0 : Int) ≤ IntKind.wrap IntKind.i64 (v1.1.1 + v1.2.2.1.1) ∧ IntKind.wrap IntKind.i64 (v1.1.1 + v1.2.2.1.1) < (↑(List.length v1.2.2.1.2) : Int)) ∧
   (Ob (Int.toNat (IntKind.wrap IntKind.i64 (v1.1.1 + v1.2.2.1.1)) < List.length v1.2.2.1.2) ∧
   (∃ (v2 : (Int × List Int) × Nat × (Int × List Int) × Nat), (Ob (v2.2.1 + (1 : Nat) = List.getD [v0.2] (0 : Nat) (0 : Nat) ∧ (Option.bind (iter (T_TopStableSections_b1 p0 p1 q0 q1 v2.1) v2.2.2.2 v2.2.2.1) fun y0 => Option.bind (T_TopStableSections_r1 v2.1 y0) (stepK (T_TopStableSections_b0 p0 p1 q0 q1) v2.2.1 fun y1 => Option.bind (T_TopStableSections_r0 p0 p1 q0 q1 y1) some)) = some r) ∧
   (Ob (v2.2.2.2 < v1.2.2.2) ∧
   (Ob (v1.1.1 = v2.1.1) ∧
   (Ob (IntKind.wrap IntKind.i64 (v1.2.2.1.1 + (1 : Int)) = v2.2.2.1.1) ∧
   (Ob ([] ++ [[(16384 : Int), (0 : Int), (0 : Int), IntKind.wrap IntKind.i64 (p0 * (4096 : Int)), IntKind.wrap IntKind.i64 (p1 * (4096 : Int))]] ++ [[(16384 : Int), (0 : Int), (0 : Int), IntKind.wrap IntKind.i64 (q0 * (4096 : Int)), IntKind.wrap IntKind.i64 (q1 * (4096 : Int))]] = [] ++ [[(16384 : Int), (0 : Int), (0 : Int), IntKind.wrap IntKind.i64 (p0 * (4096 : Int)), IntKind.wrap IntKind.i64 (p1 * (4096 : Int))]] ++ [[(16384 : Int), (0 : Int), (0 : Int), IntKind.wrap IntKind.i64 (q0 * (4096 : Int)), IntKind.wrap IntKind.i64 (q1 * (4096 : Int))]]) ∧
   (Ob ([(4 : Int), p0, p1] = [(4 : Int), p0, p1]) ∧
   (Ob ([(4 : Int), q0, q1] = [(4 : Int), q0, q1]) ∧
   (Ob (List.set v1.2.2.1.2 (Int.toNat (IntKind.wrap IntKind.i64 (v1.1.1 + v1.2.2.1.1))) (IntKind.wrap IntKind.i64 (List.getD v1.2.2.1.2 (Int.toNat (IntKind.wrap IntKind.i64 (v1.1.1 + v1.2.2.1.1))) (0 : Int) + IntKind.wrap IntKind.i64 (List.getD [(4 : Int), p0, p1] (Int.toNat v1.1.1) (0 : Int) * List.getD [(4 : Int), q0, q1] (Int.toNat v1.2.2.1.1) (0 : Int)))) = v2.2.2.1.2) ∧
   True))))))))))))))))))
   ((∃ (v2 : (Int × List Int) × Nat), (Ob ((Option.bind (iter (T_TopStableSections_b0 p0 p1 q0 q1) v2.2 v2.1) fun y0 => Option.bind (T_TopStableSections_r0 p0 p1 q0 q1 y0) some) = some r) ∧
   (Ob (v2.2 < v0.2) ∧
   (Ob (IntKind.wrap IntKind.i64 (v1.1.1 + (1 : Int)) = v2.1.1) ∧
   (Ob ([] ++ [[(16384 : Int), (0 : Int), (0 : Int), IntKind.wrap IntKind.i64 (p0 * (4096 : Int)), IntKind.wrap IntKind.i64 (p1 * (4096 : Int))]] ++ [[(16384 : Int), (0 : Int), (0 : Int), IntKind.wrap IntKind.i64 (q0 * (4096 : Int)), IntKind.wrap IntKind.i64 (q1 * (4096 : Int))]] = [] ++ [[(16384 : Int), (0 : Int), (0 : Int), IntKind.wrap IntKind.i64 (p0 * (4096 : Int)), IntKind.wrap IntKind.i64 (p1 * (4096 : Int))]] ++ [[(16384 : Int), (0 : Int), (0 : Int), IntKind.wrap IntKind.i64 (q0 * (4096 : Int)), IntKind.wrap IntKind.i64 (q1 * (4096 : Int))]]) ∧
   (Ob ([(4 : Int), p0, p1] = [(4 : Int), p0, p1]) ∧
   (Ob ([(4 : Int), q0, q1] = [(4 : Int), q0, q1]) ∧
   (Ob (v1.2.2.1.2 = v2.1.2) ∧
   True)))))))))))))
   ((Ob (List.length v0.1.2 ≤ (1000000000 : Nat)) ∧
   (Ob (ok (R06_Copy ([] ++ [[(16384 : Int), (0 : Int), (0 : Int), IntKind.wrap IntKind.i64 (p0 * (4096 : Int)), IntKind.wrap IntKind.i64 (p1 * (4096 : Int))]] ++ [[(16384 : Int), (0 : Int), (0 : Int), IntKind.wrap IntKind.i64 (q0 * (4096 : Int)), IntKind.wrap IntKind.i64 (q1 * (4096 : Int))]]))) ∧
   (Ob (ok (F_FirstUnstable (val (R06_Copy ([] ++ [[(16384 : Int), (0 : Int), (0 : Int), IntKind.wrap IntKind.i64 (p0 * (4096 : Int)), IntKind.wrap IntKind.i64 (p1 * (4096 : Int))]] ++ [[(16384 : Int), (0 : Int), (0 : Int), IntKind.wrap IntKind.i64 (q0 * (4096 : Int)), IntKind.wrap IntKind.i64 (q1 * (4096 : Int))]]))))) ∧
   Br (Sx06.polyE v0.1.2 == (0 : Int))
   (Br ((val (F_FirstUnstable (val (R06_Copy ([] ++ [[(16384 : Int), (0 : Int), (0 : Int), IntKind.wrap IntKind.i64 (p0 * (4096 : Int)), IntKind.wrap IntKind.i64 (p1 * (4096 : Int))]] ++ [[(16384 : Int), (0 : Int), (0 : Int), IntKind.wrap IntKind.i64 (q0 * (4096 : Int)), IntKind.wrap IntKind.i64 (q1 * (4096 : Int))]]))))).2 == (0 : Int))
   ((Ob (True) ∧
   (Ob ((Sx06.schurOk v0.1.2 == ((val (F_FirstUnstable (val (R06_Copy ([] ++ [[(16384 : Int), (0 : Int), (0 : Int), IntKind.wrap IntKind.i64 (p0 * (4096 : Int)), IntKind.wrap IntKind.i64 (p1 * (4096 : Int))]] ++ [[(16384 : Int), (0 : Int), (0 : Int), IntKind.wrap IntKind.i64 (q0 * (4096 : Int)), IntKind.wrap IntKind.i64 (q1 * (4096 : Int))]]))))).2 == (12 : Int))) = r) ∧
   True)))
   (Br ((val (F_FirstUnstable (val (R06_Copy ([] ++ [[(16384 : Int), (0 : Int), (0 : Int), IntKind.wrap IntKind.i64 (p0 * (4096 : Int)), IntKind.wrap IntKind.i64 (p1 * (4096 : Int))]] ++ [[(16384 : Int), (0 : Int), (0 : Int), IntKind.wrap IntKind.i64 (q0 * (4096 : Int)), IntKind.wrap IntKind.i64 (q1 * (4096 : Int))]]))))).2 == (12 : Int))
   ((Ob (True) ∧
   (Ob ((Sx06.schurOk v0.1.2 == ((val (F_FirstUnstable (val (R06_Copy ([] ++ [[(16384 : Int), (0 : Int), (0 : Int), IntKind.wrap IntKind.i64 (p0 * (4096 : Int)), IntKind.wrap IntKind.i64 (p1 * (4096 : Int))]] ++ [[(16384 : Int), (0 : Int), (0 : Int), IntKind.wrap IntKind.i64 (q0 * (4096 : Int)), IntKind.wrap IntKind.i64 (q1 * (4096 : Int))]]))))).2 == (12 : Int))) = r) ∧
   True)))
   ((Ob (True) ∧
   (Ob (false = r) ∧
   True)))))
   ((Ob (True) ∧
   (Ob (false = r) ∧
   True))))))))))))))))))))))))))))))))))))))))))))))))))))))))))))))))))))) = _) ?_
  refine ob_c (p := ok T_filtered) (by decide) ?_
  refine ob_c (p := (0 : Int) ≤ (0 : Int) ∧ (0 : Int) < (↑(2 : Nat) : Int)) (by decide) ?_
  refine ob_c (p := (0 : Int) ≤ (0 : Int) ∧ (0 : Int) < (↑(2 : Nat) : Int)) (by decide) ?_
  refine ob_t ?_
  refine br_b h (fun h => ?_) (fun h => ?_)
  · refine ob_t ?_
    exact ret_s h (fun e => by subst e; exact (by repeat' (first | exact trivial | exact ⟨rfl⟩ | refine And.intro ?_ ?_)))
  · refine ob_c (p := (0 : Int) ≤ (0 : Int) ∧ (0 : Int) < (↑(2 : Nat) : Int)) (by decide) ?_
    refine ob_c (p := (0 : Int) ≤ (1 : Int) ∧ (1 : Int) < (↑(2 : Nat) : Int)) (by decide) ?_
    refine ob_t ?_
    refine br_b h (fun h => ?_) (fun h => ?_)
    · refine ob_t ?_
      exact ret_s h (fun e => by subst e; exact (by repeat' (first | exact trivial | exact ⟨rfl⟩ | refine And.intro ?_ ?_)))
    · refine ob_c (p := (0 : Int) ≤ (0 : Int) ∧ (0 : Int) < (↑(2 : Nat) : Int)) (by decide) ?_
      refine ob_c (p := (0 : Int) ≤ (0 : Int) ∧ (0 : Int) < (↑(2 : Nat) : Int)) (by decide) ?_
      refine ob_c (p := (0 : Int) ≤ (0 : Int) ∧ (0 : Int) < (↑(2 : Nat) : Int)) (by decide) ?_
      refine ob_c (p := (0 : Int) ≤ (1 : Int) ∧ (1 : Int) < (↑(2 : Nat) : Int)) (by decide) ?_
      refine ob_s h fun h => ?_
      refine ob_c (p := (0 : Int) ≤ (0 : Int) ∧ (0 : Int) < (↑(2 : Nat) : Int)) (by decide) ?_
      refine ob_c (p := (0 : Int) ≤ (0 : Int) ∧ (0 : Int) < (↑(2 : Nat) : Int)) (by decide) ?_
      refine ob_c (p := (0 : Int) ≤ (0 : Int) ∧ (0 : Int) < (↑(2 : Nat) : Int)) (by decide) ?_
      refine ob_c (p := (0 : Int) ≤ (1 : Int) ∧ (1 : Int) < (↑(2 : Nat) : Int)) (by decide) ?_
      refine ob_c (p := (0 : Int) ≤ (0 : Int) ∧ (0 : Int) < (↑(2 : Nat) : Int)) (by decide) ?_
      refine ob_s h fun h => ?_
      refine ob_s h fun h => ?_
      refine call_s h fun h => ?_
      refine ob_c (p := (0 : Int) ≤ (0 : Int) ∧ (0 : Int) < (↑(2 : Nat) : Int)) (by decide) ?_
      refine ob_s h fun h => ?_
      refine ob_s h fun h => ?_
      refine br_b h (fun h => ?_) (fun h => ?_)
      · refine ob_t ?_
        exact ret_s h (fun e => by subst e; exact (by repeat' (first | exact trivial | exact ⟨rfl⟩ | refine And.intro ?_ ?_)))
      · refine br_b h (fun h => ?_) (fun h => ?_)
        · refine ob_t ?_
          exact ret_s h (fun e => by subst e; exact (by repeat' (first | exact trivial | exact ⟨rfl⟩ | refine And.intro ?_ ?_)))
        · refine br_b h (fun h => ?_) (fun h => ?_)
          · refine ob_t ?_
            exact ret_s h (fun e => by subst e; exact (by repeat' (first | exact trivial | exact ⟨rfl⟩ | refine And.intro ?_ ?_)))
          · refine ob_c (p := (0 : Int) ≤ IntKind.wrap IntKind.i64 ((0 : Int) + (1 : Int)) ∧ IntKind.wrap IntKind.i64 ((0 : Int) + (1 : Int)) < (↑(2 : Nat) : Int)) (by decide) ?_
            refine ob_c (p := (0 : Int) ≤ (0 : Int) ∧ (0 : Int) < (↑(2 : Nat) : Int)) (by decide) ?_
            refine ob_t ?_
            refine br_b h (fun h => ?_) (fun h => ?_)
            · refine ob_t ?_
              exact ret_s h (fun e => by subst e; exact (by repeat' (first | exact trivial | exact ⟨rfl⟩ | refine And.intro ?_ ?_)))
            · refine ob_c (p := (0 : Int) ≤ IntKind.wrap IntKind.i64 ((0 : Int) + (1 : Int)) ∧ IntKind.wrap IntKind.i64 ((0 : Int) + (1 : Int)) < (↑(2 : Nat) : Int)) (by decide) ?_
              refine ob_c (p := (0 : Int) ≤ (1 : Int) ∧ (1 : Int) < (↑(2 : Nat) : Int)) (by decide) ?_
              refine ob_t ?_
              refine br_b h (fun h => ?_) (fun h => ?_)
              · refine ob_t ?_
                exact ret_s h (fun e => by subst e; exact (by repeat' (first | exact trivial | exact ⟨rfl⟩ | refine And.intro ?_ ?_)))
              · refine ob_c (p := (0 : Int) ≤ IntKind.wrap IntKind.i64 ((0 : Int) + (1 : Int)) ∧ IntKind.wrap IntKind.i64 ((0 : Int) + (1 : Int)) < (↑(2 : Nat) : Int)) (by decide) ?_
                refine ob_c (p := (0 : Int) ≤ (0 : Int) ∧ (0 : Int) < (↑(2 : Nat) : Int)) (by decide) ?_
                refine ob_c (p := (0 : Int) ≤ IntKind.wrap IntKind.i64 ((0 : Int) + (1 : Int)) ∧ IntKind.wrap IntKind.i64 ((0 : Int) + (1 : Int)) < (↑(2 : Nat) : Int)) (by decide) ?_
                refine ob_c (p := (0 : Int) ≤ (1 : Int) ∧ (1 : Int) < (↑(2 : Nat) : Int)) (by decide) ?_
                refine ob_s h fun h => ?_
                refine ob_c (p := (0 : Int) ≤ IntKind.wrap IntKind.i64 ((0 : Int) + (1 : Int)) ∧ IntKind.wrap IntKind.i64 ((0 : Int) + (1 : Int)) < (↑(2 : Nat) : Int)) (by decide) ?_
                refine ob_c (p := (0 : Int) ≤ (0 : Int) ∧ (0 : Int) < (↑(2 : Nat) : Int)) (by decide) ?_
                refine ob_c (p := (0 : Int) ≤ IntKind.wrap IntKind.i64 ((0 : Int) + (1 : Int)) ∧ IntKind.wrap IntKind.i64 ((0 : Int) + (1 : Int)) < (↑(2 : Nat) : Int)) (by decide) ?_
                refine ob_c (p := (0 : Int) ≤ (1 : Int) ∧ (1 : Int) < (↑(2 : Nat) : Int)) (by decide) ?_
                refine ob_c (p := (0 : Int) ≤ IntKind.wrap IntKind.i64 ((0 : Int) + (1 : Int)) ∧ IntKind.wrap IntKind.i64 ((0 : Int) + (1 : Int)) < (↑(2 : Nat) : Int)) (by decide) ?_
                refine ob_s h fun h => ?_
                refine ob_s h fun h => ?_
                refine call_s h fun h => ?_
                refine ob_c (p := (0 : Int) ≤ IntKind.wrap IntKind.i64 ((0 : Int) + (1 : Int)) ∧ IntKind.wrap IntKind.i64 ((0 : Int) + (1 : Int)) < (↑(2 : Nat) : Int)) (by decide) ?_
                refine ob_s h fun h => ?_
                refine ob_s h fun h => ?_
                refine br_b h (fun h => ?_) (fun h => ?_)
                · refine ob_t ?_
                  exact ret_s h (fun e => by subst e; exact (by repeat' (first | exact trivial | exact ⟨rfl⟩ | refine And.intro ?_ ?_)))
                · refine br_b h (fun h => ?_) (fun h => ?_)
                  · refine ob_t ?_
                    exact ret_s h (fun e => by subst e; exact (by repeat' (first | exact trivial | exact ⟨rfl⟩ | refine And.intro ?_ ?_)))
                  · refine br_b h (fun h => ?_) (fun h => ?_)
                    · refine ob_t ?_
                      exact ret_s h (fun e => by subst e; exact (by repeat' (first | exact trivial | exact ⟨rfl⟩ | refine And.intro ?_ ?_)))
                    · refine ob_c (p := (0 : Int) ≤ (0 : Int) ∧ (0 : Int) < (↑(2 : Nat) : Int)) (by decide) ?_
                      refine ob_c (p := (0 : Int) ≤ (1 : Int) ∧ (1 : Int) < (↑(2 : Nat) : Int)) (by decide) ?_
                      refine ob_c (p := (0 : Int) ≤ (5 : Int) ∧ (5 : Int) = (5 : Int) ∧ (↑(8 : Nat) : Int) * (5 : Int) ≤ (281474976710656 : Int) ∧ (5 : Int) ≤ (9223372036854775807 : Int)) (by decide) ?_
                      refine ⟨⟨(((0 : Int), List.replicate (5 : Nat) (0 : Int)), big), ⟨loop_s h⟩, (by repeat' (first | exact trivial | exact ⟨rfl⟩ | refine And.intro ?_ ?_))⟩, fun z4 hz4 => ?_⟩
                      obtain ⟨k4, hm4, h⟩ := iter_pos hz4
                      refine br_d h (fun h => ?_) (fun h => ?_)
                      · refine ⟨⟨(Prod.fst z4, k4, ((0 : Int), (Prod.fst z4).2), big), ⟨⟨hm4.symm, loop_s h⟩⟩, (by repeat' (first | exact trivial | exact ⟨rfl⟩ | refine And.intro ?_ ?_))⟩, fun z5 hz5 => ?_⟩
                        obtain ⟨k5, hm5, h⟩ := iter_pos hz5.2
                        refine br_d h (fun h => ?_) (fun h => ?_)
                        · refine ob_s h fun h => ?_
                          refine ob_s h fun h => ?_
                          refine ob_s h fun h => ?_
                          refine ob_s h fun h => ?_
                          refine ob_s h fun h => ?_
                          refine ob_s h fun h => ?_
                          refine ob_s h fun h => ?_
                          refine ob_s h fun h => ?_
                          exact ⟨(Prod.fst z5, Prod.fst (Prod.snd z5), (IntKind.wrap IntKind.i64 ((Prod.fst (Prod.snd (Prod.snd z5))).1 + (1 : Int)), List.set (Prod.fst (Prod.snd (Prod.snd z5))).2 (Int.toNat (IntKind.wrap IntKind.i64 ((Prod.fst z5).1 + (Prod.fst (Prod.snd (Prod.snd z5))).1))) (IntKind.wrap IntKind.i64 (List.getD (Prod.fst (Prod.snd (Prod.snd z5))).2 (Int.toNat (IntKind.wrap IntKind.i64 ((Prod.fst z5).1 + (Prod.fst (Prod.snd (Prod.snd z5))).1))) (0 : Int) + IntKind.wrap IntKind.i64 (List.getD [(4 : Int), p0, p1] (Int.toNat (Prod.fst z5).1) (0 : Int) * List.getD [(4 : Int), q0, q1] (Int.toNat (Prod.fst (Prod.snd (Prod.snd z5))).1) (0 : Int))))), k5), ⟨⟨hz5.1, next_s h⟩⟩, ⟨lt_gs hm5.symm⟩, (by repeat' (first | exact trivial | exact ⟨rfl⟩ | refine And.intro ?_ ?_))⟩
                        · have h := exit_s h
                          exact ⟨((IntKind.wrap IntKind.i64 ((Prod.fst z5).1 + (1 : Int)), (Prod.fst (Prod.snd (Prod.snd z5))).2), Prod.fst (Prod.snd z5)), ⟨next_s h⟩, ⟨lt_gs hz5.1⟩, (by repeat' (first | exact trivial | exact ⟨rfl⟩ | refine And.intro ?_ ?_))⟩
                      · have h := exit_s h
                        refine ob_s h fun h => ?_
                        refine call_s h fun h => ?_
                        refine call_s h fun h => ?_
                        refine br_b h (fun h => ?_) (fun h => ?_)
                        · refine br_b h (fun h => ?_) (fun h => ?_)
                          · refine ob_t ?_
                            exact ret_s h (fun e => by subst e; exact (by repeat' (first | exact trivial | exact ⟨rfl⟩ | refine And.intro ?_ ?_)))
                          · refine br_b h (fun h => ?_) (fun h => ?_)
                            · refine ob_t ?_
                              exact ret_s h (fun e => by subst e; exact (by repeat' (first | exact trivial | exact ⟨rfl⟩ | refine And.intro ?_ ?_)))
                            · refine ob_t ?_
                              exact ret_s h (fun e => by subst e; exact (by repeat' (first | exact trivial | exact ⟨rfl⟩ | refine And.intro ?_ ?_)))
                        · refine ob_t ?_
                          exact ret_s h (fun e => by subst e; exact (by repeat' (first | exact trivial | exact ⟨rfl⟩ | refine And.intro ?_ ?_)))
set_option maxRecDepth 100000 in
theorem T_TopStableSections_ok : SpecOK Try.prog 16 true (pureK k_T_TopStableSections g_T_TopStableSections) := by
  refine pureK_ok (sp := (sp_80 (sp_50 (sp_48 (sp_22 (sp_21 (sp_27 (sp_54 sp0)))))))) (fn := Try.f16) (body := bodyOf Try.f16) mixed (sp_80_ok (sp_50_ok (sp_48_ok (sp_22_ok (sp_21_ok (sp_27_ok (sp_54_ok sp0_ok))))))) Try.func16 (by kernel_rfl) (by kernel_rfl) fun as_ ob rs h ho => ?_
  unfold g_T_TopStableSections at h
  split at h
  · rename_i p0 p1 q0 q1
    cases h
    exact ⟨Nat.le_of_ble_eq_true rfl, _, _, T_TopStableSections_vc p0 p1 q0 q1 _ (ok_some ho)⟩
  · cases h
theorem sp_16_ok {sp : Specs} (h : SpecsOK Try.prog sp) : SpecsOK Try.prog (sp_16 sp) := addK_ok T_TopStableSections_ok h
end Go.Sh
