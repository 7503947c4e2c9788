/- Mirrors of functions, and their contracts: made by a program of mine. -/
import Derived.Test.YtndhdojnlobloaaMirA
set_option linter.unusedSectionVars false
set_option linter.unusedSimpArgs false
set_option linter.unusedVariables false
namespace Go.Sh
open Go Go.Proofs Go.RowKit Go.Sx
set_option linter.unusedVariables false

/-- shoebox/shoeboxbase.Mod -/
def B_Mod (n : Int) (by_ : Int) : Option Int :=
  if by_ ≠ (0 : Int) then
   if Int.tmod n by_ < (0 : Int) then
   some (IntKind.wrap IntKind.i64 (Int.tmod n by_ + by_))
   else
   some (Int.tmod n by_)
  else none
def g_B_Mod : List A → Option (Prop × List RV)
  | [.d (.i .i64 n), .d (.i .i64 by_)] => some (ok (B_Mod n by_), [.d (.i .i64 ((val (B_Mod n by_))))])
  | _ => none
def k_B_Mod : List (Option Cont) := [none, none]
abbrev sp_51 : Specs → Specs := addK 51 true (pureK k_B_Mod g_B_Mod)
set_option maxRecDepth 100000 in
theorem B_Mod_vc (n : Int) (by_ : Int) (r : Int) (h : Option.bind (B_Mod n by_) some = some r) : runF Try.f51 (sp0) (fun _ _ _ => none) [.d (.i .i64 n), .d (.i .i64 by_)] [.d (.i .i64 r)] := by
  refine Eq.mp (by kernel_rfl : (
  (Ob (by_ ≠ (0 : Int)) ∧
   Br (decide (Int.tmod n by_ < (0 : Int)))
   ((Ob (True) ∧
   (Ob (IntKind.wrap IntKind.i64 (Int.tmod n by_ + by_) = r) ∧
   True)))
   ((Ob (True) ∧
   (Ob (Int.tmod n by_ = r) ∧
   True))))) = _) ?_
  refine ob_s h fun h => ?_
  refine br_d h (fun h => ?_) (fun h => ?_)
  · refine ob_t ?_
    exact ret_s h (fun e => by subst e; exact (by repeat' (first | exact trivial | exact ⟨rfl⟩ | refine And.intro ?_ ?_)))
  · refine ob_t ?_
    exact ret_s h (fun e => by subst e; exact (by repeat' (first | exact trivial | exact ⟨rfl⟩ | refine And.intro ?_ ?_)))
set_option maxRecDepth 100000 in
theorem B_Mod_ok : SpecOK Try.prog 51 true (pureK k_B_Mod g_B_Mod) := by
  refine pureK_ok (sp := sp0) (fn := Try.f51) (body := bodyOf Try.f51) mixed sp0_ok Try.func51 (by kernel_rfl) (by kernel_rfl) fun as_ ob rs h ho => ?_
  unfold g_B_Mod at h
  split at h
  · rename_i n by_
    cases h
    exact ⟨Nat.le_of_ble_eq_true rfl, _, _, B_Mod_vc n by_ _ (ok_some ho)⟩
  · cases h
theorem sp_51_ok {sp : Specs} (h : SpecsOK Try.prog sp) : SpecsOK Try.prog (sp_51 sp) := addK_ok B_Mod_ok h

def k_L06_FilterBounded : List (Option Cont) := [some (.recs 5 []), some (.ints .i64 []), none]
def L06_FilterBounded_b0 (l : List Int) (most_ : Int) (x0 : (Int × List Nat)) : Option ((Int × List Nat) ⊕ (List Nat)) :=
  if x0.1 < (↑(List.length l) : Int) then
   if (0 : Int) ≤ x0.1 ∧ x0.1 < (↑(List.length l) : Int) then
   if Int.toNat x0.1 < List.length l then
   Option.bind (B_Mod (List.getD l (Int.toNat x0.1) (0 : Int)) (IntKind.wrap IntKind.i64 (IntKind.wrap IntKind.i64 ((2 : Int) * most_) + (1 : Int)))) fun r2 =>
   if (List.length x0.2 + List.length [FloatKind.nearest FloatKind.f32 (IntKind.wrap IntKind.i64 (r2 - most_))]) * (4 : Nat) ≤ (140737488355328 : Nat) ∧ List.length x0.2 + List.length [FloatKind.nearest FloatKind.f32 (IntKind.wrap IntKind.i64 (r2 - most_))] ≤ (9223372036854775807 : Nat) then
   some (.inl ((IntKind.wrap IntKind.i64 (x0.1 + (1 : Int)), x0.2 ++ [FloatKind.nearest FloatKind.f32 (IntKind.wrap IntKind.i64 (r2 - most_))])))
   else none
   else none
   else none
  else
   some (.inr x0.2)
def L06_FilterBounded_b1 (c : List (List Int)) (most_ : Int) (x1 : (Bool × Int)) : Option ((Bool × Int) ⊕ Bool) :=
  if x1.2 < (↑(List.length c) : Int) then
   if (0 : Int) ≤ Option.getD none (0 : Int) ∧ Option.getD none (0 : Int) ≤ Option.getD (some (IntKind.wrap IntKind.i64 (x1.2 + (1 : Int)))) (↑(List.length c) : Int) ∧ Option.getD (some (IntKind.wrap IntKind.i64 (x1.2 + (1 : Int)))) (↑(List.length c) : Int) ≤ (↑(List.length c) : Int) then
   Option.bind (R06_Copy (List.take (Int.toNat (Option.getD (some (IntKind.wrap IntKind.i64 (x1.2 + (1 : Int)))) (↑(List.length c) : Int)) - (0 : Nat)) (List.drop (0 : Nat) c))) fun r5 =>
   if List.length r5 ≤ (1000000000 : Nat) then
   if (x1.1) = true then
   if (Sx06.cbE r5 most_ == (0 : Int)) = true then
   some (.inl ((decide (Sx06.cbN r5 most_ < (32767 : Int)), IntKind.wrap IntKind.i64 (x1.2 + (1 : Int)))))
   else
   some (.inl ((false, IntKind.wrap IntKind.i64 (x1.2 + (1 : Int)))))
   else
   some (.inl ((false, IntKind.wrap IntKind.i64 (x1.2 + (1 : Int)))))
   else none
   else none
  else
   some (.inr x1.1)
def L06_FilterBounded_b2 (most_ : Int) (r1 : List (List Int)) (r4 : List Nat × Int × Int) (x2 : Int) : Option (Int ⊕ (Unit ⊕ Unit)) :=
  if x2 < (↑(List.length r4.1) : Int) then
   if (0 : Int) ≤ x2 ∧ x2 < (↑(List.length r4.1) : Int) then
   if Int.toNat x2 < List.length r4.1 then
   if f2iOk FloatKind.f32 IntKind.i64 (List.getD r4.1 (Int.toNat x2) (0 : Nat)) = true then
   if (!(decide (IntKind.wrap IntKind.i64 ((0 : Int) - Sx06.cbN r1 most_) ≤ f2i FloatKind.f32 (List.getD r4.1 (Int.toNat x2) (0 : Nat))) && decide (f2i FloatKind.f32 (List.getD r4.1 (Int.toNat x2) (0 : Nat)) ≤ Sx06.cbN r1 most_))) = true then
   some (.inr ((.inl ())))
   else
   some (.inl (IntKind.wrap IntKind.i64 (x2 + (1 : Int))))
   else none
   else none
   else none
  else
   some (.inr ((.inr ())))
def L06_FilterBounded_r2_0 (y1_0 : Bool) (r4 : List Nat × Int × Int) (y2_0 : Unit) : Option Bool :=
  some false
def L06_FilterBounded_r2_1 (y1_0 : Bool) (r4 : List Nat × Int × Int) (y2_1 : Unit) : Option Bool :=
  if (!y1_0) = true then
   some true
  else
   some (r4.2.1 == (0 : Int))
def L06_FilterBounded_r2 (y1_0 : Bool) (r4 : List Nat × Int × Int) : (Unit ⊕ Unit) → Option Bool :=
  (Sum.elim (L06_FilterBounded_r2_0 y1_0 r4) (L06_FilterBounded_r2_1 y1_0 r4))
def L06_FilterBounded_r1 (most_ : Int) (r1 : List (List Int)) (r4 : List Nat × Int × Int) (y1_0 : Bool) : Option Bool :=
  Option.bind (iter (L06_FilterBounded_b2 most_ r1 r4) big (0 : Int)) (L06_FilterBounded_r2 y1_0 r4)
def L06_FilterBounded_r0 (c : List (List Int)) (l : List Int) (most_ : Int) (r1 : List (List Int)) (y0_0 : List Nat) : Option Bool :=
  Option.bind (R06_Copy c) fun r3 =>
  Option.bind (F_RunAll r1 y0_0) fun r4 =>
  if (r4.2.2 != (0 : Int)) = true then
   some false
  else
   if ((↑(List.length r4.1) : Int) != (↑(List.length l) : Int)) = true then
   some false
   else
   Option.bind (iter (L06_FilterBounded_b1 c most_) big ((true, (0 : Int)))) (L06_FilterBounded_r1 most_ r1 r4)
/-- shoebox/shoeboxlaw06.FilterBounded -/
def L06_FilterBounded (c : List (List Int)) (l : List Int) (most_ : Int) : Option Bool :=
  Option.bind (L06_few c) fun r0 =>
  if (!r0) = true then
   some true
  else
   if (↑(List.length l) : Int) > (100 : Int) then
   some true
   else
   if (!(decide ((0 : Int) ≤ most_) && decide (most_ ≤ (32767 : Int)))) = true then
   some true
   else
   Option.bind (R06_Copy c) fun r1 =>
   if List.length r1 ≤ (1000000000 : Nat) then
   if (Sx06.cbE r1 most_ != (0 : Int)) = true then
   some (Sx06.cbN r1 most_ == (0 : Int))
   else
   Option.bind (iter (L06_FilterBounded_b0 l most_) big (((0 : Int), []))) (L06_FilterBounded_r0 c l most_ r1)
   else none
def g_L06_FilterBounded : List A → Option (Prop × List RV)
  | [.r (.recs 5 c), .r (.ints .i64 l), .d (.i .i64 most_)] => some (ok (L06_FilterBounded c l most_), [.d (.b ((val (L06_FilterBounded c l most_))))])
  | _ => none
abbrev sp_10 : Specs → Specs := addK 10 true (pureK k_L06_FilterBounded g_L06_FilterBounded)
set_option maxRecDepth 100000 in
theorem L06_FilterBounded_vc (c : List (List Int)) (l : List Int) (most_ : Int) (r : Bool) (h : Option.bind (L06_FilterBounded c l most_) some = some r) : runF Try.f10 ((sp_18 (sp_24 (sp_51 (sp_52 (sp_27 (sp_26 (sp_50 sp0)))))))) (fun gs id _ => match id with
 | 0 => some ⟨(Int × List Nat) × Nat, fun z => ⟨[(0, .w (.c (.o 0))), (1, .w (.c (.o 1))), (2, .w (.c (.d (.i .i64 most_)))), (7, .w (.c (.d (.i .i64 (Sx06.cbN (val (R06_Copy c)) most_))))), (9, .w (.c (.o 3))), (10, .w (.c (.d (.i .i64 (Prod.fst (Prod.fst z))))))], [(0, .ext (.recs 5 c)), (1, .ext (.ints .i64 l)), (3, .row 96 (.floats .f32 (Prod.snd (Prod.fst z))))], 4⟩, fun z => Option.bind (iter (L06_FilterBounded_b0 l most_) (Prod.snd z) (Prod.fst z)) (fun y0 => Option.bind (L06_FilterBounded_r0 c l most_ (val (R06_Copy c)) y0) some) = some r, fun z => Prod.snd z⟩
 | 2 => some ⟨List Nat × (Bool × Int) × Nat, fun z => ⟨[(0, .w (.c (.o 0))), (2, .w (.c (.d (.i .i64 most_)))), (7, .w (.c (.d (.i .i64 (Sx06.cbN (val (R06_Copy c)) most_))))), (11, .w (.c (.o 3))), (12, .w (.c (.d (.i .i64 ((val (F_RunAll (val (R06_Copy c)) (Prod.fst z))).2.1))))), (14, .w (.c (.d (.b (Prod.fst (Prod.fst (Prod.snd z))))))), (15, .w (.c (.d (.i .i64 (Prod.snd (Prod.fst (Prod.snd z)))))))], [(0, .ext (.recs 5 c)), (3, .row 96 (.floats .f32 ((val (F_RunAll (val (R06_Copy c)) (Prod.fst z))).1)))], 4⟩, fun z => Option.bind (iter (L06_FilterBounded_b1 c most_) (Prod.snd (Prod.snd z)) (Prod.fst (Prod.snd z))) (fun y0 => Option.bind (L06_FilterBounded_r1 most_ (val (R06_Copy c)) (val (F_RunAll (val (R06_Copy c)) (Prod.fst z))) y0) some) = some r, fun z => Prod.snd (Prod.snd z)⟩
 | 4 => some ⟨List Nat × Bool × Int × Nat, fun z => ⟨[(7, .w (.c (.d (.i .i64 (Sx06.cbN (val (R06_Copy c)) most_))))), (11, .w (.c (.o 3))), (12, .w (.c (.d (.i .i64 ((val (F_RunAll (val (R06_Copy c)) (Prod.fst z))).2.1))))), (14, .w (.c (.d (.b (Prod.fst (Prod.snd z)))))), (18, .w (.c (.d (.i .i64 (Prod.fst (Prod.snd (Prod.snd z)))))))], [(3, .row 96 (.floats .f32 ((val (F_RunAll (val (R06_Copy c)) (Prod.fst z))).1)))], 4⟩, fun z => Option.bind (iter (L06_FilterBounded_b2 most_ (val (R06_Copy c)) (val (F_RunAll (val (R06_Copy c)) (Prod.fst z)))) (Prod.snd (Prod.snd (Prod.snd z))) (Prod.fst (Prod.snd (Prod.snd z)))) (fun y0 => Option.bind (L06_FilterBounded_r2 (Prod.fst (Prod.snd z)) (val (F_RunAll (val (R06_Copy c)) (Prod.fst z))) y0) some) = some r, fun z => Prod.snd (Prod.snd (Prod.snd z))⟩
 | _ => none) [.r (.recs 5 c), .r (.ints .i64 l), .d (.i .i64 most_)] [.d (.b r)] := by
  refine Eq.mp (by kernel_rfl : (
  (Ob (ok L06_awake) ∧
   (Ob (ok (L06_few c)) ∧
   Br (!val (L06_few c))
   ((Ob (True) ∧
   (Ob (true = r) ∧
   True)))
   (Br (decide ((↑(List.length l) : Int) > (100 : Int)))
   ((Ob (True) ∧
   (Ob (true = r) ∧
   True)))
   ((Ob (True) ∧
   Br (!(decide ((0 : Int) ≤ most_) && decide (most_ ≤ (32767 : Int))))
   ((Ob (True) ∧
   (Ob (true = r) ∧
   True)))
   ((Ob (ok (R06_Copy c)) ∧
   (Ob (List.length (val (R06_Copy c)) ≤ (1000000000 : Nat)) ∧
   Br (Sx06.cbE (val (R06_Copy c)) most_ != (0 : Int))
   ((Ob (True) ∧
   (Ob ((Sx06.cbN (val (R06_Copy c)) most_ == (0 : Int)) = r) ∧
   True)))
   (((∃ (v0 : (Int × List Nat) × Nat), (Ob ((Option.bind (iter (L06_FilterBounded_b0 l most_) v0.2 v0.1) fun y0 => Option.bind (L06_FilterBounded_r0 c l most_ (val (R06_Copy c)) y0) some) = some r) ∧
   (Ob (most_ = most_) ∧
   (Ob (Sx06.cbN (val (R06_Copy c)) most_ = Sx06.cbN (val (R06_Copy c)) most_) ∧
   (Ob ((0 : Int) = v0.1.1) ∧
   (Ob (c = c) ∧
   (Ob (l = l) ∧
   (Ob (List.length v0.1.2 = (0 : Nat)) ∧
   True)))))))) ∧
   (∀ (v0 : (Int × List Nat) × Nat), ((Option.bind (iter (L06_FilterBounded_b0 l most_) v0.2 v0.1) fun y0 => Option.bind (L06_FilterBounded_r0 c l most_ (val (R06_Copy c)) y0) some) = some r →
   Br (decide (v0.1.1 < (↑(List.length l) : Int)))
   ((Ob ((0 : Int) ≤ v0.1.1 ∧ v0.1.1 < (↑(List.length l) : Int)) ∧
   (Ob (Int.toNat v0.1.1 < List.length l) ∧
   (Ob (ok (B_Mod (List.getD l (Int.toNat v0.1.1) (0 : Int)) (IntKind.wrap IntKind.i64 (IntKind.wrap IntKind.i64 ((2 : Int) * most_) + (1 : Int))))) ∧
   (Ob (True) ∧
   (Ob ((List.length v0.1.2 + List.length [FloatKind.nearest FloatKind.f32 (IntKind.wrap IntKind.i64 (val (B_Mod (List.getD l (Int.toNat v0.1.1) (0 : Int)) (IntKind.wrap IntKind.i64 (IntKind.wrap IntKind.i64 ((2 : Int) * most_) + (1 : Int)))) - most_))]) * (4 : Nat) ≤ (140737488355328 : Nat) ∧ List.length v0.1.2 + List.length [FloatKind.nearest FloatKind.f32 (IntKind.wrap IntKind.i64 (val (B_Mod (List.getD l (Int.toNat v0.1.1) (0 : Int)) (IntKind.wrap IntKind.i64 (IntKind.wrap IntKind.i64 ((2 : Int) * most_) + (1 : Int)))) - most_))] ≤ (9223372036854775807 : Nat)) ∧
   (∃ (v1 : (Int × List Nat) × Nat), (Ob ((Option.bind (iter (L06_FilterBounded_b0 l most_) v1.2 v1.1) fun y0 => Option.bind (L06_FilterBounded_r0 c l most_ (val (R06_Copy c)) y0) some) = some r) ∧
   (Ob (v1.2 < v0.2) ∧
   (Ob (most_ = most_) ∧
   (Ob (Sx06.cbN (val (R06_Copy c)) most_ = Sx06.cbN (val (R06_Copy c)) most_) ∧
   (Ob (IntKind.wrap IntKind.i64 (v0.1.1 + (1 : Int)) = v1.1.1) ∧
   (Ob (c = c) ∧
   (Ob (l = l) ∧
   (Ob (v0.1.2 ++ [FloatKind.nearest FloatKind.f32 (IntKind.wrap IntKind.i64 (val (B_Mod (List.getD l (Int.toNat v0.1.1) (0 : Int)) (IntKind.wrap IntKind.i64 (IntKind.wrap IntKind.i64 ((2 : Int) * most_) + (1 : Int)))) - most_))] = v1.1.2) ∧
   True)))))))))))))))
   ((Ob (ok (R06_Copy c)) ∧
   (Ob (ok (F_RunAll (val (R06_Copy c)) v0.1.2)) ∧
   Br ((val (F_RunAll (val (R06_Copy c)) v0.1.2)).2.2 != (0 : Int))
   ((Ob (True) ∧
   (Ob (false = r) ∧
   True)))
   (Br ((↑(List.length (val (F_RunAll (val (R06_Copy c)) v0.1.2)).1) : Int) != (↑(List.length l) : Int))
   ((Ob (True) ∧
   (Ob (false = r) ∧
   True)))
   (((∃ (v1 : List Nat × (Bool × Int) × Nat), (Ob ((Option.bind (iter (L06_FilterBounded_b1 c most_) v1.2.2 v1.2.1) fun y0 => Option.bind (L06_FilterBounded_r1 most_ (val (R06_Copy c)) (val (F_RunAll (val (R06_Copy c)) v1.1)) y0) some) = some r) ∧
   (Ob (most_ = most_) ∧
   (Ob (Sx06.cbN (val (R06_Copy c)) most_ = Sx06.cbN (val (R06_Copy c)) most_) ∧
   (Ob ((val (F_RunAll (val (R06_Copy c)) v0.1.2)).2.1 = (val (F_RunAll (val (R06_Copy c)) v1.1)).2.1) ∧
   (Ob (true = v1.2.1.1) ∧
   (Ob ((0 : Int) = v1.2.1.2) ∧
   (Ob (c = c) ∧
   (Ob ((val (F_RunAll (val (R06_Copy c)) v0.1.2)).1 = (val (F_RunAll (val (R06_Copy c)) v1.1)).1) ∧
   True))))))))) ∧
   (∀ (v1 : List Nat × (Bool × Int) × Nat), ((Option.bind (iter (L06_FilterBounded_b1 c most_) v1.2.2 v1.2.1) fun y0 => Option.bind (L06_FilterBounded_r1 most_ (val (R06_Copy c)) (val (F_RunAll (val (R06_Copy c)) v1.1)) y0) some) = some r →
   Br (decide (v1.2.1.2 < (↑(List.length c) : Int)))
   ((Ob ((0 : Int) ≤ Option.getD none (0 : Int) ∧ Option.getD none (0 : Int) ≤ Option.getD (some (IntKind.wrap IntKind.i64 (v1.2.1.2 + (1 : Int)))) (↑(List.length c) : Int) ∧ Option.getD (some (IntKind.wrap IntKind.i64 (v1.2.1.2 + (1 : Int)))) (↑(List.length c) : Int) ≤ (↑(List.length c) : Int)) ∧
   (Ob (ok (R06_Copy (List.take (Int.toNat (Option.getD (some (IntKind.wrap IntKind.i64 (v1.2.1.2 + (1 : Int)))) (↑(List.length c) : Int)) - (0 : Nat)) (List.drop (0 : Nat) c)))) ∧
   (Ob (List.length (val (R06_Copy (List.take (Int.toNat (Option.getD (some (IntKind.wrap IntKind.i64 (v1.2.1.2 + (1 : Int)))) (↑(List.length c) : Int)) - (0 : Nat)) (List.drop (0 : Nat) c)))) ≤ (1000000000 : Nat)) ∧
   Br (v1.2.1.1)
   (Br (Sx06.cbE (val (R06_Copy (List.take (Int.toNat (Option.getD (some (IntKind.wrap IntKind.i64 (v1.2.1.2 + (1 : Int)))) (↑(List.length c) : Int)) - (0 : Nat)) (List.drop (0 : Nat) c)))) most_ == (0 : Int))
   ((∃ (v2 : List Nat × (Bool × Int) × Nat), (Ob ((Option.bind (iter (L06_FilterBounded_b1 c most_) v2.2.2 v2.2.1) fun y0 => Option.bind (L06_FilterBounded_r1 most_ (val (R06_Copy c)) (val (F_RunAll (val (R06_Copy c)) v2.1)) y0) some) = some r) ∧
   (Ob (v2.2.2 < v1.2.2) ∧
   (Ob (most_ = most_) ∧
   (Ob (Sx06.cbN (val (R06_Copy c)) most_ = Sx06.cbN (val (R06_Copy c)) most_) ∧
   (Ob ((val (F_RunAll (val (R06_Copy c)) v1.1)).2.1 = (val (F_RunAll (val (R06_Copy c)) v2.1)).2.1) ∧
   (Ob (decide (Sx06.cbN (val (R06_Copy (List.take (Int.toNat (Option.getD (some (IntKind.wrap IntKind.i64 (v1.2.1.2 + (1 : Int)))) (↑(List.length c) : Int)) - (0 : Nat)) (List.drop (0 : Nat) c)))) most_ < (32767 : Int)) = v2.2.1.1) ∧
   (Ob (IntKind.wrap IntKind.i64 (v1.2.1.2 + (1 : Int)) = v2.2.1.2) ∧
   (Ob (c = c) ∧
   (Ob ((val (F_RunAll (val (R06_Copy c)) v1.1)).1 = (val (F_RunAll (val (R06_Copy c)) v2.1)).1) ∧
   True)))))))))))
   ((∃ (v2 : List Nat × (Bool × Int) × Nat), (Ob ((Option.bind (iter (L06_FilterBounded_b1 c most_) v2.2.2 v2.2.1) fun y0 => Option.bind (L06_FilterBounded_r1 most_ (val (R06_Copy c)) (val (F_RunAll (val (R06_Copy c)) v2.1)) y0) some) = some r) ∧
   (Ob (v2.2.2 < v1.2.2) ∧
   (Ob (most_ = most_) ∧
   (Ob (Sx06.cbN (val (R06_Copy c)) most_ = Sx06.cbN (val (R06_Copy c)) most_) ∧
   (Ob ((val (F_RunAll (val (R06_Copy c)) v1.1)).2.1 = (val (F_RunAll (val (R06_Copy c)) v2.1)).2.1) ∧
   (Ob (false = v2.2.1.1) ∧
   (Ob (IntKind.wrap IntKind.i64 (v1.2.1.2 + (1 : Int)) = v2.2.1.2) ∧
   (Ob (c = c) ∧
   (Ob ((val (F_RunAll (val (R06_Copy c)) v1.1)).1 = (val (F_RunAll (val (R06_Copy c)) v2.1)).1) ∧
   True))))))))))))
   ((∃ (v2 : List Nat × (Bool × Int) × Nat), (Ob ((Option.bind (iter (L06_FilterBounded_b1 c most_) v2.2.2 v2.2.1) fun y0 => Option.bind (L06_FilterBounded_r1 most_ (val (R06_Copy c)) (val (F_RunAll (val (R06_Copy c)) v2.1)) y0) some) = some r) ∧
   (Ob (v2.2.2 < v1.2.2) ∧
   (Ob (most_ = most_) ∧
   (Ob (Sx06.cbN (val (R06_Copy c)) most_ = Sx06.cbN (val (R06_Copy c)) most_) ∧
   (Ob ((val (F_RunAll (val (R06_Copy c)) v1.1)).2.1 = (val (F_RunAll (val (R06_Copy c)) v2.1)).2.1) ∧
   (Ob (false = v2.2.1.1) ∧
   (Ob (IntKind.wrap IntKind.i64 (v1.2.1.2 + (1 : Int)) = v2.2.1.2) ∧
   (Ob (c = c) ∧
   (Ob ((val (F_RunAll (val (R06_Copy c)) v1.1)).1 = (val (F_RunAll (val (R06_Copy c)) v2.1)).1) ∧
   True)))))))))))))))
   (((∃ (v2 : List Nat × Bool × Int × Nat), (Ob ((Option.bind (iter (L06_FilterBounded_b2 most_ (val (R06_Copy c)) (val (F_RunAll (val (R06_Copy c)) v2.1))) v2.2.2.2 v2.2.2.1) fun y0 => Option.bind (L06_FilterBounded_r2 v2.2.1 (val (F_RunAll (val (R06_Copy c)) v2.1)) y0) some) = some r) ∧
   (Ob (Sx06.cbN (val (R06_Copy c)) most_ = Sx06.cbN (val (R06_Copy c)) most_) ∧
   (Ob ((val (F_RunAll (val (R06_Copy c)) v1.1)).2.1 = (val (F_RunAll (val (R06_Copy c)) v2.1)).2.1) ∧
   (Ob (v1.2.1.1 = v2.2.1) ∧
   (Ob ((0 : Int) = v2.2.2.1) ∧
   (Ob ((val (F_RunAll (val (R06_Copy c)) v1.1)).1 = (val (F_RunAll (val (R06_Copy c)) v2.1)).1) ∧
   True))))))) ∧
   (∀ (v2 : List Nat × Bool × Int × Nat), ((Option.bind (iter (L06_FilterBounded_b2 most_ (val (R06_Copy c)) (val (F_RunAll (val (R06_Copy c)) v2.1))) v2.2.2.2 v2.2.2.1) fun y0 => Option.bind (L06_FilterBounded_r2 v2.2.1 (val (F_RunAll (val (R06_Copy c)) v2.1)) y0) some) = some r →
   Br (decide (v2.2.2.1 < (↑(List.length (val (F_RunAll (val (R06_Copy c)) v2.1)).1) : Int)))
   ((Ob ((0 : Int) ≤ v2.2.2.1 ∧ v2.2.2.1 < (↑(List.length (val (F_RunAll (val (R06_Copy c)) v2.1)).1) : Int)) ∧
   (Ob (Int.toNat v2.2.2.1 < List.length (val (F_RunAll (val (R06_Copy c)) v2.1)).1) ∧
   (Ob (f2iOk FloatKind.f32 IntKind.i64 (List.getD (val (F_RunAll (val (R06_Copy c)) v2.1)).1 (Int.toNat v2.2.2.1) (0 : Nat)) = true) ∧
   (Ob (True) ∧
   Br (!(decide (IntKind.wrap IntKind.i64 ((0 : Int) - Sx06.cbN (val (R06_Copy c)) most_) ≤ f2i FloatKind.f32 (List.getD (val (F_RunAll (val (R06_Copy c)) v2.1)).1 (Int.toNat v2.2.2.1) (0 : Nat))) && decide (f2i FloatKind.f32 (List.getD (val (F_RunAll (val (R06_Copy c)) v2.1)).1 (Int.toNat v2.2.2.1) (0 : Nat)) ≤ Sx06.cbN (val (R06_Copy c)) most_)))
   ((Ob (True) ∧
   (Ob (false = r) ∧
   True)))
   ((∃ (v3 : List Nat × Bool × Int × Nat), (Ob ((Option.bind (iter (L06_FilterBounded_b2 most_ (val (R06_Copy c)) (val (F_RunAll (val (R06_Copy c)) v3.1))) v3.2.2.2 v3.2.2.1) fun y0 => Option.bind (L06_FilterBounded_r2 v3.2.1 (val (F_RunAll (val (R06_Copy c)) v3.1)) y0) some) = some r) ∧
   (Ob (v3.2.2.2 < v2.2.2.2) ∧
   (Ob (Sx06.cbN (val (R06_Copy c)) most_ = Sx06.cbN (val (R06_Copy c)) most_) ∧
   (Ob ((val (F_RunAll (val (R06_Copy c)) v2.1)).2.1 = (val (F_RunAll (val (R06_Copy c)) v3.1)).2.1) ∧
   (Ob (v2.2.1 = v3.2.1) ∧
   (Ob (IntKind.wrap IntKind.i64 (v2.2.2.1 + (1 : Int)) = v3.2.2.1) ∧
   (Ob ((val (F_RunAll (val (R06_Copy c)) v2.1)).1 = (val (F_RunAll (val (R06_Copy c)) v3.1)).1) ∧
   True))))))))))))))
   (Br (!v2.2.1)
   ((Ob (True) ∧
   (Ob (true = r) ∧
   True)))
   ((Ob (True) ∧
   (Ob (((val (F_RunAll (val (R06_Copy c)) v2.1)).2.1 == (0 : Int)) = r) ∧
   True))))))))))))))))))))))))))))) = _) ?_
  refine ob_c (p := ok L06_awake) (by decide) ?_
  refine call_s h fun h => ?_
  refine br_b h (fun h => ?_) (fun h => ?_)
  · refine ob_t ?_
    exact ret_s h (fun e => by subst e; exact (by repeat' (first | exact trivial | exact ⟨rfl⟩ | refine And.intro ?_ ?_)))
  · refine br_d h (fun h => ?_) (fun h => ?_)
    · refine ob_t ?_
      exact ret_s h (fun e => by subst e; exact (by repeat' (first | exact trivial | exact ⟨rfl⟩ | refine And.intro ?_ ?_)))
    · refine ob_t ?_
      refine br_b h (fun h => ?_) (fun h => ?_)
      · refine ob_t ?_
        exact ret_s h (fun e => by subst e; exact (by repeat' (first | exact trivial | exact ⟨rfl⟩ | refine And.intro ?_ ?_)))
      · refine call_s h fun h => ?_
        refine ob_s h fun h => ?_
        refine br_b h (fun h => ?_) (fun h => ?_)
        · refine ob_t ?_
          exact ret_s h (fun e => by subst e; exact (by repeat' (first | exact trivial | exact ⟨rfl⟩ | refine And.intro ?_ ?_)))
        · refine ⟨⟨(((0 : Int), []), big), ⟨loop_s h⟩, (by repeat' (first | exact trivial | exact ⟨rfl⟩ | refine And.intro ?_ ?_))⟩, fun z6 hz6 => ?_⟩
          obtain ⟨k6, hm6, h⟩ := iter_pos hz6
          refine br_d h (fun h => ?_) (fun h => ?_)
          · refine ob_s h fun h => ?_
            refine ob_s h fun h => ?_
            refine call_s h fun h => ?_
            refine ob_t ?_
            refine ob_s h fun h => ?_
            exact ⟨((IntKind.wrap IntKind.i64 ((Prod.fst z6).1 + (1 : Int)), (Prod.fst z6).2 ++ [FloatKind.nearest FloatKind.f32 (IntKind.wrap IntKind.i64 (val (B_Mod (List.getD l (Int.toNat (Prod.fst z6).1) (0 : Int)) (IntKind.wrap IntKind.i64 (IntKind.wrap IntKind.i64 ((2 : Int) * most_) + (1 : Int)))) - most_))]), k6), ⟨next_s h⟩, ⟨lt_gs hm6.symm⟩, (by repeat' (first | exact trivial | exact ⟨rfl⟩ | refine And.intro ?_ ?_))⟩
          · have h := exit_s h
            refine call_s h fun h => ?_
            refine call_s h fun h => ?_
            refine br_b h (fun h => ?_) (fun h => ?_)
            · refine ob_t ?_
              exact ret_s h (fun e => by subst e; exact (by repeat' (first | exact trivial | exact ⟨rfl⟩ | refine And.intro ?_ ?_)))
            · refine br_b h (fun h => ?_) (fun h => ?_)
              · refine ob_t ?_
                exact ret_s h (fun e => by subst e; exact (by repeat' (first | exact trivial | exact ⟨rfl⟩ | refine And.intro ?_ ?_)))
              · refine ⟨⟨((Prod.fst z6).2, (true, (0 : Int)), big), ⟨loop_s h⟩, (by repeat' (first | exact trivial | exact ⟨rfl⟩ | refine And.intro ?_ ?_))⟩, fun z7 hz7 => ?_⟩
                obtain ⟨k7, hm7, h⟩ := iter_pos hz7
                refine br_d h (fun h => ?_) (fun h => ?_)
                · refine ob_s h fun h => ?_
                  refine call_s h fun h => ?_
                  refine ob_s h fun h => ?_
                  refine br_b h (fun h => ?_) (fun h => ?_)
                  · refine br_b h (fun h => ?_) (fun h => ?_)
                    · exact ⟨(Prod.fst z7, (decide (Sx06.cbN (val (R06_Copy (List.take (Int.toNat (Option.getD (some (IntKind.wrap IntKind.i64 ((Prod.fst (Prod.snd z7)).2 + (1 : Int)))) (↑(List.length c) : Int)) - (0 : Nat)) (List.drop (0 : Nat) c)))) most_ < (32767 : Int)), IntKind.wrap IntKind.i64 ((Prod.fst (Prod.snd z7)).2 + (1 : Int))), k7), ⟨next_s h⟩, ⟨lt_gs hm7.symm⟩, (by repeat' (first | exact trivial | exact ⟨rfl⟩ | refine And.intro ?_ ?_))⟩
                    · exact ⟨(Prod.fst z7, (false, IntKind.wrap IntKind.i64 ((Prod.fst (Prod.snd z7)).2 + (1 : Int))), k7), ⟨next_s h⟩, ⟨lt_gs hm7.symm⟩, (by repeat' (first | exact trivial | exact ⟨rfl⟩ | refine And.intro ?_ ?_))⟩
                  · exact ⟨(Prod.fst z7, (false, IntKind.wrap IntKind.i64 ((Prod.fst (Prod.snd z7)).2 + (1 : Int))), k7), ⟨next_s h⟩, ⟨lt_gs hm7.symm⟩, (by repeat' (first | exact trivial | exact ⟨rfl⟩ | refine And.intro ?_ ?_))⟩
                · have h := exit_s h
                  refine ⟨⟨(Prod.fst z7, (Prod.fst (Prod.snd z7)).1, (0 : Int), big), ⟨loop_s h⟩, (by repeat' (first | exact trivial | exact ⟨rfl⟩ | refine And.intro ?_ ?_))⟩, fun z8 hz8 => ?_⟩
                  obtain ⟨k8, hm8, h⟩ := iter_pos hz8
                  refine br_d h (fun h => ?_) (fun h => ?_)
                  · refine ob_s h fun h => ?_
                    refine ob_s h fun h => ?_
                    refine ob_s h fun h => ?_
                    refine ob_t ?_
                    refine br_b h (fun h => ?_) (fun h => ?_)
                    · have h := exit_s h
                      refine ob_t ?_
                      exact ret_s h (fun e => by subst e; exact (by repeat' (first | exact trivial | exact ⟨rfl⟩ | refine And.intro ?_ ?_)))
                    · exact ⟨(Prod.fst z8, Prod.fst (Prod.snd z8), IntKind.wrap IntKind.i64 (Prod.fst (Prod.snd (Prod.snd z8)) + (1 : Int)), k8), ⟨next_s h⟩, ⟨lt_gs hm8.symm⟩, (by repeat' (first | exact trivial | exact ⟨rfl⟩ | refine And.intro ?_ ?_))⟩
                  · have h := exit_s h
                    refine br_b h (fun h => ?_) (fun h => ?_)
                    · refine ob_t ?_
                      exact ret_s h (fun e => by subst e; exact (by repeat' (first | exact trivial | exact ⟨rfl⟩ | refine And.intro ?_ ?_)))
                    · refine ob_t ?_
                      exact ret_s h (fun e => by subst e; exact (by repeat' (first | exact trivial | exact ⟨rfl⟩ | refine And.intro ?_ ?_)))
set_option maxRecDepth 100000 in
theorem L06_FilterBounded_ok : SpecOK Try.prog 10 true (pureK k_L06_FilterBounded g_L06_FilterBounded) := by
  refine pureK_ok (sp := (sp_18 (sp_24 (sp_51 (sp_52 (sp_27 (sp_26 (sp_50 sp0)))))))) (fn := Try.f10) (body := bodyOf Try.f10) mixed (sp_18_ok (sp_24_ok (sp_51_ok (sp_52_ok (sp_27_ok (sp_26_ok (sp_50_ok sp0_ok))))))) Try.func10 (by kernel_rfl) (by kernel_rfl) fun as_ ob rs h ho => ?_
  unfold g_L06_FilterBounded at h
  split at h
  · rename_i c l most_
    cases h
    exact ⟨Nat.le_of_ble_eq_true rfl, _, _, L06_FilterBounded_vc c l most_ _ (ok_some ho)⟩
  · cases h
theorem sp_10_ok {sp : Specs} (h : SpecsOK Try.prog sp) : SpecsOK Try.prog (sp_10 sp) := addK_ok L06_FilterBounded_ok h
end Go.Sh
