/- Mirrors of functions, and their contracts: made by a program of mine. -/
import Derived.Test.YtndhdojnlobloaaMirA
namespace Go.Sh
open Go Go.Proofs Go.RowKit Go.Sx
set_option linter.unusedVariables false

def R06_CascadeBound_b0 (c : List (List Int)) (x0 : (Int × Int)) : Option ((Int × Int) ⊕ (Int ⊕ Int)) :=
  if x0.2 < (↑(List.length c) : Int) then
   if (0 : Int) ≤ x0.2 ∧ x0.2 < (↑(List.length c) : Int) then
    if Int.toNat x0.2 < List.length c then
     Option.bind (R06_BoundOf (List.getD (List.getD c (Int.toNat x0.2) []) (0 : Nat) (0 : Int)) (List.getD (List.getD c (Int.toNat x0.2) []) (1 : Nat) (0 : Int)) (List.getD (List.getD c (Int.toNat x0.2) []) (2 : Nat) (0 : Int)) (List.getD (List.getD c (Int.toNat x0.2) []) (3 : Nat) (0 : Int)) (List.getD (List.getD c (Int.toNat x0.2) []) (4 : Nat) (0 : Int)) x0.1) fun r0 =>
     if (r0.2 != (0 : Int)) = true then
      some (.inr (.inl r0.2))
     else
      some (.inl ((r0.1, IntKind.wrap IntKind.i64 (x0.2 + (1 : Int)))))
    else none
   else none
  else
   some (.inr (.inr x0.1))
def R06_CascadeBound_r0_0 (y0_0 : Int) : Option (Int × Int) :=
  some (((0 : Int), y0_0))
def R06_CascadeBound_r0_1 (y0_1 : Int) : Option (Int × Int) :=
  some ((y0_1, (0 : Int)))
def R06_CascadeBound_r0 : (Int ⊕ Int) → Option (Int × Int) :=
  (Sum.elim (R06_CascadeBound_r0_0) (R06_CascadeBound_r0_1))
/-- shoebox/shoeboxref06.CascadeBound -/
def R06_CascadeBound (c : List (List Int)) (most_ : Int) : Option (Int × Int) :=
  if (!(decide ((0 : Int) ≤ most_) && decide (most_ ≤ (32767 : Int)))) = true then
   some (((0 : Int), (2 : Int)))
  else
   Option.bind (iter (R06_CascadeBound_b0 c) big ((most_, (0 : Int)))) (R06_CascadeBound_r0)
def g_R06_CascadeBound : List A → Option (Prop × List RV)
  | [.r (.recs 5 c), .d (.i .i64 most_)] => some (ok (R06_CascadeBound c most_), [.d (.i .i64 ((val (R06_CascadeBound c most_)).1)), .d (.i .i64 ((val (R06_CascadeBound c most_)).2))])
  | _ => none
def k_R06_CascadeBound : List (Option Cont) := [some (.recs 5 []), none]
abbrev sp_31 : Specs → Specs := addK 31 true (pureK k_R06_CascadeBound g_R06_CascadeBound)
set_option maxRecDepth 100000 in
theorem R06_CascadeBound_vc (c : List (List Int)) (most_ : Int) (r : Int × Int) (h : Option.bind (R06_CascadeBound c most_) some = some r) : runF Try.f31 ((sp_50 (sp_29 sp0))) (fun gs id _ => match id with
 | 0 => some ⟨(Int × Int) × Nat, fun z => ⟨[(0, .w (.c (.o 0))), (1, .w (.c (.d (.i .i64 (Prod.fst (Prod.fst z)))))), (6, .w (.c (.d (.i .i64 (Prod.snd (Prod.fst z))))))], [(0, .ext (.recs 5 c))], 2⟩, fun z => Option.bind (iter (R06_CascadeBound_b0 c) (Prod.snd z) (Prod.fst z)) (fun y0 => Option.bind (R06_CascadeBound_r0 y0) some) = some r, fun z => Prod.snd z⟩
 | _ => none) [.r (.recs 5 c), .d (.i .i64 most_)] [.d (.i .i64 r.1), .d (.i .i64 r.2)] := by
  refine Eq.mp (by kernel_rfl : (
  (Ob (True) ∧
   Br (!(decide ((0 : Int) ≤ most_) && decide (most_ ≤ (32767 : Int))))
   ((Ob (True) ∧
   (Ob (True) ∧
   (Ob ((0 : Int) = r.1) ∧
   (Ob ((2 : Int) = r.2) ∧
   True)))))
   (((∃ (v0 : (Int × Int) × Nat), (Ob ((Option.bind (iter (R06_CascadeBound_b0 c) v0.2 v0.1) fun y0 => Option.bind (R06_CascadeBound_r0 y0) some) = some r) ∧
   (Ob (most_ = v0.1.1) ∧
   (Ob ((0 : Int) = v0.1.2) ∧
   (Ob (c = c) ∧
   True))))) ∧
   (∀ (v0 : (Int × Int) × Nat), ((Option.bind (iter (R06_CascadeBound_b0 c) v0.2 v0.1) fun y0 => Option.bind (R06_CascadeBound_r0 y0) some) = some r →
   Br (decide (v0.1.2 < (↑(List.length c) : Int)))
   ((Ob ((0 : Int) ≤ v0.1.2 ∧ v0.1.2 < (↑(List.length c) : Int)) ∧
   (Ob (Int.toNat v0.1.2 < List.length c) ∧
   (Ob (ok (R06_BoundOf (List.getD (List.getD c (Int.toNat v0.1.2) []) (0 : Nat) (0 : Int)) (List.getD (List.getD c (Int.toNat v0.1.2) []) (1 : Nat) (0 : Int)) (List.getD (List.getD c (Int.toNat v0.1.2) []) (2 : Nat) (0 : Int)) (List.getD (List.getD c (Int.toNat v0.1.2) []) (3 : Nat) (0 : Int)) (List.getD (List.getD c (Int.toNat v0.1.2) []) (4 : Nat) (0 : Int)) v0.1.1)) ∧
   Br ((val (R06_BoundOf (List.getD (List.getD c (Int.toNat v0.1.2) []) (0 : Nat) (0 : Int)) (List.getD (List.getD c (Int.toNat v0.1.2) []) (1 : Nat) (0 : Int)) (List.getD (List.getD c (Int.toNat v0.1.2) []) (2 : Nat) (0 : Int)) (List.getD (List.getD c (Int.toNat v0.1.2) []) (3 : Nat) (0 : Int)) (List.getD (List.getD c (Int.toNat v0.1.2) []) (4 : Nat) (0 : Int)) v0.1.1)).2 != (0 : Int))
   ((Ob (True) ∧
   (Ob (True) ∧
   (Ob ((0 : Int) = r.1) ∧
   (Ob ((val (R06_BoundOf (List.getD (List.getD c (Int.toNat v0.1.2) []) (0 : Nat) (0 : Int)) (List.getD (List.getD c (Int.toNat v0.1.2) []) (1 : Nat) (0 : Int)) (List.getD (List.getD c (Int.toNat v0.1.2) []) (2 : Nat) (0 : Int)) (List.getD (List.getD c (Int.toNat v0.1.2) []) (3 : Nat) (0 : Int)) (List.getD (List.getD c (Int.toNat v0.1.2) []) (4 : Nat) (0 : Int)) v0.1.1)).2 = r.2) ∧
   True)))))
   ((∃ (v1 : (Int × Int) × Nat), (Ob ((Option.bind (iter (R06_CascadeBound_b0 c) v1.2 v1.1) fun y0 => Option.bind (R06_CascadeBound_r0 y0) some) = some r) ∧
   (Ob (v1.2 < v0.2) ∧
   (Ob ((val (R06_BoundOf (List.getD (List.getD c (Int.toNat v0.1.2) []) (0 : Nat) (0 : Int)) (List.getD (List.getD c (Int.toNat v0.1.2) []) (1 : Nat) (0 : Int)) (List.getD (List.getD c (Int.toNat v0.1.2) []) (2 : Nat) (0 : Int)) (List.getD (List.getD c (Int.toNat v0.1.2) []) (3 : Nat) (0 : Int)) (List.getD (List.getD c (Int.toNat v0.1.2) []) (4 : Nat) (0 : Int)) v0.1.1)).1 = v1.1.1) ∧
   (Ob (IntKind.wrap IntKind.i64 (v0.1.2 + (1 : Int)) = v1.1.2) ∧
   (Ob (c = c) ∧
   True)))))))))))
   ((Ob (True) ∧
   (Ob (True) ∧
   (Ob (v0.1.1 = r.1) ∧
   (Ob ((0 : Int) = r.2) ∧
   True))))))))))) = _) ?_
  refine ob_t ?_
  refine br_b h (fun h => ?_) (fun h => ?_)
  · refine ob_t ?_
    refine ob_t ?_
    exact ret_s h (fun e => by subst e; exact (by repeat' (first | exact trivial | exact ⟨rfl⟩ | refine And.intro ?_ ?_)))
  · refine ⟨⟨((most_, (0 : Int)), big), ⟨loop_s h⟩, (by repeat' (first | exact trivial | exact ⟨rfl⟩ | refine And.intro ?_ ?_))⟩, fun z1 hz1 => ?_⟩
    obtain ⟨k1, hm1, h⟩ := iter_pos hz1
    refine br_d h (fun h => ?_) (fun h => ?_)
    · refine ob_s h fun h => ?_
      refine ob_s h fun h => ?_
      refine call_s h fun h => ?_
      refine br_b h (fun h => ?_) (fun h => ?_)
      · have h := exit_s h
        refine ob_t ?_
        refine ob_t ?_
        exact ret_s h (fun e => by subst e; exact (by repeat' (first | exact trivial | exact ⟨rfl⟩ | refine And.intro ?_ ?_)))
      · exact ⟨(((val (R06_BoundOf (List.getD (List.getD c (Int.toNat (Prod.fst z1).2) []) (0 : Nat) (0 : Int)) (List.getD (List.getD c (Int.toNat (Prod.fst z1).2) []) (1 : Nat) (0 : Int)) (List.getD (List.getD c (Int.toNat (Prod.fst z1).2) []) (2 : Nat) (0 : Int)) (List.getD (List.getD c (Int.toNat (Prod.fst z1).2) []) (3 : Nat) (0 : Int)) (List.getD (List.getD c (Int.toNat (Prod.fst z1).2) []) (4 : Nat) (0 : Int)) (Prod.fst z1).1)).1, IntKind.wrap IntKind.i64 ((Prod.fst z1).2 + (1 : Int))), k1), ⟨next_s h⟩, ⟨lt_gs hm1.symm⟩, (by repeat' (first | exact trivial | exact ⟨rfl⟩ | refine And.intro ?_ ?_))⟩
    · have h := exit_s h
      refine ob_t ?_
      refine ob_t ?_
      exact ret_s h (fun e => by subst e; exact (by repeat' (first | exact trivial | exact ⟨rfl⟩ | refine And.intro ?_ ?_)))
set_option maxRecDepth 100000 in
theorem R06_CascadeBound_ok : SpecOK Try.prog 31 true (pureK k_R06_CascadeBound g_R06_CascadeBound) := by
  refine pureK_ok (sp := (sp_50 (sp_29 sp0))) (fn := Try.f31) (body := bodyOf Try.f31) mixed (sp_50_ok (sp_29_ok sp0_ok)) Try.func31 (by kernel_rfl) (by kernel_rfl) fun as_ ob rs h ho => ?_
  unfold g_R06_CascadeBound at h
  split at h
  · rename_i c most_
    cases h
    exact ⟨Nat.le_of_ble_eq_true rfl, _, _, R06_CascadeBound_vc c most_ _ (ok_some ho)⟩
  · cases h
theorem sp_31_ok {sp : Specs} (h : SpecsOK Try.prog sp) : SpecsOK Try.prog (sp_31 sp) := addK_ok R06_CascadeBound_ok h

/-- shoebox/shoeboxlaw06.FilterBounds -/
def L06_FilterBounds (c : List (List Int)) (sB0 : Int) (sB1 : Int) (sB2 : Int) (sA0 : Int) (sA1 : Int) (most_ : Int) : Option Bool :=
  Option.bind (L06_few c) fun r0 =>
  if (!r0) = true then
   some true
  else
   Option.bind (R06_Copy c) fun r1 =>
   if List.length r1 ≤ (1000000000 : Nat) then
    Option.bind (R06_CheckSection sB0 sB1 sB2 sA0 sA1) fun r2 =>
    if (r2 == (0 : Int)) = true then
     Option.bind (R06_BoundOf sB0 sB1 sB2 sA0 sA1 most_) fun r3 =>
     if (Sx06.cbE [[sB0, sB1, sB2, sA0, sA1]] most_ != r3.2) = true then
      some false
     else
      if (Sx06.cbN [[sB0, sB1, sB2, sA0, sA1]] most_ != r3.1) = true then
       some false
      else
       Option.bind (R06_CheckCascade c) fun r4 =>
       if (r4.2 == (0 : Int)) = true then
        Option.bind (R06_CascadeBound c most_) fun r5 =>
        if (Sx06.cbE r1 most_ == r5.2) = true then
         some (Sx06.cbN r1 most_ == r5.1)
        else
         some false
       else
        if (Sx06.cbE r1 most_ == r4.2) = true then
         some (Sx06.cbN r1 most_ == (0 : Int))
        else
         some false
    else
     if (Sx06.cbE [[sB0, sB1, sB2, sA0, sA1]] most_ != r2) = true then
      some false
     else
      if (Sx06.cbN [[sB0, sB1, sB2, sA0, sA1]] most_ != (0 : Int)) = true then
       some false
      else
       Option.bind (R06_CheckCascade c) fun r6 =>
       if (r6.2 == (0 : Int)) = true then
        Option.bind (R06_CascadeBound c most_) fun r7 =>
        if (Sx06.cbE r1 most_ == r7.2) = true then
         some (Sx06.cbN r1 most_ == r7.1)
        else
         some false
       else
        if (Sx06.cbE r1 most_ == r6.2) = true then
         some (Sx06.cbN r1 most_ == (0 : Int))
        else
         some false
   else none
def g_L06_FilterBounds : List A → Option (Prop × List RV)
  | [.r (.recs 5 c), .s [.i .i64 sB0, .i .i64 sB1, .i .i64 sB2, .i .i64 sA0, .i .i64 sA1], .d (.i .i64 most_)] => some (ok (L06_FilterBounds c sB0 sB1 sB2 sA0 sA1 most_), [.d (.b ((val (L06_FilterBounds c sB0 sB1 sB2 sA0 sA1 most_))))])
  | _ => none
def k_L06_FilterBounds : List (Option Cont) := [some (.recs 5 []), none, none]
abbrev sp_4 : Specs → Specs := addK 4 true (pureK k_L06_FilterBounds g_L06_FilterBounds)
set_option maxRecDepth 100000 in
theorem L06_FilterBounds_vc (c : List (List Int)) (sB0 : Int) (sB1 : Int) (sB2 : Int) (sA0 : Int) (sA1 : Int) (most_ : Int) (r : Bool) (h : Option.bind (L06_FilterBounds c sB0 sB1 sB2 sA0 sA1 most_) some = some r) : runF Try.f4 ((sp_18 (sp_24 (sp_25 (sp_27 (sp_26 (sp_28 (sp_29 (sp_30 (sp_31 sp0)))))))))) (fun _ _ _ => none) [.r (.recs 5 c), .s [.i .i64 sB0, .i .i64 sB1, .i .i64 sB2, .i .i64 sA0, .i .i64 sA1], .d (.i .i64 most_)] [.d (.b r)] := by
  refine Eq.mp (by kernel_rfl : (
  (Ob (ok L06_awake) ∧
   (Ob (ok (L06_few c)) ∧
   Br (!val (L06_few c))
   ((Ob (True) ∧
   (Ob (true = r) ∧
   True)))
   ((Ob (True) ∧
   (Ob (ok (R06_Copy c)) ∧
   (Ob (List.length (val (R06_Copy c)) ≤ (1000000000 : Nat)) ∧
   (Ob (ok (R06_CheckSection sB0 sB1 sB2 sA0 sA1)) ∧
   Br (val (R06_CheckSection sB0 sB1 sB2 sA0 sA1) == (0 : Int))
   ((Ob (ok (R06_BoundOf sB0 sB1 sB2 sA0 sA1 most_)) ∧
   Br (Sx06.cbE [[sB0, sB1, sB2, sA0, sA1]] most_ != (val (R06_BoundOf sB0 sB1 sB2 sA0 sA1 most_)).2)
   ((Ob (True) ∧
   (Ob (false = r) ∧
   True)))
   (Br (Sx06.cbN [[sB0, sB1, sB2, sA0, sA1]] most_ != (val (R06_BoundOf sB0 sB1 sB2 sA0 sA1 most_)).1)
   ((Ob (True) ∧
   (Ob (false = r) ∧
   True)))
   ((Ob (ok (R06_CheckCascade c)) ∧
   Br ((val (R06_CheckCascade c)).2 == (0 : Int))
   ((Ob (ok (R06_CascadeBound c most_)) ∧
   Br (Sx06.cbE (val (R06_Copy c)) most_ == (val (R06_CascadeBound c most_)).2)
   ((Ob (True) ∧
   (Ob ((Sx06.cbN (val (R06_Copy c)) most_ == (val (R06_CascadeBound c most_)).1) = r) ∧
   True)))
   ((Ob (True) ∧
   (Ob (false = r) ∧
   True)))))
   (Br (Sx06.cbE (val (R06_Copy c)) most_ == (val (R06_CheckCascade c)).2)
   ((Ob (True) ∧
   (Ob ((Sx06.cbN (val (R06_Copy c)) most_ == (0 : Int)) = r) ∧
   True)))
   ((Ob (True) ∧
   (Ob (false = r) ∧
   True)))))))))
   (Br (Sx06.cbE [[sB0, sB1, sB2, sA0, sA1]] most_ != val (R06_CheckSection sB0 sB1 sB2 sA0 sA1))
   ((Ob (True) ∧
   (Ob (false = r) ∧
   True)))
   (Br (Sx06.cbN [[sB0, sB1, sB2, sA0, sA1]] most_ != (0 : Int))
   ((Ob (True) ∧
   (Ob (false = r) ∧
   True)))
   ((Ob (ok (R06_CheckCascade c)) ∧
   Br ((val (R06_CheckCascade c)).2 == (0 : Int))
   ((Ob (ok (R06_CascadeBound c most_)) ∧
   Br (Sx06.cbE (val (R06_Copy c)) most_ == (val (R06_CascadeBound c most_)).2)
   ((Ob (True) ∧
   (Ob ((Sx06.cbN (val (R06_Copy c)) most_ == (val (R06_CascadeBound c most_)).1) = r) ∧
   True)))
   ((Ob (True) ∧
   (Ob (false = r) ∧
   True)))))
   (Br (Sx06.cbE (val (R06_Copy c)) most_ == (val (R06_CheckCascade c)).2)
   ((Ob (True) ∧
   (Ob ((Sx06.cbN (val (R06_Copy c)) most_ == (0 : Int)) = r) ∧
   True)))
   ((Ob (True) ∧
   (Ob (false = r) ∧
   True)))))))))))))))) = _) ?_
  refine ob_c (p := ok L06_awake) (by decide) ?_
  refine call_s h fun h => ?_
  refine br_b h (fun h => ?_) (fun h => ?_)
  · refine ob_t ?_
    exact ret_s h (fun e => by subst e; exact (by repeat' (first | exact trivial | exact ⟨rfl⟩ | refine And.intro ?_ ?_)))
  · refine ob_t ?_
    refine call_s h fun h => ?_
    refine ob_s h fun h => ?_
    refine call_s h fun h => ?_
    refine br_b h (fun h => ?_) (fun h => ?_)
    · refine call_s h fun h => ?_
      refine br_b h (fun h => ?_) (fun h => ?_)
      · refine ob_t ?_
        exact ret_s h (fun e => by subst e; exact (by repeat' (first | exact trivial | exact ⟨rfl⟩ | refine And.intro ?_ ?_)))
      · refine br_b h (fun h => ?_) (fun h => ?_)
        · refine ob_t ?_
          exact ret_s h (fun e => by subst e; exact (by repeat' (first | exact trivial | exact ⟨rfl⟩ | refine And.intro ?_ ?_)))
        · refine call_s h fun h => ?_
          refine br_b h (fun h => ?_) (fun h => ?_)
          · refine call_s h fun h => ?_
            refine br_b h (fun h => ?_) (fun h => ?_)
            · refine ob_t ?_
              exact ret_s h (fun e => by subst e; exact (by repeat' (first | exact trivial | exact ⟨rfl⟩ | refine And.intro ?_ ?_)))
            · refine ob_t ?_
              exact ret_s h (fun e => by subst e; exact (by repeat' (first | exact trivial | exact ⟨rfl⟩ | refine And.intro ?_ ?_)))
          · refine br_b h (fun h => ?_) (fun h => ?_)
            · refine ob_t ?_
              exact ret_s h (fun e => by subst e; exact (by repeat' (first | exact trivial | exact ⟨rfl⟩ | refine And.intro ?_ ?_)))
            · refine ob_t ?_
              exact ret_s h (fun e => by subst e; exact (by repeat' (first | exact trivial | exact ⟨rfl⟩ | refine And.intro ?_ ?_)))
    · refine br_b h (fun h => ?_) (fun h => ?_)
      · refine ob_t ?_
        exact ret_s h (fun e => by subst e; exact (by repeat' (first | exact trivial | exact ⟨rfl⟩ | refine And.intro ?_ ?_)))
      · refine br_b h (fun h => ?_) (fun h => ?_)
        · refine ob_t ?_
          exact ret_s h (fun e => by subst e; exact (by repeat' (first | exact trivial | exact ⟨rfl⟩ | refine And.intro ?_ ?_)))
        · refine call_s h fun h => ?_
          refine br_b h (fun h => ?_) (fun h => ?_)
          · refine call_s h fun h => ?_
            refine br_b h (fun h => ?_) (fun h => ?_)
            · refine ob_t ?_
              exact ret_s h (fun e => by subst e; exact (by repeat' (first | exact trivial | exact ⟨rfl⟩ | refine And.intro ?_ ?_)))
            · refine ob_t ?_
              exact ret_s h (fun e => by subst e; exact (by repeat' (first | exact trivial | exact ⟨rfl⟩ | refine And.intro ?_ ?_)))
          · refine br_b h (fun h => ?_) (fun h => ?_)
            · refine ob_t ?_
              exact ret_s h (fun e => by subst e; exact (by repeat' (first | exact trivial | exact ⟨rfl⟩ | refine And.intro ?_ ?_)))
            · refine ob_t ?_
              exact ret_s h (fun e => by subst e; exact (by repeat' (first | exact trivial | exact ⟨rfl⟩ | refine And.intro ?_ ?_)))
set_option maxRecDepth 100000 in
theorem L06_FilterBounds_ok : SpecOK Try.prog 4 true (pureK k_L06_FilterBounds g_L06_FilterBounds) := by
  refine pureK_ok (sp := (sp_18 (sp_24 (sp_25 (sp_27 (sp_26 (sp_28 (sp_29 (sp_30 (sp_31 sp0)))))))))) (fn := Try.f4) (body := bodyOf Try.f4) mixed (sp_18_ok (sp_24_ok (sp_25_ok (sp_27_ok (sp_26_ok (sp_28_ok (sp_29_ok (sp_30_ok (sp_31_ok sp0_ok))))))))) Try.func4 (by kernel_rfl) (by kernel_rfl) fun as_ ob rs h ho => ?_
  unfold g_L06_FilterBounds at h
  split at h
  · rename_i c sB0 sB1 sB2 sA0 sA1 most_
    cases h
    exact ⟨Nat.le_of_ble_eq_true rfl, _, _, L06_FilterBounds_vc c sB0 sB1 sB2 sA0 sA1 most_ _ (ok_some ho)⟩
  · cases h
theorem sp_4_ok {sp : Specs} (h : SpecsOK Try.prog sp) : SpecsOK Try.prog (sp_4 sp) := addK_ok L06_FilterBounds_ok h
end Go.Sh
