/- Mirrors of functions, and their contracts: made by a program of mine. -/
import Derived.Test.YtndhdojnlobloaaMirA
namespace Go.Sh
open Go Go.Proofs Go.RowKit Go.Sx
set_option linter.unusedVariables false

def R06_CascadeBound_b0 (c : List (List Int)) (x0 : (Int × Int)) : Option ((Int × Int) ⊕ (Int ⊕ Int)) :=
  if x0.2 < (↑(List.length c) : Int) then
   if (0 : Int) ≤ x0.2 ∧ x0.2 < (↑(List.length c) : Int) then
    if Int.toNat x0.2 < List.length c then
     Option.bind (R06_BoundOf (List.getD (List.getD c (Int.toNat x0.2) []) (0 : Nat) (0 : Int)) (List.getD (List.getD c (Int.toNat x0.2) []) (1 : Nat) (0 : Int)) (List.getD (List.getD c (Int.toNat x0.2) []) (2 : Nat) (0 : Int)) (List.getD (List.getD c (Int.toNat x0.2) []) (3 : Nat) (0 : Int)) (List.getD (List.getD c (Int.toNat x0.2) []) (4 : Nat) (0 : Int)) x0.1) fun r0 =>
     if (r0.2 != (0 : Int)) = true then
      some (.inr (.inl r0.2))
     else
      some (.inl ((r0.1, IntKind.wrap IntKind.i64 (x0.2 + (1 : Int)))))
    else none
   else none
  else
   some (.inr (.inr x0.1))
def R06_CascadeBound_r0_0 (y0_0 : Int) : Option (Int × Int) :=
  some (((0 : Int), y0_0))
def R06_CascadeBound_r0_1 (y0_1 : Int) : Option (Int × Int) :=
  some ((y0_1, (0 : Int)))
def R06_CascadeBound_r0 : (Int ⊕ Int) → Option (Int × Int) :=
  (Sum.elim (R06_CascadeBound_r0_0) (R06_CascadeBound_r0_1))
/-- shoebox/shoeboxref06.CascadeBound -/
def R06_CascadeBound (c : List (List Int)) (most_ : Int) : Option (Int × Int) :=
  if (!(decide ((0 : Int) ≤ most_) && decide (most_ ≤ (32767 : Int)))) = true then
   some (((0 : Int), (2 : Int)))
  else
   Option.bind (iter (R06_CascadeBound_b0 c) big ((most_, (0 : Int)))) (R06_CascadeBound_r0)
def g_R06_CascadeBound : List A → Option (Prop × List RV)
  | [.r (.recs 5 c), .d (.i .i64 most_)] => some (ok (R06_CascadeBound c most_), [.d (.i .i64 ((val (R06_CascadeBound c most_)).1)), .d (.i .i64 ((val (R06_CascadeBound c most_)).2))])
  | _ => none
def k_R06_CascadeBound : List (Option Cont) := [some (.recs 5 []), none]
abbrev sp_31 : Specs → Specs := addK 31 true (pureK k_R06_CascadeBound g_R06_CascadeBound)
set_option maxRecDepth 100000 in
theorem R06_CascadeBound_vc (c : List (List Int)) (most_ : Int) (r : Int × Int) (h : Option.bind (R06_CascadeBound c most_) some = some r) : runF Try.f31 ((sp_50 (sp_29 sp0))) (fun gs id _ => match id with
 | 0 => some ⟨(Int × Int) × Nat, fun z => ⟨[(0, .w (.c (.o 0))), (1, .w (.c (.d (.i .i64 (Prod.fst (Prod.fst z)))))), (6, .w (.c (.d (.i .i64 (Prod.snd (Prod.fst z))))))], [(0, .ext (.recs 5 c))], 2⟩, fun z => Option.bind (iter (R06_CascadeBound_b0 c) (Prod.snd z) (Prod.fst z)) (fun y0 => Option.bind (R06_CascadeBound_r0 y0) some) = some r, fun z => Prod.snd z⟩
 | _ => none) [.r (.recs 5 c), .d (.i .i64 most_)] [.d (.i .i64 r.1), .d (.i .i64 r.2)] := by
  refine Eq.mp (by kernel_rfl : (
  (Ob (True) ∧
   Br (!(decide ((0 : Int) ≤ most_) && decide (most_ ≤ (32767 : Int))))
   ((Ob (True) ∧
   (Ob (True) ∧
   (Ob ((0 : Int) = r.1) ∧
   (Ob ((2 : Int) = r.2) ∧
   True)))))
   (((∃ (v0 : (Int × Int) × Nat), (Ob ((Option.bind (iter (R06_CascadeBound_b0 c) v0.2 v0.1) fun y0 => Option.bind (R06_CascadeBound_r0 y0) some) = some r) ∧
   (Ob (most_ = v0.1.1) ∧
   (Ob ((0 : Int) = v0.1.2) ∧
   (Ob (c = c) ∧
   True))))) ∧
   (∀ (v0 : (Int × Int) × Nat), ((Option.bind (iter (R06_CascadeBound_b0 c) v0.2 v0.1) fun y0 => Option.bind (R06_CascadeBound_r0 y0) some) = some r →
   Br (decide (v0.1.2 < (↑(List.length c) : Int)))
   ((Ob ((0 : Int) ≤ v0.1.2 ∧ v0.1.2 < (↑(List.length c) : Int)) ∧
   (Ob (Int.toNat v0.1.2 < List.length c) ∧
   (Ob (ok (R06_BoundOf (List.getD (List.getD c (Int.toNat v0.1.2) []) (0 : Nat) (0 : Int)) (List.getD (List.getD c (Int.toNat v0.1.2) []) (1 : Nat) (0 : Int)) (List.getD (List.getD c (Int.toNat v0.1.2) []) (2 : Nat) (0 : Int)) (List.getD (List.getD c (Int.toNat v0.1.2) []) (3 : Nat) (0 : Int)) (List.getD (List.getD c (Int.toNat v0.1.2) []) (4 : Nat) (0 : Int)) v0.1.1)) ∧
   Br ((val (R06_BoundOf (List.getD (List.getD c (Int.toNat v0.1.2) []) (0 : Nat) (0 : Int)) (List.getD (List.getD c (Int.toNat v0.1.2) []) (1 : Nat) (0 : Int)) (List.getD (List.getD c (Int.toNat v0.1.2) []) (2 : Nat) (0 : Int)) (List.getD (List.getD c (Int.toNat v0.1.2) []) (3 : Nat) (0 : Int)) (List.getD (List.getD c (Int.toNat v0.1.2) []) (4 : Nat) (0 : Int)) v0.1.1)).2 != (0 : Int))
   ((Ob (True) ∧
   (Ob (True) ∧
   (Ob ((0 : Int) = r.1) ∧
   (Ob ((val (R06_BoundOf (List.getD (List.getD c (Int.toNat v0.1.2) []) (0 : Nat) (0 : Int)) (List.getD (List.getD c (Int.toNat v0.1.2) []) (1 : Nat) (0 : Int)) (List.getD (List.getD c (Int.toNat v0.1.2) []) (2 : Nat) (0 : Int)) (List.getD (List.getD c (Int.toNat v0.1.2) []) (3 : Nat) (0 : Int)) (List.getD (List.getD c (Int.toNat v0.1.2) []) (4 : Nat) (0 : Int)) v0.1.1)).2 = r.2) ∧
   True)))))
   ((∃ (v1 : (Int × Int) × Nat), (Ob ((Option.bind (iter (R06_CascadeBound_b0 c) v1.2 v1.1) fun y0 => Option.bind (R06_CascadeBound_r0 y0) some) = some r) ∧
   (Ob (v1.2 < v0.2) ∧
   (Ob ((val (R06_BoundOf (List.getD (List.getD c (Int.toNat v0.1.2) []) (0 : Nat) (0 : Int)) (List.getD (List.getD c (Int.toNat v0.1.2) []) (1 : Nat) (0 : Int)) (List.getD (List.getD c (Int.toNat v0.1.2) []) (2 : Nat) (0 : Int)) (List.getD (List.getD c (Int.toNat v0.1.2) []) (3 : Nat) (0 : Int)) (List.getD (List.getD c (Int.toNat v0.1.2) []) (4 : Nat) (0 : Int)) v0.1.1)).1 = v1.1.1) ∧
   (Ob (IntKind.wrap IntKind.i64 (v0.1.2 + (1 : Int)) = v1.1.2) ∧
   (Ob (c = c) ∧
   True)))))))))))
   ((Ob (True) ∧
   (Ob (True) ∧
   (Ob (v0.1.1 = r.1) ∧
   (Ob ((0 : Int) = r.2) ∧
   True))))))))))) = _) ?_
  refine ob_t ?_
  refine br_b h (fun h => ?_) (fun h => ?_)
  · refine ob_t ?_
    refine ob_t ?_
    exact ret_s h (fun e => by subst e; exact (by repeat' (first | exact trivial | exact ⟨rfl⟩ | refine And.intro ?_ ?_)))
  · refine ⟨⟨((most_, (0 : Int)), big), ⟨loop_s h⟩, (by repeat' (first | exact trivial | exact ⟨rfl⟩ | refine And.intro ?_ ?_))⟩, fun z1 hz1 => ?_⟩
    obtain ⟨k1, hm1, h⟩ := iter_pos hz1
    refine br_d h (fun h => ?_) (fun h => ?_)
    · refine ob_s h fun h => ?_
      refine ob_s h fun h => ?_
      refine call_s h fun h => ?_
      refine br_b h (fun h => ?_) (fun h => ?_)
      · have h := exit_s h
        refine ob_t ?_
        refine ob_t ?_
        exact ret_s h (fun e => by subst e; exact (by repeat' (first | exact trivial | exact ⟨rfl⟩ | refine And.intro ?_ ?_)))
      · exact ⟨(((val (R06_BoundOf (List.getD (List.getD c (Int.toNat (Prod.fst z1).2) []) (0 : Nat) (0 : Int)) (List.getD (List.getD c (Int.toNat (Prod.fst z1).2) []) (1 : Nat) (0 : Int)) (List.getD (List.getD c (Int.toNat (Prod.fst z1).2) []) (2 : Nat) (0 : Int)) (List.getD (List.getD c (Int.toNat (Prod.fst z1).2) []) (3 : Nat) (0 : Int)) (List.getD (List.getD c (Int.toNat (Prod.fst z1).2) []) (4 : Nat) (0 : Int)) (Prod.fst z1).1)).1, IntKind.wrap IntKind.i64 ((Prod.fst z1).2 + (1 : Int))), k1), ⟨next_s h⟩, ⟨lt_gs hm1.symm⟩, (by repeat' (first | exact trivial | exact ⟨rfl⟩ | refine And.intro ?_ ?_))⟩
    · have h := exit_s h
      refine ob_t ?_
      refine ob_t ?_
      exact ret_s h (fun e => by subst e; exact (by repeat' (first | exact trivial | exact ⟨rfl⟩ | refine And.intro ?_ ?_)))
set_option maxRecDepth 100000 in
theorem R06_CascadeBound_ok : SpecOK Try.prog 31 true (pureK k_R06_CascadeBound g_R06_CascadeBound) := by
  refine pureK_ok (sp := (sp_50 (sp_29 sp0))) (fn := Try.f31) (body := bodyOf Try.f31) mixed (sp_50_ok (sp_29_ok sp0_ok)) Try.func31 (by kernel_rfl) (by kernel_rfl) fun as_ ob rs h ho => ?_
  unfold g_R06_CascadeBound at h
  split at h
  · rename_i c most_
    cases h
    exact ⟨Nat.le_of_ble_eq_true rfl, _, _, R06_CascadeBound_vc c most_ _ (ok_some ho)⟩
  · cases h
theorem sp_31_ok {sp : Specs} (h : SpecsOK Try.prog sp) : SpecsOK Try.prog (sp_31 sp) := addK_ok R06_CascadeBound_ok h

/-- shoebox/shoeboxlaw06.FilterBounds -/
def L06_FilterBounds (c : List (List Int)) (sB0 : Int) (sB1 : Int) (sB2 : Int) (sA0 : Int) (sA1 : Int) (most_ : Int) : Option Bool :=
  Option.bind (L06_few c) fun r0 =>
  if (!r0) = true then
   some true
  else
   Option.bind (R06_Copy c) fun r1 =>
   if List.length r1 ≤ (1000000000 : Nat) then
    Option.bind (R06_CheckSection sB0 sB1 sB2 sA0 sA1) fun r2 =>
    if (r2 == (0 : Int)) = true then
     Option.bind (R06_BoundOf sB0 sB1 sB2 sA0 sA1 most_) fun r3 =>
     if (Sx06.cbE [[sB0, sB1, sB2, sA0, sA1]] most_ != r3.2) = true then
      some false
     else
      if (Sx06.cbN [[sB0, sB1, sB2, sA0, sA1]] most_ != r3.1) = true then
       some false
      else
       Option.bind (R06_CheckCascade c) fun r4 =>
       if (r4.2 == (0 : Int)) = true then
        Option.bind (R06_CascadeBound c most_) fun r5 =>
        if (Sx06.cbE r1 most_ == r5.2) = true then
         some (Sx06.cbN r1 most_ == r5.1)
        else
         some false
       else
        if (Sx06.cbE r1 most_ == r4.2) = true then
         some (Sx06.cbN r1 most_ == (0 : Int))
        else
         some false
    else
     if (Sx06.cbE [[sB0, sB1, sB2, sA0, sA1]] most_ != r2) = true then
      some false
     else
      if (Sx06.cbN [[sB0, sB1, sB2, sA0, sA1]] most_ != (0 : Int)) = true then
       some false
      else
       Option.bind (R06_CheckCascade c) fun r6 =>
       if (r6.2 == (0 : Int)) = true then
        Option.bind (R06_CascadeBound c most_) fun r7 =>
        if (Sx06.cbE r1 most_ == r7.2) = true then
         some (Sx06.cbN r1 most_ == r7.1)
        else
         some false
       else
        if (Sx06.cbE r1 most_ == r6.2) = true then
         some (Sx06.cbN r1 most_ == (0 : Int))
        else
         some false
   else none
def g_L06_FilterBounds : List A → Option (Prop × List RV)
  | [.r (.recs 5 c), .s [.i .i64 sB0, .i .i64 sB1, .i .i64 sB2, .i .i64 sA0, .i .i64 sA1], .d (.i .i64 most_)] => some (ok (L06_FilterBounds c sB0 sB1 sB2 sA0 sA1 most_), [.d (.b ((val (L06_FilterBounds c sB0 sB1 sB2 sA0 sA1 most_))))])
  | _ => none
def k_L06_FilterBounds : List (Option Cont) := [some (.recs 5 []), none, none]
abbrev sp_4 : Specs → Specs := addK 4 true (pureK k_L06_FilterBounds g_L06_FilterBounds)
set_option maxRecDepth 100000 in
theorem L06_FilterBounds_vc (c : List (List Int)) (sB0 : Int) (sB1 : Int) (sB2 : Int) (sA0 : Int) (sA1 : Int) (most_ : Int) (r : Bool) (h : Option.bind (L06_FilterBounds c sB0 sB1 sB2 sA0 sA1 most_) some = some r) : runF Try.f4 ((sp_18 (sp_24 (sp_25 (sp_27 (sp_26 (sp_28 (sp_29 (sp_30 (sp_31 sp0)))))))))) (fun _ _ _ => none) [.r (.recs 5 c), .s [.i .i64 sB0, .i .i64 sB1, .i .i64 sB2, .i .i64 sA0, .i .i64 sA1], .d (.i .i64 most_)] [.d (.b r)] := by
  refine Eq.mp (by kernel_rfl : (
  (Ob (ok L06_awake) ∧
   (Ob (ok (L06_few c)) ∧
   Br (!val (L06_few c))
   ((Ob (True) ∧
   (Ob (true = r) ∧
   True)))
   ((Ob (True) ∧
   (Ob (ok (R06_Copy c)) ∧
   (Ob (List.length (val (R06_Copy c)) ≤ (1000000000 : Nat)) ∧
   (Ob (ok (R06_CheckSection sB0 sB1 sB2 sA0 sA1)) ∧
   Br (val (R06_CheckSection sB0 sB1 sB2 sA0 sA1) == (0 : Int))
   ((Ob (ok (R06_BoundOf sB0 sB1 sB2 sA0 sA1 most_)) ∧
   Br (Sx06.cbE [[sB0, sB1, sB2, sA0, sA1]] most_ != (val (R06_BoundOf sB0 sB1 sB2 sA0 sA1 most_)).2)
   ((Ob (True) ∧
   (Ob (false = r) ∧
   True)))
   (Br (Sx06.cbN [[sB0, sB1, sB2, sA0, sA1]] most_ != (val (R06_BoundOf sB0 sB1 sB2 sA0 sA1 most_)).1)
   ((Ob (True) ∧
   (Ob (false = r) ∧
   True)))
   ((Ob (ok (R06_CheckCascade c)) ∧
   Br ((val (R06_CheckCascade c)).2 == (0 : Int))
   ((Ob (ok (R06_CascadeBound c most_)) ∧
   Br (Sx06.cbE (val (R06_Copy c)) most_ == (val (R06_CascadeBound c most_)).2)
   ((Ob (True) ∧
   (Ob ((Sx06.cbN (val (R06_Copy c)) most_ == (val (R06_CascadeBound c most_)).1) = r) ∧
   True)))
   ((Ob (True) ∧
   (Ob (false = r) ∧
   True)))))
   (Br (Sx06.cbE (val (R06_Copy c)) most_ == (val (R06_CheckCascade c)).2)
   ((Ob (True) ∧
   (Ob ((Sx06.cbN (val (R06_Copy c)) most_ == (0 : Int)) = r) ∧
   True)))
   ((Ob (True) ∧
   (Ob (false = r) ∧
   True)))))))))
   (Br (Sx06.cbE [[sB0, sB1, sB2, sA0, sA1]] most_ != val (R06_CheckSection sB0 sB1 sB2 sA0 sA1))
   ((Ob (True) ∧
   (Ob (false = r) ∧
   True)))
   (Br (Sx06.cbN [[sB0, sB1, sB2, sA0, sA1]] most_ != (0 : Int))
   ((Ob (True) ∧
   (Ob (false = r) ∧
   True)))
   ((Ob (ok (R06_CheckCascade c)) ∧
   Br ((val (R06_CheckCascade c)).2 == (0 : Int))
   ((Ob (ok (R06_CascadeBound c most_)) ∧
   Br (Sx06.cbE (val (R06_Copy c)) most_ == (val (R06_CascadeBound c most_)).2)
   ((Ob (True) ∧
   (Ob ((Sx06.cbN (val (R06_Copy c)) most_ == (val (R06_CascadeBound c most_)).1) = r) ∧
   True)))
   ((Ob (True) ∧
   (Ob (false = r) ∧
   True)))))
   (Br (Sx06.cbE (val (R06_Copy c)) most_ == (val (R06_CheckCascade c)).2)
   ((Ob (True) ∧
   (Ob ((Sx06.cbN (val (R06_Copy c)) most_ == (0 : Int)) = r) ∧
   True)))
   ((Ob (True) ∧
   (Ob (false = r) ∧
   True)))))))))))))))) = _) ?_
  refine ob_c (p := ok L06_awake) (by decide) ?_
  refine call_s h fun h => ?_
  refine br_b h (fun h => ?_) (fun h => ?_)
  · refine ob_t ?_
    exact ret_s h (fun e => by subst e; exact (by repeat' (first | exact trivial | exact ⟨rfl⟩ | refine And.intro ?_ ?_)))
  · refine ob_t ?_
    refine call_s h fun h => ?_
    refine ob_s h fun h => ?_
    refine call_s h fun h => ?_
    refine br_b h (fun h => ?_) (fun h => ?_)
    · refine call_s h fun h => ?_
      refine br_b h (fun h => ?_) (fun h => ?_)
      · refine ob_t ?_
        exact ret_s h (fun e => by subst e; exact (by repeat' (first | exact trivial | exact ⟨rfl⟩ | refine And.intro ?_ ?_)))
      · refine br_b h (fun h => ?_) (fun h => ?_)
        · refine ob_t ?_
          exact ret_s h (fun e => by subst e; exact (by repeat' (first | exact trivial | exact ⟨rfl⟩ | refine And.intro ?_ ?_)))
        · refine call_s h fun h => ?_
          refine br_b h (fun h => ?_) (fun h => ?_)
          · refine call_s h fun h => ?_
            refine br_b h (fun h => ?_) (fun h => ?_)
            · refine ob_t ?_
              exact ret_s h (fun e => by subst e; exact (by repeat' (first | exact trivial | exact ⟨rfl⟩ | refine And.intro ?_ ?_)))
            · refine ob_t ?_
              exact ret_s h (fun e => by subst e; exact (by repeat' (first | exact trivial | exact ⟨rfl⟩ | refine And.intro ?_ ?_)))
          · refine br_b h (fun h => ?_) (fun h => ?_)
            · refine ob_t ?_
              exact ret_s h (fun e => by subst e; exact (by repeat' (first | exact trivial | exact ⟨rfl⟩ | refine And.intro ?_ ?_)))
            · refine ob_t ?_
              exact ret_s h (fun e => by subst e; exact (by repeat' (first | exact trivial | exact ⟨rfl⟩ | refine And.intro ?_ ?_)))
    · refine br_b h (fun h => ?_) (fun h => ?_)
      · refine ob_t ?_
        exact ret_s h (fun e => by subst e; exact (by repeat' (first | exact trivial | exact ⟨rfl⟩ | refine And.intro ?_ ?_)))
      · refine br_b h (fun h => ?_) (fun h => ?_)
        · refine ob_t ?_
          exact ret_s h (fun e => by subst e; exact (by repeat' (first | exact trivial | exact ⟨rfl⟩ | refine And.intro ?_ ?_)))
        · refine call_s h fun h => ?_
          refine br_b h (fun h => ?_) (fun h => ?_)
          · refine call_s h fun h => ?_
            refine br_b h (fun h => ?_) (fun h => ?_)
            · refine ob_t ?_
              exact ret_s h (fun e => by subst e; exact (by repeat' (first | exact trivial | exact ⟨rfl⟩ | refine And.intro ?_ ?_)))
            · refine ob_t ?_
              exact ret_s h (fun e => by subst e; exact (by repeat' (first | exact trivial | exact ⟨rfl⟩ | refine And.intro ?_ ?_)))
          · refine br_b h (fun h => ?_) (fun h => ?_)
            · refine ob_t ?_
              exact ret_s h (fun e => by subst e; exact (by repeat' (first | exact trivial | exact ⟨rfl⟩ | refine And.intro ?_ ?_)))
            · refine ob_t ?_
              exact ret_s h (fun e => by subst e; exact (by repeat' (first | exact trivial | exact ⟨rfl⟩ | refine And.intro ?_ ?_)))
set_option maxRecDepth 100000 in
theorem L06_FilterBounds_ok : SpecOK Try.prog 4 true (pureK k_L06_FilterBounds g_L06_FilterBounds) := by
  refine pureK_ok (sp := (sp_18 (sp_24 (sp_25 (sp_27 (sp_26 (sp_28 (sp_29 (sp_30 (sp_31 sp0)))))))))) (fn := Try.f4) (body := bodyOf Try.f4) mixed (sp_18_ok (sp_24_ok (sp_25_ok (sp_27_ok (sp_26_ok (sp_28_ok (sp_29_ok (sp_30_ok (sp_31_ok sp0_ok))))))))) Try.func4 (by kernel_rfl) (by kernel_rfl) fun as_ ob rs h ho => ?_
  unfold g_L06_FilterBounds at h
  split at h
  · rename_i c sB0 sB1 sB2 sA0 sA1 most_
    cases h
    exact ⟨Nat.le_of_ble_eq_true rfl, _, _, L06_FilterBounds_vc c sB0 sB1 sB2 sA0 sA1 most_ _ (ok_some ho)⟩
  · cases h
theorem sp_4_ok {sp : Specs} (h : SpecsOK Try.prog sp) : SpecsOK Try.prog (sp_4 sp) := addK_ok L06_FilterBounds_ok h

def F_divisor_b0 (x0 : (Int × Int)) : Option ((Int × Int) ⊕ Int) :=
  if (x0.2 != (0 : Int)) = true then
   if x0.2 ≠ (0 : Int) then
    some (.inl (x0.2, Int.tmod x0.1 x0.2))
   else none
  else
   some (.inr x0.1)
def F_divisor_r0 (y0_0 : Int) : Option Int :=
  if (-9223372036854775807 : Int) ≤ y0_0 ∧ y0_0 ≤ (9223372036854775807 : Int) then
   some (max y0_0 (-y0_0))
  else none
/-- shoebox/filter.divisor -/
def F_divisor (a : Int) (b : Int) : Option Int :=
  Option.bind (iter (F_divisor_b0) big (a, b)) (F_divisor_r0)
def g_F_divisor : List A → Option (Prop × List RV)
  | [.d (.i .i64 a), .d (.i .i64 b)] => some (ok (F_divisor a b), [.d (.i .i64 ((val (F_divisor a b))))])
  | _ => none
def k_F_divisor : List (Option Cont) := [none, none]
abbrev sp_126 : Specs → Specs := addK 126 true (pureK k_F_divisor g_F_divisor)
set_option maxRecDepth 100000 in
theorem F_divisor_vc (a : Int) (b : Int) (r : Int) (h : Option.bind (F_divisor a b) some = some r) : runF Try.f126 ((sp_105 sp0)) (fun gs id _ => match id with
 | 0 => some ⟨(Int × Int) × Nat, fun z => ⟨[(0, .w (.c (.d (.i .i64 (Prod.fst (Prod.fst z)))))), (1, .w (.c (.d (.i .i64 (Prod.snd (Prod.fst z))))))], [], 2⟩, fun z => Option.bind (iter (F_divisor_b0) (Prod.snd z) (Prod.fst z)) (fun y0 => Option.bind (F_divisor_r0 y0) some) = some r, fun z => Prod.snd z⟩
 | _ => none) [.d (.i .i64 a), .d (.i .i64 b)] [.d (.i .i64 r)] := by
  refine Eq.mp (by kernel_rfl : (
  ((∃ (v0 : (Int × Int) × Nat), (Ob ((Option.bind (iter F_divisor_b0 v0.2 v0.1) fun y0 => Option.bind (F_divisor_r0 y0) some) = some r) ∧
   (Ob (a = v0.1.1) ∧
   (Ob (b = v0.1.2) ∧
   True)))) ∧
   (∀ (v0 : (Int × Int) × Nat), ((Option.bind (iter F_divisor_b0 v0.2 v0.1) fun y0 => Option.bind (F_divisor_r0 y0) some) = some r →
   Br (v0.1.2 != (0 : Int))
   ((Ob (v0.1.2 ≠ (0 : Int)) ∧
   (∃ (v1 : (Int × Int) × Nat), (Ob ((Option.bind (iter F_divisor_b0 v1.2 v1.1) fun y0 => Option.bind (F_divisor_r0 y0) some) = some r) ∧
   (Ob (v1.2 < v0.2) ∧
   (Ob (v0.1.2 = v1.1.1) ∧
   (Ob (Int.tmod v0.1.1 v0.1.2 = v1.1.2) ∧
   True)))))))
   ((Ob ((-9223372036854775807 : Int) ≤ v0.1.1 ∧ v0.1.1 ≤ (9223372036854775807 : Int)) ∧
   (Ob (True) ∧
   (Ob (max v0.1.1 (-v0.1.1) = r) ∧
   True)))))))) = _) ?_
  refine ⟨⟨((a, b), big), ⟨loop_s h⟩, (by repeat' (first | exact trivial | exact ⟨rfl⟩ | refine And.intro ?_ ?_))⟩, fun z0 hz0 => ?_⟩
  obtain ⟨k0, hm0, h⟩ := iter_pos hz0
  refine br_b h (fun h => ?_) (fun h => ?_)
  · refine ob_s h fun h => ?_
    exact ⟨(((Prod.fst z0).2, Int.tmod (Prod.fst z0).1 (Prod.fst z0).2), k0), ⟨next_s h⟩, ⟨lt_gs hm0.symm⟩, (by repeat' (first | exact trivial | exact ⟨rfl⟩ | refine And.intro ?_ ?_))⟩
  · have h := exit_s h
    refine ob_s h fun h => ?_
    refine ob_t ?_
    exact ret_s h (fun e => by subst e; exact (by repeat' (first | exact trivial | exact ⟨rfl⟩ | refine And.intro ?_ ?_)))
set_option maxRecDepth 100000 in
theorem F_divisor_ok : SpecOK Try.prog 126 true (pureK k_F_divisor g_F_divisor) := by
  refine pureK_ok (sp := (sp_105 sp0)) (fn := Try.f126) (body := bodyOf Try.f126) mixed (sp_105_ok sp0_ok) Try.func126 (by kernel_rfl) (by kernel_rfl) fun as_ ob rs h ho => ?_
  unfold g_F_divisor at h
  split at h
  · rename_i a b
    cases h
    exact ⟨Nat.le_of_ble_eq_true rfl, _, _, F_divisor_vc a b _ (ok_some ho)⟩
  · cases h
theorem sp_126_ok {sp : Specs} (h : SpecsOK Try.prog sp) : SpecsOK Try.prog (sp_126 sp) := addK_ok F_divisor_ok h

/-- shoebox/filter.fracErr -/
def F_fracErr (fNum : Int) (fDen : Int) : Option Int :=
  if fDen > (0 : Int) then
   Option.bind (F_divisor fNum fDen) fun r0 =>
   if (decide ((-1000000000 : Int) ≤ fNum) && decide (fNum ≤ (1000000000 : Int))) = true then
    if List.length [if (r0 == (1 : Int)) = true then (0 : Int) else (3 : Int), if decide (fDen ≤ (1000000000 : Int)) = true then (0 : Int) else (2 : Int)] ≤ (1000000 : Nat) then
     some (Option.getD (List.find? (fun x => x != (0 : Int)) [if (r0 == (1 : Int)) = true then (0 : Int) else (3 : Int), if decide (fDen ≤ (1000000000 : Int)) = true then (0 : Int) else (2 : Int)]) (0 : Int))
    else none
   else
    if List.length [if (r0 == (1 : Int)) = true then (0 : Int) else (3 : Int), if false = true then (0 : Int) else (2 : Int)] ≤ (1000000 : Nat) then
     some (Option.getD (List.find? (fun x => x != (0 : Int)) [if (r0 == (1 : Int)) = true then (0 : Int) else (3 : Int), if false = true then (0 : Int) else (2 : Int)]) (0 : Int))
    else none
  else
   if (decide ((-1000000000 : Int) ≤ fNum) && decide (fNum ≤ (1000000000 : Int))) = true then
    if List.length [if false = true then (0 : Int) else (3 : Int), if decide (fDen ≤ (1000000000 : Int)) = true then (0 : Int) else (2 : Int)] ≤ (1000000 : Nat) then
     some (Option.getD (List.find? (fun x => x != (0 : Int)) [if false = true then (0 : Int) else (3 : Int), if decide (fDen ≤ (1000000000 : Int)) = true then (0 : Int) else (2 : Int)]) (0 : Int))
    else none
   else
    some (Option.getD (List.find? (fun x => x != (0 : Int)) [if false = true then (0 : Int) else (3 : Int), if false = true then (0 : Int) else (2 : Int)]) (0 : Int))
def g_F_fracErr : List A → Option (Prop × List RV)
  | [.s [.i .i64 fNum, .i .i64 fDen]] => some (ok (F_fracErr fNum fDen), [.d (.i .i64 ((val (F_fracErr fNum fDen))))])
  | _ => none
def k_F_fracErr : List (Option Cont) := [none]
abbrev sp_94 : Specs → Specs := addK 94 true (pureK k_F_fracErr g_F_fracErr)
set_option maxRecDepth 100000 in
theorem F_fracErr_vc (fNum : Int) (fDen : Int) (r : Int) (h : Option.bind (F_fracErr fNum fDen) some = some r) : runF Try.f94 ((sp_126 (sp_87 (sp_91 (sp_85 sp0))))) (fun _ _ _ => none) [.s [.i .i64 fNum, .i .i64 fDen]] [.d (.i .i64 r)] := by
  refine Eq.mp (by kernel_rfl : (
  Br (decide (fDen > (0 : Int)))
   ((Ob (ok (F_divisor fNum fDen)) ∧
   (Ob (True) ∧
   (Ob ((-9223372036854775807 : Int) ≤ (1000000000 : Int) ∧ (1000000000 : Int) ≤ (9223372036854775807 : Int)) ∧
   Br (decide ((-1000000000 : Int) ≤ fNum) && decide (fNum ≤ (1000000000 : Int)))
   ((Ob (True) ∧
   (Ob (List.length [if (val (F_divisor fNum fDen) == (1 : Int)) = true then (0 : Int) else (3 : Int), if decide (fDen ≤ (1000000000 : Int)) = true then (0 : Int) else (2 : Int)] ≤ (1000000 : Nat)) ∧
   (Ob (True) ∧
   (Ob (Option.getD (List.find? (fun x => x != (0 : Int)) [if (val (F_divisor fNum fDen) == (1 : Int)) = true then (0 : Int) else (3 : Int), if decide (fDen ≤ (1000000000 : Int)) = true then (0 : Int) else (2 : Int)]) (0 : Int) = r) ∧
   True)))))
   ((Ob (True) ∧
   (Ob (List.length [if (val (F_divisor fNum fDen) == (1 : Int)) = true then (0 : Int) else (3 : Int), if false = true then (0 : Int) else (2 : Int)] ≤ (1000000 : Nat)) ∧
   (Ob (True) ∧
   (Ob (Option.getD (List.find? (fun x => x != (0 : Int)) [if (val (F_divisor fNum fDen) == (1 : Int)) = true then (0 : Int) else (3 : Int), if false = true then (0 : Int) else (2 : Int)]) (0 : Int) = r) ∧
   True)))))))))
   ((Ob (True) ∧
   (Ob ((-9223372036854775807 : Int) ≤ (1000000000 : Int) ∧ (1000000000 : Int) ≤ (9223372036854775807 : Int)) ∧
   Br (decide ((-1000000000 : Int) ≤ fNum) && decide (fNum ≤ (1000000000 : Int)))
   ((Ob (True) ∧
   (Ob (List.length [if false = true then (0 : Int) else (3 : Int), if decide (fDen ≤ (1000000000 : Int)) = true then (0 : Int) else (2 : Int)] ≤ (1000000 : Nat)) ∧
   (Ob (True) ∧
   (Ob (Option.getD (List.find? (fun x => x != (0 : Int)) [if false = true then (0 : Int) else (3 : Int), if decide (fDen ≤ (1000000000 : Int)) = true then (0 : Int) else (2 : Int)]) (0 : Int) = r) ∧
   True)))))
   ((Ob (True) ∧
   (Ob (List.length [if false = true then (0 : Int) else (3 : Int), if false = true then (0 : Int) else (2 : Int)] ≤ (1000000 : Nat)) ∧
   (Ob (True) ∧
   (Ob (Option.getD (List.find? (fun x => x != (0 : Int)) [if false = true then (0 : Int) else (3 : Int), if false = true then (0 : Int) else (2 : Int)]) (0 : Int) = r) ∧
   True))))))))) = _) ?_
  refine br_d h (fun h => ?_) (fun h => ?_)
  · refine call_s h fun h => ?_
    refine ob_t ?_
    refine ob_c (p := (-9223372036854775807 : Int) ≤ (1000000000 : Int) ∧ (1000000000 : Int) ≤ (9223372036854775807 : Int)) (by decide) ?_
    refine br_b h (fun h => ?_) (fun h => ?_)
    · refine ob_t ?_
      refine ob_s h fun h => ?_
      refine ob_t ?_
      exact ret_s h (fun e => by subst e; exact (by repeat' (first | exact trivial | exact ⟨rfl⟩ | refine And.intro ?_ ?_)))
    · refine ob_t ?_
      refine ob_s h fun h => ?_
      refine ob_t ?_
      exact ret_s h (fun e => by subst e; exact (by repeat' (first | exact trivial | exact ⟨rfl⟩ | refine And.intro ?_ ?_)))
  · refine ob_t ?_
    refine ob_c (p := (-9223372036854775807 : Int) ≤ (1000000000 : Int) ∧ (1000000000 : Int) ≤ (9223372036854775807 : Int)) (by decide) ?_
    refine br_b h (fun h => ?_) (fun h => ?_)
    · refine ob_t ?_
      refine ob_s h fun h => ?_
      refine ob_t ?_
      exact ret_s h (fun e => by subst e; exact (by repeat' (first | exact trivial | exact ⟨rfl⟩ | refine And.intro ?_ ?_)))
    · refine ob_t ?_
      refine ob_c (p := List.length [if false = true then (0 : Int) else (3 : Int), if false = true then (0 : Int) else (2 : Int)] ≤ (1000000 : Nat)) (by decide) ?_
      refine ob_t ?_
      exact ret_s h (fun e => by subst e; exact (by repeat' (first | exact trivial | exact ⟨rfl⟩ | refine And.intro ?_ ?_)))
set_option maxRecDepth 100000 in
theorem F_fracErr_ok : SpecOK Try.prog 94 true (pureK k_F_fracErr g_F_fracErr) := by
  refine pureK_ok (sp := (sp_126 (sp_87 (sp_91 (sp_85 sp0))))) (fn := Try.f94) (body := bodyOf Try.f94) mixed (sp_126_ok (sp_87_ok (sp_91_ok (sp_85_ok sp0_ok)))) Try.func94 (by kernel_rfl) (by kernel_rfl) fun as_ ob rs h ho => ?_
  unfold g_F_fracErr at h
  split at h
  · rename_i fNum fDen
    cases h
    exact ⟨Nat.le_of_ble_eq_true rfl, _, _, F_fracErr_vc fNum fDen _ (ok_some ho)⟩
  · cases h
theorem sp_94_ok {sp : Specs} (h : SpecsOK Try.prog sp) : SpecsOK Try.prog (sp_94 sp) := addK_ok F_fracErr_ok h

/-- shoebox/filter.Quantised -/
def F_Quantised (l0Num : Int) (l0Den : Int) (l1Num : Int) (l1Den : Int) (l2Num : Int) (l2Den : Int) (l3Num : Int) (l3Den : Int) (l4Num : Int) (l4Den : Int) : Option (Int × Int × Int × Int × Int × Int) :=
  Option.bind (F_fracErr l0Num l0Den) fun r0 =>
  if (r0 != (0 : Int)) = true then
   some (((0 : Int), (0 : Int), (0 : Int), (0 : Int), (0 : Int), r0))
  else
   if (-4611686018427387904 : Int) < (2 : Int) * IntKind.wrap IntKind.i64 (l0Num * (16384 : Int)) + l0Den ∧ (2 : Int) * IntKind.wrap IntKind.i64 (l0Num * (16384 : Int)) + l0Den < (4611686018427387904 : Int) ∧ (0 : Int) < l0Den ∧ l0Den < (4611686018427387904 : Int) then
    if (!(decide ((-32768 : Int) ≤ ((2 : Int) * IntKind.wrap IntKind.i64 (l0Num * (16384 : Int)) + l0Den) / ((2 : Int) * l0Den)) && decide (((2 : Int) * IntKind.wrap IntKind.i64 (l0Num * (16384 : Int)) + l0Den) / ((2 : Int) * l0Den) ≤ (32768 : Int)))) = true then
     some (((0 : Int), (0 : Int), (0 : Int), (0 : Int), (0 : Int), (8 : Int)))
    else
     Option.bind (F_fracErr l1Num l1Den) fun r1 =>
     if (r1 != (0 : Int)) = true then
      some (((0 : Int), (0 : Int), (0 : Int), (0 : Int), (0 : Int), r1))
     else
      if (-4611686018427387904 : Int) < (2 : Int) * IntKind.wrap IntKind.i64 (l1Num * (16384 : Int)) + l1Den ∧ (2 : Int) * IntKind.wrap IntKind.i64 (l1Num * (16384 : Int)) + l1Den < (4611686018427387904 : Int) ∧ (0 : Int) < l1Den ∧ l1Den < (4611686018427387904 : Int) then
       if (!(decide ((-32768 : Int) ≤ ((2 : Int) * IntKind.wrap IntKind.i64 (l1Num * (16384 : Int)) + l1Den) / ((2 : Int) * l1Den)) && decide (((2 : Int) * IntKind.wrap IntKind.i64 (l1Num * (16384 : Int)) + l1Den) / ((2 : Int) * l1Den) ≤ (32768 : Int)))) = true then
        some (((0 : Int), (0 : Int), (0 : Int), (0 : Int), (0 : Int), (8 : Int)))
       else
        Option.bind (F_fracErr l2Num l2Den) fun r2 =>
        if (r2 != (0 : Int)) = true then
         some (((0 : Int), (0 : Int), (0 : Int), (0 : Int), (0 : Int), r2))
        else
         if (-4611686018427387904 : Int) < (2 : Int) * IntKind.wrap IntKind.i64 (l2Num * (16384 : Int)) + l2Den ∧ (2 : Int) * IntKind.wrap IntKind.i64 (l2Num * (16384 : Int)) + l2Den < (4611686018427387904 : Int) ∧ (0 : Int) < l2Den ∧ l2Den < (4611686018427387904 : Int) then
          if (!(decide ((-32768 : Int) ≤ ((2 : Int) * IntKind.wrap IntKind.i64 (l2Num * (16384 : Int)) + l2Den) / ((2 : Int) * l2Den)) && decide (((2 : Int) * IntKind.wrap IntKind.i64 (l2Num * (16384 : Int)) + l2Den) / ((2 : Int) * l2Den) ≤ (32768 : Int)))) = true then
           some (((0 : Int), (0 : Int), (0 : Int), (0 : Int), (0 : Int), (8 : Int)))
          else
           Option.bind (F_fracErr l3Num l3Den) fun r3 =>
           if (r3 != (0 : Int)) = true then
            some (((0 : Int), (0 : Int), (0 : Int), (0 : Int), (0 : Int), r3))
           else
            if (-4611686018427387904 : Int) < (2 : Int) * IntKind.wrap IntKind.i64 (l3Num * (16384 : Int)) + l3Den ∧ (2 : Int) * IntKind.wrap IntKind.i64 (l3Num * (16384 : Int)) + l3Den < (4611686018427387904 : Int) ∧ (0 : Int) < l3Den ∧ l3Den < (4611686018427387904 : Int) then
             if (!(decide ((-32768 : Int) ≤ ((2 : Int) * IntKind.wrap IntKind.i64 (l3Num * (16384 : Int)) + l3Den) / ((2 : Int) * l3Den)) && decide (((2 : Int) * IntKind.wrap IntKind.i64 (l3Num * (16384 : Int)) + l3Den) / ((2 : Int) * l3Den) ≤ (32768 : Int)))) = true then
              some (((0 : Int), (0 : Int), (0 : Int), (0 : Int), (0 : Int), (8 : Int)))
             else
              Option.bind (F_fracErr l4Num l4Den) fun r4 =>
              if (r4 != (0 : Int)) = true then
               some (((0 : Int), (0 : Int), (0 : Int), (0 : Int), (0 : Int), r4))
              else
               if (-4611686018427387904 : Int) < (2 : Int) * IntKind.wrap IntKind.i64 (l4Num * (16384 : Int)) + l4Den ∧ (2 : Int) * IntKind.wrap IntKind.i64 (l4Num * (16384 : Int)) + l4Den < (4611686018427387904 : Int) ∧ (0 : Int) < l4Den ∧ l4Den < (4611686018427387904 : Int) then
                if (!(decide ((-32768 : Int) ≤ ((2 : Int) * IntKind.wrap IntKind.i64 (l4Num * (16384 : Int)) + l4Den) / ((2 : Int) * l4Den)) && decide (((2 : Int) * IntKind.wrap IntKind.i64 (l4Num * (16384 : Int)) + l4Den) / ((2 : Int) * l4Den) ≤ (32768 : Int)))) = true then
                 some (((0 : Int), (0 : Int), (0 : Int), (0 : Int), (0 : Int), (8 : Int)))
                else
                 some ((((2 : Int) * IntKind.wrap IntKind.i64 (l0Num * (16384 : Int)) + l0Den) / ((2 : Int) * l0Den), ((2 : Int) * IntKind.wrap IntKind.i64 (l1Num * (16384 : Int)) + l1Den) / ((2 : Int) * l1Den), ((2 : Int) * IntKind.wrap IntKind.i64 (l2Num * (16384 : Int)) + l2Den) / ((2 : Int) * l2Den), ((2 : Int) * IntKind.wrap IntKind.i64 (l3Num * (16384 : Int)) + l3Den) / ((2 : Int) * l3Den), ((2 : Int) * IntKind.wrap IntKind.i64 (l4Num * (16384 : Int)) + l4Den) / ((2 : Int) * l4Den), (0 : Int)))
               else none
            else none
         else none
      else none
   else none
def g_F_Quantised : List A → Option (Prop × List RV)
  | [.s [.i .i64 l0Num, .i .i64 l0Den, .i .i64 l1Num, .i .i64 l1Den, .i .i64 l2Num, .i .i64 l2Den, .i .i64 l3Num, .i .i64 l3Den, .i .i64 l4Num, .i .i64 l4Den]] => some (ok (F_Quantised l0Num l0Den l1Num l1Den l2Num l2Den l3Num l3Den l4Num l4Den), [.s [.i .i64 ((val (F_Quantised l0Num l0Den l1Num l1Den l2Num l2Den l3Num l3Den l4Num l4Den)).1), .i .i64 ((val (F_Quantised l0Num l0Den l1Num l1Den l2Num l2Den l3Num l3Den l4Num l4Den)).2.1), .i .i64 ((val (F_Quantised l0Num l0Den l1Num l1Den l2Num l2Den l3Num l3Den l4Num l4Den)).2.2.1), .i .i64 ((val (F_Quantised l0Num l0Den l1Num l1Den l2Num l2Den l3Num l3Den l4Num l4Den)).2.2.2.1), .i .i64 ((val (F_Quantised l0Num l0Den l1Num l1Den l2Num l2Den l3Num l3Den l4Num l4Den)).2.2.2.2.1)], .d (.i .i64 ((val (F_Quantised l0Num l0Den l1Num l1Den l2Num l2Den l3Num l3Den l4Num l4Den)).2.2.2.2.2))])
  | _ => none
def k_F_Quantised : List (Option Cont) := [none]
abbrev sp_39 : Specs → Specs := addK 39 true (pureK k_F_Quantised g_F_Quantised)
set_option maxRecDepth 100000 in
theorem F_Quantised_vc (l0Num : Int) (l0Den : Int) (l1Num : Int) (l1Den : Int) (l2Num : Int) (l2Den : Int) (l3Num : Int) (l3Den : Int) (l4Num : Int) (l4Den : Int) (r : Int × Int × Int × Int × Int × Int) (h : Option.bind (F_Quantised l0Num l0Den l1Num l1Den l2Num l2Den l3Num l3Den l4Num l4Den) some = some r) : runF Try.f39 ((sp_94 (sp_95 (sp_96 sp0)))) (fun _ _ _ => none) [.s [.i .i64 l0Num, .i .i64 l0Den, .i .i64 l1Num, .i .i64 l1Den, .i .i64 l2Num, .i .i64 l2Den, .i .i64 l3Num, .i .i64 l3Den, .i .i64 l4Num, .i .i64 l4Den]] [.s [.i .i64 r.1, .i .i64 r.2.1, .i .i64 r.2.2.1, .i .i64 r.2.2.2.1, .i .i64 r.2.2.2.2.1], .d (.i .i64 r.2.2.2.2.2)] := by
  refine Eq.mp (by kernel_rfl : (
  (Ob ((0 : Int) ≤ (0 : Int) ∧ (0 : Int) < (↑(3 : Nat) : Int)) ∧
   (Ob ((0 : Int) ≤ (1 : Int) ∧ (1 : Int) < (↑(3 : Nat) : Int)) ∧
   (Ob ((0 : Int) ≤ (2 : Int) ∧ (2 : Int) < (↑(3 : Nat) : Int)) ∧
   (Ob ((0 : Int) ≤ (0 : Int) ∧ (0 : Int) < (↑(2 : Nat) : Int)) ∧
   (Ob ((0 : Int) ≤ (1 : Int) ∧ (1 : Int) < (↑(2 : Nat) : Int)) ∧
   (Ob ((0 : Int) ≤ (0 : Int) ∧ (0 : Int) < (↑(5 : Nat) : Int)) ∧
   (Ob (ok (F_fracErr l0Num l0Den)) ∧
   Br (val (F_fracErr l0Num l0Den) != (0 : Int))
   ((Ob (True) ∧
   (Ob (True) ∧
   (Ob ((0 : Int) = r.1) ∧
   (Ob ((0 : Int) = r.2.1) ∧
   (Ob ((0 : Int) = r.2.2.1) ∧
   (Ob ((0 : Int) = r.2.2.2.1) ∧
   (Ob ((0 : Int) = r.2.2.2.2.1) ∧
   (Ob (val (F_fracErr l0Num l0Den) = r.2.2.2.2.2) ∧
   True)))))))))
   ((Ob ((-4611686018427387904 : Int) < (2 : Int) * IntKind.wrap IntKind.i64 (l0Num * (16384 : Int)) + l0Den ∧ (2 : Int) * IntKind.wrap IntKind.i64 (l0Num * (16384 : Int)) + l0Den < (4611686018427387904 : Int) ∧ (0 : Int) < l0Den ∧ l0Den < (4611686018427387904 : Int)) ∧
   (Ob (True) ∧
   Br (!(decide ((-32768 : Int) ≤ ((2 : Int) * IntKind.wrap IntKind.i64 (l0Num * (16384 : Int)) + l0Den) / ((2 : Int) * l0Den)) && decide (((2 : Int) * IntKind.wrap IntKind.i64 (l0Num * (16384 : Int)) + l0Den) / ((2 : Int) * l0Den) ≤ (32768 : Int))))
   ((Ob (True) ∧
   (Ob (True) ∧
   (Ob ((0 : Int) = r.1) ∧
   (Ob ((0 : Int) = r.2.1) ∧
   (Ob ((0 : Int) = r.2.2.1) ∧
   (Ob ((0 : Int) = r.2.2.2.1) ∧
   (Ob ((0 : Int) = r.2.2.2.2.1) ∧
   (Ob ((8 : Int) = r.2.2.2.2.2) ∧
   True)))))))))
   ((Ob ((0 : Int) ≤ (0 : Int) ∧ (0 : Int) < (↑(5 : Nat) : Int)) ∧
   (Ob ((0 : Int) ≤ IntKind.wrap IntKind.i64 ((0 : Int) + (1 : Int)) ∧ IntKind.wrap IntKind.i64 ((0 : Int) + (1 : Int)) < (↑(5 : Nat) : Int)) ∧
   (Ob (ok (F_fracErr l1Num l1Den)) ∧
   Br (val (F_fracErr l1Num l1Den) != (0 : Int))
   ((Ob (True) ∧
   (Ob (True) ∧
   (Ob ((0 : Int) = r.1) ∧
   (Ob ((0 : Int) = r.2.1) ∧
   (Ob ((0 : Int) = r.2.2.1) ∧
   (Ob ((0 : Int) = r.2.2.2.1) ∧
   (Ob ((0 : Int) = r.2.2.2.2.1) ∧
   (Ob (val (F_fracErr l1Num l1Den) = r.2.2.2.2.2) ∧
   True)))))))))
   ((Ob ((-4611686018427387904 : Int) < (2 : Int) * IntKind.wrap IntKind.i64 (l1Num * (16384 : Int)) + l1Den ∧ (2 : Int) * IntKind.wrap IntKind.i64 (l1Num * (16384 : Int)) + l1Den < (4611686018427387904 : Int) ∧ (0 : Int) < l1Den ∧ l1Den < (4611686018427387904 : Int)) ∧
   (Ob (True) ∧
   Br (!(decide ((-32768 : Int) ≤ ((2 : Int) * IntKind.wrap IntKind.i64 (l1Num * (16384 : Int)) + l1Den) / ((2 : Int) * l1Den)) && decide (((2 : Int) * IntKind.wrap IntKind.i64 (l1Num * (16384 : Int)) + l1Den) / ((2 : Int) * l1Den) ≤ (32768 : Int))))
   ((Ob (True) ∧
   (Ob (True) ∧
   (Ob ((0 : Int) = r.1) ∧
   (Ob ((0 : Int) = r.2.1) ∧
   (Ob ((0 : Int) = r.2.2.1) ∧
   (Ob ((0 : Int) = r.2.2.2.1) ∧
   (Ob ((0 : Int) = r.2.2.2.2.1) ∧
   (Ob ((8 : Int) = r.2.2.2.2.2) ∧
   True)))))))))
   ((Ob ((0 : Int) ≤ IntKind.wrap IntKind.i64 ((0 : Int) + (1 : Int)) ∧ IntKind.wrap IntKind.i64 ((0 : Int) + (1 : Int)) < (↑(5 : Nat) : Int)) ∧
   (Ob ((0 : Int) ≤ IntKind.wrap IntKind.i64 (IntKind.wrap IntKind.i64 ((0 : Int) + (1 : Int)) + (1 : Int)) ∧ IntKind.wrap IntKind.i64 (IntKind.wrap IntKind.i64 ((0 : Int) + (1 : Int)) + (1 : Int)) < (↑(5 : Nat) : Int)) ∧
   (Ob (ok (F_fracErr l2Num l2Den)) ∧
   Br (val (F_fracErr l2Num l2Den) != (0 : Int))
   ((Ob (True) ∧
   (Ob (True) ∧
   (Ob ((0 : Int) = r.1) ∧
   (Ob ((0 : Int) = r.2.1) ∧
   (Ob ((0 : Int) = r.2.2.1) ∧
   (Ob ((0 : Int) = r.2.2.2.1) ∧
   (Ob ((0 : Int) = r.2.2.2.2.1) ∧
   (Ob (val (F_fracErr l2Num l2Den) = r.2.2.2.2.2) ∧
   True)))))))))
   ((Ob ((-4611686018427387904 : Int) < (2 : Int) * IntKind.wrap IntKind.i64 (l2Num * (16384 : Int)) + l2Den ∧ (2 : Int) * IntKind.wrap IntKind.i64 (l2Num * (16384 : Int)) + l2Den < (4611686018427387904 : Int) ∧ (0 : Int) < l2Den ∧ l2Den < (4611686018427387904 : Int)) ∧
   (Ob (True) ∧
   Br (!(decide ((-32768 : Int) ≤ ((2 : Int) * IntKind.wrap IntKind.i64 (l2Num * (16384 : Int)) + l2Den) / ((2 : Int) * l2Den)) && decide (((2 : Int) * IntKind.wrap IntKind.i64 (l2Num * (16384 : Int)) + l2Den) / ((2 : Int) * l2Den) ≤ (32768 : Int))))
   ((Ob (True) ∧
   (Ob (True) ∧
   (Ob ((0 : Int) = r.1) ∧
   (Ob ((0 : Int) = r.2.1) ∧
   (Ob ((0 : Int) = r.2.2.1) ∧
   (Ob ((0 : Int) = r.2.2.2.1) ∧
   (Ob ((0 : Int) = r.2.2.2.2.1) ∧
   (Ob ((8 : Int) = r.2.2.2.2.2) ∧
   True)))))))))
   ((Ob ((0 : Int) ≤ IntKind.wrap IntKind.i64 (IntKind.wrap IntKind.i64 ((0 : Int) + (1 : Int)) + (1 : Int)) ∧ IntKind.wrap IntKind.i64 (IntKind.wrap IntKind.i64 ((0 : Int) + (1 : Int)) + (1 : Int)) < (↑(5 : Nat) : Int)) ∧
   (Ob ((0 : Int) ≤ IntKind.wrap IntKind.i64 (IntKind.wrap IntKind.i64 (IntKind.wrap IntKind.i64 ((0 : Int) + (1 : Int)) + (1 : Int)) + (1 : Int)) ∧ IntKind.wrap IntKind.i64 (IntKind.wrap IntKind.i64 (IntKind.wrap IntKind.i64 ((0 : Int) + (1 : Int)) + (1 : Int)) + (1 : Int)) < (↑(5 : Nat) : Int)) ∧
   (Ob (ok (F_fracErr l3Num l3Den)) ∧
   Br (val (F_fracErr l3Num l3Den) != (0 : Int))
   ((Ob (True) ∧
   (Ob (True) ∧
   (Ob ((0 : Int) = r.1) ∧
   (Ob ((0 : Int) = r.2.1) ∧
   (Ob ((0 : Int) = r.2.2.1) ∧
   (Ob ((0 : Int) = r.2.2.2.1) ∧
   (Ob ((0 : Int) = r.2.2.2.2.1) ∧
   (Ob (val (F_fracErr l3Num l3Den) = r.2.2.2.2.2) ∧
   True)))))))))
   ((Ob ((-4611686018427387904 : Int) < (2 : Int) * IntKind.wrap IntKind.i64 (l3Num * (16384 : Int)) + l3Den ∧ (2 : Int) * IntKind.wrap IntKind.i64 (l3Num * (16384 : Int)) + l3Den < (4611686018427387904 : Int) ∧ (0 : Int) < l3Den ∧ l3Den < (4611686018427387904 : Int)) ∧
   (Ob (True) ∧
   Br (!(decide ((-32768 : Int) ≤ ((2 : Int) * IntKind.wrap IntKind.i64 (l3Num * (16384 : Int)) + l3Den) / ((2 : Int) * l3Den)) && decide (((2 : Int) * IntKind.wrap IntKind.i64 (l3Num * (16384 : Int)) + l3Den) / ((2 : Int) * l3Den) ≤ (32768 : Int))))
   ((Ob (True) ∧
   (Ob (True) ∧
   (Ob ((0 : Int) = r.1) ∧
   (Ob ((0 : Int) = r.2.1) ∧
   (Ob ((0 : Int) = r.2.2.1) ∧
   (Ob ((0 : Int) = r.2.2.2.1) ∧
   (Ob ((0 : Int) = r.2.2.2.2.1) ∧
   (Ob ((8 : Int) = r.2.2.2.2.2) ∧
   True)))))))))
   ((Ob ((0 : Int) ≤ IntKind.wrap IntKind.i64 (IntKind.wrap IntKind.i64 (IntKind.wrap IntKind.i64 ((0 : Int) + (1 : Int)) + (1 : Int)) + (1 : Int)) ∧ IntKind.wrap IntKind.i64 (IntKind.wrap IntKind.i64 (IntKind.wrap IntKind.i64 ((0 : Int) + (1 : Int)) + (1 : Int)) + (1 : Int)) < (↑(5 : Nat) : Int)) ∧
   (Ob ((0 : Int) ≤ IntKind.wrap IntKind.i64 (IntKind.wrap IntKind.i64 (IntKind.wrap IntKind.i64 (IntKind.wrap IntKind.i64 ((0 : Int) + (1 : Int)) + (1 : Int)) + (1 : Int)) + (1 : Int)) ∧ IntKind.wrap IntKind.i64 (IntKind.wrap IntKind.i64 (IntKind.wrap IntKind.i64 (IntKind.wrap IntKind.i64 ((0 : Int) + (1 : Int)) + (1 : Int)) + (1 : Int)) + (1 : Int)) < (↑(5 : Nat) : Int)) ∧
   (Ob (ok (F_fracErr l4Num l4Den)) ∧
   Br (val (F_fracErr l4Num l4Den) != (0 : Int))
   ((Ob (True) ∧
   (Ob (True) ∧
   (Ob ((0 : Int) = r.1) ∧
   (Ob ((0 : Int) = r.2.1) ∧
   (Ob ((0 : Int) = r.2.2.1) ∧
   (Ob ((0 : Int) = r.2.2.2.1) ∧
   (Ob ((0 : Int) = r.2.2.2.2.1) ∧
   (Ob (val (F_fracErr l4Num l4Den) = r.2.2.2.2.2) ∧
   True)))))))))
   ((Ob ((-4611686018427387904 : Int) < (2 : Int) * IntKind.wrap IntKind.i64 (l4Num * (16384 : Int)) + l4Den ∧ (2 : Int) * IntKind.wrap IntKind.i64 (l4Num * (16384 : Int)) + l4Den < (4611686018427387904 : Int) ∧ (0 : Int) < l4Den ∧ l4Den < (4611686018427387904 : Int)) ∧
   (Ob (True) ∧
   Br (!(decide ((-32768 : Int) ≤ ((2 : Int) * IntKind.wrap IntKind.i64 (l4Num * (16384 : Int)) + l4Den) / ((2 : Int) * l4Den)) && decide (((2 : Int) * IntKind.wrap IntKind.i64 (l4Num * (16384 : Int)) + l4Den) / ((2 : Int) * l4Den) ≤ (32768 : Int))))
   ((Ob (True) ∧
   (Ob (True) ∧
   (Ob ((0 : Int) = r.1) ∧
   (Ob ((0 : Int) = r.2.1) ∧
   (Ob ((0 : Int) = r.2.2.1) ∧
   (Ob ((0 : Int) = r.2.2.2.1) ∧
   (Ob ((0 : Int) = r.2.2.2.2.1) ∧
   (Ob ((8 : Int) = r.2.2.2.2.2) ∧
   True)))))))))
   ((Ob ((0 : Int) ≤ IntKind.wrap IntKind.i64 (IntKind.wrap IntKind.i64 (IntKind.wrap IntKind.i64 (IntKind.wrap IntKind.i64 ((0 : Int) + (1 : Int)) + (1 : Int)) + (1 : Int)) + (1 : Int)) ∧ IntKind.wrap IntKind.i64 (IntKind.wrap IntKind.i64 (IntKind.wrap IntKind.i64 (IntKind.wrap IntKind.i64 ((0 : Int) + (1 : Int)) + (1 : Int)) + (1 : Int)) + (1 : Int)) < (↑(5 : Nat) : Int)) ∧
   (Ob (True) ∧
   (Ob (True) ∧
   (Ob (((2 : Int) * IntKind.wrap IntKind.i64 (l0Num * (16384 : Int)) + l0Den) / ((2 : Int) * l0Den) = r.1) ∧
   (Ob (((2 : Int) * IntKind.wrap IntKind.i64 (l1Num * (16384 : Int)) + l1Den) / ((2 : Int) * l1Den) = r.2.1) ∧
   (Ob (((2 : Int) * IntKind.wrap IntKind.i64 (l2Num * (16384 : Int)) + l2Den) / ((2 : Int) * l2Den) = r.2.2.1) ∧
   (Ob (((2 : Int) * IntKind.wrap IntKind.i64 (l3Num * (16384 : Int)) + l3Den) / ((2 : Int) * l3Den) = r.2.2.2.1) ∧
   (Ob (((2 : Int) * IntKind.wrap IntKind.i64 (l4Num * (16384 : Int)) + l4Den) / ((2 : Int) * l4Den) = r.2.2.2.2.1) ∧
   (Ob ((0 : Int) = r.2.2.2.2.2) ∧
   True))))))))))))))))))))))))))))))))))))))))))))))))) = _) ?_
  refine ob_c (p := (0 : Int) ≤ (0 : Int) ∧ (0 : Int) < (↑(3 : Nat) : Int)) (by decide) ?_
  refine ob_c (p := (0 : Int) ≤ (1 : Int) ∧ (1 : Int) < (↑(3 : Nat) : Int)) (by decide) ?_
  refine ob_c (p := (0 : Int) ≤ (2 : Int) ∧ (2 : Int) < (↑(3 : Nat) : Int)) (by decide) ?_
  refine ob_c (p := (0 : Int) ≤ (0 : Int) ∧ (0 : Int) < (↑(2 : Nat) : Int)) (by decide) ?_
  refine ob_c (p := (0 : Int) ≤ (1 : Int) ∧ (1 : Int) < (↑(2 : Nat) : Int)) (by decide) ?_
  refine ob_c (p := (0 : Int) ≤ (0 : Int) ∧ (0 : Int) < (↑(5 : Nat) : Int)) (by decide) ?_
  refine call_s h fun h => ?_
  refine br_b h (fun h => ?_) (fun h => ?_)
  · refine ob_t ?_
    refine ob_t ?_
    exact ret_s h (fun e => by subst e; exact (by repeat' (first | exact trivial | exact ⟨rfl⟩ | refine And.intro ?_ ?_)))
  · refine ob_s h fun h => ?_
    refine ob_t ?_
    refine br_b h (fun h => ?_) (fun h => ?_)
    · refine ob_t ?_
      refine ob_t ?_
      exact ret_s h (fun e => by subst e; exact (by repeat' (first | exact trivial | exact ⟨rfl⟩ | refine And.intro ?_ ?_)))
    · refine ob_c (p := (0 : Int) ≤ (0 : Int) ∧ (0 : Int) < (↑(5 : Nat) : Int)) (by decide) ?_
      refine ob_c (p := (0 : Int) ≤ IntKind.wrap IntKind.i64 ((0 : Int) + (1 : Int)) ∧ IntKind.wrap IntKind.i64 ((0 : Int) + (1 : Int)) < (↑(5 : Nat) : Int)) (by decide) ?_
      refine call_s h fun h => ?_
      refine br_b h (fun h => ?_) (fun h => ?_)
      · refine ob_t ?_
        refine ob_t ?_
        exact ret_s h (fun e => by subst e; exact (by repeat' (first | exact trivial | exact ⟨rfl⟩ | refine And.intro ?_ ?_)))
      · refine ob_s h fun h => ?_
        refine ob_t ?_
        refine br_b h (fun h => ?_) (fun h => ?_)
        · refine ob_t ?_
          refine ob_t ?_
          exact ret_s h (fun e => by subst e; exact (by repeat' (first | exact trivial | exact ⟨rfl⟩ | refine And.intro ?_ ?_)))
        · refine ob_c (p := (0 : Int) ≤ IntKind.wrap IntKind.i64 ((0 : Int) + (1 : Int)) ∧ IntKind.wrap IntKind.i64 ((0 : Int) + (1 : Int)) < (↑(5 : Nat) : Int)) (by decide) ?_
          refine ob_c (p := (0 : Int) ≤ IntKind.wrap IntKind.i64 (IntKind.wrap IntKind.i64 ((0 : Int) + (1 : Int)) + (1 : Int)) ∧ IntKind.wrap IntKind.i64 (IntKind.wrap IntKind.i64 ((0 : Int) + (1 : Int)) + (1 : Int)) < (↑(5 : Nat) : Int)) (by decide) ?_
          refine call_s h fun h => ?_
          refine br_b h (fun h => ?_) (fun h => ?_)
          · refine ob_t ?_
            refine ob_t ?_
            exact ret_s h (fun e => by subst e; exact (by repeat' (first | exact trivial | exact ⟨rfl⟩ | refine And.intro ?_ ?_)))
          · refine ob_s h fun h => ?_
            refine ob_t ?_
            refine br_b h (fun h => ?_) (fun h => ?_)
            · refine ob_t ?_
              refine ob_t ?_
              exact ret_s h (fun e => by subst e; exact (by repeat' (first | exact trivial | exact ⟨rfl⟩ | refine And.intro ?_ ?_)))
            · refine ob_c (p := (0 : Int) ≤ IntKind.wrap IntKind.i64 (IntKind.wrap IntKind.i64 ((0 : Int) + (1 : Int)) + (1 : Int)) ∧ IntKind.wrap IntKind.i64 (IntKind.wrap IntKind.i64 ((0 : Int) + (1 : Int)) + (1 : Int)) < (↑(5 : Nat) : Int)) (by decide) ?_
              refine ob_c (p := (0 : Int) ≤ IntKind.wrap IntKind.i64 (IntKind.wrap IntKind.i64 (IntKind.wrap IntKind.i64 ((0 : Int) + (1 : Int)) + (1 : Int)) + (1 : Int)) ∧ IntKind.wrap IntKind.i64 (IntKind.wrap IntKind.i64 (IntKind.wrap IntKind.i64 ((0 : Int) + (1 : Int)) + (1 : Int)) + (1 : Int)) < (↑(5 : Nat) : Int)) (by decide) ?_
              refine call_s h fun h => ?_
              refine br_b h (fun h => ?_) (fun h => ?_)
              · refine ob_t ?_
                refine ob_t ?_
                exact ret_s h (fun e => by subst e; exact (by repeat' (first | exact trivial | exact ⟨rfl⟩ | refine And.intro ?_ ?_)))
              · refine ob_s h fun h => ?_
                refine ob_t ?_
                refine br_b h (fun h => ?_) (fun h => ?_)
                · refine ob_t ?_
                  refine ob_t ?_
                  exact ret_s h (fun e => by subst e; exact (by repeat' (first | exact trivial | exact ⟨rfl⟩ | refine And.intro ?_ ?_)))
                · refine ob_c (p := (0 : Int) ≤ IntKind.wrap IntKind.i64 (IntKind.wrap IntKind.i64 (IntKind.wrap IntKind.i64 ((0 : Int) + (1 : Int)) + (1 : Int)) + (1 : Int)) ∧ IntKind.wrap IntKind.i64 (IntKind.wrap IntKind.i64 (IntKind.wrap IntKind.i64 ((0 : Int) + (1 : Int)) + (1 : Int)) + (1 : Int)) < (↑(5 : Nat) : Int)) (by decide) ?_
                  refine ob_c (p := (0 : Int) ≤ IntKind.wrap IntKind.i64 (IntKind.wrap IntKind.i64 (IntKind.wrap IntKind.i64 (IntKind.wrap IntKind.i64 ((0 : Int) + (1 : Int)) + (1 : Int)) + (1 : Int)) + (1 : Int)) ∧ IntKind.wrap IntKind.i64 (IntKind.wrap IntKind.i64 (IntKind.wrap IntKind.i64 (IntKind.wrap IntKind.i64 ((0 : Int) + (1 : Int)) + (1 : Int)) + (1 : Int)) + (1 : Int)) < (↑(5 : Nat) : Int)) (by decide) ?_
                  refine call_s h fun h => ?_
                  refine br_b h (fun h => ?_) (fun h => ?_)
                  · refine ob_t ?_
                    refine ob_t ?_
                    exact ret_s h (fun e => by subst e; exact (by repeat' (first | exact trivial | exact ⟨rfl⟩ | refine And.intro ?_ ?_)))
                  · refine ob_s h fun h => ?_
                    refine ob_t ?_
                    refine br_b h (fun h => ?_) (fun h => ?_)
                    · refine ob_t ?_
                      refine ob_t ?_
                      exact ret_s h (fun e => by subst e; exact (by repeat' (first | exact trivial | exact ⟨rfl⟩ | refine And.intro ?_ ?_)))
                    · refine ob_c (p := (0 : Int) ≤ IntKind.wrap IntKind.i64 (IntKind.wrap IntKind.i64 (IntKind.wrap IntKind.i64 (IntKind.wrap IntKind.i64 ((0 : Int) + (1 : Int)) + (1 : Int)) + (1 : Int)) + (1 : Int)) ∧ IntKind.wrap IntKind.i64 (IntKind.wrap IntKind.i64 (IntKind.wrap IntKind.i64 (IntKind.wrap IntKind.i64 ((0 : Int) + (1 : Int)) + (1 : Int)) + (1 : Int)) + (1 : Int)) < (↑(5 : Nat) : Int)) (by decide) ?_
                      refine ob_t ?_
                      refine ob_t ?_
                      exact ret_s h (fun e => by subst e; exact (by repeat' (first | exact trivial | exact ⟨rfl⟩ | refine And.intro ?_ ?_)))
set_option maxRecDepth 100000 in
theorem F_Quantised_ok : SpecOK Try.prog 39 true (pureK k_F_Quantised g_F_Quantised) := by
  refine pureK_ok (sp := (sp_94 (sp_95 (sp_96 sp0)))) (fn := Try.f39) (body := bodyOf Try.f39) mixed (sp_94_ok (sp_95_ok (sp_96_ok sp0_ok))) Try.func39 (by kernel_rfl) (by kernel_rfl) fun as_ ob rs h ho => ?_
  unfold g_F_Quantised at h
  split at h
  · rename_i l0Num l0Den l1Num l1Den l2Num l2Den l3Num l3Den l4Num l4Den
    cases h
    exact ⟨Nat.le_of_ble_eq_true rfl, _, _, F_Quantised_vc l0Num l0Den l1Num l1Den l2Num l2Den l3Num l3Den l4Num l4Den _ (ok_some ho)⟩
  · cases h
theorem sp_39_ok {sp : Specs} (h : SpecsOK Try.prog sp) : SpecsOK Try.prog (sp_39 sp) := addK_ok F_Quantised_ok h

def B_Gcd_b0 (x0 : (Int × Int)) : Option ((Int × Int) ⊕ Int) :=
  if (x0.2 != (0 : Int)) = true then
   if x0.2 ≠ (0 : Int) then
    some (.inl (x0.2, Int.tmod x0.1 x0.2))
   else none
  else
   some (.inr x0.1)
def B_Gcd_r0 (y0_0 : Int) : Option Int :=
  if (-9223372036854775807 : Int) ≤ y0_0 ∧ y0_0 ≤ (9223372036854775807 : Int) then
   some (max y0_0 (-y0_0))
  else none
/-- shoebox/shoeboxbase.Gcd -/
def B_Gcd (a : Int) (b : Int) : Option Int :=
  Option.bind (iter (B_Gcd_b0) big (a, b)) (B_Gcd_r0)
def g_B_Gcd : List A → Option (Prop × List RV)
  | [.d (.i .i64 a), .d (.i .i64 b)] => some (ok (B_Gcd a b), [.d (.i .i64 ((val (B_Gcd a b))))])
  | _ => none
def k_B_Gcd : List (Option Cont) := [none, none]
abbrev sp_133 : Specs → Specs := addK 133 true (pureK k_B_Gcd g_B_Gcd)
set_option maxRecDepth 100000 in
theorem B_Gcd_vc (a : Int) (b : Int) (r : Int) (h : Option.bind (B_Gcd a b) some = some r) : runF Try.f133 ((sp_23 sp0)) (fun gs id _ => match id with
 | 0 => some ⟨(Int × Int) × Nat, fun z => ⟨[(0, .w (.c (.d (.i .i64 (Prod.fst (Prod.fst z)))))), (1, .w (.c (.d (.i .i64 (Prod.snd (Prod.fst z))))))], [], 2⟩, fun z => Option.bind (iter (B_Gcd_b0) (Prod.snd z) (Prod.fst z)) (fun y0 => Option.bind (B_Gcd_r0 y0) some) = some r, fun z => Prod.snd z⟩
 | _ => none) [.d (.i .i64 a), .d (.i .i64 b)] [.d (.i .i64 r)] := by
  refine Eq.mp (by kernel_rfl : (
  ((∃ (v0 : (Int × Int) × Nat), (Ob ((Option.bind (iter B_Gcd_b0 v0.2 v0.1) fun y0 => Option.bind (B_Gcd_r0 y0) some) = some r) ∧
   (Ob (a = v0.1.1) ∧
   (Ob (b = v0.1.2) ∧
   True)))) ∧
   (∀ (v0 : (Int × Int) × Nat), ((Option.bind (iter B_Gcd_b0 v0.2 v0.1) fun y0 => Option.bind (B_Gcd_r0 y0) some) = some r →
   Br (v0.1.2 != (0 : Int))
   ((Ob (v0.1.2 ≠ (0 : Int)) ∧
   (∃ (v1 : (Int × Int) × Nat), (Ob ((Option.bind (iter B_Gcd_b0 v1.2 v1.1) fun y0 => Option.bind (B_Gcd_r0 y0) some) = some r) ∧
   (Ob (v1.2 < v0.2) ∧
   (Ob (v0.1.2 = v1.1.1) ∧
   (Ob (Int.tmod v0.1.1 v0.1.2 = v1.1.2) ∧
   True)))))))
   ((Ob ((-9223372036854775807 : Int) ≤ v0.1.1 ∧ v0.1.1 ≤ (9223372036854775807 : Int)) ∧
   (Ob (True) ∧
   (Ob (max v0.1.1 (-v0.1.1) = r) ∧
   True)))))))) = _) ?_
  refine ⟨⟨((a, b), big), ⟨loop_s h⟩, (by repeat' (first | exact trivial | exact ⟨rfl⟩ | refine And.intro ?_ ?_))⟩, fun z0 hz0 => ?_⟩
  obtain ⟨k0, hm0, h⟩ := iter_pos hz0
  refine br_b h (fun h => ?_) (fun h => ?_)
  · refine ob_s h fun h => ?_
    exact ⟨(((Prod.fst z0).2, Int.tmod (Prod.fst z0).1 (Prod.fst z0).2), k0), ⟨next_s h⟩, ⟨lt_gs hm0.symm⟩, (by repeat' (first | exact trivial | exact ⟨rfl⟩ | refine And.intro ?_ ?_))⟩
  · have h := exit_s h
    refine ob_s h fun h => ?_
    refine ob_t ?_
    exact ret_s h (fun e => by subst e; exact (by repeat' (first | exact trivial | exact ⟨rfl⟩ | refine And.intro ?_ ?_)))
set_option maxRecDepth 100000 in
theorem B_Gcd_ok : SpecOK Try.prog 133 true (pureK k_B_Gcd g_B_Gcd) := by
  refine pureK_ok (sp := (sp_23 sp0)) (fn := Try.f133) (body := bodyOf Try.f133) mixed (sp_23_ok sp0_ok) Try.func133 (by kernel_rfl) (by kernel_rfl) fun as_ ob rs h ho => ?_
  unfold g_B_Gcd at h
  split at h
  · rename_i a b
    cases h
    exact ⟨Nat.le_of_ble_eq_true rfl, _, _, B_Gcd_vc a b _ (ok_some ho)⟩
  · cases h
theorem sp_133_ok {sp : Specs} (h : SpecsOK Try.prog sp) : SpecsOK Try.prog (sp_133 sp) := addK_ok B_Gcd_ok h

/-- shoebox/shoeboxbase.IsLowest -/
def B_IsLowest (fNum : Int) (fDen : Int) : Option Bool :=
  if fDen > (0 : Int) then
   Option.bind (B_Gcd fNum fDen) fun r0 =>
   some (r0 == (1 : Int))
  else
   some false
def g_B_IsLowest : List A → Option (Prop × List RV)
  | [.s [.i .i64 fNum, .i .i64 fDen]] => some (ok (B_IsLowest fNum fDen), [.d (.b ((val (B_IsLowest fNum fDen))))])
  | _ => none
def k_B_IsLowest : List (Option Cont) := [none]
abbrev sp_122 : Specs → Specs := addK 122 true (pureK k_B_IsLowest g_B_IsLowest)
set_option maxRecDepth 100000 in
theorem B_IsLowest_vc (fNum : Int) (fDen : Int) (r : Bool) (h : Option.bind (B_IsLowest fNum fDen) some = some r) : runF Try.f122 ((sp_133 sp0)) (fun _ _ _ => none) [.s [.i .i64 fNum, .i .i64 fDen]] [.d (.b r)] := by
  refine Eq.mp (by kernel_rfl : (
  Br (decide (fDen > (0 : Int)))
   ((Ob (ok (B_Gcd fNum fDen)) ∧
   (Ob (True) ∧
   (Ob ((val (B_Gcd fNum fDen) == (1 : Int)) = r) ∧
   True))))
   ((Ob (True) ∧
   (Ob (false = r) ∧
   True)))) = _) ?_
  refine br_d h (fun h => ?_) (fun h => ?_)
  · refine call_s h fun h => ?_
    refine ob_t ?_
    exact ret_s h (fun e => by subst e; exact (by repeat' (first | exact trivial | exact ⟨rfl⟩ | refine And.intro ?_ ?_)))
  · refine ob_t ?_
    exact ret_s h (fun e => by subst e; exact (by repeat' (first | exact trivial | exact ⟨rfl⟩ | refine And.intro ?_ ?_)))
set_option maxRecDepth 100000 in
theorem B_IsLowest_ok : SpecOK Try.prog 122 true (pureK k_B_IsLowest g_B_IsLowest) := by
  refine pureK_ok (sp := (sp_133 sp0)) (fn := Try.f122) (body := bodyOf Try.f122) mixed (sp_133_ok sp0_ok) Try.func122 (by kernel_rfl) (by kernel_rfl) fun as_ ob rs h ho => ?_
  unfold g_B_IsLowest at h
  split at h
  · rename_i fNum fDen
    cases h
    exact ⟨Nat.le_of_ble_eq_true rfl, _, _, B_IsLowest_vc fNum fDen _ (ok_some ho)⟩
  · cases h
theorem sp_122_ok {sp : Specs} (h : SpecsOK Try.prog sp) : SpecsOK Try.prog (sp_122 sp) := addK_ok B_IsLowest_ok h

/-- shoebox/shoeboxbase.IsSmall -/
def B_IsSmall (fNum : Int) (fDen : Int) : Option Bool :=
  if (decide ((-1000000000 : Int) ≤ fNum) && decide (fNum ≤ (1000000000 : Int))) = true then
   some (decide ((1 : Int) ≤ fDen) && decide (fDen ≤ (1000000000 : Int)))
  else
   some false
def g_B_IsSmall : List A → Option (Prop × List RV)
  | [.s [.i .i64 fNum, .i .i64 fDen]] => some (ok (B_IsSmall fNum fDen), [.d (.b ((val (B_IsSmall fNum fDen))))])
  | _ => none
def k_B_IsSmall : List (Option Cont) := [none]
abbrev sp_121 : Specs → Specs := addK 121 true (pureK k_B_IsSmall g_B_IsSmall)
set_option maxRecDepth 100000 in
theorem B_IsSmall_vc (fNum : Int) (fDen : Int) (r : Bool) (h : Option.bind (B_IsSmall fNum fDen) some = some r) : runF Try.f121 ((sp_50 sp0)) (fun _ _ _ => none) [.s [.i .i64 fNum, .i .i64 fDen]] [.d (.b r)] := by
  refine Eq.mp (by kernel_rfl : (
  (Ob (True) ∧
   Br (decide ((-1000000000 : Int) ≤ fNum) && decide (fNum ≤ (1000000000 : Int)))
   ((Ob (True) ∧
   (Ob (True) ∧
   (Ob ((decide ((1 : Int) ≤ fDen) && decide (fDen ≤ (1000000000 : Int))) = r) ∧
   True))))
   ((Ob (True) ∧
   (Ob (false = r) ∧
   True))))) = _) ?_
  refine ob_t ?_
  refine br_b h (fun h => ?_) (fun h => ?_)
  · refine ob_t ?_
    refine ob_t ?_
    exact ret_s h (fun e => by subst e; exact (by repeat' (first | exact trivial | exact ⟨rfl⟩ | refine And.intro ?_ ?_)))
  · refine ob_t ?_
    exact ret_s h (fun e => by subst e; exact (by repeat' (first | exact trivial | exact ⟨rfl⟩ | refine And.intro ?_ ?_)))
set_option maxRecDepth 100000 in
theorem B_IsSmall_ok : SpecOK Try.prog 121 true (pureK k_B_IsSmall g_B_IsSmall) := by
  refine pureK_ok (sp := (sp_50 sp0)) (fn := Try.f121) (body := bodyOf Try.f121) mixed (sp_50_ok sp0_ok) Try.func121 (by kernel_rfl) (by kernel_rfl) fun as_ ob rs h ho => ?_
  unfold g_B_IsSmall at h
  split at h
  · rename_i fNum fDen
    cases h
    exact ⟨Nat.le_of_ble_eq_true rfl, _, _, B_IsSmall_vc fNum fDen _ (ok_some ho)⟩
  · cases h
theorem sp_121_ok {sp : Specs} (h : SpecsOK Try.prog sp) : SpecsOK Try.prog (sp_121 sp) := addK_ok B_IsSmall_ok h

/-- shoebox/shoeboxref06.FracErr -/
def R06_FracErr (fNum : Int) (fDen : Int) : Option Int :=
  Option.bind (B_IsLowest fNum fDen) fun r0 =>
  if (!r0) = true then
   some (3 : Int)
  else
   Option.bind (B_IsSmall fNum fDen) fun r1 =>
   if (!r1) = true then
    some (2 : Int)
   else
    some (0 : Int)
def g_R06_FracErr : List A → Option (Prop × List RV)
  | [.s [.i .i64 fNum, .i .i64 fDen]] => some (ok (R06_FracErr fNum fDen), [.d (.i .i64 ((val (R06_FracErr fNum fDen))))])
  | _ => none
def k_R06_FracErr : List (Option Cont) := [none]
abbrev sp_77 : Specs → Specs := addK 77 true (pureK k_R06_FracErr g_R06_FracErr)
set_option maxRecDepth 100000 in
theorem R06_FracErr_vc (fNum : Int) (fDen : Int) (r : Int) (h : Option.bind (R06_FracErr fNum fDen) some = some r) : runF Try.f77 ((sp_122 (sp_121 sp0))) (fun _ _ _ => none) [.s [.i .i64 fNum, .i .i64 fDen]] [.d (.i .i64 r)] := by
  refine Eq.mp (by kernel_rfl : (
  (Ob (ok (B_IsLowest fNum fDen)) ∧
   Br (!val (B_IsLowest fNum fDen))
   ((Ob (True) ∧
   (Ob ((3 : Int) = r) ∧
   True)))
   ((Ob (ok (B_IsSmall fNum fDen)) ∧
   Br (!val (B_IsSmall fNum fDen))
   ((Ob (True) ∧
   (Ob ((2 : Int) = r) ∧
   True)))
   ((Ob (True) ∧
   (Ob ((0 : Int) = r) ∧
   True))))))) = _) ?_
  refine call_s h fun h => ?_
  refine br_b h (fun h => ?_) (fun h => ?_)
  · refine ob_t ?_
    exact ret_s h (fun e => by subst e; exact (by repeat' (first | exact trivial | exact ⟨rfl⟩ | refine And.intro ?_ ?_)))
  · refine call_s h fun h => ?_
    refine br_b h (fun h => ?_) (fun h => ?_)
    · refine ob_t ?_
      exact ret_s h (fun e => by subst e; exact (by repeat' (first | exact trivial | exact ⟨rfl⟩ | refine And.intro ?_ ?_)))
    · refine ob_t ?_
      exact ret_s h (fun e => by subst e; exact (by repeat' (first | exact trivial | exact ⟨rfl⟩ | refine And.intro ?_ ?_)))
set_option maxRecDepth 100000 in
theorem R06_FracErr_ok : SpecOK Try.prog 77 true (pureK k_R06_FracErr g_R06_FracErr) := by
  refine pureK_ok (sp := (sp_122 (sp_121 sp0))) (fn := Try.f77) (body := bodyOf Try.f77) mixed (sp_122_ok (sp_121_ok sp0_ok)) Try.func77 (by kernel_rfl) (by kernel_rfl) fun as_ ob rs h ho => ?_
  unfold g_R06_FracErr at h
  split at h
  · rename_i fNum fDen
    cases h
    exact ⟨Nat.le_of_ble_eq_true rfl, _, _, R06_FracErr_vc fNum fDen _ (ok_some ho)⟩
  · cases h
theorem sp_77_ok {sp : Specs} (h : SpecsOK Try.prog sp) : SpecsOK Try.prog (sp_77 sp) := addK_ok R06_FracErr_ok h

/-- shoebox/shoeboxref06.Quantised -/
def R06_Quantised (l0Num : Int) (l0Den : Int) (l1Num : Int) (l1Den : Int) (l2Num : Int) (l2Den : Int) (l3Num : Int) (l3Den : Int) (l4Num : Int) (l4Den : Int) : Option (Int × Int × Int × Int × Int × Int) :=
  Option.bind (R06_FracErr l0Num l0Den) fun r0 =>
  if (r0 != (0 : Int)) = true then
   some (((0 : Int), (0 : Int), (0 : Int), (0 : Int), (0 : Int), r0))
  else
   Option.bind (B_Floor (IntKind.wrap IntKind.i64 (IntKind.wrap IntKind.i64 (IntKind.wrap IntKind.i64 ((2 : Int) * l0Num) * (16384 : Int)) + l0Den)) (IntKind.wrap IntKind.i64 ((2 : Int) * l0Den))) fun r1 =>
   if (!(decide ((-32768 : Int) ≤ r1) && decide (r1 ≤ (32768 : Int)))) = true then
    some (((0 : Int), (0 : Int), (0 : Int), (0 : Int), (0 : Int), (8 : Int)))
   else
    Option.bind (R06_FracErr l1Num l1Den) fun r2 =>
    if (r2 != (0 : Int)) = true then
     some (((0 : Int), (0 : Int), (0 : Int), (0 : Int), (0 : Int), r2))
    else
     Option.bind (B_Floor (IntKind.wrap IntKind.i64 (IntKind.wrap IntKind.i64 (IntKind.wrap IntKind.i64 ((2 : Int) * l1Num) * (16384 : Int)) + l1Den)) (IntKind.wrap IntKind.i64 ((2 : Int) * l1Den))) fun r3 =>
     if (!(decide ((-32768 : Int) ≤ r3) && decide (r3 ≤ (32768 : Int)))) = true then
      some (((0 : Int), (0 : Int), (0 : Int), (0 : Int), (0 : Int), (8 : Int)))
     else
      Option.bind (R06_FracErr l2Num l2Den) fun r4 =>
      if (r4 != (0 : Int)) = true then
       some (((0 : Int), (0 : Int), (0 : Int), (0 : Int), (0 : Int), r4))
      else
       Option.bind (B_Floor (IntKind.wrap IntKind.i64 (IntKind.wrap IntKind.i64 (IntKind.wrap IntKind.i64 ((2 : Int) * l2Num) * (16384 : Int)) + l2Den)) (IntKind.wrap IntKind.i64 ((2 : Int) * l2Den))) fun r5 =>
       if (!(decide ((-32768 : Int) ≤ r5) && decide (r5 ≤ (32768 : Int)))) = true then
        some (((0 : Int), (0 : Int), (0 : Int), (0 : Int), (0 : Int), (8 : Int)))
       else
        Option.bind (R06_FracErr l3Num l3Den) fun r6 =>
        if (r6 != (0 : Int)) = true then
         some (((0 : Int), (0 : Int), (0 : Int), (0 : Int), (0 : Int), r6))
        else
         Option.bind (B_Floor (IntKind.wrap IntKind.i64 (IntKind.wrap IntKind.i64 (IntKind.wrap IntKind.i64 ((2 : Int) * l3Num) * (16384 : Int)) + l3Den)) (IntKind.wrap IntKind.i64 ((2 : Int) * l3Den))) fun r7 =>
         if (!(decide ((-32768 : Int) ≤ r7) && decide (r7 ≤ (32768 : Int)))) = true then
          some (((0 : Int), (0 : Int), (0 : Int), (0 : Int), (0 : Int), (8 : Int)))
         else
          Option.bind (R06_FracErr l4Num l4Den) fun r8 =>
          if (r8 != (0 : Int)) = true then
           some (((0 : Int), (0 : Int), (0 : Int), (0 : Int), (0 : Int), r8))
          else
           Option.bind (B_Floor (IntKind.wrap IntKind.i64 (IntKind.wrap IntKind.i64 (IntKind.wrap IntKind.i64 ((2 : Int) * l4Num) * (16384 : Int)) + l4Den)) (IntKind.wrap IntKind.i64 ((2 : Int) * l4Den))) fun r9 =>
           if (!(decide ((-32768 : Int) ≤ r9) && decide (r9 ≤ (32768 : Int)))) = true then
            some (((0 : Int), (0 : Int), (0 : Int), (0 : Int), (0 : Int), (8 : Int)))
           else
            some ((r1, r3, r5, r7, r9, (0 : Int)))
def g_R06_Quantised : List A → Option (Prop × List RV)
  | [.s [.i .i64 l0Num, .i .i64 l0Den, .i .i64 l1Num, .i .i64 l1Den, .i .i64 l2Num, .i .i64 l2Den, .i .i64 l3Num, .i .i64 l3Den, .i .i64 l4Num, .i .i64 l4Den]] => some (ok (R06_Quantised l0Num l0Den l1Num l1Den l2Num l2Den l3Num l3Den l4Num l4Den), [.s [.i .i64 ((val (R06_Quantised l0Num l0Den l1Num l1Den l2Num l2Den l3Num l3Den l4Num l4Den)).1), .i .i64 ((val (R06_Quantised l0Num l0Den l1Num l1Den l2Num l2Den l3Num l3Den l4Num l4Den)).2.1), .i .i64 ((val (R06_Quantised l0Num l0Den l1Num l1Den l2Num l2Den l3Num l3Den l4Num l4Den)).2.2.1), .i .i64 ((val (R06_Quantised l0Num l0Den l1Num l1Den l2Num l2Den l3Num l3Den l4Num l4Den)).2.2.2.1), .i .i64 ((val (R06_Quantised l0Num l0Den l1Num l1Den l2Num l2Den l3Num l3Den l4Num l4Den)).2.2.2.2.1)], .d (.i .i64 ((val (R06_Quantised l0Num l0Den l1Num l1Den l2Num l2Den l3Num l3Den l4Num l4Den)).2.2.2.2.2))])
  | _ => none
def k_R06_Quantised : List (Option Cont) := [none]
abbrev sp_40 : Specs → Specs := addK 40 true (pureK k_R06_Quantised g_R06_Quantised)
set_option maxRecDepth 100000 in
theorem R06_Quantised_vc (l0Num : Int) (l0Den : Int) (l1Num : Int) (l1Den : Int) (l2Num : Int) (l2Den : Int) (l3Num : Int) (l3Den : Int) (l4Num : Int) (l4Den : Int) (r : Int × Int × Int × Int × Int × Int) (h : Option.bind (R06_Quantised l0Num l0Den l1Num l1Den l2Num l2Den l3Num l3Den l4Num l4Den) some = some r) : runF Try.f40 ((sp_77 (sp_90 (sp_50 sp0)))) (fun _ _ _ => none) [.s [.i .i64 l0Num, .i .i64 l0Den, .i .i64 l1Num, .i .i64 l1Den, .i .i64 l2Num, .i .i64 l2Den, .i .i64 l3Num, .i .i64 l3Den, .i .i64 l4Num, .i .i64 l4Den]] [.s [.i .i64 r.1, .i .i64 r.2.1, .i .i64 r.2.2.1, .i .i64 r.2.2.2.1, .i .i64 r.2.2.2.2.1], .d (.i .i64 r.2.2.2.2.2)] := by
  refine Eq.mp (by kernel_rfl : (
  (Ob ((0 : Int) ≤ (0 : Int) ∧ (0 : Int) < (↑(5 : Nat) : Int)) ∧
   (Ob (ok (R06_FracErr l0Num l0Den)) ∧
   Br (val (R06_FracErr l0Num l0Den) != (0 : Int))
   ((Ob (True) ∧
   (Ob (True) ∧
   (Ob ((0 : Int) = r.1) ∧
   (Ob ((0 : Int) = r.2.1) ∧
   (Ob ((0 : Int) = r.2.2.1) ∧
   (Ob ((0 : Int) = r.2.2.2.1) ∧
   (Ob ((0 : Int) = r.2.2.2.2.1) ∧
   (Ob (val (R06_FracErr l0Num l0Den) = r.2.2.2.2.2) ∧
   True)))))))))
   ((Ob ((0 : Int) ≤ (0 : Int) ∧ (0 : Int) < (↑(5 : Nat) : Int)) ∧
   (Ob ((0 : Int) ≤ (0 : Int) ∧ (0 : Int) < (↑(5 : Nat) : Int)) ∧
   (Ob ((0 : Int) ≤ (0 : Int) ∧ (0 : Int) < (↑(5 : Nat) : Int)) ∧
   (Ob (ok (B_Floor (IntKind.wrap IntKind.i64 (IntKind.wrap IntKind.i64 (IntKind.wrap IntKind.i64 ((2 : Int) * l0Num) * (16384 : Int)) + l0Den)) (IntKind.wrap IntKind.i64 ((2 : Int) * l0Den)))) ∧
   (Ob ((0 : Int) ≤ (0 : Int) ∧ (0 : Int) < (↑(5 : Nat) : Int)) ∧
   (Ob ((0 : Int) ≤ (0 : Int) ∧ (0 : Int) < (↑(5 : Nat) : Int)) ∧
   (Ob (True) ∧
   Br (!(decide ((-32768 : Int) ≤ val (B_Floor (IntKind.wrap IntKind.i64 (IntKind.wrap IntKind.i64 (IntKind.wrap IntKind.i64 ((2 : Int) * l0Num) * (16384 : Int)) + l0Den)) (IntKind.wrap IntKind.i64 ((2 : Int) * l0Den)))) && decide (val (B_Floor (IntKind.wrap IntKind.i64 (IntKind.wrap IntKind.i64 (IntKind.wrap IntKind.i64 ((2 : Int) * l0Num) * (16384 : Int)) + l0Den)) (IntKind.wrap IntKind.i64 ((2 : Int) * l0Den))) ≤ (32768 : Int))))
   ((Ob (True) ∧
   (Ob (True) ∧
   (Ob ((0 : Int) = r.1) ∧
   (Ob ((0 : Int) = r.2.1) ∧
   (Ob ((0 : Int) = r.2.2.1) ∧
   (Ob ((0 : Int) = r.2.2.2.1) ∧
   (Ob ((0 : Int) = r.2.2.2.2.1) ∧
   (Ob ((8 : Int) = r.2.2.2.2.2) ∧
   True)))))))))
   ((Ob ((0 : Int) ≤ IntKind.wrap IntKind.i64 ((0 : Int) + (1 : Int)) ∧ IntKind.wrap IntKind.i64 ((0 : Int) + (1 : Int)) < (↑(5 : Nat) : Int)) ∧
   (Ob (ok (R06_FracErr l1Num l1Den)) ∧
   Br (val (R06_FracErr l1Num l1Den) != (0 : Int))
   ((Ob (True) ∧
   (Ob (True) ∧
   (Ob ((0 : Int) = r.1) ∧
   (Ob ((0 : Int) = r.2.1) ∧
   (Ob ((0 : Int) = r.2.2.1) ∧
   (Ob ((0 : Int) = r.2.2.2.1) ∧
   (Ob ((0 : Int) = r.2.2.2.2.1) ∧
   (Ob (val (R06_FracErr l1Num l1Den) = r.2.2.2.2.2) ∧
   True)))))))))
   ((Ob ((0 : Int) ≤ IntKind.wrap IntKind.i64 ((0 : Int) + (1 : Int)) ∧ IntKind.wrap IntKind.i64 ((0 : Int) + (1 : Int)) < (↑(5 : Nat) : Int)) ∧
   (Ob ((0 : Int) ≤ IntKind.wrap IntKind.i64 ((0 : Int) + (1 : Int)) ∧ IntKind.wrap IntKind.i64 ((0 : Int) + (1 : Int)) < (↑(5 : Nat) : Int)) ∧
   (Ob ((0 : Int) ≤ IntKind.wrap IntKind.i64 ((0 : Int) + (1 : Int)) ∧ IntKind.wrap IntKind.i64 ((0 : Int) + (1 : Int)) < (↑(5 : Nat) : Int)) ∧
   (Ob (ok (B_Floor (IntKind.wrap IntKind.i64 (IntKind.wrap IntKind.i64 (IntKind.wrap IntKind.i64 ((2 : Int) * l1Num) * (16384 : Int)) + l1Den)) (IntKind.wrap IntKind.i64 ((2 : Int) * l1Den)))) ∧
   (Ob ((0 : Int) ≤ IntKind.wrap IntKind.i64 ((0 : Int) + (1 : Int)) ∧ IntKind.wrap IntKind.i64 ((0 : Int) + (1 : Int)) < (↑(5 : Nat) : Int)) ∧
   (Ob ((0 : Int) ≤ IntKind.wrap IntKind.i64 ((0 : Int) + (1 : Int)) ∧ IntKind.wrap IntKind.i64 ((0 : Int) + (1 : Int)) < (↑(5 : Nat) : Int)) ∧
   (Ob (True) ∧
   Br (!(decide ((-32768 : Int) ≤ val (B_Floor (IntKind.wrap IntKind.i64 (IntKind.wrap IntKind.i64 (IntKind.wrap IntKind.i64 ((2 : Int) * l1Num) * (16384 : Int)) + l1Den)) (IntKind.wrap IntKind.i64 ((2 : Int) * l1Den)))) && decide (val (B_Floor (IntKind.wrap IntKind.i64 (IntKind.wrap IntKind.i64 (IntKind.wrap IntKind.i64 ((2 : Int) * l1Num) * (16384 : Int)) + l1Den)) (IntKind.wrap IntKind.i64 ((2 : Int) * l1Den))) ≤ (32768 : Int))))
   ((Ob (True) ∧
   (Ob (True) ∧
   (Ob ((0 : Int) = r.1) ∧
   (Ob ((0 : Int) = r.2.1) ∧
   (Ob ((0 : Int) = r.2.2.1) ∧
   (Ob ((0 : Int) = r.2.2.2.1) ∧
   (Ob ((0 : Int) = r.2.2.2.2.1) ∧
   (Ob ((8 : Int) = r.2.2.2.2.2) ∧
   True)))))))))
   ((Ob ((0 : Int) ≤ IntKind.wrap IntKind.i64 (IntKind.wrap IntKind.i64 ((0 : Int) + (1 : Int)) + (1 : Int)) ∧ IntKind.wrap IntKind.i64 (IntKind.wrap IntKind.i64 ((0 : Int) + (1 : Int)) + (1 : Int)) < (↑(5 : Nat) : Int)) ∧
   (Ob (ok (R06_FracErr l2Num l2Den)) ∧
   Br (val (R06_FracErr l2Num l2Den) != (0 : Int))
   ((Ob (True) ∧
   (Ob (True) ∧
   (Ob ((0 : Int) = r.1) ∧
   (Ob ((0 : Int) = r.2.1) ∧
   (Ob ((0 : Int) = r.2.2.1) ∧
   (Ob ((0 : Int) = r.2.2.2.1) ∧
   (Ob ((0 : Int) = r.2.2.2.2.1) ∧
   (Ob (val (R06_FracErr l2Num l2Den) = r.2.2.2.2.2) ∧
   True)))))))))
   ((Ob ((0 : Int) ≤ IntKind.wrap IntKind.i64 (IntKind.wrap IntKind.i64 ((0 : Int) + (1 : Int)) + (1 : Int)) ∧ IntKind.wrap IntKind.i64 (IntKind.wrap IntKind.i64 ((0 : Int) + (1 : Int)) + (1 : Int)) < (↑(5 : Nat) : Int)) ∧
   (Ob ((0 : Int) ≤ IntKind.wrap IntKind.i64 (IntKind.wrap IntKind.i64 ((0 : Int) + (1 : Int)) + (1 : Int)) ∧ IntKind.wrap IntKind.i64 (IntKind.wrap IntKind.i64 ((0 : Int) + (1 : Int)) + (1 : Int)) < (↑(5 : Nat) : Int)) ∧
   (Ob ((0 : Int) ≤ IntKind.wrap IntKind.i64 (IntKind.wrap IntKind.i64 ((0 : Int) + (1 : Int)) + (1 : Int)) ∧ IntKind.wrap IntKind.i64 (IntKind.wrap IntKind.i64 ((0 : Int) + (1 : Int)) + (1 : Int)) < (↑(5 : Nat) : Int)) ∧
   (Ob (ok (B_Floor (IntKind.wrap IntKind.i64 (IntKind.wrap IntKind.i64 (IntKind.wrap IntKind.i64 ((2 : Int) * l2Num) * (16384 : Int)) + l2Den)) (IntKind.wrap IntKind.i64 ((2 : Int) * l2Den)))) ∧
   (Ob ((0 : Int) ≤ IntKind.wrap IntKind.i64 (IntKind.wrap IntKind.i64 ((0 : Int) + (1 : Int)) + (1 : Int)) ∧ IntKind.wrap IntKind.i64 (IntKind.wrap IntKind.i64 ((0 : Int) + (1 : Int)) + (1 : Int)) < (↑(5 : Nat) : Int)) ∧
   (Ob ((0 : Int) ≤ IntKind.wrap IntKind.i64 (IntKind.wrap IntKind.i64 ((0 : Int) + (1 : Int)) + (1 : Int)) ∧ IntKind.wrap IntKind.i64 (IntKind.wrap IntKind.i64 ((0 : Int) + (1 : Int)) + (1 : Int)) < (↑(5 : Nat) : Int)) ∧
   (Ob (True) ∧
   Br (!(decide ((-32768 : Int) ≤ val (B_Floor (IntKind.wrap IntKind.i64 (IntKind.wrap IntKind.i64 (IntKind.wrap IntKind.i64 ((2 : Int) * l2Num) * (16384 : Int)) + l2Den)) (IntKind.wrap IntKind.i64 ((2 : Int) * l2Den)))) && decide (val (B_Floor (IntKind.wrap IntKind.i64 (IntKind.wrap IntKind.i64 (IntKind.wrap IntKind.i64 ((2 : Int) * l2Num) * (16384 : Int)) + l2Den)) (IntKind.wrap IntKind.i64 ((2 : Int) * l2Den))) ≤ (32768 : Int))))
   ((Ob (True) ∧
   (Ob (True) ∧
   (Ob ((0 : Int) = r.1) ∧
   (Ob ((0 : Int) = r.2.1) ∧
   (Ob ((0 : Int) = r.2.2.1) ∧
   (Ob ((0 : Int) = r.2.2.2.1) ∧
   (Ob ((0 : Int) = r.2.2.2.2.1) ∧
   (Ob ((8 : Int) = r.2.2.2.2.2) ∧
   True)))))))))
   ((Ob ((0 : Int) ≤ IntKind.wrap IntKind.i64 (IntKind.wrap IntKind.i64 (IntKind.wrap IntKind.i64 ((0 : Int) + (1 : Int)) + (1 : Int)) + (1 : Int)) ∧ IntKind.wrap IntKind.i64 (IntKind.wrap IntKind.i64 (IntKind.wrap IntKind.i64 ((0 : Int) + (1 : Int)) + (1 : Int)) + (1 : Int)) < (↑(5 : Nat) : Int)) ∧
   (Ob (ok (R06_FracErr l3Num l3Den)) ∧
   Br (val (R06_FracErr l3Num l3Den) != (0 : Int))
   ((Ob (True) ∧
   (Ob (True) ∧
   (Ob ((0 : Int) = r.1) ∧
   (Ob ((0 : Int) = r.2.1) ∧
   (Ob ((0 : Int) = r.2.2.1) ∧
   (Ob ((0 : Int) = r.2.2.2.1) ∧
   (Ob ((0 : Int) = r.2.2.2.2.1) ∧
   (Ob (val (R06_FracErr l3Num l3Den) = r.2.2.2.2.2) ∧
   True)))))))))
   ((Ob ((0 : Int) ≤ IntKind.wrap IntKind.i64 (IntKind.wrap IntKind.i64 (IntKind.wrap IntKind.i64 ((0 : Int) + (1 : Int)) + (1 : Int)) + (1 : Int)) ∧ IntKind.wrap IntKind.i64 (IntKind.wrap IntKind.i64 (IntKind.wrap IntKind.i64 ((0 : Int) + (1 : Int)) + (1 : Int)) + (1 : Int)) < (↑(5 : Nat) : Int)) ∧
   (Ob ((0 : Int) ≤ IntKind.wrap IntKind.i64 (IntKind.wrap IntKind.i64 (IntKind.wrap IntKind.i64 ((0 : Int) + (1 : Int)) + (1 : Int)) + (1 : Int)) ∧ IntKind.wrap IntKind.i64 (IntKind.wrap IntKind.i64 (IntKind.wrap IntKind.i64 ((0 : Int) + (1 : Int)) + (1 : Int)) + (1 : Int)) < (↑(5 : Nat) : Int)) ∧
   (Ob ((0 : Int) ≤ IntKind.wrap IntKind.i64 (IntKind.wrap IntKind.i64 (IntKind.wrap IntKind.i64 ((0 : Int) + (1 : Int)) + (1 : Int)) + (1 : Int)) ∧ IntKind.wrap IntKind.i64 (IntKind.wrap IntKind.i64 (IntKind.wrap IntKind.i64 ((0 : Int) + (1 : Int)) + (1 : Int)) + (1 : Int)) < (↑(5 : Nat) : Int)) ∧
   (Ob (ok (B_Floor (IntKind.wrap IntKind.i64 (IntKind.wrap IntKind.i64 (IntKind.wrap IntKind.i64 ((2 : Int) * l3Num) * (16384 : Int)) + l3Den)) (IntKind.wrap IntKind.i64 ((2 : Int) * l3Den)))) ∧
   (Ob ((0 : Int) ≤ IntKind.wrap IntKind.i64 (IntKind.wrap IntKind.i64 (IntKind.wrap IntKind.i64 ((0 : Int) + (1 : Int)) + (1 : Int)) + (1 : Int)) ∧ IntKind.wrap IntKind.i64 (IntKind.wrap IntKind.i64 (IntKind.wrap IntKind.i64 ((0 : Int) + (1 : Int)) + (1 : Int)) + (1 : Int)) < (↑(5 : Nat) : Int)) ∧
   (Ob ((0 : Int) ≤ IntKind.wrap IntKind.i64 (IntKind.wrap IntKind.i64 (IntKind.wrap IntKind.i64 ((0 : Int) + (1 : Int)) + (1 : Int)) + (1 : Int)) ∧ IntKind.wrap IntKind.i64 (IntKind.wrap IntKind.i64 (IntKind.wrap IntKind.i64 ((0 : Int) + (1 : Int)) + (1 : Int)) + (1 : Int)) < (↑(5 : Nat) : Int)) ∧
   (Ob (True) ∧
   Br (!(decide ((-32768 : Int) ≤ val (B_Floor (IntKind.wrap IntKind.i64 (IntKind.wrap IntKind.i64 (IntKind.wrap IntKind.i64 ((2 : Int) * l3Num) * (16384 : Int)) + l3Den)) (IntKind.wrap IntKind.i64 ((2 : Int) * l3Den)))) && decide (val (B_Floor (IntKind.wrap IntKind.i64 (IntKind.wrap IntKind.i64 (IntKind.wrap IntKind.i64 ((2 : Int) * l3Num) * (16384 : Int)) + l3Den)) (IntKind.wrap IntKind.i64 ((2 : Int) * l3Den))) ≤ (32768 : Int))))
   ((Ob (True) ∧
   (Ob (True) ∧
   (Ob ((0 : Int) = r.1) ∧
   (Ob ((0 : Int) = r.2.1) ∧
   (Ob ((0 : Int) = r.2.2.1) ∧
   (Ob ((0 : Int) = r.2.2.2.1) ∧
   (Ob ((0 : Int) = r.2.2.2.2.1) ∧
   (Ob ((8 : Int) = r.2.2.2.2.2) ∧
   True)))))))))
   ((Ob ((0 : Int) ≤ IntKind.wrap IntKind.i64 (IntKind.wrap IntKind.i64 (IntKind.wrap IntKind.i64 (IntKind.wrap IntKind.i64 ((0 : Int) + (1 : Int)) + (1 : Int)) + (1 : Int)) + (1 : Int)) ∧ IntKind.wrap IntKind.i64 (IntKind.wrap IntKind.i64 (IntKind.wrap IntKind.i64 (IntKind.wrap IntKind.i64 ((0 : Int) + (1 : Int)) + (1 : Int)) + (1 : Int)) + (1 : Int)) < (↑(5 : Nat) : Int)) ∧
   (Ob (ok (R06_FracErr l4Num l4Den)) ∧
   Br (val (R06_FracErr l4Num l4Den) != (0 : Int))
   ((Ob (True) ∧
   (Ob (True) ∧
   (Ob ((0 : Int) = r.1) ∧
   (Ob ((0 : Int) = r.2.1) ∧
   (Ob ((0 : Int) = r.2.2.1) ∧
   (Ob ((0 : Int) = r.2.2.2.1) ∧
   (Ob ((0 : Int) = r.2.2.2.2.1) ∧
   (Ob (val (R06_FracErr l4Num l4Den) = r.2.2.2.2.2) ∧
   True)))))))))
   ((Ob ((0 : Int) ≤ IntKind.wrap IntKind.i64 (IntKind.wrap IntKind.i64 (IntKind.wrap IntKind.i64 (IntKind.wrap IntKind.i64 ((0 : Int) + (1 : Int)) + (1 : Int)) + (1 : Int)) + (1 : Int)) ∧ IntKind.wrap IntKind.i64 (IntKind.wrap IntKind.i64 (IntKind.wrap IntKind.i64 (IntKind.wrap IntKind.i64 ((0 : Int) + (1 : Int)) + (1 : Int)) + (1 : Int)) + (1 : Int)) < (↑(5 : Nat) : Int)) ∧
   (Ob ((0 : Int) ≤ IntKind.wrap IntKind.i64 (IntKind.wrap IntKind.i64 (IntKind.wrap IntKind.i64 (IntKind.wrap IntKind.i64 ((0 : Int) + (1 : Int)) + (1 : Int)) + (1 : Int)) + (1 : Int)) ∧ IntKind.wrap IntKind.i64 (IntKind.wrap IntKind.i64 (IntKind.wrap IntKind.i64 (IntKind.wrap IntKind.i64 ((0 : Int) + (1 : Int)) + (1 : Int)) + (1 : Int)) + (1 : Int)) < (↑(5 : Nat) : Int)) ∧
   (Ob ((0 : Int) ≤ IntKind.wrap IntKind.i64 (IntKind.wrap IntKind.i64 (IntKind.wrap IntKind.i64 (IntKind.wrap IntKind.i64 ((0 : Int) + (1 : Int)) + (1 : Int)) + (1 : Int)) + (1 : Int)) ∧ IntKind.wrap IntKind.i64 (IntKind.wrap IntKind.i64 (IntKind.wrap IntKind.i64 (IntKind.wrap IntKind.i64 ((0 : Int) + (1 : Int)) + (1 : Int)) + (1 : Int)) + (1 : Int)) < (↑(5 : Nat) : Int)) ∧
   (Ob (ok (B_Floor (IntKind.wrap IntKind.i64 (IntKind.wrap IntKind.i64 (IntKind.wrap IntKind.i64 ((2 : Int) * l4Num) * (16384 : Int)) + l4Den)) (IntKind.wrap IntKind.i64 ((2 : Int) * l4Den)))) ∧
   (Ob ((0 : Int) ≤ IntKind.wrap IntKind.i64 (IntKind.wrap IntKind.i64 (IntKind.wrap IntKind.i64 (IntKind.wrap IntKind.i64 ((0 : Int) + (1 : Int)) + (1 : Int)) + (1 : Int)) + (1 : Int)) ∧ IntKind.wrap IntKind.i64 (IntKind.wrap IntKind.i64 (IntKind.wrap IntKind.i64 (IntKind.wrap IntKind.i64 ((0 : Int) + (1 : Int)) + (1 : Int)) + (1 : Int)) + (1 : Int)) < (↑(5 : Nat) : Int)) ∧
   (Ob ((0 : Int) ≤ IntKind.wrap IntKind.i64 (IntKind.wrap IntKind.i64 (IntKind.wrap IntKind.i64 (IntKind.wrap IntKind.i64 ((0 : Int) + (1 : Int)) + (1 : Int)) + (1 : Int)) + (1 : Int)) ∧ IntKind.wrap IntKind.i64 (IntKind.wrap IntKind.i64 (IntKind.wrap IntKind.i64 (IntKind.wrap IntKind.i64 ((0 : Int) + (1 : Int)) + (1 : Int)) + (1 : Int)) + (1 : Int)) < (↑(5 : Nat) : Int)) ∧
   (Ob (True) ∧
   Br (!(decide ((-32768 : Int) ≤ val (B_Floor (IntKind.wrap IntKind.i64 (IntKind.wrap IntKind.i64 (IntKind.wrap IntKind.i64 ((2 : Int) * l4Num) * (16384 : Int)) + l4Den)) (IntKind.wrap IntKind.i64 ((2 : Int) * l4Den)))) && decide (val (B_Floor (IntKind.wrap IntKind.i64 (IntKind.wrap IntKind.i64 (IntKind.wrap IntKind.i64 ((2 : Int) * l4Num) * (16384 : Int)) + l4Den)) (IntKind.wrap IntKind.i64 ((2 : Int) * l4Den))) ≤ (32768 : Int))))
   ((Ob (True) ∧
   (Ob (True) ∧
   (Ob ((0 : Int) = r.1) ∧
   (Ob ((0 : Int) = r.2.1) ∧
   (Ob ((0 : Int) = r.2.2.1) ∧
   (Ob ((0 : Int) = r.2.2.2.1) ∧
   (Ob ((0 : Int) = r.2.2.2.2.1) ∧
   (Ob ((8 : Int) = r.2.2.2.2.2) ∧
   True)))))))))
   ((Ob ((0 : Int) ≤ (0 : Int) ∧ (0 : Int) < (↑(5 : Nat) : Int)) ∧
   (Ob ((0 : Int) ≤ (1 : Int) ∧ (1 : Int) < (↑(5 : Nat) : Int)) ∧
   (Ob ((0 : Int) ≤ (2 : Int) ∧ (2 : Int) < (↑(5 : Nat) : Int)) ∧
   (Ob ((0 : Int) ≤ (3 : Int) ∧ (3 : Int) < (↑(5 : Nat) : Int)) ∧
   (Ob ((0 : Int) ≤ (4 : Int) ∧ (4 : Int) < (↑(5 : Nat) : Int)) ∧
   (Ob (True) ∧
   (Ob (True) ∧
   (Ob (val (B_Floor (IntKind.wrap IntKind.i64 (IntKind.wrap IntKind.i64 (IntKind.wrap IntKind.i64 ((2 : Int) * l0Num) * (16384 : Int)) + l0Den)) (IntKind.wrap IntKind.i64 ((2 : Int) * l0Den))) = r.1) ∧
   (Ob (val (B_Floor (IntKind.wrap IntKind.i64 (IntKind.wrap IntKind.i64 (IntKind.wrap IntKind.i64 ((2 : Int) * l1Num) * (16384 : Int)) + l1Den)) (IntKind.wrap IntKind.i64 ((2 : Int) * l1Den))) = r.2.1) ∧
   (Ob (val (B_Floor (IntKind.wrap IntKind.i64 (IntKind.wrap IntKind.i64 (IntKind.wrap IntKind.i64 ((2 : Int) * l2Num) * (16384 : Int)) + l2Den)) (IntKind.wrap IntKind.i64 ((2 : Int) * l2Den))) = r.2.2.1) ∧
   (Ob (val (B_Floor (IntKind.wrap IntKind.i64 (IntKind.wrap IntKind.i64 (IntKind.wrap IntKind.i64 ((2 : Int) * l3Num) * (16384 : Int)) + l3Den)) (IntKind.wrap IntKind.i64 ((2 : Int) * l3Den))) = r.2.2.2.1) ∧
   (Ob (val (B_Floor (IntKind.wrap IntKind.i64 (IntKind.wrap IntKind.i64 (IntKind.wrap IntKind.i64 ((2 : Int) * l4Num) * (16384 : Int)) + l4Den)) (IntKind.wrap IntKind.i64 ((2 : Int) * l4Den))) = r.2.2.2.2.1) ∧
   (Ob ((0 : Int) = r.2.2.2.2.2) ∧
   True))))))))))))))))))))))))))))))))))))))))))))))))))))))))))))))))))))) = _) ?_
  refine ob_c (p := (0 : Int) ≤ (0 : Int) ∧ (0 : Int) < (↑(5 : Nat) : Int)) (by decide) ?_
  refine call_s h fun h => ?_
  refine br_b h (fun h => ?_) (fun h => ?_)
  · refine ob_t ?_
    refine ob_t ?_
    exact ret_s h (fun e => by subst e; exact (by repeat' (first | exact trivial | exact ⟨rfl⟩ | refine And.intro ?_ ?_)))
  · refine ob_c (p := (0 : Int) ≤ (0 : Int) ∧ (0 : Int) < (↑(5 : Nat) : Int)) (by decide) ?_
    refine ob_c (p := (0 : Int) ≤ (0 : Int) ∧ (0 : Int) < (↑(5 : Nat) : Int)) (by decide) ?_
    refine ob_c (p := (0 : Int) ≤ (0 : Int) ∧ (0 : Int) < (↑(5 : Nat) : Int)) (by decide) ?_
    refine call_s h fun h => ?_
    refine ob_c (p := (0 : Int) ≤ (0 : Int) ∧ (0 : Int) < (↑(5 : Nat) : Int)) (by decide) ?_
    refine ob_c (p := (0 : Int) ≤ (0 : Int) ∧ (0 : Int) < (↑(5 : Nat) : Int)) (by decide) ?_
    refine ob_t ?_
    refine br_b h (fun h => ?_) (fun h => ?_)
    · refine ob_t ?_
      refine ob_t ?_
      exact ret_s h (fun e => by subst e; exact (by repeat' (first | exact trivial | exact ⟨rfl⟩ | refine And.intro ?_ ?_)))
    · refine ob_c (p := (0 : Int) ≤ IntKind.wrap IntKind.i64 ((0 : Int) + (1 : Int)) ∧ IntKind.wrap IntKind.i64 ((0 : Int) + (1 : Int)) < (↑(5 : Nat) : Int)) (by decide) ?_
      refine call_s h fun h => ?_
      refine br_b h (fun h => ?_) (fun h => ?_)
      · refine ob_t ?_
        refine ob_t ?_
        exact ret_s h (fun e => by subst e; exact (by repeat' (first | exact trivial | exact ⟨rfl⟩ | refine And.intro ?_ ?_)))
      · refine ob_c (p := (0 : Int) ≤ IntKind.wrap IntKind.i64 ((0 : Int) + (1 : Int)) ∧ IntKind.wrap IntKind.i64 ((0 : Int) + (1 : Int)) < (↑(5 : Nat) : Int)) (by decide) ?_
        refine ob_c (p := (0 : Int) ≤ IntKind.wrap IntKind.i64 ((0 : Int) + (1 : Int)) ∧ IntKind.wrap IntKind.i64 ((0 : Int) + (1 : Int)) < (↑(5 : Nat) : Int)) (by decide) ?_
        refine ob_c (p := (0 : Int) ≤ IntKind.wrap IntKind.i64 ((0 : Int) + (1 : Int)) ∧ IntKind.wrap IntKind.i64 ((0 : Int) + (1 : Int)) < (↑(5 : Nat) : Int)) (by decide) ?_
        refine call_s h fun h => ?_
        refine ob_c (p := (0 : Int) ≤ IntKind.wrap IntKind.i64 ((0 : Int) + (1 : Int)) ∧ IntKind.wrap IntKind.i64 ((0 : Int) + (1 : Int)) < (↑(5 : Nat) : Int)) (by decide) ?_
        refine ob_c (p := (0 : Int) ≤ IntKind.wrap IntKind.i64 ((0 : Int) + (1 : Int)) ∧ IntKind.wrap IntKind.i64 ((0 : Int) + (1 : Int)) < (↑(5 : Nat) : Int)) (by decide) ?_
        refine ob_t ?_
        refine br_b h (fun h => ?_) (fun h => ?_)
        · refine ob_t ?_
          refine ob_t ?_
          exact ret_s h (fun e => by subst e; exact (by repeat' (first | exact trivial | exact ⟨rfl⟩ | refine And.intro ?_ ?_)))
        · refine ob_c (p := (0 : Int) ≤ IntKind.wrap IntKind.i64 (IntKind.wrap IntKind.i64 ((0 : Int) + (1 : Int)) + (1 : Int)) ∧ IntKind.wrap IntKind.i64 (IntKind.wrap IntKind.i64 ((0 : Int) + (1 : Int)) + (1 : Int)) < (↑(5 : Nat) : Int)) (by decide) ?_
          refine call_s h fun h => ?_
          refine br_b h (fun h => ?_) (fun h => ?_)
          · refine ob_t ?_
            refine ob_t ?_
            exact ret_s h (fun e => by subst e; exact (by repeat' (first | exact trivial | exact ⟨rfl⟩ | refine And.intro ?_ ?_)))
          · refine ob_c (p := (0 : Int) ≤ IntKind.wrap IntKind.i64 (IntKind.wrap IntKind.i64 ((0 : Int) + (1 : Int)) + (1 : Int)) ∧ IntKind.wrap IntKind.i64 (IntKind.wrap IntKind.i64 ((0 : Int) + (1 : Int)) + (1 : Int)) < (↑(5 : Nat) : Int)) (by decide) ?_
            refine ob_c (p := (0 : Int) ≤ IntKind.wrap IntKind.i64 (IntKind.wrap IntKind.i64 ((0 : Int) + (1 : Int)) + (1 : Int)) ∧ IntKind.wrap IntKind.i64 (IntKind.wrap IntKind.i64 ((0 : Int) + (1 : Int)) + (1 : Int)) < (↑(5 : Nat) : Int)) (by decide) ?_
            refine ob_c (p := (0 : Int) ≤ IntKind.wrap IntKind.i64 (IntKind.wrap IntKind.i64 ((0 : Int) + (1 : Int)) + (1 : Int)) ∧ IntKind.wrap IntKind.i64 (IntKind.wrap IntKind.i64 ((0 : Int) + (1 : Int)) + (1 : Int)) < (↑(5 : Nat) : Int)) (by decide) ?_
            refine call_s h fun h => ?_
            refine ob_c (p := (0 : Int) ≤ IntKind.wrap IntKind.i64 (IntKind.wrap IntKind.i64 ((0 : Int) + (1 : Int)) + (1 : Int)) ∧ IntKind.wrap IntKind.i64 (IntKind.wrap IntKind.i64 ((0 : Int) + (1 : Int)) + (1 : Int)) < (↑(5 : Nat) : Int)) (by decide) ?_
            refine ob_c (p := (0 : Int) ≤ IntKind.wrap IntKind.i64 (IntKind.wrap IntKind.i64 ((0 : Int) + (1 : Int)) + (1 : Int)) ∧ IntKind.wrap IntKind.i64 (IntKind.wrap IntKind.i64 ((0 : Int) + (1 : Int)) + (1 : Int)) < (↑(5 : Nat) : Int)) (by decide) ?_
            refine ob_t ?_
            refine br_b h (fun h => ?_) (fun h => ?_)
            · refine ob_t ?_
              refine ob_t ?_
              exact ret_s h (fun e => by subst e; exact (by repeat' (first | exact trivial | exact ⟨rfl⟩ | refine And.intro ?_ ?_)))
            · refine ob_c (p := (0 : Int) ≤ IntKind.wrap IntKind.i64 (IntKind.wrap IntKind.i64 (IntKind.wrap IntKind.i64 ((0 : Int) + (1 : Int)) + (1 : Int)) + (1 : Int)) ∧ IntKind.wrap IntKind.i64 (IntKind.wrap IntKind.i64 (IntKind.wrap IntKind.i64 ((0 : Int) + (1 : Int)) + (1 : Int)) + (1 : Int)) < (↑(5 : Nat) : Int)) (by decide) ?_
              refine call_s h fun h => ?_
              refine br_b h (fun h => ?_) (fun h => ?_)
              · refine ob_t ?_
                refine ob_t ?_
                exact ret_s h (fun e => by subst e; exact (by repeat' (first | exact trivial | exact ⟨rfl⟩ | refine And.intro ?_ ?_)))
              · refine ob_c (p := (0 : Int) ≤ IntKind.wrap IntKind.i64 (IntKind.wrap IntKind.i64 (IntKind.wrap IntKind.i64 ((0 : Int) + (1 : Int)) + (1 : Int)) + (1 : Int)) ∧ IntKind.wrap IntKind.i64 (IntKind.wrap IntKind.i64 (IntKind.wrap IntKind.i64 ((0 : Int) + (1 : Int)) + (1 : Int)) + (1 : Int)) < (↑(5 : Nat) : Int)) (by decide) ?_
                refine ob_c (p := (0 : Int) ≤ IntKind.wrap IntKind.i64 (IntKind.wrap IntKind.i64 (IntKind.wrap IntKind.i64 ((0 : Int) + (1 : Int)) + (1 : Int)) + (1 : Int)) ∧ IntKind.wrap IntKind.i64 (IntKind.wrap IntKind.i64 (IntKind.wrap IntKind.i64 ((0 : Int) + (1 : Int)) + (1 : Int)) + (1 : Int)) < (↑(5 : Nat) : Int)) (by decide) ?_
                refine ob_c (p := (0 : Int) ≤ IntKind.wrap IntKind.i64 (IntKind.wrap IntKind.i64 (IntKind.wrap IntKind.i64 ((0 : Int) + (1 : Int)) + (1 : Int)) + (1 : Int)) ∧ IntKind.wrap IntKind.i64 (IntKind.wrap IntKind.i64 (IntKind.wrap IntKind.i64 ((0 : Int) + (1 : Int)) + (1 : Int)) + (1 : Int)) < (↑(5 : Nat) : Int)) (by decide) ?_
                refine call_s h fun h => ?_
                refine ob_c (p := (0 : Int) ≤ IntKind.wrap IntKind.i64 (IntKind.wrap IntKind.i64 (IntKind.wrap IntKind.i64 ((0 : Int) + (1 : Int)) + (1 : Int)) + (1 : Int)) ∧ IntKind.wrap IntKind.i64 (IntKind.wrap IntKind.i64 (IntKind.wrap IntKind.i64 ((0 : Int) + (1 : Int)) + (1 : Int)) + (1 : Int)) < (↑(5 : Nat) : Int)) (by decide) ?_
                refine ob_c (p := (0 : Int) ≤ IntKind.wrap IntKind.i64 (IntKind.wrap IntKind.i64 (IntKind.wrap IntKind.i64 ((0 : Int) + (1 : Int)) + (1 : Int)) + (1 : Int)) ∧ IntKind.wrap IntKind.i64 (IntKind.wrap IntKind.i64 (IntKind.wrap IntKind.i64 ((0 : Int) + (1 : Int)) + (1 : Int)) + (1 : Int)) < (↑(5 : Nat) : Int)) (by decide) ?_
                refine ob_t ?_
                refine br_b h (fun h => ?_) (fun h => ?_)
                · refine ob_t ?_
                  refine ob_t ?_
                  exact ret_s h (fun e => by subst e; exact (by repeat' (first | exact trivial | exact ⟨rfl⟩ | refine And.intro ?_ ?_)))
                · refine ob_c (p := (0 : Int) ≤ IntKind.wrap IntKind.i64 (IntKind.wrap IntKind.i64 (IntKind.wrap IntKind.i64 (IntKind.wrap IntKind.i64 ((0 : Int) + (1 : Int)) + (1 : Int)) + (1 : Int)) + (1 : Int)) ∧ IntKind.wrap IntKind.i64 (IntKind.wrap IntKind.i64 (IntKind.wrap IntKind.i64 (IntKind.wrap IntKind.i64 ((0 : Int) + (1 : Int)) + (1 : Int)) + (1 : Int)) + (1 : Int)) < (↑(5 : Nat) : Int)) (by decide) ?_
                  refine call_s h fun h => ?_
                  refine br_b h (fun h => ?_) (fun h => ?_)
                  · refine ob_t ?_
                    refine ob_t ?_
                    exact ret_s h (fun e => by subst e; exact (by repeat' (first | exact trivial | exact ⟨rfl⟩ | refine And.intro ?_ ?_)))
                  · refine ob_c (p := (0 : Int) ≤ IntKind.wrap IntKind.i64 (IntKind.wrap IntKind.i64 (IntKind.wrap IntKind.i64 (IntKind.wrap IntKind.i64 ((0 : Int) + (1 : Int)) + (1 : Int)) + (1 : Int)) + (1 : Int)) ∧ IntKind.wrap IntKind.i64 (IntKind.wrap IntKind.i64 (IntKind.wrap IntKind.i64 (IntKind.wrap IntKind.i64 ((0 : Int) + (1 : Int)) + (1 : Int)) + (1 : Int)) + (1 : Int)) < (↑(5 : Nat) : Int)) (by decide) ?_
                    refine ob_c (p := (0 : Int) ≤ IntKind.wrap IntKind.i64 (IntKind.wrap IntKind.i64 (IntKind.wrap IntKind.i64 (IntKind.wrap IntKind.i64 ((0 : Int) + (1 : Int)) + (1 : Int)) + (1 : Int)) + (1 : Int)) ∧ IntKind.wrap IntKind.i64 (IntKind.wrap IntKind.i64 (IntKind.wrap IntKind.i64 (IntKind.wrap IntKind.i64 ((0 : Int) + (1 : Int)) + (1 : Int)) + (1 : Int)) + (1 : Int)) < (↑(5 : Nat) : Int)) (by decide) ?_
                    refine ob_c (p := (0 : Int) ≤ IntKind.wrap IntKind.i64 (IntKind.wrap IntKind.i64 (IntKind.wrap IntKind.i64 (IntKind.wrap IntKind.i64 ((0 : Int) + (1 : Int)) + (1 : Int)) + (1 : Int)) + (1 : Int)) ∧ IntKind.wrap IntKind.i64 (IntKind.wrap IntKind.i64 (IntKind.wrap IntKind.i64 (IntKind.wrap IntKind.i64 ((0 : Int) + (1 : Int)) + (1 : Int)) + (1 : Int)) + (1 : Int)) < (↑(5 : Nat) : Int)) (by decide) ?_
                    refine call_s h fun h => ?_
                    refine ob_c (p := (0 : Int) ≤ IntKind.wrap IntKind.i64 (IntKind.wrap IntKind.i64 (IntKind.wrap IntKind.i64 (IntKind.wrap IntKind.i64 ((0 : Int) + (1 : Int)) + (1 : Int)) + (1 : Int)) + (1 : Int)) ∧ IntKind.wrap IntKind.i64 (IntKind.wrap IntKind.i64 (IntKind.wrap IntKind.i64 (IntKind.wrap IntKind.i64 ((0 : Int) + (1 : Int)) + (1 : Int)) + (1 : Int)) + (1 : Int)) < (↑(5 : Nat) : Int)) (by decide) ?_
                    refine ob_c (p := (0 : Int) ≤ IntKind.wrap IntKind.i64 (IntKind.wrap IntKind.i64 (IntKind.wrap IntKind.i64 (IntKind.wrap IntKind.i64 ((0 : Int) + (1 : Int)) + (1 : Int)) + (1 : Int)) + (1 : Int)) ∧ IntKind.wrap IntKind.i64 (IntKind.wrap IntKind.i64 (IntKind.wrap IntKind.i64 (IntKind.wrap IntKind.i64 ((0 : Int) + (1 : Int)) + (1 : Int)) + (1 : Int)) + (1 : Int)) < (↑(5 : Nat) : Int)) (by decide) ?_
                    refine ob_t ?_
                    refine br_b h (fun h => ?_) (fun h => ?_)
                    · refine ob_t ?_
                      refine ob_t ?_
                      exact ret_s h (fun e => by subst e; exact (by repeat' (first | exact trivial | exact ⟨rfl⟩ | refine And.intro ?_ ?_)))
                    · refine ob_c (p := (0 : Int) ≤ (0 : Int) ∧ (0 : Int) < (↑(5 : Nat) : Int)) (by decide) ?_
                      refine ob_c (p := (0 : Int) ≤ (1 : Int) ∧ (1 : Int) < (↑(5 : Nat) : Int)) (by decide) ?_
                      refine ob_c (p := (0 : Int) ≤ (2 : Int) ∧ (2 : Int) < (↑(5 : Nat) : Int)) (by decide) ?_
                      refine ob_c (p := (0 : Int) ≤ (3 : Int) ∧ (3 : Int) < (↑(5 : Nat) : Int)) (by decide) ?_
                      refine ob_c (p := (0 : Int) ≤ (4 : Int) ∧ (4 : Int) < (↑(5 : Nat) : Int)) (by decide) ?_
                      refine ob_t ?_
                      refine ob_t ?_
                      exact ret_s h (fun e => by subst e; exact (by repeat' (first | exact trivial | exact ⟨rfl⟩ | refine And.intro ?_ ?_)))
set_option maxRecDepth 100000 in
theorem R06_Quantised_ok : SpecOK Try.prog 40 true (pureK k_R06_Quantised g_R06_Quantised) := by
  refine pureK_ok (sp := (sp_77 (sp_90 (sp_50 sp0)))) (fn := Try.f40) (body := bodyOf Try.f40) mixed (sp_77_ok (sp_90_ok (sp_50_ok sp0_ok))) Try.func40 (by kernel_rfl) (by kernel_rfl) fun as_ ob rs h ho => ?_
  unfold g_R06_Quantised at h
  split at h
  · rename_i l0Num l0Den l1Num l1Den l2Num l2Den l3Num l3Den l4Num l4Den
    cases h
    exact ⟨Nat.le_of_ble_eq_true rfl, _, _, R06_Quantised_vc l0Num l0Den l1Num l1Den l2Num l2Den l3Num l3Den l4Num l4Den _ (ok_some ho)⟩
  · cases h
theorem sp_40_ok {sp : Specs} (h : SpecsOK Try.prog sp) : SpecsOK Try.prog (sp_40 sp) := addK_ok R06_Quantised_ok h

/-- shoebox/shoeboxlaw06.FilterQuantised -/
def L06_FilterQuantised (l0Num : Int) (l0Den : Int) (l1Num : Int) (l1Den : Int) (l2Num : Int) (l2Den : Int) (l3Num : Int) (l3Den : Int) (l4Num : Int) (l4Den : Int) : Option Bool :=
  Option.bind (F_Quantised l0Num l0Den l1Num l1Den l2Num l2Den l3Num l3Den l4Num l4Den) fun r0 =>
  Option.bind (R06_Quantised l0Num l0Den l1Num l1Den l2Num l2Den l3Num l3Den l4Num l4Den) fun r1 =>
  if (r0.2.2.2.2.2 != r1.2.2.2.2.2) = true then
   some false
  else
   if (!(r0.1 == r1.1 && (r0.2.1 == r1.2.1 && r0.2.2.1 == r1.2.2.1) && (r0.2.2.2.1 == r1.2.2.2.1 && r0.2.2.2.2.1 == r1.2.2.2.2.1))) = true then
    some false
   else
    if (r1.2.2.2.2.2 == (0 : Int)) = true then
     if (-9223372036854775807 : Int) ≤ IntKind.wrap IntKind.i64 (IntKind.wrap IntKind.i64 (l0Num * (16384 : Int)) - IntKind.wrap IntKind.i64 (r0.1 * l0Den)) ∧ IntKind.wrap IntKind.i64 (IntKind.wrap IntKind.i64 (l0Num * (16384 : Int)) - IntKind.wrap IntKind.i64 (r0.1 * l0Den)) ≤ (9223372036854775807 : Int) then
      if IntKind.wrap IntKind.i64 ((2 : Int) * max (IntKind.wrap IntKind.i64 (IntKind.wrap IntKind.i64 (l0Num * (16384 : Int)) - IntKind.wrap IntKind.i64 (r0.1 * l0Den))) (-IntKind.wrap IntKind.i64 (IntKind.wrap IntKind.i64 (l0Num * (16384 : Int)) - IntKind.wrap IntKind.i64 (r0.1 * l0Den)))) > l0Den then
       some false
      else
       if (r1.2.2.2.2.2 == (0 : Int)) = true then
        if (-9223372036854775807 : Int) ≤ IntKind.wrap IntKind.i64 (IntKind.wrap IntKind.i64 (l1Num * (16384 : Int)) - IntKind.wrap IntKind.i64 (r0.2.1 * l1Den)) ∧ IntKind.wrap IntKind.i64 (IntKind.wrap IntKind.i64 (l1Num * (16384 : Int)) - IntKind.wrap IntKind.i64 (r0.2.1 * l1Den)) ≤ (9223372036854775807 : Int) then
         if IntKind.wrap IntKind.i64 ((2 : Int) * max (IntKind.wrap IntKind.i64 (IntKind.wrap IntKind.i64 (l1Num * (16384 : Int)) - IntKind.wrap IntKind.i64 (r0.2.1 * l1Den))) (-IntKind.wrap IntKind.i64 (IntKind.wrap IntKind.i64 (l1Num * (16384 : Int)) - IntKind.wrap IntKind.i64 (r0.2.1 * l1Den)))) > l1Den then
          some false
         else
          if (r1.2.2.2.2.2 == (0 : Int)) = true then
           if (-9223372036854775807 : Int) ≤ IntKind.wrap IntKind.i64 (IntKind.wrap IntKind.i64 (l2Num * (16384 : Int)) - IntKind.wrap IntKind.i64 (r0.2.2.1 * l2Den)) ∧ IntKind.wrap IntKind.i64 (IntKind.wrap IntKind.i64 (l2Num * (16384 : Int)) - IntKind.wrap IntKind.i64 (r0.2.2.1 * l2Den)) ≤ (9223372036854775807 : Int) then
            if IntKind.wrap IntKind.i64 ((2 : Int) * max (IntKind.wrap IntKind.i64 (IntKind.wrap IntKind.i64 (l2Num * (16384 : Int)) - IntKind.wrap IntKind.i64 (r0.2.2.1 * l2Den))) (-IntKind.wrap IntKind.i64 (IntKind.wrap IntKind.i64 (l2Num * (16384 : Int)) - IntKind.wrap IntKind.i64 (r0.2.2.1 * l2Den)))) > l2Den then
             some false
            else
             if (r1.2.2.2.2.2 == (0 : Int)) = true then
              if (-9223372036854775807 : Int) ≤ IntKind.wrap IntKind.i64 (IntKind.wrap IntKind.i64 (l3Num * (16384 : Int)) - IntKind.wrap IntKind.i64 (r0.2.2.2.1 * l3Den)) ∧ IntKind.wrap IntKind.i64 (IntKind.wrap IntKind.i64 (l3Num * (16384 : Int)) - IntKind.wrap IntKind.i64 (r0.2.2.2.1 * l3Den)) ≤ (9223372036854775807 : Int) then
               if IntKind.wrap IntKind.i64 ((2 : Int) * max (IntKind.wrap IntKind.i64 (IntKind.wrap IntKind.i64 (l3Num * (16384 : Int)) - IntKind.wrap IntKind.i64 (r0.2.2.2.1 * l3Den))) (-IntKind.wrap IntKind.i64 (IntKind.wrap IntKind.i64 (l3Num * (16384 : Int)) - IntKind.wrap IntKind.i64 (r0.2.2.2.1 * l3Den)))) > l3Den then
                some false
               else
                if (r1.2.2.2.2.2 == (0 : Int)) = true then
                 if (-9223372036854775807 : Int) ≤ IntKind.wrap IntKind.i64 (IntKind.wrap IntKind.i64 (l4Num * (16384 : Int)) - IntKind.wrap IntKind.i64 (r0.2.2.2.2.1 * l4Den)) ∧ IntKind.wrap IntKind.i64 (IntKind.wrap IntKind.i64 (l4Num * (16384 : Int)) - IntKind.wrap IntKind.i64 (r0.2.2.2.2.1 * l4Den)) ≤ (9223372036854775807 : Int) then
                  if IntKind.wrap IntKind.i64 ((2 : Int) * max (IntKind.wrap IntKind.i64 (IntKind.wrap IntKind.i64 (l4Num * (16384 : Int)) - IntKind.wrap IntKind.i64 (r0.2.2.2.2.1 * l4Den))) (-IntKind.wrap IntKind.i64 (IntKind.wrap IntKind.i64 (l4Num * (16384 : Int)) - IntKind.wrap IntKind.i64 (r0.2.2.2.2.1 * l4Den)))) > l4Den then
                   some false
                  else
                   some true
                 else none
                else
                 some true
              else none
             else
              some true
           else none
          else
           some true
        else none
       else
        some true
     else none
    else
     some true
def g_L06_FilterQuantised : List A → Option (Prop × List RV)
  | [.s [.i .i64 l0Num, .i .i64 l0Den, .i .i64 l1Num, .i .i64 l1Den, .i .i64 l2Num, .i .i64 l2Den, .i .i64 l3Num, .i .i64 l3Den, .i .i64 l4Num, .i .i64 l4Den]] => some (ok (L06_FilterQuantised l0Num l0Den l1Num l1Den l2Num l2Den l3Num l3Den l4Num l4Den), [.d (.b ((val (L06_FilterQuantised l0Num l0Den l1Num l1Den l2Num l2Den l3Num l3Den l4Num l4Den))))])
  | _ => none
def k_L06_FilterQuantised : List (Option Cont) := [none]
abbrev sp_7 : Specs → Specs := addK 7 true (pureK k_L06_FilterQuantised g_L06_FilterQuantised)
set_option maxRecDepth 100000 in
theorem L06_FilterQuantised_vc (l0Num : Int) (l0Den : Int) (l1Num : Int) (l1Den : Int) (l2Num : Int) (l2Den : Int) (l3Num : Int) (l3Den : Int) (l4Num : Int) (l4Den : Int) (r : Bool) (h : Option.bind (L06_FilterQuantised l0Num l0Den l1Num l1Den l2Num l2Den l3Num l3Den l4Num l4Den) some = some r) : runF Try.f7 ((sp_18 (sp_39 (sp_40 (sp_23 sp0))))) (fun _ _ _ => none) [.s [.i .i64 l0Num, .i .i64 l0Den, .i .i64 l1Num, .i .i64 l1Den, .i .i64 l2Num, .i .i64 l2Den, .i .i64 l3Num, .i .i64 l3Den, .i .i64 l4Num, .i .i64 l4Den]] [.d (.b r)] := by
  refine Eq.mp (by kernel_rfl : (
  (Ob (ok L06_awake) ∧
   (Ob (ok (F_Quantised l0Num l0Den l1Num l1Den l2Num l2Den l3Num l3Den l4Num l4Den)) ∧
   (Ob (ok (R06_Quantised l0Num l0Den l1Num l1Den l2Num l2Den l3Num l3Den l4Num l4Den)) ∧
   Br ((val (F_Quantised l0Num l0Den l1Num l1Den l2Num l2Den l3Num l3Den l4Num l4Den)).2.2.2.2.2 != (val (R06_Quantised l0Num l0Den l1Num l1Den l2Num l2Den l3Num l3Den l4Num l4Den)).2.2.2.2.2)
   ((Ob (True) ∧
   (Ob (false = r) ∧
   True)))
   (Br (!((val (F_Quantised l0Num l0Den l1Num l1Den l2Num l2Den l3Num l3Den l4Num l4Den)).1 == (val (R06_Quantised l0Num l0Den l1Num l1Den l2Num l2Den l3Num l3Den l4Num l4Den)).1 && ((val (F_Quantised l0Num l0Den l1Num l1Den l2Num l2Den l3Num l3Den l4Num l4Den)).2.1 == (val (R06_Quantised l0Num l0Den l1Num l1Den l2Num l2Den l3Num l3Den l4Num l4Den)).2.1 && (val (F_Quantised l0Num l0Den l1Num l1Den l2Num l2Den l3Num l3Den l4Num l4Den)).2.2.1 == (val (R06_Quantised l0Num l0Den l1Num l1Den l2Num l2Den l3Num l3Den l4Num l4Den)).2.2.1) && ((val (F_Quantised l0Num l0Den l1Num l1Den l2Num l2Den l3Num l3Den l4Num l4Den)).2.2.2.1 == (val (R06_Quantised l0Num l0Den l1Num l1Den l2Num l2Den l3Num l3Den l4Num l4Den)).2.2.2.1 && (val (F_Quantised l0Num l0Den l1Num l1Den l2Num l2Den l3Num l3Den l4Num l4Den)).2.2.2.2.1 == (val (R06_Quantised l0Num l0Den l1Num l1Den l2Num l2Den l3Num l3Den l4Num l4Den)).2.2.2.2.1)))
   ((Ob (True) ∧
   (Ob (false = r) ∧
   True)))
   ((Ob ((0 : Int) ≤ (0 : Int) ∧ (0 : Int) < (↑(3 : Nat) : Int)) ∧
   (Ob ((0 : Int) ≤ (1 : Int) ∧ (1 : Int) < (↑(3 : Nat) : Int)) ∧
   (Ob ((0 : Int) ≤ (2 : Int) ∧ (2 : Int) < (↑(3 : Nat) : Int)) ∧
   (Ob ((0 : Int) ≤ (0 : Int) ∧ (0 : Int) < (↑(2 : Nat) : Int)) ∧
   (Ob ((0 : Int) ≤ (1 : Int) ∧ (1 : Int) < (↑(2 : Nat) : Int)) ∧
   Br ((val (R06_Quantised l0Num l0Den l1Num l1Den l2Num l2Den l3Num l3Den l4Num l4Den)).2.2.2.2.2 == (0 : Int))
   ((Ob ((0 : Int) ≤ (0 : Int) ∧ (0 : Int) < (↑(5 : Nat) : Int)) ∧
   (Ob ((0 : Int) ≤ (0 : Int) ∧ (0 : Int) < (↑(5 : Nat) : Int)) ∧
   (Ob ((0 : Int) ≤ (0 : Int) ∧ (0 : Int) < (↑(5 : Nat) : Int)) ∧
   (Ob ((-9223372036854775807 : Int) ≤ IntKind.wrap IntKind.i64 (IntKind.wrap IntKind.i64 (l0Num * (16384 : Int)) - IntKind.wrap IntKind.i64 ((val (F_Quantised l0Num l0Den l1Num l1Den l2Num l2Den l3Num l3Den l4Num l4Den)).1 * l0Den)) ∧ IntKind.wrap IntKind.i64 (IntKind.wrap IntKind.i64 (l0Num * (16384 : Int)) - IntKind.wrap IntKind.i64 ((val (F_Quantised l0Num l0Den l1Num l1Den l2Num l2Den l3Num l3Den l4Num l4Den)).1 * l0Den)) ≤ (9223372036854775807 : Int)) ∧
   (Ob ((0 : Int) ≤ (0 : Int) ∧ (0 : Int) < (↑(5 : Nat) : Int)) ∧
   Br (decide (IntKind.wrap IntKind.i64 ((2 : Int) * max (IntKind.wrap IntKind.i64 (IntKind.wrap IntKind.i64 (l0Num * (16384 : Int)) - IntKind.wrap IntKind.i64 ((val (F_Quantised l0Num l0Den l1Num l1Den l2Num l2Den l3Num l3Den l4Num l4Den)).1 * l0Den))) (-IntKind.wrap IntKind.i64 (IntKind.wrap IntKind.i64 (l0Num * (16384 : Int)) - IntKind.wrap IntKind.i64 ((val (F_Quantised l0Num l0Den l1Num l1Den l2Num l2Den l3Num l3Den l4Num l4Den)).1 * l0Den)))) > l0Den))
   ((Ob (True) ∧
   (Ob (false = r) ∧
   True)))
   (Br ((val (R06_Quantised l0Num l0Den l1Num l1Den l2Num l2Den l3Num l3Den l4Num l4Den)).2.2.2.2.2 == (0 : Int))
   ((Ob ((0 : Int) ≤ IntKind.wrap IntKind.i64 ((0 : Int) + (1 : Int)) ∧ IntKind.wrap IntKind.i64 ((0 : Int) + (1 : Int)) < (↑(5 : Nat) : Int)) ∧
   (Ob ((0 : Int) ≤ IntKind.wrap IntKind.i64 ((0 : Int) + (1 : Int)) ∧ IntKind.wrap IntKind.i64 ((0 : Int) + (1 : Int)) < (↑(5 : Nat) : Int)) ∧
   (Ob ((0 : Int) ≤ IntKind.wrap IntKind.i64 ((0 : Int) + (1 : Int)) ∧ IntKind.wrap IntKind.i64 ((0 : Int) + (1 : Int)) < (↑(5 : Nat) : Int)) ∧
   (Ob ((-9223372036854775807 : Int) ≤ IntKind.wrap IntKind.i64 (IntKind.wrap IntKind.i64 (l1Num * (16384 : Int)) - IntKind.wrap IntKind.i64 ((val (F_Quantised l0Num l0Den l1Num l1Den l2Num l2Den l3Num l3Den l4Num l4Den)).2.1 * l1Den)) ∧ IntKind.wrap IntKind.i64 (IntKind.wrap IntKind.i64 (l1Num * (16384 : Int)) - IntKind.wrap IntKind.i64 ((val (F_Quantised l0Num l0Den l1Num l1Den l2Num l2Den l3Num l3Den l4Num l4Den)).2.1 * l1Den)) ≤ (9223372036854775807 : Int)) ∧
   (Ob ((0 : Int) ≤ IntKind.wrap IntKind.i64 ((0 : Int) + (1 : Int)) ∧ IntKind.wrap IntKind.i64 ((0 : Int) + (1 : Int)) < (↑(5 : Nat) : Int)) ∧
   Br (decide (IntKind.wrap IntKind.i64 ((2 : Int) * max (IntKind.wrap IntKind.i64 (IntKind.wrap IntKind.i64 (l1Num * (16384 : Int)) - IntKind.wrap IntKind.i64 ((val (F_Quantised l0Num l0Den l1Num l1Den l2Num l2Den l3Num l3Den l4Num l4Den)).2.1 * l1Den))) (-IntKind.wrap IntKind.i64 (IntKind.wrap IntKind.i64 (l1Num * (16384 : Int)) - IntKind.wrap IntKind.i64 ((val (F_Quantised l0Num l0Den l1Num l1Den l2Num l2Den l3Num l3Den l4Num l4Den)).2.1 * l1Den)))) > l1Den))
   ((Ob (True) ∧
   (Ob (false = r) ∧
   True)))
   (Br ((val (R06_Quantised l0Num l0Den l1Num l1Den l2Num l2Den l3Num l3Den l4Num l4Den)).2.2.2.2.2 == (0 : Int))
   ((Ob ((0 : Int) ≤ IntKind.wrap IntKind.i64 (IntKind.wrap IntKind.i64 ((0 : Int) + (1 : Int)) + (1 : Int)) ∧ IntKind.wrap IntKind.i64 (IntKind.wrap IntKind.i64 ((0 : Int) + (1 : Int)) + (1 : Int)) < (↑(5 : Nat) : Int)) ∧
   (Ob ((0 : Int) ≤ IntKind.wrap IntKind.i64 (IntKind.wrap IntKind.i64 ((0 : Int) + (1 : Int)) + (1 : Int)) ∧ IntKind.wrap IntKind.i64 (IntKind.wrap IntKind.i64 ((0 : Int) + (1 : Int)) + (1 : Int)) < (↑(5 : Nat) : Int)) ∧
   (Ob ((0 : Int) ≤ IntKind.wrap IntKind.i64 (IntKind.wrap IntKind.i64 ((0 : Int) + (1 : Int)) + (1 : Int)) ∧ IntKind.wrap IntKind.i64 (IntKind.wrap IntKind.i64 ((0 : Int) + (1 : Int)) + (1 : Int)) < (↑(5 : Nat) : Int)) ∧
   (Ob ((-9223372036854775807 : Int) ≤ IntKind.wrap IntKind.i64 (IntKind.wrap IntKind.i64 (l2Num * (16384 : Int)) - IntKind.wrap IntKind.i64 ((val (F_Quantised l0Num l0Den l1Num l1Den l2Num l2Den l3Num l3Den l4Num l4Den)).2.2.1 * l2Den)) ∧ IntKind.wrap IntKind.i64 (IntKind.wrap IntKind.i64 (l2Num * (16384 : Int)) - IntKind.wrap IntKind.i64 ((val (F_Quantised l0Num l0Den l1Num l1Den l2Num l2Den l3Num l3Den l4Num l4Den)).2.2.1 * l2Den)) ≤ (9223372036854775807 : Int)) ∧
   (Ob ((0 : Int) ≤ IntKind.wrap IntKind.i64 (IntKind.wrap IntKind.i64 ((0 : Int) + (1 : Int)) + (1 : Int)) ∧ IntKind.wrap IntKind.i64 (IntKind.wrap IntKind.i64 ((0 : Int) + (1 : Int)) + (1 : Int)) < (↑(5 : Nat) : Int)) ∧
   Br (decide (IntKind.wrap IntKind.i64 ((2 : Int) * max (IntKind.wrap IntKind.i64 (IntKind.wrap IntKind.i64 (l2Num * (16384 : Int)) - IntKind.wrap IntKind.i64 ((val (F_Quantised l0Num l0Den l1Num l1Den l2Num l2Den l3Num l3Den l4Num l4Den)).2.2.1 * l2Den))) (-IntKind.wrap IntKind.i64 (IntKind.wrap IntKind.i64 (l2Num * (16384 : Int)) - IntKind.wrap IntKind.i64 ((val (F_Quantised l0Num l0Den l1Num l1Den l2Num l2Den l3Num l3Den l4Num l4Den)).2.2.1 * l2Den)))) > l2Den))
   ((Ob (True) ∧
   (Ob (false = r) ∧
   True)))
   (Br ((val (R06_Quantised l0Num l0Den l1Num l1Den l2Num l2Den l3Num l3Den l4Num l4Den)).2.2.2.2.2 == (0 : Int))
   ((Ob ((0 : Int) ≤ IntKind.wrap IntKind.i64 (IntKind.wrap IntKind.i64 (IntKind.wrap IntKind.i64 ((0 : Int) + (1 : Int)) + (1 : Int)) + (1 : Int)) ∧ IntKind.wrap IntKind.i64 (IntKind.wrap IntKind.i64 (IntKind.wrap IntKind.i64 ((0 : Int) + (1 : Int)) + (1 : Int)) + (1 : Int)) < (↑(5 : Nat) : Int)) ∧
   (Ob ((0 : Int) ≤ IntKind.wrap IntKind.i64 (IntKind.wrap IntKind.i64 (IntKind.wrap IntKind.i64 ((0 : Int) + (1 : Int)) + (1 : Int)) + (1 : Int)) ∧ IntKind.wrap IntKind.i64 (IntKind.wrap IntKind.i64 (IntKind.wrap IntKind.i64 ((0 : Int) + (1 : Int)) + (1 : Int)) + (1 : Int)) < (↑(5 : Nat) : Int)) ∧
   (Ob ((0 : Int) ≤ IntKind.wrap IntKind.i64 (IntKind.wrap IntKind.i64 (IntKind.wrap IntKind.i64 ((0 : Int) + (1 : Int)) + (1 : Int)) + (1 : Int)) ∧ IntKind.wrap IntKind.i64 (IntKind.wrap IntKind.i64 (IntKind.wrap IntKind.i64 ((0 : Int) + (1 : Int)) + (1 : Int)) + (1 : Int)) < (↑(5 : Nat) : Int)) ∧
   (Ob ((-9223372036854775807 : Int) ≤ IntKind.wrap IntKind.i64 (IntKind.wrap IntKind.i64 (l3Num * (16384 : Int)) - IntKind.wrap IntKind.i64 ((val (F_Quantised l0Num l0Den l1Num l1Den l2Num l2Den l3Num l3Den l4Num l4Den)).2.2.2.1 * l3Den)) ∧ IntKind.wrap IntKind.i64 (IntKind.wrap IntKind.i64 (l3Num * (16384 : Int)) - IntKind.wrap IntKind.i64 ((val (F_Quantised l0Num l0Den l1Num l1Den l2Num l2Den l3Num l3Den l4Num l4Den)).2.2.2.1 * l3Den)) ≤ (9223372036854775807 : Int)) ∧
   (Ob ((0 : Int) ≤ IntKind.wrap IntKind.i64 (IntKind.wrap IntKind.i64 (IntKind.wrap IntKind.i64 ((0 : Int) + (1 : Int)) + (1 : Int)) + (1 : Int)) ∧ IntKind.wrap IntKind.i64 (IntKind.wrap IntKind.i64 (IntKind.wrap IntKind.i64 ((0 : Int) + (1 : Int)) + (1 : Int)) + (1 : Int)) < (↑(5 : Nat) : Int)) ∧
   Br (decide (IntKind.wrap IntKind.i64 ((2 : Int) * max (IntKind.wrap IntKind.i64 (IntKind.wrap IntKind.i64 (l3Num * (16384 : Int)) - IntKind.wrap IntKind.i64 ((val (F_Quantised l0Num l0Den l1Num l1Den l2Num l2Den l3Num l3Den l4Num l4Den)).2.2.2.1 * l3Den))) (-IntKind.wrap IntKind.i64 (IntKind.wrap IntKind.i64 (l3Num * (16384 : Int)) - IntKind.wrap IntKind.i64 ((val (F_Quantised l0Num l0Den l1Num l1Den l2Num l2Den l3Num l3Den l4Num l4Den)).2.2.2.1 * l3Den)))) > l3Den))
   ((Ob (True) ∧
   (Ob (false = r) ∧
   True)))
   (Br ((val (R06_Quantised l0Num l0Den l1Num l1Den l2Num l2Den l3Num l3Den l4Num l4Den)).2.2.2.2.2 == (0 : Int))
   ((Ob ((0 : Int) ≤ IntKind.wrap IntKind.i64 (IntKind.wrap IntKind.i64 (IntKind.wrap IntKind.i64 (IntKind.wrap IntKind.i64 ((0 : Int) + (1 : Int)) + (1 : Int)) + (1 : Int)) + (1 : Int)) ∧ IntKind.wrap IntKind.i64 (IntKind.wrap IntKind.i64 (IntKind.wrap IntKind.i64 (IntKind.wrap IntKind.i64 ((0 : Int) + (1 : Int)) + (1 : Int)) + (1 : Int)) + (1 : Int)) < (↑(5 : Nat) : Int)) ∧
   (Ob ((0 : Int) ≤ IntKind.wrap IntKind.i64 (IntKind.wrap IntKind.i64 (IntKind.wrap IntKind.i64 (IntKind.wrap IntKind.i64 ((0 : Int) + (1 : Int)) + (1 : Int)) + (1 : Int)) + (1 : Int)) ∧ IntKind.wrap IntKind.i64 (IntKind.wrap IntKind.i64 (IntKind.wrap IntKind.i64 (IntKind.wrap IntKind.i64 ((0 : Int) + (1 : Int)) + (1 : Int)) + (1 : Int)) + (1 : Int)) < (↑(5 : Nat) : Int)) ∧
   (Ob ((0 : Int) ≤ IntKind.wrap IntKind.i64 (IntKind.wrap IntKind.i64 (IntKind.wrap IntKind.i64 (IntKind.wrap IntKind.i64 ((0 : Int) + (1 : Int)) + (1 : Int)) + (1 : Int)) + (1 : Int)) ∧ IntKind.wrap IntKind.i64 (IntKind.wrap IntKind.i64 (IntKind.wrap IntKind.i64 (IntKind.wrap IntKind.i64 ((0 : Int) + (1 : Int)) + (1 : Int)) + (1 : Int)) + (1 : Int)) < (↑(5 : Nat) : Int)) ∧
   (Ob ((-9223372036854775807 : Int) ≤ IntKind.wrap IntKind.i64 (IntKind.wrap IntKind.i64 (l4Num * (16384 : Int)) - IntKind.wrap IntKind.i64 ((val (F_Quantised l0Num l0Den l1Num l1Den l2Num l2Den l3Num l3Den l4Num l4Den)).2.2.2.2.1 * l4Den)) ∧ IntKind.wrap IntKind.i64 (IntKind.wrap IntKind.i64 (l4Num * (16384 : Int)) - IntKind.wrap IntKind.i64 ((val (F_Quantised l0Num l0Den l1Num l1Den l2Num l2Den l3Num l3Den l4Num l4Den)).2.2.2.2.1 * l4Den)) ≤ (9223372036854775807 : Int)) ∧
   (Ob ((0 : Int) ≤ IntKind.wrap IntKind.i64 (IntKind.wrap IntKind.i64 (IntKind.wrap IntKind.i64 (IntKind.wrap IntKind.i64 ((0 : Int) + (1 : Int)) + (1 : Int)) + (1 : Int)) + (1 : Int)) ∧ IntKind.wrap IntKind.i64 (IntKind.wrap IntKind.i64 (IntKind.wrap IntKind.i64 (IntKind.wrap IntKind.i64 ((0 : Int) + (1 : Int)) + (1 : Int)) + (1 : Int)) + (1 : Int)) < (↑(5 : Nat) : Int)) ∧
   Br (decide (IntKind.wrap IntKind.i64 ((2 : Int) * max (IntKind.wrap IntKind.i64 (IntKind.wrap IntKind.i64 (l4Num * (16384 : Int)) - IntKind.wrap IntKind.i64 ((val (F_Quantised l0Num l0Den l1Num l1Den l2Num l2Den l3Num l3Den l4Num l4Den)).2.2.2.2.1 * l4Den))) (-IntKind.wrap IntKind.i64 (IntKind.wrap IntKind.i64 (l4Num * (16384 : Int)) - IntKind.wrap IntKind.i64 ((val (F_Quantised l0Num l0Den l1Num l1Den l2Num l2Den l3Num l3Den l4Num l4Den)).2.2.2.2.1 * l4Den)))) > l4Den))
   ((Ob (True) ∧
   (Ob (false = r) ∧
   True)))
   ((Ob (True) ∧
   (Ob (true = r) ∧
   True)))))))))
   ((Ob (True) ∧
   (Ob (true = r) ∧
   True))))))))))
   ((Ob (True) ∧
   (Ob (true = r) ∧
   True))))))))))
   ((Ob (True) ∧
   (Ob (true = r) ∧
   True))))))))))
   ((Ob (True) ∧
   (Ob (true = r) ∧
   True))))))))))
   ((Ob (True) ∧
   (Ob (true = r) ∧
   True)))))))))))))) = _) ?_
  refine ob_c (p := ok L06_awake) (by decide) ?_
  refine call_s h fun h => ?_
  refine call_s h fun h => ?_
  refine br_b h (fun h => ?_) (fun h => ?_)
  · refine ob_t ?_
    exact ret_s h (fun e => by subst e; exact (by repeat' (first | exact trivial | exact ⟨rfl⟩ | refine And.intro ?_ ?_)))
  · refine br_b h (fun h => ?_) (fun h => ?_)
    · refine ob_t ?_
      exact ret_s h (fun e => by subst e; exact (by repeat' (first | exact trivial | exact ⟨rfl⟩ | refine And.intro ?_ ?_)))
    · refine ob_c (p := (0 : Int) ≤ (0 : Int) ∧ (0 : Int) < (↑(3 : Nat) : Int)) (by decide) ?_
      refine ob_c (p := (0 : Int) ≤ (1 : Int) ∧ (1 : Int) < (↑(3 : Nat) : Int)) (by decide) ?_
      refine ob_c (p := (0 : Int) ≤ (2 : Int) ∧ (2 : Int) < (↑(3 : Nat) : Int)) (by decide) ?_
      refine ob_c (p := (0 : Int) ≤ (0 : Int) ∧ (0 : Int) < (↑(2 : Nat) : Int)) (by decide) ?_
      refine ob_c (p := (0 : Int) ≤ (1 : Int) ∧ (1 : Int) < (↑(2 : Nat) : Int)) (by decide) ?_
      refine br_b h (fun h => ?_) (fun h => ?_)
      · refine ob_c (p := (0 : Int) ≤ (0 : Int) ∧ (0 : Int) < (↑(5 : Nat) : Int)) (by decide) ?_
        refine ob_c (p := (0 : Int) ≤ (0 : Int) ∧ (0 : Int) < (↑(5 : Nat) : Int)) (by decide) ?_
        refine ob_c (p := (0 : Int) ≤ (0 : Int) ∧ (0 : Int) < (↑(5 : Nat) : Int)) (by decide) ?_
        refine ob_s h fun h => ?_
        refine ob_c (p := (0 : Int) ≤ (0 : Int) ∧ (0 : Int) < (↑(5 : Nat) : Int)) (by decide) ?_
        refine br_d h (fun h => ?_) (fun h => ?_)
        · refine ob_t ?_
          exact ret_s h (fun e => by subst e; exact (by repeat' (first | exact trivial | exact ⟨rfl⟩ | refine And.intro ?_ ?_)))
        · refine br_b h (fun h => ?_) (fun h => ?_)
          · refine ob_c (p := (0 : Int) ≤ IntKind.wrap IntKind.i64 ((0 : Int) + (1 : Int)) ∧ IntKind.wrap IntKind.i64 ((0 : Int) + (1 : Int)) < (↑(5 : Nat) : Int)) (by decide) ?_
            refine ob_c (p := (0 : Int) ≤ IntKind.wrap IntKind.i64 ((0 : Int) + (1 : Int)) ∧ IntKind.wrap IntKind.i64 ((0 : Int) + (1 : Int)) < (↑(5 : Nat) : Int)) (by decide) ?_
            refine ob_c (p := (0 : Int) ≤ IntKind.wrap IntKind.i64 ((0 : Int) + (1 : Int)) ∧ IntKind.wrap IntKind.i64 ((0 : Int) + (1 : Int)) < (↑(5 : Nat) : Int)) (by decide) ?_
            refine ob_s h fun h => ?_
            refine ob_c (p := (0 : Int) ≤ IntKind.wrap IntKind.i64 ((0 : Int) + (1 : Int)) ∧ IntKind.wrap IntKind.i64 ((0 : Int) + (1 : Int)) < (↑(5 : Nat) : Int)) (by decide) ?_
            refine br_d h (fun h => ?_) (fun h => ?_)
            · refine ob_t ?_
              exact ret_s h (fun e => by subst e; exact (by repeat' (first | exact trivial | exact ⟨rfl⟩ | refine And.intro ?_ ?_)))
            · refine br_b h (fun h => ?_) (fun h => ?_)
              · refine ob_c (p := (0 : Int) ≤ IntKind.wrap IntKind.i64 (IntKind.wrap IntKind.i64 ((0 : Int) + (1 : Int)) + (1 : Int)) ∧ IntKind.wrap IntKind.i64 (IntKind.wrap IntKind.i64 ((0 : Int) + (1 : Int)) + (1 : Int)) < (↑(5 : Nat) : Int)) (by decide) ?_
                refine ob_c (p := (0 : Int) ≤ IntKind.wrap IntKind.i64 (IntKind.wrap IntKind.i64 ((0 : Int) + (1 : Int)) + (1 : Int)) ∧ IntKind.wrap IntKind.i64 (IntKind.wrap IntKind.i64 ((0 : Int) + (1 : Int)) + (1 : Int)) < (↑(5 : Nat) : Int)) (by decide) ?_
                refine ob_c (p := (0 : Int) ≤ IntKind.wrap IntKind.i64 (IntKind.wrap IntKind.i64 ((0 : Int) + (1 : Int)) + (1 : Int)) ∧ IntKind.wrap IntKind.i64 (IntKind.wrap IntKind.i64 ((0 : Int) + (1 : Int)) + (1 : Int)) < (↑(5 : Nat) : Int)) (by decide) ?_
                refine ob_s h fun h => ?_
                refine ob_c (p := (0 : Int) ≤ IntKind.wrap IntKind.i64 (IntKind.wrap IntKind.i64 ((0 : Int) + (1 : Int)) + (1 : Int)) ∧ IntKind.wrap IntKind.i64 (IntKind.wrap IntKind.i64 ((0 : Int) + (1 : Int)) + (1 : Int)) < (↑(5 : Nat) : Int)) (by decide) ?_
                refine br_d h (fun h => ?_) (fun h => ?_)
                · refine ob_t ?_
                  exact ret_s h (fun e => by subst e; exact (by repeat' (first | exact trivial | exact ⟨rfl⟩ | refine And.intro ?_ ?_)))
                · refine br_b h (fun h => ?_) (fun h => ?_)
                  · refine ob_c (p := (0 : Int) ≤ IntKind.wrap IntKind.i64 (IntKind.wrap IntKind.i64 (IntKind.wrap IntKind.i64 ((0 : Int) + (1 : Int)) + (1 : Int)) + (1 : Int)) ∧ IntKind.wrap IntKind.i64 (IntKind.wrap IntKind.i64 (IntKind.wrap IntKind.i64 ((0 : Int) + (1 : Int)) + (1 : Int)) + (1 : Int)) < (↑(5 : Nat) : Int)) (by decide) ?_
                    refine ob_c (p := (0 : Int) ≤ IntKind.wrap IntKind.i64 (IntKind.wrap IntKind.i64 (IntKind.wrap IntKind.i64 ((0 : Int) + (1 : Int)) + (1 : Int)) + (1 : Int)) ∧ IntKind.wrap IntKind.i64 (IntKind.wrap IntKind.i64 (IntKind.wrap IntKind.i64 ((0 : Int) + (1 : Int)) + (1 : Int)) + (1 : Int)) < (↑(5 : Nat) : Int)) (by decide) ?_
                    refine ob_c (p := (0 : Int) ≤ IntKind.wrap IntKind.i64 (IntKind.wrap IntKind.i64 (IntKind.wrap IntKind.i64 ((0 : Int) + (1 : Int)) + (1 : Int)) + (1 : Int)) ∧ IntKind.wrap IntKind.i64 (IntKind.wrap IntKind.i64 (IntKind.wrap IntKind.i64 ((0 : Int) + (1 : Int)) + (1 : Int)) + (1 : Int)) < (↑(5 : Nat) : Int)) (by decide) ?_
                    refine ob_s h fun h => ?_
                    refine ob_c (p := (0 : Int) ≤ IntKind.wrap IntKind.i64 (IntKind.wrap IntKind.i64 (IntKind.wrap IntKind.i64 ((0 : Int) + (1 : Int)) + (1 : Int)) + (1 : Int)) ∧ IntKind.wrap IntKind.i64 (IntKind.wrap IntKind.i64 (IntKind.wrap IntKind.i64 ((0 : Int) + (1 : Int)) + (1 : Int)) + (1 : Int)) < (↑(5 : Nat) : Int)) (by decide) ?_
                    refine br_d h (fun h => ?_) (fun h => ?_)
                    · refine ob_t ?_
                      exact ret_s h (fun e => by subst e; exact (by repeat' (first | exact trivial | exact ⟨rfl⟩ | refine And.intro ?_ ?_)))
                    · refine br_b h (fun h => ?_) (fun h => ?_)
                      · refine ob_c (p := (0 : Int) ≤ IntKind.wrap IntKind.i64 (IntKind.wrap IntKind.i64 (IntKind.wrap IntKind.i64 (IntKind.wrap IntKind.i64 ((0 : Int) + (1 : Int)) + (1 : Int)) + (1 : Int)) + (1 : Int)) ∧ IntKind.wrap IntKind.i64 (IntKind.wrap IntKind.i64 (IntKind.wrap IntKind.i64 (IntKind.wrap IntKind.i64 ((0 : Int) + (1 : Int)) + (1 : Int)) + (1 : Int)) + (1 : Int)) < (↑(5 : Nat) : Int)) (by decide) ?_
                        refine ob_c (p := (0 : Int) ≤ IntKind.wrap IntKind.i64 (IntKind.wrap IntKind.i64 (IntKind.wrap IntKind.i64 (IntKind.wrap IntKind.i64 ((0 : Int) + (1 : Int)) + (1 : Int)) + (1 : Int)) + (1 : Int)) ∧ IntKind.wrap IntKind.i64 (IntKind.wrap IntKind.i64 (IntKind.wrap IntKind.i64 (IntKind.wrap IntKind.i64 ((0 : Int) + (1 : Int)) + (1 : Int)) + (1 : Int)) + (1 : Int)) < (↑(5 : Nat) : Int)) (by decide) ?_
                        refine ob_c (p := (0 : Int) ≤ IntKind.wrap IntKind.i64 (IntKind.wrap IntKind.i64 (IntKind.wrap IntKind.i64 (IntKind.wrap IntKind.i64 ((0 : Int) + (1 : Int)) + (1 : Int)) + (1 : Int)) + (1 : Int)) ∧ IntKind.wrap IntKind.i64 (IntKind.wrap IntKind.i64 (IntKind.wrap IntKind.i64 (IntKind.wrap IntKind.i64 ((0 : Int) + (1 : Int)) + (1 : Int)) + (1 : Int)) + (1 : Int)) < (↑(5 : Nat) : Int)) (by decide) ?_
                        refine ob_s h fun h => ?_
                        refine ob_c (p := (0 : Int) ≤ IntKind.wrap IntKind.i64 (IntKind.wrap IntKind.i64 (IntKind.wrap IntKind.i64 (IntKind.wrap IntKind.i64 ((0 : Int) + (1 : Int)) + (1 : Int)) + (1 : Int)) + (1 : Int)) ∧ IntKind.wrap IntKind.i64 (IntKind.wrap IntKind.i64 (IntKind.wrap IntKind.i64 (IntKind.wrap IntKind.i64 ((0 : Int) + (1 : Int)) + (1 : Int)) + (1 : Int)) + (1 : Int)) < (↑(5 : Nat) : Int)) (by decide) ?_
                        refine br_d h (fun h => ?_) (fun h => ?_)
                        · refine ob_t ?_
                          exact ret_s h (fun e => by subst e; exact (by repeat' (first | exact trivial | exact ⟨rfl⟩ | refine And.intro ?_ ?_)))
                        · refine ob_t ?_
                          exact ret_s h (fun e => by subst e; exact (by repeat' (first | exact trivial | exact ⟨rfl⟩ | refine And.intro ?_ ?_)))
                      · refine ob_t ?_
                        exact ret_s h (fun e => by subst e; exact (by repeat' (first | exact trivial | exact ⟨rfl⟩ | refine And.intro ?_ ?_)))
                  · refine ob_t ?_
                    exact ret_s h (fun e => by subst e; exact (by repeat' (first | exact trivial | exact ⟨rfl⟩ | refine And.intro ?_ ?_)))
              · refine ob_t ?_
                exact ret_s h (fun e => by subst e; exact (by repeat' (first | exact trivial | exact ⟨rfl⟩ | refine And.intro ?_ ?_)))
          · refine ob_t ?_
            exact ret_s h (fun e => by subst e; exact (by repeat' (first | exact trivial | exact ⟨rfl⟩ | refine And.intro ?_ ?_)))
      · refine ob_t ?_
        exact ret_s h (fun e => by subst e; exact (by repeat' (first | exact trivial | exact ⟨rfl⟩ | refine And.intro ?_ ?_)))
set_option maxRecDepth 100000 in
theorem L06_FilterQuantised_ok : SpecOK Try.prog 7 true (pureK k_L06_FilterQuantised g_L06_FilterQuantised) := by
  refine pureK_ok (sp := (sp_18 (sp_39 (sp_40 (sp_23 sp0))))) (fn := Try.f7) (body := bodyOf Try.f7) mixed (sp_18_ok (sp_39_ok (sp_40_ok (sp_23_ok sp0_ok)))) Try.func7 (by kernel_rfl) (by kernel_rfl) fun as_ ob rs h ho => ?_
  unfold g_L06_FilterQuantised at h
  split at h
  · rename_i l0Num l0Den l1Num l1Den l2Num l2Den l3Num l3Den l4Num l4Den
    cases h
    exact ⟨Nat.le_of_ble_eq_true rfl, _, _, L06_FilterQuantised_vc l0Num l0Den l1Num l1Den l2Num l2Den l3Num l3Den l4Num l4Den _ (ok_some ho)⟩
  · cases h
theorem sp_7_ok {sp : Specs} (h : SpecsOK Try.prog sp) : SpecsOK Try.prog (sp_7 sp) := addK_ok L06_FilterQuantised_ok h

/-- shoebox/filter.lowest -/
def F_lowest (num : Int) (den : Int) : Option (Int × Int) :=
  Option.bind (F_divisor num den) fun r0 =>
  if den < (0 : Int) then
   if IntKind.wrap IntKind.i64 ((0 : Int) - r0) ≠ (0 : Int) then
    if IntKind.wrap IntKind.i64 ((0 : Int) - r0) ≠ (0 : Int) then
     some ((IntKind.wrap IntKind.i64 (Int.tdiv num (IntKind.wrap IntKind.i64 ((0 : Int) - r0))), IntKind.wrap IntKind.i64 (Int.tdiv den (IntKind.wrap IntKind.i64 ((0 : Int) - r0)))))
    else none
   else none
  else
   if r0 ≠ (0 : Int) then
    if r0 ≠ (0 : Int) then
     some ((IntKind.wrap IntKind.i64 (Int.tdiv num r0), IntKind.wrap IntKind.i64 (Int.tdiv den r0)))
    else none
   else none
def g_F_lowest : List A → Option (Prop × List RV)
  | [.d (.i .i64 num), .d (.i .i64 den)] => some (ok (F_lowest num den), [.s [.i .i64 ((val (F_lowest num den)).1), .i .i64 ((val (F_lowest num den)).2)]])
  | _ => none
def k_F_lowest : List (Option Cont) := [none, none]
abbrev sp_103 : Specs → Specs := addK 103 true (pureK k_F_lowest g_F_lowest)
set_option maxRecDepth 100000 in
theorem F_lowest_vc (num : Int) (den : Int) (r : Int × Int) (h : Option.bind (F_lowest num den) some = some r) : runF Try.f103 ((sp_126 sp0)) (fun _ _ _ => none) [.d (.i .i64 num), .d (.i .i64 den)] [.s [.i .i64 r.1, .i .i64 r.2]] := by
  refine Eq.mp (by kernel_rfl : (
  (Ob (ok (F_divisor num den)) ∧
   Br (decide (den < (0 : Int)))
   ((Ob (IntKind.wrap IntKind.i64 ((0 : Int) - val (F_divisor num den)) ≠ (0 : Int)) ∧
   (Ob (IntKind.wrap IntKind.i64 ((0 : Int) - val (F_divisor num den)) ≠ (0 : Int)) ∧
   (Ob (True) ∧
   (Ob (IntKind.wrap IntKind.i64 (Int.tdiv num (IntKind.wrap IntKind.i64 ((0 : Int) - val (F_divisor num den)))) = r.1) ∧
   (Ob (IntKind.wrap IntKind.i64 (Int.tdiv den (IntKind.wrap IntKind.i64 ((0 : Int) - val (F_divisor num den)))) = r.2) ∧
   True))))))
   ((Ob (val (F_divisor num den) ≠ (0 : Int)) ∧
   (Ob (val (F_divisor num den) ≠ (0 : Int)) ∧
   (Ob (True) ∧
   (Ob (IntKind.wrap IntKind.i64 (Int.tdiv num (val (F_divisor num den))) = r.1) ∧
   (Ob (IntKind.wrap IntKind.i64 (Int.tdiv den (val (F_divisor num den))) = r.2) ∧
   True)))))))) = _) ?_
  refine call_s h fun h => ?_
  refine br_d h (fun h => ?_) (fun h => ?_)
  · refine ob_s h fun h => ?_
    refine ob_s h fun h => ?_
    refine ob_t ?_
    exact ret_s h (fun e => by subst e; exact (by repeat' (first | exact trivial | exact ⟨rfl⟩ | refine And.intro ?_ ?_)))
  · refine ob_s h fun h => ?_
    refine ob_s h fun h => ?_
    refine ob_t ?_
    exact ret_s h (fun e => by subst e; exact (by repeat' (first | exact trivial | exact ⟨rfl⟩ | refine And.intro ?_ ?_)))
set_option maxRecDepth 100000 in
theorem F_lowest_ok : SpecOK Try.prog 103 true (pureK k_F_lowest g_F_lowest) := by
  refine pureK_ok (sp := (sp_126 sp0)) (fn := Try.f103) (body := bodyOf Try.f103) mixed (sp_126_ok sp0_ok) Try.func103 (by kernel_rfl) (by kernel_rfl) fun as_ ob rs h ho => ?_
  unfold g_F_lowest at h
  split at h
  · rename_i num den
    cases h
    exact ⟨Nat.le_of_ble_eq_true rfl, _, _, F_lowest_vc num den _ (ok_some ho)⟩
  · cases h
theorem sp_103_ok {sp : Specs} (h : SpecsOK Try.prog sp) : SpecsOK Try.prog (sp_103 sp) := addK_ok F_lowest_ok h

/-- shoebox/shoeboxbase.Lowest -/
def B_Lowest (num : Int) (den : Int) : Option (Int × Int) :=
  Option.bind (B_Gcd num den) fun r0 =>
  if den < (0 : Int) then
   if IntKind.wrap IntKind.i64 ((0 : Int) - r0) ≠ (0 : Int) then
    if IntKind.wrap IntKind.i64 ((0 : Int) - r0) ≠ (0 : Int) then
     some ((IntKind.wrap IntKind.i64 (Int.tdiv num (IntKind.wrap IntKind.i64 ((0 : Int) - r0))), IntKind.wrap IntKind.i64 (Int.tdiv den (IntKind.wrap IntKind.i64 ((0 : Int) - r0)))))
    else none
   else none
  else
   if r0 ≠ (0 : Int) then
    if r0 ≠ (0 : Int) then
     some ((IntKind.wrap IntKind.i64 (Int.tdiv num r0), IntKind.wrap IntKind.i64 (Int.tdiv den r0)))
    else none
   else none
def g_B_Lowest : List A → Option (Prop × List RV)
  | [.d (.i .i64 num), .d (.i .i64 den)] => some (ok (B_Lowest num den), [.s [.i .i64 ((val (B_Lowest num den)).1), .i .i64 ((val (B_Lowest num den)).2)]])
  | _ => none
def k_B_Lowest : List (Option Cont) := [none, none]
abbrev sp_120 : Specs → Specs := addK 120 true (pureK k_B_Lowest g_B_Lowest)
set_option maxRecDepth 100000 in
theorem B_Lowest_vc (num : Int) (den : Int) (r : Int × Int) (h : Option.bind (B_Lowest num den) some = some r) : runF Try.f120 ((sp_133 sp0)) (fun _ _ _ => none) [.d (.i .i64 num), .d (.i .i64 den)] [.s [.i .i64 r.1, .i .i64 r.2]] := by
  refine Eq.mp (by kernel_rfl : (
  (Ob (ok (B_Gcd num den)) ∧
   Br (decide (den < (0 : Int)))
   ((Ob (IntKind.wrap IntKind.i64 ((0 : Int) - val (B_Gcd num den)) ≠ (0 : Int)) ∧
   (Ob (IntKind.wrap IntKind.i64 ((0 : Int) - val (B_Gcd num den)) ≠ (0 : Int)) ∧
   (Ob (True) ∧
   (Ob (IntKind.wrap IntKind.i64 (Int.tdiv num (IntKind.wrap IntKind.i64 ((0 : Int) - val (B_Gcd num den)))) = r.1) ∧
   (Ob (IntKind.wrap IntKind.i64 (Int.tdiv den (IntKind.wrap IntKind.i64 ((0 : Int) - val (B_Gcd num den)))) = r.2) ∧
   True))))))
   ((Ob (val (B_Gcd num den) ≠ (0 : Int)) ∧
   (Ob (val (B_Gcd num den) ≠ (0 : Int)) ∧
   (Ob (True) ∧
   (Ob (IntKind.wrap IntKind.i64 (Int.tdiv num (val (B_Gcd num den))) = r.1) ∧
   (Ob (IntKind.wrap IntKind.i64 (Int.tdiv den (val (B_Gcd num den))) = r.2) ∧
   True)))))))) = _) ?_
  refine call_s h fun h => ?_
  refine br_d h (fun h => ?_) (fun h => ?_)
  · refine ob_s h fun h => ?_
    refine ob_s h fun h => ?_
    refine ob_t ?_
    exact ret_s h (fun e => by subst e; exact (by repeat' (first | exact trivial | exact ⟨rfl⟩ | refine And.intro ?_ ?_)))
  · refine ob_s h fun h => ?_
    refine ob_s h fun h => ?_
    refine ob_t ?_
    exact ret_s h (fun e => by subst e; exact (by repeat' (first | exact trivial | exact ⟨rfl⟩ | refine And.intro ?_ ?_)))
set_option maxRecDepth 100000 in
theorem B_Lowest_ok : SpecOK Try.prog 120 true (pureK k_B_Lowest g_B_Lowest) := by
  refine pureK_ok (sp := (sp_133 sp0)) (fn := Try.f120) (body := bodyOf Try.f120) mixed (sp_133_ok sp0_ok) Try.func120 (by kernel_rfl) (by kernel_rfl) fun as_ ob rs h ho => ?_
  unfold g_B_Lowest at h
  split at h
  · rename_i num den
    cases h
    exact ⟨Nat.le_of_ble_eq_true rfl, _, _, B_Lowest_vc num den _ (ok_some ho)⟩
  · cases h
theorem sp_120_ok {sp : Specs} (h : SpecsOK Try.prog sp) : SpecsOK Try.prog (sp_120 sp) := addK_ok B_Lowest_ok h

/-- shoebox/shoeboxref06.fraction -/
def R06_fraction (num : Int) (den : Int) : Option (Int × Int) :=
  if den < (0 : Int) then
   Option.bind (B_Lowest (IntKind.wrap IntKind.i64 ((0 : Int) - num)) (IntKind.wrap IntKind.i64 ((0 : Int) - den))) fun r0 =>
   some (r0.1, r0.2)
  else
   Option.bind (B_Lowest num den) fun r1 =>
   some (r1.1, r1.2)
def g_R06_fraction : List A → Option (Prop × List RV)
  | [.d (.i .i64 num), .d (.i .i64 den)] => some (ok (R06_fraction num den), [.s [.i .i64 ((val (R06_fraction num den)).1), .i .i64 ((val (R06_fraction num den)).2)]])
  | _ => none
def k_R06_fraction : List (Option Cont) := [none, none]
abbrev sp_114 : Specs → Specs := addK 114 true (pureK k_R06_fraction g_R06_fraction)
set_option maxRecDepth 100000 in
theorem R06_fraction_vc (num : Int) (den : Int) (r : Int × Int) (h : Option.bind (R06_fraction num den) some = some r) : runF Try.f114 ((sp_120 sp0)) (fun _ _ _ => none) [.d (.i .i64 num), .d (.i .i64 den)] [.s [.i .i64 r.1, .i .i64 r.2]] := by
  refine Eq.mp (by kernel_rfl : (
  Br (decide (den < (0 : Int)))
   ((Ob (ok (B_Lowest (IntKind.wrap IntKind.i64 ((0 : Int) - num)) (IntKind.wrap IntKind.i64 ((0 : Int) - den)))) ∧
   (Ob (True) ∧
   (Ob ((val (B_Lowest (IntKind.wrap IntKind.i64 ((0 : Int) - num)) (IntKind.wrap IntKind.i64 ((0 : Int) - den)))).1 = r.1) ∧
   (Ob ((val (B_Lowest (IntKind.wrap IntKind.i64 ((0 : Int) - num)) (IntKind.wrap IntKind.i64 ((0 : Int) - den)))).2 = r.2) ∧
   True)))))
   ((Ob (ok (B_Lowest num den)) ∧
   (Ob (True) ∧
   (Ob ((val (B_Lowest num den)).1 = r.1) ∧
   (Ob ((val (B_Lowest num den)).2 = r.2) ∧
   True)))))) = _) ?_
  refine br_d h (fun h => ?_) (fun h => ?_)
  · refine call_s h fun h => ?_
    refine ob_t ?_
    exact ret_s h (fun e => by subst e; exact (by repeat' (first | exact trivial | exact ⟨rfl⟩ | refine And.intro ?_ ?_)))
  · refine call_s h fun h => ?_
    refine ob_t ?_
    exact ret_s h (fun e => by subst e; exact (by repeat' (first | exact trivial | exact ⟨rfl⟩ | refine And.intro ?_ ?_)))
set_option maxRecDepth 100000 in
theorem R06_fraction_ok : SpecOK Try.prog 114 true (pureK k_R06_fraction g_R06_fraction) := by
  refine pureK_ok (sp := (sp_120 sp0)) (fn := Try.f114) (body := bodyOf Try.f114) mixed (sp_120_ok sp0_ok) Try.func114 (by kernel_rfl) (by kernel_rfl) fun as_ ob rs h ho => ?_
  unfold g_R06_fraction at h
  split at h
  · rename_i num den
    cases h
    exact ⟨Nat.le_of_ble_eq_true rfl, _, _, R06_fraction_vc num den _ (ok_some ho)⟩
  · cases h
theorem sp_114_ok {sp : Specs} (h : SpecsOK Try.prog sp) : SpecsOK Try.prog (sp_114 sp) := addK_ok R06_fraction_ok h
end Go.Sh
