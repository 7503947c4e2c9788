/- Mirrors of functions, and their contracts: made by a program of mine. -/
import Derived.Test.YtndhdojnlobloaaMirA
namespace Go.Sh
open Go Go.Proofs Go.RowKit Go.Sx
set_option linter.unusedVariables false

def R06_CascadeBound_b0 (c : List (List Int)) (x0 : (Int × Int)) : Option ((Int × Int) ⊕ (Int ⊕ Int)) :=
  if x0.2 < (↑(List.length c) : Int) then
   if (0 : Int) ≤ x0.2 ∧ x0.2 < (↑(List.length c) : Int) then
    if Int.toNat x0.2 < List.length c then
     Option.bind (R06_BoundOf (List.getD (List.getD c (Int.toNat x0.2) []) (0 : Nat) (0 : Int)) (List.getD (List.getD c (Int.toNat x0.2) []) (1 : Nat) (0 : Int)) (List.getD (List.getD c (Int.toNat x0.2) []) (2 : Nat) (0 : Int)) (List.getD (List.getD c (Int.toNat x0.2) []) (3 : Nat) (0 : Int)) (List.getD (List.getD c (Int.toNat x0.2) []) (4 : Nat) (0 : Int)) x0.1) fun r0 =>
     if (r0.2 != (0 : Int)) = true then
      some (.inr (.inl r0.2))
     else
      some (.inl ((r0.1, IntKind.wrap IntKind.i64 (x0.2 + (1 : Int)))))
    else none
   else none
  else
   some (.inr (.inr x0.1))
def R06_CascadeBound_r0_0 (y0_0 : Int) : Option (Int × Int) :=
  some (((0 : Int), y0_0))
def R06_CascadeBound_r0_1 (y0_1 : Int) : Option (Int × Int) :=
  some ((y0_1, (0 : Int)))
def R06_CascadeBound_r0 : (Int ⊕ Int) → Option (Int × Int) :=
  (Sum.elim (R06_CascadeBound_r0_0) (R06_CascadeBound_r0_1))
/-- shoebox/shoeboxref06.CascadeBound -/
def R06_CascadeBound (c : List (List Int)) (most_ : Int) : Option (Int × Int) :=
  if (!(decide ((0 : Int) ≤ most_) && decide (most_ ≤ (32767 : Int)))) = true then
   some (((0 : Int), (2 : Int)))
  else
   Option.bind (iter (R06_CascadeBound_b0 c) big ((most_, (0 : Int)))) (R06_CascadeBound_r0)
def g_R06_CascadeBound : List A → Option (Prop × List RV)
  | [.r (.recs 5 c), .d (.i .i64 most_)] => some (ok (R06_CascadeBound c most_), [.d (.i .i64 ((val (R06_CascadeBound c most_)).1)), .d (.i .i64 ((val (R06_CascadeBound c most_)).2))])
  | _ => none
def k_R06_CascadeBound : List (Option Cont) := [some (.recs 5 []), none]
abbrev sp_31 : Specs → Specs := addK 31 true (pureK k_R06_CascadeBound g_R06_CascadeBound)
set_option maxRecDepth 100000 in
theorem R06_CascadeBound_vc (c : List (List Int)) (most_ : Int) (r : Int × Int) (h : Option.bind (R06_CascadeBound c most_) some = some r) : runF Try.f31 ((sp_50 (sp_29 sp0))) (fun gs id _ => match id with
 | 0 => some ⟨(Int × Int) × Nat, fun z => ⟨[(0, .w (.c (.o 0))), (1, .w (.c (.d (.i .i64 (Prod.fst (Prod.fst z)))))), (6, .w (.c (.d (.i .i64 (Prod.snd (Prod.fst z))))))], [(0, .ext (.recs 5 c))], 2⟩, fun z => Option.bind (iter (R06_CascadeBound_b0 c) (Prod.snd z) (Prod.fst z)) (fun y0 => Option.bind (R06_CascadeBound_r0 y0) some) = some r, fun z => Prod.snd z⟩
 | _ => none) [.r (.recs 5 c), .d (.i .i64 most_)] [.d (.i .i64 r.1), .d (.i .i64 r.2)] := by
  refine Eq.mp (by kernel_rfl : (
  (Ob (True) ∧
   Br (!(decide ((0 : Int) ≤ most_) && decide (most_ ≤ (32767 : Int))))
   ((Ob (True) ∧
   (Ob (True) ∧
   (Ob ((0 : Int) = r.1) ∧
   (Ob ((2 : Int) = r.2) ∧
   True)))))
   (((∃ (v0 : (Int × Int) × Nat), (Ob ((Option.bind (iter (R06_CascadeBound_b0 c) v0.2 v0.1) fun y0 => Option.bind (R06_CascadeBound_r0 y0) some) = some r) ∧
   (Ob (most_ = v0.1.1) ∧
   (Ob ((0 : Int) = v0.1.2) ∧
   (Ob (c = c) ∧
   True))))) ∧
   (∀ (v0 : (Int × Int) × Nat), ((Option.bind (iter (R06_CascadeBound_b0 c) v0.2 v0.1) fun y0 => Option.bind (R06_CascadeBound_r0 y0) some) = some r →
   Br (decide (v0.1.2 < (↑(List.length c) : Int)))
   ((Ob ((0 : Int) ≤ v0.1.2 ∧ v0.1.2 < (↑(List.length c) : Int)) ∧
   (Ob (Int.toNat v0.1.2 < List.length c) ∧
   (Ob (ok (R06_BoundOf (List.getD (List.getD c (Int.toNat v0.1.2) []) (0 : Nat) (0 : Int)) (List.getD (List.getD c (Int.toNat v0.1.2) []) (1 : Nat) (0 : Int)) (List.getD (List.getD c (Int.toNat v0.1.2) []) (2 : Nat) (0 : Int)) (List.getD (List.getD c (Int.toNat v0.1.2) []) (3 : Nat) (0 : Int)) (List.getD (List.getD c (Int.toNat v0.1.2) []) (4 : Nat) (0 : Int)) v0.1.1)) ∧
   Br ((val (R06_BoundOf (List.getD (List.getD c (Int.toNat v0.1.2) []) (0 : Nat) (0 : Int)) (List.getD (List.getD c (Int.toNat v0.1.2) []) (1 : Nat) (0 : Int)) (List.getD (List.getD c (Int.toNat v0.1.2) []) (2 : Nat) (0 : Int)) (List.getD (List.getD c (Int.toNat v0.1.2) []) (3 : Nat) (0 : Int)) (List.getD (List.getD c (Int.toNat v0.1.2) []) (4 : Nat) (0 : Int)) v0.1.1)).2 != (0 : Int))
   ((Ob (True) ∧
   (Ob (True) ∧
   (Ob ((0 : Int) = r.1) ∧
   (Ob ((val (R06_BoundOf (List.getD (List.getD c (Int.toNat v0.1.2) []) (0 : Nat) (0 : Int)) (List.getD (List.getD c (Int.toNat v0.1.2) []) (1 : Nat) (0 : Int)) (List.getD (List.getD c (Int.toNat v0.1.2) []) (2 : Nat) (0 : Int)) (List.getD (List.getD c (Int.toNat v0.1.2) []) (3 : Nat) (0 : Int)) (List.getD (List.getD c (Int.toNat v0.1.2) []) (4 : Nat) (0 : Int)) v0.1.1)).2 = r.2) ∧
   True)))))
   ((∃ (v1 : (Int × Int) × Nat), (Ob ((Option.bind (iter (R06_CascadeBound_b0 c) v1.2 v1.1) fun y0 => Option.bind (R06_CascadeBound_r0 y0) some) = some r) ∧
   (Ob (v1.2 < v0.2) ∧
   (Ob ((val (R06_BoundOf (List.getD (List.getD c (Int.toNat v0.1.2) []) (0 : Nat) (0 : Int)) (List.getD (List.getD c (Int.toNat v0.1.2) []) (1 : Nat) (0 : Int)) (List.getD (List.getD c (Int.toNat v0.1.2) []) (2 : Nat) (0 : Int)) (List.getD (List.getD c (Int.toNat v0.1.2) []) (3 : Nat) (0 : Int)) (List.getD (List.getD c (Int.toNat v0.1.2) []) (4 : Nat) (0 : Int)) v0.1.1)).1 = v1.1.1) ∧
   (Ob (IntKind.wrap IntKind.i64 (v0.1.2 + (1 : Int)) = v1.1.2) ∧
   (Ob (c = c) ∧
   True)))))))))))
   ((Ob (True) ∧
   (Ob (True) ∧
   (Ob (v0.1.1 = r.1) ∧
   (Ob ((0 : Int) = r.2) ∧
   True))))))))))) = _) ?_
  refine ob_t ?_
  refine br_b h (fun h => ?_) (fun h => ?_)
  · refine ob_t ?_
    refine ob_t ?_
    exact ret_s h (fun e => by subst e; exact (by repeat' (first | exact trivial | exact ⟨rfl⟩ | refine And.intro ?_ ?_)))
  · refine ⟨⟨((most_, (0 : Int)), big), ⟨loop_s h⟩, (by repeat' (first | exact trivial | exact ⟨rfl⟩ | refine And.intro ?_ ?_))⟩, fun z1 hz1 => ?_⟩
    obtain ⟨k1, hm1, h⟩ := iter_pos hz1
    refine br_d h (fun h => ?_) (fun h => ?_)
    · refine ob_s h fun h => ?_
      refine ob_s h fun h => ?_
      refine call_s h fun h => ?_
      refine br_b h (fun h => ?_) (fun h => ?_)
      · have h := exit_s h
        refine ob_t ?_
        refine ob_t ?_
        exact ret_s h (fun e => by subst e; exact (by repeat' (first | exact trivial | exact ⟨rfl⟩ | refine And.intro ?_ ?_)))
      · exact ⟨(((val (R06_BoundOf (List.getD (List.getD c (Int.toNat (Prod.fst z1).2) []) (0 : Nat) (0 : Int)) (List.getD (List.getD c (Int.toNat (Prod.fst z1).2) []) (1 : Nat) (0 : Int)) (List.getD (List.getD c (Int.toNat (Prod.fst z1).2) []) (2 : Nat) (0 : Int)) (List.getD (List.getD c (Int.toNat (Prod.fst z1).2) []) (3 : Nat) (0 : Int)) (List.getD (List.getD c (Int.toNat (Prod.fst z1).2) []) (4 : Nat) (0 : Int)) (Prod.fst z1).1)).1, IntKind.wrap IntKind.i64 ((Prod.fst z1).2 + (1 : Int))), k1), ⟨next_s h⟩, ⟨lt_gs hm1.symm⟩, (by repeat' (first | exact trivial | exact ⟨rfl⟩ | refine And.intro ?_ ?_))⟩
    · have h := exit_s h
      refine ob_t ?_
      refine ob_t ?_
      exact ret_s h (fun e => by subst e; exact (by repeat' (first | exact trivial | exact ⟨rfl⟩ | refine And.intro ?_ ?_)))
set_option maxRecDepth 100000 in
theorem R06_CascadeBound_ok : SpecOK Try.prog 31 true (pureK k_R06_CascadeBound g_R06_CascadeBound) := by
  refine pureK_ok (sp := (sp_50 (sp_29 sp0))) (fn := Try.f31) (body := bodyOf Try.f31) mixed (sp_50_ok (sp_29_ok sp0_ok)) Try.func31 (by kernel_rfl) (by kernel_rfl) fun as_ ob rs h ho => ?_
  unfold g_R06_CascadeBound at h
  split at h
  · rename_i c most_
    cases h
    exact ⟨Nat.le_of_ble_eq_true rfl, _, _, R06_CascadeBound_vc c most_ _ (ok_some ho)⟩
  · cases h
theorem sp_31_ok {sp : Specs} (h : SpecsOK Try.prog sp) : SpecsOK Try.prog (sp_31 sp) := addK_ok R06_CascadeBound_ok h

/-- shoebox/shoeboxlaw06.FilterBounds -/
def L06_FilterBounds (c : List (List Int)) (sB0 : Int) (sB1 : Int) (sB2 : Int) (sA0 : Int) (sA1 : Int) (most_ : Int) : Option Bool :=
  Option.bind (L06_few c) fun r0 =>
  if (!r0) = true then
   some true
  else
   Option.bind (R06_Copy c) fun r1 =>
   if List.length r1 ≤ (1000000000 : Nat) then
    Option.bind (R06_CheckSection sB0 sB1 sB2 sA0 sA1) fun r2 =>
    if (r2 == (0 : Int)) = true then
     Option.bind (R06_BoundOf sB0 sB1 sB2 sA0 sA1 most_) fun r3 =>
     if (Sx06.cbE [[sB0, sB1, sB2, sA0, sA1]] most_ != r3.2) = true then
      some false
     else
      if (Sx06.cbN [[sB0, sB1, sB2, sA0, sA1]] most_ != r3.1) = true then
       some false
      else
       Option.bind (R06_CheckCascade c) fun r4 =>
       if (r4.2 == (0 : Int)) = true then
        Option.bind (R06_CascadeBound c most_) fun r5 =>
        if (Sx06.cbE r1 most_ == r5.2) = true then
         some (Sx06.cbN r1 most_ == r5.1)
        else
         some false
       else
        if (Sx06.cbE r1 most_ == r4.2) = true then
         some (Sx06.cbN r1 most_ == (0 : Int))
        else
         some false
    else
     if (Sx06.cbE [[sB0, sB1, sB2, sA0, sA1]] most_ != r2) = true then
      some false
     else
      if (Sx06.cbN [[sB0, sB1, sB2, sA0, sA1]] most_ != (0 : Int)) = true then
       some false
      else
       Option.bind (R06_CheckCascade c) fun r6 =>
       if (r6.2 == (0 : Int)) = true then
        Option.bind (R06_CascadeBound c most_) fun r7 =>
        if (Sx06.cbE r1 most_ == r7.2) = true then
         some (Sx06.cbN r1 most_ == r7.1)
        else
         some false
       else
        if (Sx06.cbE r1 most_ == r6.2) = true then
         some (Sx06.cbN r1 most_ == (0 : Int))
        else
         some false
   else none
def g_L06_FilterBounds : List A → Option (Prop × List RV)
  | [.r (.recs 5 c), .s [.i .i64 sB0, .i .i64 sB1, .i .i64 sB2, .i .i64 sA0, .i .i64 sA1], .d (.i .i64 most_)] => some (ok (L06_FilterBounds c sB0 sB1 sB2 sA0 sA1 most_), [.d (.b ((val (L06_FilterBounds c sB0 sB1 sB2 sA0 sA1 most_))))])
  | _ => none
def k_L06_FilterBounds : List (Option Cont) := [some (.recs 5 []), none, none]
abbrev sp_4 : Specs → Specs := addK 4 true (pureK k_L06_FilterBounds g_L06_FilterBounds)
set_option maxRecDepth 100000 in
theorem L06_FilterBounds_vc (c : List (List Int)) (sB0 : Int) (sB1 : Int) (sB2 : Int) (sA0 : Int) (sA1 : Int) (most_ : Int) (r : Bool) (h : Option.bind (L06_FilterBounds c sB0 sB1 sB2 sA0 sA1 most_) some = some r) : runF Try.f4 ((sp_18 (sp_24 (sp_25 (sp_27 (sp_26 (sp_28 (sp_29 (sp_30 (sp_31 sp0)))))))))) (fun _ _ _ => none) [.r (.recs 5 c), .s [.i .i64 sB0, .i .i64 sB1, .i .i64 sB2, .i .i64 sA0, .i .i64 sA1], .d (.i .i64 most_)] [.d (.b r)] := by
  refine Eq.mp (by kernel_rfl : (
  (Ob (ok L06_awake) ∧
   (Ob (ok (L06_few c)) ∧
   Br (!val (L06_few c))
   ((Ob (True) ∧
   (Ob (true = r) ∧
   True)))
   ((Ob (True) ∧
   (Ob (ok (R06_Copy c)) ∧
   (Ob (List.length (val (R06_Copy c)) ≤ (1000000000 : Nat)) ∧
   (Ob (ok (R06_CheckSection sB0 sB1 sB2 sA0 sA1)) ∧
   Br (val (R06_CheckSection sB0 sB1 sB2 sA0 sA1) == (0 : Int))
   ((Ob (ok (R06_BoundOf sB0 sB1 sB2 sA0 sA1 most_)) ∧
   Br (Sx06.cbE [[sB0, sB1, sB2, sA0, sA1]] most_ != (val (R06_BoundOf sB0 sB1 sB2 sA0 sA1 most_)).2)
   ((Ob (True) ∧
   (Ob (false = r) ∧
   True)))
   (Br (Sx06.cbN [[sB0, sB1, sB2, sA0, sA1]] most_ != (val (R06_BoundOf sB0 sB1 sB2 sA0 sA1 most_)).1)
   ((Ob (True) ∧
   (Ob (false = r) ∧
   True)))
   ((Ob (ok (R06_CheckCascade c)) ∧
   Br ((val (R06_CheckCascade c)).2 == (0 : Int))
   ((Ob (ok (R06_CascadeBound c most_)) ∧
   Br (Sx06.cbE (val (R06_Copy c)) most_ == (val (R06_CascadeBound c most_)).2)
   ((Ob (True) ∧
   (Ob ((Sx06.cbN (val (R06_Copy c)) most_ == (val (R06_CascadeBound c most_)).1) = r) ∧
   True)))
   ((Ob (True) ∧
   (Ob (false = r) ∧
   True)))))
   (Br (Sx06.cbE (val (R06_Copy c)) most_ == (val (R06_CheckCascade c)).2)
   ((Ob (True) ∧
   (Ob ((Sx06.cbN (val (R06_Copy c)) most_ == (0 : Int)) = r) ∧
   True)))
   ((Ob (True) ∧
   (Ob (false = r) ∧
   True)))))))))
   (Br (Sx06.cbE [[sB0, sB1, sB2, sA0, sA1]] most_ != val (R06_CheckSection sB0 sB1 sB2 sA0 sA1))
   ((Ob (True) ∧
   (Ob (false = r) ∧
   True)))
   (Br (Sx06.cbN [[sB0, sB1, sB2, sA0, sA1]] most_ != (0 : Int))
   ((Ob (True) ∧
   (Ob (false = r) ∧
   True)))
   ((Ob (ok (R06_CheckCascade c)) ∧
   Br ((val (R06_CheckCascade c)).2 == (0 : Int))
   ((Ob (ok (R06_CascadeBound c most_)) ∧
   Br (Sx06.cbE (val (R06_Copy c)) most_ == (val (R06_CascadeBound c most_)).2)
   ((Ob (True) ∧
   (Ob ((Sx06.cbN (val (R06_Copy c)) most_ == (val (R06_CascadeBound c most_)).1) = r) ∧
   True)))
   ((Ob (True) ∧
   (Ob (false = r) ∧
   True)))))
   (Br (Sx06.cbE (val (R06_Copy c)) most_ == (val (R06_CheckCascade c)).2)
   ((Ob (True) ∧
   (Ob ((Sx06.cbN (val (R06_Copy c)) most_ == (0 : Int)) = r) ∧
   True)))
   ((Ob (True) ∧
   (Ob (false = r) ∧
   True)))))))))))))))) = _) ?_
  refine ob_c (p := ok L06_awake) (by decide) ?_
  refine call_s h fun h => ?_
  refine br_b h (fun h => ?_) (fun h => ?_)
  · refine ob_t ?_
    exact ret_s h (fun e => by subst e; exact (by repeat' (first | exact trivial | exact ⟨rfl⟩ | refine And.intro ?_ ?_)))
  · refine ob_t ?_
    refine call_s h fun h => ?_
    refine ob_s h fun h => ?_
    refine call_s h fun h => ?_
    refine br_b h (fun h => ?_) (fun h => ?_)
    · refine call_s h fun h => ?_
      refine br_b h (fun h => ?_) (fun h => ?_)
      · refine ob_t ?_
        exact ret_s h (fun e => by subst e; exact (by repeat' (first | exact trivial | exact ⟨rfl⟩ | refine And.intro ?_ ?_)))
      · refine br_b h (fun h => ?_) (fun h => ?_)
        · refine ob_t ?_
          exact ret_s h (fun e => by subst e; exact (by repeat' (first | exact trivial | exact ⟨rfl⟩ | refine And.intro ?_ ?_)))
        · refine call_s h fun h => ?_
          refine br_b h (fun h => ?_) (fun h => ?_)
          · refine call_s h fun h => ?_
            refine br_b h (fun h => ?_) (fun h => ?_)
            · refine ob_t ?_
              exact ret_s h (fun e => by subst e; exact (by repeat' (first | exact trivial | exact ⟨rfl⟩ | refine And.intro ?_ ?_)))
            · refine ob_t ?_
              exact ret_s h (fun e => by subst e; exact (by repeat' (first | exact trivial | exact ⟨rfl⟩ | refine And.intro ?_ ?_)))
          · refine br_b h (fun h => ?_) (fun h => ?_)
            · refine ob_t ?_
              exact ret_s h (fun e => by subst e; exact (by repeat' (first | exact trivial | exact ⟨rfl⟩ | refine And.intro ?_ ?_)))
            · refine ob_t ?_
              exact ret_s h (fun e => by subst e; exact (by repeat' (first | exact trivial | exact ⟨rfl⟩ | refine And.intro ?_ ?_)))
    · refine br_b h (fun h => ?_) (fun h => ?_)
      · refine ob_t ?_
        exact ret_s h (fun e => by subst e; exact (by repeat' (first | exact trivial | exact ⟨rfl⟩ | refine And.intro ?_ ?_)))
      · refine br_b h (fun h => ?_) (fun h => ?_)
        · refine ob_t ?_
          exact ret_s h (fun e => by subst e; exact (by repeat' (first | exact trivial | exact ⟨rfl⟩ | refine And.intro ?_ ?_)))
        · refine call_s h fun h => ?_
          refine br_b h (fun h => ?_) (fun h => ?_)
          · refine call_s h fun h => ?_
            refine br_b h (fun h => ?_) (fun h => ?_)
            · refine ob_t ?_
              exact ret_s h (fun e => by subst e; exact (by repeat' (first | exact trivial | exact ⟨rfl⟩ | refine And.intro ?_ ?_)))
            · refine ob_t ?_
              exact ret_s h (fun e => by subst e; exact (by repeat' (first | exact trivial | exact ⟨rfl⟩ | refine And.intro ?_ ?_)))
          · refine br_b h (fun h => ?_) (fun h => ?_)
            · refine ob_t ?_
              exact ret_s h (fun e => by subst e; exact (by repeat' (first | exact trivial | exact ⟨rfl⟩ | refine And.intro ?_ ?_)))
            · refine ob_t ?_
              exact ret_s h (fun e => by subst e; exact (by repeat' (first | exact trivial | exact ⟨rfl⟩ | refine And.intro ?_ ?_)))
set_option maxRecDepth 100000 in
theorem L06_FilterBounds_ok : SpecOK Try.prog 4 true (pureK k_L06_FilterBounds g_L06_FilterBounds) := by
  refine pureK_ok (sp := (sp_18 (sp_24 (sp_25 (sp_27 (sp_26 (sp_28 (sp_29 (sp_30 (sp_31 sp0)))))))))) (fn := Try.f4) (body := bodyOf Try.f4) mixed (sp_18_ok (sp_24_ok (sp_25_ok (sp_27_ok (sp_26_ok (sp_28_ok (sp_29_ok (sp_30_ok (sp_31_ok sp0_ok))))))))) Try.func4 (by kernel_rfl) (by kernel_rfl) fun as_ ob rs h ho => ?_
  unfold g_L06_FilterBounds at h
  split at h
  · rename_i c sB0 sB1 sB2 sA0 sA1 most_
    cases h
    exact ⟨Nat.le_of_ble_eq_true rfl, _, _, L06_FilterBounds_vc c sB0 sB1 sB2 sA0 sA1 most_ _ (ok_some ho)⟩
  · cases h
theorem sp_4_ok {sp : Specs} (h : SpecsOK Try.prog sp) : SpecsOK Try.prog (sp_4 sp) := addK_ok L06_FilterBounds_ok h

def F_divisor_b0 (x0 : (Int × Int)) : Option ((Int × Int) ⊕ Int) :=
  if (x0.2 != (0 : Int)) = true then
   if x0.2 ≠ (0 : Int) then
    some (.inl (x0.2, Int.tmod x0.1 x0.2))
   else none
  else
   some (.inr x0.1)
def F_divisor_r0 (y0_0 : Int) : Option Int :=
  if (-9223372036854775807 : Int) ≤ y0_0 ∧ y0_0 ≤ (9223372036854775807 : Int) then
   some (max y0_0 (-y0_0))
  else none
/-- shoebox/filter.divisor -/
def F_divisor (a : Int) (b : Int) : Option Int :=
  Option.bind (iter (F_divisor_b0) big (a, b)) (F_divisor_r0)
def g_F_divisor : List A → Option (Prop × List RV)
  | [.d (.i .i64 a), .d (.i .i64 b)] => some (ok (F_divisor a b), [.d (.i .i64 ((val (F_divisor a b))))])
  | _ => none
def k_F_divisor : List (Option Cont) := [none, none]
abbrev sp_126 : Specs → Specs := addK 126 true (pureK k_F_divisor g_F_divisor)
set_option maxRecDepth 100000 in
theorem F_divisor_vc (a : Int) (b : Int) (r : Int) (h : Option.bind (F_divisor a b) some = some r) : runF Try.f126 ((sp_105 sp0)) (fun gs id _ => match id with
 | 0 => some ⟨(Int × Int) × Nat, fun z => ⟨[(0, .w (.c (.d (.i .i64 (Prod.fst (Prod.fst z)))))), (1, .w (.c (.d (.i .i64 (Prod.snd (Prod.fst z))))))], [], 2⟩, fun z => Option.bind (iter (F_divisor_b0) (Prod.snd z) (Prod.fst z)) (fun y0 => Option.bind (F_divisor_r0 y0) some) = some r, fun z => Prod.snd z⟩
 | _ => none) [.d (.i .i64 a), .d (.i .i64 b)] [.d (.i .i64 r)] := by
  refine Eq.mp (by kernel_rfl : (
  ((∃ (v0 : (Int × Int) × Nat), (Ob ((Option.bind (iter F_divisor_b0 v0.2 v0.1) fun y0 => Option.bind (F_divisor_r0 y0) some) = some r) ∧
   (Ob (a = v0.1.1) ∧
   (Ob (b = v0.1.2) ∧
   True)))) ∧
   (∀ (v0 : (Int × Int) × Nat), ((Option.bind (iter F_divisor_b0 v0.2 v0.1) fun y0 => Option.bind (F_divisor_r0 y0) some) = some r →
   Br (v0.1.2 != (0 : Int))
   ((Ob (v0.1.2 ≠ (0 : Int)) ∧
   (∃ (v1 : (Int × Int) × Nat), (Ob ((Option.bind (iter F_divisor_b0 v1.2 v1.1) fun y0 => Option.bind (F_divisor_r0 y0) some) = some r) ∧
   (Ob (v1.2 < v0.2) ∧
   (Ob (v0.1.2 = v1.1.1) ∧
   (Ob (Int.tmod v0.1.1 v0.1.2 = v1.1.2) ∧
   True)))))))
   ((Ob ((-9223372036854775807 : Int) ≤ v0.1.1 ∧ v0.1.1 ≤ (9223372036854775807 : Int)) ∧
   (Ob (True) ∧
   (Ob (max v0.1.1 (-v0.1.1) = r) ∧
   True)))))))) = _) ?_
  refine ⟨⟨((a, b), big), ⟨loop_s h⟩, (by repeat' (first | exact trivial | exact ⟨rfl⟩ | refine And.intro ?_ ?_))⟩, fun z0 hz0 => ?_⟩
  obtain ⟨k0, hm0, h⟩ := iter_pos hz0
  refine br_b h (fun h => ?_) (fun h => ?_)
  · refine ob_s h fun h => ?_
    exact ⟨(((Prod.fst z0).2, Int.tmod (Prod.fst z0).1 (Prod.fst z0).2), k0), ⟨next_s h⟩, ⟨lt_gs hm0.symm⟩, (by repeat' (first | exact trivial | exact ⟨rfl⟩ | refine And.intro ?_ ?_))⟩
  · have h := exit_s h
    refine ob_s h fun h => ?_
    refine ob_t ?_
    exact ret_s h (fun e => by subst e; exact (by repeat' (first | exact trivial | exact ⟨rfl⟩ | refine And.intro ?_ ?_)))
set_option maxRecDepth 100000 in
theorem F_divisor_ok : SpecOK Try.prog 126 true (pureK k_F_divisor g_F_divisor) := by
  refine pureK_ok (sp := (sp_105 sp0)) (fn := Try.f126) (body := bodyOf Try.f126) mixed (sp_105_ok sp0_ok) Try.func126 (by kernel_rfl) (by kernel_rfl) fun as_ ob rs h ho => ?_
  unfold g_F_divisor at h
  split at h
  · rename_i a b
    cases h
    exact ⟨Nat.le_of_ble_eq_true rfl, _, _, F_divisor_vc a b _ (ok_some ho)⟩
  · cases h
theorem sp_126_ok {sp : Specs} (h : SpecsOK Try.prog sp) : SpecsOK Try.prog (sp_126 sp) := addK_ok F_divisor_ok h

def B_Gcd_b0 (x0 : (Int × Int)) : Option ((Int × Int) ⊕ Int) :=
  if (x0.2 != (0 : Int)) = true then
   if x0.2 ≠ (0 : Int) then
    some (.inl (x0.2, Int.tmod x0.1 x0.2))
   else none
  else
   some (.inr x0.1)
def B_Gcd_r0 (y0_0 : Int) : Option Int :=
  if (-9223372036854775807 : Int) ≤ y0_0 ∧ y0_0 ≤ (9223372036854775807 : Int) then
   some (max y0_0 (-y0_0))
  else none
/-- shoebox/shoeboxbase.Gcd -/
def B_Gcd (a : Int) (b : Int) : Option Int :=
  Option.bind (iter (B_Gcd_b0) big (a, b)) (B_Gcd_r0)
def g_B_Gcd : List A → Option (Prop × List RV)
  | [.d (.i .i64 a), .d (.i .i64 b)] => some (ok (B_Gcd a b), [.d (.i .i64 ((val (B_Gcd a b))))])
  | _ => none
def k_B_Gcd : List (Option Cont) := [none, none]
abbrev sp_133 : Specs → Specs := addK 133 true (pureK k_B_Gcd g_B_Gcd)
set_option maxRecDepth 100000 in
theorem B_Gcd_vc (a : Int) (b : Int) (r : Int) (h : Option.bind (B_Gcd a b) some = some r) : runF Try.f133 ((sp_23 sp0)) (fun gs id _ => match id with
 | 0 => some ⟨(Int × Int) × Nat, fun z => ⟨[(0, .w (.c (.d (.i .i64 (Prod.fst (Prod.fst z)))))), (1, .w (.c (.d (.i .i64 (Prod.snd (Prod.fst z))))))], [], 2⟩, fun z => Option.bind (iter (B_Gcd_b0) (Prod.snd z) (Prod.fst z)) (fun y0 => Option.bind (B_Gcd_r0 y0) some) = some r, fun z => Prod.snd z⟩
 | _ => none) [.d (.i .i64 a), .d (.i .i64 b)] [.d (.i .i64 r)] := by
  refine Eq.mp (by kernel_rfl : (
  ((∃ (v0 : (Int × Int) × Nat), (Ob ((Option.bind (iter B_Gcd_b0 v0.2 v0.1) fun y0 => Option.bind (B_Gcd_r0 y0) some) = some r) ∧
   (Ob (a = v0.1.1) ∧
   (Ob (b = v0.1.2) ∧
   True)))) ∧
   (∀ (v0 : (Int × Int) × Nat), ((Option.bind (iter B_Gcd_b0 v0.2 v0.1) fun y0 => Option.bind (B_Gcd_r0 y0) some) = some r →
   Br (v0.1.2 != (0 : Int))
   ((Ob (v0.1.2 ≠ (0 : Int)) ∧
   (∃ (v1 : (Int × Int) × Nat), (Ob ((Option.bind (iter B_Gcd_b0 v1.2 v1.1) fun y0 => Option.bind (B_Gcd_r0 y0) some) = some r) ∧
   (Ob (v1.2 < v0.2) ∧
   (Ob (v0.1.2 = v1.1.1) ∧
   (Ob (Int.tmod v0.1.1 v0.1.2 = v1.1.2) ∧
   True)))))))
   ((Ob ((-9223372036854775807 : Int) ≤ v0.1.1 ∧ v0.1.1 ≤ (9223372036854775807 : Int)) ∧
   (Ob (True) ∧
   (Ob (max v0.1.1 (-v0.1.1) = r) ∧
   True)))))))) = _) ?_
  refine ⟨⟨((a, b), big), ⟨loop_s h⟩, (by repeat' (first | exact trivial | exact ⟨rfl⟩ | refine And.intro ?_ ?_))⟩, fun z0 hz0 => ?_⟩
  obtain ⟨k0, hm0, h⟩ := iter_pos hz0
  refine br_b h (fun h => ?_) (fun h => ?_)
  · refine ob_s h fun h => ?_
    exact ⟨(((Prod.fst z0).2, Int.tmod (Prod.fst z0).1 (Prod.fst z0).2), k0), ⟨next_s h⟩, ⟨lt_gs hm0.symm⟩, (by repeat' (first | exact trivial | exact ⟨rfl⟩ | refine And.intro ?_ ?_))⟩
  · have h := exit_s h
    refine ob_s h fun h => ?_
    refine ob_t ?_
    exact ret_s h (fun e => by subst e; exact (by repeat' (first | exact trivial | exact ⟨rfl⟩ | refine And.intro ?_ ?_)))
set_option maxRecDepth 100000 in
theorem B_Gcd_ok : SpecOK Try.prog 133 true (pureK k_B_Gcd g_B_Gcd) := by
  refine pureK_ok (sp := (sp_23 sp0)) (fn := Try.f133) (body := bodyOf Try.f133) mixed (sp_23_ok sp0_ok) Try.func133 (by kernel_rfl) (by kernel_rfl) fun as_ ob rs h ho => ?_
  unfold g_B_Gcd at h
  split at h
  · rename_i a b
    cases h
    exact ⟨Nat.le_of_ble_eq_true rfl, _, _, B_Gcd_vc a b _ (ok_some ho)⟩
  · cases h
theorem sp_133_ok {sp : Specs} (h : SpecsOK Try.prog sp) : SpecsOK Try.prog (sp_133 sp) := addK_ok B_Gcd_ok h

/-- shoebox/shoeboxref06.IsStable -/
def R06_IsStable (sB0 : Int) (sB1 : Int) (sB2 : Int) (sA0 : Int) (sA1 : Int) : Option Bool :=
  if (-9223372036854775807 : Int) ≤ sA1 ∧ sA1 ≤ (9223372036854775807 : Int) then
   if max sA1 (-sA1) < (16384 : Int) then
    if (-9223372036854775807 : Int) ≤ sA0 ∧ sA0 ≤ (9223372036854775807 : Int) then
     some (decide (max sA0 (-sA0) < IntKind.wrap IntKind.i64 ((16384 : Int) + sA1)))
    else none
   else
    some false
  else none
def g_R06_IsStable : List A → Option (Prop × List RV)
  | [.s [.i .i64 sB0, .i .i64 sB1, .i .i64 sB2, .i .i64 sA0, .i .i64 sA1]] => some (ok (R06_IsStable sB0 sB1 sB2 sA0 sA1), [.d (.b ((val (R06_IsStable sB0 sB1 sB2 sA0 sA1))))])
  | _ => none
def k_R06_IsStable : List (Option Cont) := [none]
abbrev sp_49 : Specs → Specs := addK 49 true (pureK k_R06_IsStable g_R06_IsStable)
set_option maxRecDepth 100000 in
theorem R06_IsStable_vc (sB0 : Int) (sB1 : Int) (sB2 : Int) (sA0 : Int) (sA1 : Int) (r : Bool) (h : Option.bind (R06_IsStable sB0 sB1 sB2 sA0 sA1) some = some r) : runF Try.f49 ((sp_23 sp0)) (fun _ _ _ => none) [.s [.i .i64 sB0, .i .i64 sB1, .i .i64 sB2, .i .i64 sA0, .i .i64 sA1]] [.d (.b r)] := by
  refine Eq.mp (by kernel_rfl : (
  (Ob ((0 : Int) ≤ (1 : Int) ∧ (1 : Int) < (↑(2 : Nat) : Int)) ∧
   (Ob ((-9223372036854775807 : Int) ≤ sA1 ∧ sA1 ≤ (9223372036854775807 : Int)) ∧
   Br (decide (max sA1 (-sA1) < (16384 : Int)))
   ((Ob ((0 : Int) ≤ (0 : Int) ∧ (0 : Int) < (↑(2 : Nat) : Int)) ∧
   (Ob ((-9223372036854775807 : Int) ≤ sA0 ∧ sA0 ≤ (9223372036854775807 : Int)) ∧
   (Ob ((0 : Int) ≤ (1 : Int) ∧ (1 : Int) < (↑(2 : Nat) : Int)) ∧
   (Ob (True) ∧
   (Ob (decide (max sA0 (-sA0) < IntKind.wrap IntKind.i64 ((16384 : Int) + sA1)) = r) ∧
   True))))))
   ((Ob (True) ∧
   (Ob (false = r) ∧
   True)))))) = _) ?_
  refine ob_c (p := (0 : Int) ≤ (1 : Int) ∧ (1 : Int) < (↑(2 : Nat) : Int)) (by decide) ?_
  refine ob_s h fun h => ?_
  refine br_d h (fun h => ?_) (fun h => ?_)
  · refine ob_c (p := (0 : Int) ≤ (0 : Int) ∧ (0 : Int) < (↑(2 : Nat) : Int)) (by decide) ?_
    refine ob_s h fun h => ?_
    refine ob_c (p := (0 : Int) ≤ (1 : Int) ∧ (1 : Int) < (↑(2 : Nat) : Int)) (by decide) ?_
    refine ob_t ?_
    exact ret_s h (fun e => by subst e; exact (by repeat' (first | exact trivial | exact ⟨rfl⟩ | refine And.intro ?_ ?_)))
  · refine ob_t ?_
    exact ret_s h (fun e => by subst e; exact (by repeat' (first | exact trivial | exact ⟨rfl⟩ | refine And.intro ?_ ?_)))
set_option maxRecDepth 100000 in
theorem R06_IsStable_ok : SpecOK Try.prog 49 true (pureK k_R06_IsStable g_R06_IsStable) := by
  refine pureK_ok (sp := (sp_23 sp0)) (fn := Try.f49) (body := bodyOf Try.f49) mixed (sp_23_ok sp0_ok) Try.func49 (by kernel_rfl) (by kernel_rfl) fun as_ ob rs h ho => ?_
  unfold g_R06_IsStable at h
  split at h
  · rename_i sB0 sB1 sB2 sA0 sA1
    cases h
    exact ⟨Nat.le_of_ble_eq_true rfl, _, _, R06_IsStable_vc sB0 sB1 sB2 sA0 sA1 _ (ok_some ho)⟩
  · cases h
theorem sp_49_ok {sp : Specs} (h : SpecsOK Try.prog sp) : SpecsOK Try.prog (sp_49 sp) := addK_ok R06_IsStable_ok h

/-- shoebox/filter.IsStable -/
def F_IsStable (sB0 : Int) (sB1 : Int) (sB2 : Int) (sA0 : Int) (sA1 : Int) : Option (Bool × Int) :=
  if (Sx06.chkS sB0 sB1 sB2 sA0 sA1 != (0 : Int)) = true then
   some (false, Sx06.chkS sB0 sB1 sB2 sA0 sA1)
  else
   if Sx06.secB sB0 sB1 sB2 sA0 sA1 = true then
    some ((decide (max sA1 (-sA1) < (16384 : Int)) && decide (max sA0 (-sA0) < (16384 : Int) + sA1), (0 : Int)))
   else none
def g_F_IsStable : List A → Option (Prop × List RV)
  | [.s [.i .i64 sB0, .i .i64 sB1, .i .i64 sB2, .i .i64 sA0, .i .i64 sA1]] => some (ok (F_IsStable sB0 sB1 sB2 sA0 sA1), [.d (.b ((val (F_IsStable sB0 sB1 sB2 sA0 sA1)).1)), .d (.i .i64 ((val (F_IsStable sB0 sB1 sB2 sA0 sA1)).2))])
  | _ => none
def k_F_IsStable : List (Option Cont) := [none]
abbrev sp_48 : Specs → Specs := addK 48 true (pureK k_F_IsStable g_F_IsStable)
set_option maxRecDepth 100000 in
theorem F_IsStable_vc (sB0 : Int) (sB1 : Int) (sB2 : Int) (sA0 : Int) (sA1 : Int) (r : Bool × Int) (h : Option.bind (F_IsStable sB0 sB1 sB2 sA0 sA1) some = some r) : runF Try.f48 ((sp_57 (sp_106 sp0))) (fun _ _ _ => none) [.s [.i .i64 sB0, .i .i64 sB1, .i .i64 sB2, .i .i64 sA0, .i .i64 sA1]] [.d (.b r.1), .d (.i .i64 r.2)] := by
  refine Eq.mp (by kernel_rfl : (
  (Ob (True) ∧
   Br (Sx06.chkS sB0 sB1 sB2 sA0 sA1 != (0 : Int))
   ((Ob (True) ∧
   (Ob (True) ∧
   (Ob (false = r.1) ∧
   (Ob (Sx06.chkS sB0 sB1 sB2 sA0 sA1 = r.2) ∧
   True)))))
   ((Ob (Sx06.secB sB0 sB1 sB2 sA0 sA1 = true) ∧
   (Ob (True) ∧
   (Ob (True) ∧
   (Ob ((decide (max sA1 (-sA1) < (16384 : Int)) && decide (max sA0 (-sA0) < (16384 : Int) + sA1)) = r.1) ∧
   (Ob ((0 : Int) = r.2) ∧
   True)))))))) = _) ?_
  refine ob_t ?_
  refine br_b h (fun h => ?_) (fun h => ?_)
  · refine ob_t ?_
    refine ob_t ?_
    exact ret_s h (fun e => by subst e; exact (by repeat' (first | exact trivial | exact ⟨rfl⟩ | refine And.intro ?_ ?_)))
  · refine ob_s h fun h => ?_
    refine ob_t ?_
    refine ob_t ?_
    exact ret_s h (fun e => by subst e; exact (by repeat' (first | exact trivial | exact ⟨rfl⟩ | refine And.intro ?_ ?_)))
set_option maxRecDepth 100000 in
theorem F_IsStable_ok : SpecOK Try.prog 48 true (pureK k_F_IsStable g_F_IsStable) := by
  refine pureK_ok (sp := (sp_57 (sp_106 sp0))) (fn := Try.f48) (body := bodyOf Try.f48) mixed (sp_57_ok (sp_106_ok sp0_ok)) Try.func48 (by kernel_rfl) (by kernel_rfl) fun as_ ob rs h ho => ?_
  unfold g_F_IsStable at h
  split at h
  · rename_i sB0 sB1 sB2 sA0 sA1
    cases h
    exact ⟨Nat.le_of_ble_eq_true rfl, _, _, F_IsStable_vc sB0 sB1 sB2 sA0 sA1 _ (ok_some ho)⟩
  · cases h
theorem sp_48_ok {sp : Specs} (h : SpecsOK Try.prog sp) : SpecsOK Try.prog (sp_48 sp) := addK_ok F_IsStable_ok h

/-- shoebox/filter.FirstUnstable$1 -/
def F_FirstUnstable_1 (sB0 : Int) (sB1 : Int) (sB2 : Int) (sA0 : Int) (sA1 : Int) : Option Bool :=
  if Sx06.secB sB0 sB1 sB2 sA0 sA1 = true then
   some (!(decide (max sA1 (-sA1) < (16384 : Int)) && decide (max sA0 (-sA0) < (16384 : Int) + sA1)))
  else none
def g_F_FirstUnstable_1 : List A → Option (Prop × List RV)
  | [.s [.i .i64 sB0, .i .i64 sB1, .i .i64 sB2, .i .i64 sA0, .i .i64 sA1]] => some (ok (F_FirstUnstable_1 sB0 sB1 sB2 sA0 sA1), [.d (.b ((val (F_FirstUnstable_1 sB0 sB1 sB2 sA0 sA1))))])
  | _ => none
def k_F_FirstUnstable_1 : List (Option Cont) := [none]
abbrev sp_112 : Specs → Specs := addK 112 true (pureK k_F_FirstUnstable_1 g_F_FirstUnstable_1)
set_option maxRecDepth 100000 in
theorem F_FirstUnstable_1_vc (sB0 : Int) (sB1 : Int) (sB2 : Int) (sA0 : Int) (sA1 : Int) (r : Bool) (h : Option.bind (F_FirstUnstable_1 sB0 sB1 sB2 sA0 sA1) some = some r) : runF Try.f112 ((sp_106 sp0)) (fun _ _ _ => none) [.s [.i .i64 sB0, .i .i64 sB1, .i .i64 sB2, .i .i64 sA0, .i .i64 sA1]] [.d (.b r)] := by
  refine Eq.mp (by kernel_rfl : (
  (Ob (Sx06.secB sB0 sB1 sB2 sA0 sA1 = true) ∧
   (Ob (True) ∧
   (Ob ((!(decide (max sA1 (-sA1) < (16384 : Int)) && decide (max sA0 (-sA0) < (16384 : Int) + sA1))) = r) ∧
   True)))) = _) ?_
  refine ob_s h fun h => ?_
  refine ob_t ?_
  exact ret_s h (fun e => by subst e; exact (by repeat' (first | exact trivial | exact ⟨rfl⟩ | refine And.intro ?_ ?_)))
set_option maxRecDepth 100000 in
theorem F_FirstUnstable_1_ok : SpecOK Try.prog 112 true (pureK k_F_FirstUnstable_1 g_F_FirstUnstable_1) := by
  refine pureK_ok (sp := (sp_106 sp0)) (fn := Try.f112) (body := bodyOf Try.f112) mixed (sp_106_ok sp0_ok) Try.func112 (by kernel_rfl) (by kernel_rfl) fun as_ ob rs h ho => ?_
  unfold g_F_FirstUnstable_1 at h
  split at h
  · rename_i sB0 sB1 sB2 sA0 sA1
    cases h
    exact ⟨Nat.le_of_ble_eq_true rfl, _, _, F_FirstUnstable_1_vc sB0 sB1 sB2 sA0 sA1 _ (ok_some ho)⟩
  · cases h
theorem sp_112_ok {sp : Specs} (h : SpecsOK Try.prog sp) : SpecsOK Try.prog (sp_112 sp) := addK_ok F_FirstUnstable_1_ok h

def slices_IndexFunc_FilterSection_b0 (s : List (List Int)) (x0 : Int) : Option (Int ⊕ (Int ⊕ Unit)) :=
  if x0 < (↑(List.length s) : Int) then
   if (0 : Int) ≤ x0 ∧ x0 < (↑(List.length s) : Int) then
    if Int.toNat x0 < List.length s then
     Option.bind (F_FirstUnstable_1 (List.getD (List.getD s (Int.toNat x0) []) (0 : Nat) (0 : Int)) (List.getD (List.getD s (Int.toNat x0) []) (1 : Nat) (0 : Int)) (List.getD (List.getD s (Int.toNat x0) []) (2 : Nat) (0 : Int)) (List.getD (List.getD s (Int.toNat x0) []) (3 : Nat) (0 : Int)) (List.getD (List.getD s (Int.toNat x0) []) (4 : Nat) (0 : Int))) fun r0 =>
     if (r0) = true then
      some (.inr (.inl x0))
     else
      some (.inl (IntKind.wrap IntKind.i64 (x0 + (1 : Int))))
    else none
   else none
  else
   some (.inr ((.inr ())))
def slices_IndexFunc_FilterSection_r0_0 (y0_0 : Int) : Option Int :=
  some y0_0
def slices_IndexFunc_FilterSection_r0_1 (y0_1 : Unit) : Option Int :=
  some (-1 : Int)
def slices_IndexFunc_FilterSection_r0 : (Int ⊕ Unit) → Option Int :=
  (Sum.elim (slices_IndexFunc_FilterSection_r0_0) (slices_IndexFunc_FilterSection_r0_1))
/-- slices.IndexFunc[[]shoebox/api.FilterSection,shoebox/api.FilterSection] -/
def slices_IndexFunc_FilterSection (s : List (List Int)) : Option Int :=
  Option.bind (iter (slices_IndexFunc_FilterSection_b0 s) big (0 : Int)) (slices_IndexFunc_FilterSection_r0)
def g_slices_IndexFunc_FilterSection : List A → Option (Prop × List RV)
  | [.r (.recs 5 s), .f 112] => some (ok (slices_IndexFunc_FilterSection s), [.d (.i .i64 ((val (slices_IndexFunc_FilterSection s))))])
  | _ => none
def k_slices_IndexFunc_FilterSection : List (Option Cont) := [some (.recs 5 []), none]
abbrev sp_111 : Specs → Specs := addK 111 true (pureK k_slices_IndexFunc_FilterSection g_slices_IndexFunc_FilterSection)
set_option maxRecDepth 100000 in
theorem slices_IndexFunc_FilterSection_vc (s : List (List Int)) (r : Int) (h : Option.bind (slices_IndexFunc_FilterSection s) some = some r) : runF Try.f111 ((sp_112 sp0)) (fun gs id _ => match id with
 | 0 => some ⟨Int × Nat, fun z => ⟨[(0, .w (.c (.o 0))), (1, .w (.c (.fn 112 []))), (7, .w (.c (.d (.i .i64 ((↑(List.length s) : Int)))))), (8, .w (.c (.d (.i .i64 (Prod.fst z)))))], [(0, .ext (.recs 5 s))], 2⟩, fun z => Option.bind (iter (slices_IndexFunc_FilterSection_b0 s) (Prod.snd z) (Prod.fst z)) (fun y0 => Option.bind (slices_IndexFunc_FilterSection_r0 y0) some) = some r, fun z => Prod.snd z⟩
 | _ => none) [.r (.recs 5 s), .f 112] [.d (.i .i64 r)] := by
  refine Eq.mp (by kernel_rfl : (
  ((∃ (v0 : Int × Nat), (Ob ((Option.bind (iter (slices_IndexFunc_FilterSection_b0 s) v0.2 v0.1) fun y0 => Option.bind (slices_IndexFunc_FilterSection_r0 y0) some) = some r) ∧
   (Ob ((↑(List.length s) : Int) = (↑(List.length s) : Int)) ∧
   (Ob ((0 : Int) = v0.1) ∧
   (Ob (s = s) ∧
   True))))) ∧
   (∀ (v0 : Int × Nat), ((Option.bind (iter (slices_IndexFunc_FilterSection_b0 s) v0.2 v0.1) fun y0 => Option.bind (slices_IndexFunc_FilterSection_r0 y0) some) = some r →
   Br (decide (v0.1 < (↑(List.length s) : Int)))
   ((Ob ((0 : Int) ≤ v0.1 ∧ v0.1 < (↑(List.length s) : Int)) ∧
   (Ob (Int.toNat v0.1 < List.length s) ∧
   (Ob (ok (F_FirstUnstable_1 (List.getD (List.getD s (Int.toNat v0.1) []) (0 : Nat) (0 : Int)) (List.getD (List.getD s (Int.toNat v0.1) []) (1 : Nat) (0 : Int)) (List.getD (List.getD s (Int.toNat v0.1) []) (2 : Nat) (0 : Int)) (List.getD (List.getD s (Int.toNat v0.1) []) (3 : Nat) (0 : Int)) (List.getD (List.getD s (Int.toNat v0.1) []) (4 : Nat) (0 : Int)))) ∧
   Br (val (F_FirstUnstable_1 (List.getD (List.getD s (Int.toNat v0.1) []) (0 : Nat) (0 : Int)) (List.getD (List.getD s (Int.toNat v0.1) []) (1 : Nat) (0 : Int)) (List.getD (List.getD s (Int.toNat v0.1) []) (2 : Nat) (0 : Int)) (List.getD (List.getD s (Int.toNat v0.1) []) (3 : Nat) (0 : Int)) (List.getD (List.getD s (Int.toNat v0.1) []) (4 : Nat) (0 : Int))))
   ((Ob (True) ∧
   (Ob (v0.1 = r) ∧
   True)))
   ((∃ (v1 : Int × Nat), (Ob ((Option.bind (iter (slices_IndexFunc_FilterSection_b0 s) v1.2 v1.1) fun y0 => Option.bind (slices_IndexFunc_FilterSection_r0 y0) some) = some r) ∧
   (Ob (v1.2 < v0.2) ∧
   (Ob ((↑(List.length s) : Int) = (↑(List.length s) : Int)) ∧
   (Ob (IntKind.wrap IntKind.i64 (v0.1 + (1 : Int)) = v1.1) ∧
   (Ob (s = s) ∧
   True)))))))))))
   ((Ob (True) ∧
   (Ob ((-1 : Int) = r) ∧
   True))))))) = _) ?_
  refine ⟨⟨((0 : Int), big), ⟨loop_s h⟩, (by repeat' (first | exact trivial | exact ⟨rfl⟩ | refine And.intro ?_ ?_))⟩, fun z1 hz1 => ?_⟩
  obtain ⟨k1, hm1, h⟩ := iter_pos hz1
  refine br_d h (fun h => ?_) (fun h => ?_)
  · refine ob_s h fun h => ?_
    refine ob_s h fun h => ?_
    refine call_s h fun h => ?_
    refine br_b h (fun h => ?_) (fun h => ?_)
    · have h := exit_s h
      refine ob_t ?_
      exact ret_s h (fun e => by subst e; exact (by repeat' (first | exact trivial | exact ⟨rfl⟩ | refine And.intro ?_ ?_)))
    · exact ⟨(IntKind.wrap IntKind.i64 (Prod.fst z1 + (1 : Int)), k1), ⟨next_s h⟩, ⟨lt_gs hm1.symm⟩, (by repeat' (first | exact trivial | exact ⟨rfl⟩ | refine And.intro ?_ ?_))⟩
  · have h := exit_s h
    refine ob_t ?_
    exact ret_s h (fun e => by subst e; exact (by repeat' (first | exact trivial | exact ⟨rfl⟩ | refine And.intro ?_ ?_)))
set_option maxRecDepth 100000 in
theorem slices_IndexFunc_FilterSection_ok : SpecOK Try.prog 111 true (pureK k_slices_IndexFunc_FilterSection g_slices_IndexFunc_FilterSection) := by
  refine pureK_ok (sp := (sp_112 sp0)) (fn := Try.f111) (body := bodyOf Try.f111) mixed (sp_112_ok sp0_ok) Try.func111 (by kernel_rfl) (by kernel_rfl) fun as_ ob rs h ho => ?_
  unfold g_slices_IndexFunc_FilterSection at h
  split at h
  · rename_i s
    cases h
    exact ⟨Nat.le_of_ble_eq_true rfl, _, _, slices_IndexFunc_FilterSection_vc s _ (ok_some ho)⟩
  · cases h
theorem sp_111_ok {sp : Specs} (h : SpecsOK Try.prog sp) : SpecsOK Try.prog (sp_111 sp) := addK_ok slices_IndexFunc_FilterSection_ok h

/-- shoebox/filter.FirstUnstable -/
def F_FirstUnstable (c : List (List Int)) : Option (Int × Int) :=
  if List.length c ≤ (1000000000 : Nat) then
   if (Sx06.chkE c != (0 : Int)) = true then
    some (((0 : Int), Sx06.chkE c))
   else
    Option.bind (slices_IndexFunc_FilterSection c) fun r0 =>
    if r0 < (0 : Int) then
     some (((0 : Int), (12 : Int)))
    else
     some ((r0, (0 : Int)))
  else none
def g_F_FirstUnstable : List A → Option (Prop × List RV)
  | [.r (.recs 5 c)] => some (ok (F_FirstUnstable c), [.d (.i .i64 ((val (F_FirstUnstable c)).1)), .d (.i .i64 ((val (F_FirstUnstable c)).2))])
  | _ => none
def k_F_FirstUnstable : List (Option Cont) := [some (.recs 5 [])]
abbrev sp_54 : Specs → Specs := addK 54 true (pureK k_F_FirstUnstable g_F_FirstUnstable)
set_option maxRecDepth 100000 in
theorem F_FirstUnstable_vc (c : List (List Int)) (r : Int × Int) (h : Option.bind (F_FirstUnstable c) some = some r) : runF Try.f54 ((sp_86 (sp_111 (sp_112 sp0)))) (fun _ _ _ => none) [.r (.recs 5 c)] [.d (.i .i64 r.1), .d (.i .i64 r.2)] := by
  refine Eq.mp (by kernel_rfl : (
  (Ob (List.length c ≤ (1000000000 : Nat)) ∧
   Br (Sx06.chkE c != (0 : Int))
   ((Ob (True) ∧
   (Ob (True) ∧
   (Ob ((0 : Int) = r.1) ∧
   (Ob (Sx06.chkE c = r.2) ∧
   True)))))
   ((Ob (ok (slices_IndexFunc_FilterSection c)) ∧
   Br (decide (val (slices_IndexFunc_FilterSection c) < (0 : Int)))
   ((Ob (True) ∧
   (Ob (True) ∧
   (Ob ((0 : Int) = r.1) ∧
   (Ob ((12 : Int) = r.2) ∧
   True)))))
   ((Ob (True) ∧
   (Ob (True) ∧
   (Ob (val (slices_IndexFunc_FilterSection c) = r.1) ∧
   (Ob ((0 : Int) = r.2) ∧
   True))))))))) = _) ?_
  refine ob_s h fun h => ?_
  refine br_b h (fun h => ?_) (fun h => ?_)
  · refine ob_t ?_
    refine ob_t ?_
    exact ret_s h (fun e => by subst e; exact (by repeat' (first | exact trivial | exact ⟨rfl⟩ | refine And.intro ?_ ?_)))
  · refine call_s h fun h => ?_
    refine br_d h (fun h => ?_) (fun h => ?_)
    · refine ob_t ?_
      refine ob_t ?_
      exact ret_s h (fun e => by subst e; exact (by repeat' (first | exact trivial | exact ⟨rfl⟩ | refine And.intro ?_ ?_)))
    · refine ob_t ?_
      refine ob_t ?_
      exact ret_s h (fun e => by subst e; exact (by repeat' (first | exact trivial | exact ⟨rfl⟩ | refine And.intro ?_ ?_)))
set_option maxRecDepth 100000 in
theorem F_FirstUnstable_ok : SpecOK Try.prog 54 true (pureK k_F_FirstUnstable g_F_FirstUnstable) := by
  refine pureK_ok (sp := (sp_86 (sp_111 (sp_112 sp0)))) (fn := Try.f54) (body := bodyOf Try.f54) mixed (sp_86_ok (sp_111_ok (sp_112_ok sp0_ok))) Try.func54 (by kernel_rfl) (by kernel_rfl) fun as_ ob rs h ho => ?_
  unfold g_F_FirstUnstable at h
  split at h
  · rename_i c
    cases h
    exact ⟨Nat.le_of_ble_eq_true rfl, _, _, F_FirstUnstable_vc c _ (ok_some ho)⟩
  · cases h
theorem sp_54_ok {sp : Specs} (h : SpecsOK Try.prog sp) : SpecsOK Try.prog (sp_54 sp) := addK_ok F_FirstUnstable_ok h

def R06_FirstUnstable_b0 (c : List (List Int)) (x0 : Int) : Option (Int ⊕ (Int ⊕ Unit)) :=
  if x0 < (↑(List.length c) : Int) then
   if (0 : Int) ≤ x0 ∧ x0 < (↑(List.length c) : Int) then
    if Int.toNat x0 < List.length c then
     Option.bind (R06_IsStable (List.getD (List.getD c (Int.toNat x0) []) (0 : Nat) (0 : Int)) (List.getD (List.getD c (Int.toNat x0) []) (1 : Nat) (0 : Int)) (List.getD (List.getD c (Int.toNat x0) []) (2 : Nat) (0 : Int)) (List.getD (List.getD c (Int.toNat x0) []) (3 : Nat) (0 : Int)) (List.getD (List.getD c (Int.toNat x0) []) (4 : Nat) (0 : Int))) fun r0 =>
     if (!r0) = true then
      some (.inr (.inl x0))
     else
      some (.inl (IntKind.wrap IntKind.i64 (x0 + (1 : Int))))
    else none
   else none
  else
   some (.inr ((.inr ())))
def R06_FirstUnstable_r0_0 (y0_0 : Int) : Option (Int × Int) :=
  some ((y0_0, (0 : Int)))
def R06_FirstUnstable_r0_1 (y0_1 : Unit) : Option (Int × Int) :=
  some (((0 : Int), (12 : Int)))
def R06_FirstUnstable_r0 : (Int ⊕ Unit) → Option (Int × Int) :=
  (Sum.elim (R06_FirstUnstable_r0_0) (R06_FirstUnstable_r0_1))
/-- shoebox/shoeboxref06.FirstUnstable -/
def R06_FirstUnstable (c : List (List Int)) : Option (Int × Int) :=
  Option.bind (iter (R06_FirstUnstable_b0 c) big (0 : Int)) (R06_FirstUnstable_r0)
def g_R06_FirstUnstable : List A → Option (Prop × List RV)
  | [.r (.recs 5 c)] => some (ok (R06_FirstUnstable c), [.d (.i .i64 ((val (R06_FirstUnstable c)).1)), .d (.i .i64 ((val (R06_FirstUnstable c)).2))])
  | _ => none
def k_R06_FirstUnstable : List (Option Cont) := [some (.recs 5 [])]
abbrev sp_55 : Specs → Specs := addK 55 true (pureK k_R06_FirstUnstable g_R06_FirstUnstable)
set_option maxRecDepth 100000 in
theorem R06_FirstUnstable_vc (c : List (List Int)) (r : Int × Int) (h : Option.bind (R06_FirstUnstable c) some = some r) : runF Try.f55 ((sp_49 sp0)) (fun gs id _ => match id with
 | 0 => some ⟨Int × Nat, fun z => ⟨[(0, .w (.c (.o 0))), (4, .w (.c (.d (.i .i64 (Prod.fst z)))))], [(0, .ext (.recs 5 c))], 1⟩, fun z => Option.bind (iter (R06_FirstUnstable_b0 c) (Prod.snd z) (Prod.fst z)) (fun y0 => Option.bind (R06_FirstUnstable_r0 y0) some) = some r, fun z => Prod.snd z⟩
 | _ => none) [.r (.recs 5 c)] [.d (.i .i64 r.1), .d (.i .i64 r.2)] := by
  refine Eq.mp (by kernel_rfl : (
  ((∃ (v0 : Int × Nat), (Ob ((Option.bind (iter (R06_FirstUnstable_b0 c) v0.2 v0.1) fun y0 => Option.bind (R06_FirstUnstable_r0 y0) some) = some r) ∧
   (Ob ((0 : Int) = v0.1) ∧
   (Ob (c = c) ∧
   True)))) ∧
   (∀ (v0 : Int × Nat), ((Option.bind (iter (R06_FirstUnstable_b0 c) v0.2 v0.1) fun y0 => Option.bind (R06_FirstUnstable_r0 y0) some) = some r →
   Br (decide (v0.1 < (↑(List.length c) : Int)))
   ((Ob ((0 : Int) ≤ v0.1 ∧ v0.1 < (↑(List.length c) : Int)) ∧
   (Ob (Int.toNat v0.1 < List.length c) ∧
   (Ob (ok (R06_IsStable (List.getD (List.getD c (Int.toNat v0.1) []) (0 : Nat) (0 : Int)) (List.getD (List.getD c (Int.toNat v0.1) []) (1 : Nat) (0 : Int)) (List.getD (List.getD c (Int.toNat v0.1) []) (2 : Nat) (0 : Int)) (List.getD (List.getD c (Int.toNat v0.1) []) (3 : Nat) (0 : Int)) (List.getD (List.getD c (Int.toNat v0.1) []) (4 : Nat) (0 : Int)))) ∧
   Br (!val (R06_IsStable (List.getD (List.getD c (Int.toNat v0.1) []) (0 : Nat) (0 : Int)) (List.getD (List.getD c (Int.toNat v0.1) []) (1 : Nat) (0 : Int)) (List.getD (List.getD c (Int.toNat v0.1) []) (2 : Nat) (0 : Int)) (List.getD (List.getD c (Int.toNat v0.1) []) (3 : Nat) (0 : Int)) (List.getD (List.getD c (Int.toNat v0.1) []) (4 : Nat) (0 : Int))))
   ((Ob (True) ∧
   (Ob (True) ∧
   (Ob (v0.1 = r.1) ∧
   (Ob ((0 : Int) = r.2) ∧
   True)))))
   ((∃ (v1 : Int × Nat), (Ob ((Option.bind (iter (R06_FirstUnstable_b0 c) v1.2 v1.1) fun y0 => Option.bind (R06_FirstUnstable_r0 y0) some) = some r) ∧
   (Ob (v1.2 < v0.2) ∧
   (Ob (IntKind.wrap IntKind.i64 (v0.1 + (1 : Int)) = v1.1) ∧
   (Ob (c = c) ∧
   True))))))))))
   ((Ob (True) ∧
   (Ob (True) ∧
   (Ob ((0 : Int) = r.1) ∧
   (Ob ((12 : Int) = r.2) ∧
   True))))))))) = _) ?_
  refine ⟨⟨((0 : Int), big), ⟨loop_s h⟩, (by repeat' (first | exact trivial | exact ⟨rfl⟩ | refine And.intro ?_ ?_))⟩, fun z1 hz1 => ?_⟩
  obtain ⟨k1, hm1, h⟩ := iter_pos hz1
  refine br_d h (fun h => ?_) (fun h => ?_)
  · refine ob_s h fun h => ?_
    refine ob_s h fun h => ?_
    refine call_s h fun h => ?_
    refine br_b h (fun h => ?_) (fun h => ?_)
    · have h := exit_s h
      refine ob_t ?_
      refine ob_t ?_
      exact ret_s h (fun e => by subst e; exact (by repeat' (first | exact trivial | exact ⟨rfl⟩ | refine And.intro ?_ ?_)))
    · exact ⟨(IntKind.wrap IntKind.i64 (Prod.fst z1 + (1 : Int)), k1), ⟨next_s h⟩, ⟨lt_gs hm1.symm⟩, (by repeat' (first | exact trivial | exact ⟨rfl⟩ | refine And.intro ?_ ?_))⟩
  · have h := exit_s h
    refine ob_t ?_
    refine ob_t ?_
    exact ret_s h (fun e => by subst e; exact (by repeat' (first | exact trivial | exact ⟨rfl⟩ | refine And.intro ?_ ?_)))
set_option maxRecDepth 100000 in
theorem R06_FirstUnstable_ok : SpecOK Try.prog 55 true (pureK k_R06_FirstUnstable g_R06_FirstUnstable) := by
  refine pureK_ok (sp := (sp_49 sp0)) (fn := Try.f55) (body := bodyOf Try.f55) mixed (sp_49_ok sp0_ok) Try.func55 (by kernel_rfl) (by kernel_rfl) fun as_ ob rs h ho => ?_
  unfold g_R06_FirstUnstable at h
  split at h
  · rename_i c
    cases h
    exact ⟨Nat.le_of_ble_eq_true rfl, _, _, R06_FirstUnstable_vc c _ (ok_some ho)⟩
  · cases h
theorem sp_55_ok {sp : Specs} (h : SpecsOK Try.prog sp) : SpecsOK Try.prog (sp_55 sp) := addK_ok R06_FirstUnstable_ok h

/-- shoebox/filter.lowest -/
def F_lowest (num : Int) (den : Int) : Option (Int × Int) :=
  Option.bind (F_divisor num den) fun r0 =>
  if den < (0 : Int) then
   if IntKind.wrap IntKind.i64 ((0 : Int) - r0) ≠ (0 : Int) then
    if IntKind.wrap IntKind.i64 ((0 : Int) - r0) ≠ (0 : Int) then
     some ((IntKind.wrap IntKind.i64 (Int.tdiv num (IntKind.wrap IntKind.i64 ((0 : Int) - r0))), IntKind.wrap IntKind.i64 (Int.tdiv den (IntKind.wrap IntKind.i64 ((0 : Int) - r0)))))
    else none
   else none
  else
   if r0 ≠ (0 : Int) then
    if r0 ≠ (0 : Int) then
     some ((IntKind.wrap IntKind.i64 (Int.tdiv num r0), IntKind.wrap IntKind.i64 (Int.tdiv den r0)))
    else none
   else none
def g_F_lowest : List A → Option (Prop × List RV)
  | [.d (.i .i64 num), .d (.i .i64 den)] => some (ok (F_lowest num den), [.s [.i .i64 ((val (F_lowest num den)).1), .i .i64 ((val (F_lowest num den)).2)]])
  | _ => none
def k_F_lowest : List (Option Cont) := [none, none]
abbrev sp_103 : Specs → Specs := addK 103 true (pureK k_F_lowest g_F_lowest)
set_option maxRecDepth 100000 in
theorem F_lowest_vc (num : Int) (den : Int) (r : Int × Int) (h : Option.bind (F_lowest num den) some = some r) : runF Try.f103 ((sp_126 sp0)) (fun _ _ _ => none) [.d (.i .i64 num), .d (.i .i64 den)] [.s [.i .i64 r.1, .i .i64 r.2]] := by
  refine Eq.mp (by kernel_rfl : (
  (Ob (ok (F_divisor num den)) ∧
   Br (decide (den < (0 : Int)))
   ((Ob (IntKind.wrap IntKind.i64 ((0 : Int) - val (F_divisor num den)) ≠ (0 : Int)) ∧
   (Ob (IntKind.wrap IntKind.i64 ((0 : Int) - val (F_divisor num den)) ≠ (0 : Int)) ∧
   (Ob (True) ∧
   (Ob (IntKind.wrap IntKind.i64 (Int.tdiv num (IntKind.wrap IntKind.i64 ((0 : Int) - val (F_divisor num den)))) = r.1) ∧
   (Ob (IntKind.wrap IntKind.i64 (Int.tdiv den (IntKind.wrap IntKind.i64 ((0 : Int) - val (F_divisor num den)))) = r.2) ∧
   True))))))
   ((Ob (val (F_divisor num den) ≠ (0 : Int)) ∧
   (Ob (val (F_divisor num den) ≠ (0 : Int)) ∧
   (Ob (True) ∧
   (Ob (IntKind.wrap IntKind.i64 (Int.tdiv num (val (F_divisor num den))) = r.1) ∧
   (Ob (IntKind.wrap IntKind.i64 (Int.tdiv den (val (F_divisor num den))) = r.2) ∧
   True)))))))) = _) ?_
  refine call_s h fun h => ?_
  refine br_d h (fun h => ?_) (fun h => ?_)
  · refine ob_s h fun h => ?_
    refine ob_s h fun h => ?_
    refine ob_t ?_
    exact ret_s h (fun e => by subst e; exact (by repeat' (first | exact trivial | exact ⟨rfl⟩ | refine And.intro ?_ ?_)))
  · refine ob_s h fun h => ?_
    refine ob_s h fun h => ?_
    refine ob_t ?_
    exact ret_s h (fun e => by subst e; exact (by repeat' (first | exact trivial | exact ⟨rfl⟩ | refine And.intro ?_ ?_)))
set_option maxRecDepth 100000 in
theorem F_lowest_ok : SpecOK Try.prog 103 true (pureK k_F_lowest g_F_lowest) := by
  refine pureK_ok (sp := (sp_126 sp0)) (fn := Try.f103) (body := bodyOf Try.f103) mixed (sp_126_ok sp0_ok) Try.func103 (by kernel_rfl) (by kernel_rfl) fun as_ ob rs h ho => ?_
  unfold g_F_lowest at h
  split at h
  · rename_i num den
    cases h
    exact ⟨Nat.le_of_ble_eq_true rfl, _, _, F_lowest_vc num den _ (ok_some ho)⟩
  · cases h
theorem sp_103_ok {sp : Specs} (h : SpecsOK Try.prog sp) : SpecsOK Try.prog (sp_103 sp) := addK_ok F_lowest_ok h

/-- shoebox/filter.Reflections -/
def F_Reflections (sB0 : Int) (sB1 : Int) (sB2 : Int) (sA0 : Int) (sA1 : Int) : Option (Int × Int × Int × Int × Int) :=
  if List.length [Sx06.chkS sB0 sB1 sB2 sA0 sA1, if (IntKind.wrap IntKind.i64 ((16384 : Int) + sA1) != (0 : Int)) = true then (0 : Int) else (11 : Int)] ≤ (1000000 : Nat) then
   if (Option.getD (List.find? (fun x => x != (0 : Int)) [Sx06.chkS sB0 sB1 sB2 sA0 sA1, if (IntKind.wrap IntKind.i64 ((16384 : Int) + sA1) != (0 : Int)) = true then (0 : Int) else (11 : Int)]) (0 : Int) != (0 : Int)) = true then
    some (((0 : Int), (0 : Int), (0 : Int), (0 : Int), Option.getD (List.find? (fun x => x != (0 : Int)) [Sx06.chkS sB0 sB1 sB2 sA0 sA1, if (IntKind.wrap IntKind.i64 ((16384 : Int) + sA1) != (0 : Int)) = true then (0 : Int) else (11 : Int)]) (0 : Int)))
   else
    Option.bind (F_lowest sA1 (16384 : Int)) fun r0 =>
    Option.bind (F_lowest sA0 (IntKind.wrap IntKind.i64 ((16384 : Int) + sA1))) fun r1 =>
    some ((r0.1, r0.2, r1.1, r1.2, (0 : Int)))
  else none
def g_F_Reflections : List A → Option (Prop × List RV)
  | [.s [.i .i64 sB0, .i .i64 sB1, .i .i64 sB2, .i .i64 sA0, .i .i64 sA1]] => some (ok (F_Reflections sB0 sB1 sB2 sA0 sA1), [.s [.i .i64 ((val (F_Reflections sB0 sB1 sB2 sA0 sA1)).1), .i .i64 ((val (F_Reflections sB0 sB1 sB2 sA0 sA1)).2.1), .i .i64 ((val (F_Reflections sB0 sB1 sB2 sA0 sA1)).2.2.1), .i .i64 ((val (F_Reflections sB0 sB1 sB2 sA0 sA1)).2.2.2.1)], .d (.i .i64 ((val (F_Reflections sB0 sB1 sB2 sA0 sA1)).2.2.2.2))])
  | _ => none
def k_F_Reflections : List (Option Cont) := [none]
abbrev sp_56 : Specs → Specs := addK 56 true (pureK k_F_Reflections g_F_Reflections)
set_option maxRecDepth 100000 in
theorem F_Reflections_vc (sB0 : Int) (sB1 : Int) (sB2 : Int) (sA0 : Int) (sA1 : Int) (r : Int × Int × Int × Int × Int) (h : Option.bind (F_Reflections sB0 sB1 sB2 sA0 sA1) some = some r) : runF Try.f56 ((sp_57 (sp_87 (sp_85 (sp_103 sp0))))) (fun _ _ _ => none) [.s [.i .i64 sB0, .i .i64 sB1, .i .i64 sB2, .i .i64 sA0, .i .i64 sA1]] [.s [.i .i64 r.1, .i .i64 r.2.1, .i .i64 r.2.2.1, .i .i64 r.2.2.2.1], .d (.i .i64 r.2.2.2.2)] := by
  refine Eq.mp (by kernel_rfl : (
  (Ob (True) ∧
   (Ob ((0 : Int) ≤ (1 : Int) ∧ (1 : Int) < (↑(2 : Nat) : Int)) ∧
   (Ob (True) ∧
   (Ob (List.length [Sx06.chkS sB0 sB1 sB2 sA0 sA1, if (IntKind.wrap IntKind.i64 ((16384 : Int) + sA1) != (0 : Int)) = true then (0 : Int) else (11 : Int)] ≤ (1000000 : Nat)) ∧
   Br (Option.getD (List.find? (fun x => x != (0 : Int)) [Sx06.chkS sB0 sB1 sB2 sA0 sA1, if (IntKind.wrap IntKind.i64 ((16384 : Int) + sA1) != (0 : Int)) = true then (0 : Int) else (11 : Int)]) (0 : Int) != (0 : Int))
   ((Ob (True) ∧
   (Ob (True) ∧
   (Ob ((0 : Int) = r.1) ∧
   (Ob ((0 : Int) = r.2.1) ∧
   (Ob ((0 : Int) = r.2.2.1) ∧
   (Ob ((0 : Int) = r.2.2.2.1) ∧
   (Ob (Option.getD (List.find? (fun x => x != (0 : Int)) [Sx06.chkS sB0 sB1 sB2 sA0 sA1, if (IntKind.wrap IntKind.i64 ((16384 : Int) + sA1) != (0 : Int)) = true then (0 : Int) else (11 : Int)]) (0 : Int) = r.2.2.2.2) ∧
   True))))))))
   ((Ob ((0 : Int) ≤ (1 : Int) ∧ (1 : Int) < (↑(2 : Nat) : Int)) ∧
   (Ob (ok (F_lowest sA1 (16384 : Int))) ∧
   (Ob ((0 : Int) ≤ (0 : Int) ∧ (0 : Int) < (↑(2 : Nat) : Int)) ∧
   (Ob ((0 : Int) ≤ (1 : Int) ∧ (1 : Int) < (↑(2 : Nat) : Int)) ∧
   (Ob (ok (F_lowest sA0 (IntKind.wrap IntKind.i64 ((16384 : Int) + sA1)))) ∧
   (Ob (True) ∧
   (Ob (True) ∧
   (Ob ((val (F_lowest sA1 (16384 : Int))).1 = r.1) ∧
   (Ob ((val (F_lowest sA1 (16384 : Int))).2 = r.2.1) ∧
   (Ob ((val (F_lowest sA0 (IntKind.wrap IntKind.i64 ((16384 : Int) + sA1)))).1 = r.2.2.1) ∧
   (Ob ((val (F_lowest sA0 (IntKind.wrap IntKind.i64 ((16384 : Int) + sA1)))).2 = r.2.2.2.1) ∧
   (Ob ((0 : Int) = r.2.2.2.2) ∧
   True)))))))))))))))))) = _) ?_
  refine ob_t ?_
  refine ob_c (p := (0 : Int) ≤ (1 : Int) ∧ (1 : Int) < (↑(2 : Nat) : Int)) (by decide) ?_
  refine ob_t ?_
  refine ob_s h fun h => ?_
  refine br_b h (fun h => ?_) (fun h => ?_)
  · refine ob_t ?_
    refine ob_t ?_
    exact ret_s h (fun e => by subst e; exact (by repeat' (first | exact trivial | exact ⟨rfl⟩ | refine And.intro ?_ ?_)))
  · refine ob_c (p := (0 : Int) ≤ (1 : Int) ∧ (1 : Int) < (↑(2 : Nat) : Int)) (by decide) ?_
    refine call_s h fun h => ?_
    refine ob_c (p := (0 : Int) ≤ (0 : Int) ∧ (0 : Int) < (↑(2 : Nat) : Int)) (by decide) ?_
    refine ob_c (p := (0 : Int) ≤ (1 : Int) ∧ (1 : Int) < (↑(2 : Nat) : Int)) (by decide) ?_
    refine call_s h fun h => ?_
    refine ob_t ?_
    refine ob_t ?_
    exact ret_s h (fun e => by subst e; exact (by repeat' (first | exact trivial | exact ⟨rfl⟩ | refine And.intro ?_ ?_)))
set_option maxRecDepth 100000 in
theorem F_Reflections_ok : SpecOK Try.prog 56 true (pureK k_F_Reflections g_F_Reflections) := by
  refine pureK_ok (sp := (sp_57 (sp_87 (sp_85 (sp_103 sp0))))) (fn := Try.f56) (body := bodyOf Try.f56) mixed (sp_57_ok (sp_87_ok (sp_85_ok (sp_103_ok sp0_ok)))) Try.func56 (by kernel_rfl) (by kernel_rfl) fun as_ ob rs h ho => ?_
  unfold g_F_Reflections at h
  split at h
  · rename_i sB0 sB1 sB2 sA0 sA1
    cases h
    exact ⟨Nat.le_of_ble_eq_true rfl, _, _, F_Reflections_vc sB0 sB1 sB2 sA0 sA1 _ (ok_some ho)⟩
  · cases h
theorem sp_56_ok {sp : Specs} (h : SpecsOK Try.prog sp) : SpecsOK Try.prog (sp_56 sp) := addK_ok F_Reflections_ok h

/-- shoebox/shoeboxbase.Lowest -/
def B_Lowest (num : Int) (den : Int) : Option (Int × Int) :=
  Option.bind (B_Gcd num den) fun r0 =>
  if den < (0 : Int) then
   if IntKind.wrap IntKind.i64 ((0 : Int) - r0) ≠ (0 : Int) then
    if IntKind.wrap IntKind.i64 ((0 : Int) - r0) ≠ (0 : Int) then
     some ((IntKind.wrap IntKind.i64 (Int.tdiv num (IntKind.wrap IntKind.i64 ((0 : Int) - r0))), IntKind.wrap IntKind.i64 (Int.tdiv den (IntKind.wrap IntKind.i64 ((0 : Int) - r0)))))
    else none
   else none
  else
   if r0 ≠ (0 : Int) then
    if r0 ≠ (0 : Int) then
     some ((IntKind.wrap IntKind.i64 (Int.tdiv num r0), IntKind.wrap IntKind.i64 (Int.tdiv den r0)))
    else none
   else none
def g_B_Lowest : List A → Option (Prop × List RV)
  | [.d (.i .i64 num), .d (.i .i64 den)] => some (ok (B_Lowest num den), [.s [.i .i64 ((val (B_Lowest num den)).1), .i .i64 ((val (B_Lowest num den)).2)]])
  | _ => none
def k_B_Lowest : List (Option Cont) := [none, none]
abbrev sp_120 : Specs → Specs := addK 120 true (pureK k_B_Lowest g_B_Lowest)
set_option maxRecDepth 100000 in
theorem B_Lowest_vc (num : Int) (den : Int) (r : Int × Int) (h : Option.bind (B_Lowest num den) some = some r) : runF Try.f120 ((sp_133 sp0)) (fun _ _ _ => none) [.d (.i .i64 num), .d (.i .i64 den)] [.s [.i .i64 r.1, .i .i64 r.2]] := by
  refine Eq.mp (by kernel_rfl : (
  (Ob (ok (B_Gcd num den)) ∧
   Br (decide (den < (0 : Int)))
   ((Ob (IntKind.wrap IntKind.i64 ((0 : Int) - val (B_Gcd num den)) ≠ (0 : Int)) ∧
   (Ob (IntKind.wrap IntKind.i64 ((0 : Int) - val (B_Gcd num den)) ≠ (0 : Int)) ∧
   (Ob (True) ∧
   (Ob (IntKind.wrap IntKind.i64 (Int.tdiv num (IntKind.wrap IntKind.i64 ((0 : Int) - val (B_Gcd num den)))) = r.1) ∧
   (Ob (IntKind.wrap IntKind.i64 (Int.tdiv den (IntKind.wrap IntKind.i64 ((0 : Int) - val (B_Gcd num den)))) = r.2) ∧
   True))))))
   ((Ob (val (B_Gcd num den) ≠ (0 : Int)) ∧
   (Ob (val (B_Gcd num den) ≠ (0 : Int)) ∧
   (Ob (True) ∧
   (Ob (IntKind.wrap IntKind.i64 (Int.tdiv num (val (B_Gcd num den))) = r.1) ∧
   (Ob (IntKind.wrap IntKind.i64 (Int.tdiv den (val (B_Gcd num den))) = r.2) ∧
   True)))))))) = _) ?_
  refine call_s h fun h => ?_
  refine br_d h (fun h => ?_) (fun h => ?_)
  · refine ob_s h fun h => ?_
    refine ob_s h fun h => ?_
    refine ob_t ?_
    exact ret_s h (fun e => by subst e; exact (by repeat' (first | exact trivial | exact ⟨rfl⟩ | refine And.intro ?_ ?_)))
  · refine ob_s h fun h => ?_
    refine ob_s h fun h => ?_
    refine ob_t ?_
    exact ret_s h (fun e => by subst e; exact (by repeat' (first | exact trivial | exact ⟨rfl⟩ | refine And.intro ?_ ?_)))
set_option maxRecDepth 100000 in
theorem B_Lowest_ok : SpecOK Try.prog 120 true (pureK k_B_Lowest g_B_Lowest) := by
  refine pureK_ok (sp := (sp_133 sp0)) (fn := Try.f120) (body := bodyOf Try.f120) mixed (sp_133_ok sp0_ok) Try.func120 (by kernel_rfl) (by kernel_rfl) fun as_ ob rs h ho => ?_
  unfold g_B_Lowest at h
  split at h
  · rename_i num den
    cases h
    exact ⟨Nat.le_of_ble_eq_true rfl, _, _, B_Lowest_vc num den _ (ok_some ho)⟩
  · cases h
theorem sp_120_ok {sp : Specs} (h : SpecsOK Try.prog sp) : SpecsOK Try.prog (sp_120 sp) := addK_ok B_Lowest_ok h

/-- shoebox/shoeboxref06.fraction -/
def R06_fraction (num : Int) (den : Int) : Option (Int × Int) :=
  if den < (0 : Int) then
   Option.bind (B_Lowest (IntKind.wrap IntKind.i64 ((0 : Int) - num)) (IntKind.wrap IntKind.i64 ((0 : Int) - den))) fun r0 =>
   some (r0.1, r0.2)
  else
   Option.bind (B_Lowest num den) fun r1 =>
   some (r1.1, r1.2)
def g_R06_fraction : List A → Option (Prop × List RV)
  | [.d (.i .i64 num), .d (.i .i64 den)] => some (ok (R06_fraction num den), [.s [.i .i64 ((val (R06_fraction num den)).1), .i .i64 ((val (R06_fraction num den)).2)]])
  | _ => none
def k_R06_fraction : List (Option Cont) := [none, none]
abbrev sp_114 : Specs → Specs := addK 114 true (pureK k_R06_fraction g_R06_fraction)
set_option maxRecDepth 100000 in
theorem R06_fraction_vc (num : Int) (den : Int) (r : Int × Int) (h : Option.bind (R06_fraction num den) some = some r) : runF Try.f114 ((sp_120 sp0)) (fun _ _ _ => none) [.d (.i .i64 num), .d (.i .i64 den)] [.s [.i .i64 r.1, .i .i64 r.2]] := by
  refine Eq.mp (by kernel_rfl : (
  Br (decide (den < (0 : Int)))
   ((Ob (ok (B_Lowest (IntKind.wrap IntKind.i64 ((0 : Int) - num)) (IntKind.wrap IntKind.i64 ((0 : Int) - den)))) ∧
   (Ob (True) ∧
   (Ob ((val (B_Lowest (IntKind.wrap IntKind.i64 ((0 : Int) - num)) (IntKind.wrap IntKind.i64 ((0 : Int) - den)))).1 = r.1) ∧
   (Ob ((val (B_Lowest (IntKind.wrap IntKind.i64 ((0 : Int) - num)) (IntKind.wrap IntKind.i64 ((0 : Int) - den)))).2 = r.2) ∧
   True)))))
   ((Ob (ok (B_Lowest num den)) ∧
   (Ob (True) ∧
   (Ob ((val (B_Lowest num den)).1 = r.1) ∧
   (Ob ((val (B_Lowest num den)).2 = r.2) ∧
   True)))))) = _) ?_
  refine br_d h (fun h => ?_) (fun h => ?_)
  · refine call_s h fun h => ?_
    refine ob_t ?_
    exact ret_s h (fun e => by subst e; exact (by repeat' (first | exact trivial | exact ⟨rfl⟩ | refine And.intro ?_ ?_)))
  · refine call_s h fun h => ?_
    refine ob_t ?_
    exact ret_s h (fun e => by subst e; exact (by repeat' (first | exact trivial | exact ⟨rfl⟩ | refine And.intro ?_ ?_)))
set_option maxRecDepth 100000 in
theorem R06_fraction_ok : SpecOK Try.prog 114 true (pureK k_R06_fraction g_R06_fraction) := by
  refine pureK_ok (sp := (sp_120 sp0)) (fn := Try.f114) (body := bodyOf Try.f114) mixed (sp_120_ok sp0_ok) Try.func114 (by kernel_rfl) (by kernel_rfl) fun as_ ob rs h ho => ?_
  unfold g_R06_fraction at h
  split at h
  · rename_i num den
    cases h
    exact ⟨Nat.le_of_ble_eq_true rfl, _, _, R06_fraction_vc num den _ (ok_some ho)⟩
  · cases h
theorem sp_114_ok {sp : Specs} (h : SpecsOK Try.prog sp) : SpecsOK Try.prog (sp_114 sp) := addK_ok R06_fraction_ok h

/-- shoebox/shoeboxref06.Reflections -/
def R06_Reflections (sB0 : Int) (sB1 : Int) (sB2 : Int) (sA0 : Int) (sA1 : Int) : Option (Int × Int × Int × Int × Int) :=
  if (IntKind.wrap IntKind.i64 ((16384 : Int) + sA1) == (0 : Int)) = true then
   some (((0 : Int), (0 : Int), (0 : Int), (0 : Int), (11 : Int)))
  else
   Option.bind (R06_fraction sA1 (16384 : Int)) fun r0 =>
   Option.bind (R06_fraction sA0 (IntKind.wrap IntKind.i64 ((16384 : Int) + sA1))) fun r1 =>
   some ((r0.1, r0.2, r1.1, r1.2, (0 : Int)))
def g_R06_Reflections : List A → Option (Prop × List RV)
  | [.s [.i .i64 sB0, .i .i64 sB1, .i .i64 sB2, .i .i64 sA0, .i .i64 sA1]] => some (ok (R06_Reflections sB0 sB1 sB2 sA0 sA1), [.s [.i .i64 ((val (R06_Reflections sB0 sB1 sB2 sA0 sA1)).1), .i .i64 ((val (R06_Reflections sB0 sB1 sB2 sA0 sA1)).2.1), .i .i64 ((val (R06_Reflections sB0 sB1 sB2 sA0 sA1)).2.2.1), .i .i64 ((val (R06_Reflections sB0 sB1 sB2 sA0 sA1)).2.2.2.1)], .d (.i .i64 ((val (R06_Reflections sB0 sB1 sB2 sA0 sA1)).2.2.2.2))])
  | _ => none
def k_R06_Reflections : List (Option Cont) := [none]
abbrev sp_58 : Specs → Specs := addK 58 true (pureK k_R06_Reflections g_R06_Reflections)
set_option maxRecDepth 100000 in
theorem R06_Reflections_vc (sB0 : Int) (sB1 : Int) (sB2 : Int) (sA0 : Int) (sA1 : Int) (r : Int × Int × Int × Int × Int) (h : Option.bind (R06_Reflections sB0 sB1 sB2 sA0 sA1) some = some r) : runF Try.f58 ((sp_114 sp0)) (fun _ _ _ => none) [.s [.i .i64 sB0, .i .i64 sB1, .i .i64 sB2, .i .i64 sA0, .i .i64 sA1]] [.s [.i .i64 r.1, .i .i64 r.2.1, .i .i64 r.2.2.1, .i .i64 r.2.2.2.1], .d (.i .i64 r.2.2.2.2)] := by
  refine Eq.mp (by kernel_rfl : (
  (Ob ((0 : Int) ≤ (1 : Int) ∧ (1 : Int) < (↑(2 : Nat) : Int)) ∧
   Br (IntKind.wrap IntKind.i64 ((16384 : Int) + sA1) == (0 : Int))
   ((Ob (True) ∧
   (Ob (True) ∧
   (Ob ((0 : Int) = r.1) ∧
   (Ob ((0 : Int) = r.2.1) ∧
   (Ob ((0 : Int) = r.2.2.1) ∧
   (Ob ((0 : Int) = r.2.2.2.1) ∧
   (Ob ((11 : Int) = r.2.2.2.2) ∧
   True))))))))
   ((Ob ((0 : Int) ≤ (1 : Int) ∧ (1 : Int) < (↑(2 : Nat) : Int)) ∧
   (Ob (ok (R06_fraction sA1 (16384 : Int))) ∧
   (Ob ((0 : Int) ≤ (0 : Int) ∧ (0 : Int) < (↑(2 : Nat) : Int)) ∧
   (Ob ((0 : Int) ≤ (1 : Int) ∧ (1 : Int) < (↑(2 : Nat) : Int)) ∧
   (Ob (ok (R06_fraction sA0 (IntKind.wrap IntKind.i64 ((16384 : Int) + sA1)))) ∧
   (Ob (True) ∧
   (Ob (True) ∧
   (Ob ((val (R06_fraction sA1 (16384 : Int))).1 = r.1) ∧
   (Ob ((val (R06_fraction sA1 (16384 : Int))).2 = r.2.1) ∧
   (Ob ((val (R06_fraction sA0 (IntKind.wrap IntKind.i64 ((16384 : Int) + sA1)))).1 = r.2.2.1) ∧
   (Ob ((val (R06_fraction sA0 (IntKind.wrap IntKind.i64 ((16384 : Int) + sA1)))).2 = r.2.2.2.1) ∧
   (Ob ((0 : Int) = r.2.2.2.2) ∧
   True))))))))))))))) = _) ?_
  refine ob_c (p := (0 : Int) ≤ (1 : Int) ∧ (1 : Int) < (↑(2 : Nat) : Int)) (by decide) ?_
  refine br_b h (fun h => ?_) (fun h => ?_)
  · refine ob_t ?_
    refine ob_t ?_
    exact ret_s h (fun e => by subst e; exact (by repeat' (first | exact trivial | exact ⟨rfl⟩ | refine And.intro ?_ ?_)))
  · refine ob_c (p := (0 : Int) ≤ (1 : Int) ∧ (1 : Int) < (↑(2 : Nat) : Int)) (by decide) ?_
    refine call_s h fun h => ?_
    refine ob_c (p := (0 : Int) ≤ (0 : Int) ∧ (0 : Int) < (↑(2 : Nat) : Int)) (by decide) ?_
    refine ob_c (p := (0 : Int) ≤ (1 : Int) ∧ (1 : Int) < (↑(2 : Nat) : Int)) (by decide) ?_
    refine call_s h fun h => ?_
    refine ob_t ?_
    refine ob_t ?_
    exact ret_s h (fun e => by subst e; exact (by repeat' (first | exact trivial | exact ⟨rfl⟩ | refine And.intro ?_ ?_)))
set_option maxRecDepth 100000 in
theorem R06_Reflections_ok : SpecOK Try.prog 58 true (pureK k_R06_Reflections g_R06_Reflections) := by
  refine pureK_ok (sp := (sp_114 sp0)) (fn := Try.f58) (body := bodyOf Try.f58) mixed (sp_114_ok sp0_ok) Try.func58 (by kernel_rfl) (by kernel_rfl) fun as_ ob rs h ho => ?_
  unfold g_R06_Reflections at h
  split at h
  · rename_i sB0 sB1 sB2 sA0 sA1
    cases h
    exact ⟨Nat.le_of_ble_eq_true rfl, _, _, R06_Reflections_vc sB0 sB1 sB2 sA0 sA1 _ (ok_some ho)⟩
  · cases h
theorem sp_58_ok {sp : Specs} (h : SpecsOK Try.prog sp) : SpecsOK Try.prog (sp_58 sp) := addK_ok R06_Reflections_ok h

/-- shoebox/shoeboxlaw06.FilterChecks -/
def L06_FilterChecks (c : List (List Int)) (sB0 : Int) (sB1 : Int) (sB2 : Int) (sA0 : Int) (sA1 : Int) : Option Bool :=
  Option.bind (L06_few c) fun r0 =>
  if (!r0) = true then
   some true
  else
   Option.bind (R06_Copy c) fun r1 =>
   if List.length r1 ≤ (1000000000 : Nat) then
    Option.bind (R06_Copy c) fun r2 =>
    Option.bind (F_FirstUnstable r1) fun r3 =>
    Option.bind (R06_CheckCascade c) fun r4 =>
    if (Sx06.chkE r1 != r4.2) = true then
     some false
    else
     if (Sx06.chkI r1 != r4.1) = true then
      some false
     else
      if (r4.2 == (0 : Int)) = true then
       Option.bind (R06_FirstUnstable c) fun r5 =>
       if (r3.2 != r5.2) = true then
        some false
       else
        if (r3.1 != r5.1) = true then
         some false
        else
         Option.bind (F_IsStable sB0 sB1 sB2 sA0 sA1) fun r6 =>
         Option.bind (F_Reflections sB0 sB1 sB2 sA0 sA1) fun r7 =>
         Option.bind (R06_CheckSection sB0 sB1 sB2 sA0 sA1) fun r8 =>
         if (Sx06.chkS sB0 sB1 sB2 sA0 sA1 != r8) = true then
          some false
         else
          if (r8 != (0 : Int)) = true then
           if (r6.2 == r8) = true then
            if (r7.2.2.2.2 == r8) = true then
             if (!r6.1) = true then
              some (r7.1 == (0 : Int) && r7.2.1 == (0 : Int) && (r7.2.2.1 == (0 : Int) && r7.2.2.2.1 == (0 : Int)))
             else
              some false
            else
             some false
           else
            some false
          else
           Option.bind (R06_Reflections sB0 sB1 sB2 sA0 sA1) fun r9 =>
           if (r6.2 != (0 : Int)) = true then
            some false
           else
            Option.bind (R06_IsStable sB0 sB1 sB2 sA0 sA1) fun r10 =>
            if (!r6.1 == r10) = true then
             some false
            else
             if (r7.2.2.2.2 != r9.2.2.2.2) = true then
              some false
             else
              if (!(r7.1 == r9.1 && r7.2.1 == r9.2.1 && (r7.2.2.1 == r9.2.2.1 && r7.2.2.2.1 == r9.2.2.2.1))) = true then
               some false
              else
               if (r9.2.2.2.2 != (0 : Int)) = true then
                some true
               else
                if (-9223372036854775807 : Int) ≤ r7.1 ∧ r7.1 ≤ (9223372036854775807 : Int) then
                 if max r7.1 (-r7.1) < r7.2.1 then
                  if (-9223372036854775807 : Int) ≤ r7.2.2.1 ∧ r7.2.2.1 ≤ (9223372036854775807 : Int) then
                   some (r6.1 == decide (max r7.2.2.1 (-r7.2.2.1) < r7.2.2.2.1))
                  else none
                 else
                  some (r6.1 == false)
                else none
      else
       if (r3.2 != r4.2) = true then
        some false
       else
        if (r3.1 != (0 : Int)) = true then
         some false
        else
         Option.bind (F_IsStable sB0 sB1 sB2 sA0 sA1) fun r11 =>
         Option.bind (F_Reflections sB0 sB1 sB2 sA0 sA1) fun r12 =>
         Option.bind (R06_CheckSection sB0 sB1 sB2 sA0 sA1) fun r13 =>
         if (Sx06.chkS sB0 sB1 sB2 sA0 sA1 != r13) = true then
          some false
         else
          if (r13 != (0 : Int)) = true then
           if (r11.2 == r13) = true then
            if (r12.2.2.2.2 == r13) = true then
             if (!r11.1) = true then
              some (r12.1 == (0 : Int) && r12.2.1 == (0 : Int) && (r12.2.2.1 == (0 : Int) && r12.2.2.2.1 == (0 : Int)))
             else
              some false
            else
             some false
           else
            some false
          else
           Option.bind (R06_Reflections sB0 sB1 sB2 sA0 sA1) fun r14 =>
           if (r11.2 != (0 : Int)) = true then
            some false
           else
            Option.bind (R06_IsStable sB0 sB1 sB2 sA0 sA1) fun r15 =>
            if (!r11.1 == r15) = true then
             some false
            else
             if (r12.2.2.2.2 != r14.2.2.2.2) = true then
              some false
             else
              if (!(r12.1 == r14.1 && r12.2.1 == r14.2.1 && (r12.2.2.1 == r14.2.2.1 && r12.2.2.2.1 == r14.2.2.2.1))) = true then
               some false
              else
               if (r14.2.2.2.2 != (0 : Int)) = true then
                some true
               else
                if (-9223372036854775807 : Int) ≤ r12.1 ∧ r12.1 ≤ (9223372036854775807 : Int) then
                 if max r12.1 (-r12.1) < r12.2.1 then
                  if (-9223372036854775807 : Int) ≤ r12.2.2.1 ∧ r12.2.2.1 ≤ (9223372036854775807 : Int) then
                   some (r11.1 == decide (max r12.2.2.1 (-r12.2.2.1) < r12.2.2.2.1))
                  else none
                 else
                  some (r11.1 == false)
                else none
   else none
def g_L06_FilterChecks : List A → Option (Prop × List RV)
  | [.r (.recs 5 c), .s [.i .i64 sB0, .i .i64 sB1, .i .i64 sB2, .i .i64 sA0, .i .i64 sA1]] => some (ok (L06_FilterChecks c sB0 sB1 sB2 sA0 sA1), [.d (.b ((val (L06_FilterChecks c sB0 sB1 sB2 sA0 sA1))))])
  | _ => none
def k_L06_FilterChecks : List (Option Cont) := [some (.recs 5 []), none]
abbrev sp_11 : Specs → Specs := addK 11 true (pureK k_L06_FilterChecks g_L06_FilterChecks)
set_option maxRecDepth 100000 in
theorem L06_FilterChecks_vc (c : List (List Int)) (sB0 : Int) (sB1 : Int) (sB2 : Int) (sA0 : Int) (sA1 : Int) (r : Bool) (h : Option.bind (L06_FilterChecks c sB0 sB1 sB2 sA0 sA1) some = some r) : runF Try.f11 ((sp_18 (sp_24 (sp_53 (sp_27 (sp_54 (sp_30 (sp_55 (sp_48 (sp_56 (sp_28 (sp_57 (sp_58 (sp_49 (sp_23 sp0))))))))))))))) (fun _ _ _ => none) [.r (.recs 5 c), .s [.i .i64 sB0, .i .i64 sB1, .i .i64 sB2, .i .i64 sA0, .i .i64 sA1]] [.d (.b r)] := by
  refine Eq.mp (by kernel_rfl : (
  (Ob (ok L06_awake) ∧
   (Ob (ok (L06_few c)) ∧
   Br (!val (L06_few c))
   ((Ob (True) ∧
   (Ob (true = r) ∧
   True)))
   ((Ob (ok (R06_Copy c)) ∧
   (Ob (List.length (val (R06_Copy c)) ≤ (1000000000 : Nat)) ∧
   (Ob (ok (R06_Copy c)) ∧
   (Ob (ok (F_FirstUnstable (val (R06_Copy c)))) ∧
   (Ob (ok (R06_CheckCascade c)) ∧
   Br (Sx06.chkE (val (R06_Copy c)) != (val (R06_CheckCascade c)).2)
   ((Ob (True) ∧
   (Ob (false = r) ∧
   True)))
   (Br (Sx06.chkI (val (R06_Copy c)) != (val (R06_CheckCascade c)).1)
   ((Ob (True) ∧
   (Ob (false = r) ∧
   True)))
   (Br ((val (R06_CheckCascade c)).2 == (0 : Int))
   ((Ob (ok (R06_FirstUnstable c)) ∧
   Br ((val (F_FirstUnstable (val (R06_Copy c)))).2 != (val (R06_FirstUnstable c)).2)
   ((Ob (True) ∧
   (Ob (false = r) ∧
   True)))
   (Br ((val (F_FirstUnstable (val (R06_Copy c)))).1 != (val (R06_FirstUnstable c)).1)
   ((Ob (True) ∧
   (Ob (false = r) ∧
   True)))
   ((Ob (ok (F_IsStable sB0 sB1 sB2 sA0 sA1)) ∧
   (Ob (ok (F_Reflections sB0 sB1 sB2 sA0 sA1)) ∧
   (Ob (ok (R06_CheckSection sB0 sB1 sB2 sA0 sA1)) ∧
   (Ob (True) ∧
   Br (Sx06.chkS sB0 sB1 sB2 sA0 sA1 != val (R06_CheckSection sB0 sB1 sB2 sA0 sA1))
   ((Ob (True) ∧
   (Ob (false = r) ∧
   True)))
   (Br (val (R06_CheckSection sB0 sB1 sB2 sA0 sA1) != (0 : Int))
   (Br ((val (F_IsStable sB0 sB1 sB2 sA0 sA1)).2 == val (R06_CheckSection sB0 sB1 sB2 sA0 sA1))
   (Br ((val (F_Reflections sB0 sB1 sB2 sA0 sA1)).2.2.2.2 == val (R06_CheckSection sB0 sB1 sB2 sA0 sA1))
   (Br (!(val (F_IsStable sB0 sB1 sB2 sA0 sA1)).1)
   ((Ob (True) ∧
   (Ob (((val (F_Reflections sB0 sB1 sB2 sA0 sA1)).1 == (0 : Int) && (val (F_Reflections sB0 sB1 sB2 sA0 sA1)).2.1 == (0 : Int) && ((val (F_Reflections sB0 sB1 sB2 sA0 sA1)).2.2.1 == (0 : Int) && (val (F_Reflections sB0 sB1 sB2 sA0 sA1)).2.2.2.1 == (0 : Int))) = r) ∧
   True)))
   ((Ob (True) ∧
   (Ob (false = r) ∧
   True))))
   ((Ob (True) ∧
   (Ob (false = r) ∧
   True))))
   ((Ob (True) ∧
   (Ob (false = r) ∧
   True))))
   ((Ob (ok (R06_Reflections sB0 sB1 sB2 sA0 sA1)) ∧
   Br ((val (F_IsStable sB0 sB1 sB2 sA0 sA1)).2 != (0 : Int))
   ((Ob (True) ∧
   (Ob (false = r) ∧
   True)))
   ((Ob (ok (R06_IsStable sB0 sB1 sB2 sA0 sA1)) ∧
   Br (!(val (F_IsStable sB0 sB1 sB2 sA0 sA1)).1 == val (R06_IsStable sB0 sB1 sB2 sA0 sA1))
   ((Ob (True) ∧
   (Ob (false = r) ∧
   True)))
   (Br ((val (F_Reflections sB0 sB1 sB2 sA0 sA1)).2.2.2.2 != (val (R06_Reflections sB0 sB1 sB2 sA0 sA1)).2.2.2.2)
   ((Ob (True) ∧
   (Ob (false = r) ∧
   True)))
   (Br (!((val (F_Reflections sB0 sB1 sB2 sA0 sA1)).1 == (val (R06_Reflections sB0 sB1 sB2 sA0 sA1)).1 && (val (F_Reflections sB0 sB1 sB2 sA0 sA1)).2.1 == (val (R06_Reflections sB0 sB1 sB2 sA0 sA1)).2.1 && ((val (F_Reflections sB0 sB1 sB2 sA0 sA1)).2.2.1 == (val (R06_Reflections sB0 sB1 sB2 sA0 sA1)).2.2.1 && (val (F_Reflections sB0 sB1 sB2 sA0 sA1)).2.2.2.1 == (val (R06_Reflections sB0 sB1 sB2 sA0 sA1)).2.2.2.1)))
   ((Ob (True) ∧
   (Ob (false = r) ∧
   True)))
   (Br ((val (R06_Reflections sB0 sB1 sB2 sA0 sA1)).2.2.2.2 != (0 : Int))
   ((Ob (True) ∧
   (Ob (true = r) ∧
   True)))
   ((Ob ((0 : Int) ≤ (0 : Int) ∧ (0 : Int) < (↑(2 : Nat) : Int)) ∧
   (Ob ((-9223372036854775807 : Int) ≤ (val (F_Reflections sB0 sB1 sB2 sA0 sA1)).1 ∧ (val (F_Reflections sB0 sB1 sB2 sA0 sA1)).1 ≤ (9223372036854775807 : Int)) ∧
   (Ob ((0 : Int) ≤ (0 : Int) ∧ (0 : Int) < (↑(2 : Nat) : Int)) ∧
   Br (decide (max (val (F_Reflections sB0 sB1 sB2 sA0 sA1)).1 (-(val (F_Reflections sB0 sB1 sB2 sA0 sA1)).1) < (val (F_Reflections sB0 sB1 sB2 sA0 sA1)).2.1))
   ((Ob ((0 : Int) ≤ (1 : Int) ∧ (1 : Int) < (↑(2 : Nat) : Int)) ∧
   (Ob ((-9223372036854775807 : Int) ≤ (val (F_Reflections sB0 sB1 sB2 sA0 sA1)).2.2.1 ∧ (val (F_Reflections sB0 sB1 sB2 sA0 sA1)).2.2.1 ≤ (9223372036854775807 : Int)) ∧
   (Ob ((0 : Int) ≤ (1 : Int) ∧ (1 : Int) < (↑(2 : Nat) : Int)) ∧
   (Ob (True) ∧
   (Ob (((val (F_IsStable sB0 sB1 sB2 sA0 sA1)).1 == decide (max (val (F_Reflections sB0 sB1 sB2 sA0 sA1)).2.2.1 (-(val (F_Reflections sB0 sB1 sB2 sA0 sA1)).2.2.1) < (val (F_Reflections sB0 sB1 sB2 sA0 sA1)).2.2.2.1)) = r) ∧
   True))))))
   ((Ob (True) ∧
   (Ob (((val (F_IsStable sB0 sB1 sB2 sA0 sA1)).1 == false) = r) ∧
   True)))))))))))))))))))))))
   (Br ((val (F_FirstUnstable (val (R06_Copy c)))).2 != (val (R06_CheckCascade c)).2)
   ((Ob (True) ∧
   (Ob (false = r) ∧
   True)))
   (Br ((val (F_FirstUnstable (val (R06_Copy c)))).1 != (0 : Int))
   ((Ob (True) ∧
   (Ob (false = r) ∧
   True)))
   ((Ob (ok (F_IsStable sB0 sB1 sB2 sA0 sA1)) ∧
   (Ob (ok (F_Reflections sB0 sB1 sB2 sA0 sA1)) ∧
   (Ob (ok (R06_CheckSection sB0 sB1 sB2 sA0 sA1)) ∧
   (Ob (True) ∧
   Br (Sx06.chkS sB0 sB1 sB2 sA0 sA1 != val (R06_CheckSection sB0 sB1 sB2 sA0 sA1))
   ((Ob (True) ∧
   (Ob (false = r) ∧
   True)))
   (Br (val (R06_CheckSection sB0 sB1 sB2 sA0 sA1) != (0 : Int))
   (Br ((val (F_IsStable sB0 sB1 sB2 sA0 sA1)).2 == val (R06_CheckSection sB0 sB1 sB2 sA0 sA1))
   (Br ((val (F_Reflections sB0 sB1 sB2 sA0 sA1)).2.2.2.2 == val (R06_CheckSection sB0 sB1 sB2 sA0 sA1))
   (Br (!(val (F_IsStable sB0 sB1 sB2 sA0 sA1)).1)
   ((Ob (True) ∧
   (Ob (((val (F_Reflections sB0 sB1 sB2 sA0 sA1)).1 == (0 : Int) && (val (F_Reflections sB0 sB1 sB2 sA0 sA1)).2.1 == (0 : Int) && ((val (F_Reflections sB0 sB1 sB2 sA0 sA1)).2.2.1 == (0 : Int) && (val (F_Reflections sB0 sB1 sB2 sA0 sA1)).2.2.2.1 == (0 : Int))) = r) ∧
   True)))
   ((Ob (True) ∧
   (Ob (false = r) ∧
   True))))
   ((Ob (True) ∧
   (Ob (false = r) ∧
   True))))
   ((Ob (True) ∧
   (Ob (false = r) ∧
   True))))
   ((Ob (ok (R06_Reflections sB0 sB1 sB2 sA0 sA1)) ∧
   Br ((val (F_IsStable sB0 sB1 sB2 sA0 sA1)).2 != (0 : Int))
   ((Ob (True) ∧
   (Ob (false = r) ∧
   True)))
   ((Ob (ok (R06_IsStable sB0 sB1 sB2 sA0 sA1)) ∧
   Br (!(val (F_IsStable sB0 sB1 sB2 sA0 sA1)).1 == val (R06_IsStable sB0 sB1 sB2 sA0 sA1))
   ((Ob (True) ∧
   (Ob (false = r) ∧
   True)))
   (Br ((val (F_Reflections sB0 sB1 sB2 sA0 sA1)).2.2.2.2 != (val (R06_Reflections sB0 sB1 sB2 sA0 sA1)).2.2.2.2)
   ((Ob (True) ∧
   (Ob (false = r) ∧
   True)))
   (Br (!((val (F_Reflections sB0 sB1 sB2 sA0 sA1)).1 == (val (R06_Reflections sB0 sB1 sB2 sA0 sA1)).1 && (val (F_Reflections sB0 sB1 sB2 sA0 sA1)).2.1 == (val (R06_Reflections sB0 sB1 sB2 sA0 sA1)).2.1 && ((val (F_Reflections sB0 sB1 sB2 sA0 sA1)).2.2.1 == (val (R06_Reflections sB0 sB1 sB2 sA0 sA1)).2.2.1 && (val (F_Reflections sB0 sB1 sB2 sA0 sA1)).2.2.2.1 == (val (R06_Reflections sB0 sB1 sB2 sA0 sA1)).2.2.2.1)))
   ((Ob (True) ∧
   (Ob (false = r) ∧
   True)))
   (Br ((val (R06_Reflections sB0 sB1 sB2 sA0 sA1)).2.2.2.2 != (0 : Int))
   ((Ob (True) ∧
   (Ob (true = r) ∧
   True)))
   ((Ob ((0 : Int) ≤ (0 : Int) ∧ (0 : Int) < (↑(2 : Nat) : Int)) ∧
   (Ob ((-9223372036854775807 : Int) ≤ (val (F_Reflections sB0 sB1 sB2 sA0 sA1)).1 ∧ (val (F_Reflections sB0 sB1 sB2 sA0 sA1)).1 ≤ (9223372036854775807 : Int)) ∧
   (Ob ((0 : Int) ≤ (0 : Int) ∧ (0 : Int) < (↑(2 : Nat) : Int)) ∧
   Br (decide (max (val (F_Reflections sB0 sB1 sB2 sA0 sA1)).1 (-(val (F_Reflections sB0 sB1 sB2 sA0 sA1)).1) < (val (F_Reflections sB0 sB1 sB2 sA0 sA1)).2.1))
   ((Ob ((0 : Int) ≤ (1 : Int) ∧ (1 : Int) < (↑(2 : Nat) : Int)) ∧
   (Ob ((-9223372036854775807 : Int) ≤ (val (F_Reflections sB0 sB1 sB2 sA0 sA1)).2.2.1 ∧ (val (F_Reflections sB0 sB1 sB2 sA0 sA1)).2.2.1 ≤ (9223372036854775807 : Int)) ∧
   (Ob ((0 : Int) ≤ (1 : Int) ∧ (1 : Int) < (↑(2 : Nat) : Int)) ∧
   (Ob (True) ∧
   (Ob (((val (F_IsStable sB0 sB1 sB2 sA0 sA1)).1 == decide (max (val (F_Reflections sB0 sB1 sB2 sA0 sA1)).2.2.1 (-(val (F_Reflections sB0 sB1 sB2 sA0 sA1)).2.2.1) < (val (F_Reflections sB0 sB1 sB2 sA0 sA1)).2.2.2.1)) = r) ∧
   True))))))
   ((Ob (True) ∧
   (Ob (((val (F_IsStable sB0 sB1 sB2 sA0 sA1)).1 == false) = r) ∧
   True))))))))))))))))))))))))))))))))) = _) ?_
  refine ob_c (p := ok L06_awake) (by decide) ?_
  refine call_s h fun h => ?_
  refine br_b h (fun h => ?_) (fun h => ?_)
  · refine ob_t ?_
    exact ret_s h (fun e => by subst e; exact (by repeat' (first | exact trivial | exact ⟨rfl⟩ | refine And.intro ?_ ?_)))
  · refine call_s h fun h => ?_
    refine ob_s h fun h => ?_
    refine call_s h fun h => ?_
    refine call_s h fun h => ?_
    refine call_s h fun h => ?_
    refine br_b h (fun h => ?_) (fun h => ?_)
    · refine ob_t ?_
      exact ret_s h (fun e => by subst e; exact (by repeat' (first | exact trivial | exact ⟨rfl⟩ | refine And.intro ?_ ?_)))
    · refine br_b h (fun h => ?_) (fun h => ?_)
      · refine ob_t ?_
        exact ret_s h (fun e => by subst e; exact (by repeat' (first | exact trivial | exact ⟨rfl⟩ | refine And.intro ?_ ?_)))
      · refine br_b h (fun h => ?_) (fun h => ?_)
        · refine call_s h fun h => ?_
          refine br_b h (fun h => ?_) (fun h => ?_)
          · refine ob_t ?_
            exact ret_s h (fun e => by subst e; exact (by repeat' (first | exact trivial | exact ⟨rfl⟩ | refine And.intro ?_ ?_)))
          · refine br_b h (fun h => ?_) (fun h => ?_)
            · refine ob_t ?_
              exact ret_s h (fun e => by subst e; exact (by repeat' (first | exact trivial | exact ⟨rfl⟩ | refine And.intro ?_ ?_)))
            · refine call_s h fun h => ?_
              refine call_s h fun h => ?_
              refine call_s h fun h => ?_
              refine ob_t ?_
              refine br_b h (fun h => ?_) (fun h => ?_)
              · refine ob_t ?_
                exact ret_s h (fun e => by subst e; exact (by repeat' (first | exact trivial | exact ⟨rfl⟩ | refine And.intro ?_ ?_)))
              · refine br_b h (fun h => ?_) (fun h => ?_)
                · refine br_b h (fun h => ?_) (fun h => ?_)
                  · refine br_b h (fun h => ?_) (fun h => ?_)
                    · refine br_b h (fun h => ?_) (fun h => ?_)
                      · refine ob_t ?_
                        exact ret_s h (fun e => by subst e; exact (by repeat' (first | exact trivial | exact ⟨rfl⟩ | refine And.intro ?_ ?_)))
                      · refine ob_t ?_
                        exact ret_s h (fun e => by subst e; exact (by repeat' (first | exact trivial | exact ⟨rfl⟩ | refine And.intro ?_ ?_)))
                    · refine ob_t ?_
                      exact ret_s h (fun e => by subst e; exact (by repeat' (first | exact trivial | exact ⟨rfl⟩ | refine And.intro ?_ ?_)))
                  · refine ob_t ?_
                    exact ret_s h (fun e => by subst e; exact (by repeat' (first | exact trivial | exact ⟨rfl⟩ | refine And.intro ?_ ?_)))
                · refine call_s h fun h => ?_
                  refine br_b h (fun h => ?_) (fun h => ?_)
                  · refine ob_t ?_
                    exact ret_s h (fun e => by subst e; exact (by repeat' (first | exact trivial | exact ⟨rfl⟩ | refine And.intro ?_ ?_)))
                  · refine call_s h fun h => ?_
                    refine br_b h (fun h => ?_) (fun h => ?_)
                    · refine ob_t ?_
                      exact ret_s h (fun e => by subst e; exact (by repeat' (first | exact trivial | exact ⟨rfl⟩ | refine And.intro ?_ ?_)))
                    · refine br_b h (fun h => ?_) (fun h => ?_)
                      · refine ob_t ?_
                        exact ret_s h (fun e => by subst e; exact (by repeat' (first | exact trivial | exact ⟨rfl⟩ | refine And.intro ?_ ?_)))
                      · refine br_b h (fun h => ?_) (fun h => ?_)
                        · refine ob_t ?_
                          exact ret_s h (fun e => by subst e; exact (by repeat' (first | exact trivial | exact ⟨rfl⟩ | refine And.intro ?_ ?_)))
                        · refine br_b h (fun h => ?_) (fun h => ?_)
                          · refine ob_t ?_
                            exact ret_s h (fun e => by subst e; exact (by repeat' (first | exact trivial | exact ⟨rfl⟩ | refine And.intro ?_ ?_)))
                          · refine ob_c (p := (0 : Int) ≤ (0 : Int) ∧ (0 : Int) < (↑(2 : Nat) : Int)) (by decide) ?_
                            refine ob_s h fun h => ?_
                            refine ob_c (p := (0 : Int) ≤ (0 : Int) ∧ (0 : Int) < (↑(2 : Nat) : Int)) (by decide) ?_
                            refine br_d h (fun h => ?_) (fun h => ?_)
                            · refine ob_c (p := (0 : Int) ≤ (1 : Int) ∧ (1 : Int) < (↑(2 : Nat) : Int)) (by decide) ?_
                              refine ob_s h fun h => ?_
                              refine ob_c (p := (0 : Int) ≤ (1 : Int) ∧ (1 : Int) < (↑(2 : Nat) : Int)) (by decide) ?_
                              refine ob_t ?_
                              exact ret_s h (fun e => by subst e; exact (by repeat' (first | exact trivial | exact ⟨rfl⟩ | refine And.intro ?_ ?_)))
                            · refine ob_t ?_
                              exact ret_s h (fun e => by subst e; exact (by repeat' (first | exact trivial | exact ⟨rfl⟩ | refine And.intro ?_ ?_)))
        · refine br_b h (fun h => ?_) (fun h => ?_)
          · refine ob_t ?_
            exact ret_s h (fun e => by subst e; exact (by repeat' (first | exact trivial | exact ⟨rfl⟩ | refine And.intro ?_ ?_)))
          · refine br_b h (fun h => ?_) (fun h => ?_)
            · refine ob_t ?_
              exact ret_s h (fun e => by subst e; exact (by repeat' (first | exact trivial | exact ⟨rfl⟩ | refine And.intro ?_ ?_)))
            · refine call_s h fun h => ?_
              refine call_s h fun h => ?_
              refine call_s h fun h => ?_
              refine ob_t ?_
              refine br_b h (fun h => ?_) (fun h => ?_)
              · refine ob_t ?_
                exact ret_s h (fun e => by subst e; exact (by repeat' (first | exact trivial | exact ⟨rfl⟩ | refine And.intro ?_ ?_)))
              · refine br_b h (fun h => ?_) (fun h => ?_)
                · refine br_b h (fun h => ?_) (fun h => ?_)
                  · refine br_b h (fun h => ?_) (fun h => ?_)
                    · refine br_b h (fun h => ?_) (fun h => ?_)
                      · refine ob_t ?_
                        exact ret_s h (fun e => by subst e; exact (by repeat' (first | exact trivial | exact ⟨rfl⟩ | refine And.intro ?_ ?_)))
                      · refine ob_t ?_
                        exact ret_s h (fun e => by subst e; exact (by repeat' (first | exact trivial | exact ⟨rfl⟩ | refine And.intro ?_ ?_)))
                    · refine ob_t ?_
                      exact ret_s h (fun e => by subst e; exact (by repeat' (first | exact trivial | exact ⟨rfl⟩ | refine And.intro ?_ ?_)))
                  · refine ob_t ?_
                    exact ret_s h (fun e => by subst e; exact (by repeat' (first | exact trivial | exact ⟨rfl⟩ | refine And.intro ?_ ?_)))
                · refine call_s h fun h => ?_
                  refine br_b h (fun h => ?_) (fun h => ?_)
                  · refine ob_t ?_
                    exact ret_s h (fun e => by subst e; exact (by repeat' (first | exact trivial | exact ⟨rfl⟩ | refine And.intro ?_ ?_)))
                  · refine call_s h fun h => ?_
                    refine br_b h (fun h => ?_) (fun h => ?_)
                    · refine ob_t ?_
                      exact ret_s h (fun e => by subst e; exact (by repeat' (first | exact trivial | exact ⟨rfl⟩ | refine And.intro ?_ ?_)))
                    · refine br_b h (fun h => ?_) (fun h => ?_)
                      · refine ob_t ?_
                        exact ret_s h (fun e => by subst e; exact (by repeat' (first | exact trivial | exact ⟨rfl⟩ | refine And.intro ?_ ?_)))
                      · refine br_b h (fun h => ?_) (fun h => ?_)
                        · refine ob_t ?_
                          exact ret_s h (fun e => by subst e; exact (by repeat' (first | exact trivial | exact ⟨rfl⟩ | refine And.intro ?_ ?_)))
                        · refine br_b h (fun h => ?_) (fun h => ?_)
                          · refine ob_t ?_
                            exact ret_s h (fun e => by subst e; exact (by repeat' (first | exact trivial | exact ⟨rfl⟩ | refine And.intro ?_ ?_)))
                          · refine ob_c (p := (0 : Int) ≤ (0 : Int) ∧ (0 : Int) < (↑(2 : Nat) : Int)) (by decide) ?_
                            refine ob_s h fun h => ?_
                            refine ob_c (p := (0 : Int) ≤ (0 : Int) ∧ (0 : Int) < (↑(2 : Nat) : Int)) (by decide) ?_
                            refine br_d h (fun h => ?_) (fun h => ?_)
                            · refine ob_c (p := (0 : Int) ≤ (1 : Int) ∧ (1 : Int) < (↑(2 : Nat) : Int)) (by decide) ?_
                              refine ob_s h fun h => ?_
                              refine ob_c (p := (0 : Int) ≤ (1 : Int) ∧ (1 : Int) < (↑(2 : Nat) : Int)) (by decide) ?_
                              refine ob_t ?_
                              exact ret_s h (fun e => by subst e; exact (by repeat' (first | exact trivial | exact ⟨rfl⟩ | refine And.intro ?_ ?_)))
                            · refine ob_t ?_
                              exact ret_s h (fun e => by subst e; exact (by repeat' (first | exact trivial | exact ⟨rfl⟩ | refine And.intro ?_ ?_)))
set_option maxRecDepth 100000 in
theorem L06_FilterChecks_ok : SpecOK Try.prog 11 true (pureK k_L06_FilterChecks g_L06_FilterChecks) := by
  refine pureK_ok (sp := (sp_18 (sp_24 (sp_53 (sp_27 (sp_54 (sp_30 (sp_55 (sp_48 (sp_56 (sp_28 (sp_57 (sp_58 (sp_49 (sp_23 sp0))))))))))))))) (fn := Try.f11) (body := bodyOf Try.f11) mixed (sp_18_ok (sp_24_ok (sp_53_ok (sp_27_ok (sp_54_ok (sp_30_ok (sp_55_ok (sp_48_ok (sp_56_ok (sp_28_ok (sp_57_ok (sp_58_ok (sp_49_ok (sp_23_ok sp0_ok)))))))))))))) Try.func11 (by kernel_rfl) (by kernel_rfl) fun as_ ob rs h ho => ?_
  unfold g_L06_FilterChecks at h
  split at h
  · rename_i c sB0 sB1 sB2 sA0 sA1
    cases h
    exact ⟨Nat.le_of_ble_eq_true rfl, _, _, L06_FilterChecks_vc c sB0 sB1 sB2 sA0 sA1 _ (ok_some ho)⟩
  · cases h
theorem sp_11_ok {sp : Specs} (h : SpecsOK Try.prog sp) : SpecsOK Try.prog (sp_11 sp) := addK_ok L06_FilterChecks_ok h
/-- shoebox/shoeboxref06.TurnErr -/
def R06_TurnErr (tP : Int) (tQ : Int) (tR : Int) : Option Int :=
  if (!(decide ((1 : Int) ≤ tR) && decide (tR ≤ (100 : Int)))) = true then
   some (2 : Int)
  else
   if (!(decide (IntKind.wrap IntKind.i64 ((0 : Int) - tR) ≤ tP) && decide (tP ≤ tR))) = true then
    some (10 : Int)
   else
    if (!(decide (IntKind.wrap IntKind.i64 ((0 : Int) - tR) ≤ tQ) && decide (tQ ≤ tR))) = true then
     some (10 : Int)
    else
     if (IntKind.wrap IntKind.i64 (IntKind.wrap IntKind.i64 (tP * tP) + IntKind.wrap IntKind.i64 (tQ * tQ)) != IntKind.wrap IntKind.i64 (tR * tR)) = true then
      some (10 : Int)
     else
      some (0 : Int)
def g_R06_TurnErr : List A → Option (Prop × List RV)
  | [.s [.i .i64 tP, .i .i64 tQ, .i .i64 tR]] => some (ok (R06_TurnErr tP tQ tR), [.d (.i .i64 ((val (R06_TurnErr tP tQ tR))))])
  | _ => none
def k_R06_TurnErr : List (Option Cont) := [none]
abbrev sp_42 : Specs → Specs := addK 42 true (pureK k_R06_TurnErr g_R06_TurnErr)
set_option maxRecDepth 100000 in
theorem R06_TurnErr_vc (tP : Int) (tQ : Int) (tR : Int) (r : Int) (h : Option.bind (R06_TurnErr tP tQ tR) some = some r) : runF Try.f42 ((sp_50 sp0)) (fun _ _ _ => none) [.s [.i .i64 tP, .i .i64 tQ, .i .i64 tR]] [.d (.i .i64 r)] := by
  refine Eq.mp (by kernel_rfl : (
  (Ob (True) ∧
   Br (!(decide ((1 : Int) ≤ tR) && decide (tR ≤ (100 : Int))))
   ((Ob (True) ∧
   (Ob ((2 : Int) = r) ∧
   True)))
   ((Ob (True) ∧
   Br (!(decide (IntKind.wrap IntKind.i64 ((0 : Int) - tR) ≤ tP) && decide (tP ≤ tR)))
   ((Ob (True) ∧
   (Ob ((10 : Int) = r) ∧
   True)))
   ((Ob (True) ∧
   Br (!(decide (IntKind.wrap IntKind.i64 ((0 : Int) - tR) ≤ tQ) && decide (tQ ≤ tR)))
   ((Ob (True) ∧
   (Ob ((10 : Int) = r) ∧
   True)))
   (Br (IntKind.wrap IntKind.i64 (IntKind.wrap IntKind.i64 (tP * tP) + IntKind.wrap IntKind.i64 (tQ * tQ)) != IntKind.wrap IntKind.i64 (tR * tR))
   ((Ob (True) ∧
   (Ob ((10 : Int) = r) ∧
   True)))
   ((Ob (True) ∧
   (Ob ((0 : Int) = r) ∧
   True)))))))))) = _) ?_
  refine ob_t ?_
  refine br_b h (fun h => ?_) (fun h => ?_)
  · refine ob_t ?_
    exact ret_s h (fun e => by subst e; exact (by repeat' (first | exact trivial | exact ⟨rfl⟩ | refine And.intro ?_ ?_)))
  · refine ob_t ?_
    refine br_b h (fun h => ?_) (fun h => ?_)
    · refine ob_t ?_
      exact ret_s h (fun e => by subst e; exact (by repeat' (first | exact trivial | exact ⟨rfl⟩ | refine And.intro ?_ ?_)))
    · refine ob_t ?_
      refine br_b h (fun h => ?_) (fun h => ?_)
      · refine ob_t ?_
        exact ret_s h (fun e => by subst e; exact (by repeat' (first | exact trivial | exact ⟨rfl⟩ | refine And.intro ?_ ?_)))
      · refine br_b h (fun h => ?_) (fun h => ?_)
        · refine ob_t ?_
          exact ret_s h (fun e => by subst e; exact (by repeat' (first | exact trivial | exact ⟨rfl⟩ | refine And.intro ?_ ?_)))
        · refine ob_t ?_
          exact ret_s h (fun e => by subst e; exact (by repeat' (first | exact trivial | exact ⟨rfl⟩ | refine And.intro ?_ ?_)))
set_option maxRecDepth 100000 in
theorem R06_TurnErr_ok : SpecOK Try.prog 42 true (pureK k_R06_TurnErr g_R06_TurnErr) := by
  refine pureK_ok (sp := (sp_50 sp0)) (fn := Try.f42) (body := bodyOf Try.f42) mixed (sp_50_ok sp0_ok) Try.func42 (by kernel_rfl) (by kernel_rfl) fun as_ ob rs h ho => ?_
  unfold g_R06_TurnErr at h
  split at h
  · rename_i tP tQ tR
    cases h
    exact ⟨Nat.le_of_ble_eq_true rfl, _, _, R06_TurnErr_vc tP tQ tR _ (ok_some ho)⟩
  · cases h
theorem sp_42_ok {sp : Specs} (h : SpecsOK Try.prog sp) : SpecsOK Try.prog (sp_42 sp) := addK_ok R06_TurnErr_ok h

/-- shoebox/shoeboxref06.square -/
def R06_square (a : Int) (b : Int) (c : Int) (tP : Int) (tQ : Int) (tR : Int) : Option Int :=
  some (IntKind.wrap IntKind.i64 (IntKind.wrap IntKind.i64 (IntKind.wrap IntKind.i64 (IntKind.wrap IntKind.i64 (IntKind.wrap IntKind.i64 (a * IntKind.wrap IntKind.i64 (IntKind.wrap IntKind.i64 (tP * tP) - IntKind.wrap IntKind.i64 (tQ * tQ))) + IntKind.wrap IntKind.i64 (IntKind.wrap IntKind.i64 (b * tP) * tR)) + IntKind.wrap IntKind.i64 (IntKind.wrap IntKind.i64 (c * tR) * tR)) * IntKind.wrap IntKind.i64 (IntKind.wrap IntKind.i64 (IntKind.wrap IntKind.i64 (a * IntKind.wrap IntKind.i64 (IntKind.wrap IntKind.i64 (tP * tP) - IntKind.wrap IntKind.i64 (tQ * tQ))) + IntKind.wrap IntKind.i64 (IntKind.wrap IntKind.i64 (b * tP) * tR)) + IntKind.wrap IntKind.i64 (IntKind.wrap IntKind.i64 (c * tR) * tR))) + IntKind.wrap IntKind.i64 (IntKind.wrap IntKind.i64 (IntKind.wrap IntKind.i64 (IntKind.wrap IntKind.i64 (IntKind.wrap IntKind.i64 ((2 : Int) * a) * tP) * tQ) + IntKind.wrap IntKind.i64 (IntKind.wrap IntKind.i64 (b * tQ) * tR)) * IntKind.wrap IntKind.i64 (IntKind.wrap IntKind.i64 (IntKind.wrap IntKind.i64 (IntKind.wrap IntKind.i64 ((2 : Int) * a) * tP) * tQ) + IntKind.wrap IntKind.i64 (IntKind.wrap IntKind.i64 (b * tQ) * tR)))))
def g_R06_square : List A → Option (Prop × List RV)
  | [.d (.i .i64 a), .d (.i .i64 b), .d (.i .i64 c), .s [.i .i64 tP, .i .i64 tQ, .i .i64 tR]] => some (ok (R06_square a b c tP tQ tR), [.d (.i .i64 ((val (R06_square a b c tP tQ tR))))])
  | _ => none
def k_R06_square : List (Option Cont) := [none, none, none, none]
abbrev sp_129 : Specs → Specs := addK 129 true (pureK k_R06_square g_R06_square)
set_option maxRecDepth 100000 in
theorem R06_square_vc (a : Int) (b : Int) (c : Int) (tP : Int) (tQ : Int) (tR : Int) (r : Int) (h : Option.bind (R06_square a b c tP tQ tR) some = some r) : runF Try.f129 (sp0) (fun _ _ _ => none) [.d (.i .i64 a), .d (.i .i64 b), .d (.i .i64 c), .s [.i .i64 tP, .i .i64 tQ, .i .i64 tR]] [.d (.i .i64 r)] := by
  refine Eq.mp (by kernel_rfl : (
  (Ob (True) ∧
   (Ob (IntKind.wrap IntKind.i64 (IntKind.wrap IntKind.i64 (IntKind.wrap IntKind.i64 (IntKind.wrap IntKind.i64 (IntKind.wrap IntKind.i64 (a * IntKind.wrap IntKind.i64 (IntKind.wrap IntKind.i64 (tP * tP) - IntKind.wrap IntKind.i64 (tQ * tQ))) + IntKind.wrap IntKind.i64 (IntKind.wrap IntKind.i64 (b * tP) * tR)) + IntKind.wrap IntKind.i64 (IntKind.wrap IntKind.i64 (c * tR) * tR)) * IntKind.wrap IntKind.i64 (IntKind.wrap IntKind.i64 (IntKind.wrap IntKind.i64 (a * IntKind.wrap IntKind.i64 (IntKind.wrap IntKind.i64 (tP * tP) - IntKind.wrap IntKind.i64 (tQ * tQ))) + IntKind.wrap IntKind.i64 (IntKind.wrap IntKind.i64 (b * tP) * tR)) + IntKind.wrap IntKind.i64 (IntKind.wrap IntKind.i64 (c * tR) * tR))) + IntKind.wrap IntKind.i64 (IntKind.wrap IntKind.i64 (IntKind.wrap IntKind.i64 (IntKind.wrap IntKind.i64 (IntKind.wrap IntKind.i64 ((2 : Int) * a) * tP) * tQ) + IntKind.wrap IntKind.i64 (IntKind.wrap IntKind.i64 (b * tQ) * tR)) * IntKind.wrap IntKind.i64 (IntKind.wrap IntKind.i64 (IntKind.wrap IntKind.i64 (IntKind.wrap IntKind.i64 ((2 : Int) * a) * tP) * tQ) + IntKind.wrap IntKind.i64 (IntKind.wrap IntKind.i64 (b * tQ) * tR)))) = r) ∧
   True))) = _) ?_
  refine ob_t ?_
  exact ret_s h (fun e => by subst e; exact (by repeat' (first | exact trivial | exact ⟨rfl⟩ | refine And.intro ?_ ?_)))
set_option maxRecDepth 100000 in
theorem R06_square_ok : SpecOK Try.prog 129 true (pureK k_R06_square g_R06_square) := by
  refine pureK_ok (sp := sp0) (fn := Try.f129) (body := bodyOf Try.f129) mixed sp0_ok Try.func129 (by kernel_rfl) (by kernel_rfl) fun as_ ob rs h ho => ?_
  unfold g_R06_square at h
  split at h
  · rename_i a b c tP tQ tR
    cases h
    exact ⟨Nat.le_of_ble_eq_true rfl, _, _, R06_square_vc a b c tP tQ tR _ (ok_some ho)⟩
  · cases h
theorem sp_129_ok {sp : Specs} (h : SpecsOK Try.prog sp) : SpecsOK Try.prog (sp_129 sp) := addK_ok R06_square_ok h

/-- shoebox/shoeboxref06.Gain -/
def R06_Gain (sB0 : Int) (sB1 : Int) (sB2 : Int) (sA0 : Int) (sA1 : Int) (tP : Int) (tQ : Int) (tR : Int) : Option (Int × Int) :=
  Option.bind (R06_square sB0 sB1 sB2 tP tQ tR) fun r0 =>
  Option.bind (R06_square (16384 : Int) sA0 sA1 tP tQ tR) fun r1 =>
  some (r0, r1)
def g_R06_Gain : List A → Option (Prop × List RV)
  | [.s [.i .i64 sB0, .i .i64 sB1, .i .i64 sB2, .i .i64 sA0, .i .i64 sA1], .s [.i .i64 tP, .i .i64 tQ, .i .i64 tR]] => some (ok (R06_Gain sB0 sB1 sB2 sA0 sA1 tP tQ tR), [.d (.i .i64 ((val (R06_Gain sB0 sB1 sB2 sA0 sA1 tP tQ tR)).1)), .d (.i .i64 ((val (R06_Gain sB0 sB1 sB2 sA0 sA1 tP tQ tR)).2))])
  | _ => none
def k_R06_Gain : List (Option Cont) := [none, none]
abbrev sp_100 : Specs → Specs := addK 100 true (pureK k_R06_Gain g_R06_Gain)
set_option maxRecDepth 100000 in
theorem R06_Gain_vc (sB0 : Int) (sB1 : Int) (sB2 : Int) (sA0 : Int) (sA1 : Int) (tP : Int) (tQ : Int) (tR : Int) (r : Int × Int) (h : Option.bind (R06_Gain sB0 sB1 sB2 sA0 sA1 tP tQ tR) some = some r) : runF Try.f100 ((sp_129 sp0)) (fun _ _ _ => none) [.s [.i .i64 sB0, .i .i64 sB1, .i .i64 sB2, .i .i64 sA0, .i .i64 sA1], .s [.i .i64 tP, .i .i64 tQ, .i .i64 tR]] [.d (.i .i64 r.1), .d (.i .i64 r.2)] := by
  refine Eq.mp (by kernel_rfl : (
  (Ob ((0 : Int) ≤ (0 : Int) ∧ (0 : Int) < (↑(3 : Nat) : Int)) ∧
   (Ob ((0 : Int) ≤ (1 : Int) ∧ (1 : Int) < (↑(3 : Nat) : Int)) ∧
   (Ob ((0 : Int) ≤ (2 : Int) ∧ (2 : Int) < (↑(3 : Nat) : Int)) ∧
   (Ob (ok (R06_square sB0 sB1 sB2 tP tQ tR)) ∧
   (Ob ((0 : Int) ≤ (0 : Int) ∧ (0 : Int) < (↑(2 : Nat) : Int)) ∧
   (Ob ((0 : Int) ≤ (1 : Int) ∧ (1 : Int) < (↑(2 : Nat) : Int)) ∧
   (Ob (ok (R06_square (16384 : Int) sA0 sA1 tP tQ tR)) ∧
   (Ob (True) ∧
   (Ob (True) ∧
   (Ob (val (R06_square sB0 sB1 sB2 tP tQ tR) = r.1) ∧
   (Ob (val (R06_square (16384 : Int) sA0 sA1 tP tQ tR) = r.2) ∧
   True)))))))))))) = _) ?_
  refine ob_c (p := (0 : Int) ≤ (0 : Int) ∧ (0 : Int) < (↑(3 : Nat) : Int)) (by decide) ?_
  refine ob_c (p := (0 : Int) ≤ (1 : Int) ∧ (1 : Int) < (↑(3 : Nat) : Int)) (by decide) ?_
  refine ob_c (p := (0 : Int) ≤ (2 : Int) ∧ (2 : Int) < (↑(3 : Nat) : Int)) (by decide) ?_
  refine call_s h fun h => ?_
  refine ob_c (p := (0 : Int) ≤ (0 : Int) ∧ (0 : Int) < (↑(2 : Nat) : Int)) (by decide) ?_
  refine ob_c (p := (0 : Int) ≤ (1 : Int) ∧ (1 : Int) < (↑(2 : Nat) : Int)) (by decide) ?_
  refine call_s h fun h => ?_
  refine ob_t ?_
  refine ob_t ?_
  exact ret_s h (fun e => by subst e; exact (by repeat' (first | exact trivial | exact ⟨rfl⟩ | refine And.intro ?_ ?_)))
set_option maxRecDepth 100000 in
theorem R06_Gain_ok : SpecOK Try.prog 100 true (pureK k_R06_Gain g_R06_Gain) := by
  refine pureK_ok (sp := (sp_129 sp0)) (fn := Try.f100) (body := bodyOf Try.f100) mixed (sp_129_ok sp0_ok) Try.func100 (by kernel_rfl) (by kernel_rfl) fun as_ ob rs h ho => ?_
  unfold g_R06_Gain at h
  split at h
  · rename_i sB0 sB1 sB2 sA0 sA1 tP tQ tR
    cases h
    exact ⟨Nat.le_of_ble_eq_true rfl, _, _, R06_Gain_vc sB0 sB1 sB2 sA0 sA1 tP tQ tR _ (ok_some ho)⟩
  · cases h
theorem sp_100_ok {sp : Specs} (h : SpecsOK Try.prog sp) : SpecsOK Try.prog (sp_100 sp) := addK_ok R06_Gain_ok h

/-- shoebox/shoeboxbase.Mod -/
def B_Mod (n : Int) (by_ : Int) : Option Int :=
  if by_ ≠ (0 : Int) then
   if Int.tmod n by_ < (0 : Int) then
    some (IntKind.wrap IntKind.i64 (Int.tmod n by_ + by_))
   else
    some (Int.tmod n by_)
  else none
def g_B_Mod : List A → Option (Prop × List RV)
  | [.d (.i .i64 n), .d (.i .i64 by_)] => some (ok (B_Mod n by_), [.d (.i .i64 ((val (B_Mod n by_))))])
  | _ => none
def k_B_Mod : List (Option Cont) := [none, none]
abbrev sp_51 : Specs → Specs := addK 51 true (pureK k_B_Mod g_B_Mod)
set_option maxRecDepth 100000 in
theorem B_Mod_vc (n : Int) (by_ : Int) (r : Int) (h : Option.bind (B_Mod n by_) some = some r) : runF Try.f51 (sp0) (fun _ _ _ => none) [.d (.i .i64 n), .d (.i .i64 by_)] [.d (.i .i64 r)] := by
  refine Eq.mp (by kernel_rfl : (
  (Ob (by_ ≠ (0 : Int)) ∧
   Br (decide (Int.tmod n by_ < (0 : Int)))
   ((Ob (True) ∧
   (Ob (IntKind.wrap IntKind.i64 (Int.tmod n by_ + by_) = r) ∧
   True)))
   ((Ob (True) ∧
   (Ob (Int.tmod n by_ = r) ∧
   True))))) = _) ?_
  refine ob_s h fun h => ?_
  refine br_d h (fun h => ?_) (fun h => ?_)
  · refine ob_t ?_
    exact ret_s h (fun e => by subst e; exact (by repeat' (first | exact trivial | exact ⟨rfl⟩ | refine And.intro ?_ ?_)))
  · refine ob_t ?_
    exact ret_s h (fun e => by subst e; exact (by repeat' (first | exact trivial | exact ⟨rfl⟩ | refine And.intro ?_ ?_)))
set_option maxRecDepth 100000 in
theorem B_Mod_ok : SpecOK Try.prog 51 true (pureK k_B_Mod g_B_Mod) := by
  refine pureK_ok (sp := sp0) (fn := Try.f51) (body := bodyOf Try.f51) mixed sp0_ok Try.func51 (by kernel_rfl) (by kernel_rfl) fun as_ ob rs h ho => ?_
  unfold g_B_Mod at h
  split at h
  · rename_i n by_
    cases h
    exact ⟨Nat.le_of_ble_eq_true rfl, _, _, B_Mod_vc n by_ _ (ok_some ho)⟩
  · cases h
theorem sp_51_ok {sp : Specs} (h : SpecsOK Try.prog sp) : SpecsOK Try.prog (sp_51 sp) := addK_ok B_Mod_ok h

def R06_Parts_b0 (d : Int) (x0 : (Int × Int × Int)) : Option ((Int × Int × Int) ⊕ (Int × Int)) :=
  if x0.2.2 < (20 : Int) then
   if IntKind.wrap IntKind.i64 ((2 : Int) * x0.2.1) ≥ d then
    some (.inl ((IntKind.wrap IntKind.i64 (IntKind.wrap IntKind.i64 ((2 : Int) * x0.1) + (1 : Int)), IntKind.wrap IntKind.i64 (IntKind.wrap IntKind.i64 ((2 : Int) * x0.2.1) - d), IntKind.wrap IntKind.i64 (x0.2.2 + (1 : Int)))))
   else
    some (.inl ((IntKind.wrap IntKind.i64 ((2 : Int) * x0.1), IntKind.wrap IntKind.i64 ((2 : Int) * x0.2.1), IntKind.wrap IntKind.i64 (x0.2.2 + (1 : Int)))))
  else
   some (.inr (x0.1, x0.2.1))
def R06_Parts_r0 (y0_0 : Int × Int) : Option (Int × Int) :=
  if y0_0.2 > (0 : Int) then
   some ((y0_0.1, IntKind.wrap IntKind.i64 (y0_0.1 + (1 : Int))))
  else
   some (y0_0.1, y0_0.1)
/-- shoebox/shoeboxref06.Parts -/
def R06_Parts (n : Int) (d : Int) : Option (Int × Int) :=
  Option.bind (B_Floor n d) fun r0 =>
  Option.bind (B_Mod n d) fun r1 =>
  if r0 > (1073741824 : Int) then
   some (r0, r0)
  else
   Option.bind (iter (R06_Parts_b0 d) big ((r0, r1, (0 : Int)))) (R06_Parts_r0)
def g_R06_Parts : List A → Option (Prop × List RV)
  | [.d (.i .i64 n), .d (.i .i64 d)] => some (ok (R06_Parts n d), [.s [.i .i64 ((val (R06_Parts n d)).1), .i .i64 ((val (R06_Parts n d)).2)]])
  | _ => none
def k_R06_Parts : List (Option Cont) := [none, none]
abbrev sp_101 : Specs → Specs := addK 101 true (pureK k_R06_Parts g_R06_Parts)
set_option maxRecDepth 100000 in
theorem R06_Parts_vc (n : Int) (d : Int) (r : Int × Int) (h : Option.bind (R06_Parts n d) some = some r) : runF Try.f101 ((sp_90 (sp_51 sp0))) (fun gs id _ => match id with
 | 0 => some ⟨(Int × Int × Int) × Nat, fun z => ⟨[(1, .w (.c (.d (.i .i64 d)))), (4, .w (.c (.p 2 (0 : Nat) 1 0))), (5, .w (.c (.d (.i .i64 (Prod.fst (Prod.fst z)))))), (6, .w (.c (.d (.i .i64 (Prod.fst (Prod.snd (Prod.fst z))))))), (7, .w (.c (.d (.i .i64 (Prod.snd (Prod.snd (Prod.fst z)))))))], [(2, .box 76 [.d (.i .i64 (0 : Int)), .d (.i .i64 (0 : Int))])], 3⟩, fun z => Option.bind (iter (R06_Parts_b0 d) (Prod.snd z) (Prod.fst z)) (fun y0 => Option.bind (R06_Parts_r0 y0) some) = some r, fun z => Prod.snd z⟩
 | _ => none) [.d (.i .i64 n), .d (.i .i64 d)] [.s [.i .i64 r.1, .i .i64 r.2]] := by
  refine Eq.mp (by kernel_rfl : (
  (Ob (ok (B_Floor n d)) ∧
   (Ob (ok (B_Mod n d)) ∧
   Br (decide (val (B_Floor n d) > (1073741824 : Int)))
   ((Ob (True) ∧
   (Ob (val (B_Floor n d) = r.1) ∧
   (Ob (val (B_Floor n d) = r.2) ∧
   True))))
   (((∃ (v0 : (Int × Int × Int) × Nat), (Ob ((Option.bind (iter (R06_Parts_b0 d) v0.2 v0.1) fun y0 => Option.bind (R06_Parts_r0 y0) some) = some r) ∧
   (Ob (d = d) ∧
   (Ob ((0 : Nat) = (0 : Nat)) ∧
   (Ob (val (B_Floor n d) = v0.1.1) ∧
   (Ob (val (B_Mod n d) = v0.1.2.1) ∧
   (Ob ((0 : Int) = v0.1.2.2) ∧
   (Ob ((0 : Int) = (0 : Int)) ∧
   (Ob ((0 : Int) = (0 : Int)) ∧
   True))))))))) ∧
   (∀ (v0 : (Int × Int × Int) × Nat), ((Option.bind (iter (R06_Parts_b0 d) v0.2 v0.1) fun y0 => Option.bind (R06_Parts_r0 y0) some) = some r →
   Br (decide (v0.1.2.2 < (20 : Int)))
   (Br (decide (IntKind.wrap IntKind.i64 ((2 : Int) * v0.1.2.1) ≥ d))
   ((∃ (v1 : (Int × Int × Int) × Nat), (Ob ((Option.bind (iter (R06_Parts_b0 d) v1.2 v1.1) fun y0 => Option.bind (R06_Parts_r0 y0) some) = some r) ∧
   (Ob (v1.2 < v0.2) ∧
   (Ob (d = d) ∧
   (Ob ((0 : Nat) = (0 : Nat)) ∧
   (Ob (IntKind.wrap IntKind.i64 (IntKind.wrap IntKind.i64 ((2 : Int) * v0.1.1) + (1 : Int)) = v1.1.1) ∧
   (Ob (IntKind.wrap IntKind.i64 (IntKind.wrap IntKind.i64 ((2 : Int) * v0.1.2.1) - d) = v1.1.2.1) ∧
   (Ob (IntKind.wrap IntKind.i64 (v0.1.2.2 + (1 : Int)) = v1.1.2.2) ∧
   (Ob ((0 : Int) = (0 : Int)) ∧
   (Ob ((0 : Int) = (0 : Int)) ∧
   True)))))))))))
   ((∃ (v1 : (Int × Int × Int) × Nat), (Ob ((Option.bind (iter (R06_Parts_b0 d) v1.2 v1.1) fun y0 => Option.bind (R06_Parts_r0 y0) some) = some r) ∧
   (Ob (v1.2 < v0.2) ∧
   (Ob (d = d) ∧
   (Ob ((0 : Nat) = (0 : Nat)) ∧
   (Ob (IntKind.wrap IntKind.i64 ((2 : Int) * v0.1.1) = v1.1.1) ∧
   (Ob (IntKind.wrap IntKind.i64 ((2 : Int) * v0.1.2.1) = v1.1.2.1) ∧
   (Ob (IntKind.wrap IntKind.i64 (v0.1.2.2 + (1 : Int)) = v1.1.2.2) ∧
   (Ob ((0 : Int) = (0 : Int)) ∧
   (Ob ((0 : Int) = (0 : Int)) ∧
   True))))))))))))
   (Br (decide (v0.1.2.1 > (0 : Int)))
   ((Ob (True) ∧
   (Ob (v0.1.1 = r.1) ∧
   (Ob (IntKind.wrap IntKind.i64 (v0.1.1 + (1 : Int)) = r.2) ∧
   True))))
   ((Ob (True) ∧
   (Ob (v0.1.1 = r.1) ∧
   (Ob (v0.1.1 = r.2) ∧
   True)))))))))))) = _) ?_
  refine call_s h fun h => ?_
  refine call_s h fun h => ?_
  refine br_d h (fun h => ?_) (fun h => ?_)
  · refine ob_t ?_
    exact ret_s h (fun e => by subst e; exact (by repeat' (first | exact trivial | exact ⟨rfl⟩ | refine And.intro ?_ ?_)))
  · refine ⟨⟨((val (B_Floor n d), val (B_Mod n d), (0 : Int)), big), ⟨loop_s h⟩, (by repeat' (first | exact trivial | exact ⟨rfl⟩ | refine And.intro ?_ ?_))⟩, fun z2 hz2 => ?_⟩
    obtain ⟨k2, hm2, h⟩ := iter_pos hz2
    refine br_d h (fun h => ?_) (fun h => ?_)
    · refine br_d h (fun h => ?_) (fun h => ?_)
      · exact ⟨((IntKind.wrap IntKind.i64 (IntKind.wrap IntKind.i64 ((2 : Int) * (Prod.fst z2).1) + (1 : Int)), IntKind.wrap IntKind.i64 (IntKind.wrap IntKind.i64 ((2 : Int) * (Prod.fst z2).2.1) - d), IntKind.wrap IntKind.i64 ((Prod.fst z2).2.2 + (1 : Int))), k2), ⟨next_s h⟩, ⟨lt_gs hm2.symm⟩, (by repeat' (first | exact trivial | exact ⟨rfl⟩ | refine And.intro ?_ ?_))⟩
      · exact ⟨((IntKind.wrap IntKind.i64 ((2 : Int) * (Prod.fst z2).1), IntKind.wrap IntKind.i64 ((2 : Int) * (Prod.fst z2).2.1), IntKind.wrap IntKind.i64 ((Prod.fst z2).2.2 + (1 : Int))), k2), ⟨next_s h⟩, ⟨lt_gs hm2.symm⟩, (by repeat' (first | exact trivial | exact ⟨rfl⟩ | refine And.intro ?_ ?_))⟩
    · have h := exit_s h
      refine br_d h (fun h => ?_) (fun h => ?_)
      · refine ob_t ?_
        exact ret_s h (fun e => by subst e; exact (by repeat' (first | exact trivial | exact ⟨rfl⟩ | refine And.intro ?_ ?_)))
      · refine ob_t ?_
        exact ret_s h (fun e => by subst e; exact (by repeat' (first | exact trivial | exact ⟨rfl⟩ | refine And.intro ?_ ?_)))
set_option maxRecDepth 100000 in
theorem R06_Parts_ok : SpecOK Try.prog 101 true (pureK k_R06_Parts g_R06_Parts) := by
  refine pureK_ok (sp := (sp_90 (sp_51 sp0))) (fn := Try.f101) (body := bodyOf Try.f101) mixed (sp_90_ok (sp_51_ok sp0_ok)) Try.func101 (by kernel_rfl) (by kernel_rfl) fun as_ ob rs h ho => ?_
  unfold g_R06_Parts at h
  split at h
  · rename_i n d
    cases h
    exact ⟨Nat.le_of_ble_eq_true rfl, _, _, R06_Parts_vc n d _ (ok_some ho)⟩
  · cases h
theorem sp_101_ok {sp : Specs} (h : SpecsOK Try.prog sp) : SpecsOK Try.prog (sp_101 sp) := addK_ok R06_Parts_ok h

/-- shoebox/shoeboxbase.Ceil -/
def B_Ceil (n : Int) (by_ : Int) : Option Int :=
  Option.bind (B_Floor (IntKind.wrap IntKind.i64 ((0 : Int) - n)) by_) fun r0 =>
  some (IntKind.wrap IntKind.i64 ((0 : Int) - r0))
def g_B_Ceil : List A → Option (Prop × List RV)
  | [.d (.i .i64 n), .d (.i .i64 by_)] => some (ok (B_Ceil n by_), [.d (.i .i64 ((val (B_Ceil n by_))))])
  | _ => none
def k_B_Ceil : List (Option Cont) := [none, none]
abbrev sp_102 : Specs → Specs := addK 102 true (pureK k_B_Ceil g_B_Ceil)
set_option maxRecDepth 100000 in
theorem B_Ceil_vc (n : Int) (by_ : Int) (r : Int) (h : Option.bind (B_Ceil n by_) some = some r) : runF Try.f102 ((sp_90 sp0)) (fun _ _ _ => none) [.d (.i .i64 n), .d (.i .i64 by_)] [.d (.i .i64 r)] := by
  refine Eq.mp (by kernel_rfl : (
  (Ob (ok (B_Floor (IntKind.wrap IntKind.i64 ((0 : Int) - n)) by_)) ∧
   (Ob (True) ∧
   (Ob (IntKind.wrap IntKind.i64 ((0 : Int) - val (B_Floor (IntKind.wrap IntKind.i64 ((0 : Int) - n)) by_)) = r) ∧
   True)))) = _) ?_
  refine call_s h fun h => ?_
  refine ob_t ?_
  exact ret_s h (fun e => by subst e; exact (by repeat' (first | exact trivial | exact ⟨rfl⟩ | refine And.intro ?_ ?_)))
set_option maxRecDepth 100000 in
theorem B_Ceil_ok : SpecOK Try.prog 102 true (pureK k_B_Ceil g_B_Ceil) := by
  refine pureK_ok (sp := (sp_90 sp0)) (fn := Try.f102) (body := bodyOf Try.f102) mixed (sp_90_ok sp0_ok) Try.func102 (by kernel_rfl) (by kernel_rfl) fun as_ ob rs h ho => ?_
  unfold g_B_Ceil at h
  split at h
  · rename_i n by_
    cases h
    exact ⟨Nat.le_of_ble_eq_true rfl, _, _, B_Ceil_vc n by_ _ (ok_some ho)⟩
  · cases h
theorem sp_102_ok {sp : Specs} (h : SpecsOK Try.prog sp) : SpecsOK Try.prog (sp_102 sp) := addK_ok B_Ceil_ok h

def R06_GainRange_b0 (c : List (List Int)) (tP : Int) (tQ : Int) (tR : Int) (x0 : (Int × Int × Int)) : Option ((Int × Int × Int) ⊕ (Int ⊕ (Int × Int))) :=
  if x0.1 < (↑(List.length c) : Int) then
   if (0 : Int) ≤ x0.1 ∧ x0.1 < (↑(List.length c) : Int) then
    if Int.toNat x0.1 < List.length c then
     Option.bind (R06_Gain (List.getD (List.getD c (Int.toNat x0.1) []) (0 : Nat) (0 : Int)) (List.getD (List.getD c (Int.toNat x0.1) []) (1 : Nat) (0 : Int)) (List.getD (List.getD c (Int.toNat x0.1) []) (2 : Nat) (0 : Int)) (List.getD (List.getD c (Int.toNat x0.1) []) (3 : Nat) (0 : Int)) (List.getD (List.getD c (Int.toNat x0.1) []) (4 : Nat) (0 : Int)) tP tQ tR) fun r0 =>
     if (IntKind.wrap IntKind.i64 (IntKind.wrap IntKind.i64 (IntKind.wrap IntKind.i64 (IntKind.wrap IntKind.i64 (IntKind.wrap IntKind.i64 ((16384 : Int) * IntKind.wrap IntKind.i64 (IntKind.wrap IntKind.i64 (tP * tP) - IntKind.wrap IntKind.i64 (tQ * tQ))) + IntKind.wrap IntKind.i64 (IntKind.wrap IntKind.i64 (List.getD (List.getD c (Int.toNat x0.1) []) (3 : Nat) (0 : Int) * tP) * tR)) + IntKind.wrap IntKind.i64 (IntKind.wrap IntKind.i64 (List.getD (List.getD c (Int.toNat x0.1) []) (4 : Nat) (0 : Int) * tR) * tR)) * IntKind.wrap IntKind.i64 (IntKind.wrap IntKind.i64 (IntKind.wrap IntKind.i64 ((16384 : Int) * IntKind.wrap IntKind.i64 (IntKind.wrap IntKind.i64 (tP * tP) - IntKind.wrap IntKind.i64 (tQ * tQ))) + IntKind.wrap IntKind.i64 (IntKind.wrap IntKind.i64 (List.getD (List.getD c (Int.toNat x0.1) []) (3 : Nat) (0 : Int) * tP) * tR)) + IntKind.wrap IntKind.i64 (IntKind.wrap IntKind.i64 (List.getD (List.getD c (Int.toNat x0.1) []) (4 : Nat) (0 : Int) * tR) * tR))) + IntKind.wrap IntKind.i64 (IntKind.wrap IntKind.i64 (IntKind.wrap IntKind.i64 (IntKind.wrap IntKind.i64 (IntKind.wrap IntKind.i64 ((2 : Int) * (16384 : Int)) * tP) * tQ) + IntKind.wrap IntKind.i64 (IntKind.wrap IntKind.i64 (List.getD (List.getD c (Int.toNat x0.1) []) (3 : Nat) (0 : Int) * tQ) * tR)) * IntKind.wrap IntKind.i64 (IntKind.wrap IntKind.i64 (IntKind.wrap IntKind.i64 (IntKind.wrap IntKind.i64 ((2 : Int) * (16384 : Int)) * tP) * tQ) + IntKind.wrap IntKind.i64 (IntKind.wrap IntKind.i64 (List.getD (List.getD c (Int.toNat x0.1) []) (3 : Nat) (0 : Int) * tQ) * tR)))) == (0 : Int)) = true then
      some (.inr ((.inl (11 : Int))))
     else
      Option.bind (R06_Parts (IntKind.wrap IntKind.i64 (IntKind.wrap IntKind.i64 (IntKind.wrap IntKind.i64 (IntKind.wrap IntKind.i64 (IntKind.wrap IntKind.i64 (List.getD (List.getD c (Int.toNat x0.1) []) (0 : Nat) (0 : Int) * IntKind.wrap IntKind.i64 (IntKind.wrap IntKind.i64 (tP * tP) - IntKind.wrap IntKind.i64 (tQ * tQ))) + IntKind.wrap IntKind.i64 (IntKind.wrap IntKind.i64 (List.getD (List.getD c (Int.toNat x0.1) []) (1 : Nat) (0 : Int) * tP) * tR)) + IntKind.wrap IntKind.i64 (IntKind.wrap IntKind.i64 (List.getD (List.getD c (Int.toNat x0.1) []) (2 : Nat) (0 : Int) * tR) * tR)) * IntKind.wrap IntKind.i64 (IntKind.wrap IntKind.i64 (IntKind.wrap IntKind.i64 (List.getD (List.getD c (Int.toNat x0.1) []) (0 : Nat) (0 : Int) * IntKind.wrap IntKind.i64 (IntKind.wrap IntKind.i64 (tP * tP) - IntKind.wrap IntKind.i64 (tQ * tQ))) + IntKind.wrap IntKind.i64 (IntKind.wrap IntKind.i64 (List.getD (List.getD c (Int.toNat x0.1) []) (1 : Nat) (0 : Int) * tP) * tR)) + IntKind.wrap IntKind.i64 (IntKind.wrap IntKind.i64 (List.getD (List.getD c (Int.toNat x0.1) []) (2 : Nat) (0 : Int) * tR) * tR))) + IntKind.wrap IntKind.i64 (IntKind.wrap IntKind.i64 (IntKind.wrap IntKind.i64 (IntKind.wrap IntKind.i64 (IntKind.wrap IntKind.i64 ((2 : Int) * List.getD (List.getD c (Int.toNat x0.1) []) (0 : Nat) (0 : Int)) * tP) * tQ) + IntKind.wrap IntKind.i64 (IntKind.wrap IntKind.i64 (List.getD (List.getD c (Int.toNat x0.1) []) (1 : Nat) (0 : Int) * tQ) * tR)) * IntKind.wrap IntKind.i64 (IntKind.wrap IntKind.i64 (IntKind.wrap IntKind.i64 (IntKind.wrap IntKind.i64 ((2 : Int) * List.getD (List.getD c (Int.toNat x0.1) []) (0 : Nat) (0 : Int)) * tP) * tQ) + IntKind.wrap IntKind.i64 (IntKind.wrap IntKind.i64 (List.getD (List.getD c (Int.toNat x0.1) []) (1 : Nat) (0 : Int) * tQ) * tR))))) (IntKind.wrap IntKind.i64 (IntKind.wrap IntKind.i64 (IntKind.wrap IntKind.i64 (IntKind.wrap IntKind.i64 (IntKind.wrap IntKind.i64 ((16384 : Int) * IntKind.wrap IntKind.i64 (IntKind.wrap IntKind.i64 (tP * tP) - IntKind.wrap IntKind.i64 (tQ * tQ))) + IntKind.wrap IntKind.i64 (IntKind.wrap IntKind.i64 (List.getD (List.getD c (Int.toNat x0.1) []) (3 : Nat) (0 : Int) * tP) * tR)) + IntKind.wrap IntKind.i64 (IntKind.wrap IntKind.i64 (List.getD (List.getD c (Int.toNat x0.1) []) (4 : Nat) (0 : Int) * tR) * tR)) * IntKind.wrap IntKind.i64 (IntKind.wrap IntKind.i64 (IntKind.wrap IntKind.i64 ((16384 : Int) * IntKind.wrap IntKind.i64 (IntKind.wrap IntKind.i64 (tP * tP) - IntKind.wrap IntKind.i64 (tQ * tQ))) + IntKind.wrap IntKind.i64 (IntKind.wrap IntKind.i64 (List.getD (List.getD c (Int.toNat x0.1) []) (3 : Nat) (0 : Int) * tP) * tR)) + IntKind.wrap IntKind.i64 (IntKind.wrap IntKind.i64 (List.getD (List.getD c (Int.toNat x0.1) []) (4 : Nat) (0 : Int) * tR) * tR))) + IntKind.wrap IntKind.i64 (IntKind.wrap IntKind.i64 (IntKind.wrap IntKind.i64 (IntKind.wrap IntKind.i64 (IntKind.wrap IntKind.i64 ((2 : Int) * (16384 : Int)) * tP) * tQ) + IntKind.wrap IntKind.i64 (IntKind.wrap IntKind.i64 (List.getD (List.getD c (Int.toNat x0.1) []) (3 : Nat) (0 : Int) * tQ) * tR)) * IntKind.wrap IntKind.i64 (IntKind.wrap IntKind.i64 (IntKind.wrap IntKind.i64 (IntKind.wrap IntKind.i64 ((2 : Int) * (16384 : Int)) * tP) * tQ) + IntKind.wrap IntKind.i64 (IntKind.wrap IntKind.i64 (List.getD (List.getD c (Int.toNat x0.1) []) (3 : Nat) (0 : Int) * tQ) * tR)))))) fun r1 =>
      if r1.2 > (1073741824 : Int) then
       some (.inr ((.inl (8 : Int))))
      else
       Option.bind (B_Floor (IntKind.wrap IntKind.i64 (x0.2.1 * r1.1)) (1048576 : Int)) fun r2 =>
       Option.bind (B_Ceil (IntKind.wrap IntKind.i64 (x0.2.2 * r1.2)) (1048576 : Int)) fun r3 =>
       if r3 > (1073741824 : Int) then
        some (.inr ((.inl (8 : Int))))
       else
        some (.inl ((IntKind.wrap IntKind.i64 (x0.1 + (1 : Int)), r2, r3)))
    else none
   else none
  else
   some (.inr ((.inr (x0.2.1, x0.2.2))))
def R06_GainRange_r0_0 (y0_0 : Int) : Option (Int × Int × Int) :=
  some (((0 : Int), (0 : Int), y0_0))
def R06_GainRange_r0_1 (y0_1 : Int × Int) : Option (Int × Int × Int) :=
  some ((y0_1.1, y0_1.2, (0 : Int)))
def R06_GainRange_r0 : (Int ⊕ (Int × Int)) → Option (Int × Int × Int) :=
  (Sum.elim (R06_GainRange_r0_0) (R06_GainRange_r0_1))
/-- shoebox/shoeboxref06.GainRange -/
def R06_GainRange (c : List (List Int)) (tP : Int) (tQ : Int) (tR : Int) : Option (Int × Int × Int) :=
  Option.bind (iter (R06_GainRange_b0 c tP tQ tR) big (((0 : Int), (1048576 : Int), (1048576 : Int)))) (R06_GainRange_r0)
def g_R06_GainRange : List A → Option (Prop × List RV)
  | [.r (.recs 5 c), .s [.i .i64 tP, .i .i64 tQ, .i .i64 tR]] => some (ok (R06_GainRange c tP tQ tR), [.s [.i .i64 ((val (R06_GainRange c tP tQ tR)).1), .i .i64 ((val (R06_GainRange c tP tQ tR)).2.1)], .d (.i .i64 ((val (R06_GainRange c tP tQ tR)).2.2))])
  | _ => none
def k_R06_GainRange : List (Option Cont) := [some (.recs 5 []), none]
abbrev sp_43 : Specs → Specs := addK 43 true (pureK k_R06_GainRange g_R06_GainRange)
set_option maxRecDepth 100000 in
theorem R06_GainRange_vc (c : List (List Int)) (tP : Int) (tQ : Int) (tR : Int) (r : Int × Int × Int) (h : Option.bind (R06_GainRange c tP tQ tR) some = some r) : runF Try.f43 ((sp_100 (sp_101 (sp_90 (sp_102 sp0))))) (fun gs id _ => match id with
 | 0 => some ⟨(Int × Int × Int) × Nat, fun z => ⟨[(0, .w (.c (.o 0))), (3, .w (.c (.p 2 (0 : Nat) 1 0))), (4, .w (.c (.p 3 (0 : Nat) 1 0))), (6, .w (.c (.p 4 (0 : Nat) 1 0))), (7, .w (.c (.d (.i .i64 (Prod.fst (Prod.fst z))))))], [(0, .ext (.recs 5 c)), (2, .box 74 [.d (.i .i64 tP), .d (.i .i64 tQ), .d (.i .i64 tR)]), (3, .box 76 [.d (.i .i64 (0 : Int)), .d (.i .i64 (0 : Int))]), (4, .box 76 [.d (.i .i64 (Prod.fst (Prod.snd (Prod.fst z)))), .d (.i .i64 (Prod.snd (Prod.snd (Prod.fst z))))])], 5⟩, fun z => Option.bind (iter (R06_GainRange_b0 c tP tQ tR) (Prod.snd z) (Prod.fst z)) (fun y0 => Option.bind (R06_GainRange_r0 y0) some) = some r, fun z => Prod.snd z⟩
 | _ => none) [.r (.recs 5 c), .s [.i .i64 tP, .i .i64 tQ, .i .i64 tR]] [.s [.i .i64 r.1, .i .i64 r.2.1], .d (.i .i64 r.2.2)] := by
  refine Eq.mp (by kernel_rfl : (
  ((∃ (v0 : (Int × Int × Int) × Nat), (Ob ((Option.bind (iter (R06_GainRange_b0 c tP tQ tR) v0.2 v0.1) fun y0 => Option.bind (R06_GainRange_r0 y0) some) = some r) ∧
   (Ob ((0 : Nat) = (0 : Nat)) ∧
   (Ob ((0 : Nat) = (0 : Nat)) ∧
   (Ob ((0 : Nat) = (0 : Nat)) ∧
   (Ob ((0 : Int) = v0.1.1) ∧
   (Ob (c = c) ∧
   (Ob (tP = tP) ∧
   (Ob (tQ = tQ) ∧
   (Ob (tR = tR) ∧
   (Ob ((0 : Int) = (0 : Int)) ∧
   (Ob ((0 : Int) = (0 : Int)) ∧
   (Ob ((1048576 : Int) = v0.1.2.1) ∧
   (Ob ((1048576 : Int) = v0.1.2.2) ∧
   True)))))))))))))) ∧
   (∀ (v0 : (Int × Int × Int) × Nat), ((Option.bind (iter (R06_GainRange_b0 c tP tQ tR) v0.2 v0.1) fun y0 => Option.bind (R06_GainRange_r0 y0) some) = some r →
   Br (decide (v0.1.1 < (↑(List.length c) : Int)))
   ((Ob ((0 : Int) ≤ v0.1.1 ∧ v0.1.1 < (↑(List.length c) : Int)) ∧
   (Ob (Int.toNat v0.1.1 < List.length c) ∧
   (Ob (ok (R06_Gain (List.getD (List.getD c (Int.toNat v0.1.1) []) (0 : Nat) (0 : Int)) (List.getD (List.getD c (Int.toNat v0.1.1) []) (1 : Nat) (0 : Int)) (List.getD (List.getD c (Int.toNat v0.1.1) []) (2 : Nat) (0 : Int)) (List.getD (List.getD c (Int.toNat v0.1.1) []) (3 : Nat) (0 : Int)) (List.getD (List.getD c (Int.toNat v0.1.1) []) (4 : Nat) (0 : Int)) tP tQ tR)) ∧
   Br (IntKind.wrap IntKind.i64 (IntKind.wrap IntKind.i64 (IntKind.wrap IntKind.i64 (IntKind.wrap IntKind.i64 (IntKind.wrap IntKind.i64 ((16384 : Int) * IntKind.wrap IntKind.i64 (IntKind.wrap IntKind.i64 (tP * tP) - IntKind.wrap IntKind.i64 (tQ * tQ))) + IntKind.wrap IntKind.i64 (IntKind.wrap IntKind.i64 (List.getD (List.getD c (Int.toNat v0.1.1) []) (3 : Nat) (0 : Int) * tP) * tR)) + IntKind.wrap IntKind.i64 (IntKind.wrap IntKind.i64 (List.getD (List.getD c (Int.toNat v0.1.1) []) (4 : Nat) (0 : Int) * tR) * tR)) * IntKind.wrap IntKind.i64 (IntKind.wrap IntKind.i64 (IntKind.wrap IntKind.i64 ((16384 : Int) * IntKind.wrap IntKind.i64 (IntKind.wrap IntKind.i64 (tP * tP) - IntKind.wrap IntKind.i64 (tQ * tQ))) + IntKind.wrap IntKind.i64 (IntKind.wrap IntKind.i64 (List.getD (List.getD c (Int.toNat v0.1.1) []) (3 : Nat) (0 : Int) * tP) * tR)) + IntKind.wrap IntKind.i64 (IntKind.wrap IntKind.i64 (List.getD (List.getD c (Int.toNat v0.1.1) []) (4 : Nat) (0 : Int) * tR) * tR))) + IntKind.wrap IntKind.i64 (IntKind.wrap IntKind.i64 (IntKind.wrap IntKind.i64 (IntKind.wrap IntKind.i64 (IntKind.wrap IntKind.i64 ((2 : Int) * (16384 : Int)) * tP) * tQ) + IntKind.wrap IntKind.i64 (IntKind.wrap IntKind.i64 (List.getD (List.getD c (Int.toNat v0.1.1) []) (3 : Nat) (0 : Int) * tQ) * tR)) * IntKind.wrap IntKind.i64 (IntKind.wrap IntKind.i64 (IntKind.wrap IntKind.i64 (IntKind.wrap IntKind.i64 ((2 : Int) * (16384 : Int)) * tP) * tQ) + IntKind.wrap IntKind.i64 (IntKind.wrap IntKind.i64 (List.getD (List.getD c (Int.toNat v0.1.1) []) (3 : Nat) (0 : Int) * tQ) * tR)))) == (0 : Int))
   ((Ob (True) ∧
   (Ob (True) ∧
   (Ob ((0 : Int) = r.1) ∧
   (Ob ((0 : Int) = r.2.1) ∧
   (Ob ((11 : Int) = r.2.2) ∧
   True))))))
   ((Ob (ok (R06_Parts (IntKind.wrap IntKind.i64 (IntKind.wrap IntKind.i64 (IntKind.wrap IntKind.i64 (IntKind.wrap IntKind.i64 (IntKind.wrap IntKind.i64 (List.getD (List.getD c (Int.toNat v0.1.1) []) (0 : Nat) (0 : Int) * IntKind.wrap IntKind.i64 (IntKind.wrap IntKind.i64 (tP * tP) - IntKind.wrap IntKind.i64 (tQ * tQ))) + IntKind.wrap IntKind.i64 (IntKind.wrap IntKind.i64 (List.getD (List.getD c (Int.toNat v0.1.1) []) (1 : Nat) (0 : Int) * tP) * tR)) + IntKind.wrap IntKind.i64 (IntKind.wrap IntKind.i64 (List.getD (List.getD c (Int.toNat v0.1.1) []) (2 : Nat) (0 : Int) * tR) * tR)) * IntKind.wrap IntKind.i64 (IntKind.wrap IntKind.i64 (IntKind.wrap IntKind.i64 (List.getD (List.getD c (Int.toNat v0.1.1) []) (0 : Nat) (0 : Int) * IntKind.wrap IntKind.i64 (IntKind.wrap IntKind.i64 (tP * tP) - IntKind.wrap IntKind.i64 (tQ * tQ))) + IntKind.wrap IntKind.i64 (IntKind.wrap IntKind.i64 (List.getD (List.getD c (Int.toNat v0.1.1) []) (1 : Nat) (0 : Int) * tP) * tR)) + IntKind.wrap IntKind.i64 (IntKind.wrap IntKind.i64 (List.getD (List.getD c (Int.toNat v0.1.1) []) (2 : Nat) (0 : Int) * tR) * tR))) + IntKind.wrap IntKind.i64 (IntKind.wrap IntKind.i64 (IntKind.wrap IntKind.i64 (IntKind.wrap IntKind.i64 (IntKind.wrap IntKind.i64 ((2 : Int) * List.getD (List.getD c (Int.toNat v0.1.1) []) (0 : Nat) (0 : Int)) * tP) * tQ) + IntKind.wrap IntKind.i64 (IntKind.wrap IntKind.i64 (List.getD (List.getD c (Int.toNat v0.1.1) []) (1 : Nat) (0 : Int) * tQ) * tR)) * IntKind.wrap IntKind.i64 (IntKind.wrap IntKind.i64 (IntKind.wrap IntKind.i64 (IntKind.wrap IntKind.i64 ((2 : Int) * List.getD (List.getD c (Int.toNat v0.1.1) []) (0 : Nat) (0 : Int)) * tP) * tQ) + IntKind.wrap IntKind.i64 (IntKind.wrap IntKind.i64 (List.getD (List.getD c (Int.toNat v0.1.1) []) (1 : Nat) (0 : Int) * tQ) * tR))))) (IntKind.wrap IntKind.i64 (IntKind.wrap IntKind.i64 (IntKind.wrap IntKind.i64 (IntKind.wrap IntKind.i64 (IntKind.wrap IntKind.i64 ((16384 : Int) * IntKind.wrap IntKind.i64 (IntKind.wrap IntKind.i64 (tP * tP) - IntKind.wrap IntKind.i64 (tQ * tQ))) + IntKind.wrap IntKind.i64 (IntKind.wrap IntKind.i64 (List.getD (List.getD c (Int.toNat v0.1.1) []) (3 : Nat) (0 : Int) * tP) * tR)) + IntKind.wrap IntKind.i64 (IntKind.wrap IntKind.i64 (List.getD (List.getD c (Int.toNat v0.1.1) []) (4 : Nat) (0 : Int) * tR) * tR)) * IntKind.wrap IntKind.i64 (IntKind.wrap IntKind.i64 (IntKind.wrap IntKind.i64 ((16384 : Int) * IntKind.wrap IntKind.i64 (IntKind.wrap IntKind.i64 (tP * tP) - IntKind.wrap IntKind.i64 (tQ * tQ))) + IntKind.wrap IntKind.i64 (IntKind.wrap IntKind.i64 (List.getD (List.getD c (Int.toNat v0.1.1) []) (3 : Nat) (0 : Int) * tP) * tR)) + IntKind.wrap IntKind.i64 (IntKind.wrap IntKind.i64 (List.getD (List.getD c (Int.toNat v0.1.1) []) (4 : Nat) (0 : Int) * tR) * tR))) + IntKind.wrap IntKind.i64 (IntKind.wrap IntKind.i64 (IntKind.wrap IntKind.i64 (IntKind.wrap IntKind.i64 (IntKind.wrap IntKind.i64 ((2 : Int) * (16384 : Int)) * tP) * tQ) + IntKind.wrap IntKind.i64 (IntKind.wrap IntKind.i64 (List.getD (List.getD c (Int.toNat v0.1.1) []) (3 : Nat) (0 : Int) * tQ) * tR)) * IntKind.wrap IntKind.i64 (IntKind.wrap IntKind.i64 (IntKind.wrap IntKind.i64 (IntKind.wrap IntKind.i64 ((2 : Int) * (16384 : Int)) * tP) * tQ) + IntKind.wrap IntKind.i64 (IntKind.wrap IntKind.i64 (List.getD (List.getD c (Int.toNat v0.1.1) []) (3 : Nat) (0 : Int) * tQ) * tR))))))) ∧
   Br (decide ((val (R06_Parts (IntKind.wrap IntKind.i64 (IntKind.wrap IntKind.i64 (IntKind.wrap IntKind.i64 (IntKind.wrap IntKind.i64 (IntKind.wrap IntKind.i64 (List.getD (List.getD c (Int.toNat v0.1.1) []) (0 : Nat) (0 : Int) * IntKind.wrap IntKind.i64 (IntKind.wrap IntKind.i64 (tP * tP) - IntKind.wrap IntKind.i64 (tQ * tQ))) + IntKind.wrap IntKind.i64 (IntKind.wrap IntKind.i64 (List.getD (List.getD c (Int.toNat v0.1.1) []) (1 : Nat) (0 : Int) * tP) * tR)) + IntKind.wrap IntKind.i64 (IntKind.wrap IntKind.i64 (List.getD (List.getD c (Int.toNat v0.1.1) []) (2 : Nat) (0 : Int) * tR) * tR)) * IntKind.wrap IntKind.i64 (IntKind.wrap IntKind.i64 (IntKind.wrap IntKind.i64 (List.getD (List.getD c (Int.toNat v0.1.1) []) (0 : Nat) (0 : Int) * IntKind.wrap IntKind.i64 (IntKind.wrap IntKind.i64 (tP * tP) - IntKind.wrap IntKind.i64 (tQ * tQ))) + IntKind.wrap IntKind.i64 (IntKind.wrap IntKind.i64 (List.getD (List.getD c (Int.toNat v0.1.1) []) (1 : Nat) (0 : Int) * tP) * tR)) + IntKind.wrap IntKind.i64 (IntKind.wrap IntKind.i64 (List.getD (List.getD c (Int.toNat v0.1.1) []) (2 : Nat) (0 : Int) * tR) * tR))) + IntKind.wrap IntKind.i64 (IntKind.wrap IntKind.i64 (IntKind.wrap IntKind.i64 (IntKind.wrap IntKind.i64 (IntKind.wrap IntKind.i64 ((2 : Int) * List.getD (List.getD c (Int.toNat v0.1.1) []) (0 : Nat) (0 : Int)) * tP) * tQ) + IntKind.wrap IntKind.i64 (IntKind.wrap IntKind.i64 (List.getD (List.getD c (Int.toNat v0.1.1) []) (1 : Nat) (0 : Int) * tQ) * tR)) * IntKind.wrap IntKind.i64 (IntKind.wrap IntKind.i64 (IntKind.wrap IntKind.i64 (IntKind.wrap IntKind.i64 ((2 : Int) * List.getD (List.getD c (Int.toNat v0.1.1) []) (0 : Nat) (0 : Int)) * tP) * tQ) + IntKind.wrap IntKind.i64 (IntKind.wrap IntKind.i64 (List.getD (List.getD c (Int.toNat v0.1.1) []) (1 : Nat) (0 : Int) * tQ) * tR))))) (IntKind.wrap IntKind.i64 (IntKind.wrap IntKind.i64 (IntKind.wrap IntKind.i64 (IntKind.wrap IntKind.i64 (IntKind.wrap IntKind.i64 ((16384 : Int) * IntKind.wrap IntKind.i64 (IntKind.wrap IntKind.i64 (tP * tP) - IntKind.wrap IntKind.i64 (tQ * tQ))) + IntKind.wrap IntKind.i64 (IntKind.wrap IntKind.i64 (List.getD (List.getD c (Int.toNat v0.1.1) []) (3 : Nat) (0 : Int) * tP) * tR)) + IntKind.wrap IntKind.i64 (IntKind.wrap IntKind.i64 (List.getD (List.getD c (Int.toNat v0.1.1) []) (4 : Nat) (0 : Int) * tR) * tR)) * IntKind.wrap IntKind.i64 (IntKind.wrap IntKind.i64 (IntKind.wrap IntKind.i64 ((16384 : Int) * IntKind.wrap IntKind.i64 (IntKind.wrap IntKind.i64 (tP * tP) - IntKind.wrap IntKind.i64 (tQ * tQ))) + IntKind.wrap IntKind.i64 (IntKind.wrap IntKind.i64 (List.getD (List.getD c (Int.toNat v0.1.1) []) (3 : Nat) (0 : Int) * tP) * tR)) + IntKind.wrap IntKind.i64 (IntKind.wrap IntKind.i64 (List.getD (List.getD c (Int.toNat v0.1.1) []) (4 : Nat) (0 : Int) * tR) * tR))) + IntKind.wrap IntKind.i64 (IntKind.wrap IntKind.i64 (IntKind.wrap IntKind.i64 (IntKind.wrap IntKind.i64 (IntKind.wrap IntKind.i64 ((2 : Int) * (16384 : Int)) * tP) * tQ) + IntKind.wrap IntKind.i64 (IntKind.wrap IntKind.i64 (List.getD (List.getD c (Int.toNat v0.1.1) []) (3 : Nat) (0 : Int) * tQ) * tR)) * IntKind.wrap IntKind.i64 (IntKind.wrap IntKind.i64 (IntKind.wrap IntKind.i64 (IntKind.wrap IntKind.i64 ((2 : Int) * (16384 : Int)) * tP) * tQ) + IntKind.wrap IntKind.i64 (IntKind.wrap IntKind.i64 (List.getD (List.getD c (Int.toNat v0.1.1) []) (3 : Nat) (0 : Int) * tQ) * tR))))))).2 > (1073741824 : Int)))
   ((Ob (True) ∧
   (Ob (True) ∧
   (Ob ((0 : Int) = r.1) ∧
   (Ob ((0 : Int) = r.2.1) ∧
   (Ob ((8 : Int) = r.2.2) ∧
   True))))))
   ((Ob (ok (B_Floor (IntKind.wrap IntKind.i64 (v0.1.2.1 * (val (R06_Parts (IntKind.wrap IntKind.i64 (IntKind.wrap IntKind.i64 (IntKind.wrap IntKind.i64 (IntKind.wrap IntKind.i64 (IntKind.wrap IntKind.i64 (List.getD (List.getD c (Int.toNat v0.1.1) []) (0 : Nat) (0 : Int) * IntKind.wrap IntKind.i64 (IntKind.wrap IntKind.i64 (tP * tP) - IntKind.wrap IntKind.i64 (tQ * tQ))) + IntKind.wrap IntKind.i64 (IntKind.wrap IntKind.i64 (List.getD (List.getD c (Int.toNat v0.1.1) []) (1 : Nat) (0 : Int) * tP) * tR)) + IntKind.wrap IntKind.i64 (IntKind.wrap IntKind.i64 (List.getD (List.getD c (Int.toNat v0.1.1) []) (2 : Nat) (0 : Int) * tR) * tR)) * IntKind.wrap IntKind.i64 (IntKind.wrap IntKind.i64 (IntKind.wrap IntKind.i64 (List.getD (List.getD c (Int.toNat v0.1.1) []) (0 : Nat) (0 : Int) * IntKind.wrap IntKind.i64 (IntKind.wrap IntKind.i64 (tP * tP) - IntKind.wrap IntKind.i64 (tQ * tQ))) + IntKind.wrap IntKind.i64 (IntKind.wrap IntKind.i64 (List.getD (List.getD c (Int.toNat v0.1.1) []) (1 : Nat) (0 : Int) * tP) * tR)) + IntKind.wrap IntKind.i64 (IntKind.wrap IntKind.i64 (List.getD (List.getD c (Int.toNat v0.1.1) []) (2 : Nat) (0 : Int) * tR) * tR))) + IntKind.wrap IntKind.i64 (IntKind.wrap IntKind.i64 (IntKind.wrap IntKind.i64 (IntKind.wrap IntKind.i64 (IntKind.wrap IntKind.i64 ((2 : Int) * List.getD (List.getD c (Int.toNat v0.1.1) []) (0 : Nat) (0 : Int)) * tP) * tQ) + IntKind.wrap IntKind.i64 (IntKind.wrap IntKind.i64 (List.getD (List.getD c (Int.toNat v0.1.1) []) (1 : Nat) (0 : Int) * tQ) * tR)) * IntKind.wrap IntKind.i64 (IntKind.wrap IntKind.i64 (IntKind.wrap IntKind.i64 (IntKind.wrap IntKind.i64 ((2 : Int) * List.getD (List.getD c (Int.toNat v0.1.1) []) (0 : Nat) (0 : Int)) * tP) * tQ) + IntKind.wrap IntKind.i64 (IntKind.wrap IntKind.i64 (List.getD (List.getD c (Int.toNat v0.1.1) []) (1 : Nat) (0 : Int) * tQ) * tR))))) (IntKind.wrap IntKind.i64 (IntKind.wrap IntKind.i64 (IntKind.wrap IntKind.i64 (IntKind.wrap IntKind.i64 (IntKind.wrap IntKind.i64 ((16384 : Int) * IntKind.wrap IntKind.i64 (IntKind.wrap IntKind.i64 (tP * tP) - IntKind.wrap IntKind.i64 (tQ * tQ))) + IntKind.wrap IntKind.i64 (IntKind.wrap IntKind.i64 (List.getD (List.getD c (Int.toNat v0.1.1) []) (3 : Nat) (0 : Int) * tP) * tR)) + IntKind.wrap IntKind.i64 (IntKind.wrap IntKind.i64 (List.getD (List.getD c (Int.toNat v0.1.1) []) (4 : Nat) (0 : Int) * tR) * tR)) * IntKind.wrap IntKind.i64 (IntKind.wrap IntKind.i64 (IntKind.wrap IntKind.i64 ((16384 : Int) * IntKind.wrap IntKind.i64 (IntKind.wrap IntKind.i64 (tP * tP) - IntKind.wrap IntKind.i64 (tQ * tQ))) + IntKind.wrap IntKind.i64 (IntKind.wrap IntKind.i64 (List.getD (List.getD c (Int.toNat v0.1.1) []) (3 : Nat) (0 : Int) * tP) * tR)) + IntKind.wrap IntKind.i64 (IntKind.wrap IntKind.i64 (List.getD (List.getD c (Int.toNat v0.1.1) []) (4 : Nat) (0 : Int) * tR) * tR))) + IntKind.wrap IntKind.i64 (IntKind.wrap IntKind.i64 (IntKind.wrap IntKind.i64 (IntKind.wrap IntKind.i64 (IntKind.wrap IntKind.i64 ((2 : Int) * (16384 : Int)) * tP) * tQ) + IntKind.wrap IntKind.i64 (IntKind.wrap IntKind.i64 (List.getD (List.getD c (Int.toNat v0.1.1) []) (3 : Nat) (0 : Int) * tQ) * tR)) * IntKind.wrap IntKind.i64 (IntKind.wrap IntKind.i64 (IntKind.wrap IntKind.i64 (IntKind.wrap IntKind.i64 ((2 : Int) * (16384 : Int)) * tP) * tQ) + IntKind.wrap IntKind.i64 (IntKind.wrap IntKind.i64 (List.getD (List.getD c (Int.toNat v0.1.1) []) (3 : Nat) (0 : Int) * tQ) * tR))))))).1)) (1048576 : Int))) ∧
   (Ob (ok (B_Ceil (IntKind.wrap IntKind.i64 (v0.1.2.2 * (val (R06_Parts (IntKind.wrap IntKind.i64 (IntKind.wrap IntKind.i64 (IntKind.wrap IntKind.i64 (IntKind.wrap IntKind.i64 (IntKind.wrap IntKind.i64 (List.getD (List.getD c (Int.toNat v0.1.1) []) (0 : Nat) (0 : Int) * IntKind.wrap IntKind.i64 (IntKind.wrap IntKind.i64 (tP * tP) - IntKind.wrap IntKind.i64 (tQ * tQ))) + IntKind.wrap IntKind.i64 (IntKind.wrap IntKind.i64 (List.getD (List.getD c (Int.toNat v0.1.1) []) (1 : Nat) (0 : Int) * tP) * tR)) + IntKind.wrap IntKind.i64 (IntKind.wrap IntKind.i64 (List.getD (List.getD c (Int.toNat v0.1.1) []) (2 : Nat) (0 : Int) * tR) * tR)) * IntKind.wrap IntKind.i64 (IntKind.wrap IntKind.i64 (IntKind.wrap IntKind.i64 (List.getD (List.getD c (Int.toNat v0.1.1) []) (0 : Nat) (0 : Int) * IntKind.wrap IntKind.i64 (IntKind.wrap IntKind.i64 (tP * tP) - IntKind.wrap IntKind.i64 (tQ * tQ))) + IntKind.wrap IntKind.i64 (IntKind.wrap IntKind.i64 (List.getD (List.getD c (Int.toNat v0.1.1) []) (1 : Nat) (0 : Int) * tP) * tR)) + IntKind.wrap IntKind.i64 (IntKind.wrap IntKind.i64 (List.getD (List.getD c (Int.toNat v0.1.1) []) (2 : Nat) (0 : Int) * tR) * tR))) + IntKind.wrap IntKind.i64 (IntKind.wrap IntKind.i64 (IntKind.wrap IntKind.i64 (IntKind.wrap IntKind.i64 (IntKind.wrap IntKind.i64 ((2 : Int) * List.getD (List.getD c (Int.toNat v0.1.1) []) (0 : Nat) (0 : Int)) * tP) * tQ) + IntKind.wrap IntKind.i64 (IntKind.wrap IntKind.i64 (List.getD (List.getD c (Int.toNat v0.1.1) []) (1 : Nat) (0 : Int) * tQ) * tR)) * IntKind.wrap IntKind.i64 (IntKind.wrap IntKind.i64 (IntKind.wrap IntKind.i64 (IntKind.wrap IntKind.i64 ((2 : Int) * List.getD (List.getD c (Int.toNat v0.1.1) []) (0 : Nat) (0 : Int)) * tP) * tQ) + IntKind.wrap IntKind.i64 (IntKind.wrap IntKind.i64 (List.getD (List.getD c (Int.toNat v0.1.1) []) (1 : Nat) (0 : Int) * tQ) * tR))))) (IntKind.wrap IntKind.i64 (IntKind.wrap IntKind.i64 (IntKind.wrap IntKind.i64 (IntKind.wrap IntKind.i64 (IntKind.wrap IntKind.i64 ((16384 : Int) * IntKind.wrap IntKind.i64 (IntKind.wrap IntKind.i64 (tP * tP) - IntKind.wrap IntKind.i64 (tQ * tQ))) + IntKind.wrap IntKind.i64 (IntKind.wrap IntKind.i64 (List.getD (List.getD c (Int.toNat v0.1.1) []) (3 : Nat) (0 : Int) * tP) * tR)) + IntKind.wrap IntKind.i64 (IntKind.wrap IntKind.i64 (List.getD (List.getD c (Int.toNat v0.1.1) []) (4 : Nat) (0 : Int) * tR) * tR)) * IntKind.wrap IntKind.i64 (IntKind.wrap IntKind.i64 (IntKind.wrap IntKind.i64 ((16384 : Int) * IntKind.wrap IntKind.i64 (IntKind.wrap IntKind.i64 (tP * tP) - IntKind.wrap IntKind.i64 (tQ * tQ))) + IntKind.wrap IntKind.i64 (IntKind.wrap IntKind.i64 (List.getD (List.getD c (Int.toNat v0.1.1) []) (3 : Nat) (0 : Int) * tP) * tR)) + IntKind.wrap IntKind.i64 (IntKind.wrap IntKind.i64 (List.getD (List.getD c (Int.toNat v0.1.1) []) (4 : Nat) (0 : Int) * tR) * tR))) + IntKind.wrap IntKind.i64 (IntKind.wrap IntKind.i64 (IntKind.wrap IntKind.i64 (IntKind.wrap IntKind.i64 (IntKind.wrap IntKind.i64 ((2 : Int) * (16384 : Int)) * tP) * tQ) + IntKind.wrap IntKind.i64 (IntKind.wrap IntKind.i64 (List.getD (List.getD c (Int.toNat v0.1.1) []) (3 : Nat) (0 : Int) * tQ) * tR)) * IntKind.wrap IntKind.i64 (IntKind.wrap IntKind.i64 (IntKind.wrap IntKind.i64 (IntKind.wrap IntKind.i64 ((2 : Int) * (16384 : Int)) * tP) * tQ) + IntKind.wrap IntKind.i64 (IntKind.wrap IntKind.i64 (List.getD (List.getD c (Int.toNat v0.1.1) []) (3 : Nat) (0 : Int) * tQ) * tR))))))).2)) (1048576 : Int))) ∧
   Br (decide (val (B_Ceil (IntKind.wrap IntKind.i64 (v0.1.2.2 * (val (R06_Parts (IntKind.wrap IntKind.i64 (IntKind.wrap IntKind.i64 (IntKind.wrap IntKind.i64 (IntKind.wrap IntKind.i64 (IntKind.wrap IntKind.i64 (List.getD (List.getD c (Int.toNat v0.1.1) []) (0 : Nat) (0 : Int) * IntKind.wrap IntKind.i64 (IntKind.wrap IntKind.i64 (tP * tP) - IntKind.wrap IntKind.i64 (tQ * tQ))) + IntKind.wrap IntKind.i64 (IntKind.wrap IntKind.i64 (List.getD (List.getD c (Int.toNat v0.1.1) []) (1 : Nat) (0 : Int) * tP) * tR)) + IntKind.wrap IntKind.i64 (IntKind.wrap IntKind.i64 (List.getD (List.getD c (Int.toNat v0.1.1) []) (2 : Nat) (0 : Int) * tR) * tR)) * IntKind.wrap IntKind.i64 (IntKind.wrap IntKind.i64 (IntKind.wrap IntKind.i64 (List.getD (List.getD c (Int.toNat v0.1.1) []) (0 : Nat) (0 : Int) * IntKind.wrap IntKind.i64 (IntKind.wrap IntKind.i64 (tP * tP) - IntKind.wrap IntKind.i64 (tQ * tQ))) + IntKind.wrap IntKind.i64 (IntKind.wrap IntKind.i64 (List.getD (List.getD c (Int.toNat v0.1.1) []) (1 : Nat) (0 : Int) * tP) * tR)) + IntKind.wrap IntKind.i64 (IntKind.wrap IntKind.i64 (List.getD (List.getD c (Int.toNat v0.1.1) []) (2 : Nat) (0 : Int) * tR) * tR))) + IntKind.wrap IntKind.i64 (IntKind.wrap IntKind.i64 (IntKind.wrap IntKind.i64 (IntKind.wrap IntKind.i64 (IntKind.wrap IntKind.i64 ((2 : Int) * List.getD (List.getD c (Int.toNat v0.1.1) []) (0 : Nat) (0 : Int)) * tP) * tQ) + IntKind.wrap IntKind.i64 (IntKind.wrap IntKind.i64 (List.getD (List.getD c (Int.toNat v0.1.1) []) (1 : Nat) (0 : Int) * tQ) * tR)) * IntKind.wrap IntKind.i64 (IntKind.wrap IntKind.i64 (IntKind.wrap IntKind.i64 (IntKind.wrap IntKind.i64 ((2 : Int) * List.getD (List.getD c (Int.toNat v0.1.1) []) (0 : Nat) (0 : Int)) * tP) * tQ) + IntKind.wrap IntKind.i64 (IntKind.wrap IntKind.i64 (List.getD (List.getD c (Int.toNat v0.1.1) []) (1 : Nat) (0 : Int) * tQ) * tR))))) (IntKind.wrap IntKind.i64 (IntKind.wrap IntKind.i64 (IntKind.wrap IntKind.i64 (IntKind.wrap IntKind.i64 (IntKind.wrap IntKind.i64 ((16384 : Int) * IntKind.wrap IntKind.i64 (IntKind.wrap IntKind.i64 (tP * tP) - IntKind.wrap IntKind.i64 (tQ * tQ))) + IntKind.wrap IntKind.i64 (IntKind.wrap IntKind.i64 (List.getD (List.getD c (Int.toNat v0.1.1) []) (3 : Nat) (0 : Int) * tP) * tR)) + IntKind.wrap IntKind.i64 (IntKind.wrap IntKind.i64 (List.getD (List.getD c (Int.toNat v0.1.1) []) (4 : Nat) (0 : Int) * tR) * tR)) * IntKind.wrap IntKind.i64 (IntKind.wrap IntKind.i64 (IntKind.wrap IntKind.i64 ((16384 : Int) * IntKind.wrap IntKind.i64 (IntKind.wrap IntKind.i64 (tP * tP) - IntKind.wrap IntKind.i64 (tQ * tQ))) + IntKind.wrap IntKind.i64 (IntKind.wrap IntKind.i64 (List.getD (List.getD c (Int.toNat v0.1.1) []) (3 : Nat) (0 : Int) * tP) * tR)) + IntKind.wrap IntKind.i64 (IntKind.wrap IntKind.i64 (List.getD (List.getD c (Int.toNat v0.1.1) []) (4 : Nat) (0 : Int) * tR) * tR))) + IntKind.wrap IntKind.i64 (IntKind.wrap IntKind.i64 (IntKind.wrap IntKind.i64 (IntKind.wrap IntKind.i64 (IntKind.wrap IntKind.i64 ((2 : Int) * (16384 : Int)) * tP) * tQ) + IntKind.wrap IntKind.i64 (IntKind.wrap IntKind.i64 (List.getD (List.getD c (Int.toNat v0.1.1) []) (3 : Nat) (0 : Int) * tQ) * tR)) * IntKind.wrap IntKind.i64 (IntKind.wrap IntKind.i64 (IntKind.wrap IntKind.i64 (IntKind.wrap IntKind.i64 ((2 : Int) * (16384 : Int)) * tP) * tQ) + IntKind.wrap IntKind.i64 (IntKind.wrap IntKind.i64 (List.getD (List.getD c (Int.toNat v0.1.1) []) (3 : Nat) (0 : Int) * tQ) * tR))))))).2)) (1048576 : Int)) > (1073741824 : Int)))
   ((Ob (True) ∧
   (Ob (True) ∧
   (Ob ((0 : Int) = r.1) ∧
   (Ob ((0 : Int) = r.2.1) ∧
   (Ob ((8 : Int) = r.2.2) ∧
   True))))))
   ((∃ (v1 : (Int × Int × Int) × Nat), (Ob ((Option.bind (iter (R06_GainRange_b0 c tP tQ tR) v1.2 v1.1) fun y0 => Option.bind (R06_GainRange_r0 y0) some) = some r) ∧
   (Ob (v1.2 < v0.2) ∧
   (Ob ((0 : Nat) = (0 : Nat)) ∧
   (Ob ((0 : Nat) = (0 : Nat)) ∧
   (Ob ((0 : Nat) = (0 : Nat)) ∧
   (Ob (IntKind.wrap IntKind.i64 (v0.1.1 + (1 : Int)) = v1.1.1) ∧
   (Ob (c = c) ∧
   (Ob (tP = tP) ∧
   (Ob (tQ = tQ) ∧
   (Ob (tR = tR) ∧
   (Ob ((0 : Int) = (0 : Int)) ∧
   (Ob ((0 : Int) = (0 : Int)) ∧
   (Ob (val (B_Floor (IntKind.wrap IntKind.i64 (v0.1.2.1 * (val (R06_Parts (IntKind.wrap IntKind.i64 (IntKind.wrap IntKind.i64 (IntKind.wrap IntKind.i64 (IntKind.wrap IntKind.i64 (IntKind.wrap IntKind.i64 (List.getD (List.getD c (Int.toNat v0.1.1) []) (0 : Nat) (0 : Int) * IntKind.wrap IntKind.i64 (IntKind.wrap IntKind.i64 (tP * tP) - IntKind.wrap IntKind.i64 (tQ * tQ))) + IntKind.wrap IntKind.i64 (IntKind.wrap IntKind.i64 (List.getD (List.getD c (Int.toNat v0.1.1) []) (1 : Nat) (0 : Int) * tP) * tR)) + IntKind.wrap IntKind.i64 (IntKind.wrap IntKind.i64 (List.getD (List.getD c (Int.toNat v0.1.1) []) (2 : Nat) (0 : Int) * tR) * tR)) * IntKind.wrap IntKind.i64 (IntKind.wrap IntKind.i64 (IntKind.wrap IntKind.i64 (List.getD (List.getD c (Int.toNat v0.1.1) []) (0 : Nat) (0 : Int) * IntKind.wrap IntKind.i64 (IntKind.wrap IntKind.i64 (tP * tP) - IntKind.wrap IntKind.i64 (tQ * tQ))) + IntKind.wrap IntKind.i64 (IntKind.wrap IntKind.i64 (List.getD (List.getD c (Int.toNat v0.1.1) []) (1 : Nat) (0 : Int) * tP) * tR)) + IntKind.wrap IntKind.i64 (IntKind.wrap IntKind.i64 (List.getD (List.getD c (Int.toNat v0.1.1) []) (2 : Nat) (0 : Int) * tR) * tR))) + IntKind.wrap IntKind.i64 (IntKind.wrap IntKind.i64 (IntKind.wrap IntKind.i64 (IntKind.wrap IntKind.i64 (IntKind.wrap IntKind.i64 ((2 : Int) * List.getD (List.getD c (Int.toNat v0.1.1) []) (0 : Nat) (0 : Int)) * tP) * tQ) + IntKind.wrap IntKind.i64 (IntKind.wrap IntKind.i64 (List.getD (List.getD c (Int.toNat v0.1.1) []) (1 : Nat) (0 : Int) * tQ) * tR)) * IntKind.wrap IntKind.i64 (IntKind.wrap IntKind.i64 (IntKind.wrap IntKind.i64 (IntKind.wrap IntKind.i64 ((2 : Int) * List.getD (List.getD c (Int.toNat v0.1.1) []) (0 : Nat) (0 : Int)) * tP) * tQ) + IntKind.wrap IntKind.i64 (IntKind.wrap IntKind.i64 (List.getD (List.getD c (Int.toNat v0.1.1) []) (1 : Nat) (0 : Int) * tQ) * tR))))) (IntKind.wrap IntKind.i64 (IntKind.wrap IntKind.i64 (IntKind.wrap IntKind.i64 (IntKind.wrap IntKind.i64 (IntKind.wrap IntKind.i64 ((16384 : Int) * IntKind.wrap IntKind.i64 (IntKind.wrap IntKind.i64 (tP * tP) - IntKind.wrap IntKind.i64 (tQ * tQ))) + IntKind.wrap IntKind.i64 (IntKind.wrap IntKind.i64 (List.getD (List.getD c (Int.toNat v0.1.1) []) (3 : Nat) (0 : Int) * tP) * tR)) + IntKind.wrap IntKind.i64 (IntKind.wrap IntKind.i64 (List.getD (List.getD c (Int.toNat v0.1.1) []) (4 : Nat) (0 : Int) * tR) * tR)) * IntKind.wrap IntKind.i64 (IntKind.wrap IntKind.i64 (IntKind.wrap IntKind.i64 ((16384 : Int) * IntKind.wrap IntKind.i64 (IntKind.wrap IntKind.i64 (tP * tP) - IntKind.wrap IntKind.i64 (tQ * tQ))) + IntKind.wrap IntKind.i64 (IntKind.wrap IntKind.i64 (List.getD (List.getD c (Int.toNat v0.1.1) []) (3 : Nat) (0 : Int) * tP) * tR)) + IntKind.wrap IntKind.i64 (IntKind.wrap IntKind.i64 (List.getD (List.getD c (Int.toNat v0.1.1) []) (4 : Nat) (0 : Int) * tR) * tR))) + IntKind.wrap IntKind.i64 (IntKind.wrap IntKind.i64 (IntKind.wrap IntKind.i64 (IntKind.wrap IntKind.i64 (IntKind.wrap IntKind.i64 ((2 : Int) * (16384 : Int)) * tP) * tQ) + IntKind.wrap IntKind.i64 (IntKind.wrap IntKind.i64 (List.getD (List.getD c (Int.toNat v0.1.1) []) (3 : Nat) (0 : Int) * tQ) * tR)) * IntKind.wrap IntKind.i64 (IntKind.wrap IntKind.i64 (IntKind.wrap IntKind.i64 (IntKind.wrap IntKind.i64 ((2 : Int) * (16384 : Int)) * tP) * tQ) + IntKind.wrap IntKind.i64 (IntKind.wrap IntKind.i64 (List.getD (List.getD c (Int.toNat v0.1.1) []) (3 : Nat) (0 : Int) * tQ) * tR))))))).1)) (1048576 : Int)) = v1.1.2.1) ∧
   (Ob (val (B_Ceil (IntKind.wrap IntKind.i64 (v0.1.2.2 * (val (R06_Parts (IntKind.wrap IntKind.i64 (IntKind.wrap IntKind.i64 (IntKind.wrap IntKind.i64 (IntKind.wrap IntKind.i64 (IntKind.wrap IntKind.i64 (List.getD (List.getD c (Int.toNat v0.1.1) []) (0 : Nat) (0 : Int) * IntKind.wrap IntKind.i64 (IntKind.wrap IntKind.i64 (tP * tP) - IntKind.wrap IntKind.i64 (tQ * tQ))) + IntKind.wrap IntKind.i64 (IntKind.wrap IntKind.i64 (List.getD (List.getD c (Int.toNat v0.1.1) []) (1 : Nat) (0 : Int) * tP) * tR)) + IntKind.wrap IntKind.i64 (IntKind.wrap IntKind.i64 (List.getD (List.getD c (Int.toNat v0.1.1) []) (2 : Nat) (0 : Int) * tR) * tR)) * IntKind.wrap IntKind.i64 (IntKind.wrap IntKind.i64 (IntKind.wrap IntKind.i64 (List.getD (List.getD c (Int.toNat v0.1.1) []) (0 : Nat) (0 : Int) * IntKind.wrap IntKind.i64 (IntKind.wrap IntKind.i64 (tP * tP) - IntKind.wrap IntKind.i64 (tQ * tQ))) + IntKind.wrap IntKind.i64 (IntKind.wrap IntKind.i64 (List.getD (List.getD c (Int.toNat v0.1.1) []) (1 : Nat) (0 : Int) * tP) * tR)) + IntKind.wrap IntKind.i64 (IntKind.wrap IntKind.i64 (List.getD (List.getD c (Int.toNat v0.1.1) []) (2 : Nat) (0 : Int) * tR) * tR))) + IntKind.wrap IntKind.i64 (IntKind.wrap IntKind.i64 (IntKind.wrap IntKind.i64 (IntKind.wrap IntKind.i64 (IntKind.wrap IntKind.i64 ((2 : Int) * List.getD (List.getD c (Int.toNat v0.1.1) []) (0 : Nat) (0 : Int)) * tP) * tQ) + IntKind.wrap IntKind.i64 (IntKind.wrap IntKind.i64 (List.getD (List.getD c (Int.toNat v0.1.1) []) (1 : Nat) (0 : Int) * tQ) * tR)) * IntKind.wrap IntKind.i64 (IntKind.wrap IntKind.i64 (IntKind.wrap IntKind.i64 (IntKind.wrap IntKind.i64 ((2 : Int) * List.getD (List.getD c (Int.toNat v0.1.1) []) (0 : Nat) (0 : Int)) * tP) * tQ) + IntKind.wrap IntKind.i64 (IntKind.wrap IntKind.i64 (List.getD (List.getD c (Int.toNat v0.1.1) []) (1 : Nat) (0 : Int) * tQ) * tR))))) (IntKind.wrap IntKind.i64 (IntKind.wrap IntKind.i64 (IntKind.wrap IntKind.i64 (IntKind.wrap IntKind.i64 (IntKind.wrap IntKind.i64 ((16384 : Int) * IntKind.wrap IntKind.i64 (IntKind.wrap IntKind.i64 (tP * tP) - IntKind.wrap IntKind.i64 (tQ * tQ))) + IntKind.wrap IntKind.i64 (IntKind.wrap IntKind.i64 (List.getD (List.getD c (Int.toNat v0.1.1) []) (3 : Nat) (0 : Int) * tP) * tR)) + IntKind.wrap IntKind.i64 (IntKind.wrap IntKind.i64 (List.getD (List.getD c (Int.toNat v0.1.1) []) (4 : Nat) (0 : Int) * tR) * tR)) * IntKind.wrap IntKind.i64 (IntKind.wrap IntKind.i64 (IntKind.wrap IntKind.i64 ((16384 : Int) * IntKind.wrap IntKind.i64 (IntKind.wrap IntKind.i64 (tP * tP) - IntKind.wrap IntKind.i64 (tQ * tQ))) + IntKind.wrap IntKind.i64 (IntKind.wrap IntKind.i64 (List.getD (List.getD c (Int.toNat v0.1.1) []) (3 : Nat) (0 : Int) * tP) * tR)) + IntKind.wrap IntKind.i64 (IntKind.wrap IntKind.i64 (List.getD (List.getD c (Int.toNat v0.1.1) []) (4 : Nat) (0 : Int) * tR) * tR))) + IntKind.wrap IntKind.i64 (IntKind.wrap IntKind.i64 (IntKind.wrap IntKind.i64 (IntKind.wrap IntKind.i64 (IntKind.wrap IntKind.i64 ((2 : Int) * (16384 : Int)) * tP) * tQ) + IntKind.wrap IntKind.i64 (IntKind.wrap IntKind.i64 (List.getD (List.getD c (Int.toNat v0.1.1) []) (3 : Nat) (0 : Int) * tQ) * tR)) * IntKind.wrap IntKind.i64 (IntKind.wrap IntKind.i64 (IntKind.wrap IntKind.i64 (IntKind.wrap IntKind.i64 ((2 : Int) * (16384 : Int)) * tP) * tQ) + IntKind.wrap IntKind.i64 (IntKind.wrap IntKind.i64 (List.getD (List.getD c (Int.toNat v0.1.1) []) (3 : Nat) (0 : Int) * tQ) * tR))))))).2)) (1048576 : Int)) = v1.1.2.2) ∧
   True)))))))))))))))))))))))))
   ((Ob (True) ∧
   (Ob (True) ∧
   (Ob (v0.1.2.1 = r.1) ∧
   (Ob (v0.1.2.2 = r.2.1) ∧
   (Ob ((0 : Int) = r.2.2) ∧
   True)))))))))) = _) ?_
  refine ⟨⟨(((0 : Int), (1048576 : Int), (1048576 : Int)), big), ⟨loop_s h⟩, (by repeat' (first | exact trivial | exact ⟨rfl⟩ | refine And.intro ?_ ?_))⟩, fun z4 hz4 => ?_⟩
  obtain ⟨k4, hm4, h⟩ := iter_pos hz4
  refine br_d h (fun h => ?_) (fun h => ?_)
  · refine ob_s h fun h => ?_
    refine ob_s h fun h => ?_
    refine call_s h fun h => ?_
    refine br_b h (fun h => ?_) (fun h => ?_)
    · have h := exit_s h
      refine ob_t ?_
      refine ob_t ?_
      exact ret_s h (fun e => by subst e; exact (by repeat' (first | exact trivial | exact ⟨rfl⟩ | refine And.intro ?_ ?_)))
    · refine call_s h fun h => ?_
      refine br_d h (fun h => ?_) (fun h => ?_)
      · have h := exit_s h
        refine ob_t ?_
        refine ob_t ?_
        exact ret_s h (fun e => by subst e; exact (by repeat' (first | exact trivial | exact ⟨rfl⟩ | refine And.intro ?_ ?_)))
      · refine call_s h fun h => ?_
        refine call_s h fun h => ?_
        refine br_d h (fun h => ?_) (fun h => ?_)
        · have h := exit_s h
          refine ob_t ?_
          refine ob_t ?_
          exact ret_s h (fun e => by subst e; exact (by repeat' (first | exact trivial | exact ⟨rfl⟩ | refine And.intro ?_ ?_)))
        · exact ⟨((IntKind.wrap IntKind.i64 ((Prod.fst z4).1 + (1 : Int)), val (B_Floor (IntKind.wrap IntKind.i64 ((Prod.fst z4).2.1 * (val (R06_Parts (IntKind.wrap IntKind.i64 (IntKind.wrap IntKind.i64 (IntKind.wrap IntKind.i64 (IntKind.wrap IntKind.i64 (IntKind.wrap IntKind.i64 (List.getD (List.getD c (Int.toNat (Prod.fst z4).1) []) (0 : Nat) (0 : Int) * IntKind.wrap IntKind.i64 (IntKind.wrap IntKind.i64 (tP * tP) - IntKind.wrap IntKind.i64 (tQ * tQ))) + IntKind.wrap IntKind.i64 (IntKind.wrap IntKind.i64 (List.getD (List.getD c (Int.toNat (Prod.fst z4).1) []) (1 : Nat) (0 : Int) * tP) * tR)) + IntKind.wrap IntKind.i64 (IntKind.wrap IntKind.i64 (List.getD (List.getD c (Int.toNat (Prod.fst z4).1) []) (2 : Nat) (0 : Int) * tR) * tR)) * IntKind.wrap IntKind.i64 (IntKind.wrap IntKind.i64 (IntKind.wrap IntKind.i64 (List.getD (List.getD c (Int.toNat (Prod.fst z4).1) []) (0 : Nat) (0 : Int) * IntKind.wrap IntKind.i64 (IntKind.wrap IntKind.i64 (tP * tP) - IntKind.wrap IntKind.i64 (tQ * tQ))) + IntKind.wrap IntKind.i64 (IntKind.wrap IntKind.i64 (List.getD (List.getD c (Int.toNat (Prod.fst z4).1) []) (1 : Nat) (0 : Int) * tP) * tR)) + IntKind.wrap IntKind.i64 (IntKind.wrap IntKind.i64 (List.getD (List.getD c (Int.toNat (Prod.fst z4).1) []) (2 : Nat) (0 : Int) * tR) * tR))) + IntKind.wrap IntKind.i64 (IntKind.wrap IntKind.i64 (IntKind.wrap IntKind.i64 (IntKind.wrap IntKind.i64 (IntKind.wrap IntKind.i64 ((2 : Int) * List.getD (List.getD c (Int.toNat (Prod.fst z4).1) []) (0 : Nat) (0 : Int)) * tP) * tQ) + IntKind.wrap IntKind.i64 (IntKind.wrap IntKind.i64 (List.getD (List.getD c (Int.toNat (Prod.fst z4).1) []) (1 : Nat) (0 : Int) * tQ) * tR)) * IntKind.wrap IntKind.i64 (IntKind.wrap IntKind.i64 (IntKind.wrap IntKind.i64 (IntKind.wrap IntKind.i64 ((2 : Int) * List.getD (List.getD c (Int.toNat (Prod.fst z4).1) []) (0 : Nat) (0 : Int)) * tP) * tQ) + IntKind.wrap IntKind.i64 (IntKind.wrap IntKind.i64 (List.getD (List.getD c (Int.toNat (Prod.fst z4).1) []) (1 : Nat) (0 : Int) * tQ) * tR))))) (IntKind.wrap IntKind.i64 (IntKind.wrap IntKind.i64 (IntKind.wrap IntKind.i64 (IntKind.wrap IntKind.i64 (IntKind.wrap IntKind.i64 ((16384 : Int) * IntKind.wrap IntKind.i64 (IntKind.wrap IntKind.i64 (tP * tP) - IntKind.wrap IntKind.i64 (tQ * tQ))) + IntKind.wrap IntKind.i64 (IntKind.wrap IntKind.i64 (List.getD (List.getD c (Int.toNat (Prod.fst z4).1) []) (3 : Nat) (0 : Int) * tP) * tR)) + IntKind.wrap IntKind.i64 (IntKind.wrap IntKind.i64 (List.getD (List.getD c (Int.toNat (Prod.fst z4).1) []) (4 : Nat) (0 : Int) * tR) * tR)) * IntKind.wrap IntKind.i64 (IntKind.wrap IntKind.i64 (IntKind.wrap IntKind.i64 ((16384 : Int) * IntKind.wrap IntKind.i64 (IntKind.wrap IntKind.i64 (tP * tP) - IntKind.wrap IntKind.i64 (tQ * tQ))) + IntKind.wrap IntKind.i64 (IntKind.wrap IntKind.i64 (List.getD (List.getD c (Int.toNat (Prod.fst z4).1) []) (3 : Nat) (0 : Int) * tP) * tR)) + IntKind.wrap IntKind.i64 (IntKind.wrap IntKind.i64 (List.getD (List.getD c (Int.toNat (Prod.fst z4).1) []) (4 : Nat) (0 : Int) * tR) * tR))) + IntKind.wrap IntKind.i64 (IntKind.wrap IntKind.i64 (IntKind.wrap IntKind.i64 (IntKind.wrap IntKind.i64 (IntKind.wrap IntKind.i64 ((2 : Int) * (16384 : Int)) * tP) * tQ) + IntKind.wrap IntKind.i64 (IntKind.wrap IntKind.i64 (List.getD (List.getD c (Int.toNat (Prod.fst z4).1) []) (3 : Nat) (0 : Int) * tQ) * tR)) * IntKind.wrap IntKind.i64 (IntKind.wrap IntKind.i64 (IntKind.wrap IntKind.i64 (IntKind.wrap IntKind.i64 ((2 : Int) * (16384 : Int)) * tP) * tQ) + IntKind.wrap IntKind.i64 (IntKind.wrap IntKind.i64 (List.getD (List.getD c (Int.toNat (Prod.fst z4).1) []) (3 : Nat) (0 : Int) * tQ) * tR))))))).1)) (1048576 : Int)), val (B_Ceil (IntKind.wrap IntKind.i64 ((Prod.fst z4).2.2 * (val (R06_Parts (IntKind.wrap IntKind.i64 (IntKind.wrap IntKind.i64 (IntKind.wrap IntKind.i64 (IntKind.wrap IntKind.i64 (IntKind.wrap IntKind.i64 (List.getD (List.getD c (Int.toNat (Prod.fst z4).1) []) (0 : Nat) (0 : Int) * IntKind.wrap IntKind.i64 (IntKind.wrap IntKind.i64 (tP * tP) - IntKind.wrap IntKind.i64 (tQ * tQ))) + IntKind.wrap IntKind.i64 (IntKind.wrap IntKind.i64 (List.getD (List.getD c (Int.toNat (Prod.fst z4).1) []) (1 : Nat) (0 : Int) * tP) * tR)) + IntKind.wrap IntKind.i64 (IntKind.wrap IntKind.i64 (List.getD (List.getD c (Int.toNat (Prod.fst z4).1) []) (2 : Nat) (0 : Int) * tR) * tR)) * IntKind.wrap IntKind.i64 (IntKind.wrap IntKind.i64 (IntKind.wrap IntKind.i64 (List.getD (List.getD c (Int.toNat (Prod.fst z4).1) []) (0 : Nat) (0 : Int) * IntKind.wrap IntKind.i64 (IntKind.wrap IntKind.i64 (tP * tP) - IntKind.wrap IntKind.i64 (tQ * tQ))) + IntKind.wrap IntKind.i64 (IntKind.wrap IntKind.i64 (List.getD (List.getD c (Int.toNat (Prod.fst z4).1) []) (1 : Nat) (0 : Int) * tP) * tR)) + IntKind.wrap IntKind.i64 (IntKind.wrap IntKind.i64 (List.getD (List.getD c (Int.toNat (Prod.fst z4).1) []) (2 : Nat) (0 : Int) * tR) * tR))) + IntKind.wrap IntKind.i64 (IntKind.wrap IntKind.i64 (IntKind.wrap IntKind.i64 (IntKind.wrap IntKind.i64 (IntKind.wrap IntKind.i64 ((2 : Int) * List.getD (List.getD c (Int.toNat (Prod.fst z4).1) []) (0 : Nat) (0 : Int)) * tP) * tQ) + IntKind.wrap IntKind.i64 (IntKind.wrap IntKind.i64 (List.getD (List.getD c (Int.toNat (Prod.fst z4).1) []) (1 : Nat) (0 : Int) * tQ) * tR)) * IntKind.wrap IntKind.i64 (IntKind.wrap IntKind.i64 (IntKind.wrap IntKind.i64 (IntKind.wrap IntKind.i64 ((2 : Int) * List.getD (List.getD c (Int.toNat (Prod.fst z4).1) []) (0 : Nat) (0 : Int)) * tP) * tQ) + IntKind.wrap IntKind.i64 (IntKind.wrap IntKind.i64 (List.getD (List.getD c (Int.toNat (Prod.fst z4).1) []) (1 : Nat) (0 : Int) * tQ) * tR))))) (IntKind.wrap IntKind.i64 (IntKind.wrap IntKind.i64 (IntKind.wrap IntKind.i64 (IntKind.wrap IntKind.i64 (IntKind.wrap IntKind.i64 ((16384 : Int) * IntKind.wrap IntKind.i64 (IntKind.wrap IntKind.i64 (tP * tP) - IntKind.wrap IntKind.i64 (tQ * tQ))) + IntKind.wrap IntKind.i64 (IntKind.wrap IntKind.i64 (List.getD (List.getD c (Int.toNat (Prod.fst z4).1) []) (3 : Nat) (0 : Int) * tP) * tR)) + IntKind.wrap IntKind.i64 (IntKind.wrap IntKind.i64 (List.getD (List.getD c (Int.toNat (Prod.fst z4).1) []) (4 : Nat) (0 : Int) * tR) * tR)) * IntKind.wrap IntKind.i64 (IntKind.wrap IntKind.i64 (IntKind.wrap IntKind.i64 ((16384 : Int) * IntKind.wrap IntKind.i64 (IntKind.wrap IntKind.i64 (tP * tP) - IntKind.wrap IntKind.i64 (tQ * tQ))) + IntKind.wrap IntKind.i64 (IntKind.wrap IntKind.i64 (List.getD (List.getD c (Int.toNat (Prod.fst z4).1) []) (3 : Nat) (0 : Int) * tP) * tR)) + IntKind.wrap IntKind.i64 (IntKind.wrap IntKind.i64 (List.getD (List.getD c (Int.toNat (Prod.fst z4).1) []) (4 : Nat) (0 : Int) * tR) * tR))) + IntKind.wrap IntKind.i64 (IntKind.wrap IntKind.i64 (IntKind.wrap IntKind.i64 (IntKind.wrap IntKind.i64 (IntKind.wrap IntKind.i64 ((2 : Int) * (16384 : Int)) * tP) * tQ) + IntKind.wrap IntKind.i64 (IntKind.wrap IntKind.i64 (List.getD (List.getD c (Int.toNat (Prod.fst z4).1) []) (3 : Nat) (0 : Int) * tQ) * tR)) * IntKind.wrap IntKind.i64 (IntKind.wrap IntKind.i64 (IntKind.wrap IntKind.i64 (IntKind.wrap IntKind.i64 ((2 : Int) * (16384 : Int)) * tP) * tQ) + IntKind.wrap IntKind.i64 (IntKind.wrap IntKind.i64 (List.getD (List.getD c (Int.toNat (Prod.fst z4).1) []) (3 : Nat) (0 : Int) * tQ) * tR))))))).2)) (1048576 : Int))), k4), ⟨next_s h⟩, ⟨lt_gs hm4.symm⟩, (by repeat' (first | exact trivial | exact ⟨rfl⟩ | refine And.intro ?_ ?_))⟩
  · have h := exit_s h
    refine ob_t ?_
    refine ob_t ?_
    exact ret_s h (fun e => by subst e; exact (by repeat' (first | exact trivial | exact ⟨rfl⟩ | refine And.intro ?_ ?_)))
set_option maxRecDepth 100000 in
theorem R06_GainRange_ok : SpecOK Try.prog 43 true (pureK k_R06_GainRange g_R06_GainRange) := by
  refine pureK_ok (sp := (sp_100 (sp_101 (sp_90 (sp_102 sp0))))) (fn := Try.f43) (body := bodyOf Try.f43) mixed (sp_100_ok (sp_101_ok (sp_90_ok (sp_102_ok sp0_ok)))) Try.func43 (by kernel_rfl) (by kernel_rfl) fun as_ ob rs h ho => ?_
  unfold g_R06_GainRange at h
  split at h
  · rename_i c tP tQ tR
    cases h
    exact ⟨Nat.le_of_ble_eq_true rfl, _, _, R06_GainRange_vc c tP tQ tR _ (ok_some ho)⟩
  · cases h
theorem sp_43_ok {sp : Specs} (h : SpecsOK Try.prog sp) : SpecsOK Try.prog (sp_43 sp) := addK_ok R06_GainRange_ok h

/-- shoebox/filter.GainSquare -/
def F_GainSquare (sB0 : Int) (sB1 : Int) (sB2 : Int) (sA0 : Int) (sA1 : Int) (tP : Int) (tQ : Int) (tR : Int) : Option (Int × Int × Int) :=
  if List.length [Sx06.chkS sB0 sB1 sB2 sA0 sA1, Sx06.turnE tP tQ tR] ≤ (1000000 : Nat) then
   if (Option.getD (List.find? (fun x => x != (0 : Int)) [Sx06.chkS sB0 sB1 sB2 sA0 sA1, Sx06.turnE tP tQ tR]) (0 : Int) != (0 : Int)) = true then
    some (((0 : Int), (0 : Int), Option.getD (List.find? (fun x => x != (0 : Int)) [Sx06.chkS sB0 sB1 sB2 sA0 sA1, Sx06.turnE tP tQ tR]) (0 : Int)))
   else
    if Sx06.secB sB0 sB1 sB2 sA0 sA1 = true ∧ ((-100 : Int) ≤ tP ∧ tP ≤ (100 : Int)) ∧ ((-100 : Int) ≤ tQ ∧ tQ ≤ (100 : Int)) ∧ (-100 : Int) ≤ tR ∧ tR ≤ (100 : Int) then
     if (Sx06.sqS (16384 : Int) sA0 sA1 tP tQ tR == (0 : Int)) = true then
      some (((0 : Int), (0 : Int), (11 : Int)))
     else
      Option.bind (F_lowest (Sx06.sqS sB0 sB1 sB2 tP tQ tR) (Sx06.sqS (16384 : Int) sA0 sA1 tP tQ tR)) fun r0 =>
      if r0.1 > (1000000000 : Int) then
       some (((0 : Int), (0 : Int), (8 : Int)))
      else
       if r0.2 > (1000000000 : Int) then
        some (((0 : Int), (0 : Int), (8 : Int)))
       else
        some ((r0.1, r0.2, (0 : Int)))
    else none
  else none
def g_F_GainSquare : List A → Option (Prop × List RV)
  | [.s [.i .i64 sB0, .i .i64 sB1, .i .i64 sB2, .i .i64 sA0, .i .i64 sA1], .s [.i .i64 tP, .i .i64 tQ, .i .i64 tR]] => some (ok (F_GainSquare sB0 sB1 sB2 sA0 sA1 tP tQ tR), [.s [.i .i64 ((val (F_GainSquare sB0 sB1 sB2 sA0 sA1 tP tQ tR)).1), .i .i64 ((val (F_GainSquare sB0 sB1 sB2 sA0 sA1 tP tQ tR)).2.1)], .d (.i .i64 ((val (F_GainSquare sB0 sB1 sB2 sA0 sA1 tP tQ tR)).2.2))])
  | _ => none
def k_F_GainSquare : List (Option Cont) := [none, none]
abbrev sp_44 : Specs → Specs := addK 44 true (pureK k_F_GainSquare g_F_GainSquare)
set_option maxRecDepth 100000 in
theorem F_GainSquare_vc (sB0 : Int) (sB1 : Int) (sB2 : Int) (sA0 : Int) (sA1 : Int) (tP : Int) (tQ : Int) (tR : Int) (r : Int × Int × Int) (h : Option.bind (F_GainSquare sB0 sB1 sB2 sA0 sA1 tP tQ tR) some = some r) : runF Try.f44 ((sp_57 (sp_97 (sp_85 (sp_98 (sp_103 sp0)))))) (fun _ _ _ => none) [.s [.i .i64 sB0, .i .i64 sB1, .i .i64 sB2, .i .i64 sA0, .i .i64 sA1], .s [.i .i64 tP, .i .i64 tQ, .i .i64 tR]] [.s [.i .i64 r.1, .i .i64 r.2.1], .d (.i .i64 r.2.2)] := by
  refine Eq.mp (by kernel_rfl : (
  (Ob (True) ∧
   (Ob (True) ∧
   (Ob (List.length [Sx06.chkS sB0 sB1 sB2 sA0 sA1, Sx06.turnE tP tQ tR] ≤ (1000000 : Nat)) ∧
   Br (Option.getD (List.find? (fun x => x != (0 : Int)) [Sx06.chkS sB0 sB1 sB2 sA0 sA1, Sx06.turnE tP tQ tR]) (0 : Int) != (0 : Int))
   ((Ob (True) ∧
   (Ob (True) ∧
   (Ob ((0 : Int) = r.1) ∧
   (Ob ((0 : Int) = r.2.1) ∧
   (Ob (Option.getD (List.find? (fun x => x != (0 : Int)) [Sx06.chkS sB0 sB1 sB2 sA0 sA1, Sx06.turnE tP tQ tR]) (0 : Int) = r.2.2) ∧
   True))))))
   ((Ob (Sx06.secB sB0 sB1 sB2 sA0 sA1 = true ∧ ((-100 : Int) ≤ tP ∧ tP ≤ (100 : Int)) ∧ ((-100 : Int) ≤ tQ ∧ tQ ≤ (100 : Int)) ∧ (-100 : Int) ≤ tR ∧ tR ≤ (100 : Int)) ∧
   Br (Sx06.sqS (16384 : Int) sA0 sA1 tP tQ tR == (0 : Int))
   ((Ob (True) ∧
   (Ob (True) ∧
   (Ob ((0 : Int) = r.1) ∧
   (Ob ((0 : Int) = r.2.1) ∧
   (Ob ((11 : Int) = r.2.2) ∧
   True))))))
   ((Ob (ok (F_lowest (Sx06.sqS sB0 sB1 sB2 tP tQ tR) (Sx06.sqS (16384 : Int) sA0 sA1 tP tQ tR))) ∧
   Br (decide ((val (F_lowest (Sx06.sqS sB0 sB1 sB2 tP tQ tR) (Sx06.sqS (16384 : Int) sA0 sA1 tP tQ tR))).1 > (1000000000 : Int)))
   ((Ob (True) ∧
   (Ob (True) ∧
   (Ob ((0 : Int) = r.1) ∧
   (Ob ((0 : Int) = r.2.1) ∧
   (Ob ((8 : Int) = r.2.2) ∧
   True))))))
   (Br (decide ((val (F_lowest (Sx06.sqS sB0 sB1 sB2 tP tQ tR) (Sx06.sqS (16384 : Int) sA0 sA1 tP tQ tR))).2 > (1000000000 : Int)))
   ((Ob (True) ∧
   (Ob (True) ∧
   (Ob ((0 : Int) = r.1) ∧
   (Ob ((0 : Int) = r.2.1) ∧
   (Ob ((8 : Int) = r.2.2) ∧
   True))))))
   ((Ob (True) ∧
   (Ob (True) ∧
   (Ob ((val (F_lowest (Sx06.sqS sB0 sB1 sB2 tP tQ tR) (Sx06.sqS (16384 : Int) sA0 sA1 tP tQ tR))).1 = r.1) ∧
   (Ob ((val (F_lowest (Sx06.sqS sB0 sB1 sB2 tP tQ tR) (Sx06.sqS (16384 : Int) sA0 sA1 tP tQ tR))).2 = r.2.1) ∧
   (Ob ((0 : Int) = r.2.2) ∧
   True))))))))))))))) = _) ?_
  refine ob_t ?_
  refine ob_t ?_
  refine ob_s h fun h => ?_
  refine br_b h (fun h => ?_) (fun h => ?_)
  · refine ob_t ?_
    refine ob_t ?_
    exact ret_s h (fun e => by subst e; exact (by repeat' (first | exact trivial | exact ⟨rfl⟩ | refine And.intro ?_ ?_)))
  · refine ob_s h fun h => ?_
    refine br_b h (fun h => ?_) (fun h => ?_)
    · refine ob_t ?_
      refine ob_t ?_
      exact ret_s h (fun e => by subst e; exact (by repeat' (first | exact trivial | exact ⟨rfl⟩ | refine And.intro ?_ ?_)))
    · refine call_s h fun h => ?_
      refine br_d h (fun h => ?_) (fun h => ?_)
      · refine ob_t ?_
        refine ob_t ?_
        exact ret_s h (fun e => by subst e; exact (by repeat' (first | exact trivial | exact ⟨rfl⟩ | refine And.intro ?_ ?_)))
      · refine br_d h (fun h => ?_) (fun h => ?_)
        · refine ob_t ?_
          refine ob_t ?_
          exact ret_s h (fun e => by subst e; exact (by repeat' (first | exact trivial | exact ⟨rfl⟩ | refine And.intro ?_ ?_)))
        · refine ob_t ?_
          refine ob_t ?_
          exact ret_s h (fun e => by subst e; exact (by repeat' (first | exact trivial | exact ⟨rfl⟩ | refine And.intro ?_ ?_)))
set_option maxRecDepth 100000 in
theorem F_GainSquare_ok : SpecOK Try.prog 44 true (pureK k_F_GainSquare g_F_GainSquare) := by
  refine pureK_ok (sp := (sp_57 (sp_97 (sp_85 (sp_98 (sp_103 sp0)))))) (fn := Try.f44) (body := bodyOf Try.f44) mixed (sp_57_ok (sp_97_ok (sp_85_ok (sp_98_ok (sp_103_ok sp0_ok))))) Try.func44 (by kernel_rfl) (by kernel_rfl) fun as_ ob rs h ho => ?_
  unfold g_F_GainSquare at h
  split at h
  · rename_i sB0 sB1 sB2 sA0 sA1 tP tQ tR
    cases h
    exact ⟨Nat.le_of_ble_eq_true rfl, _, _, F_GainSquare_vc sB0 sB1 sB2 sA0 sA1 tP tQ tR _ (ok_some ho)⟩
  · cases h
theorem sp_44_ok {sp : Specs} (h : SpecsOK Try.prog sp) : SpecsOK Try.prog (sp_44 sp) := addK_ok F_GainSquare_ok h

def B_Compare_b0 (x0 : (Int × Int × Int × Int)) : Option ((Int × Int × Int × Int) ⊕ Int) :=
  Option.bind (B_Floor x0.1 x0.2.1) fun r0 =>
  Option.bind (B_Floor x0.2.2.1 x0.2.2.2) fun r1 =>
  if r0 < r1 then
   some (.inr (-1 : Int))
  else
   if r0 > r1 then
    some (.inr (1 : Int))
   else
    if (IntKind.wrap IntKind.i64 (x0.1 - IntKind.wrap IntKind.i64 (r0 * x0.2.1)) == (0 : Int)) = true then
     if (IntKind.wrap IntKind.i64 (x0.2.2.1 - IntKind.wrap IntKind.i64 (r1 * x0.2.2.2)) == (0 : Int)) = true then
      some (.inr (0 : Int))
     else
      if (IntKind.wrap IntKind.i64 (x0.1 - IntKind.wrap IntKind.i64 (r0 * x0.2.1)) == (0 : Int)) = true then
       some (.inr (-1 : Int))
      else
       if (IntKind.wrap IntKind.i64 (x0.2.2.1 - IntKind.wrap IntKind.i64 (r1 * x0.2.2.2)) == (0 : Int)) = true then
        some (.inr (1 : Int))
       else
        some (.inl ((x0.2.2.2, IntKind.wrap IntKind.i64 (x0.2.2.1 - IntKind.wrap IntKind.i64 (r1 * x0.2.2.2)), x0.2.1, IntKind.wrap IntKind.i64 (x0.1 - IntKind.wrap IntKind.i64 (r0 * x0.2.1)))))
    else
     if (IntKind.wrap IntKind.i64 (x0.1 - IntKind.wrap IntKind.i64 (r0 * x0.2.1)) == (0 : Int)) = true then
      some (.inr (-1 : Int))
     else
      if (IntKind.wrap IntKind.i64 (x0.2.2.1 - IntKind.wrap IntKind.i64 (r1 * x0.2.2.2)) == (0 : Int)) = true then
       some (.inr (1 : Int))
      else
       some (.inl ((x0.2.2.2, IntKind.wrap IntKind.i64 (x0.2.2.1 - IntKind.wrap IntKind.i64 (r1 * x0.2.2.2)), x0.2.1, IntKind.wrap IntKind.i64 (x0.1 - IntKind.wrap IntKind.i64 (r0 * x0.2.1)))))
def B_Compare_r0 (y0_0 : Int) : Option Int :=
  some y0_0
/-- shoebox/shoeboxbase.Compare -/
def B_Compare (n : Int) (d : Int) (m_ : Int) (k : Int) : Option Int :=
  Option.bind (iter (B_Compare_b0) big (n, d, m_, k)) (B_Compare_r0)
def g_B_Compare : List A → Option (Prop × List RV)
  | [.d (.i .i64 n), .d (.i .i64 d), .d (.i .i64 m_), .d (.i .i64 k)] => some (ok (B_Compare n d m_ k), [.d (.i .i64 ((val (B_Compare n d m_ k))))])
  | _ => none
def k_B_Compare : List (Option Cont) := [none, none, none, none]
abbrev sp_45 : Specs → Specs := addK 45 true (pureK k_B_Compare g_B_Compare)
set_option maxRecDepth 100000 in
theorem B_Compare_vc (n : Int) (d : Int) (m_ : Int) (k : Int) (r : Int) (h : Option.bind (B_Compare n d m_ k) some = some r) : runF Try.f45 ((sp_90 sp0)) (fun gs id _ => match id with
 | 0 => some ⟨(Int × Int × Int × Int) × Nat, fun z => ⟨[(0, .w (.c (.d (.i .i64 (Prod.fst (Prod.fst z)))))), (1, .w (.c (.d (.i .i64 (Prod.fst (Prod.snd (Prod.fst z))))))), (2, .w (.c (.d (.i .i64 (Prod.fst (Prod.snd (Prod.snd (Prod.fst z)))))))), (3, .w (.c (.d (.i .i64 (Prod.snd (Prod.snd (Prod.snd (Prod.fst z))))))))], [], 4⟩, fun z => Option.bind (iter (B_Compare_b0) (Prod.snd z) (Prod.fst z)) (fun y0 => Option.bind (B_Compare_r0 y0) some) = some r, fun z => Prod.snd z⟩
 | _ => none) [.d (.i .i64 n), .d (.i .i64 d), .d (.i .i64 m_), .d (.i .i64 k)] [.d (.i .i64 r)] := by
  refine Eq.mp (by kernel_rfl : (
  ((∃ (v0 : (Int × Int × Int × Int) × Nat), (Ob ((Option.bind (iter B_Compare_b0 v0.2 v0.1) fun y0 => Option.bind (B_Compare_r0 y0) some) = some r) ∧
   (Ob (n = v0.1.1) ∧
   (Ob (d = v0.1.2.1) ∧
   (Ob (m_ = v0.1.2.2.1) ∧
   (Ob (k = v0.1.2.2.2) ∧
   True)))))) ∧
   (∀ (v0 : (Int × Int × Int × Int) × Nat), ((Option.bind (iter B_Compare_b0 v0.2 v0.1) fun y0 => Option.bind (B_Compare_r0 y0) some) = some r →
   (Ob (ok (B_Floor v0.1.1 v0.1.2.1)) ∧
   (Ob (ok (B_Floor v0.1.2.2.1 v0.1.2.2.2)) ∧
   Br (decide (val (B_Floor v0.1.1 v0.1.2.1) < val (B_Floor v0.1.2.2.1 v0.1.2.2.2)))
   ((Ob (True) ∧
   (Ob ((-1 : Int) = r) ∧
   True)))
   (Br (decide (val (B_Floor v0.1.1 v0.1.2.1) > val (B_Floor v0.1.2.2.1 v0.1.2.2.2)))
   ((Ob (True) ∧
   (Ob ((1 : Int) = r) ∧
   True)))
   (Br (IntKind.wrap IntKind.i64 (v0.1.1 - IntKind.wrap IntKind.i64 (val (B_Floor v0.1.1 v0.1.2.1) * v0.1.2.1)) == (0 : Int))
   (Br (IntKind.wrap IntKind.i64 (v0.1.2.2.1 - IntKind.wrap IntKind.i64 (val (B_Floor v0.1.2.2.1 v0.1.2.2.2) * v0.1.2.2.2)) == (0 : Int))
   ((Ob (True) ∧
   (Ob ((0 : Int) = r) ∧
   True)))
   (Br (IntKind.wrap IntKind.i64 (v0.1.1 - IntKind.wrap IntKind.i64 (val (B_Floor v0.1.1 v0.1.2.1) * v0.1.2.1)) == (0 : Int))
   ((Ob (True) ∧
   (Ob ((-1 : Int) = r) ∧
   True)))
   (Br (IntKind.wrap IntKind.i64 (v0.1.2.2.1 - IntKind.wrap IntKind.i64 (val (B_Floor v0.1.2.2.1 v0.1.2.2.2) * v0.1.2.2.2)) == (0 : Int))
   ((Ob (True) ∧
   (Ob ((1 : Int) = r) ∧
   True)))
   ((∃ (v1 : (Int × Int × Int × Int) × Nat), (Ob ((Option.bind (iter B_Compare_b0 v1.2 v1.1) fun y0 => Option.bind (B_Compare_r0 y0) some) = some r) ∧
   (Ob (v1.2 < v0.2) ∧
   (Ob (v0.1.2.2.2 = v1.1.1) ∧
   (Ob (IntKind.wrap IntKind.i64 (v0.1.2.2.1 - IntKind.wrap IntKind.i64 (val (B_Floor v0.1.2.2.1 v0.1.2.2.2) * v0.1.2.2.2)) = v1.1.2.1) ∧
   (Ob (v0.1.2.1 = v1.1.2.2.1) ∧
   (Ob (IntKind.wrap IntKind.i64 (v0.1.1 - IntKind.wrap IntKind.i64 (val (B_Floor v0.1.1 v0.1.2.1) * v0.1.2.1)) = v1.1.2.2.2) ∧
   True)))))))))))
   (Br (IntKind.wrap IntKind.i64 (v0.1.1 - IntKind.wrap IntKind.i64 (val (B_Floor v0.1.1 v0.1.2.1) * v0.1.2.1)) == (0 : Int))
   ((Ob (True) ∧
   (Ob ((-1 : Int) = r) ∧
   True)))
   (Br (IntKind.wrap IntKind.i64 (v0.1.2.2.1 - IntKind.wrap IntKind.i64 (val (B_Floor v0.1.2.2.1 v0.1.2.2.2) * v0.1.2.2.2)) == (0 : Int))
   ((Ob (True) ∧
   (Ob ((1 : Int) = r) ∧
   True)))
   ((∃ (v1 : (Int × Int × Int × Int) × Nat), (Ob ((Option.bind (iter B_Compare_b0 v1.2 v1.1) fun y0 => Option.bind (B_Compare_r0 y0) some) = some r) ∧
   (Ob (v1.2 < v0.2) ∧
   (Ob (v0.1.2.2.2 = v1.1.1) ∧
   (Ob (IntKind.wrap IntKind.i64 (v0.1.2.2.1 - IntKind.wrap IntKind.i64 (val (B_Floor v0.1.2.2.1 v0.1.2.2.2) * v0.1.2.2.2)) = v1.1.2.1) ∧
   (Ob (v0.1.2.1 = v1.1.2.2.1) ∧
   (Ob (IntKind.wrap IntKind.i64 (v0.1.1 - IntKind.wrap IntKind.i64 (val (B_Floor v0.1.1 v0.1.2.1) * v0.1.2.1)) = v1.1.2.2.2) ∧
   True)))))))))))))))))) = _) ?_
  refine ⟨⟨((n, d, m_, k), big), ⟨loop_s h⟩, (by repeat' (first | exact trivial | exact ⟨rfl⟩ | refine And.intro ?_ ?_))⟩, fun z2 hz2 => ?_⟩
  obtain ⟨k2, hm2, h⟩ := iter_pos hz2
  refine call_s h fun h => ?_
  refine call_s h fun h => ?_
  refine br_d h (fun h => ?_) (fun h => ?_)
  · have h := exit_s h
    refine ob_t ?_
    exact ret_s h (fun e => by subst e; exact (by repeat' (first | exact trivial | exact ⟨rfl⟩ | refine And.intro ?_ ?_)))
  · refine br_d h (fun h => ?_) (fun h => ?_)
    · have h := exit_s h
      refine ob_t ?_
      exact ret_s h (fun e => by subst e; exact (by repeat' (first | exact trivial | exact ⟨rfl⟩ | refine And.intro ?_ ?_)))
    · refine br_b h (fun h => ?_) (fun h => ?_)
      · refine br_b h (fun h => ?_) (fun h => ?_)
        · have h := exit_s h
          refine ob_t ?_
          exact ret_s h (fun e => by subst e; exact (by repeat' (first | exact trivial | exact ⟨rfl⟩ | refine And.intro ?_ ?_)))
        · refine br_b h (fun h => ?_) (fun h => ?_)
          · have h := exit_s h
            refine ob_t ?_
            exact ret_s h (fun e => by subst e; exact (by repeat' (first | exact trivial | exact ⟨rfl⟩ | refine And.intro ?_ ?_)))
          · refine br_b h (fun h => ?_) (fun h => ?_)
            · have h := exit_s h
              refine ob_t ?_
              exact ret_s h (fun e => by subst e; exact (by repeat' (first | exact trivial | exact ⟨rfl⟩ | refine And.intro ?_ ?_)))
            · exact ⟨(((Prod.fst z2).2.2.2, IntKind.wrap IntKind.i64 ((Prod.fst z2).2.2.1 - IntKind.wrap IntKind.i64 (val (B_Floor (Prod.fst z2).2.2.1 (Prod.fst z2).2.2.2) * (Prod.fst z2).2.2.2)), (Prod.fst z2).2.1, IntKind.wrap IntKind.i64 ((Prod.fst z2).1 - IntKind.wrap IntKind.i64 (val (B_Floor (Prod.fst z2).1 (Prod.fst z2).2.1) * (Prod.fst z2).2.1))), k2), ⟨next_s h⟩, ⟨lt_gs hm2.symm⟩, (by repeat' (first | exact trivial | exact ⟨rfl⟩ | refine And.intro ?_ ?_))⟩
      · refine br_b h (fun h => ?_) (fun h => ?_)
        · have h := exit_s h
          refine ob_t ?_
          exact ret_s h (fun e => by subst e; exact (by repeat' (first | exact trivial | exact ⟨rfl⟩ | refine And.intro ?_ ?_)))
        · refine br_b h (fun h => ?_) (fun h => ?_)
          · have h := exit_s h
            refine ob_t ?_
            exact ret_s h (fun e => by subst e; exact (by repeat' (first | exact trivial | exact ⟨rfl⟩ | refine And.intro ?_ ?_)))
          · exact ⟨(((Prod.fst z2).2.2.2, IntKind.wrap IntKind.i64 ((Prod.fst z2).2.2.1 - IntKind.wrap IntKind.i64 (val (B_Floor (Prod.fst z2).2.2.1 (Prod.fst z2).2.2.2) * (Prod.fst z2).2.2.2)), (Prod.fst z2).2.1, IntKind.wrap IntKind.i64 ((Prod.fst z2).1 - IntKind.wrap IntKind.i64 (val (B_Floor (Prod.fst z2).1 (Prod.fst z2).2.1) * (Prod.fst z2).2.1))), k2), ⟨next_s h⟩, ⟨lt_gs hm2.symm⟩, (by repeat' (first | exact trivial | exact ⟨rfl⟩ | refine And.intro ?_ ?_))⟩
set_option maxRecDepth 100000 in
theorem B_Compare_ok : SpecOK Try.prog 45 true (pureK k_B_Compare g_B_Compare) := by
  refine pureK_ok (sp := (sp_90 sp0)) (fn := Try.f45) (body := bodyOf Try.f45) mixed (sp_90_ok sp0_ok) Try.func45 (by kernel_rfl) (by kernel_rfl) fun as_ ob rs h ho => ?_
  unfold g_B_Compare at h
  split at h
  · rename_i n d m_ k
    cases h
    exact ⟨Nat.le_of_ble_eq_true rfl, _, _, B_Compare_vc n d m_ k _ (ok_some ho)⟩
  · cases h
theorem sp_45_ok {sp : Specs} (h : SpecsOK Try.prog sp) : SpecsOK Try.prog (sp_45 sp) := addK_ok B_Compare_ok h

/-- shoebox/shoeboxlaw06.FilterRanges -/
def L06_FilterRanges (c : List (List Int)) (tP : Int) (tQ : Int) (tR : Int) : Option Bool :=
  Option.bind (L06_few c) fun r0 =>
  if (!r0) = true then
   some true
  else
   Option.bind (R06_Copy c) fun r1 =>
   Option.bind (F_GainRange r1 tP tQ tR) fun r2 =>
   Option.bind (R06_CheckCascade c) fun r3 =>
   if (r3.2 == (0 : Int)) = true then
    Option.bind (R06_TurnErr tP tQ tR) fun r4 =>
    if (r4 == (0 : Int)) = true then
     Option.bind (R06_GainRange c tP tQ tR) fun r5 =>
     if (r2.2.2 != r5.2.2) = true then
      some false
     else
      if (!(r2.1 == r5.1 && r2.2.1 == r5.2.1)) = true then
       some false
      else
       if (r5.2.2 != (0 : Int)) = true then
        some true
       else
        if ((↑(List.length c) : Int) != (1 : Int)) = true then
         some true
        else
         if (0 : Int) ≤ (0 : Int) ∧ (0 : Int) < (↑(List.length c) : Int) then
          if (0 : Nat) < List.length c then
           Option.bind (F_GainSquare (List.getD (List.getD c (0 : Nat) []) (0 : Nat) (0 : Int)) (List.getD (List.getD c (0 : Nat) []) (1 : Nat) (0 : Int)) (List.getD (List.getD c (0 : Nat) []) (2 : Nat) (0 : Int)) (List.getD (List.getD c (0 : Nat) []) (3 : Nat) (0 : Int)) (List.getD (List.getD c (0 : Nat) []) (4 : Nat) (0 : Int)) tP tQ tR) fun r6 =>
           if (r6.2.2 != (0 : Int)) = true then
            some true
           else
            Option.bind (B_Compare r2.1 (1048576 : Int) r6.1 r6.2.1) fun r7 =>
            if r7 ≤ (0 : Int) then
             Option.bind (B_Compare r2.2.1 (1048576 : Int) r6.1 r6.2.1) fun r8 =>
             some (decide (r8 ≥ (0 : Int)))
            else
             some false
          else none
         else none
    else
     if (r2.2.2 != r4) = true then
      some false
     else
      if (!(r2.1 == (0 : Int) && r2.2.1 == (0 : Int))) = true then
       some false
      else
       if (r4 != (0 : Int)) = true then
        some true
       else
        if ((↑(List.length c) : Int) != (1 : Int)) = true then
         some true
        else
         if (0 : Int) ≤ (0 : Int) ∧ (0 : Int) < (↑(List.length c) : Int) then
          if (0 : Nat) < List.length c then
           Option.bind (F_GainSquare (List.getD (List.getD c (0 : Nat) []) (0 : Nat) (0 : Int)) (List.getD (List.getD c (0 : Nat) []) (1 : Nat) (0 : Int)) (List.getD (List.getD c (0 : Nat) []) (2 : Nat) (0 : Int)) (List.getD (List.getD c (0 : Nat) []) (3 : Nat) (0 : Int)) (List.getD (List.getD c (0 : Nat) []) (4 : Nat) (0 : Int)) tP tQ tR) fun r9 =>
           if (r9.2.2 != (0 : Int)) = true then
            some true
           else
            Option.bind (B_Compare r2.1 (1048576 : Int) r9.1 r9.2.1) fun r10 =>
            if r10 ≤ (0 : Int) then
             Option.bind (B_Compare r2.2.1 (1048576 : Int) r9.1 r9.2.1) fun r11 =>
             some (decide (r11 ≥ (0 : Int)))
            else
             some false
          else none
         else none
   else
    if (r3.2 == (0 : Int)) = true then
     Option.bind (R06_GainRange c tP tQ tR) fun r12 =>
     if (r2.2.2 != r12.2.2) = true then
      some false
     else
      if (!(r2.1 == r12.1 && r2.2.1 == r12.2.1)) = true then
       some false
      else
       if (r12.2.2 != (0 : Int)) = true then
        some true
       else
        if ((↑(List.length c) : Int) != (1 : Int)) = true then
         some true
        else
         if (0 : Int) ≤ (0 : Int) ∧ (0 : Int) < (↑(List.length c) : Int) then
          if (0 : Nat) < List.length c then
           Option.bind (F_GainSquare (List.getD (List.getD c (0 : Nat) []) (0 : Nat) (0 : Int)) (List.getD (List.getD c (0 : Nat) []) (1 : Nat) (0 : Int)) (List.getD (List.getD c (0 : Nat) []) (2 : Nat) (0 : Int)) (List.getD (List.getD c (0 : Nat) []) (3 : Nat) (0 : Int)) (List.getD (List.getD c (0 : Nat) []) (4 : Nat) (0 : Int)) tP tQ tR) fun r13 =>
           if (r13.2.2 != (0 : Int)) = true then
            some true
           else
            Option.bind (B_Compare r2.1 (1048576 : Int) r13.1 r13.2.1) fun r14 =>
            if r14 ≤ (0 : Int) then
             Option.bind (B_Compare r2.2.1 (1048576 : Int) r13.1 r13.2.1) fun r15 =>
             some (decide (r15 ≥ (0 : Int)))
            else
             some false
          else none
         else none
    else
     if (r2.2.2 != r3.2) = true then
      some false
     else
      if (!(r2.1 == (0 : Int) && r2.2.1 == (0 : Int))) = true then
       some false
      else
       if (r3.2 != (0 : Int)) = true then
        some true
       else
        if ((↑(List.length c) : Int) != (1 : Int)) = true then
         some true
        else
         if (0 : Int) ≤ (0 : Int) ∧ (0 : Int) < (↑(List.length c) : Int) then
          if (0 : Nat) < List.length c then
           Option.bind (F_GainSquare (List.getD (List.getD c (0 : Nat) []) (0 : Nat) (0 : Int)) (List.getD (List.getD c (0 : Nat) []) (1 : Nat) (0 : Int)) (List.getD (List.getD c (0 : Nat) []) (2 : Nat) (0 : Int)) (List.getD (List.getD c (0 : Nat) []) (3 : Nat) (0 : Int)) (List.getD (List.getD c (0 : Nat) []) (4 : Nat) (0 : Int)) tP tQ tR) fun r16 =>
           if (r16.2.2 != (0 : Int)) = true then
            some true
           else
            Option.bind (B_Compare r2.1 (1048576 : Int) r16.1 r16.2.1) fun r17 =>
            if r17 ≤ (0 : Int) then
             Option.bind (B_Compare r2.2.1 (1048576 : Int) r16.1 r16.2.1) fun r18 =>
             some (decide (r18 ≥ (0 : Int)))
            else
             some false
          else none
         else none
def g_L06_FilterRanges : List A → Option (Prop × List RV)
  | [.r (.recs 5 c), .s [.i .i64 tP, .i .i64 tQ, .i .i64 tR]] => some (ok (L06_FilterRanges c tP tQ tR), [.d (.b ((val (L06_FilterRanges c tP tQ tR))))])
  | _ => none
def k_L06_FilterRanges : List (Option Cont) := [some (.recs 5 []), none]
abbrev sp_8 : Specs → Specs := addK 8 true (pureK k_L06_FilterRanges g_L06_FilterRanges)
set_option maxRecDepth 100000 in
theorem L06_FilterRanges_vc (c : List (List Int)) (tP : Int) (tQ : Int) (tR : Int) (r : Bool) (h : Option.bind (L06_FilterRanges c tP tQ tR) some = some r) : runF Try.f8 ((sp_18 (sp_24 (sp_27 (sp_41 (sp_30 (sp_42 (sp_43 (sp_44 (sp_45 sp0)))))))))) (fun _ _ _ => none) [.r (.recs 5 c), .s [.i .i64 tP, .i .i64 tQ, .i .i64 tR]] [.d (.b r)] := by
  refine Eq.mp (by kernel_rfl : (
  (Ob (ok L06_awake) ∧
   (Ob (ok (L06_few c)) ∧
   Br (!val (L06_few c))
   ((Ob (True) ∧
   (Ob (true = r) ∧
   True)))
   ((Ob (ok (R06_Copy c)) ∧
   (Ob (ok (F_GainRange (val (R06_Copy c)) tP tQ tR)) ∧
   (Ob (ok (R06_CheckCascade c)) ∧
   Br ((val (R06_CheckCascade c)).2 == (0 : Int))
   ((Ob (ok (R06_TurnErr tP tQ tR)) ∧
   Br (val (R06_TurnErr tP tQ tR) == (0 : Int))
   ((Ob (ok (R06_GainRange c tP tQ tR)) ∧
   Br ((val (F_GainRange (val (R06_Copy c)) tP tQ tR)).2.2 != (val (R06_GainRange c tP tQ tR)).2.2)
   ((Ob (True) ∧
   (Ob (false = r) ∧
   True)))
   (Br (!((val (F_GainRange (val (R06_Copy c)) tP tQ tR)).1 == (val (R06_GainRange c tP tQ tR)).1 && (val (F_GainRange (val (R06_Copy c)) tP tQ tR)).2.1 == (val (R06_GainRange c tP tQ tR)).2.1))
   ((Ob (True) ∧
   (Ob (false = r) ∧
   True)))
   (Br ((val (R06_GainRange c tP tQ tR)).2.2 != (0 : Int))
   ((Ob (True) ∧
   (Ob (true = r) ∧
   True)))
   (Br ((↑(List.length c) : Int) != (1 : Int))
   ((Ob (True) ∧
   (Ob (true = r) ∧
   True)))
   ((Ob ((0 : Int) ≤ (0 : Int) ∧ (0 : Int) < (↑(List.length c) : Int)) ∧
   (Ob ((0 : Nat) < List.length c) ∧
   (Ob (ok (F_GainSquare (List.getD (List.getD c (0 : Nat) []) (0 : Nat) (0 : Int)) (List.getD (List.getD c (0 : Nat) []) (1 : Nat) (0 : Int)) (List.getD (List.getD c (0 : Nat) []) (2 : Nat) (0 : Int)) (List.getD (List.getD c (0 : Nat) []) (3 : Nat) (0 : Int)) (List.getD (List.getD c (0 : Nat) []) (4 : Nat) (0 : Int)) tP tQ tR)) ∧
   Br ((val (F_GainSquare (List.getD (List.getD c (0 : Nat) []) (0 : Nat) (0 : Int)) (List.getD (List.getD c (0 : Nat) []) (1 : Nat) (0 : Int)) (List.getD (List.getD c (0 : Nat) []) (2 : Nat) (0 : Int)) (List.getD (List.getD c (0 : Nat) []) (3 : Nat) (0 : Int)) (List.getD (List.getD c (0 : Nat) []) (4 : Nat) (0 : Int)) tP tQ tR)).2.2 != (0 : Int))
   ((Ob (True) ∧
   (Ob (true = r) ∧
   True)))
   ((Ob (ok (B_Compare (val (F_GainRange (val (R06_Copy c)) tP tQ tR)).1 (1048576 : Int) (val (F_GainSquare (List.getD (List.getD c (0 : Nat) []) (0 : Nat) (0 : Int)) (List.getD (List.getD c (0 : Nat) []) (1 : Nat) (0 : Int)) (List.getD (List.getD c (0 : Nat) []) (2 : Nat) (0 : Int)) (List.getD (List.getD c (0 : Nat) []) (3 : Nat) (0 : Int)) (List.getD (List.getD c (0 : Nat) []) (4 : Nat) (0 : Int)) tP tQ tR)).1 (val (F_GainSquare (List.getD (List.getD c (0 : Nat) []) (0 : Nat) (0 : Int)) (List.getD (List.getD c (0 : Nat) []) (1 : Nat) (0 : Int)) (List.getD (List.getD c (0 : Nat) []) (2 : Nat) (0 : Int)) (List.getD (List.getD c (0 : Nat) []) (3 : Nat) (0 : Int)) (List.getD (List.getD c (0 : Nat) []) (4 : Nat) (0 : Int)) tP tQ tR)).2.1)) ∧
   Br (decide (val (B_Compare (val (F_GainRange (val (R06_Copy c)) tP tQ tR)).1 (1048576 : Int) (val (F_GainSquare (List.getD (List.getD c (0 : Nat) []) (0 : Nat) (0 : Int)) (List.getD (List.getD c (0 : Nat) []) (1 : Nat) (0 : Int)) (List.getD (List.getD c (0 : Nat) []) (2 : Nat) (0 : Int)) (List.getD (List.getD c (0 : Nat) []) (3 : Nat) (0 : Int)) (List.getD (List.getD c (0 : Nat) []) (4 : Nat) (0 : Int)) tP tQ tR)).1 (val (F_GainSquare (List.getD (List.getD c (0 : Nat) []) (0 : Nat) (0 : Int)) (List.getD (List.getD c (0 : Nat) []) (1 : Nat) (0 : Int)) (List.getD (List.getD c (0 : Nat) []) (2 : Nat) (0 : Int)) (List.getD (List.getD c (0 : Nat) []) (3 : Nat) (0 : Int)) (List.getD (List.getD c (0 : Nat) []) (4 : Nat) (0 : Int)) tP tQ tR)).2.1) ≤ (0 : Int)))
   ((Ob (ok (B_Compare (val (F_GainRange (val (R06_Copy c)) tP tQ tR)).2.1 (1048576 : Int) (val (F_GainSquare (List.getD (List.getD c (0 : Nat) []) (0 : Nat) (0 : Int)) (List.getD (List.getD c (0 : Nat) []) (1 : Nat) (0 : Int)) (List.getD (List.getD c (0 : Nat) []) (2 : Nat) (0 : Int)) (List.getD (List.getD c (0 : Nat) []) (3 : Nat) (0 : Int)) (List.getD (List.getD c (0 : Nat) []) (4 : Nat) (0 : Int)) tP tQ tR)).1 (val (F_GainSquare (List.getD (List.getD c (0 : Nat) []) (0 : Nat) (0 : Int)) (List.getD (List.getD c (0 : Nat) []) (1 : Nat) (0 : Int)) (List.getD (List.getD c (0 : Nat) []) (2 : Nat) (0 : Int)) (List.getD (List.getD c (0 : Nat) []) (3 : Nat) (0 : Int)) (List.getD (List.getD c (0 : Nat) []) (4 : Nat) (0 : Int)) tP tQ tR)).2.1)) ∧
   (Ob (True) ∧
   (Ob (decide (val (B_Compare (val (F_GainRange (val (R06_Copy c)) tP tQ tR)).2.1 (1048576 : Int) (val (F_GainSquare (List.getD (List.getD c (0 : Nat) []) (0 : Nat) (0 : Int)) (List.getD (List.getD c (0 : Nat) []) (1 : Nat) (0 : Int)) (List.getD (List.getD c (0 : Nat) []) (2 : Nat) (0 : Int)) (List.getD (List.getD c (0 : Nat) []) (3 : Nat) (0 : Int)) (List.getD (List.getD c (0 : Nat) []) (4 : Nat) (0 : Int)) tP tQ tR)).1 (val (F_GainSquare (List.getD (List.getD c (0 : Nat) []) (0 : Nat) (0 : Int)) (List.getD (List.getD c (0 : Nat) []) (1 : Nat) (0 : Int)) (List.getD (List.getD c (0 : Nat) []) (2 : Nat) (0 : Int)) (List.getD (List.getD c (0 : Nat) []) (3 : Nat) (0 : Int)) (List.getD (List.getD c (0 : Nat) []) (4 : Nat) (0 : Int)) tP tQ tR)).2.1) ≥ (0 : Int)) = r) ∧
   True))))
   ((Ob (True) ∧
   (Ob (false = r) ∧
   True))))))))))))))
   (Br ((val (F_GainRange (val (R06_Copy c)) tP tQ tR)).2.2 != val (R06_TurnErr tP tQ tR))
   ((Ob (True) ∧
   (Ob (false = r) ∧
   True)))
   (Br (!((val (F_GainRange (val (R06_Copy c)) tP tQ tR)).1 == (0 : Int) && (val (F_GainRange (val (R06_Copy c)) tP tQ tR)).2.1 == (0 : Int)))
   ((Ob (True) ∧
   (Ob (false = r) ∧
   True)))
   (Br (val (R06_TurnErr tP tQ tR) != (0 : Int))
   ((Ob (True) ∧
   (Ob (true = r) ∧
   True)))
   (Br ((↑(List.length c) : Int) != (1 : Int))
   ((Ob (True) ∧
   (Ob (true = r) ∧
   True)))
   ((Ob ((0 : Int) ≤ (0 : Int) ∧ (0 : Int) < (↑(List.length c) : Int)) ∧
   (Ob ((0 : Nat) < List.length c) ∧
   (Ob (ok (F_GainSquare (List.getD (List.getD c (0 : Nat) []) (0 : Nat) (0 : Int)) (List.getD (List.getD c (0 : Nat) []) (1 : Nat) (0 : Int)) (List.getD (List.getD c (0 : Nat) []) (2 : Nat) (0 : Int)) (List.getD (List.getD c (0 : Nat) []) (3 : Nat) (0 : Int)) (List.getD (List.getD c (0 : Nat) []) (4 : Nat) (0 : Int)) tP tQ tR)) ∧
   Br ((val (F_GainSquare (List.getD (List.getD c (0 : Nat) []) (0 : Nat) (0 : Int)) (List.getD (List.getD c (0 : Nat) []) (1 : Nat) (0 : Int)) (List.getD (List.getD c (0 : Nat) []) (2 : Nat) (0 : Int)) (List.getD (List.getD c (0 : Nat) []) (3 : Nat) (0 : Int)) (List.getD (List.getD c (0 : Nat) []) (4 : Nat) (0 : Int)) tP tQ tR)).2.2 != (0 : Int))
   ((Ob (True) ∧
   (Ob (true = r) ∧
   True)))
   ((Ob (ok (B_Compare (val (F_GainRange (val (R06_Copy c)) tP tQ tR)).1 (1048576 : Int) (val (F_GainSquare (List.getD (List.getD c (0 : Nat) []) (0 : Nat) (0 : Int)) (List.getD (List.getD c (0 : Nat) []) (1 : Nat) (0 : Int)) (List.getD (List.getD c (0 : Nat) []) (2 : Nat) (0 : Int)) (List.getD (List.getD c (0 : Nat) []) (3 : Nat) (0 : Int)) (List.getD (List.getD c (0 : Nat) []) (4 : Nat) (0 : Int)) tP tQ tR)).1 (val (F_GainSquare (List.getD (List.getD c (0 : Nat) []) (0 : Nat) (0 : Int)) (List.getD (List.getD c (0 : Nat) []) (1 : Nat) (0 : Int)) (List.getD (List.getD c (0 : Nat) []) (2 : Nat) (0 : Int)) (List.getD (List.getD c (0 : Nat) []) (3 : Nat) (0 : Int)) (List.getD (List.getD c (0 : Nat) []) (4 : Nat) (0 : Int)) tP tQ tR)).2.1)) ∧
   Br (decide (val (B_Compare (val (F_GainRange (val (R06_Copy c)) tP tQ tR)).1 (1048576 : Int) (val (F_GainSquare (List.getD (List.getD c (0 : Nat) []) (0 : Nat) (0 : Int)) (List.getD (List.getD c (0 : Nat) []) (1 : Nat) (0 : Int)) (List.getD (List.getD c (0 : Nat) []) (2 : Nat) (0 : Int)) (List.getD (List.getD c (0 : Nat) []) (3 : Nat) (0 : Int)) (List.getD (List.getD c (0 : Nat) []) (4 : Nat) (0 : Int)) tP tQ tR)).1 (val (F_GainSquare (List.getD (List.getD c (0 : Nat) []) (0 : Nat) (0 : Int)) (List.getD (List.getD c (0 : Nat) []) (1 : Nat) (0 : Int)) (List.getD (List.getD c (0 : Nat) []) (2 : Nat) (0 : Int)) (List.getD (List.getD c (0 : Nat) []) (3 : Nat) (0 : Int)) (List.getD (List.getD c (0 : Nat) []) (4 : Nat) (0 : Int)) tP tQ tR)).2.1) ≤ (0 : Int)))
   ((Ob (ok (B_Compare (val (F_GainRange (val (R06_Copy c)) tP tQ tR)).2.1 (1048576 : Int) (val (F_GainSquare (List.getD (List.getD c (0 : Nat) []) (0 : Nat) (0 : Int)) (List.getD (List.getD c (0 : Nat) []) (1 : Nat) (0 : Int)) (List.getD (List.getD c (0 : Nat) []) (2 : Nat) (0 : Int)) (List.getD (List.getD c (0 : Nat) []) (3 : Nat) (0 : Int)) (List.getD (List.getD c (0 : Nat) []) (4 : Nat) (0 : Int)) tP tQ tR)).1 (val (F_GainSquare (List.getD (List.getD c (0 : Nat) []) (0 : Nat) (0 : Int)) (List.getD (List.getD c (0 : Nat) []) (1 : Nat) (0 : Int)) (List.getD (List.getD c (0 : Nat) []) (2 : Nat) (0 : Int)) (List.getD (List.getD c (0 : Nat) []) (3 : Nat) (0 : Int)) (List.getD (List.getD c (0 : Nat) []) (4 : Nat) (0 : Int)) tP tQ tR)).2.1)) ∧
   (Ob (True) ∧
   (Ob (decide (val (B_Compare (val (F_GainRange (val (R06_Copy c)) tP tQ tR)).2.1 (1048576 : Int) (val (F_GainSquare (List.getD (List.getD c (0 : Nat) []) (0 : Nat) (0 : Int)) (List.getD (List.getD c (0 : Nat) []) (1 : Nat) (0 : Int)) (List.getD (List.getD c (0 : Nat) []) (2 : Nat) (0 : Int)) (List.getD (List.getD c (0 : Nat) []) (3 : Nat) (0 : Int)) (List.getD (List.getD c (0 : Nat) []) (4 : Nat) (0 : Int)) tP tQ tR)).1 (val (F_GainSquare (List.getD (List.getD c (0 : Nat) []) (0 : Nat) (0 : Int)) (List.getD (List.getD c (0 : Nat) []) (1 : Nat) (0 : Int)) (List.getD (List.getD c (0 : Nat) []) (2 : Nat) (0 : Int)) (List.getD (List.getD c (0 : Nat) []) (3 : Nat) (0 : Int)) (List.getD (List.getD c (0 : Nat) []) (4 : Nat) (0 : Int)) tP tQ tR)).2.1) ≥ (0 : Int)) = r) ∧
   True))))
   ((Ob (True) ∧
   (Ob (false = r) ∧
   True)))))))))))))))
   (Br ((val (R06_CheckCascade c)).2 == (0 : Int))
   ((Ob (ok (R06_GainRange c tP tQ tR)) ∧
   Br ((val (F_GainRange (val (R06_Copy c)) tP tQ tR)).2.2 != (val (R06_GainRange c tP tQ tR)).2.2)
   ((Ob (True) ∧
   (Ob (false = r) ∧
   True)))
   (Br (!((val (F_GainRange (val (R06_Copy c)) tP tQ tR)).1 == (val (R06_GainRange c tP tQ tR)).1 && (val (F_GainRange (val (R06_Copy c)) tP tQ tR)).2.1 == (val (R06_GainRange c tP tQ tR)).2.1))
   ((Ob (True) ∧
   (Ob (false = r) ∧
   True)))
   (Br ((val (R06_GainRange c tP tQ tR)).2.2 != (0 : Int))
   ((Ob (True) ∧
   (Ob (true = r) ∧
   True)))
   (Br ((↑(List.length c) : Int) != (1 : Int))
   ((Ob (True) ∧
   (Ob (true = r) ∧
   True)))
   ((Ob ((0 : Int) ≤ (0 : Int) ∧ (0 : Int) < (↑(List.length c) : Int)) ∧
   (Ob ((0 : Nat) < List.length c) ∧
   (Ob (ok (F_GainSquare (List.getD (List.getD c (0 : Nat) []) (0 : Nat) (0 : Int)) (List.getD (List.getD c (0 : Nat) []) (1 : Nat) (0 : Int)) (List.getD (List.getD c (0 : Nat) []) (2 : Nat) (0 : Int)) (List.getD (List.getD c (0 : Nat) []) (3 : Nat) (0 : Int)) (List.getD (List.getD c (0 : Nat) []) (4 : Nat) (0 : Int)) tP tQ tR)) ∧
   Br ((val (F_GainSquare (List.getD (List.getD c (0 : Nat) []) (0 : Nat) (0 : Int)) (List.getD (List.getD c (0 : Nat) []) (1 : Nat) (0 : Int)) (List.getD (List.getD c (0 : Nat) []) (2 : Nat) (0 : Int)) (List.getD (List.getD c (0 : Nat) []) (3 : Nat) (0 : Int)) (List.getD (List.getD c (0 : Nat) []) (4 : Nat) (0 : Int)) tP tQ tR)).2.2 != (0 : Int))
   ((Ob (True) ∧
   (Ob (true = r) ∧
   True)))
   ((Ob (ok (B_Compare (val (F_GainRange (val (R06_Copy c)) tP tQ tR)).1 (1048576 : Int) (val (F_GainSquare (List.getD (List.getD c (0 : Nat) []) (0 : Nat) (0 : Int)) (List.getD (List.getD c (0 : Nat) []) (1 : Nat) (0 : Int)) (List.getD (List.getD c (0 : Nat) []) (2 : Nat) (0 : Int)) (List.getD (List.getD c (0 : Nat) []) (3 : Nat) (0 : Int)) (List.getD (List.getD c (0 : Nat) []) (4 : Nat) (0 : Int)) tP tQ tR)).1 (val (F_GainSquare (List.getD (List.getD c (0 : Nat) []) (0 : Nat) (0 : Int)) (List.getD (List.getD c (0 : Nat) []) (1 : Nat) (0 : Int)) (List.getD (List.getD c (0 : Nat) []) (2 : Nat) (0 : Int)) (List.getD (List.getD c (0 : Nat) []) (3 : Nat) (0 : Int)) (List.getD (List.getD c (0 : Nat) []) (4 : Nat) (0 : Int)) tP tQ tR)).2.1)) ∧
   Br (decide (val (B_Compare (val (F_GainRange (val (R06_Copy c)) tP tQ tR)).1 (1048576 : Int) (val (F_GainSquare (List.getD (List.getD c (0 : Nat) []) (0 : Nat) (0 : Int)) (List.getD (List.getD c (0 : Nat) []) (1 : Nat) (0 : Int)) (List.getD (List.getD c (0 : Nat) []) (2 : Nat) (0 : Int)) (List.getD (List.getD c (0 : Nat) []) (3 : Nat) (0 : Int)) (List.getD (List.getD c (0 : Nat) []) (4 : Nat) (0 : Int)) tP tQ tR)).1 (val (F_GainSquare (List.getD (List.getD c (0 : Nat) []) (0 : Nat) (0 : Int)) (List.getD (List.getD c (0 : Nat) []) (1 : Nat) (0 : Int)) (List.getD (List.getD c (0 : Nat) []) (2 : Nat) (0 : Int)) (List.getD (List.getD c (0 : Nat) []) (3 : Nat) (0 : Int)) (List.getD (List.getD c (0 : Nat) []) (4 : Nat) (0 : Int)) tP tQ tR)).2.1) ≤ (0 : Int)))
   ((Ob (ok (B_Compare (val (F_GainRange (val (R06_Copy c)) tP tQ tR)).2.1 (1048576 : Int) (val (F_GainSquare (List.getD (List.getD c (0 : Nat) []) (0 : Nat) (0 : Int)) (List.getD (List.getD c (0 : Nat) []) (1 : Nat) (0 : Int)) (List.getD (List.getD c (0 : Nat) []) (2 : Nat) (0 : Int)) (List.getD (List.getD c (0 : Nat) []) (3 : Nat) (0 : Int)) (List.getD (List.getD c (0 : Nat) []) (4 : Nat) (0 : Int)) tP tQ tR)).1 (val (F_GainSquare (List.getD (List.getD c (0 : Nat) []) (0 : Nat) (0 : Int)) (List.getD (List.getD c (0 : Nat) []) (1 : Nat) (0 : Int)) (List.getD (List.getD c (0 : Nat) []) (2 : Nat) (0 : Int)) (List.getD (List.getD c (0 : Nat) []) (3 : Nat) (0 : Int)) (List.getD (List.getD c (0 : Nat) []) (4 : Nat) (0 : Int)) tP tQ tR)).2.1)) ∧
   (Ob (True) ∧
   (Ob (decide (val (B_Compare (val (F_GainRange (val (R06_Copy c)) tP tQ tR)).2.1 (1048576 : Int) (val (F_GainSquare (List.getD (List.getD c (0 : Nat) []) (0 : Nat) (0 : Int)) (List.getD (List.getD c (0 : Nat) []) (1 : Nat) (0 : Int)) (List.getD (List.getD c (0 : Nat) []) (2 : Nat) (0 : Int)) (List.getD (List.getD c (0 : Nat) []) (3 : Nat) (0 : Int)) (List.getD (List.getD c (0 : Nat) []) (4 : Nat) (0 : Int)) tP tQ tR)).1 (val (F_GainSquare (List.getD (List.getD c (0 : Nat) []) (0 : Nat) (0 : Int)) (List.getD (List.getD c (0 : Nat) []) (1 : Nat) (0 : Int)) (List.getD (List.getD c (0 : Nat) []) (2 : Nat) (0 : Int)) (List.getD (List.getD c (0 : Nat) []) (3 : Nat) (0 : Int)) (List.getD (List.getD c (0 : Nat) []) (4 : Nat) (0 : Int)) tP tQ tR)).2.1) ≥ (0 : Int)) = r) ∧
   True))))
   ((Ob (True) ∧
   (Ob (false = r) ∧
   True))))))))))))))
   (Br ((val (F_GainRange (val (R06_Copy c)) tP tQ tR)).2.2 != (val (R06_CheckCascade c)).2)
   ((Ob (True) ∧
   (Ob (false = r) ∧
   True)))
   (Br (!((val (F_GainRange (val (R06_Copy c)) tP tQ tR)).1 == (0 : Int) && (val (F_GainRange (val (R06_Copy c)) tP tQ tR)).2.1 == (0 : Int)))
   ((Ob (True) ∧
   (Ob (false = r) ∧
   True)))
   (Br ((val (R06_CheckCascade c)).2 != (0 : Int))
   ((Ob (True) ∧
   (Ob (true = r) ∧
   True)))
   (Br ((↑(List.length c) : Int) != (1 : Int))
   ((Ob (True) ∧
   (Ob (true = r) ∧
   True)))
   ((Ob ((0 : Int) ≤ (0 : Int) ∧ (0 : Int) < (↑(List.length c) : Int)) ∧
   (Ob ((0 : Nat) < List.length c) ∧
   (Ob (ok (F_GainSquare (List.getD (List.getD c (0 : Nat) []) (0 : Nat) (0 : Int)) (List.getD (List.getD c (0 : Nat) []) (1 : Nat) (0 : Int)) (List.getD (List.getD c (0 : Nat) []) (2 : Nat) (0 : Int)) (List.getD (List.getD c (0 : Nat) []) (3 : Nat) (0 : Int)) (List.getD (List.getD c (0 : Nat) []) (4 : Nat) (0 : Int)) tP tQ tR)) ∧
   Br ((val (F_GainSquare (List.getD (List.getD c (0 : Nat) []) (0 : Nat) (0 : Int)) (List.getD (List.getD c (0 : Nat) []) (1 : Nat) (0 : Int)) (List.getD (List.getD c (0 : Nat) []) (2 : Nat) (0 : Int)) (List.getD (List.getD c (0 : Nat) []) (3 : Nat) (0 : Int)) (List.getD (List.getD c (0 : Nat) []) (4 : Nat) (0 : Int)) tP tQ tR)).2.2 != (0 : Int))
   ((Ob (True) ∧
   (Ob (true = r) ∧
   True)))
   ((Ob (ok (B_Compare (val (F_GainRange (val (R06_Copy c)) tP tQ tR)).1 (1048576 : Int) (val (F_GainSquare (List.getD (List.getD c (0 : Nat) []) (0 : Nat) (0 : Int)) (List.getD (List.getD c (0 : Nat) []) (1 : Nat) (0 : Int)) (List.getD (List.getD c (0 : Nat) []) (2 : Nat) (0 : Int)) (List.getD (List.getD c (0 : Nat) []) (3 : Nat) (0 : Int)) (List.getD (List.getD c (0 : Nat) []) (4 : Nat) (0 : Int)) tP tQ tR)).1 (val (F_GainSquare (List.getD (List.getD c (0 : Nat) []) (0 : Nat) (0 : Int)) (List.getD (List.getD c (0 : Nat) []) (1 : Nat) (0 : Int)) (List.getD (List.getD c (0 : Nat) []) (2 : Nat) (0 : Int)) (List.getD (List.getD c (0 : Nat) []) (3 : Nat) (0 : Int)) (List.getD (List.getD c (0 : Nat) []) (4 : Nat) (0 : Int)) tP tQ tR)).2.1)) ∧
   Br (decide (val (B_Compare (val (F_GainRange (val (R06_Copy c)) tP tQ tR)).1 (1048576 : Int) (val (F_GainSquare (List.getD (List.getD c (0 : Nat) []) (0 : Nat) (0 : Int)) (List.getD (List.getD c (0 : Nat) []) (1 : Nat) (0 : Int)) (List.getD (List.getD c (0 : Nat) []) (2 : Nat) (0 : Int)) (List.getD (List.getD c (0 : Nat) []) (3 : Nat) (0 : Int)) (List.getD (List.getD c (0 : Nat) []) (4 : Nat) (0 : Int)) tP tQ tR)).1 (val (F_GainSquare (List.getD (List.getD c (0 : Nat) []) (0 : Nat) (0 : Int)) (List.getD (List.getD c (0 : Nat) []) (1 : Nat) (0 : Int)) (List.getD (List.getD c (0 : Nat) []) (2 : Nat) (0 : Int)) (List.getD (List.getD c (0 : Nat) []) (3 : Nat) (0 : Int)) (List.getD (List.getD c (0 : Nat) []) (4 : Nat) (0 : Int)) tP tQ tR)).2.1) ≤ (0 : Int)))
   ((Ob (ok (B_Compare (val (F_GainRange (val (R06_Copy c)) tP tQ tR)).2.1 (1048576 : Int) (val (F_GainSquare (List.getD (List.getD c (0 : Nat) []) (0 : Nat) (0 : Int)) (List.getD (List.getD c (0 : Nat) []) (1 : Nat) (0 : Int)) (List.getD (List.getD c (0 : Nat) []) (2 : Nat) (0 : Int)) (List.getD (List.getD c (0 : Nat) []) (3 : Nat) (0 : Int)) (List.getD (List.getD c (0 : Nat) []) (4 : Nat) (0 : Int)) tP tQ tR)).1 (val (F_GainSquare (List.getD (List.getD c (0 : Nat) []) (0 : Nat) (0 : Int)) (List.getD (List.getD c (0 : Nat) []) (1 : Nat) (0 : Int)) (List.getD (List.getD c (0 : Nat) []) (2 : Nat) (0 : Int)) (List.getD (List.getD c (0 : Nat) []) (3 : Nat) (0 : Int)) (List.getD (List.getD c (0 : Nat) []) (4 : Nat) (0 : Int)) tP tQ tR)).2.1)) ∧
   (Ob (True) ∧
   (Ob (decide (val (B_Compare (val (F_GainRange (val (R06_Copy c)) tP tQ tR)).2.1 (1048576 : Int) (val (F_GainSquare (List.getD (List.getD c (0 : Nat) []) (0 : Nat) (0 : Int)) (List.getD (List.getD c (0 : Nat) []) (1 : Nat) (0 : Int)) (List.getD (List.getD c (0 : Nat) []) (2 : Nat) (0 : Int)) (List.getD (List.getD c (0 : Nat) []) (3 : Nat) (0 : Int)) (List.getD (List.getD c (0 : Nat) []) (4 : Nat) (0 : Int)) tP tQ tR)).1 (val (F_GainSquare (List.getD (List.getD c (0 : Nat) []) (0 : Nat) (0 : Int)) (List.getD (List.getD c (0 : Nat) []) (1 : Nat) (0 : Int)) (List.getD (List.getD c (0 : Nat) []) (2 : Nat) (0 : Int)) (List.getD (List.getD c (0 : Nat) []) (3 : Nat) (0 : Int)) (List.getD (List.getD c (0 : Nat) []) (4 : Nat) (0 : Int)) tP tQ tR)).2.1) ≥ (0 : Int)) = r) ∧
   True))))
   ((Ob (True) ∧
   (Ob (false = r) ∧
   True))))))))))))))))))))) = _) ?_
  refine ob_c (p := ok L06_awake) (by decide) ?_
  refine call_s h fun h => ?_
  refine br_b h (fun h => ?_) (fun h => ?_)
  · refine ob_t ?_
    exact ret_s h (fun e => by subst e; exact (by repeat' (first | exact trivial | exact ⟨rfl⟩ | refine And.intro ?_ ?_)))
  · refine call_s h fun h => ?_
    refine call_s h fun h => ?_
    refine call_s h fun h => ?_
    refine br_b h (fun h => ?_) (fun h => ?_)
    · refine call_s h fun h => ?_
      refine br_b h (fun h => ?_) (fun h => ?_)
      · refine call_s h fun h => ?_
        refine br_b h (fun h => ?_) (fun h => ?_)
        · refine ob_t ?_
          exact ret_s h (fun e => by subst e; exact (by repeat' (first | exact trivial | exact ⟨rfl⟩ | refine And.intro ?_ ?_)))
        · refine br_b h (fun h => ?_) (fun h => ?_)
          · refine ob_t ?_
            exact ret_s h (fun e => by subst e; exact (by repeat' (first | exact trivial | exact ⟨rfl⟩ | refine And.intro ?_ ?_)))
          · refine br_b h (fun h => ?_) (fun h => ?_)
            · refine ob_t ?_
              exact ret_s h (fun e => by subst e; exact (by repeat' (first | exact trivial | exact ⟨rfl⟩ | refine And.intro ?_ ?_)))
            · refine br_b h (fun h => ?_) (fun h => ?_)
              · refine ob_t ?_
                exact ret_s h (fun e => by subst e; exact (by repeat' (first | exact trivial | exact ⟨rfl⟩ | refine And.intro ?_ ?_)))
              · refine ob_s h fun h => ?_
                refine ob_s h fun h => ?_
                refine call_s h fun h => ?_
                refine br_b h (fun h => ?_) (fun h => ?_)
                · refine ob_t ?_
                  exact ret_s h (fun e => by subst e; exact (by repeat' (first | exact trivial | exact ⟨rfl⟩ | refine And.intro ?_ ?_)))
                · refine call_s h fun h => ?_
                  refine br_d h (fun h => ?_) (fun h => ?_)
                  · refine call_s h fun h => ?_
                    refine ob_t ?_
                    exact ret_s h (fun e => by subst e; exact (by repeat' (first | exact trivial | exact ⟨rfl⟩ | refine And.intro ?_ ?_)))
                  · refine ob_t ?_
                    exact ret_s h (fun e => by subst e; exact (by repeat' (first | exact trivial | exact ⟨rfl⟩ | refine And.intro ?_ ?_)))
      · refine br_b h (fun h => ?_) (fun h => ?_)
        · refine ob_t ?_
          exact ret_s h (fun e => by subst e; exact (by repeat' (first | exact trivial | exact ⟨rfl⟩ | refine And.intro ?_ ?_)))
        · refine br_b h (fun h => ?_) (fun h => ?_)
          · refine ob_t ?_
            exact ret_s h (fun e => by subst e; exact (by repeat' (first | exact trivial | exact ⟨rfl⟩ | refine And.intro ?_ ?_)))
          · refine br_b h (fun h => ?_) (fun h => ?_)
            · refine ob_t ?_
              exact ret_s h (fun e => by subst e; exact (by repeat' (first | exact trivial | exact ⟨rfl⟩ | refine And.intro ?_ ?_)))
            · refine br_b h (fun h => ?_) (fun h => ?_)
              · refine ob_t ?_
                exact ret_s h (fun e => by subst e; exact (by repeat' (first | exact trivial | exact ⟨rfl⟩ | refine And.intro ?_ ?_)))
              · refine ob_s h fun h => ?_
                refine ob_s h fun h => ?_
                refine call_s h fun h => ?_
                refine br_b h (fun h => ?_) (fun h => ?_)
                · refine ob_t ?_
                  exact ret_s h (fun e => by subst e; exact (by repeat' (first | exact trivial | exact ⟨rfl⟩ | refine And.intro ?_ ?_)))
                · refine call_s h fun h => ?_
                  refine br_d h (fun h => ?_) (fun h => ?_)
                  · refine call_s h fun h => ?_
                    refine ob_t ?_
                    exact ret_s h (fun e => by subst e; exact (by repeat' (first | exact trivial | exact ⟨rfl⟩ | refine And.intro ?_ ?_)))
                  · refine ob_t ?_
                    exact ret_s h (fun e => by subst e; exact (by repeat' (first | exact trivial | exact ⟨rfl⟩ | refine And.intro ?_ ?_)))
    · refine br_b h (fun h => ?_) (fun h => ?_)
      · refine call_s h fun h => ?_
        refine br_b h (fun h => ?_) (fun h => ?_)
        · refine ob_t ?_
          exact ret_s h (fun e => by subst e; exact (by repeat' (first | exact trivial | exact ⟨rfl⟩ | refine And.intro ?_ ?_)))
        · refine br_b h (fun h => ?_) (fun h => ?_)
          · refine ob_t ?_
            exact ret_s h (fun e => by subst e; exact (by repeat' (first | exact trivial | exact ⟨rfl⟩ | refine And.intro ?_ ?_)))
          · refine br_b h (fun h => ?_) (fun h => ?_)
            · refine ob_t ?_
              exact ret_s h (fun e => by subst e; exact (by repeat' (first | exact trivial | exact ⟨rfl⟩ | refine And.intro ?_ ?_)))
            · refine br_b h (fun h => ?_) (fun h => ?_)
              · refine ob_t ?_
                exact ret_s h (fun e => by subst e; exact (by repeat' (first | exact trivial | exact ⟨rfl⟩ | refine And.intro ?_ ?_)))
              · refine ob_s h fun h => ?_
                refine ob_s h fun h => ?_
                refine call_s h fun h => ?_
                refine br_b h (fun h => ?_) (fun h => ?_)
                · refine ob_t ?_
                  exact ret_s h (fun e => by subst e; exact (by repeat' (first | exact trivial | exact ⟨rfl⟩ | refine And.intro ?_ ?_)))
                · refine call_s h fun h => ?_
                  refine br_d h (fun h => ?_) (fun h => ?_)
                  · refine call_s h fun h => ?_
                    refine ob_t ?_
                    exact ret_s h (fun e => by subst e; exact (by repeat' (first | exact trivial | exact ⟨rfl⟩ | refine And.intro ?_ ?_)))
                  · refine ob_t ?_
                    exact ret_s h (fun e => by subst e; exact (by repeat' (first | exact trivial | exact ⟨rfl⟩ | refine And.intro ?_ ?_)))
      · refine br_b h (fun h => ?_) (fun h => ?_)
        · refine ob_t ?_
          exact ret_s h (fun e => by subst e; exact (by repeat' (first | exact trivial | exact ⟨rfl⟩ | refine And.intro ?_ ?_)))
        · refine br_b h (fun h => ?_) (fun h => ?_)
          · refine ob_t ?_
            exact ret_s h (fun e => by subst e; exact (by repeat' (first | exact trivial | exact ⟨rfl⟩ | refine And.intro ?_ ?_)))
          · refine br_b h (fun h => ?_) (fun h => ?_)
            · refine ob_t ?_
              exact ret_s h (fun e => by subst e; exact (by repeat' (first | exact trivial | exact ⟨rfl⟩ | refine And.intro ?_ ?_)))
            · refine br_b h (fun h => ?_) (fun h => ?_)
              · refine ob_t ?_
                exact ret_s h (fun e => by subst e; exact (by repeat' (first | exact trivial | exact ⟨rfl⟩ | refine And.intro ?_ ?_)))
              · refine ob_s h fun h => ?_
                refine ob_s h fun h => ?_
                refine call_s h fun h => ?_
                refine br_b h (fun h => ?_) (fun h => ?_)
                · refine ob_t ?_
                  exact ret_s h (fun e => by subst e; exact (by repeat' (first | exact trivial | exact ⟨rfl⟩ | refine And.intro ?_ ?_)))
                · refine call_s h fun h => ?_
                  refine br_d h (fun h => ?_) (fun h => ?_)
                  · refine call_s h fun h => ?_
                    refine ob_t ?_
                    exact ret_s h (fun e => by subst e; exact (by repeat' (first | exact trivial | exact ⟨rfl⟩ | refine And.intro ?_ ?_)))
                  · refine ob_t ?_
                    exact ret_s h (fun e => by subst e; exact (by repeat' (first | exact trivial | exact ⟨rfl⟩ | refine And.intro ?_ ?_)))
set_option maxRecDepth 100000 in
theorem L06_FilterRanges_ok : SpecOK Try.prog 8 true (pureK k_L06_FilterRanges g_L06_FilterRanges) := by
  refine pureK_ok (sp := (sp_18 (sp_24 (sp_27 (sp_41 (sp_30 (sp_42 (sp_43 (sp_44 (sp_45 sp0)))))))))) (fn := Try.f8) (body := bodyOf Try.f8) mixed (sp_18_ok (sp_24_ok (sp_27_ok (sp_41_ok (sp_30_ok (sp_42_ok (sp_43_ok (sp_44_ok (sp_45_ok sp0_ok))))))))) Try.func8 (by kernel_rfl) (by kernel_rfl) fun as_ ob rs h ho => ?_
  unfold g_L06_FilterRanges at h
  split at h
  · rename_i c tP tQ tR
    cases h
    exact ⟨Nat.le_of_ble_eq_true rfl, _, _, L06_FilterRanges_vc c tP tQ tR _ (ok_some ho)⟩
  · cases h
theorem sp_8_ok {sp : Specs} (h : SpecsOK Try.prog sp) : SpecsOK Try.prog (sp_8 sp) := addK_ok L06_FilterRanges_ok h
end Go.Sh
