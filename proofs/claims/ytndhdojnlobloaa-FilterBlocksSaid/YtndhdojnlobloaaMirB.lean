/- Mirrors of functions, and their contracts: made by a program of mine. -/
import Derived.Test.YtndhdojnlobloaaMirA
set_option linter.unusedSectionVars false
set_option linter.unusedSimpArgs false
set_option linter.unusedVariables false
namespace Go.Sh
open Go Go.Proofs Go.RowKit Go.Sx
set_option linter.unusedVariables false
def k_B_IsWhole : List SV := [.c (.d)]
/-- shoebox/shoeboxbase.IsWhole -/
def B_IsWhole (f : Nat) : Option Bool :=
  if (Ieee.Format.order (FloatKind.format FloatKind.f64) f f != some Ordering.eq) = true then
   some false
  else
   if (Option.isSome (Ieee.Format.sub (FloatKind.format FloatKind.f64) f f)) = true then
   if (Ieee.Format.order (FloatKind.format FloatKind.f64) (Option.getD (Ieee.Format.sub (FloatKind.format FloatKind.f64) f f) (0 : Nat)) (0 : Nat) != some Ordering.eq) = true then
   some false
   else
   if (Ieee.Format.order (FloatKind.format FloatKind.f64) f (14069741636278059008 : Nat) == some Ordering.gt || Ieee.Format.order (FloatKind.format FloatKind.f64) f (14069741636278059008 : Nat) == some Ordering.eq) = true then
   if (!(Ieee.Format.order (FloatKind.format FloatKind.f64) f (4846369599423283200 : Nat) == some Ordering.lt || Ieee.Format.order (FloatKind.format FloatKind.f64) f (4846369599423283200 : Nat) == some Ordering.eq)) = true then
   some true
   else
   if f2iOk FloatKind.f64 IntKind.i64 f = true then
   some (Ieee.Format.order (FloatKind.format FloatKind.f64) (FloatKind.nearest FloatKind.f64 (f2i FloatKind.f64 f)) f == some Ordering.eq)
   else none
   else
   some true
   else
   some false
/-- shoebox/shoeboxbase.IsWhole -/
def B_IsWhole_n : Option Bool :=
  some false
def g_B_IsWhole : List Lf → Option GT
  | [.d (.f .f64 f)] => some (.leaf (ok (B_IsWhole f)) [.c (.d (.b ((val (B_IsWhole f)))))])
  | [.n .f64] => some (.leaf (ok (B_IsWhole_n)) [.c (.d (.b ((val (B_IsWhole_n)))))])
  | _ => none
abbrev sp_115 : Specs → Specs := addK 115 true (pureT k_B_IsWhole g_B_IsWhole)
set_option maxRecDepth 100000 in
theorem B_IsWhole_vc (f : Nat) (r : Bool) (h : Option.bind (B_IsWhole f) some = some r) : runT Try.f115 (sp0) (fun _ _ _ => none) (bldD k_B_IsWhole [.d (.f .f64 f)]) [.c (.d (.b r))] := by
  refine Eq.mp (by kernel_rfl : (
  Br (Ieee.Format.order (FloatKind.format FloatKind.f64) f f != some Ordering.eq)
   ((Ob (True) ∧
   (Ob (false = r) ∧
   True)))
   (Br (Option.isSome (Ieee.Format.sub (FloatKind.format FloatKind.f64) f f))
   ((Ob (True) ∧
   Br (Ieee.Format.order (FloatKind.format FloatKind.f64) (Option.getD (Ieee.Format.sub (FloatKind.format FloatKind.f64) f f) (0 : Nat)) (0 : Nat) != some Ordering.eq)
   ((Ob (True) ∧
   (Ob (false = r) ∧
   True)))
   (Br (Ieee.Format.order (FloatKind.format FloatKind.f64) f (14069741636278059008 : Nat) == some Ordering.gt || Ieee.Format.order (FloatKind.format FloatKind.f64) f (14069741636278059008 : Nat) == some Ordering.eq)
   (Br (!(Ieee.Format.order (FloatKind.format FloatKind.f64) f (4846369599423283200 : Nat) == some Ordering.lt || Ieee.Format.order (FloatKind.format FloatKind.f64) f (4846369599423283200 : Nat) == some Ordering.eq))
   ((Ob (True) ∧
   (Ob (true = r) ∧
   True)))
   ((Ob (f2iOk FloatKind.f64 IntKind.i64 f = true) ∧
   (Ob (True) ∧
   (Ob (True) ∧
   (Ob ((Ieee.Format.order (FloatKind.format FloatKind.f64) (FloatKind.nearest FloatKind.f64 (f2i FloatKind.f64 f)) f == some Ordering.eq) = r) ∧
   True))))))
   ((Ob (True) ∧
   (Ob (true = r) ∧
   True))))))
   ((Ob (True) ∧
   (Ob (True) ∧
   (Ob (false = r) ∧
   True)))))) = _) ?_
  refine br_b h (fun h => ?_) (fun h => ?_)
  · refine ob_t ?_
    exact ret_s h (fun e => by subst e; exact (by repeat' (first | exact trivial | exact ⟨rfl⟩ | refine And.intro ?_ ?_)))
  · refine br_b h (fun h => ?_) (fun h => ?_)
    · refine ob_t ?_
      refine br_b h (fun h => ?_) (fun h => ?_)
      · refine ob_t ?_
        exact ret_s h (fun e => by subst e; exact (by repeat' (first | exact trivial | exact ⟨rfl⟩ | refine And.intro ?_ ?_)))
      · refine br_b h (fun h => ?_) (fun h => ?_)
        · refine br_b h (fun h => ?_) (fun h => ?_)
          · refine ob_t ?_
            exact ret_s h (fun e => by subst e; exact (by repeat' (first | exact trivial | exact ⟨rfl⟩ | refine And.intro ?_ ?_)))
          · refine ob_s h fun h => ?_
            refine ob_t ?_
            refine ob_t ?_
            exact ret_s h (fun e => by subst e; exact (by repeat' (first | exact trivial | exact ⟨rfl⟩ | refine And.intro ?_ ?_)))
        · refine ob_t ?_
          exact ret_s h (fun e => by subst e; exact (by repeat' (first | exact trivial | exact ⟨rfl⟩ | refine And.intro ?_ ?_)))
    · refine ob_t ?_
      refine ob_t ?_
      exact ret_s h (fun e => by subst e; exact (by repeat' (first | exact trivial | exact ⟨rfl⟩ | refine And.intro ?_ ?_)))
set_option maxRecDepth 100000 in
theorem B_IsWhole_n_vc (r : Bool) (h : Option.bind (B_IsWhole_n) some = some r) : runT Try.f115 (sp0) (fun _ _ _ => none) (bldD k_B_IsWhole [.n .f64]) [.c (.d (.b r))] := by
  refine Eq.mp (by kernel_rfl : (
  (Ob (True) ∧
   (Ob (false = r) ∧
   True))) = _) ?_
  refine ob_t ?_
  exact ret_s h (fun e => by subst e; exact (by repeat' (first | exact trivial | exact ⟨rfl⟩ | refine And.intro ?_ ?_)))
set_option maxRecDepth 100000 in
theorem B_IsWhole_ok : SpecOK Try.prog 115 true (pureT k_B_IsWhole g_B_IsWhole) := by
  refine pureT_ok (sp := sp0) (fn := Try.f115) (body := bodyOf Try.f115) mixed sp0_ok Try.func115 (by kernel_rfl) (by kernel_rfl) fun ls t h ho b hb => ?_
  unfold g_B_IsWhole at h
  split at h
  · rename_i f
    cases h
    obtain rfl := bld_eq hb
    exact ⟨Nat.le_of_ble_eq_true (by kernel_rfl), _, _, B_IsWhole_vc f _ (ok_some ho)⟩
  · cases h
    obtain rfl := bld_eq hb
    exact ⟨Nat.le_of_ble_eq_true (by kernel_rfl), _, _, B_IsWhole_n_vc _ (ok_some ho)⟩
  · cases h
theorem sp_115_ok {sp : Specs} (h : SpecsOK Try.prog sp) : SpecsOK Try.prog (sp_115 sp) := addK_ok B_IsWhole_ok h

def k_R06_SamplesErr : List (Option Cont) := [some (.floats .f32 [])]
def R06_SamplesErr_b0 (l : List Nat) (x0 : Int) : Option (Int ⊕ (Int ⊕ Unit)) :=
  if x0 < (↑(List.length l) : Int) then
   if (0 : Int) ≤ x0 ∧ x0 < (↑(List.length l) : Int) then
   if Int.toNat x0 < List.length l then
   if (isNan32 (List.getD l (Int.toNat x0) (0 : Nat))) = true then
   some (.inr ((.inl (27 : Int))))
   else
   Option.bind (B_IsWhole (to64 (List.getD l (Int.toNat x0) (0 : Nat)))) fun r0 =>
   if (!r0) = true then
   some (.inr ((.inl (27 : Int))))
   else
   if (0 : Int) ≤ x0 ∧ x0 < (↑(List.length l) : Int) then
   if Int.toNat x0 < List.length l then
   if (Ieee.Format.order (FloatKind.format FloatKind.f32) (List.getD l (Int.toNat x0) (0 : Nat)) (3338665472 : Nat) == some Ordering.lt) = true then
   some (.inr ((.inl (2 : Int))))
   else
   if (0 : Int) ≤ x0 ∧ x0 < (↑(List.length l) : Int) then
   if Int.toNat x0 < List.length l then
   if (Ieee.Format.order (FloatKind.format FloatKind.f32) (List.getD l (Int.toNat x0) (0 : Nat)) (1191181824 : Nat) == some Ordering.gt) = true then
   some (.inr ((.inl (2 : Int))))
   else
   some (.inl (IntKind.wrap IntKind.i64 (x0 + (1 : Int))))
   else none
   else none
   else none
   else none
   else none
   else none
  else
   some (.inr ((.inr ())))
def R06_SamplesErr_r0_0 (y0_0 : Int) : Option Int :=
  some y0_0
def R06_SamplesErr_r0_1 (y0_1 : Unit) : Option Int :=
  some (0 : Int)
def R06_SamplesErr_r0 : (Int ⊕ Unit) → Option Int :=
  (Sum.elim (R06_SamplesErr_r0_0) (R06_SamplesErr_r0_1))
/-- shoebox/shoeboxref06.SamplesErr -/
def R06_SamplesErr (l : List Nat) : Option Int :=
  Option.bind (iter (R06_SamplesErr_b0 l) big (0 : Int)) (R06_SamplesErr_r0)
def g_R06_SamplesErr : List A → Option (Prop × List RV)
  | [.r (.floats .f32 l)] => some (ok (R06_SamplesErr l), [.d (.i .i64 ((val (R06_SamplesErr l))))])
  | _ => none
abbrev sp_61 : Specs → Specs := addK 61 true (pureK k_R06_SamplesErr g_R06_SamplesErr)
set_option maxRecDepth 100000 in
theorem R06_SamplesErr_vc (l : List Nat) (r : Int) (h : Option.bind (R06_SamplesErr l) some = some r) : runF Try.f61 ((sp_115 sp0)) (fun gs id _ => match id with
 | 0 => some ⟨Int × Nat, fun z => ⟨[(0, .w (.c (.o 0))), (3, .w (.c (.d (.i .i64 (Prod.fst z)))))], [(0, .ext (.floats .f32 l))], 1⟩, fun z => Option.bind (iter (R06_SamplesErr_b0 l) (Prod.snd z) (Prod.fst z)) (fun y0 => Option.bind (R06_SamplesErr_r0 y0) some) = some r, fun z => Prod.snd z⟩
 | _ => none) [.r (.floats .f32 l)] [.d (.i .i64 r)] := by
  refine Eq.mp (by kernel_rfl : (
  ((∃ (v0 : Int × Nat), (Ob ((Option.bind (iter (R06_SamplesErr_b0 l) v0.2 v0.1) fun y0 => Option.bind (R06_SamplesErr_r0 y0) some) = some r) ∧
   (Ob ((0 : Int) = v0.1) ∧
   (Ob (l = l) ∧
   True)))) ∧
   (∀ (v0 : Int × Nat), ((Option.bind (iter (R06_SamplesErr_b0 l) v0.2 v0.1) fun y0 => Option.bind (R06_SamplesErr_r0 y0) some) = some r →
   Br (decide (v0.1 < (↑(List.length l) : Int)))
   ((Ob ((0 : Int) ≤ v0.1 ∧ v0.1 < (↑(List.length l) : Int)) ∧
   (Ob (Int.toNat v0.1 < List.length l) ∧
   Br (isNan32 (List.getD l (Int.toNat v0.1) (0 : Nat)))
   ((Ob (True) ∧
   (Ob (ok B_IsWhole_n) ∧
   (Ob (True) ∧
   (Ob ((27 : Int) = r) ∧
   True)))))
   ((Ob (True) ∧
   (Ob (ok (B_IsWhole (to64 (List.getD l (Int.toNat v0.1) (0 : Nat))))) ∧
   Br (!val (B_IsWhole (to64 (List.getD l (Int.toNat v0.1) (0 : Nat)))))
   ((Ob (True) ∧
   (Ob ((27 : Int) = r) ∧
   True)))
   ((Ob ((0 : Int) ≤ v0.1 ∧ v0.1 < (↑(List.length l) : Int)) ∧
   (Ob (Int.toNat v0.1 < List.length l) ∧
   Br (Ieee.Format.order (FloatKind.format FloatKind.f32) (List.getD l (Int.toNat v0.1) (0 : Nat)) (3338665472 : Nat) == some Ordering.lt)
   ((Ob (True) ∧
   (Ob ((2 : Int) = r) ∧
   True)))
   ((Ob ((0 : Int) ≤ v0.1 ∧ v0.1 < (↑(List.length l) : Int)) ∧
   (Ob (Int.toNat v0.1 < List.length l) ∧
   Br (Ieee.Format.order (FloatKind.format FloatKind.f32) (List.getD l (Int.toNat v0.1) (0 : Nat)) (1191181824 : Nat) == some Ordering.gt)
   ((Ob (True) ∧
   (Ob ((2 : Int) = r) ∧
   True)))
   ((∃ (v1 : Int × Nat), (Ob ((Option.bind (iter (R06_SamplesErr_b0 l) v1.2 v1.1) fun y0 => Option.bind (R06_SamplesErr_r0 y0) some) = some r) ∧
   (Ob (v1.2 < v0.2) ∧
   (Ob (IntKind.wrap IntKind.i64 (v0.1 + (1 : Int)) = v1.1) ∧
   (Ob (l = l) ∧
   True))))))))))))))))))
   ((Ob (True) ∧
   (Ob ((0 : Int) = r) ∧
   True))))))) = _) ?_
  refine ⟨⟨((0 : Int), big), ⟨loop_s h⟩, (by repeat' (first | exact trivial | exact ⟨rfl⟩ | refine And.intro ?_ ?_))⟩, fun z1 hz1 => ?_⟩
  obtain ⟨k1, hm1, h⟩ := iter_pos hz1
  refine br_d h (fun h => ?_) (fun h => ?_)
  · refine ob_s h fun h => ?_
    refine ob_s h fun h => ?_
    refine br_b h (fun h => ?_) (fun h => ?_)
    · refine ob_t ?_
      refine ob_c (p := ok B_IsWhole_n) (by decide) ?_
      have h := exit_s h
      refine ob_t ?_
      exact ret_s h (fun e => by subst e; exact (by repeat' (first | exact trivial | exact ⟨rfl⟩ | refine And.intro ?_ ?_)))
    · refine ob_t ?_
      refine call_s h fun h => ?_
      refine br_b h (fun h => ?_) (fun h => ?_)
      · have h := exit_s h
        refine ob_t ?_
        exact ret_s h (fun e => by subst e; exact (by repeat' (first | exact trivial | exact ⟨rfl⟩ | refine And.intro ?_ ?_)))
      · refine ob_s h fun h => ?_
        refine ob_s h fun h => ?_
        refine br_b h (fun h => ?_) (fun h => ?_)
        · have h := exit_s h
          refine ob_t ?_
          exact ret_s h (fun e => by subst e; exact (by repeat' (first | exact trivial | exact ⟨rfl⟩ | refine And.intro ?_ ?_)))
        · refine ob_s h fun h => ?_
          refine ob_s h fun h => ?_
          refine br_b h (fun h => ?_) (fun h => ?_)
          · have h := exit_s h
            refine ob_t ?_
            exact ret_s h (fun e => by subst e; exact (by repeat' (first | exact trivial | exact ⟨rfl⟩ | refine And.intro ?_ ?_)))
          · exact ⟨(IntKind.wrap IntKind.i64 (Prod.fst z1 + (1 : Int)), k1), ⟨next_s h⟩, ⟨lt_gs hm1.symm⟩, (by repeat' (first | exact trivial | exact ⟨rfl⟩ | refine And.intro ?_ ?_))⟩
  · have h := exit_s h
    refine ob_t ?_
    exact ret_s h (fun e => by subst e; exact (by repeat' (first | exact trivial | exact ⟨rfl⟩ | refine And.intro ?_ ?_)))
set_option maxRecDepth 100000 in
theorem R06_SamplesErr_ok : SpecOK Try.prog 61 true (pureK k_R06_SamplesErr g_R06_SamplesErr) := by
  refine pureK_ok (sp := (sp_115 sp0)) (fn := Try.f61) (body := bodyOf Try.f61) mixed (sp_115_ok sp0_ok) Try.func61 (by kernel_rfl) (by kernel_rfl) fun as_ ob rs h ho => ?_
  unfold g_R06_SamplesErr at h
  split at h
  · rename_i l
    cases h
    exact ⟨Nat.le_of_ble_eq_true rfl, _, _, R06_SamplesErr_vc l _ (ok_some ho)⟩
  · cases h
theorem sp_61_ok {sp : Specs} (h : SpecsOK Try.prog sp) : SpecsOK Try.prog (sp_61 sp) := addK_ok R06_SamplesErr_ok h

def k_F_NewState : List (Option Cont) := [some (.recs 5 [])]
/-- shoebox/filter.NewState -/
def F_NewState (c : List (List Int)) : Option (List (List Int) × Int) :=
  if List.length c ≤ (1000000000 : Nat) then
   if (Sx06.chkE c != (0 : Int)) = true then
   some ([], Sx06.chkE c)
   else
   if (0 : Int) ≤ (↑(List.length c) : Int) ∧ (↑(List.length c) : Int) = (↑(List.length c) : Int) ∧ (↑(32 : Nat) : Int) * (↑(List.length c) : Int) ≤ (281474976710656 : Int) ∧ (↑(List.length c) : Int) ≤ (9223372036854775807 : Int) then
   some ((List.replicate (Int.toNat (↑(List.length c) : Int)) [(0 : Int), (0 : Int), (0 : Int), (0 : Int)], (0 : Int)))
   else none
  else none
def g_F_NewState : List A → Option (Prop × List RV)
  | [.r (.recs 5 c)] => some (ok (F_NewState c), [.row 60 (.recs 4 ((val (F_NewState c)).1)), .d (.i .i64 ((val (F_NewState c)).2))])
  | _ => none
abbrev sp_70 : Specs → Specs := addK 70 true (pureK k_F_NewState g_F_NewState)
set_option maxRecDepth 100000 in
theorem F_NewState_vc (c : List (List Int)) (r : List (List Int) × Int) (h : Option.bind (F_NewState c) some = some r) : runF Try.f70 ((sp_86 sp0)) (fun _ _ _ => none) [.r (.recs 5 c)] [.row 60 (.recs 4 r.1), .d (.i .i64 r.2)] := by
  refine Eq.mp (by kernel_rfl : (
  (Ob (List.length c ≤ (1000000000 : Nat)) ∧
   Br (Sx06.chkE c != (0 : Int))
   ((Ob (True) ∧
   (Ob (True) ∧
   (Ob (List.length r.1 = (0 : Nat)) ∧
   (Ob (Sx06.chkE c = r.2) ∧
   True)))))
   ((Ob ((0 : Int) ≤ (↑(List.length c) : Int) ∧ (↑(List.length c) : Int) = (↑(List.length c) : Int) ∧ (↑(32 : Nat) : Int) * (↑(List.length c) : Int) ≤ (281474976710656 : Int) ∧ (↑(List.length c) : Int) ≤ (9223372036854775807 : Int)) ∧
   (Ob (True) ∧
   (Ob (True) ∧
   (Ob (List.replicate (Int.toNat (↑(List.length c) : Int)) [(0 : Int), (0 : Int), (0 : Int), (0 : Int)] = r.1) ∧
   (Ob ((0 : Int) = r.2) ∧
   True)))))))) = _) ?_
  refine ob_s h fun h => ?_
  refine br_b h (fun h => ?_) (fun h => ?_)
  · refine ob_t ?_
    refine ob_t ?_
    exact ret_s h (fun e => by subst e; exact (by repeat' (first | exact trivial | exact ⟨rfl⟩ | refine And.intro ?_ ?_)))
  · refine ob_s h fun h => ?_
    refine ob_t ?_
    refine ob_t ?_
    exact ret_s h (fun e => by subst e; exact (by repeat' (first | exact trivial | exact ⟨rfl⟩ | refine And.intro ?_ ?_)))
set_option maxRecDepth 100000 in
theorem F_NewState_ok : SpecOK Try.prog 70 true (pureK k_F_NewState g_F_NewState) := by
  refine pureK_ok (sp := (sp_86 sp0)) (fn := Try.f70) (body := bodyOf Try.f70) mixed (sp_86_ok sp0_ok) Try.func70 (by kernel_rfl) (by kernel_rfl) fun as_ ob rs h ho => ?_
  unfold g_F_NewState at h
  split at h
  · rename_i c
    cases h
    exact ⟨Nat.le_of_ble_eq_true rfl, _, _, F_NewState_vc c _ (ok_some ho)⟩
  · cases h
theorem sp_70_ok {sp : Specs} (h : SpecsOK Try.prog sp) : SpecsOK Try.prog (sp_70 sp) := addK_ok F_NewState_ok h

def k_F_CheckState : List (Option Cont) := [some (.recs 5 []), some (.recs 4 [])]
def F_CheckState_b0 (s : List (List Int)) (x0 : Int) : Option (Int ⊕ (Int ⊕ Unit)) :=
  if x0 < (↑(List.length s) : Int) then
   if (0 : Int) ≤ x0 ∧ x0 < (↑(List.length s) : Int) then
   if Int.toNat x0 < List.length s then
   if (!(decide ((-32767 : Int) ≤ List.getD (List.getD s (Int.toNat x0) []) (0 : Nat) (0 : Int)) && decide (List.getD (List.getD s (Int.toNat x0) []) (0 : Nat) (0 : Int) ≤ (32767 : Int)))) = true then
   some (.inr (.inl x0))
   else
   if (!(decide ((-32767 : Int) ≤ List.getD (List.getD s (Int.toNat x0) []) (1 : Nat) (0 : Int)) && decide (List.getD (List.getD s (Int.toNat x0) []) (1 : Nat) (0 : Int) ≤ (32767 : Int)))) = true then
   some (.inr (.inl x0))
   else
   if (!(decide ((-32767 : Int) ≤ List.getD (List.getD s (Int.toNat x0) []) (2 : Nat) (0 : Int)) && decide (List.getD (List.getD s (Int.toNat x0) []) (2 : Nat) (0 : Int) ≤ (32767 : Int)))) = true then
   some (.inr (.inl x0))
   else
   if (!(decide ((-32767 : Int) ≤ List.getD (List.getD s (Int.toNat x0) []) (3 : Nat) (0 : Int)) && decide (List.getD (List.getD s (Int.toNat x0) []) (3 : Nat) (0 : Int) ≤ (32767 : Int)))) = true then
   some (.inr (.inl x0))
   else
   some (.inl (IntKind.wrap IntKind.i64 (x0 + (1 : Int))))
   else none
   else none
  else
   some (.inr ((.inr ())))
def F_CheckState_r0_0 (y0_0 : Int) : Option (Int × Int) :=
  some ((y0_0, (2 : Int)))
def F_CheckState_r0_1 (y0_1 : Unit) : Option (Int × Int) :=
  some (((0 : Int), (0 : Int)))
def F_CheckState_r0 : (Int ⊕ Unit) → Option (Int × Int) :=
  (Sum.elim (F_CheckState_r0_0) (F_CheckState_r0_1))
/-- shoebox/filter.CheckState -/
def F_CheckState (c : List (List Int)) (s : List (List Int)) : Option (Int × Int) :=
  if List.length c ≤ (1000000000 : Nat) then
   if List.length [Sx06.chkE c, if ((↑(List.length s) : Int) == (↑(List.length c) : Int)) = true then (0 : Int) else (10 : Int)] ≤ (1000000 : Nat) then
   if (Option.getD (List.find? (fun x => x != (0 : Int)) [Sx06.chkE c, if ((↑(List.length s) : Int) == (↑(List.length c) : Int)) = true then (0 : Int) else (10 : Int)]) (0 : Int) != (0 : Int)) = true then
   some (((0 : Int), Option.getD (List.find? (fun x => x != (0 : Int)) [Sx06.chkE c, if ((↑(List.length s) : Int) == (↑(List.length c) : Int)) = true then (0 : Int) else (10 : Int)]) (0 : Int)))
   else
   Option.bind (iter (F_CheckState_b0 s) big (0 : Int)) (F_CheckState_r0)
   else none
  else none
def g_F_CheckState : List A → Option (Prop × List RV)
  | [.r (.recs 5 c), .r (.recs 4 s)] => some (ok (F_CheckState c s), [.d (.i .i64 ((val (F_CheckState c s)).1)), .d (.i .i64 ((val (F_CheckState c s)).2))])
  | _ => none
abbrev sp_71 : Specs → Specs := addK 71 true (pureK k_F_CheckState g_F_CheckState)
set_option maxRecDepth 100000 in
theorem F_CheckState_vc (c : List (List Int)) (s : List (List Int)) (r : Int × Int) (h : Option.bind (F_CheckState c s) some = some r) : runF Try.f71 ((sp_86 (sp_87 (sp_85 (sp_91 sp0))))) (fun gs id _ => match id with
 | 0 => some ⟨Int × Nat, fun z => ⟨[(24, .w (.c (.o 1))), (25, .w (.c (.d (.i .i64 ((↑(List.length s) : Int)))))), (26, .w (.c (.d (.i .i64 (Prod.fst z)))))], [(1, .ext (.recs 4 s))], 2⟩, fun z => Option.bind (iter (F_CheckState_b0 s) (Prod.snd z) (Prod.fst z)) (fun y0 => Option.bind (F_CheckState_r0 y0) some) = some r, fun z => Prod.snd z⟩
 | _ => none) [.r (.recs 5 c), .r (.recs 4 s)] [.d (.i .i64 r.1), .d (.i .i64 r.2)] := by
  refine Eq.mp (by kernel_rfl : (
  (Ob (List.length c ≤ (1000000000 : Nat)) ∧
   (Ob (True) ∧
   (Ob (List.length [Sx06.chkE c, if ((↑(List.length s) : Int) == (↑(List.length c) : Int)) = true then (0 : Int) else (10 : Int)] ≤ (1000000 : Nat)) ∧
   Br (Option.getD (List.find? (fun x => x != (0 : Int)) [Sx06.chkE c, if ((↑(List.length s) : Int) == (↑(List.length c) : Int)) = true then (0 : Int) else (10 : Int)]) (0 : Int) != (0 : Int))
   ((Ob (True) ∧
   (Ob (True) ∧
   (Ob ((0 : Int) = r.1) ∧
   (Ob (Option.getD (List.find? (fun x => x != (0 : Int)) [Sx06.chkE c, if ((↑(List.length s) : Int) == (↑(List.length c) : Int)) = true then (0 : Int) else (10 : Int)]) (0 : Int) = r.2) ∧
   True)))))
   (((∃ (v0 : Int × Nat), (Ob ((Option.bind (iter (F_CheckState_b0 s) v0.2 v0.1) fun y0 => Option.bind (F_CheckState_r0 y0) some) = some r) ∧
   (Ob ((↑(List.length s) : Int) = (↑(List.length s) : Int)) ∧
   (Ob ((0 : Int) = v0.1) ∧
   (Ob (s = s) ∧
   True))))) ∧
   (∀ (v0 : Int × Nat), ((Option.bind (iter (F_CheckState_b0 s) v0.2 v0.1) fun y0 => Option.bind (F_CheckState_r0 y0) some) = some r →
   Br (decide (v0.1 < (↑(List.length s) : Int)))
   ((Ob ((0 : Int) ≤ v0.1 ∧ v0.1 < (↑(List.length s) : Int)) ∧
   (Ob (Int.toNat v0.1 < List.length s) ∧
   (Ob ((0 : Int) ≤ (0 : Int) ∧ (0 : Int) < (↑(2 : Nat) : Int)) ∧
   (Ob ((0 : Int) ≤ (1 : Int) ∧ (1 : Int) < (↑(2 : Nat) : Int)) ∧
   (Ob ((0 : Int) ≤ (0 : Int) ∧ (0 : Int) < (↑(2 : Nat) : Int)) ∧
   (Ob ((0 : Int) ≤ (1 : Int) ∧ (1 : Int) < (↑(2 : Nat) : Int)) ∧
   (Ob ((0 : Int) ≤ (0 : Int) ∧ (0 : Int) < (↑(4 : Nat) : Int)) ∧
   (Ob ((-9223372036854775807 : Int) ≤ (32767 : Int) ∧ (32767 : Int) ≤ (9223372036854775807 : Int)) ∧
   Br (!(decide ((-32767 : Int) ≤ List.getD (List.getD s (Int.toNat v0.1) []) (0 : Nat) (0 : Int)) && decide (List.getD (List.getD s (Int.toNat v0.1) []) (0 : Nat) (0 : Int) ≤ (32767 : Int))))
   ((Ob (True) ∧
   (Ob (True) ∧
   (Ob (v0.1 = r.1) ∧
   (Ob ((2 : Int) = r.2) ∧
   True)))))
   ((Ob ((0 : Int) ≤ IntKind.wrap IntKind.i64 ((0 : Int) + (1 : Int)) ∧ IntKind.wrap IntKind.i64 ((0 : Int) + (1 : Int)) < (↑(4 : Nat) : Int)) ∧
   (Ob ((-9223372036854775807 : Int) ≤ (32767 : Int) ∧ (32767 : Int) ≤ (9223372036854775807 : Int)) ∧
   Br (!(decide ((-32767 : Int) ≤ List.getD (List.getD s (Int.toNat v0.1) []) (1 : Nat) (0 : Int)) && decide (List.getD (List.getD s (Int.toNat v0.1) []) (1 : Nat) (0 : Int) ≤ (32767 : Int))))
   ((Ob (True) ∧
   (Ob (True) ∧
   (Ob (v0.1 = r.1) ∧
   (Ob ((2 : Int) = r.2) ∧
   True)))))
   ((Ob ((0 : Int) ≤ IntKind.wrap IntKind.i64 (IntKind.wrap IntKind.i64 ((0 : Int) + (1 : Int)) + (1 : Int)) ∧ IntKind.wrap IntKind.i64 (IntKind.wrap IntKind.i64 ((0 : Int) + (1 : Int)) + (1 : Int)) < (↑(4 : Nat) : Int)) ∧
   (Ob ((-9223372036854775807 : Int) ≤ (32767 : Int) ∧ (32767 : Int) ≤ (9223372036854775807 : Int)) ∧
   Br (!(decide ((-32767 : Int) ≤ List.getD (List.getD s (Int.toNat v0.1) []) (2 : Nat) (0 : Int)) && decide (List.getD (List.getD s (Int.toNat v0.1) []) (2 : Nat) (0 : Int) ≤ (32767 : Int))))
   ((Ob (True) ∧
   (Ob (True) ∧
   (Ob (v0.1 = r.1) ∧
   (Ob ((2 : Int) = r.2) ∧
   True)))))
   ((Ob ((0 : Int) ≤ IntKind.wrap IntKind.i64 (IntKind.wrap IntKind.i64 (IntKind.wrap IntKind.i64 ((0 : Int) + (1 : Int)) + (1 : Int)) + (1 : Int)) ∧ IntKind.wrap IntKind.i64 (IntKind.wrap IntKind.i64 (IntKind.wrap IntKind.i64 ((0 : Int) + (1 : Int)) + (1 : Int)) + (1 : Int)) < (↑(4 : Nat) : Int)) ∧
   (Ob ((-9223372036854775807 : Int) ≤ (32767 : Int) ∧ (32767 : Int) ≤ (9223372036854775807 : Int)) ∧
   Br (!(decide ((-32767 : Int) ≤ List.getD (List.getD s (Int.toNat v0.1) []) (3 : Nat) (0 : Int)) && decide (List.getD (List.getD s (Int.toNat v0.1) []) (3 : Nat) (0 : Int) ≤ (32767 : Int))))
   ((Ob (True) ∧
   (Ob (True) ∧
   (Ob (v0.1 = r.1) ∧
   (Ob ((2 : Int) = r.2) ∧
   True)))))
   ((∃ (v1 : Int × Nat), (Ob ((Option.bind (iter (F_CheckState_b0 s) v1.2 v1.1) fun y0 => Option.bind (F_CheckState_r0 y0) some) = some r) ∧
   (Ob (v1.2 < v0.2) ∧
   (Ob ((↑(List.length s) : Int) = (↑(List.length s) : Int)) ∧
   (Ob (IntKind.wrap IntKind.i64 (v0.1 + (1 : Int)) = v1.1) ∧
   (Ob (s = s) ∧
   True)))))))))))))))))))))))))
   ((Ob (True) ∧
   (Ob (True) ∧
   (Ob ((0 : Int) = r.1) ∧
   (Ob ((0 : Int) = r.2) ∧
   True))))))))))))) = _) ?_
  refine ob_s h fun h => ?_
  refine ob_t ?_
  refine ob_s h fun h => ?_
  refine br_b h (fun h => ?_) (fun h => ?_)
  · refine ob_t ?_
    refine ob_t ?_
    exact ret_s h (fun e => by subst e; exact (by repeat' (first | exact trivial | exact ⟨rfl⟩ | refine And.intro ?_ ?_)))
  · refine ⟨⟨((0 : Int), big), ⟨loop_s h⟩, (by repeat' (first | exact trivial | exact ⟨rfl⟩ | refine And.intro ?_ ?_))⟩, fun z0 hz0 => ?_⟩
    obtain ⟨k0, hm0, h⟩ := iter_pos hz0
    refine br_d h (fun h => ?_) (fun h => ?_)
    · refine ob_s h fun h => ?_
      refine ob_s h fun h => ?_
      refine ob_c (p := (0 : Int) ≤ (0 : Int) ∧ (0 : Int) < (↑(2 : Nat) : Int)) (by decide) ?_
      refine ob_c (p := (0 : Int) ≤ (1 : Int) ∧ (1 : Int) < (↑(2 : Nat) : Int)) (by decide) ?_
      refine ob_c (p := (0 : Int) ≤ (0 : Int) ∧ (0 : Int) < (↑(2 : Nat) : Int)) (by decide) ?_
      refine ob_c (p := (0 : Int) ≤ (1 : Int) ∧ (1 : Int) < (↑(2 : Nat) : Int)) (by decide) ?_
      refine ob_c (p := (0 : Int) ≤ (0 : Int) ∧ (0 : Int) < (↑(4 : Nat) : Int)) (by decide) ?_
      refine ob_c (p := (-9223372036854775807 : Int) ≤ (32767 : Int) ∧ (32767 : Int) ≤ (9223372036854775807 : Int)) (by decide) ?_
      refine br_b h (fun h => ?_) (fun h => ?_)
      · have h := exit_s h
        refine ob_t ?_
        refine ob_t ?_
        exact ret_s h (fun e => by subst e; exact (by repeat' (first | exact trivial | exact ⟨rfl⟩ | refine And.intro ?_ ?_)))
      · refine ob_c (p := (0 : Int) ≤ IntKind.wrap IntKind.i64 ((0 : Int) + (1 : Int)) ∧ IntKind.wrap IntKind.i64 ((0 : Int) + (1 : Int)) < (↑(4 : Nat) : Int)) (by decide) ?_
        refine ob_c (p := (-9223372036854775807 : Int) ≤ (32767 : Int) ∧ (32767 : Int) ≤ (9223372036854775807 : Int)) (by decide) ?_
        refine br_b h (fun h => ?_) (fun h => ?_)
        · have h := exit_s h
          refine ob_t ?_
          refine ob_t ?_
          exact ret_s h (fun e => by subst e; exact (by repeat' (first | exact trivial | exact ⟨rfl⟩ | refine And.intro ?_ ?_)))
        · refine ob_c (p := (0 : Int) ≤ IntKind.wrap IntKind.i64 (IntKind.wrap IntKind.i64 ((0 : Int) + (1 : Int)) + (1 : Int)) ∧ IntKind.wrap IntKind.i64 (IntKind.wrap IntKind.i64 ((0 : Int) + (1 : Int)) + (1 : Int)) < (↑(4 : Nat) : Int)) (by decide) ?_
          refine ob_c (p := (-9223372036854775807 : Int) ≤ (32767 : Int) ∧ (32767 : Int) ≤ (9223372036854775807 : Int)) (by decide) ?_
          refine br_b h (fun h => ?_) (fun h => ?_)
          · have h := exit_s h
            refine ob_t ?_
            refine ob_t ?_
            exact ret_s h (fun e => by subst e; exact (by repeat' (first | exact trivial | exact ⟨rfl⟩ | refine And.intro ?_ ?_)))
          · refine ob_c (p := (0 : Int) ≤ IntKind.wrap IntKind.i64 (IntKind.wrap IntKind.i64 (IntKind.wrap IntKind.i64 ((0 : Int) + (1 : Int)) + (1 : Int)) + (1 : Int)) ∧ IntKind.wrap IntKind.i64 (IntKind.wrap IntKind.i64 (IntKind.wrap IntKind.i64 ((0 : Int) + (1 : Int)) + (1 : Int)) + (1 : Int)) < (↑(4 : Nat) : Int)) (by decide) ?_
            refine ob_c (p := (-9223372036854775807 : Int) ≤ (32767 : Int) ∧ (32767 : Int) ≤ (9223372036854775807 : Int)) (by decide) ?_
            refine br_b h (fun h => ?_) (fun h => ?_)
            · have h := exit_s h
              refine ob_t ?_
              refine ob_t ?_
              exact ret_s h (fun e => by subst e; exact (by repeat' (first | exact trivial | exact ⟨rfl⟩ | refine And.intro ?_ ?_)))
            · exact ⟨(IntKind.wrap IntKind.i64 (Prod.fst z0 + (1 : Int)), k0), ⟨next_s h⟩, ⟨lt_gs hm0.symm⟩, (by repeat' (first | exact trivial | exact ⟨rfl⟩ | refine And.intro ?_ ?_))⟩
    · have h := exit_s h
      refine ob_t ?_
      refine ob_t ?_
      exact ret_s h (fun e => by subst e; exact (by repeat' (first | exact trivial | exact ⟨rfl⟩ | refine And.intro ?_ ?_)))
set_option maxRecDepth 100000 in
theorem F_CheckState_ok : SpecOK Try.prog 71 true (pureK k_F_CheckState g_F_CheckState) := by
  refine pureK_ok (sp := (sp_86 (sp_87 (sp_85 (sp_91 sp0))))) (fn := Try.f71) (body := bodyOf Try.f71) mixed (sp_86_ok (sp_87_ok (sp_85_ok (sp_91_ok sp0_ok)))) Try.func71 (by kernel_rfl) (by kernel_rfl) fun as_ ob rs h ho => ?_
  unfold g_F_CheckState at h
  split at h
  · rename_i c s
    cases h
    exact ⟨Nat.le_of_ble_eq_true rfl, _, _, F_CheckState_vc c s _ (ok_some ho)⟩
  · cases h
theorem sp_71_ok {sp : Specs} (h : SpecsOK Try.prog sp) : SpecsOK Try.prog (sp_71 sp) := addK_ok F_CheckState_ok h

def k_F_sampleErr : List (Option Cont) := [none]
/-- shoebox/filter.sampleErr -/
def F_sampleErr (x_ : Nat) : Option Int :=
  if (Ieee.Format.order (FloatKind.format FloatKind.f32) x_ x_ != some Ordering.eq) = true then
   some (27 : Int)
  else
   if (Option.isSome (Ieee.Format.sub (FloatKind.format FloatKind.f32) x_ x_)) = true then
   if (Ieee.Format.order (FloatKind.format FloatKind.f32) (Option.getD (Ieee.Format.sub (FloatKind.format FloatKind.f32) x_ x_) (0 : Nat)) (0 : Nat) != some Ordering.eq) = true then
   some (27 : Int)
   else
   if (Ieee.Format.order (FloatKind.format FloatKind.f32) x_ (1266679808 : Nat) == some Ordering.gt || Ieee.Format.order (FloatKind.format FloatKind.f32) x_ (1266679808 : Nat) == some Ordering.eq) = true then
   some (2 : Int)
   else
   if (Ieee.Format.order (FloatKind.format FloatKind.f32) x_ (3414163456 : Nat) == some Ordering.lt || Ieee.Format.order (FloatKind.format FloatKind.f32) x_ (3414163456 : Nat) == some Ordering.eq) = true then
   some (2 : Int)
   else
   if f2iOk FloatKind.f32 IntKind.i64 x_ = true then
   if (Ieee.Format.order (FloatKind.format FloatKind.f32) (FloatKind.nearest FloatKind.f32 (f2i FloatKind.f32 x_)) x_ != some Ordering.eq) = true then
   some (27 : Int)
   else
   if f2iOk FloatKind.f32 IntKind.i64 x_ = true then
   some (if (decide ((-32767 : Int) ≤ f2i FloatKind.f32 x_) && decide (f2i FloatKind.f32 x_ ≤ (32767 : Int))) = true then (0 : Int) else (2 : Int))
   else none
   else none
   else
   some (27 : Int)
def g_F_sampleErr : List A → Option (Prop × List RV)
  | [.d (.f .f32 x_)] => some (ok (F_sampleErr x_), [.d (.i .i64 ((val (F_sampleErr x_))))])
  | _ => none
abbrev sp_130 : Specs → Specs := addK 130 true (pureK k_F_sampleErr g_F_sampleErr)
set_option maxRecDepth 100000 in
theorem F_sampleErr_vc (x_ : Nat) (r : Int) (h : Option.bind (F_sampleErr x_) some = some r) : runF Try.f130 ((sp_91 (sp_87 sp0))) (fun _ _ _ => none) [.d (.f .f32 x_)] [.d (.i .i64 r)] := by
  refine Eq.mp (by kernel_rfl : (
  Br (Ieee.Format.order (FloatKind.format FloatKind.f32) x_ x_ != some Ordering.eq)
   ((Ob (True) ∧
   (Ob ((27 : Int) = r) ∧
   True)))
   (Br (Option.isSome (Ieee.Format.sub (FloatKind.format FloatKind.f32) x_ x_))
   ((Ob (True) ∧
   Br (Ieee.Format.order (FloatKind.format FloatKind.f32) (Option.getD (Ieee.Format.sub (FloatKind.format FloatKind.f32) x_ x_) (0 : Nat)) (0 : Nat) != some Ordering.eq)
   ((Ob (True) ∧
   (Ob ((27 : Int) = r) ∧
   True)))
   (Br (Ieee.Format.order (FloatKind.format FloatKind.f32) x_ (1266679808 : Nat) == some Ordering.gt || Ieee.Format.order (FloatKind.format FloatKind.f32) x_ (1266679808 : Nat) == some Ordering.eq)
   ((Ob (True) ∧
   (Ob ((2 : Int) = r) ∧
   True)))
   (Br (Ieee.Format.order (FloatKind.format FloatKind.f32) x_ (3414163456 : Nat) == some Ordering.lt || Ieee.Format.order (FloatKind.format FloatKind.f32) x_ (3414163456 : Nat) == some Ordering.eq)
   ((Ob (True) ∧
   (Ob ((2 : Int) = r) ∧
   True)))
   ((Ob (f2iOk FloatKind.f32 IntKind.i64 x_ = true) ∧
   (Ob (True) ∧
   Br (Ieee.Format.order (FloatKind.format FloatKind.f32) (FloatKind.nearest FloatKind.f32 (f2i FloatKind.f32 x_)) x_ != some Ordering.eq)
   ((Ob (True) ∧
   (Ob ((27 : Int) = r) ∧
   True)))
   ((Ob (f2iOk FloatKind.f32 IntKind.i64 x_ = true) ∧
   (Ob ((-9223372036854775807 : Int) ≤ (32767 : Int) ∧ (32767 : Int) ≤ (9223372036854775807 : Int)) ∧
   (Ob (True) ∧
   (Ob (True) ∧
   (Ob ((if (decide ((-32767 : Int) ≤ f2i FloatKind.f32 x_) && decide (f2i FloatKind.f32 x_ ≤ (32767 : Int))) = true then (0 : Int) else (2 : Int)) = r) ∧
   True)))))))))))))
   ((Ob (True) ∧
   (Ob (True) ∧
   (Ob ((27 : Int) = r) ∧
   True)))))) = _) ?_
  refine br_b h (fun h => ?_) (fun h => ?_)
  · refine ob_t ?_
    exact ret_s h (fun e => by subst e; exact (by repeat' (first | exact trivial | exact ⟨rfl⟩ | refine And.intro ?_ ?_)))
  · refine br_b h (fun h => ?_) (fun h => ?_)
    · refine ob_t ?_
      refine br_b h (fun h => ?_) (fun h => ?_)
      · refine ob_t ?_
        exact ret_s h (fun e => by subst e; exact (by repeat' (first | exact trivial | exact ⟨rfl⟩ | refine And.intro ?_ ?_)))
      · refine br_b h (fun h => ?_) (fun h => ?_)
        · refine ob_t ?_
          exact ret_s h (fun e => by subst e; exact (by repeat' (first | exact trivial | exact ⟨rfl⟩ | refine And.intro ?_ ?_)))
        · refine br_b h (fun h => ?_) (fun h => ?_)
          · refine ob_t ?_
            exact ret_s h (fun e => by subst e; exact (by repeat' (first | exact trivial | exact ⟨rfl⟩ | refine And.intro ?_ ?_)))
          · refine ob_s h fun h => ?_
            refine ob_t ?_
            refine br_b h (fun h => ?_) (fun h => ?_)
            · refine ob_t ?_
              exact ret_s h (fun e => by subst e; exact (by repeat' (first | exact trivial | exact ⟨rfl⟩ | refine And.intro ?_ ?_)))
            · refine ob_s h fun h => ?_
              refine ob_c (p := (-9223372036854775807 : Int) ≤ (32767 : Int) ∧ (32767 : Int) ≤ (9223372036854775807 : Int)) (by decide) ?_
              refine ob_t ?_
              refine ob_t ?_
              exact ret_s h (fun e => by subst e; exact (by repeat' (first | exact trivial | exact ⟨rfl⟩ | refine And.intro ?_ ?_)))
    · refine ob_t ?_
      refine ob_t ?_
      exact ret_s h (fun e => by subst e; exact (by repeat' (first | exact trivial | exact ⟨rfl⟩ | refine And.intro ?_ ?_)))
set_option maxRecDepth 100000 in
theorem F_sampleErr_ok : SpecOK Try.prog 130 true (pureK k_F_sampleErr g_F_sampleErr) := by
  refine pureK_ok (sp := (sp_91 (sp_87 sp0))) (fn := Try.f130) (body := bodyOf Try.f130) mixed (sp_91_ok (sp_87_ok sp0_ok)) Try.func130 (by kernel_rfl) (by kernel_rfl) fun as_ ob rs h ho => ?_
  unfold g_F_sampleErr at h
  split at h
  · rename_i x_
    cases h
    exact ⟨Nat.le_of_ble_eq_true rfl, _, _, F_sampleErr_vc x_ _ (ok_some ho)⟩
  · cases h
theorem sp_130_ok {sp : Specs} (h : SpecsOK Try.prog sp) : SpecsOK Try.prog (sp_130 sp) := addK_ok F_sampleErr_ok h

def k_F_samplesErr : List (Option Cont) := [some (.floats .f32 [])]
def F_samplesErr_b0 (l : List Nat) (x0 : Int) : Option (Int ⊕ (Int ⊕ Unit)) :=
  if x0 < (↑(List.length l) : Int) then
   if (0 : Int) ≤ x0 ∧ x0 < (↑(List.length l) : Int) then
   if Int.toNat x0 < List.length l then
   Option.bind (F_sampleErr (List.getD l (Int.toNat x0) (0 : Nat))) fun r0 =>
   if (r0 != (0 : Int)) = true then
   some (.inr (.inl r0))
   else
   some (.inl (IntKind.wrap IntKind.i64 (x0 + (1 : Int))))
   else none
   else none
  else
   some (.inr ((.inr ())))
def F_samplesErr_r0_0 (y0_0 : Int) : Option Int :=
  some y0_0
def F_samplesErr_r0_1 (y0_1 : Unit) : Option Int :=
  some (0 : Int)
def F_samplesErr_r0 : (Int ⊕ Unit) → Option Int :=
  (Sum.elim (F_samplesErr_r0_0) (F_samplesErr_r0_1))
/-- shoebox/filter.samplesErr -/
def F_samplesErr (l : List Nat) : Option Int :=
  Option.bind (iter (F_samplesErr_b0 l) big (0 : Int)) (F_samplesErr_r0)
def g_F_samplesErr : List A → Option (Prop × List RV)
  | [.r (.floats .f32 l)] => some (ok (F_samplesErr l), [.d (.i .i64 ((val (F_samplesErr l))))])
  | _ => none
abbrev sp_107 : Specs → Specs := addK 107 true (pureK k_F_samplesErr g_F_samplesErr)
set_option maxRecDepth 100000 in
theorem F_samplesErr_vc (l : List Nat) (r : Int) (h : Option.bind (F_samplesErr l) some = some r) : runF Try.f107 ((sp_130 sp0)) (fun gs id _ => match id with
 | 0 => some ⟨Int × Nat, fun z => ⟨[(6, .w (.c (.o 0))), (7, .w (.c (.d (.i .i64 ((↑(List.length l) : Int)))))), (8, .w (.c (.d (.i .i64 (Prod.fst z)))))], [(0, .ext (.floats .f32 l))], 1⟩, fun z => Option.bind (iter (F_samplesErr_b0 l) (Prod.snd z) (Prod.fst z)) (fun y0 => Option.bind (F_samplesErr_r0 y0) some) = some r, fun z => Prod.snd z⟩
 | _ => none) [.r (.floats .f32 l)] [.d (.i .i64 r)] := by
  refine Eq.mp (by kernel_rfl : (
  ((∃ (v0 : Int × Nat), (Ob ((Option.bind (iter (F_samplesErr_b0 l) v0.2 v0.1) fun y0 => Option.bind (F_samplesErr_r0 y0) some) = some r) ∧
   (Ob ((↑(List.length l) : Int) = (↑(List.length l) : Int)) ∧
   (Ob ((0 : Int) = v0.1) ∧
   (Ob (l = l) ∧
   True))))) ∧
   (∀ (v0 : Int × Nat), ((Option.bind (iter (F_samplesErr_b0 l) v0.2 v0.1) fun y0 => Option.bind (F_samplesErr_r0 y0) some) = some r →
   Br (decide (v0.1 < (↑(List.length l) : Int)))
   ((Ob ((0 : Int) ≤ v0.1 ∧ v0.1 < (↑(List.length l) : Int)) ∧
   (Ob (Int.toNat v0.1 < List.length l) ∧
   (Ob (ok (F_sampleErr (List.getD l (Int.toNat v0.1) (0 : Nat)))) ∧
   Br (val (F_sampleErr (List.getD l (Int.toNat v0.1) (0 : Nat))) != (0 : Int))
   ((Ob (True) ∧
   (Ob (val (F_sampleErr (List.getD l (Int.toNat v0.1) (0 : Nat))) = r) ∧
   True)))
   ((∃ (v1 : Int × Nat), (Ob ((Option.bind (iter (F_samplesErr_b0 l) v1.2 v1.1) fun y0 => Option.bind (F_samplesErr_r0 y0) some) = some r) ∧
   (Ob (v1.2 < v0.2) ∧
   (Ob ((↑(List.length l) : Int) = (↑(List.length l) : Int)) ∧
   (Ob (IntKind.wrap IntKind.i64 (v0.1 + (1 : Int)) = v1.1) ∧
   (Ob (l = l) ∧
   True)))))))))))
   ((Ob (True) ∧
   (Ob ((0 : Int) = r) ∧
   True))))))) = _) ?_
  refine ⟨⟨((0 : Int), big), ⟨loop_s h⟩, (by repeat' (first | exact trivial | exact ⟨rfl⟩ | refine And.intro ?_ ?_))⟩, fun z1 hz1 => ?_⟩
  obtain ⟨k1, hm1, h⟩ := iter_pos hz1
  refine br_d h (fun h => ?_) (fun h => ?_)
  · refine ob_s h fun h => ?_
    refine ob_s h fun h => ?_
    refine call_s h fun h => ?_
    refine br_b h (fun h => ?_) (fun h => ?_)
    · have h := exit_s h
      refine ob_t ?_
      exact ret_s h (fun e => by subst e; exact (by repeat' (first | exact trivial | exact ⟨rfl⟩ | refine And.intro ?_ ?_)))
    · exact ⟨(IntKind.wrap IntKind.i64 (Prod.fst z1 + (1 : Int)), k1), ⟨next_s h⟩, ⟨lt_gs hm1.symm⟩, (by repeat' (first | exact trivial | exact ⟨rfl⟩ | refine And.intro ?_ ?_))⟩
  · have h := exit_s h
    refine ob_t ?_
    exact ret_s h (fun e => by subst e; exact (by repeat' (first | exact trivial | exact ⟨rfl⟩ | refine And.intro ?_ ?_)))
set_option maxRecDepth 100000 in
theorem F_samplesErr_ok : SpecOK Try.prog 107 true (pureK k_F_samplesErr g_F_samplesErr) := by
  refine pureK_ok (sp := (sp_130 sp0)) (fn := Try.f107) (body := bodyOf Try.f107) mixed (sp_130_ok sp0_ok) Try.func107 (by kernel_rfl) (by kernel_rfl) fun as_ ob rs h ho => ?_
  unfold g_F_samplesErr at h
  split at h
  · rename_i l
    cases h
    exact ⟨Nat.le_of_ble_eq_true rfl, _, _, F_samplesErr_vc l _ (ok_some ho)⟩
  · cases h
theorem sp_107_ok {sp : Specs} (h : SpecsOK Try.prog sp) : SpecsOK Try.prog (sp_107 sp) := addK_ok F_samplesErr_ok h

def k_F_chain_cuts : List (Option Cont) := [some (.recs 10 [])]
def F_chain_cuts_b0 (l : List (List Int)) (x0 : (Int × Int)) : Option ((Int × Int) ⊕ Int) :=
  if x0.2 < (↑(List.length l) : Int) then
   if (0 : Int) ≤ x0.2 ∧ x0.2 < (↑(List.length l) : Int) then
   if Int.toNat x0.2 < List.length l then
   some (.inl ((IntKind.wrap IntKind.i64 (x0.1 + List.getD (List.getD l (Int.toNat x0.2) []) (9 : Nat) (0 : Int)), IntKind.wrap IntKind.i64 (x0.2 + (1 : Int)))))
   else none
   else none
  else
   some (.inr x0.1)
def F_chain_cuts_r0 (y0_0 : Int) : Option Int :=
  some y0_0
/-- (shoebox/filter.chain).cuts -/
def F_chain_cuts (l : List (List Int)) : Option Int :=
  Option.bind (iter (F_chain_cuts_b0 l) big (((0 : Int), (0 : Int)))) (F_chain_cuts_r0)
def g_F_chain_cuts : List A → Option (Prop × List RV)
  | [.r (.recs 10 l)] => some (ok (F_chain_cuts l), [.d (.i .i64 ((val (F_chain_cuts l))))])
  | _ => none
abbrev sp_110 : Specs → Specs := addK 110 true (pureK k_F_chain_cuts g_F_chain_cuts)
set_option maxRecDepth 100000 in
theorem F_chain_cuts_vc (l : List (List Int)) (r : Int) (h : Option.bind (F_chain_cuts l) some = some r) : runF Try.f110 (sp0) (fun gs id _ => match id with
 | 0 => some ⟨(Int × Int) × Nat, fun z => ⟨[(3, .w (.c (.d (.i .i64 (Prod.fst (Prod.fst z)))))), (6, .w (.c (.o 0))), (7, .w (.c (.d (.i .i64 ((↑(List.length l) : Int)))))), (8, .w (.c (.d (.i .i64 (Prod.snd (Prod.fst z))))))], [(0, .ext (.recs 10 l))], 1⟩, fun z => Option.bind (iter (F_chain_cuts_b0 l) (Prod.snd z) (Prod.fst z)) (fun y0 => Option.bind (F_chain_cuts_r0 y0) some) = some r, fun z => Prod.snd z⟩
 | _ => none) [.r (.recs 10 l)] [.d (.i .i64 r)] := by
  refine Eq.mp (by kernel_rfl : (
  ((∃ (v0 : (Int × Int) × Nat), (Ob ((Option.bind (iter (F_chain_cuts_b0 l) v0.2 v0.1) fun y0 => Option.bind (F_chain_cuts_r0 y0) some) = some r) ∧
   (Ob ((0 : Int) = v0.1.1) ∧
   (Ob ((↑(List.length l) : Int) = (↑(List.length l) : Int)) ∧
   (Ob ((0 : Int) = v0.1.2) ∧
   (Ob (l = l) ∧
   True)))))) ∧
   (∀ (v0 : (Int × Int) × Nat), ((Option.bind (iter (F_chain_cuts_b0 l) v0.2 v0.1) fun y0 => Option.bind (F_chain_cuts_r0 y0) some) = some r →
   Br (decide (v0.1.2 < (↑(List.length l) : Int)))
   ((Ob ((0 : Int) ≤ v0.1.2 ∧ v0.1.2 < (↑(List.length l) : Int)) ∧
   (Ob (Int.toNat v0.1.2 < List.length l) ∧
   (∃ (v1 : (Int × Int) × Nat), (Ob ((Option.bind (iter (F_chain_cuts_b0 l) v1.2 v1.1) fun y0 => Option.bind (F_chain_cuts_r0 y0) some) = some r) ∧
   (Ob (v1.2 < v0.2) ∧
   (Ob (IntKind.wrap IntKind.i64 (v0.1.1 + List.getD (List.getD l (Int.toNat v0.1.2) []) (9 : Nat) (0 : Int)) = v1.1.1) ∧
   (Ob ((↑(List.length l) : Int) = (↑(List.length l) : Int)) ∧
   (Ob (IntKind.wrap IntKind.i64 (v0.1.2 + (1 : Int)) = v1.1.2) ∧
   (Ob (l = l) ∧
   True))))))))))
   ((Ob (True) ∧
   (Ob (v0.1.1 = r) ∧
   True))))))) = _) ?_
  refine ⟨⟨(((0 : Int), (0 : Int)), big), ⟨loop_s h⟩, (by repeat' (first | exact trivial | exact ⟨rfl⟩ | refine And.intro ?_ ?_))⟩, fun z0 hz0 => ?_⟩
  obtain ⟨k0, hm0, h⟩ := iter_pos hz0
  refine br_d h (fun h => ?_) (fun h => ?_)
  · refine ob_s h fun h => ?_
    refine ob_s h fun h => ?_
    exact ⟨((IntKind.wrap IntKind.i64 ((Prod.fst z0).1 + List.getD (List.getD l (Int.toNat (Prod.fst z0).2) []) (9 : Nat) (0 : Int)), IntKind.wrap IntKind.i64 ((Prod.fst z0).2 + (1 : Int))), k0), ⟨next_s h⟩, ⟨lt_gs hm0.symm⟩, (by repeat' (first | exact trivial | exact ⟨rfl⟩ | refine And.intro ?_ ?_))⟩
  · have h := exit_s h
    refine ob_t ?_
    exact ret_s h (fun e => by subst e; exact (by repeat' (first | exact trivial | exact ⟨rfl⟩ | refine And.intro ?_ ?_)))
set_option maxRecDepth 100000 in
theorem F_chain_cuts_ok : SpecOK Try.prog 110 true (pureK k_F_chain_cuts g_F_chain_cuts) := by
  refine pureK_ok (sp := sp0) (fn := Try.f110) (body := bodyOf Try.f110) mixed sp0_ok Try.func110 (by kernel_rfl) (by kernel_rfl) fun as_ ob rs h ho => ?_
  unfold g_F_chain_cuts at h
  split at h
  · rename_i l
    cases h
    exact ⟨Nat.le_of_ble_eq_true rfl, _, _, F_chain_cuts_vc l _ (ok_some ho)⟩
  · cases h
theorem sp_110_ok {sp : Specs} (h : SpecsOK Try.prog sp) : SpecsOK Try.prog (sp_110 sp) := addK_ok F_chain_cuts_ok h

def k_F_chain_states : List (Option Cont) := [some (.recs 10 [])]
def F_chain_states_b0 (l : List (List Int)) (x0 : (Int × List (List Int))) : Option ((Int × List (List Int)) ⊕ (List (List Int))) :=
  if x0.1 < (↑(List.length l) : Int) then
   if (0 : Int) ≤ x0.1 ∧ x0.1 < (↑(List.length l) : Int) then
   if Int.toNat x0.1 < List.length l then
   if (List.length x0.2 + List.length [[List.getD (List.getD l (Int.toNat x0.1) []) (5 : Nat) (0 : Int), List.getD (List.getD l (Int.toNat x0.1) []) (6 : Nat) (0 : Int), List.getD (List.getD l (Int.toNat x0.1) []) (7 : Nat) (0 : Int), List.getD (List.getD l (Int.toNat x0.1) []) (8 : Nat) (0 : Int)]]) * (32 : Nat) ≤ (140737488355328 : Nat) ∧ List.length x0.2 + List.length [[List.getD (List.getD l (Int.toNat x0.1) []) (5 : Nat) (0 : Int), List.getD (List.getD l (Int.toNat x0.1) []) (6 : Nat) (0 : Int), List.getD (List.getD l (Int.toNat x0.1) []) (7 : Nat) (0 : Int), List.getD (List.getD l (Int.toNat x0.1) []) (8 : Nat) (0 : Int)]] ≤ (9223372036854775807 : Nat) then
   some (.inl ((IntKind.wrap IntKind.i64 (x0.1 + (1 : Int)), x0.2 ++ [[List.getD (List.getD l (Int.toNat x0.1) []) (5 : Nat) (0 : Int), List.getD (List.getD l (Int.toNat x0.1) []) (6 : Nat) (0 : Int), List.getD (List.getD l (Int.toNat x0.1) []) (7 : Nat) (0 : Int), List.getD (List.getD l (Int.toNat x0.1) []) (8 : Nat) (0 : Int)]])))
   else none
   else none
   else none
  else
   some (.inr x0.2)
def F_chain_states_r0 (y0_0 : List (List Int)) : Option (List (List Int)) :=
  some y0_0
/-- (shoebox/filter.chain).states -/
def F_chain_states (l : List (List Int)) : Option (List (List Int)) :=
  Option.bind (iter (F_chain_states_b0 l) big (((0 : Int), []))) (F_chain_states_r0)
def g_F_chain_states : List A → Option (Prop × List RV)
  | [.r (.recs 10 l)] => some (ok (F_chain_states l), [.row 60 (.recs 4 ((val (F_chain_states l))))])
  | _ => none
abbrev sp_117 : Specs → Specs := addK 117 true (pureK k_F_chain_states g_F_chain_states)
set_option maxRecDepth 100000 in
theorem F_chain_states_vc (l : List (List Int)) (r : List (List Int)) (h : Option.bind (F_chain_states l) some = some r) : runF Try.f117 (sp0) (fun gs id _ => match id with
 | 0 => some ⟨(Int × List (List Int)) × Nat, fun z => ⟨[(3, .w (.c (.o 1))), (6, .w (.c (.o 0))), (7, .w (.c (.d (.i .i64 ((↑(List.length l) : Int)))))), (8, .w (.c (.d (.i .i64 (Prod.fst (Prod.fst z))))))], [(1, .row 60 (.recs 4 (Prod.snd (Prod.fst z)))), (0, .ext (.recs 10 l))], 2⟩, fun z => Option.bind (iter (F_chain_states_b0 l) (Prod.snd z) (Prod.fst z)) (fun y0 => Option.bind (F_chain_states_r0 y0) some) = some r, fun z => Prod.snd z⟩
 | _ => none) [.r (.recs 10 l)] [.row 60 (.recs 4 r)] := by
  refine Eq.mp (by kernel_rfl : (
  ((∃ (v0 : (Int × List (List Int)) × Nat), (Ob ((Option.bind (iter (F_chain_states_b0 l) v0.2 v0.1) fun y0 => Option.bind (F_chain_states_r0 y0) some) = some r) ∧
   (Ob ((↑(List.length l) : Int) = (↑(List.length l) : Int)) ∧
   (Ob ((0 : Int) = v0.1.1) ∧
   (Ob (List.length v0.1.2 = (0 : Nat)) ∧
   (Ob (l = l) ∧
   True)))))) ∧
   (∀ (v0 : (Int × List (List Int)) × Nat), ((Option.bind (iter (F_chain_states_b0 l) v0.2 v0.1) fun y0 => Option.bind (F_chain_states_r0 y0) some) = some r →
   Br (decide (v0.1.1 < (↑(List.length l) : Int)))
   ((Ob ((0 : Int) ≤ v0.1.1 ∧ v0.1.1 < (↑(List.length l) : Int)) ∧
   (Ob (Int.toNat v0.1.1 < List.length l) ∧
   (Ob ((List.length v0.1.2 + List.length [[List.getD (List.getD l (Int.toNat v0.1.1) []) (5 : Nat) (0 : Int), List.getD (List.getD l (Int.toNat v0.1.1) []) (6 : Nat) (0 : Int), List.getD (List.getD l (Int.toNat v0.1.1) []) (7 : Nat) (0 : Int), List.getD (List.getD l (Int.toNat v0.1.1) []) (8 : Nat) (0 : Int)]]) * (32 : Nat) ≤ (140737488355328 : Nat) ∧ List.length v0.1.2 + List.length [[List.getD (List.getD l (Int.toNat v0.1.1) []) (5 : Nat) (0 : Int), List.getD (List.getD l (Int.toNat v0.1.1) []) (6 : Nat) (0 : Int), List.getD (List.getD l (Int.toNat v0.1.1) []) (7 : Nat) (0 : Int), List.getD (List.getD l (Int.toNat v0.1.1) []) (8 : Nat) (0 : Int)]] ≤ (9223372036854775807 : Nat)) ∧
   (∃ (v1 : (Int × List (List Int)) × Nat), (Ob ((Option.bind (iter (F_chain_states_b0 l) v1.2 v1.1) fun y0 => Option.bind (F_chain_states_r0 y0) some) = some r) ∧
   (Ob (v1.2 < v0.2) ∧
   (Ob ((↑(List.length l) : Int) = (↑(List.length l) : Int)) ∧
   (Ob (IntKind.wrap IntKind.i64 (v0.1.1 + (1 : Int)) = v1.1.1) ∧
   (Ob (v0.1.2 ++ [[List.getD (List.getD l (Int.toNat v0.1.1) []) (5 : Nat) (0 : Int), List.getD (List.getD l (Int.toNat v0.1.1) []) (6 : Nat) (0 : Int), List.getD (List.getD l (Int.toNat v0.1.1) []) (7 : Nat) (0 : Int), List.getD (List.getD l (Int.toNat v0.1.1) []) (8 : Nat) (0 : Int)]] = v1.1.2) ∧
   (Ob (l = l) ∧
   True)))))))))))
   ((Ob (True) ∧
   (Ob (v0.1.2 = r) ∧
   True))))))) = _) ?_
  refine ⟨⟨(((0 : Int), []), big), ⟨loop_s h⟩, (by repeat' (first | exact trivial | exact ⟨rfl⟩ | refine And.intro ?_ ?_))⟩, fun z0 hz0 => ?_⟩
  obtain ⟨k0, hm0, h⟩ := iter_pos hz0
  refine br_d h (fun h => ?_) (fun h => ?_)
  · refine ob_s h fun h => ?_
    refine ob_s h fun h => ?_
    refine ob_s h fun h => ?_
    exact ⟨((IntKind.wrap IntKind.i64 ((Prod.fst z0).1 + (1 : Int)), (Prod.fst z0).2 ++ [[List.getD (List.getD l (Int.toNat (Prod.fst z0).1) []) (5 : Nat) (0 : Int), List.getD (List.getD l (Int.toNat (Prod.fst z0).1) []) (6 : Nat) (0 : Int), List.getD (List.getD l (Int.toNat (Prod.fst z0).1) []) (7 : Nat) (0 : Int), List.getD (List.getD l (Int.toNat (Prod.fst z0).1) []) (8 : Nat) (0 : Int)]]), k0), ⟨next_s h⟩, ⟨lt_gs hm0.symm⟩, (by repeat' (first | exact trivial | exact ⟨rfl⟩ | refine And.intro ?_ ?_))⟩
  · have h := exit_s h
    refine ob_t ?_
    exact ret_s h (fun e => by subst e; exact (by repeat' (first | exact trivial | exact ⟨rfl⟩ | refine And.intro ?_ ?_)))
set_option maxRecDepth 100000 in
theorem F_chain_states_ok : SpecOK Try.prog 117 true (pureK k_F_chain_states g_F_chain_states) := by
  refine pureK_ok (sp := sp0) (fn := Try.f117) (body := bodyOf Try.f117) mixed sp0_ok Try.func117 (by kernel_rfl) (by kernel_rfl) fun as_ ob rs h ho => ?_
  unfold g_F_chain_states at h
  split at h
  · rename_i l
    cases h
    exact ⟨Nat.le_of_ble_eq_true rfl, _, _, F_chain_states_vc l _ (ok_some ho)⟩
  · cases h
theorem sp_117_ok {sp : Specs} (h : SpecsOK Try.prog sp) : SpecsOK Try.prog (sp_117 sp) := addK_ok F_chain_states_ok h

def k_F_RunAll : List (Option Cont) := [some (.recs 5 []), some (.floats .f32 [])]
def F_RunAll_b0 (l : List Nat) (x0 : (Int × List (List Int) × List Nat)) : Option ((Int × List (List Int) × List Nat) ⊕ (List (List Int) × List Nat)) :=
  if x0.1 < (↑(List.length l) : Int) then
   if (0 : Int) ≤ x0.1 ∧ x0.1 < (↑(List.length l) : Int) then
   if Int.toNat x0.1 < List.length l then
   if f2iOk FloatKind.f32 IntKind.i64 (List.getD l (Int.toNat x0.1) (0 : Nat)) = true then
   if List.length x0.2.1 ≤ (1000000 : Nat) ∧ (∀ (u : List Int), u ∈ x0.2.1 → Sx06.okU u) ∧ (-32767 : Int) ≤ f2i FloatKind.f32 (List.getD l (Int.toNat x0.1) (0 : Nat)) ∧ f2i FloatKind.f32 (List.getD l (Int.toNat x0.1) (0 : Nat)) ≤ (32767 : Int) then
   if (List.length x0.2.2 + List.length [FloatKind.nearest FloatKind.f32 (Sx06.outUs x0.2.1 (f2i FloatKind.f32 (List.getD l (Int.toNat x0.1) (0 : Nat))))]) * (4 : Nat) ≤ (140737488355328 : Nat) ∧ List.length x0.2.2 + List.length [FloatKind.nearest FloatKind.f32 (Sx06.outUs x0.2.1 (f2i FloatKind.f32 (List.getD l (Int.toNat x0.1) (0 : Nat))))] ≤ (9223372036854775807 : Nat) then
   some (.inl ((IntKind.wrap IntKind.i64 (x0.1 + (1 : Int)), Sx06.putUs x0.2.1 (f2i FloatKind.f32 (List.getD l (Int.toNat x0.1) (0 : Nat))), x0.2.2 ++ [FloatKind.nearest FloatKind.f32 (Sx06.outUs x0.2.1 (f2i FloatKind.f32 (List.getD l (Int.toNat x0.1) (0 : Nat))))])))
   else none
   else none
   else none
   else none
   else none
  else
   some (.inr (x0.2.1, x0.2.2))
def F_RunAll_r0 (y0_0 : List (List Int) × List Nat) : Option (List Nat × Int × Int) :=
  Option.bind (F_chain_cuts y0_0.1) fun r1 =>
  some ((y0_0.2, r1, (0 : Int)))
/-- shoebox/filter.RunAll -/
def F_RunAll (c : List (List Int)) (l : List Nat) : Option (List Nat × Int × Int) :=
  if List.length c ≤ (1000000000 : Nat) then
   if (0 : Int) ≤ Option.getD none (0 : Int) ∧ Option.getD none (0 : Int) ≤ Option.getD (some (if (1024 : Int) < (↑(List.length l) : Int) then (1024 : Int) else (↑(List.length l) : Int))) (↑(List.length l) : Int) ∧ Option.getD (some (if (1024 : Int) < (↑(List.length l) : Int) then (1024 : Int) else (↑(List.length l) : Int))) (↑(List.length l) : Int) ≤ (↑(List.length l) : Int) then
   Option.bind (F_samplesErr (List.take (Int.toNat (Option.getD (some (if (1024 : Int) < (↑(List.length l) : Int) then (1024 : Int) else (↑(List.length l) : Int))) (↑(List.length l) : Int)) - (0 : Nat)) (List.drop (0 : Nat) l))) fun r0 =>
   if List.length [Sx06.chkE c, if decide ((↑(List.length l) : Int) ≤ (1024 : Int)) = true then (0 : Int) else (8 : Int), r0] ≤ (1000000 : Nat) then
   if (Option.getD (List.find? (fun x => x != (0 : Int)) [Sx06.chkE c, if decide ((↑(List.length l) : Int) ≤ (1024 : Int)) = true then (0 : Int) else (8 : Int), r0]) (0 : Int) != (0 : Int)) = true then
   some (([], (0 : Int), Option.getD (List.find? (fun x => x != (0 : Int)) [Sx06.chkE c, if decide ((↑(List.length l) : Int) ≤ (1024 : Int)) = true then (0 : Int) else (8 : Int), r0]) (0 : Int)))
   else
   if (0 : Int) ≤ (↑(List.length c) : Int) ∧ (↑(List.length c) : Int) = (↑(List.length c) : Int) ∧ (↑(32 : Nat) : Int) * (↑(List.length c) : Int) ≤ (281474976710656 : Int) ∧ (↑(List.length c) : Int) ≤ (9223372036854775807 : Int) then
   if List.length c ≤ List.length (List.replicate (Int.toNat (↑(List.length c) : Int)) [(0 : Int), (0 : Int), (0 : Int), (0 : Int)]) ∧ List.length c ≤ (1000000 : Nat) then
   Option.bind (iter (F_RunAll_b0 l) big (((0 : Int), Sx06.mkUs c (List.replicate (Int.toNat (↑(List.length c) : Int)) [(0 : Int), (0 : Int), (0 : Int), (0 : Int)]) (List.length c), []))) (F_RunAll_r0)
   else none
   else none
   else none
   else none
  else none
def g_F_RunAll : List A → Option (Prop × List RV)
  | [.r (.recs 5 c), .r (.floats .f32 l)] => some (ok (F_RunAll c l), [.row 96 (.floats .f32 ((val (F_RunAll c l)).1)), .d (.i .i64 ((val (F_RunAll c l)).2.1)), .d (.i .i64 ((val (F_RunAll c l)).2.2))])
  | _ => none
abbrev sp_52 : Specs → Specs := addK 52 true (pureK k_F_RunAll g_F_RunAll)
set_option maxRecDepth 100000 in
theorem F_RunAll_vc (c : List (List Int)) (l : List Nat) (r : List Nat × Int × Int) (h : Option.bind (F_RunAll c l) some = some r) : runF Try.f52 ((sp_86 (sp_87 (sp_107 (sp_85 (sp_108 (sp_109 (sp_110 sp0)))))))) (fun gs id _ => match id with
 | 0 => some ⟨(Int × List (List Int) × List Nat) × Nat, fun z => ⟨[(8, .w (.c (.o 2))), (9, .w (.c (.o 3))), (34, .w (.c (.o 1))), (35, .w (.c (.d (.i .i64 ((↑(List.length l) : Int)))))), (36, .w (.c (.d (.i .i64 (Prod.fst (Prod.fst z))))))], [(2, .row 158 (.recs 10 (Prod.fst (Prod.snd (Prod.fst z))))), (3, .row 96 (.floats .f32 (Prod.snd (Prod.snd (Prod.fst z))))), (1, .ext (.floats .f32 l))], 4⟩, fun z => Option.bind (iter (F_RunAll_b0 l) (Prod.snd z) (Prod.fst z)) (fun y0 => Option.bind (F_RunAll_r0 y0) some) = some r, fun z => Prod.snd z⟩
 | _ => none) [.r (.recs 5 c), .r (.floats .f32 l)] [.row 96 (.floats .f32 r.1), .d (.i .i64 r.2.1), .d (.i .i64 r.2.2)] := by
  refine Eq.mp (by kernel_rfl : (
  (Ob (List.length c ≤ (1000000000 : Nat)) ∧
   (Ob (True) ∧
   (Ob ((0 : Int) ≤ Option.getD none (0 : Int) ∧ Option.getD none (0 : Int) ≤ Option.getD (some (if (1024 : Int) < (↑(List.length l) : Int) then (1024 : Int) else (↑(List.length l) : Int))) (↑(List.length l) : Int) ∧ Option.getD (some (if (1024 : Int) < (↑(List.length l) : Int) then (1024 : Int) else (↑(List.length l) : Int))) (↑(List.length l) : Int) ≤ (↑(List.length l) : Int)) ∧
   (Ob (ok (F_samplesErr (List.take (Int.toNat (Option.getD (some (if (1024 : Int) < (↑(List.length l) : Int) then (1024 : Int) else (↑(List.length l) : Int))) (↑(List.length l) : Int)) - (0 : Nat)) (List.drop (0 : Nat) l)))) ∧
   (Ob (List.length [Sx06.chkE c, if decide ((↑(List.length l) : Int) ≤ (1024 : Int)) = true then (0 : Int) else (8 : Int), val (F_samplesErr (List.take (Int.toNat (Option.getD (some (if (1024 : Int) < (↑(List.length l) : Int) then (1024 : Int) else (↑(List.length l) : Int))) (↑(List.length l) : Int)) - (0 : Nat)) (List.drop (0 : Nat) l)))] ≤ (1000000 : Nat)) ∧
   Br (Option.getD (List.find? (fun x => x != (0 : Int)) [Sx06.chkE c, if decide ((↑(List.length l) : Int) ≤ (1024 : Int)) = true then (0 : Int) else (8 : Int), val (F_samplesErr (List.take (Int.toNat (Option.getD (some (if (1024 : Int) < (↑(List.length l) : Int) then (1024 : Int) else (↑(List.length l) : Int))) (↑(List.length l) : Int)) - (0 : Nat)) (List.drop (0 : Nat) l)))]) (0 : Int) != (0 : Int))
   ((Ob (True) ∧
   (Ob (True) ∧
   (Ob (True) ∧
   (Ob (List.length r.1 = (0 : Nat)) ∧
   (Ob ((0 : Int) = r.2.1) ∧
   (Ob (Option.getD (List.find? (fun x => x != (0 : Int)) [Sx06.chkE c, if decide ((↑(List.length l) : Int) ≤ (1024 : Int)) = true then (0 : Int) else (8 : Int), val (F_samplesErr (List.take (Int.toNat (Option.getD (some (if (1024 : Int) < (↑(List.length l) : Int) then (1024 : Int) else (↑(List.length l) : Int))) (↑(List.length l) : Int)) - (0 : Nat)) (List.drop (0 : Nat) l)))]) (0 : Int) = r.2.2) ∧
   True)))))))
   ((Ob ((0 : Int) ≤ (↑(List.length c) : Int) ∧ (↑(List.length c) : Int) = (↑(List.length c) : Int) ∧ (↑(32 : Nat) : Int) * (↑(List.length c) : Int) ≤ (281474976710656 : Int) ∧ (↑(List.length c) : Int) ≤ (9223372036854775807 : Int)) ∧
   (Ob (List.length c ≤ List.length (List.replicate (Int.toNat (↑(List.length c) : Int)) [(0 : Int), (0 : Int), (0 : Int), (0 : Int)]) ∧ List.length c ≤ (1000000 : Nat)) ∧
   ((∃ (v0 : (Int × List (List Int) × List Nat) × Nat), (Ob ((Option.bind (iter (F_RunAll_b0 l) v0.2 v0.1) fun y0 => Option.bind (F_RunAll_r0 y0) some) = some r) ∧
   (Ob ((↑(List.length l) : Int) = (↑(List.length l) : Int)) ∧
   (Ob ((0 : Int) = v0.1.1) ∧
   (Ob (Sx06.mkUs c (List.replicate (Int.toNat (↑(List.length c) : Int)) [(0 : Int), (0 : Int), (0 : Int), (0 : Int)]) (List.length c) = v0.1.2.1) ∧
   (Ob (List.length v0.1.2.2 = (0 : Nat)) ∧
   (Ob (l = l) ∧
   True))))))) ∧
   (∀ (v0 : (Int × List (List Int) × List Nat) × Nat), ((Option.bind (iter (F_RunAll_b0 l) v0.2 v0.1) fun y0 => Option.bind (F_RunAll_r0 y0) some) = some r →
   Br (decide (v0.1.1 < (↑(List.length l) : Int)))
   ((Ob ((0 : Int) ≤ v0.1.1 ∧ v0.1.1 < (↑(List.length l) : Int)) ∧
   (Ob (Int.toNat v0.1.1 < List.length l) ∧
   (Ob (f2iOk FloatKind.f32 IntKind.i64 (List.getD l (Int.toNat v0.1.1) (0 : Nat)) = true) ∧
   (Ob (List.length v0.1.2.1 ≤ (1000000 : Nat) ∧ (∀ (u : List Int), u ∈ v0.1.2.1 → Sx06.okU u) ∧ (-32767 : Int) ≤ f2i FloatKind.f32 (List.getD l (Int.toNat v0.1.1) (0 : Nat)) ∧ f2i FloatKind.f32 (List.getD l (Int.toNat v0.1.1) (0 : Nat)) ≤ (32767 : Int)) ∧
   (Ob (True) ∧
   (Ob ((List.length v0.1.2.2 + List.length [FloatKind.nearest FloatKind.f32 (Sx06.outUs v0.1.2.1 (f2i FloatKind.f32 (List.getD l (Int.toNat v0.1.1) (0 : Nat))))]) * (4 : Nat) ≤ (140737488355328 : Nat) ∧ List.length v0.1.2.2 + List.length [FloatKind.nearest FloatKind.f32 (Sx06.outUs v0.1.2.1 (f2i FloatKind.f32 (List.getD l (Int.toNat v0.1.1) (0 : Nat))))] ≤ (9223372036854775807 : Nat)) ∧
   (∃ (v1 : (Int × List (List Int) × List Nat) × Nat), (Ob ((Option.bind (iter (F_RunAll_b0 l) v1.2 v1.1) fun y0 => Option.bind (F_RunAll_r0 y0) some) = some r) ∧
   (Ob (v1.2 < v0.2) ∧
   (Ob ((↑(List.length l) : Int) = (↑(List.length l) : Int)) ∧
   (Ob (IntKind.wrap IntKind.i64 (v0.1.1 + (1 : Int)) = v1.1.1) ∧
   (Ob (Sx06.putUs v0.1.2.1 (f2i FloatKind.f32 (List.getD l (Int.toNat v0.1.1) (0 : Nat))) = v1.1.2.1) ∧
   (Ob (v0.1.2.2 ++ [FloatKind.nearest FloatKind.f32 (Sx06.outUs v0.1.2.1 (f2i FloatKind.f32 (List.getD l (Int.toNat v0.1.1) (0 : Nat))))] = v1.1.2.2) ∧
   (Ob (l = l) ∧
   True)))))))))))))))
   ((Ob (ok (F_chain_cuts v0.1.2.1)) ∧
   (Ob (True) ∧
   (Ob (True) ∧
   (Ob (True) ∧
   (Ob (v0.1.2.2 = r.1) ∧
   (Ob (val (F_chain_cuts v0.1.2.1) = r.2.1) ∧
   (Ob ((0 : Int) = r.2.2) ∧
   True)))))))))))))))))))) = _) ?_
  refine ob_s h fun h => ?_
  refine ob_t ?_
  refine ob_s h fun h => ?_
  refine call_s h fun h => ?_
  refine ob_s h fun h => ?_
  refine br_b h (fun h => ?_) (fun h => ?_)
  · refine ob_t ?_
    refine ob_t ?_
    refine ob_t ?_
    exact ret_s h (fun e => by subst e; exact (by repeat' (first | exact trivial | exact ⟨rfl⟩ | refine And.intro ?_ ?_)))
  · refine ob_s h fun h => ?_
    refine ob_s h fun h => ?_
    refine ⟨⟨(((0 : Int), Sx06.mkUs c (List.replicate (Int.toNat (↑(List.length c) : Int)) [(0 : Int), (0 : Int), (0 : Int), (0 : Int)]) (List.length c), []), big), ⟨loop_s h⟩, (by repeat' (first | exact trivial | exact ⟨rfl⟩ | refine And.intro ?_ ?_))⟩, fun z2 hz2 => ?_⟩
    obtain ⟨k2, hm2, h⟩ := iter_pos hz2
    refine br_d h (fun h => ?_) (fun h => ?_)
    · refine ob_s h fun h => ?_
      refine ob_s h fun h => ?_
      refine ob_s h fun h => ?_
      refine ob_s h fun h => ?_
      refine ob_t ?_
      refine ob_s h fun h => ?_
      exact ⟨((IntKind.wrap IntKind.i64 ((Prod.fst z2).1 + (1 : Int)), Sx06.putUs (Prod.fst z2).2.1 (f2i FloatKind.f32 (List.getD l (Int.toNat (Prod.fst z2).1) (0 : Nat))), (Prod.fst z2).2.2 ++ [FloatKind.nearest FloatKind.f32 (Sx06.outUs (Prod.fst z2).2.1 (f2i FloatKind.f32 (List.getD l (Int.toNat (Prod.fst z2).1) (0 : Nat))))]), k2), ⟨next_s h⟩, ⟨lt_gs hm2.symm⟩, (by repeat' (first | exact trivial | exact ⟨rfl⟩ | refine And.intro ?_ ?_))⟩
    · have h := exit_s h
      refine call_s h fun h => ?_
      refine ob_t ?_
      refine ob_t ?_
      refine ob_t ?_
      exact ret_s h (fun e => by subst e; exact (by repeat' (first | exact trivial | exact ⟨rfl⟩ | refine And.intro ?_ ?_)))
set_option maxRecDepth 100000 in
theorem F_RunAll_ok : SpecOK Try.prog 52 true (pureK k_F_RunAll g_F_RunAll) := by
  refine pureK_ok (sp := (sp_86 (sp_87 (sp_107 (sp_85 (sp_108 (sp_109 (sp_110 sp0)))))))) (fn := Try.f52) (body := bodyOf Try.f52) mixed (sp_86_ok (sp_87_ok (sp_107_ok (sp_85_ok (sp_108_ok (sp_109_ok (sp_110_ok sp0_ok))))))) Try.func52 (by kernel_rfl) (by kernel_rfl) fun as_ ob rs h ho => ?_
  unfold g_F_RunAll at h
  split at h
  · rename_i c l
    cases h
    exact ⟨Nat.le_of_ble_eq_true rfl, _, _, F_RunAll_vc c l _ (ok_some ho)⟩
  · cases h
theorem sp_52_ok {sp : Specs} (h : SpecsOK Try.prog sp) : SpecsOK Try.prog (sp_52 sp) := addK_ok F_RunAll_ok h

def k_F_Run : List SV := [.c (.r (.recs 5 [])), .b .f32 32, .c (.r (.recs 4 []))]
def F_Run_b0 (b : List Nat) (x0 : (Int × List (List Int) × List Nat)) : Option ((Int × List (List Int) × List Nat) ⊕ (List (List Int) × List Nat)) :=
  if x0.1 < (32 : Int) then
   if (0 : Int) ≤ x0.1 ∧ x0.1 < (↑(32 : Nat) : Int) then
   if f2iOk FloatKind.f32 IntKind.i64 (List.getD b (Int.toNat x0.1) (0 : Nat)) = true then
   if List.length x0.2.1 ≤ (1000000 : Nat) ∧ (∀ (u : List Int), u ∈ x0.2.1 → Sx06.okU u) ∧ (-32767 : Int) ≤ f2i FloatKind.f32 (List.getD b (Int.toNat x0.1) (0 : Nat)) ∧ f2i FloatKind.f32 (List.getD b (Int.toNat x0.1) (0 : Nat)) ≤ (32767 : Int) then
   if (0 : Int) ≤ x0.1 ∧ x0.1 < (↑(32 : Nat) : Int) then
   if (0 : Nat) + ((0 : Nat) + Int.toNat x0.1 * (1 : Nat)) < (32 : Nat) then
   some (.inl ((IntKind.wrap IntKind.i64 (x0.1 + (1 : Int)), Sx06.putUs x0.2.1 (f2i FloatKind.f32 (List.getD b (Int.toNat x0.1) (0 : Nat))), setF (32 : Nat) x0.2.2 ((0 : Nat) + ((0 : Nat) + Int.toNat x0.1 * (1 : Nat))) (FloatKind.nearest FloatKind.f32 (Sx06.outUs x0.2.1 (f2i FloatKind.f32 (List.getD b (Int.toNat x0.1) (0 : Nat))))))))
   else none
   else none
   else none
   else none
   else none
  else
   some (.inr (x0.2.1, x0.2.2))
def F_Run_r0 (y0_0 : List (List Int) × List Nat) : Option (List Nat × List (List Int) × Int × Int) :=
  Option.bind (F_chain_states y0_0.1) fun r2 =>
  Option.bind (F_chain_cuts y0_0.1) fun r3 =>
  some ((y0_0.2, r2, r3, (0 : Int)))
/-- shoebox/filter.Run -/
def F_Run (c : List (List Int)) (b : List Nat) (s : List (List Int)) : Option (List Nat × List (List Int) × Int × Int) :=
  if List.length c ≤ (1000000000 : Nat) then
   if List.length b = (32 : Nat) ∧ (0 : Int) ≤ Option.getD none (0 : Int) ∧ Option.getD none (0 : Int) ≤ Option.getD none (↑(32 : Nat) : Int) ∧ Option.getD none (↑(32 : Nat) : Int) ≤ (↑(32 : Nat) : Int) then
   Option.bind (F_samplesErr (List.take (32 : Nat) (List.drop (0 : Nat) b))) fun r0 =>
   if List.length [Sx06.chkE c, r0] ≤ (1000000 : Nat) then
   if (Option.getD (List.find? (fun x => x != (0 : Int)) [Sx06.chkE c, r0]) (0 : Int) == (0 : Int)) = true then
   Option.bind (F_CheckState c s) fun r1 =>
   if (r1.2 != (0 : Int)) = true then
   some (([(0 : Nat), (0 : Nat), (0 : Nat), (0 : Nat), (0 : Nat), (0 : Nat), (0 : Nat), (0 : Nat), (0 : Nat), (0 : Nat), (0 : Nat), (0 : Nat), (0 : Nat), (0 : Nat), (0 : Nat), (0 : Nat), (0 : Nat), (0 : Nat), (0 : Nat), (0 : Nat), (0 : Nat), (0 : Nat), (0 : Nat), (0 : Nat), (0 : Nat), (0 : Nat), (0 : Nat), (0 : Nat), (0 : Nat), (0 : Nat), (0 : Nat), (0 : Nat)], [], (0 : Int), r1.2))
   else
   if List.length c ≤ List.length s ∧ List.length c ≤ (1000000 : Nat) then
   Option.bind (iter (F_Run_b0 b) big (((0 : Int), Sx06.mkUs c s (List.length c), [(0 : Nat), (0 : Nat), (0 : Nat), (0 : Nat), (0 : Nat), (0 : Nat), (0 : Nat), (0 : Nat), (0 : Nat), (0 : Nat), (0 : Nat), (0 : Nat), (0 : Nat), (0 : Nat), (0 : Nat), (0 : Nat), (0 : Nat), (0 : Nat), (0 : Nat), (0 : Nat), (0 : Nat), (0 : Nat), (0 : Nat), (0 : Nat), (0 : Nat), (0 : Nat), (0 : Nat), (0 : Nat), (0 : Nat), (0 : Nat), (0 : Nat), (0 : Nat)]))) (F_Run_r0)
   else none
   else
   if (Option.getD (List.find? (fun x => x != (0 : Int)) [Sx06.chkE c, r0]) (0 : Int) != (0 : Int)) = true then
   some (([(0 : Nat), (0 : Nat), (0 : Nat), (0 : Nat), (0 : Nat), (0 : Nat), (0 : Nat), (0 : Nat), (0 : Nat), (0 : Nat), (0 : Nat), (0 : Nat), (0 : Nat), (0 : Nat), (0 : Nat), (0 : Nat), (0 : Nat), (0 : Nat), (0 : Nat), (0 : Nat), (0 : Nat), (0 : Nat), (0 : Nat), (0 : Nat), (0 : Nat), (0 : Nat), (0 : Nat), (0 : Nat), (0 : Nat), (0 : Nat), (0 : Nat), (0 : Nat)], [], (0 : Int), Option.getD (List.find? (fun x => x != (0 : Int)) [Sx06.chkE c, r0]) (0 : Int)))
   else
   none /- decided -/
   else none
   else none
  else none
def g_F_Run : List Lf → Option GT
  | [.r (.recs 5 c), .b .f32 32 b, .r (.recs 4 s)] => some (.leaf (ok (F_Run c b s)) [.b .f32 32 ((val (F_Run c b s)).1), .c (.row 60 (.recs 4 ((val (F_Run c b s)).2.1))), .c (.d (.i .i64 ((val (F_Run c b s)).2.2.1))), .c (.d (.i .i64 ((val (F_Run c b s)).2.2.2)))])
  | _ => none
abbrev sp_68 : Specs → Specs := addK 68 true (pureT k_F_Run g_F_Run)
set_option maxRecDepth 100000 in
theorem F_Run_vc (c : List (List Int)) (b : List Nat) (s : List (List Int)) (r : List Nat × List (List Int) × Int × Int) (h : Option.bind (F_Run c b s) some = some r) : runT Try.f68 ((sp_86 (sp_107 (sp_85 (sp_71 (sp_108 (sp_109 (sp_117 (sp_110 sp0))))))))) (fun gs id _ => match id with
 | 0 => some ⟨(Int × List (List Int) × List Nat) × Nat, fun z => ⟨[(6, .w (.c (.p 2 (0 : Nat) 1 (0 : Nat)))), (11, .w (.c (.o 3))), (12, .w (.c (.p 4 (0 : Nat) 1 (0 : Nat)))), (36, .w (.b .f32 32 b)), (37, .w (.c (.d (.i .i64 (Prod.fst (Prod.fst z))))))], [(2, .arr 122 .f32 32 ([(0 : Nat), (0 : Nat), (0 : Nat), (0 : Nat), (0 : Nat), (0 : Nat), (0 : Nat), (0 : Nat), (0 : Nat), (0 : Nat), (0 : Nat), (0 : Nat), (0 : Nat), (0 : Nat), (0 : Nat), (0 : Nat), (0 : Nat), (0 : Nat), (0 : Nat), (0 : Nat), (0 : Nat), (0 : Nat), (0 : Nat), (0 : Nat), (0 : Nat), (0 : Nat), (0 : Nat), (0 : Nat), (0 : Nat), (0 : Nat), (0 : Nat), (0 : Nat)])), (3, .row 158 (.recs 10 (Prod.fst (Prod.snd (Prod.fst z))))), (4, .arr 122 .f32 32 (Prod.snd (Prod.snd (Prod.fst z))))], 5⟩, fun z => Option.bind (iter (F_Run_b0 b) (Prod.snd z) (Prod.fst z)) (fun y0 => Option.bind (F_Run_r0 y0) some) = some r, fun z => Prod.snd z⟩
 | _ => none) (bldD k_F_Run [.r (.recs 5 c), .b .f32 32 b, .r (.recs 4 s)]) [.b .f32 32 r.1, .c (.row 60 (.recs 4 r.2.1)), .c (.d (.i .i64 r.2.2.1)), .c (.d (.i .i64 r.2.2.2))] := by
  refine Eq.mp (by kernel_rfl : (
  (Ob (List.length c ≤ (1000000000 : Nat)) ∧
   (Ob (List.length b = (32 : Nat) ∧ (0 : Int) ≤ Option.getD none (0 : Int) ∧ Option.getD none (0 : Int) ≤ Option.getD none (↑(32 : Nat) : Int) ∧ Option.getD none (↑(32 : Nat) : Int) ≤ (↑(32 : Nat) : Int)) ∧
   (Ob (ok (F_samplesErr (List.take (32 : Nat) (List.drop (0 : Nat) b)))) ∧
   (Ob (List.length [Sx06.chkE c, val (F_samplesErr (List.take (32 : Nat) (List.drop (0 : Nat) b)))] ≤ (1000000 : Nat)) ∧
   Br (Option.getD (List.find? (fun x => x != (0 : Int)) [Sx06.chkE c, val (F_samplesErr (List.take (32 : Nat) (List.drop (0 : Nat) b)))]) (0 : Int) == (0 : Int))
   ((Ob (ok (F_CheckState c s)) ∧
   Br ((val (F_CheckState c s)).2 != (0 : Int))
   ((Ob (True) ∧
   (Ob (True) ∧
   (Ob (True) ∧
   (Ob (True) ∧
   (Ob (True) ∧
   (Ob (r.1 = [(0 : Nat), (0 : Nat), (0 : Nat), (0 : Nat), (0 : Nat), (0 : Nat), (0 : Nat), (0 : Nat), (0 : Nat), (0 : Nat), (0 : Nat), (0 : Nat), (0 : Nat), (0 : Nat), (0 : Nat), (0 : Nat), (0 : Nat), (0 : Nat), (0 : Nat), (0 : Nat), (0 : Nat), (0 : Nat), (0 : Nat), (0 : Nat), (0 : Nat), (0 : Nat), (0 : Nat), (0 : Nat), (0 : Nat), (0 : Nat), (0 : Nat), (0 : Nat)]) ∧
   (Ob (List.length r.2.1 = (0 : Nat)) ∧
   (Ob ((0 : Int) = r.2.2.1) ∧
   (Ob ((val (F_CheckState c s)).2 = r.2.2.2) ∧
   True))))))))))
   ((Ob (List.length c ≤ List.length s ∧ List.length c ≤ (1000000 : Nat)) ∧
   (Ob (True) ∧
   ((∃ (v0 : (Int × List (List Int) × List Nat) × Nat), (Ob ((Option.bind (iter (F_Run_b0 b) v0.2 v0.1) fun y0 => Option.bind (F_Run_r0 y0) some) = some r) ∧
   (Ob ((0 : Nat) = (0 : Nat)) ∧
   (Ob ((0 : Nat) = (0 : Nat)) ∧
   (Ob (b = b) ∧
   (Ob ((0 : Int) = v0.1.1) ∧
   (Ob ([(0 : Nat), (0 : Nat), (0 : Nat), (0 : Nat), (0 : Nat), (0 : Nat), (0 : Nat), (0 : Nat), (0 : Nat), (0 : Nat), (0 : Nat), (0 : Nat), (0 : Nat), (0 : Nat), (0 : Nat), (0 : Nat), (0 : Nat), (0 : Nat), (0 : Nat), (0 : Nat), (0 : Nat), (0 : Nat), (0 : Nat), (0 : Nat), (0 : Nat), (0 : Nat), (0 : Nat), (0 : Nat), (0 : Nat), (0 : Nat), (0 : Nat), (0 : Nat)] = [(0 : Nat), (0 : Nat), (0 : Nat), (0 : Nat), (0 : Nat), (0 : Nat), (0 : Nat), (0 : Nat), (0 : Nat), (0 : Nat), (0 : Nat), (0 : Nat), (0 : Nat), (0 : Nat), (0 : Nat), (0 : Nat), (0 : Nat), (0 : Nat), (0 : Nat), (0 : Nat), (0 : Nat), (0 : Nat), (0 : Nat), (0 : Nat), (0 : Nat), (0 : Nat), (0 : Nat), (0 : Nat), (0 : Nat), (0 : Nat), (0 : Nat), (0 : Nat)]) ∧
   (Ob (Sx06.mkUs c s (List.length c) = v0.1.2.1) ∧
   (Ob ([(0 : Nat), (0 : Nat), (0 : Nat), (0 : Nat), (0 : Nat), (0 : Nat), (0 : Nat), (0 : Nat), (0 : Nat), (0 : Nat), (0 : Nat), (0 : Nat), (0 : Nat), (0 : Nat), (0 : Nat), (0 : Nat), (0 : Nat), (0 : Nat), (0 : Nat), (0 : Nat), (0 : Nat), (0 : Nat), (0 : Nat), (0 : Nat), (0 : Nat), (0 : Nat), (0 : Nat), (0 : Nat), (0 : Nat), (0 : Nat), (0 : Nat), (0 : Nat)] = v0.1.2.2) ∧
   True))))))))) ∧
   (∀ (v0 : (Int × List (List Int) × List Nat) × Nat), ((Option.bind (iter (F_Run_b0 b) v0.2 v0.1) fun y0 => Option.bind (F_Run_r0 y0) some) = some r →
   Br (decide (v0.1.1 < (32 : Int)))
   ((Ob ((0 : Int) ≤ v0.1.1 ∧ v0.1.1 < (↑(32 : Nat) : Int)) ∧
   (Ob (f2iOk FloatKind.f32 IntKind.i64 (List.getD b (Int.toNat v0.1.1) (0 : Nat)) = true) ∧
   (Ob (List.length v0.1.2.1 ≤ (1000000 : Nat) ∧ (∀ (u : List Int), u ∈ v0.1.2.1 → Sx06.okU u) ∧ (-32767 : Int) ≤ f2i FloatKind.f32 (List.getD b (Int.toNat v0.1.1) (0 : Nat)) ∧ f2i FloatKind.f32 (List.getD b (Int.toNat v0.1.1) (0 : Nat)) ≤ (32767 : Int)) ∧
   (Ob (True) ∧
   (Ob ((0 : Int) ≤ v0.1.1 ∧ v0.1.1 < (↑(32 : Nat) : Int)) ∧
   (Ob ((0 : Nat) + ((0 : Nat) + Int.toNat v0.1.1 * (1 : Nat)) < (32 : Nat)) ∧
   (∃ (v1 : (Int × List (List Int) × List Nat) × Nat), (Ob ((Option.bind (iter (F_Run_b0 b) v1.2 v1.1) fun y0 => Option.bind (F_Run_r0 y0) some) = some r) ∧
   (Ob (v1.2 < v0.2) ∧
   (Ob ((0 : Nat) = (0 : Nat)) ∧
   (Ob ((0 : Nat) = (0 : Nat)) ∧
   (Ob (b = b) ∧
   (Ob (IntKind.wrap IntKind.i64 (v0.1.1 + (1 : Int)) = v1.1.1) ∧
   (Ob ([(0 : Nat), (0 : Nat), (0 : Nat), (0 : Nat), (0 : Nat), (0 : Nat), (0 : Nat), (0 : Nat), (0 : Nat), (0 : Nat), (0 : Nat), (0 : Nat), (0 : Nat), (0 : Nat), (0 : Nat), (0 : Nat), (0 : Nat), (0 : Nat), (0 : Nat), (0 : Nat), (0 : Nat), (0 : Nat), (0 : Nat), (0 : Nat), (0 : Nat), (0 : Nat), (0 : Nat), (0 : Nat), (0 : Nat), (0 : Nat), (0 : Nat), (0 : Nat)] = [(0 : Nat), (0 : Nat), (0 : Nat), (0 : Nat), (0 : Nat), (0 : Nat), (0 : Nat), (0 : Nat), (0 : Nat), (0 : Nat), (0 : Nat), (0 : Nat), (0 : Nat), (0 : Nat), (0 : Nat), (0 : Nat), (0 : Nat), (0 : Nat), (0 : Nat), (0 : Nat), (0 : Nat), (0 : Nat), (0 : Nat), (0 : Nat), (0 : Nat), (0 : Nat), (0 : Nat), (0 : Nat), (0 : Nat), (0 : Nat), (0 : Nat), (0 : Nat)]) ∧
   (Ob (Sx06.putUs v0.1.2.1 (f2i FloatKind.f32 (List.getD b (Int.toNat v0.1.1) (0 : Nat))) = v1.1.2.1) ∧
   (Ob (setF (32 : Nat) v0.1.2.2 ((0 : Nat) + ((0 : Nat) + Int.toNat v0.1.1 * (1 : Nat))) (FloatKind.nearest FloatKind.f32 (Sx06.outUs v0.1.2.1 (f2i FloatKind.f32 (List.getD b (Int.toNat v0.1.1) (0 : Nat))))) = v1.1.2.2) ∧
   True)))))))))))))))))
   ((Ob (True) ∧
   (Ob (ok (F_chain_states v0.1.2.1)) ∧
   (Ob (ok (F_chain_cuts v0.1.2.1)) ∧
   (Ob (True) ∧
   (Ob (True) ∧
   (Ob (True) ∧
   (Ob (True) ∧
   (Ob (True) ∧
   (Ob (r.1 = v0.1.2.2) ∧
   (Ob (val (F_chain_states v0.1.2.1) = r.2.1) ∧
   (Ob (val (F_chain_cuts v0.1.2.1) = r.2.2.1) ∧
   (Ob ((0 : Int) = r.2.2.2) ∧
   True)))))))))))))))))))))
   (Br (Option.getD (List.find? (fun x => x != (0 : Int)) [Sx06.chkE c, val (F_samplesErr (List.take (32 : Nat) (List.drop (0 : Nat) b)))]) (0 : Int) != (0 : Int))
   ((Ob (True) ∧
   (Ob (True) ∧
   (Ob (True) ∧
   (Ob (True) ∧
   (Ob (True) ∧
   (Ob (r.1 = [(0 : Nat), (0 : Nat), (0 : Nat), (0 : Nat), (0 : Nat), (0 : Nat), (0 : Nat), (0 : Nat), (0 : Nat), (0 : Nat), (0 : Nat), (0 : Nat), (0 : Nat), (0 : Nat), (0 : Nat), (0 : Nat), (0 : Nat), (0 : Nat), (0 : Nat), (0 : Nat), (0 : Nat), (0 : Nat), (0 : Nat), (0 : Nat), (0 : Nat), (0 : Nat), (0 : Nat), (0 : Nat), (0 : Nat), (0 : Nat), (0 : Nat), (0 : Nat)]) ∧
   (Ob (List.length r.2.1 = (0 : Nat)) ∧
   (Ob ((0 : Int) = r.2.2.1) ∧
   (Ob (Option.getD (List.find? (fun x => x != (0 : Int)) [Sx06.chkE c, val (F_samplesErr (List.take (32 : Nat) (List.drop (0 : Nat) b)))]) (0 : Int) = r.2.2.2) ∧
   True))))))))))
   ((Ob (List.length c ≤ List.length s ∧ List.length c ≤ (1000000 : Nat)) ∧
   (Ob (True) ∧
   ((∃ (v0 : (Int × List (List Int) × List Nat) × Nat), (Ob ((Option.bind (iter (F_Run_b0 b) v0.2 v0.1) fun y0 => Option.bind (F_Run_r0 y0) some) = some r) ∧
   (Ob ((0 : Nat) = (0 : Nat)) ∧
   (Ob ((0 : Nat) = (0 : Nat)) ∧
   (Ob (b = b) ∧
   (Ob ((0 : Int) = v0.1.1) ∧
   (Ob ([(0 : Nat), (0 : Nat), (0 : Nat), (0 : Nat), (0 : Nat), (0 : Nat), (0 : Nat), (0 : Nat), (0 : Nat), (0 : Nat), (0 : Nat), (0 : Nat), (0 : Nat), (0 : Nat), (0 : Nat), (0 : Nat), (0 : Nat), (0 : Nat), (0 : Nat), (0 : Nat), (0 : Nat), (0 : Nat), (0 : Nat), (0 : Nat), (0 : Nat), (0 : Nat), (0 : Nat), (0 : Nat), (0 : Nat), (0 : Nat), (0 : Nat), (0 : Nat)] = [(0 : Nat), (0 : Nat), (0 : Nat), (0 : Nat), (0 : Nat), (0 : Nat), (0 : Nat), (0 : Nat), (0 : Nat), (0 : Nat), (0 : Nat), (0 : Nat), (0 : Nat), (0 : Nat), (0 : Nat), (0 : Nat), (0 : Nat), (0 : Nat), (0 : Nat), (0 : Nat), (0 : Nat), (0 : Nat), (0 : Nat), (0 : Nat), (0 : Nat), (0 : Nat), (0 : Nat), (0 : Nat), (0 : Nat), (0 : Nat), (0 : Nat), (0 : Nat)]) ∧
   (Ob (Sx06.mkUs c s (List.length c) = v0.1.2.1) ∧
   (Ob ([(0 : Nat), (0 : Nat), (0 : Nat), (0 : Nat), (0 : Nat), (0 : Nat), (0 : Nat), (0 : Nat), (0 : Nat), (0 : Nat), (0 : Nat), (0 : Nat), (0 : Nat), (0 : Nat), (0 : Nat), (0 : Nat), (0 : Nat), (0 : Nat), (0 : Nat), (0 : Nat), (0 : Nat), (0 : Nat), (0 : Nat), (0 : Nat), (0 : Nat), (0 : Nat), (0 : Nat), (0 : Nat), (0 : Nat), (0 : Nat), (0 : Nat), (0 : Nat)] = v0.1.2.2) ∧
   True))))))))) ∧
   (∀ (v0 : (Int × List (List Int) × List Nat) × Nat), ((Option.bind (iter (F_Run_b0 b) v0.2 v0.1) fun y0 => Option.bind (F_Run_r0 y0) some) = some r →
   Br (decide (v0.1.1 < (32 : Int)))
   ((Ob ((0 : Int) ≤ v0.1.1 ∧ v0.1.1 < (↑(32 : Nat) : Int)) ∧
   (Ob (f2iOk FloatKind.f32 IntKind.i64 (List.getD b (Int.toNat v0.1.1) (0 : Nat)) = true) ∧
   (Ob (List.length v0.1.2.1 ≤ (1000000 : Nat) ∧ (∀ (u : List Int), u ∈ v0.1.2.1 → Sx06.okU u) ∧ (-32767 : Int) ≤ f2i FloatKind.f32 (List.getD b (Int.toNat v0.1.1) (0 : Nat)) ∧ f2i FloatKind.f32 (List.getD b (Int.toNat v0.1.1) (0 : Nat)) ≤ (32767 : Int)) ∧
   (Ob (True) ∧
   (Ob ((0 : Int) ≤ v0.1.1 ∧ v0.1.1 < (↑(32 : Nat) : Int)) ∧
   (Ob ((0 : Nat) + ((0 : Nat) + Int.toNat v0.1.1 * (1 : Nat)) < (32 : Nat)) ∧
   (∃ (v1 : (Int × List (List Int) × List Nat) × Nat), (Ob ((Option.bind (iter (F_Run_b0 b) v1.2 v1.1) fun y0 => Option.bind (F_Run_r0 y0) some) = some r) ∧
   (Ob (v1.2 < v0.2) ∧
   (Ob ((0 : Nat) = (0 : Nat)) ∧
   (Ob ((0 : Nat) = (0 : Nat)) ∧
   (Ob (b = b) ∧
   (Ob (IntKind.wrap IntKind.i64 (v0.1.1 + (1 : Int)) = v1.1.1) ∧
   (Ob ([(0 : Nat), (0 : Nat), (0 : Nat), (0 : Nat), (0 : Nat), (0 : Nat), (0 : Nat), (0 : Nat), (0 : Nat), (0 : Nat), (0 : Nat), (0 : Nat), (0 : Nat), (0 : Nat), (0 : Nat), (0 : Nat), (0 : Nat), (0 : Nat), (0 : Nat), (0 : Nat), (0 : Nat), (0 : Nat), (0 : Nat), (0 : Nat), (0 : Nat), (0 : Nat), (0 : Nat), (0 : Nat), (0 : Nat), (0 : Nat), (0 : Nat), (0 : Nat)] = [(0 : Nat), (0 : Nat), (0 : Nat), (0 : Nat), (0 : Nat), (0 : Nat), (0 : Nat), (0 : Nat), (0 : Nat), (0 : Nat), (0 : Nat), (0 : Nat), (0 : Nat), (0 : Nat), (0 : Nat), (0 : Nat), (0 : Nat), (0 : Nat), (0 : Nat), (0 : Nat), (0 : Nat), (0 : Nat), (0 : Nat), (0 : Nat), (0 : Nat), (0 : Nat), (0 : Nat), (0 : Nat), (0 : Nat), (0 : Nat), (0 : Nat), (0 : Nat)]) ∧
   (Ob (Sx06.putUs v0.1.2.1 (f2i FloatKind.f32 (List.getD b (Int.toNat v0.1.1) (0 : Nat))) = v1.1.2.1) ∧
   (Ob (setF (32 : Nat) v0.1.2.2 ((0 : Nat) + ((0 : Nat) + Int.toNat v0.1.1 * (1 : Nat))) (FloatKind.nearest FloatKind.f32 (Sx06.outUs v0.1.2.1 (f2i FloatKind.f32 (List.getD b (Int.toNat v0.1.1) (0 : Nat))))) = v1.1.2.2) ∧
   True)))))))))))))))))
   ((Ob (True) ∧
   (Ob (ok (F_chain_states v0.1.2.1)) ∧
   (Ob (ok (F_chain_cuts v0.1.2.1)) ∧
   (Ob (True) ∧
   (Ob (True) ∧
   (Ob (True) ∧
   (Ob (True) ∧
   (Ob (True) ∧
   (Ob (r.1 = v0.1.2.2) ∧
   (Ob (val (F_chain_states v0.1.2.1) = r.2.1) ∧
   (Ob (val (F_chain_cuts v0.1.2.1) = r.2.2.1) ∧
   (Ob ((0 : Int) = r.2.2.2) ∧
   True))))))))))))))))))))))))) = _) ?_
  refine ob_s h fun h => ?_
  refine ob_s h fun h => ?_
  refine call_s h fun h => ?_
  refine ob_s h fun h => ?_
  refine br_b h (fun h => ?_) (fun h => ?_)
  · refine call_s h fun h => ?_
    refine br_b h (fun h => ?_) (fun h => ?_)
    · refine ob_t ?_
      refine ob_t ?_
      refine ob_t ?_
      refine ob_t ?_
      refine ob_t ?_
      exact ret_s h (fun e => by subst e; exact (by repeat' (first | exact trivial | exact ⟨rfl⟩ | refine And.intro ?_ ?_)))
    · refine ob_s h fun h => ?_
      refine ob_t ?_
      refine ⟨⟨(((0 : Int), Sx06.mkUs c s (List.length c), [(0 : Nat), (0 : Nat), (0 : Nat), (0 : Nat), (0 : Nat), (0 : Nat), (0 : Nat), (0 : Nat), (0 : Nat), (0 : Nat), (0 : Nat), (0 : Nat), (0 : Nat), (0 : Nat), (0 : Nat), (0 : Nat), (0 : Nat), (0 : Nat), (0 : Nat), (0 : Nat), (0 : Nat), (0 : Nat), (0 : Nat), (0 : Nat), (0 : Nat), (0 : Nat), (0 : Nat), (0 : Nat), (0 : Nat), (0 : Nat), (0 : Nat), (0 : Nat)]), big), ⟨loop_s h⟩, (by repeat' (first | exact trivial | exact ⟨rfl⟩ | refine And.intro ?_ ?_))⟩, fun z4 hz4 => ?_⟩
      obtain ⟨k4, hm4, h⟩ := iter_pos hz4
      refine br_d h (fun h => ?_) (fun h => ?_)
      · refine ob_s h fun h => ?_
        refine ob_s h fun h => ?_
        refine ob_s h fun h => ?_
        refine ob_t ?_
        refine ob_s h fun h => ?_
        refine ob_s h fun h => ?_
        exact ⟨((IntKind.wrap IntKind.i64 ((Prod.fst z4).1 + (1 : Int)), Sx06.putUs (Prod.fst z4).2.1 (f2i FloatKind.f32 (List.getD b (Int.toNat (Prod.fst z4).1) (0 : Nat))), setF (32 : Nat) (Prod.fst z4).2.2 ((0 : Nat) + ((0 : Nat) + Int.toNat (Prod.fst z4).1 * (1 : Nat))) (FloatKind.nearest FloatKind.f32 (Sx06.outUs (Prod.fst z4).2.1 (f2i FloatKind.f32 (List.getD b (Int.toNat (Prod.fst z4).1) (0 : Nat)))))), k4), ⟨next_s h⟩, ⟨lt_gs hm4.symm⟩, (by repeat' (first | exact trivial | exact ⟨rfl⟩ | refine And.intro ?_ ?_))⟩
      · have h := exit_s h
        refine ob_t ?_
        refine call_s h fun h => ?_
        refine call_s h fun h => ?_
        refine ob_t ?_
        refine ob_t ?_
        refine ob_t ?_
        refine ob_t ?_
        refine ob_t ?_
        exact ret_s h (fun e => by subst e; exact (by repeat' (first | exact trivial | exact ⟨rfl⟩ | refine And.intro ?_ ?_)))
  · refine br_b h (fun h => ?_) (fun h => ?_)
    · refine ob_t ?_
      refine ob_t ?_
      refine ob_t ?_
      refine ob_t ?_
      refine ob_t ?_
      exact ret_s h (fun e => by subst e; exact (by repeat' (first | exact trivial | exact ⟨rfl⟩ | refine And.intro ?_ ?_)))
    · exact nomatch h
set_option maxRecDepth 100000 in
theorem F_Run_ok : SpecOK Try.prog 68 true (pureT k_F_Run g_F_Run) := by
  refine pureT_ok (sp := (sp_86 (sp_107 (sp_85 (sp_71 (sp_108 (sp_109 (sp_117 (sp_110 sp0))))))))) (fn := Try.f68) (body := bodyOf Try.f68) mixed (sp_86_ok (sp_107_ok (sp_85_ok (sp_71_ok (sp_108_ok (sp_109_ok (sp_117_ok (sp_110_ok sp0_ok)))))))) Try.func68 (by kernel_rfl) (by kernel_rfl) fun ls t h ho b hb => ?_
  unfold g_F_Run at h
  split at h
  · rename_i c b s
    cases h
    obtain rfl := bld_eq hb
    exact ⟨Nat.le_of_ble_eq_true (by kernel_rfl), _, _, F_Run_vc c b s _ (ok_some ho)⟩
  · cases h
theorem sp_68_ok {sp : Specs} (h : SpecsOK Try.prog sp) : SpecsOK Try.prog (sp_68 sp) := addK_ok F_Run_ok h

def k_L06_FilterBlocks : List (Option Cont) := [some (.recs 5 []), some (.recs 5 []), some (.ints .i64 [])]
def L06_FilterBlocks_b0 (x0 : (List Nat)) : Option ((List Nat) ⊕ (List Nat)) :=
  if (Int.tmod (↑(List.length x0) : Int) (32 : Int) != (0 : Int)) = true then
   if (List.length x0 + List.length [(0 : Nat)]) * (4 : Nat) ≤ (140737488355328 : Nat) ∧ List.length x0 + List.length [(0 : Nat)] ≤ (9223372036854775807 : Nat) then
   some (.inl (x0 ++ [(0 : Nat)]))
   else none
  else
   some (.inr x0)
def L06_FilterBlocks_b1 (b : List (List Int)) (y0_0 : List Nat) (r0 : List (List Int)) (r5 : List (List Int)) (r6 : List Nat × Int × Int) (x1 : (Int × Int × List (List Int))) : Option ((Int × Int × List (List Int)) ⊕ (Unit ⊕ Int)) :=
  if IntKind.wrap IntKind.i64 (x1.2.1 + (32 : Int)) ≤ (↑(List.length y0_0) : Int) then
   Option.bind (R06_Copy (r0 ++ b)) fun r14 =>
   if (0 : Int) ≤ Option.getD (some x1.2.1) (0 : Int) ∧ Option.getD (some x1.2.1) (0 : Int) ≤ Option.getD (some (IntKind.wrap IntKind.i64 (x1.2.1 + (32 : Int)))) (↑(List.length y0_0) : Int) ∧ Option.getD (some (IntKind.wrap IntKind.i64 (x1.2.1 + (32 : Int)))) (↑(List.length y0_0) : Int) ≤ (↑(List.length y0_0) : Int) then
   if (32 : Nat) ≤ List.length (List.take (Int.toNat (Option.getD (some (IntKind.wrap IntKind.i64 (x1.2.1 + (32 : Int)))) (↑(List.length y0_0) : Int)) - Int.toNat (Option.getD (some x1.2.1) (0 : Int))) (List.drop (Int.toNat (Option.getD (some x1.2.1) (0 : Int))) y0_0)) ∧ (0 : Nat) < List.length (List.take (Int.toNat (Option.getD (some (IntKind.wrap IntKind.i64 (x1.2.1 + (32 : Int)))) (↑(List.length y0_0) : Int)) - Int.toNat (Option.getD (some x1.2.1) (0 : Int))) (List.drop (Int.toNat (Option.getD (some x1.2.1) (0 : Int))) y0_0)) then
   if (32 : Nat) ≤ List.length (List.take (Int.toNat (Option.getD (some (IntKind.wrap IntKind.i64 (x1.2.1 + (32 : Int)))) (↑(List.length y0_0) : Int)) - Int.toNat (Option.getD (some x1.2.1) (0 : Int))) (List.drop (Int.toNat (Option.getD (some x1.2.1) (0 : Int))) y0_0)) then
   Option.bind (F_Run r5 (List.take (32 : Nat) (List.drop (0 : Nat) (List.take (Int.toNat (Option.getD (some (IntKind.wrap IntKind.i64 (x1.2.1 + (32 : Int)))) (↑(List.length y0_0) : Int)) - Int.toNat (Option.getD (some x1.2.1) (0 : Int))) (List.drop (Int.toNat (Option.getD (some x1.2.1) (0 : Int))) y0_0)))) x1.2.2) fun r15 =>
   if (r15.2.2.2 != (0 : Int)) = true then
   some (.inr ((.inl ())))
   else
   if List.length r15.1 = (32 : Nat) ∧ (0 : Int) ≤ Option.getD none (0 : Int) ∧ Option.getD none (0 : Int) ≤ Option.getD none (↑(32 : Nat) : Int) ∧ Option.getD none (↑(32 : Nat) : Int) ≤ (↑(32 : Nat) : Int) then
   if (0 : Int) ≤ Option.getD (some x1.2.1) (0 : Int) ∧ Option.getD (some x1.2.1) (0 : Int) ≤ Option.getD (some (IntKind.wrap IntKind.i64 (x1.2.1 + (32 : Int)))) (↑(List.length r6.1) : Int) ∧ Option.getD (some (IntKind.wrap IntKind.i64 (x1.2.1 + (32 : Int)))) (↑(List.length r6.1) : Int) ≤ (↑(List.length r6.1) : Int) then
   Option.bind (B_SameFloats (List.take (32 : Nat) (List.drop (0 : Nat) r15.1)) (List.take (Int.toNat (Option.getD (some (IntKind.wrap IntKind.i64 (x1.2.1 + (32 : Int)))) (↑(List.length r6.1) : Int)) - Int.toNat (Option.getD (some x1.2.1) (0 : Int))) (List.drop (Int.toNat (Option.getD (some x1.2.1) (0 : Int))) r6.1))) fun r16 =>
   if (!r16) = true then
   some (.inr ((.inl ())))
   else
   some (.inl ((IntKind.wrap IntKind.i64 (x1.1 + r15.2.2.1), IntKind.wrap IntKind.i64 (x1.2.1 + (32 : Int)), r15.2.1)))
   else none
   else none
   else none
   else none
   else none
  else
   some (.inr (.inr x1.1))
def L06_FilterBlocks_r1_0 (r6 : List Nat × Int × Int) (y1_0 : Unit) : Option Bool :=
  some false
def L06_FilterBlocks_r1_1 (r6 : List Nat × Int × Int) (y1_1 : Int) : Option Bool :=
  some (y1_1 == r6.2.1)
def L06_FilterBlocks_r1 (r6 : List Nat × Int × Int) : (Unit ⊕ Int) → Option Bool :=
  (Sum.elim (L06_FilterBlocks_r1_0 r6) (L06_FilterBlocks_r1_1 r6))
def L06_FilterBlocks_r0 (a : List (List Int)) (b : List (List Int)) (r0 : List (List Int)) (y0_0 : List Nat) : Option Bool :=
  Option.bind (R06_Copy (r0 ++ b)) fun r5 =>
  if ((0 : Nat) + List.length y0_0) * (4 : Nat) ≤ (140737488355328 : Nat) ∧ (0 : Nat) + List.length y0_0 ≤ (9223372036854775807 : Nat) then
   Option.bind (F_RunAll r5 ([] ++ y0_0)) fun r6 =>
   Option.bind (R06_Copy a) fun r7 =>
   if ((0 : Nat) + List.length y0_0) * (4 : Nat) ≤ (140737488355328 : Nat) ∧ (0 : Nat) + List.length y0_0 ≤ (9223372036854775807 : Nat) then
   Option.bind (F_RunAll r0 ([] ++ y0_0)) fun r8 =>
   if (r6.2.2 != (0 : Int)) = true then
   some false
   else
   if (r8.2.2 != (0 : Int)) = true then
   some false
   else
   if ((↑(List.length r6.1) : Int) != (↑(List.length y0_0) : Int)) = true then
   some false
   else
   if ((↑(List.length r8.1) : Int) != (↑(List.length y0_0) : Int)) = true then
   some false
   else
   Option.bind (R06_Copy b) fun r9 =>
   if ((0 : Nat) + List.length r8.1) * (4 : Nat) ≤ (140737488355328 : Nat) ∧ (0 : Nat) + List.length r8.1 ≤ (9223372036854775807 : Nat) then
   Option.bind (F_RunAll r9 ([] ++ r8.1)) fun r10 =>
   if (r10.2.2 != (0 : Int)) = true then
   some false
   else
   Option.bind (B_SameFloats r10.1 r6.1) fun r11 =>
   if (!r11) = true then
   some false
   else
   if (r6.2.1 != IntKind.wrap IntKind.i64 (r8.2.1 + r10.2.1)) = true then
   some false
   else
   Option.bind (R06_Copy (r0 ++ b)) fun r12 =>
   Option.bind (F_NewState r5) fun r13 =>
   if (r13.2 != (0 : Int)) = true then
   some false
   else
   Option.bind (iter (L06_FilterBlocks_b1 b y0_0 r0 r5 r6) big (((0 : Int), (0 : Int), r13.1))) (L06_FilterBlocks_r1 r6)
   else none
   else none
  else none
/-- shoebox/shoeboxlaw06.FilterBlocks -/
def L06_FilterBlocks (a : List (List Int)) (b : List (List Int)) (l : List Int) : Option Bool :=
  if (↑(List.length a) : Int) > (3 : Int) then
   some true
  else
   if (↑(List.length b) : Int) > (3 : Int) then
   some true
   else
   if (↑(List.length l) : Int) > (96 : Int) then
   some true
   else
   Option.bind (R06_Copy a) fun r0 =>
   if (List.length r0 + List.length b) * (40 : Nat) ≤ (140737488355328 : Nat) ∧ List.length r0 + List.length b ≤ (9223372036854775807 : Nat) then
   Option.bind (R06_CheckCascade (r0 ++ b)) fun r1 =>
   if (r1.2 != (0 : Int)) = true then
   some true
   else
   Option.bind (L06_raw l) fun r2 =>
   Option.bind (R06_SamplesErr r2) fun r3 =>
   if (r3 != (0 : Int)) = true then
   some true
   else
   Option.bind (L06_raw l) fun r4 =>
   Option.bind (iter (L06_FilterBlocks_b0) big r2) (L06_FilterBlocks_r0 a b r0)
   else none
def g_L06_FilterBlocks : List A → Option (Prop × List RV)
  | [.r (.recs 5 a), .r (.recs 5 b), .r (.ints .i64 l)] => some (ok (L06_FilterBlocks a b l), [.d (.b ((val (L06_FilterBlocks a b l))))])
  | _ => none
abbrev sp_14 : Specs → Specs := addK 14 true (pureK k_L06_FilterBlocks g_L06_FilterBlocks)
set_option maxRecDepth 100000 in
theorem L06_FilterBlocks_vc (a : List (List Int)) (b : List (List Int)) (l : List Int) (r : Bool) (h : Option.bind (L06_FilterBlocks a b l) some = some r) : runF Try.f14 ((sp_18 (sp_30 (sp_61 (sp_59 (sp_52 (sp_70 (sp_27 (sp_68 (sp_65 sp0)))))))))) (fun gs id _ => match id with
 | 0 => some ⟨List Nat × Nat, fun z => ⟨[(0, .w (.c (.o 0))), (1, .w (.c (.o 1))), (7, .w (.c (.o 3))), (10, .w (.c (.o 4)))], [(0, .ext (.recs 5 a)), (1, .ext (.recs 5 b)), (3, .row 36 (.recs 5 (val (R06_Copy a) ++ b))), (4, .row 96 (.floats .f32 (Prod.fst z)))], 5⟩, fun z => Option.bind (iter (L06_FilterBlocks_b0) (Prod.snd z) (Prod.fst z)) (fun y0 => Option.bind (L06_FilterBlocks_r0 a b (val (R06_Copy a)) y0) some) = some r, fun z => Prod.snd z⟩
 | 2 => some ⟨List Nat × (Int × Int × List (List Int)) × Nat, fun z => ⟨[(7, .w (.c (.o 3))), (10, .w (.c (.o 4))), (11, .w (.c (.o 5))), (12, .w (.c (.d (.i .i64 ((val (F_RunAll (val (R06_Copy (val (R06_Copy a) ++ b))) ([] ++ Prod.fst z))).2.1))))), (20, .w (.c (.o 6))), (22, .w (.c (.d (.i .i64 (Prod.fst (Prod.fst (Prod.snd z))))))), (23, .w (.c (.d (.i .i64 (Prod.fst (Prod.snd (Prod.fst (Prod.snd z))))))))], [(3, .row 36 (.recs 5 (val (R06_Copy a) ++ b))), (4, .row 96 (.floats .f32 (Prod.fst z))), (5, .row 96 (.floats .f32 ((val (F_RunAll (val (R06_Copy (val (R06_Copy a) ++ b))) ([] ++ Prod.fst z))).1))), (6, .row 60 (.recs 4 (Prod.snd (Prod.snd (Prod.fst (Prod.snd z))))))], 7⟩, fun z => Option.bind (iter (L06_FilterBlocks_b1 b (Prod.fst z) (val (R06_Copy a)) (val (R06_Copy (val (R06_Copy a) ++ b))) (val (F_RunAll (val (R06_Copy (val (R06_Copy a) ++ b))) ([] ++ Prod.fst z)))) (Prod.snd (Prod.snd z)) (Prod.fst (Prod.snd z))) (fun y0 => Option.bind (L06_FilterBlocks_r1 (val (F_RunAll (val (R06_Copy (val (R06_Copy a) ++ b))) ([] ++ Prod.fst z))) y0) some) = some r, fun z => Prod.snd (Prod.snd z)⟩
 | _ => none) [.r (.recs 5 a), .r (.recs 5 b), .r (.ints .i64 l)] [.d (.b r)] := by
  refine Eq.mp (by kernel_rfl : (
  (Ob (ok L06_awake) ∧
   Br (decide ((↑(List.length a) : Int) > (3 : Int)))
   ((Ob (True) ∧
   (Ob (true = r) ∧
   True)))
   (Br (decide ((↑(List.length b) : Int) > (3 : Int)))
   ((Ob (True) ∧
   (Ob (true = r) ∧
   True)))
   (Br (decide ((↑(List.length l) : Int) > (96 : Int)))
   ((Ob (True) ∧
   (Ob (true = r) ∧
   True)))
   ((Ob (ok (R06_Copy a)) ∧
   (Ob ((List.length (val (R06_Copy a)) + List.length b) * (40 : Nat) ≤ (140737488355328 : Nat) ∧ List.length (val (R06_Copy a)) + List.length b ≤ (9223372036854775807 : Nat)) ∧
   (Ob (ok (R06_CheckCascade (val (R06_Copy a) ++ b))) ∧
   Br ((val (R06_CheckCascade (val (R06_Copy a) ++ b))).2 != (0 : Int))
   ((Ob (True) ∧
   (Ob (true = r) ∧
   True)))
   ((Ob (ok (L06_raw l)) ∧
   (Ob (ok (R06_SamplesErr (val (L06_raw l)))) ∧
   Br (val (R06_SamplesErr (val (L06_raw l))) != (0 : Int))
   ((Ob (True) ∧
   (Ob (true = r) ∧
   True)))
   ((Ob (ok (L06_raw l)) ∧
   ((∃ (v0 : List Nat × Nat), (Ob ((Option.bind (iter L06_FilterBlocks_b0 v0.2 v0.1) fun y0 => Option.bind (L06_FilterBlocks_r0 a b (val (R06_Copy a)) y0) some) = some r) ∧
   (Ob (a = a) ∧
   (Ob (b = b) ∧
   (Ob (val (R06_Copy a) ++ b = val (R06_Copy a) ++ b) ∧
   (Ob (val (L06_raw l) = v0.1) ∧
   True)))))) ∧
   (∀ (v0 : List Nat × Nat), ((Option.bind (iter L06_FilterBlocks_b0 v0.2 v0.1) fun y0 => Option.bind (L06_FilterBlocks_r0 a b (val (R06_Copy a)) y0) some) = some r →
   (Ob ((32 : Int) ≠ (0 : Int)) ∧
   Br (Int.tmod (↑(List.length v0.1) : Int) (32 : Int) != (0 : Int))
   ((Ob ((List.length v0.1 + List.length [(0 : Nat)]) * (4 : Nat) ≤ (140737488355328 : Nat) ∧ List.length v0.1 + List.length [(0 : Nat)] ≤ (9223372036854775807 : Nat)) ∧
   (∃ (v1 : List Nat × Nat), (Ob ((Option.bind (iter L06_FilterBlocks_b0 v1.2 v1.1) fun y0 => Option.bind (L06_FilterBlocks_r0 a b (val (R06_Copy a)) y0) some) = some r) ∧
   (Ob (v1.2 < v0.2) ∧
   (Ob (a = a) ∧
   (Ob (b = b) ∧
   (Ob (val (R06_Copy a) ++ b = val (R06_Copy a) ++ b) ∧
   (Ob (v0.1 ++ [(0 : Nat)] = v1.1) ∧
   True)))))))))
   ((Ob (ok (R06_Copy (val (R06_Copy a) ++ b))) ∧
   (Ob (((0 : Nat) + List.length v0.1) * (4 : Nat) ≤ (140737488355328 : Nat) ∧ (0 : Nat) + List.length v0.1 ≤ (9223372036854775807 : Nat)) ∧
   (Ob (ok (F_RunAll (val (R06_Copy (val (R06_Copy a) ++ b))) ([] ++ v0.1))) ∧
   (Ob (ok (R06_Copy a)) ∧
   (Ob (((0 : Nat) + List.length v0.1) * (4 : Nat) ≤ (140737488355328 : Nat) ∧ (0 : Nat) + List.length v0.1 ≤ (9223372036854775807 : Nat)) ∧
   (Ob (ok (F_RunAll (val (R06_Copy a)) ([] ++ v0.1))) ∧
   Br ((val (F_RunAll (val (R06_Copy (val (R06_Copy a) ++ b))) ([] ++ v0.1))).2.2 != (0 : Int))
   ((Ob (True) ∧
   (Ob (false = r) ∧
   True)))
   (Br ((val (F_RunAll (val (R06_Copy a)) ([] ++ v0.1))).2.2 != (0 : Int))
   ((Ob (True) ∧
   (Ob (false = r) ∧
   True)))
   (Br ((↑(List.length (val (F_RunAll (val (R06_Copy (val (R06_Copy a) ++ b))) ([] ++ v0.1))).1) : Int) != (↑(List.length v0.1) : Int))
   ((Ob (True) ∧
   (Ob (false = r) ∧
   True)))
   (Br ((↑(List.length (val (F_RunAll (val (R06_Copy a)) ([] ++ v0.1))).1) : Int) != (↑(List.length v0.1) : Int))
   ((Ob (True) ∧
   (Ob (false = r) ∧
   True)))
   ((Ob (ok (R06_Copy b)) ∧
   (Ob (((0 : Nat) + List.length (val (F_RunAll (val (R06_Copy a)) ([] ++ v0.1))).1) * (4 : Nat) ≤ (140737488355328 : Nat) ∧ (0 : Nat) + List.length (val (F_RunAll (val (R06_Copy a)) ([] ++ v0.1))).1 ≤ (9223372036854775807 : Nat)) ∧
   (Ob (ok (F_RunAll (val (R06_Copy b)) ([] ++ (val (F_RunAll (val (R06_Copy a)) ([] ++ v0.1))).1))) ∧
   Br ((val (F_RunAll (val (R06_Copy b)) ([] ++ (val (F_RunAll (val (R06_Copy a)) ([] ++ v0.1))).1))).2.2 != (0 : Int))
   ((Ob (True) ∧
   (Ob (false = r) ∧
   True)))
   ((Ob (ok (B_SameFloats (val (F_RunAll (val (R06_Copy b)) ([] ++ (val (F_RunAll (val (R06_Copy a)) ([] ++ v0.1))).1))).1 (val (F_RunAll (val (R06_Copy (val (R06_Copy a) ++ b))) ([] ++ v0.1))).1)) ∧
   Br (!val (B_SameFloats (val (F_RunAll (val (R06_Copy b)) ([] ++ (val (F_RunAll (val (R06_Copy a)) ([] ++ v0.1))).1))).1 (val (F_RunAll (val (R06_Copy (val (R06_Copy a) ++ b))) ([] ++ v0.1))).1))
   ((Ob (True) ∧
   (Ob (false = r) ∧
   True)))
   (Br ((val (F_RunAll (val (R06_Copy (val (R06_Copy a) ++ b))) ([] ++ v0.1))).2.1 != IntKind.wrap IntKind.i64 ((val (F_RunAll (val (R06_Copy a)) ([] ++ v0.1))).2.1 + (val (F_RunAll (val (R06_Copy b)) ([] ++ (val (F_RunAll (val (R06_Copy a)) ([] ++ v0.1))).1))).2.1))
   ((Ob (True) ∧
   (Ob (false = r) ∧
   True)))
   ((Ob (ok (R06_Copy (val (R06_Copy a) ++ b))) ∧
   (Ob (ok (F_NewState (val (R06_Copy (val (R06_Copy a) ++ b))))) ∧
   Br ((val (F_NewState (val (R06_Copy (val (R06_Copy a) ++ b))))).2 != (0 : Int))
   ((Ob (True) ∧
   (Ob (false = r) ∧
   True)))
   (((∃ (v1 : List Nat × (Int × Int × List (List Int)) × Nat), (Ob ((Option.bind (iter (L06_FilterBlocks_b1 b v1.1 (val (R06_Copy a)) (val (R06_Copy (val (R06_Copy a) ++ b))) (val (F_RunAll (val (R06_Copy (val (R06_Copy a) ++ b))) ([] ++ v1.1)))) v1.2.2 v1.2.1) fun y0 => Option.bind (L06_FilterBlocks_r1 (val (F_RunAll (val (R06_Copy (val (R06_Copy a) ++ b))) ([] ++ v1.1))) y0) some) = some r) ∧
   (Ob ((val (F_RunAll (val (R06_Copy (val (R06_Copy a) ++ b))) ([] ++ v0.1))).2.1 = (val (F_RunAll (val (R06_Copy (val (R06_Copy a) ++ b))) ([] ++ v1.1))).2.1) ∧
   (Ob ((0 : Int) = v1.2.1.1) ∧
   (Ob ((0 : Int) = v1.2.1.2.1) ∧
   (Ob (val (R06_Copy a) ++ b = val (R06_Copy a) ++ b) ∧
   (Ob (v0.1 = v1.1) ∧
   (Ob ((val (F_RunAll (val (R06_Copy (val (R06_Copy a) ++ b))) ([] ++ v0.1))).1 = (val (F_RunAll (val (R06_Copy (val (R06_Copy a) ++ b))) ([] ++ v1.1))).1) ∧
   (Ob ((val (F_NewState (val (R06_Copy (val (R06_Copy a) ++ b))))).1 = v1.2.1.2.2) ∧
   True))))))))) ∧
   (∀ (v1 : List Nat × (Int × Int × List (List Int)) × Nat), ((Option.bind (iter (L06_FilterBlocks_b1 b v1.1 (val (R06_Copy a)) (val (R06_Copy (val (R06_Copy a) ++ b))) (val (F_RunAll (val (R06_Copy (val (R06_Copy a) ++ b))) ([] ++ v1.1)))) v1.2.2 v1.2.1) fun y0 => Option.bind (L06_FilterBlocks_r1 (val (F_RunAll (val (R06_Copy (val (R06_Copy a) ++ b))) ([] ++ v1.1))) y0) some) = some r →
   Br (decide (IntKind.wrap IntKind.i64 (v1.2.1.2.1 + (32 : Int)) ≤ (↑(List.length v1.1) : Int)))
   ((Ob (ok (R06_Copy (val (R06_Copy a) ++ b))) ∧
   (Ob ((0 : Int) ≤ Option.getD (some v1.2.1.2.1) (0 : Int) ∧ Option.getD (some v1.2.1.2.1) (0 : Int) ≤ Option.getD (some (IntKind.wrap IntKind.i64 (v1.2.1.2.1 + (32 : Int)))) (↑(List.length v1.1) : Int) ∧ Option.getD (some (IntKind.wrap IntKind.i64 (v1.2.1.2.1 + (32 : Int)))) (↑(List.length v1.1) : Int) ≤ (↑(List.length v1.1) : Int)) ∧
   (Ob ((32 : Nat) ≤ List.length (List.take (Int.toNat (Option.getD (some (IntKind.wrap IntKind.i64 (v1.2.1.2.1 + (32 : Int)))) (↑(List.length v1.1) : Int)) - Int.toNat (Option.getD (some v1.2.1.2.1) (0 : Int))) (List.drop (Int.toNat (Option.getD (some v1.2.1.2.1) (0 : Int))) v1.1)) ∧ (0 : Nat) < List.length (List.take (Int.toNat (Option.getD (some (IntKind.wrap IntKind.i64 (v1.2.1.2.1 + (32 : Int)))) (↑(List.length v1.1) : Int)) - Int.toNat (Option.getD (some v1.2.1.2.1) (0 : Int))) (List.drop (Int.toNat (Option.getD (some v1.2.1.2.1) (0 : Int))) v1.1))) ∧
   (Ob ((32 : Nat) ≤ List.length (List.take (Int.toNat (Option.getD (some (IntKind.wrap IntKind.i64 (v1.2.1.2.1 + (32 : Int)))) (↑(List.length v1.1) : Int)) - Int.toNat (Option.getD (some v1.2.1.2.1) (0 : Int))) (List.drop (Int.toNat (Option.getD (some v1.2.1.2.1) (0 : Int))) v1.1))) ∧
   (Ob (ok (F_Run (val (R06_Copy (val (R06_Copy a) ++ b))) (List.take (32 : Nat) (List.drop (0 : Nat) (List.take (Int.toNat (Option.getD (some (IntKind.wrap IntKind.i64 (v1.2.1.2.1 + (32 : Int)))) (↑(List.length v1.1) : Int)) - Int.toNat (Option.getD (some v1.2.1.2.1) (0 : Int))) (List.drop (Int.toNat (Option.getD (some v1.2.1.2.1) (0 : Int))) v1.1)))) v1.2.1.2.2)) ∧
   (Ob (True) ∧
   Br ((val (F_Run (val (R06_Copy (val (R06_Copy a) ++ b))) (List.take (32 : Nat) (List.drop (0 : Nat) (List.take (Int.toNat (Option.getD (some (IntKind.wrap IntKind.i64 (v1.2.1.2.1 + (32 : Int)))) (↑(List.length v1.1) : Int)) - Int.toNat (Option.getD (some v1.2.1.2.1) (0 : Int))) (List.drop (Int.toNat (Option.getD (some v1.2.1.2.1) (0 : Int))) v1.1)))) v1.2.1.2.2)).2.2.2 != (0 : Int))
   ((Ob (True) ∧
   (Ob (false = r) ∧
   True)))
   ((Ob (List.length (val (F_Run (val (R06_Copy (val (R06_Copy a) ++ b))) (List.take (32 : Nat) (List.drop (0 : Nat) (List.take (Int.toNat (Option.getD (some (IntKind.wrap IntKind.i64 (v1.2.1.2.1 + (32 : Int)))) (↑(List.length v1.1) : Int)) - Int.toNat (Option.getD (some v1.2.1.2.1) (0 : Int))) (List.drop (Int.toNat (Option.getD (some v1.2.1.2.1) (0 : Int))) v1.1)))) v1.2.1.2.2)).1 = (32 : Nat) ∧ (0 : Int) ≤ Option.getD none (0 : Int) ∧ Option.getD none (0 : Int) ≤ Option.getD none (↑(32 : Nat) : Int) ∧ Option.getD none (↑(32 : Nat) : Int) ≤ (↑(32 : Nat) : Int)) ∧
   (Ob ((0 : Int) ≤ Option.getD (some v1.2.1.2.1) (0 : Int) ∧ Option.getD (some v1.2.1.2.1) (0 : Int) ≤ Option.getD (some (IntKind.wrap IntKind.i64 (v1.2.1.2.1 + (32 : Int)))) (↑(List.length (val (F_RunAll (val (R06_Copy (val (R06_Copy a) ++ b))) ([] ++ v1.1))).1) : Int) ∧ Option.getD (some (IntKind.wrap IntKind.i64 (v1.2.1.2.1 + (32 : Int)))) (↑(List.length (val (F_RunAll (val (R06_Copy (val (R06_Copy a) ++ b))) ([] ++ v1.1))).1) : Int) ≤ (↑(List.length (val (F_RunAll (val (R06_Copy (val (R06_Copy a) ++ b))) ([] ++ v1.1))).1) : Int)) ∧
   (Ob (ok (B_SameFloats (List.take (32 : Nat) (List.drop (0 : Nat) (val (F_Run (val (R06_Copy (val (R06_Copy a) ++ b))) (List.take (32 : Nat) (List.drop (0 : Nat) (List.take (Int.toNat (Option.getD (some (IntKind.wrap IntKind.i64 (v1.2.1.2.1 + (32 : Int)))) (↑(List.length v1.1) : Int)) - Int.toNat (Option.getD (some v1.2.1.2.1) (0 : Int))) (List.drop (Int.toNat (Option.getD (some v1.2.1.2.1) (0 : Int))) v1.1)))) v1.2.1.2.2)).1)) (List.take (Int.toNat (Option.getD (some (IntKind.wrap IntKind.i64 (v1.2.1.2.1 + (32 : Int)))) (↑(List.length (val (F_RunAll (val (R06_Copy (val (R06_Copy a) ++ b))) ([] ++ v1.1))).1) : Int)) - Int.toNat (Option.getD (some v1.2.1.2.1) (0 : Int))) (List.drop (Int.toNat (Option.getD (some v1.2.1.2.1) (0 : Int))) (val (F_RunAll (val (R06_Copy (val (R06_Copy a) ++ b))) ([] ++ v1.1))).1)))) ∧
   Br (!val (B_SameFloats (List.take (32 : Nat) (List.drop (0 : Nat) (val (F_Run (val (R06_Copy (val (R06_Copy a) ++ b))) (List.take (32 : Nat) (List.drop (0 : Nat) (List.take (Int.toNat (Option.getD (some (IntKind.wrap IntKind.i64 (v1.2.1.2.1 + (32 : Int)))) (↑(List.length v1.1) : Int)) - Int.toNat (Option.getD (some v1.2.1.2.1) (0 : Int))) (List.drop (Int.toNat (Option.getD (some v1.2.1.2.1) (0 : Int))) v1.1)))) v1.2.1.2.2)).1)) (List.take (Int.toNat (Option.getD (some (IntKind.wrap IntKind.i64 (v1.2.1.2.1 + (32 : Int)))) (↑(List.length (val (F_RunAll (val (R06_Copy (val (R06_Copy a) ++ b))) ([] ++ v1.1))).1) : Int)) - Int.toNat (Option.getD (some v1.2.1.2.1) (0 : Int))) (List.drop (Int.toNat (Option.getD (some v1.2.1.2.1) (0 : Int))) (val (F_RunAll (val (R06_Copy (val (R06_Copy a) ++ b))) ([] ++ v1.1))).1))))
   ((Ob (True) ∧
   (Ob (false = r) ∧
   True)))
   ((∃ (v2 : List Nat × (Int × Int × List (List Int)) × Nat), (Ob ((Option.bind (iter (L06_FilterBlocks_b1 b v2.1 (val (R06_Copy a)) (val (R06_Copy (val (R06_Copy a) ++ b))) (val (F_RunAll (val (R06_Copy (val (R06_Copy a) ++ b))) ([] ++ v2.1)))) v2.2.2 v2.2.1) fun y0 => Option.bind (L06_FilterBlocks_r1 (val (F_RunAll (val (R06_Copy (val (R06_Copy a) ++ b))) ([] ++ v2.1))) y0) some) = some r) ∧
   (Ob (v2.2.2 < v1.2.2) ∧
   (Ob ((val (F_RunAll (val (R06_Copy (val (R06_Copy a) ++ b))) ([] ++ v1.1))).2.1 = (val (F_RunAll (val (R06_Copy (val (R06_Copy a) ++ b))) ([] ++ v2.1))).2.1) ∧
   (Ob (IntKind.wrap IntKind.i64 (v1.2.1.1 + (val (F_Run (val (R06_Copy (val (R06_Copy a) ++ b))) (List.take (32 : Nat) (List.drop (0 : Nat) (List.take (Int.toNat (Option.getD (some (IntKind.wrap IntKind.i64 (v1.2.1.2.1 + (32 : Int)))) (↑(List.length v1.1) : Int)) - Int.toNat (Option.getD (some v1.2.1.2.1) (0 : Int))) (List.drop (Int.toNat (Option.getD (some v1.2.1.2.1) (0 : Int))) v1.1)))) v1.2.1.2.2)).2.2.1) = v2.2.1.1) ∧
   (Ob (IntKind.wrap IntKind.i64 (v1.2.1.2.1 + (32 : Int)) = v2.2.1.2.1) ∧
   (Ob (val (R06_Copy a) ++ b = val (R06_Copy a) ++ b) ∧
   (Ob (v1.1 = v2.1) ∧
   (Ob ((val (F_RunAll (val (R06_Copy (val (R06_Copy a) ++ b))) ([] ++ v1.1))).1 = (val (F_RunAll (val (R06_Copy (val (R06_Copy a) ++ b))) ([] ++ v2.1))).1) ∧
   (Ob ((val (F_Run (val (R06_Copy (val (R06_Copy a) ++ b))) (List.take (32 : Nat) (List.drop (0 : Nat) (List.take (Int.toNat (Option.getD (some (IntKind.wrap IntKind.i64 (v1.2.1.2.1 + (32 : Int)))) (↑(List.length v1.1) : Int)) - Int.toNat (Option.getD (some v1.2.1.2.1) (0 : Int))) (List.drop (Int.toNat (Option.getD (some v1.2.1.2.1) (0 : Int))) v1.1)))) v1.2.1.2.2)).2.1 = v2.2.1.2.2) ∧
   True))))))))))))))))))))))
   ((Ob (True) ∧
   (Ob ((v1.2.1.1 == (val (F_RunAll (val (R06_Copy (val (R06_Copy a) ++ b))) ([] ++ v1.1))).2.1) = r) ∧
   True)))))))))))))))))))))))))))))))))))))))))))) = _) ?_
  refine ob_c (p := ok L06_awake) (by decide) ?_
  refine br_d h (fun h => ?_) (fun h => ?_)
  · refine ob_t ?_
    exact ret_s h (fun e => by subst e; exact (by repeat' (first | exact trivial | exact ⟨rfl⟩ | refine And.intro ?_ ?_)))
  · refine br_d h (fun h => ?_) (fun h => ?_)
    · refine ob_t ?_
      exact ret_s h (fun e => by subst e; exact (by repeat' (first | exact trivial | exact ⟨rfl⟩ | refine And.intro ?_ ?_)))
    · refine br_d h (fun h => ?_) (fun h => ?_)
      · refine ob_t ?_
        exact ret_s h (fun e => by subst e; exact (by repeat' (first | exact trivial | exact ⟨rfl⟩ | refine And.intro ?_ ?_)))
      · refine call_s h fun h => ?_
        refine ob_s h fun h => ?_
        refine call_s h fun h => ?_
        refine br_b h (fun h => ?_) (fun h => ?_)
        · refine ob_t ?_
          exact ret_s h (fun e => by subst e; exact (by repeat' (first | exact trivial | exact ⟨rfl⟩ | refine And.intro ?_ ?_)))
        · refine call_s h fun h => ?_
          refine call_s h fun h => ?_
          refine br_b h (fun h => ?_) (fun h => ?_)
          · refine ob_t ?_
            exact ret_s h (fun e => by subst e; exact (by repeat' (first | exact trivial | exact ⟨rfl⟩ | refine And.intro ?_ ?_)))
          · refine call_s h fun h => ?_
            refine ⟨⟨(val (L06_raw l), big), ⟨loop_s h⟩, (by repeat' (first | exact trivial | exact ⟨rfl⟩ | refine And.intro ?_ ?_))⟩, fun z17 hz17 => ?_⟩
            obtain ⟨k17, hm17, h⟩ := iter_pos hz17
            refine ob_c (p := (32 : Int) ≠ (0 : Int)) (by decide) ?_
            refine br_b h (fun h => ?_) (fun h => ?_)
            · refine ob_s h fun h => ?_
              exact ⟨(Prod.fst z17 ++ [(0 : Nat)], k17), ⟨next_s h⟩, ⟨lt_gs hm17.symm⟩, (by repeat' (first | exact trivial | exact ⟨rfl⟩ | refine And.intro ?_ ?_))⟩
            · have h := exit_s h
              refine call_s h fun h => ?_
              refine ob_s h fun h => ?_
              refine call_s h fun h => ?_
              refine call_s h fun h => ?_
              refine ob_s h fun h => ?_
              refine call_s h fun h => ?_
              refine br_b h (fun h => ?_) (fun h => ?_)
              · refine ob_t ?_
                exact ret_s h (fun e => by subst e; exact (by repeat' (first | exact trivial | exact ⟨rfl⟩ | refine And.intro ?_ ?_)))
              · refine br_b h (fun h => ?_) (fun h => ?_)
                · refine ob_t ?_
                  exact ret_s h (fun e => by subst e; exact (by repeat' (first | exact trivial | exact ⟨rfl⟩ | refine And.intro ?_ ?_)))
                · refine br_b h (fun h => ?_) (fun h => ?_)
                  · refine ob_t ?_
                    exact ret_s h (fun e => by subst e; exact (by repeat' (first | exact trivial | exact ⟨rfl⟩ | refine And.intro ?_ ?_)))
                  · refine br_b h (fun h => ?_) (fun h => ?_)
                    · refine ob_t ?_
                      exact ret_s h (fun e => by subst e; exact (by repeat' (first | exact trivial | exact ⟨rfl⟩ | refine And.intro ?_ ?_)))
                    · refine call_s h fun h => ?_
                      refine ob_s h fun h => ?_
                      refine call_s h fun h => ?_
                      refine br_b h (fun h => ?_) (fun h => ?_)
                      · refine ob_t ?_
                        exact ret_s h (fun e => by subst e; exact (by repeat' (first | exact trivial | exact ⟨rfl⟩ | refine And.intro ?_ ?_)))
                      · refine call_s h fun h => ?_
                        refine br_b h (fun h => ?_) (fun h => ?_)
                        · refine ob_t ?_
                          exact ret_s h (fun e => by subst e; exact (by repeat' (first | exact trivial | exact ⟨rfl⟩ | refine And.intro ?_ ?_)))
                        · refine br_b h (fun h => ?_) (fun h => ?_)
                          · refine ob_t ?_
                            exact ret_s h (fun e => by subst e; exact (by repeat' (first | exact trivial | exact ⟨rfl⟩ | refine And.intro ?_ ?_)))
                          · refine call_s h fun h => ?_
                            refine call_s h fun h => ?_
                            refine br_b h (fun h => ?_) (fun h => ?_)
                            · refine ob_t ?_
                              exact ret_s h (fun e => by subst e; exact (by repeat' (first | exact trivial | exact ⟨rfl⟩ | refine And.intro ?_ ?_)))
                            · refine ⟨⟨(Prod.fst z17, ((0 : Int), (0 : Int), (val (F_NewState (val (R06_Copy (val (R06_Copy a) ++ b))))).1), big), ⟨loop_s h⟩, (by repeat' (first | exact trivial | exact ⟨rfl⟩ | refine And.intro ?_ ?_))⟩, fun z18 hz18 => ?_⟩
                              obtain ⟨k18, hm18, h⟩ := iter_pos hz18
                              refine br_d h (fun h => ?_) (fun h => ?_)
                              · refine call_s h fun h => ?_
                                refine ob_s h fun h => ?_
                                refine ob_s h fun h => ?_
                                refine ob_s h fun h => ?_
                                refine call_s h fun h => ?_
                                refine ob_t ?_
                                refine br_b h (fun h => ?_) (fun h => ?_)
                                · have h := exit_s h
                                  refine ob_t ?_
                                  exact ret_s h (fun e => by subst e; exact (by repeat' (first | exact trivial | exact ⟨rfl⟩ | refine And.intro ?_ ?_)))
                                · refine ob_s h fun h => ?_
                                  refine ob_s h fun h => ?_
                                  refine call_s h fun h => ?_
                                  refine br_b h (fun h => ?_) (fun h => ?_)
                                  · have h := exit_s h
                                    refine ob_t ?_
                                    exact ret_s h (fun e => by subst e; exact (by repeat' (first | exact trivial | exact ⟨rfl⟩ | refine And.intro ?_ ?_)))
                                  · exact ⟨(Prod.fst z18, (IntKind.wrap IntKind.i64 ((Prod.fst (Prod.snd z18)).1 + (val (F_Run (val (R06_Copy (val (R06_Copy a) ++ b))) (List.take (32 : Nat) (List.drop (0 : Nat) (List.take (Int.toNat (Option.getD (some (IntKind.wrap IntKind.i64 ((Prod.fst (Prod.snd z18)).2.1 + (32 : Int)))) (↑(List.length (Prod.fst z18)) : Int)) - Int.toNat (Option.getD (some (Prod.fst (Prod.snd z18)).2.1) (0 : Int))) (List.drop (Int.toNat (Option.getD (some (Prod.fst (Prod.snd z18)).2.1) (0 : Int))) (Prod.fst z18))))) (Prod.fst (Prod.snd z18)).2.2)).2.2.1), IntKind.wrap IntKind.i64 ((Prod.fst (Prod.snd z18)).2.1 + (32 : Int)), (val (F_Run (val (R06_Copy (val (R06_Copy a) ++ b))) (List.take (32 : Nat) (List.drop (0 : Nat) (List.take (Int.toNat (Option.getD (some (IntKind.wrap IntKind.i64 ((Prod.fst (Prod.snd z18)).2.1 + (32 : Int)))) (↑(List.length (Prod.fst z18)) : Int)) - Int.toNat (Option.getD (some (Prod.fst (Prod.snd z18)).2.1) (0 : Int))) (List.drop (Int.toNat (Option.getD (some (Prod.fst (Prod.snd z18)).2.1) (0 : Int))) (Prod.fst z18))))) (Prod.fst (Prod.snd z18)).2.2)).2.1), k18), ⟨next_s h⟩, ⟨lt_gs hm18.symm⟩, (by repeat' (first | exact trivial | exact ⟨rfl⟩ | refine And.intro ?_ ?_))⟩
                              · have h := exit_s h
                                refine ob_t ?_
                                exact ret_s h (fun e => by subst e; exact (by repeat' (first | exact trivial | exact ⟨rfl⟩ | refine And.intro ?_ ?_)))
set_option maxRecDepth 100000 in
theorem L06_FilterBlocks_ok : SpecOK Try.prog 14 true (pureK k_L06_FilterBlocks g_L06_FilterBlocks) := by
  refine pureK_ok (sp := (sp_18 (sp_30 (sp_61 (sp_59 (sp_52 (sp_70 (sp_27 (sp_68 (sp_65 sp0)))))))))) (fn := Try.f14) (body := bodyOf Try.f14) mixed (sp_18_ok (sp_30_ok (sp_61_ok (sp_59_ok (sp_52_ok (sp_70_ok (sp_27_ok (sp_68_ok (sp_65_ok sp0_ok))))))))) Try.func14 (by kernel_rfl) (by kernel_rfl) fun as_ ob rs h ho => ?_
  unfold g_L06_FilterBlocks at h
  split at h
  · rename_i a b l
    cases h
    exact ⟨Nat.le_of_ble_eq_true rfl, _, _, L06_FilterBlocks_vc a b l _ (ok_some ho)⟩
  · cases h
theorem sp_14_ok {sp : Specs} (h : SpecsOK Try.prog sp) : SpecsOK Try.prog (sp_14 sp) := addK_ok L06_FilterBlocks_ok h
end Go.Sh
