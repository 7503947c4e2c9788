/- Part 6 of the proof of FigureClarityCard: the executor, the mirrors of the functions, the plain facts. -/
import Derived.Test.YtcklfboglnfepaaGreatDoorPE
import Derived.Shelf.Strings.OnBuilder
import Derived.Shelf.Strconv.Itoa3
import Derived.Carry
import Derived.ChangeArms
import Derived.OpenShut
import Derived.ChangeShapes
import Derived.ChangeSame
import Derived.SizedLaws
import Derived.WideShapes
set_option linter.unusedSectionVars false
set_option linter.unusedSimpArgs false
set_option linter.unusedVariables false
section
namespace Go.Sh
open Go Go.Proofs Go.RowKit Go.Sx
set_option linter.unusedVariables false
def k_math_bits_Len64 : List (Option Cont) := [none]
def math_bits_Len64 (x_ : Int) : Option Int :=
  if x_ ≥ (4294967296 : Int) then
   if Int.fdiv x_ ((2 : Int) ^ min (32 : Nat) (IntKind.bits .u64)) ≥ (65536 : Int) then
    if Int.fdiv (Int.fdiv x_ ((2 : Int) ^ min (32 : Nat) (IntKind.bits .u64))) ((2 : Int) ^ min (16 : Nat) (IntKind.bits .u64)) ≥ (256 : Int) then
     if (0 : Int) ≤ IntKind.wrap .u8 (Int.fdiv (Int.fdiv (Int.fdiv x_ ((2 : Int) ^ min (32 : Nat) (IntKind.bits .u64))) ((2 : Int) ^ min (16 : Nat) (IntKind.bits .u64))) ((2 : Int) ^ min (8 : Nat) (IntKind.bits .u64))) ∧ IntKind.wrap .u8 (Int.fdiv (Int.fdiv (Int.fdiv x_ ((2 : Int) ^ min (32 : Nat) (IntKind.bits .u64))) ((2 : Int) ^ min (16 : Nat) (IntKind.bits .u64))) ((2 : Int) ^ min (8 : Nat) (IntKind.bits .u64))) < (↑(ByteArray.size tab8) : Int) then
      some (IntKind.wrap .i64 (IntKind.wrap .i64 (IntKind.wrap .i64 ((32 : Int) + (16 : Int)) + (8 : Int)) + IntKind.wrap .i64 (↑(UInt8.toNat (Array.getD (ByteArray.data tab8) (Int.toNat (IntKind.wrap .u8 (Int.fdiv (Int.fdiv (Int.fdiv x_ ((2 : Int) ^ min (32 : Nat) (IntKind.bits .u64))) ((2 : Int) ^ min (16 : Nat) (IntKind.bits .u64))) ((2 : Int) ^ min (8 : Nat) (IntKind.bits .u64))))) (0 : UInt8))) : Int)))
     else none
    else
     if (0 : Int) ≤ IntKind.wrap .u8 (Int.fdiv (Int.fdiv x_ ((2 : Int) ^ min (32 : Nat) (IntKind.bits .u64))) ((2 : Int) ^ min (16 : Nat) (IntKind.bits .u64))) ∧ IntKind.wrap .u8 (Int.fdiv (Int.fdiv x_ ((2 : Int) ^ min (32 : Nat) (IntKind.bits .u64))) ((2 : Int) ^ min (16 : Nat) (IntKind.bits .u64))) < (↑(ByteArray.size tab8) : Int) then
      some (IntKind.wrap .i64 (IntKind.wrap .i64 ((32 : Int) + (16 : Int)) + IntKind.wrap .i64 (↑(UInt8.toNat (Array.getD (ByteArray.data tab8) (Int.toNat (IntKind.wrap .u8 (Int.fdiv (Int.fdiv x_ ((2 : Int) ^ min (32 : Nat) (IntKind.bits .u64))) ((2 : Int) ^ min (16 : Nat) (IntKind.bits .u64))))) (0 : UInt8))) : Int)))
     else none
   else
    if Int.fdiv x_ ((2 : Int) ^ min (32 : Nat) (IntKind.bits .u64)) ≥ (256 : Int) then
     if (0 : Int) ≤ IntKind.wrap .u8 (Int.fdiv (Int.fdiv x_ ((2 : Int) ^ min (32 : Nat) (IntKind.bits .u64))) ((2 : Int) ^ min (8 : Nat) (IntKind.bits .u64))) ∧ IntKind.wrap .u8 (Int.fdiv (Int.fdiv x_ ((2 : Int) ^ min (32 : Nat) (IntKind.bits .u64))) ((2 : Int) ^ min (8 : Nat) (IntKind.bits .u64))) < (↑(ByteArray.size tab8) : Int) then
      some (IntKind.wrap .i64 (IntKind.wrap .i64 ((32 : Int) + (8 : Int)) + IntKind.wrap .i64 (↑(UInt8.toNat (Array.getD (ByteArray.data tab8) (Int.toNat (IntKind.wrap .u8 (Int.fdiv (Int.fdiv x_ ((2 : Int) ^ min (32 : Nat) (IntKind.bits .u64))) ((2 : Int) ^ min (8 : Nat) (IntKind.bits .u64))))) (0 : UInt8))) : Int)))
     else none
    else
     if (0 : Int) ≤ IntKind.wrap .u8 (Int.fdiv x_ ((2 : Int) ^ min (32 : Nat) (IntKind.bits .u64))) ∧ IntKind.wrap .u8 (Int.fdiv x_ ((2 : Int) ^ min (32 : Nat) (IntKind.bits .u64))) < (↑(ByteArray.size tab8) : Int) then
      some (IntKind.wrap .i64 ((32 : Int) + IntKind.wrap .i64 (↑(UInt8.toNat (Array.getD (ByteArray.data tab8) (Int.toNat (IntKind.wrap .u8 (Int.fdiv x_ ((2 : Int) ^ min (32 : Nat) (IntKind.bits .u64))))) (0 : UInt8))) : Int)))
     else none
  else
   if x_ ≥ (65536 : Int) then
    if Int.fdiv x_ ((2 : Int) ^ min (16 : Nat) (IntKind.bits .u64)) ≥ (256 : Int) then
     if (0 : Int) ≤ IntKind.wrap .u8 (Int.fdiv (Int.fdiv x_ ((2 : Int) ^ min (16 : Nat) (IntKind.bits .u64))) ((2 : Int) ^ min (8 : Nat) (IntKind.bits .u64))) ∧ IntKind.wrap .u8 (Int.fdiv (Int.fdiv x_ ((2 : Int) ^ min (16 : Nat) (IntKind.bits .u64))) ((2 : Int) ^ min (8 : Nat) (IntKind.bits .u64))) < (↑(ByteArray.size tab8) : Int) then
      some (IntKind.wrap .i64 (IntKind.wrap .i64 (IntKind.wrap .i64 ((0 : Int) + (16 : Int)) + (8 : Int)) + IntKind.wrap .i64 (↑(UInt8.toNat (Array.getD (ByteArray.data tab8) (Int.toNat (IntKind.wrap .u8 (Int.fdiv (Int.fdiv x_ ((2 : Int) ^ min (16 : Nat) (IntKind.bits .u64))) ((2 : Int) ^ min (8 : Nat) (IntKind.bits .u64))))) (0 : UInt8))) : Int)))
     else none
    else
     if (0 : Int) ≤ IntKind.wrap .u8 (Int.fdiv x_ ((2 : Int) ^ min (16 : Nat) (IntKind.bits .u64))) ∧ IntKind.wrap .u8 (Int.fdiv x_ ((2 : Int) ^ min (16 : Nat) (IntKind.bits .u64))) < (↑(ByteArray.size tab8) : Int) then
      some (IntKind.wrap .i64 (IntKind.wrap .i64 ((0 : Int) + (16 : Int)) + IntKind.wrap .i64 (↑(UInt8.toNat (Array.getD (ByteArray.data tab8) (Int.toNat (IntKind.wrap .u8 (Int.fdiv x_ ((2 : Int) ^ min (16 : Nat) (IntKind.bits .u64))))) (0 : UInt8))) : Int)))
     else none
   else
    if x_ ≥ (256 : Int) then
     if (0 : Int) ≤ IntKind.wrap .u8 (Int.fdiv x_ ((2 : Int) ^ min (8 : Nat) (IntKind.bits .u64))) ∧ IntKind.wrap .u8 (Int.fdiv x_ ((2 : Int) ^ min (8 : Nat) (IntKind.bits .u64))) < (↑(ByteArray.size tab8) : Int) then
      some (IntKind.wrap .i64 (IntKind.wrap .i64 ((0 : Int) + (8 : Int)) + IntKind.wrap .i64 (↑(UInt8.toNat (Array.getD (ByteArray.data tab8) (Int.toNat (IntKind.wrap .u8 (Int.fdiv x_ ((2 : Int) ^ min (8 : Nat) (IntKind.bits .u64))))) (0 : UInt8))) : Int)))
     else none
    else
     if (0 : Int) ≤ IntKind.wrap .u8 x_ ∧ IntKind.wrap .u8 x_ < (↑(ByteArray.size tab8) : Int) then
      some (IntKind.wrap .i64 ((0 : Int) + IntKind.wrap .i64 (↑(UInt8.toNat (Array.getD (ByteArray.data tab8) (Int.toNat (IntKind.wrap .u8 x_)) (0 : UInt8))) : Int)))
     else none
def g_math_bits_Len64 : List A → Option (Prop × List RV)
  | [.d (.i .u64 x_)] => some (ok (math_bits_Len64 x_), [.d (.i .i64 ((val (math_bits_Len64 x_))))])
  | _ => none
abbrev sp_166 : Specs → Specs := addK 166 true (pureK k_math_bits_Len64 g_math_bits_Len64)
set_option maxRecDepth 100000 in
theorem math_bits_Len64_vc (x_ : Int) (r : Int) (h : Option.bind (math_bits_Len64 x_) some = some r) : runF Tryz.f166 (sp0) (fun _ _ _ => none) [.d (.i .u64 x_)] [.d (.i .i64 r)] := by
  refine Eq.mp (by kernel_rfl : (
 Br (decide (x_ ≥ (4294967296 : Int)))
   ((Ob ((0 : Int) ≤ (32 : Int)) ∧
 Br (decide (Int.fdiv x_ ((2 : Int) ^ min (32 : Nat) (IntKind.bits .u64)) ≥ (65536 : Int)))
   ((Ob ((0 : Int) ≤ (16 : Int)) ∧
 Br (decide (Int.fdiv (Int.fdiv x_ ((2 : Int) ^ min (32 : Nat) (IntKind.bits .u64))) ((2 : Int) ^ min (16 : Nat) (IntKind.bits .u64)) ≥ (256 : Int)))
   ((Ob ((0 : Int) ≤ (8 : Int)) ∧
 (Ob (True) ∧
 (Ob ((0 : Int) ≤ IntKind.wrap .u8 (Int.fdiv (Int.fdiv (Int.fdiv x_ ((2 : Int) ^ min (32 : Nat) (IntKind.bits .u64))) ((2 : Int) ^ min (16 : Nat) (IntKind.bits .u64))) ((2 : Int) ^ min (8 : Nat) (IntKind.bits .u64))) ∧ IntKind.wrap .u8 (Int.fdiv (Int.fdiv (Int.fdiv x_ ((2 : Int) ^ min (32 : Nat) (IntKind.bits .u64))) ((2 : Int) ^ min (16 : Nat) (IntKind.bits .u64))) ((2 : Int) ^ min (8 : Nat) (IntKind.bits .u64))) < (↑(ByteArray.size tab8) : Int)) ∧
 (Ob (True) ∧
 (Ob (True) ∧
 (Ob (IntKind.wrap .i64 (IntKind.wrap .i64 (IntKind.wrap .i64 ((32 : Int) + (16 : Int)) + (8 : Int)) + IntKind.wrap .i64 (↑(UInt8.toNat (Array.getD (ByteArray.data tab8) (Int.toNat (IntKind.wrap .u8 (Int.fdiv (Int.fdiv (Int.fdiv x_ ((2 : Int) ^ min (32 : Nat) (IntKind.bits .u64))) ((2 : Int) ^ min (16 : Nat) (IntKind.bits .u64))) ((2 : Int) ^ min (8 : Nat) (IntKind.bits .u64))))) (0 : UInt8))) : Int)) = r) ∧
 True)))))))
   ((Ob (True) ∧
 (Ob ((0 : Int) ≤ IntKind.wrap .u8 (Int.fdiv (Int.fdiv x_ ((2 : Int) ^ min (32 : Nat) (IntKind.bits .u64))) ((2 : Int) ^ min (16 : Nat) (IntKind.bits .u64))) ∧ IntKind.wrap .u8 (Int.fdiv (Int.fdiv x_ ((2 : Int) ^ min (32 : Nat) (IntKind.bits .u64))) ((2 : Int) ^ min (16 : Nat) (IntKind.bits .u64))) < (↑(ByteArray.size tab8) : Int)) ∧
 (Ob (True) ∧
 (Ob (True) ∧
 (Ob (IntKind.wrap .i64 (IntKind.wrap .i64 ((32 : Int) + (16 : Int)) + IntKind.wrap .i64 (↑(UInt8.toNat (Array.getD (ByteArray.data tab8) (Int.toNat (IntKind.wrap .u8 (Int.fdiv (Int.fdiv x_ ((2 : Int) ^ min (32 : Nat) (IntKind.bits .u64))) ((2 : Int) ^ min (16 : Nat) (IntKind.bits .u64))))) (0 : UInt8))) : Int)) = r) ∧
 True))))))))
 (Br (decide (Int.fdiv x_ ((2 : Int) ^ min (32 : Nat) (IntKind.bits .u64)) ≥ (256 : Int)))
   ((Ob ((0 : Int) ≤ (8 : Int)) ∧
 (Ob (True) ∧
 (Ob ((0 : Int) ≤ IntKind.wrap .u8 (Int.fdiv (Int.fdiv x_ ((2 : Int) ^ min (32 : Nat) (IntKind.bits .u64))) ((2 : Int) ^ min (8 : Nat) (IntKind.bits .u64))) ∧ IntKind.wrap .u8 (Int.fdiv (Int.fdiv x_ ((2 : Int) ^ min (32 : Nat) (IntKind.bits .u64))) ((2 : Int) ^ min (8 : Nat) (IntKind.bits .u64))) < (↑(ByteArray.size tab8) : Int)) ∧
 (Ob (True) ∧
 (Ob (True) ∧
 (Ob (IntKind.wrap .i64 (IntKind.wrap .i64 ((32 : Int) + (8 : Int)) + IntKind.wrap .i64 (↑(UInt8.toNat (Array.getD (ByteArray.data tab8) (Int.toNat (IntKind.wrap .u8 (Int.fdiv (Int.fdiv x_ ((2 : Int) ^ min (32 : Nat) (IntKind.bits .u64))) ((2 : Int) ^ min (8 : Nat) (IntKind.bits .u64))))) (0 : UInt8))) : Int)) = r) ∧
 True)))))))
   ((Ob (True) ∧
 (Ob ((0 : Int) ≤ IntKind.wrap .u8 (Int.fdiv x_ ((2 : Int) ^ min (32 : Nat) (IntKind.bits .u64))) ∧ IntKind.wrap .u8 (Int.fdiv x_ ((2 : Int) ^ min (32 : Nat) (IntKind.bits .u64))) < (↑(ByteArray.size tab8) : Int)) ∧
 (Ob (True) ∧
 (Ob (True) ∧
 (Ob (IntKind.wrap .i64 ((32 : Int) + IntKind.wrap .i64 (↑(UInt8.toNat (Array.getD (ByteArray.data tab8) (Int.toNat (IntKind.wrap .u8 (Int.fdiv x_ ((2 : Int) ^ min (32 : Nat) (IntKind.bits .u64))))) (0 : UInt8))) : Int)) = r) ∧
 True)))))))))
 (Br (decide (x_ ≥ (65536 : Int)))
   ((Ob ((0 : Int) ≤ (16 : Int)) ∧
 Br (decide (Int.fdiv x_ ((2 : Int) ^ min (16 : Nat) (IntKind.bits .u64)) ≥ (256 : Int)))
   ((Ob ((0 : Int) ≤ (8 : Int)) ∧
 (Ob (True) ∧
 (Ob ((0 : Int) ≤ IntKind.wrap .u8 (Int.fdiv (Int.fdiv x_ ((2 : Int) ^ min (16 : Nat) (IntKind.bits .u64))) ((2 : Int) ^ min (8 : Nat) (IntKind.bits .u64))) ∧ IntKind.wrap .u8 (Int.fdiv (Int.fdiv x_ ((2 : Int) ^ min (16 : Nat) (IntKind.bits .u64))) ((2 : Int) ^ min (8 : Nat) (IntKind.bits .u64))) < (↑(ByteArray.size tab8) : Int)) ∧
 (Ob (True) ∧
 (Ob (True) ∧
 (Ob (IntKind.wrap .i64 (IntKind.wrap .i64 (IntKind.wrap .i64 ((0 : Int) + (16 : Int)) + (8 : Int)) + IntKind.wrap .i64 (↑(UInt8.toNat (Array.getD (ByteArray.data tab8) (Int.toNat (IntKind.wrap .u8 (Int.fdiv (Int.fdiv x_ ((2 : Int) ^ min (16 : Nat) (IntKind.bits .u64))) ((2 : Int) ^ min (8 : Nat) (IntKind.bits .u64))))) (0 : UInt8))) : Int)) = r) ∧
 True)))))))
   ((Ob (True) ∧
 (Ob ((0 : Int) ≤ IntKind.wrap .u8 (Int.fdiv x_ ((2 : Int) ^ min (16 : Nat) (IntKind.bits .u64))) ∧ IntKind.wrap .u8 (Int.fdiv x_ ((2 : Int) ^ min (16 : Nat) (IntKind.bits .u64))) < (↑(ByteArray.size tab8) : Int)) ∧
 (Ob (True) ∧
 (Ob (True) ∧
 (Ob (IntKind.wrap .i64 (IntKind.wrap .i64 ((0 : Int) + (16 : Int)) + IntKind.wrap .i64 (↑(UInt8.toNat (Array.getD (ByteArray.data tab8) (Int.toNat (IntKind.wrap .u8 (Int.fdiv x_ ((2 : Int) ^ min (16 : Nat) (IntKind.bits .u64))))) (0 : UInt8))) : Int)) = r) ∧
 True))))))))
 (Br (decide (x_ ≥ (256 : Int)))
   ((Ob ((0 : Int) ≤ (8 : Int)) ∧
 (Ob (True) ∧
 (Ob ((0 : Int) ≤ IntKind.wrap .u8 (Int.fdiv x_ ((2 : Int) ^ min (8 : Nat) (IntKind.bits .u64))) ∧ IntKind.wrap .u8 (Int.fdiv x_ ((2 : Int) ^ min (8 : Nat) (IntKind.bits .u64))) < (↑(ByteArray.size tab8) : Int)) ∧
 (Ob (True) ∧
 (Ob (True) ∧
 (Ob (IntKind.wrap .i64 (IntKind.wrap .i64 ((0 : Int) + (8 : Int)) + IntKind.wrap .i64 (↑(UInt8.toNat (Array.getD (ByteArray.data tab8) (Int.toNat (IntKind.wrap .u8 (Int.fdiv x_ ((2 : Int) ^ min (8 : Nat) (IntKind.bits .u64))))) (0 : UInt8))) : Int)) = r) ∧
 True)))))))
   ((Ob (True) ∧
 (Ob ((0 : Int) ≤ IntKind.wrap .u8 x_ ∧ IntKind.wrap .u8 x_ < (↑(ByteArray.size tab8) : Int)) ∧
 (Ob (True) ∧
 (Ob (True) ∧
 (Ob (IntKind.wrap .i64 ((0 : Int) + IntKind.wrap .i64 (↑(UInt8.toNat (Array.getD (ByteArray.data tab8) (Int.toNat (IntKind.wrap .u8 x_)) (0 : UInt8))) : Int)) = r) ∧
 True))))))))) = _) ?_
  refine br_d h (fun h => ?_) (fun h => ?_)
  · refine ob_c (p := (0 : Int) ≤ (32 : Int)) (by decide) ?_
    refine br_d h (fun h => ?_) (fun h => ?_)
    · refine ob_c (p := (0 : Int) ≤ (16 : Int)) (by decide) ?_
      refine br_d h (fun h => ?_) (fun h => ?_)
      · refine ob_c (p := (0 : Int) ≤ (8 : Int)) (by decide) ?_
        refine ob_t ?_
        refine ob_s h fun h => ?_
        refine ob_t ?_
        refine ob_t ?_
        exact ret_s h (fun e => by subst e; exact (by repeat' (first | exact trivial | exact ⟨rfl⟩ | refine And.intro ?_ ?_)))
      · refine ob_t ?_
        refine ob_s h fun h => ?_
        refine ob_t ?_
        refine ob_t ?_
        exact ret_s h (fun e => by subst e; exact (by repeat' (first | exact trivial | exact ⟨rfl⟩ | refine And.intro ?_ ?_)))
    · refine br_d h (fun h => ?_) (fun h => ?_)
      · refine ob_c (p := (0 : Int) ≤ (8 : Int)) (by decide) ?_
        refine ob_t ?_
        refine ob_s h fun h => ?_
        refine ob_t ?_
        refine ob_t ?_
        exact ret_s h (fun e => by subst e; exact (by repeat' (first | exact trivial | exact ⟨rfl⟩ | refine And.intro ?_ ?_)))
      · refine ob_t ?_
        refine ob_s h fun h => ?_
        refine ob_t ?_
        refine ob_t ?_
        exact ret_s h (fun e => by subst e; exact (by repeat' (first | exact trivial | exact ⟨rfl⟩ | refine And.intro ?_ ?_)))
  · refine br_d h (fun h => ?_) (fun h => ?_)
    · refine ob_c (p := (0 : Int) ≤ (16 : Int)) (by decide) ?_
      refine br_d h (fun h => ?_) (fun h => ?_)
      · refine ob_c (p := (0 : Int) ≤ (8 : Int)) (by decide) ?_
        refine ob_t ?_
        refine ob_s h fun h => ?_
        refine ob_t ?_
        refine ob_t ?_
        exact ret_s h (fun e => by subst e; exact (by repeat' (first | exact trivial | exact ⟨rfl⟩ | refine And.intro ?_ ?_)))
      · refine ob_t ?_
        refine ob_s h fun h => ?_
        refine ob_t ?_
        refine ob_t ?_
        exact ret_s h (fun e => by subst e; exact (by repeat' (first | exact trivial | exact ⟨rfl⟩ | refine And.intro ?_ ?_)))
    · refine br_d h (fun h => ?_) (fun h => ?_)
      · refine ob_c (p := (0 : Int) ≤ (8 : Int)) (by decide) ?_
        refine ob_t ?_
        refine ob_s h fun h => ?_
        refine ob_t ?_
        refine ob_t ?_
        exact ret_s h (fun e => by subst e; exact (by repeat' (first | exact trivial | exact ⟨rfl⟩ | refine And.intro ?_ ?_)))
      · refine ob_t ?_
        refine ob_s h fun h => ?_
        refine ob_t ?_
        refine ob_t ?_
        exact ret_s h (fun e => by subst e; exact (by repeat' (first | exact trivial | exact ⟨rfl⟩ | refine And.intro ?_ ?_)))
set_option maxRecDepth 100000 in
theorem math_bits_Len64_ok : SpecOK Tryz.prog 166 true (pureK k_math_bits_Len64 g_math_bits_Len64) := by
  refine pureK_ok (sp := sp0) (fn := Tryz.f166) (body := bodyOf Tryz.f166) mixed sp0_ok Tryz.func166 (by kernel_rfl) (by kernel_rfl) fun as_ ob rs h ho => ?_
  unfold g_math_bits_Len64 at h
  split at h
  · rename_i x_
    cases h
    exact ⟨Nat.le_of_ble_eq_true rfl, _, _, math_bits_Len64_vc x_ _ (ok_some ho)⟩
  · cases h
theorem sp_166_ok {sp : Specs} (h : SpecsOK Tryz.prog sp) : SpecsOK Tryz.prog (sp_166 sp) := addK_ok math_bits_Len64_ok h
def k_math_bits_LeadingZeros64 : List (Option Cont) := [none]
def math_bits_LeadingZeros64 (x_ : Int) : Option Int :=
  Option.bind (math_bits_Len64 x_) fun r0 =>
  some (IntKind.wrap .i64 ((64 : Int) - r0))
def g_math_bits_LeadingZeros64 : List A → Option (Prop × List RV)
  | [.d (.i .u64 x_)] => some (ok (math_bits_LeadingZeros64 x_), [.d (.i .i64 ((val (math_bits_LeadingZeros64 x_))))])
  | _ => none
abbrev sp_150 : Specs → Specs := addK 150 true (pureK k_math_bits_LeadingZeros64 g_math_bits_LeadingZeros64)
set_option maxRecDepth 100000 in
theorem math_bits_LeadingZeros64_vc (x_ : Int) (r : Int) (h : Option.bind (math_bits_LeadingZeros64 x_) some = some r) : runF Tryz.f150 ((sp_166 sp0)) (fun _ _ _ => none) [.d (.i .u64 x_)] [.d (.i .i64 r)] := by
  refine Eq.mp (by kernel_rfl : (
 (Ob (ok (math_bits_Len64 x_)) ∧
 (Ob (True) ∧
 (Ob (IntKind.wrap .i64 ((64 : Int) - val (math_bits_Len64 x_)) = r) ∧
 True)))) = _) ?_
  refine call_s h fun h => ?_
  refine ob_t ?_
  exact ret_s h (fun e => by subst e; exact (by repeat' (first | exact trivial | exact ⟨rfl⟩ | refine And.intro ?_ ?_)))
set_option maxRecDepth 100000 in
theorem math_bits_LeadingZeros64_ok : SpecOK Tryz.prog 150 true (pureK k_math_bits_LeadingZeros64 g_math_bits_LeadingZeros64) := by
  refine pureK_ok (sp := (sp_166 sp0)) (fn := Tryz.f150) (body := bodyOf Tryz.f150) mixed (sp_166_ok sp0_ok) Tryz.func150 (by kernel_rfl) (by kernel_rfl) fun as_ ob rs h ho => ?_
  unfold g_math_bits_LeadingZeros64 at h
  split at h
  · rename_i x_
    cases h
    exact ⟨Nat.le_of_ble_eq_true rfl, _, _, math_bits_LeadingZeros64_vc x_ _ (ok_some ho)⟩
  · cases h
theorem sp_150_ok {sp : Specs} (h : SpecsOK Tryz.prog sp) : SpecsOK Tryz.prog (sp_150 sp) := addK_ok math_bits_LeadingZeros64_ok h
def k_math_bits_Div64 : List (Option Cont) := [none, none, none]
def math_bits_Div64_b0 (lo : Int) (y_ : Int) (r0 : Int) (x0 : (Int × Int)) : Option ((Int × Int) ⊕ Int) :=
  if x0.1 ≥ (4294967296 : Int) then
   if IntKind.wrap .u64 (x0.2 + Int.fdiv (IntKind.wrap .u64 (y_ * (2 : Int) ^ min (Int.toNat (IntKind.wrap .u64 r0)) (IntKind.bits .u64))) ((2 : Int) ^ min (32 : Nat) (IntKind.bits .u64))) ≥ (4294967296 : Int) then
    some (.inr (IntKind.wrap .u64 (x0.1 - (1 : Int))))
   else
    some (.inl ((IntKind.wrap .u64 (x0.1 - (1 : Int)), IntKind.wrap .u64 (x0.2 + Int.fdiv (IntKind.wrap .u64 (y_ * (2 : Int) ^ min (Int.toNat (IntKind.wrap .u64 r0)) (IntKind.bits .u64))) ((2 : Int) ^ min (32 : Nat) (IntKind.bits .u64))))))
  else
   if IntKind.wrap .u64 (x0.1 * IntKind.wrap .u64 (↑(BitVec.toNat (BitVec.ofInt (IntKind.bits .u64) (IntKind.wrap .u64 (y_ * (2 : Int) ^ min (Int.toNat (IntKind.wrap .u64 r0)) (IntKind.bits .u64))) &&& BitVec.ofInt (IntKind.bits .u64) (4294967295 : Int))) : Int)) > IntKind.wrap .u64 (IntKind.wrap .u64 ((4294967296 : Int) * x0.2) + Int.fdiv (IntKind.wrap .u64 (lo * (2 : Int) ^ min (Int.toNat (IntKind.wrap .u64 r0)) (IntKind.bits .u64))) ((2 : Int) ^ min (32 : Nat) (IntKind.bits .u64))) then
    if IntKind.wrap .u64 (x0.2 + Int.fdiv (IntKind.wrap .u64 (y_ * (2 : Int) ^ min (Int.toNat (IntKind.wrap .u64 r0)) (IntKind.bits .u64))) ((2 : Int) ^ min (32 : Nat) (IntKind.bits .u64))) ≥ (4294967296 : Int) then
     some (.inr (IntKind.wrap .u64 (x0.1 - (1 : Int))))
    else
     some (.inl ((IntKind.wrap .u64 (x0.1 - (1 : Int)), IntKind.wrap .u64 (x0.2 + Int.fdiv (IntKind.wrap .u64 (y_ * (2 : Int) ^ min (Int.toNat (IntKind.wrap .u64 r0)) (IntKind.bits .u64))) ((2 : Int) ^ min (32 : Nat) (IntKind.bits .u64))))))
   else
    some (.inr x0.1)
def math_bits_Div64_b1 (lo : Int) (y_ : Int) (r0 : Int) (x1 : (Int × Int)) : Option ((Int × Int) ⊕ Int) :=
  if x1.2 ≥ (4294967296 : Int) then
   if IntKind.wrap .u64 (x1.1 + Int.fdiv (IntKind.wrap .u64 (y_ * (2 : Int) ^ min (Int.toNat (IntKind.wrap .u64 r0)) (IntKind.bits .u64))) ((2 : Int) ^ min (32 : Nat) (IntKind.bits .u64))) ≥ (4294967296 : Int) then
    some (.inr (IntKind.wrap .u64 (x1.2 - (1 : Int))))
   else
    some (.inl ((IntKind.wrap .u64 (x1.1 + Int.fdiv (IntKind.wrap .u64 (y_ * (2 : Int) ^ min (Int.toNat (IntKind.wrap .u64 r0)) (IntKind.bits .u64))) ((2 : Int) ^ min (32 : Nat) (IntKind.bits .u64))), IntKind.wrap .u64 (x1.2 - (1 : Int)))))
  else
   if IntKind.wrap .u64 (x1.2 * IntKind.wrap .u64 (↑(BitVec.toNat (BitVec.ofInt (IntKind.bits .u64) (IntKind.wrap .u64 (y_ * (2 : Int) ^ min (Int.toNat (IntKind.wrap .u64 r0)) (IntKind.bits .u64))) &&& BitVec.ofInt (IntKind.bits .u64) (4294967295 : Int))) : Int)) > IntKind.wrap .u64 (IntKind.wrap .u64 ((4294967296 : Int) * x1.1) + IntKind.wrap .u64 (↑(BitVec.toNat (BitVec.ofInt (IntKind.bits .u64) (IntKind.wrap .u64 (lo * (2 : Int) ^ min (Int.toNat (IntKind.wrap .u64 r0)) (IntKind.bits .u64))) &&& BitVec.ofInt (IntKind.bits .u64) (4294967295 : Int))) : Int)) then
    if IntKind.wrap .u64 (x1.1 + Int.fdiv (IntKind.wrap .u64 (y_ * (2 : Int) ^ min (Int.toNat (IntKind.wrap .u64 r0)) (IntKind.bits .u64))) ((2 : Int) ^ min (32 : Nat) (IntKind.bits .u64))) ≥ (4294967296 : Int) then
     some (.inr (IntKind.wrap .u64 (x1.2 - (1 : Int))))
    else
     some (.inl ((IntKind.wrap .u64 (x1.1 + Int.fdiv (IntKind.wrap .u64 (y_ * (2 : Int) ^ min (Int.toNat (IntKind.wrap .u64 r0)) (IntKind.bits .u64))) ((2 : Int) ^ min (32 : Nat) (IntKind.bits .u64))), IntKind.wrap .u64 (x1.2 - (1 : Int)))))
   else
    some (.inr x1.2)
def math_bits_Div64_r1 (hi : Int) (lo : Int) (y_ : Int) (u14 : Int) (r0 : Int) (u42 : Int) : Option (Int × Int) :=
  if (0 : Int) ≤ IntKind.wrap .u64 r0 then
   some ((IntKind.wrap .u64 (IntKind.wrap .u64 (u14 * (4294967296 : Int)) + u42), Int.fdiv (IntKind.wrap .u64 (IntKind.wrap .u64 (IntKind.wrap .u64 (IntKind.wrap .u64 (IntKind.wrap .u64 (IntKind.wrap .u64 (IntKind.wrap .u64 (↑(BitVec.toNat (BitVec.ofInt (IntKind.bits .u64) (IntKind.wrap .u64 (hi * (2 : Int) ^ min (Int.toNat (IntKind.wrap .u64 r0)) (IntKind.bits .u64))) ||| BitVec.ofInt (IntKind.bits .u64) (Int.fdiv lo ((2 : Int) ^ min (Int.toNat (IntKind.wrap .u64 ((64 : Int) - IntKind.wrap .u64 r0))) (IntKind.bits .u64))))) : Int) * (4294967296 : Int)) + Int.fdiv (IntKind.wrap .u64 (lo * (2 : Int) ^ min (Int.toNat (IntKind.wrap .u64 r0)) (IntKind.bits .u64))) ((2 : Int) ^ min (32 : Nat) (IntKind.bits .u64))) - IntKind.wrap .u64 (u14 * IntKind.wrap .u64 (y_ * (2 : Int) ^ min (Int.toNat (IntKind.wrap .u64 r0)) (IntKind.bits .u64)))) * (4294967296 : Int)) + IntKind.wrap .u64 (↑(BitVec.toNat (BitVec.ofInt (IntKind.bits .u64) (IntKind.wrap .u64 (lo * (2 : Int) ^ min (Int.toNat (IntKind.wrap .u64 r0)) (IntKind.bits .u64))) &&& BitVec.ofInt (IntKind.bits .u64) (4294967295 : Int))) : Int)) - IntKind.wrap .u64 (u42 * IntKind.wrap .u64 (y_ * (2 : Int) ^ min (Int.toNat (IntKind.wrap .u64 r0)) (IntKind.bits .u64))))) ((2 : Int) ^ min (Int.toNat (IntKind.wrap .u64 r0)) (IntKind.bits .u64))))
  else none
def math_bits_Div64_r0 (hi : Int) (lo : Int) (y_ : Int) (r0 : Int) (u14 : Int) : Option (Int × Int) :=
  if Int.fdiv (IntKind.wrap .u64 (y_ * (2 : Int) ^ min (Int.toNat (IntKind.wrap .u64 r0)) (IntKind.bits .u64))) ((2 : Int) ^ min (32 : Nat) (IntKind.bits .u64)) ≠ (0 : Int) then
   Option.bind (iter (math_bits_Div64_b1 lo y_ r0) big ((IntKind.wrap .u64 (IntKind.wrap .u64 (IntKind.wrap .u64 (IntKind.wrap .u64 (IntKind.wrap .u64 (↑(BitVec.toNat (BitVec.ofInt (IntKind.bits .u64) (IntKind.wrap .u64 (hi * (2 : Int) ^ min (Int.toNat (IntKind.wrap .u64 r0)) (IntKind.bits .u64))) ||| BitVec.ofInt (IntKind.bits .u64) (Int.fdiv lo ((2 : Int) ^ min (Int.toNat (IntKind.wrap .u64 ((64 : Int) - IntKind.wrap .u64 r0))) (IntKind.bits .u64))))) : Int) * (4294967296 : Int)) + Int.fdiv (IntKind.wrap .u64 (lo * (2 : Int) ^ min (Int.toNat (IntKind.wrap .u64 r0)) (IntKind.bits .u64))) ((2 : Int) ^ min (32 : Nat) (IntKind.bits .u64))) - IntKind.wrap .u64 (u14 * IntKind.wrap .u64 (y_ * (2 : Int) ^ min (Int.toNat (IntKind.wrap .u64 r0)) (IntKind.bits .u64)))) - IntKind.wrap .u64 (IntKind.wrap .u64 (Int.tdiv (IntKind.wrap .u64 (IntKind.wrap .u64 (IntKind.wrap .u64 (IntKind.wrap .u64 (↑(BitVec.toNat (BitVec.ofInt (IntKind.bits .u64) (IntKind.wrap .u64 (hi * (2 : Int) ^ min (Int.toNat (IntKind.wrap .u64 r0)) (IntKind.bits .u64))) ||| BitVec.ofInt (IntKind.bits .u64) (Int.fdiv lo ((2 : Int) ^ min (Int.toNat (IntKind.wrap .u64 ((64 : Int) - IntKind.wrap .u64 r0))) (IntKind.bits .u64))))) : Int) * (4294967296 : Int)) + Int.fdiv (IntKind.wrap .u64 (lo * (2 : Int) ^ min (Int.toNat (IntKind.wrap .u64 r0)) (IntKind.bits .u64))) ((2 : Int) ^ min (32 : Nat) (IntKind.bits .u64))) - IntKind.wrap .u64 (u14 * IntKind.wrap .u64 (y_ * (2 : Int) ^ min (Int.toNat (IntKind.wrap .u64 r0)) (IntKind.bits .u64))))) (Int.fdiv (IntKind.wrap .u64 (y_ * (2 : Int) ^ min (Int.toNat (IntKind.wrap .u64 r0)) (IntKind.bits .u64))) ((2 : Int) ^ min (32 : Nat) (IntKind.bits .u64)))) * Int.fdiv (IntKind.wrap .u64 (y_ * (2 : Int) ^ min (Int.toNat (IntKind.wrap .u64 r0)) (IntKind.bits .u64))) ((2 : Int) ^ min (32 : Nat) (IntKind.bits .u64)))), IntKind.wrap .u64 (Int.tdiv (IntKind.wrap .u64 (IntKind.wrap .u64 (IntKind.wrap .u64 (IntKind.wrap .u64 (↑(BitVec.toNat (BitVec.ofInt (IntKind.bits .u64) (IntKind.wrap .u64 (hi * (2 : Int) ^ min (Int.toNat (IntKind.wrap .u64 r0)) (IntKind.bits .u64))) ||| BitVec.ofInt (IntKind.bits .u64) (Int.fdiv lo ((2 : Int) ^ min (Int.toNat (IntKind.wrap .u64 ((64 : Int) - IntKind.wrap .u64 r0))) (IntKind.bits .u64))))) : Int) * (4294967296 : Int)) + Int.fdiv (IntKind.wrap .u64 (lo * (2 : Int) ^ min (Int.toNat (IntKind.wrap .u64 r0)) (IntKind.bits .u64))) ((2 : Int) ^ min (32 : Nat) (IntKind.bits .u64))) - IntKind.wrap .u64 (u14 * IntKind.wrap .u64 (y_ * (2 : Int) ^ min (Int.toNat (IntKind.wrap .u64 r0)) (IntKind.bits .u64))))) (Int.fdiv (IntKind.wrap .u64 (y_ * (2 : Int) ^ min (Int.toNat (IntKind.wrap .u64 r0)) (IntKind.bits .u64))) ((2 : Int) ^ min (32 : Nat) (IntKind.bits .u64))))))) (math_bits_Div64_r1 hi lo y_ u14 r0)
  else none
def math_bits_Div64 (hi : Int) (lo : Int) (y_ : Int) : Option (Int × Int) :=
  if (y_ == (0 : Int)) = true then
   none   else
   if y_ ≤ hi then
    none    else
    if (hi == (0 : Int)) = true then
     if y_ ≠ (0 : Int) then
      if y_ ≠ (0 : Int) then
       some ((IntKind.wrap .u64 (Int.tdiv lo y_), Int.tmod lo y_))
      else none
     else none
    else
     Option.bind (math_bits_LeadingZeros64 y_) fun r0 =>
     if (0 : Int) ≤ IntKind.wrap .u64 r0 then
      if (0 : Int) ≤ IntKind.wrap .u64 r0 then
       if (0 : Int) ≤ IntKind.wrap .u64 ((64 : Int) - IntKind.wrap .u64 r0) then
        if (0 : Int) ≤ IntKind.wrap .u64 r0 then
         if Int.fdiv (IntKind.wrap .u64 (y_ * (2 : Int) ^ min (Int.toNat (IntKind.wrap .u64 r0)) (IntKind.bits .u64))) ((2 : Int) ^ min (32 : Nat) (IntKind.bits .u64)) ≠ (0 : Int) then
          Option.bind (iter (math_bits_Div64_b0 lo y_ r0) big ((IntKind.wrap .u64 (Int.tdiv (IntKind.wrap .u64 (↑(BitVec.toNat (BitVec.ofInt (IntKind.bits .u64) (IntKind.wrap .u64 (hi * (2 : Int) ^ min (Int.toNat (IntKind.wrap .u64 r0)) (IntKind.bits .u64))) ||| BitVec.ofInt (IntKind.bits .u64) (Int.fdiv lo ((2 : Int) ^ min (Int.toNat (IntKind.wrap .u64 ((64 : Int) - IntKind.wrap .u64 r0))) (IntKind.bits .u64))))) : Int)) (Int.fdiv (IntKind.wrap .u64 (y_ * (2 : Int) ^ min (Int.toNat (IntKind.wrap .u64 r0)) (IntKind.bits .u64))) ((2 : Int) ^ min (32 : Nat) (IntKind.bits .u64)))), IntKind.wrap .u64 (IntKind.wrap .u64 (↑(BitVec.toNat (BitVec.ofInt (IntKind.bits .u64) (IntKind.wrap .u64 (hi * (2 : Int) ^ min (Int.toNat (IntKind.wrap .u64 r0)) (IntKind.bits .u64))) ||| BitVec.ofInt (IntKind.bits .u64) (Int.fdiv lo ((2 : Int) ^ min (Int.toNat (IntKind.wrap .u64 ((64 : Int) - IntKind.wrap .u64 r0))) (IntKind.bits .u64))))) : Int) - IntKind.wrap .u64 (IntKind.wrap .u64 (Int.tdiv (IntKind.wrap .u64 (↑(BitVec.toNat (BitVec.ofInt (IntKind.bits .u64) (IntKind.wrap .u64 (hi * (2 : Int) ^ min (Int.toNat (IntKind.wrap .u64 r0)) (IntKind.bits .u64))) ||| BitVec.ofInt (IntKind.bits .u64) (Int.fdiv lo ((2 : Int) ^ min (Int.toNat (IntKind.wrap .u64 ((64 : Int) - IntKind.wrap .u64 r0))) (IntKind.bits .u64))))) : Int)) (Int.fdiv (IntKind.wrap .u64 (y_ * (2 : Int) ^ min (Int.toNat (IntKind.wrap .u64 r0)) (IntKind.bits .u64))) ((2 : Int) ^ min (32 : Nat) (IntKind.bits .u64)))) * Int.fdiv (IntKind.wrap .u64 (y_ * (2 : Int) ^ min (Int.toNat (IntKind.wrap .u64 r0)) (IntKind.bits .u64))) ((2 : Int) ^ min (32 : Nat) (IntKind.bits .u64))))))) (math_bits_Div64_r0 hi lo y_ r0)
         else none
        else none
       else none
      else none
     else none
def g_math_bits_Div64 : List A → Option (Prop × List RV)
  | [.d (.i .u64 hi), .d (.i .u64 lo), .d (.i .u64 y_)] => some (ok (math_bits_Div64 hi lo y_), [.d (.i .u64 ((val (math_bits_Div64 hi lo y_)).1)), .d (.i .u64 ((val (math_bits_Div64 hi lo y_)).2))])
  | _ => none
abbrev sp_127 : Specs → Specs := addK 127 true (pureK k_math_bits_Div64 g_math_bits_Div64)
set_option maxRecDepth 100000 in
private abbrev e0 (hi : Int) (lo : Int) (y_ : Int) : Int := IntKind.wrap .u64 (IntKind.wrap .u64 (↑(BitVec.toNat (BitVec.ofInt (IntKind.bits .u64) (IntKind.wrap .u64 (hi * (2 : Int) ^ min (Int.toNat (IntKind.wrap .u64 (val (math_bits_LeadingZeros64 y_)))) (IntKind.bits .u64))) ||| BitVec.ofInt (IntKind.bits .u64) (Int.fdiv lo ((2 : Int) ^ min (Int.toNat (IntKind.wrap .u64 ((64 : Int) - IntKind.wrap .u64 (val (math_bits_LeadingZeros64 y_))))) (IntKind.bits .u64))))) : Int) * (4294967296 : Int)) + Int.fdiv (IntKind.wrap .u64 (lo * (2 : Int) ^ min (Int.toNat (IntKind.wrap .u64 (val (math_bits_LeadingZeros64 y_)))) (IntKind.bits .u64))) ((2 : Int) ^ min (32 : Nat) (IntKind.bits .u64))
private abbrev e1 (y_ : Int) : Int := IntKind.wrap .u64 (y_ * (2 : Int) ^ min (Int.toNat (IntKind.wrap .u64 (val (math_bits_LeadingZeros64 y_)))) (IntKind.bits .u64))
private abbrev e2 (y_ : Int) : Int := IntKind.wrap .u64 (val (math_bits_LeadingZeros64 y_))
private abbrev e3  : Int := (2 : Int) ^ min (32 : Nat) (IntKind.bits .u64)
private abbrev e4 (lo : Int) (y_ : Int) : Int := IntKind.wrap .u64 (lo * (2 : Int) ^ min (Int.toNat (e2 y_)) (IntKind.bits .u64))
private abbrev e5 (y_ : Int) : Int := val (math_bits_LeadingZeros64 y_)
private abbrev e6 (lo : Int) (y_ : Int) : Int := Int.fdiv lo ((2 : Int) ^ min (Int.toNat (IntKind.wrap .u64 ((64 : Int) - IntKind.wrap .u64 (e5 y_)))) (IntKind.bits .u64))
private abbrev e7 (hi : Int) (y_ : Int) : Int := IntKind.wrap .u64 (hi * (2 : Int) ^ min (Int.toNat (e2 y_)) (IntKind.bits .u64))
private abbrev e8 (hi : Int) (lo : Int) (y_ : Int) : Int := IntKind.wrap .u64 (↑(BitVec.toNat (BitVec.ofInt (IntKind.bits .u64) (e7 hi y_) ||| BitVec.ofInt (IntKind.bits .u64) (e6 lo y_))) : Int)
private abbrev e9 (y_ : Int) : Int := (2 : Int) ^ min (Int.toNat (e2 y_)) (IntKind.bits .u64)
theorem math_bits_Div64_vc (hi : Int) (lo : Int) (y_ : Int) (r : Int × Int) (h : Option.bind (math_bits_Div64 hi lo y_) some = some r) : runF Tryz.f127 ((sp_150 sp0)) (fun gs id _ => match id with
 | 0 => some ⟨(Int × Int) × Nat, fun z => ⟨[(2, .w (.c (.d (.i .u64 (e1 y_))))), (8, .w (.c (.d (.i .u64 (e2 y_))))), (9, .w (.c (.d (.i .u64 (Int.fdiv (e1 y_) (e3 )))))), (10, .w (.c (.d (.i .u64 (IntKind.wrap .u64 (↑(BitVec.toNat (BitVec.ofInt (IntKind.bits .u64) (e1 y_) &&& BitVec.ofInt (IntKind.bits .u64) (4294967295 : Int))) : Int)))))), (11, .w (.c (.d (.i .u64 (e8 hi lo y_))))), (13, .w (.c (.d (.i .u64 (Int.fdiv (e4 lo y_) (e3 )))))), (14, .w (.c (.d (.i .u64 (IntKind.wrap .u64 (↑(BitVec.toNat (BitVec.ofInt (IntKind.bits .u64) (e4 lo y_) &&& BitVec.ofInt (IntKind.bits .u64) (4294967295 : Int))) : Int)))))), (15, .w (.c (.d (.i .u64 (Prod.fst (Prod.fst z)))))), (16, .w (.c (.d (.i .u64 (Prod.snd (Prod.fst z))))))], [], 3⟩, fun z => Option.bind (iter (math_bits_Div64_b0 lo y_ (e5 y_)) (Prod.snd z) (Prod.fst z)) (fun y0 => Option.bind (math_bits_Div64_r0 hi lo y_ (e5 y_) y0) some) = some r, fun z => Prod.snd z⟩
 | 2 => some ⟨Int × (Int × Int) × Nat, fun z => ⟨[(2, .w (.c (.d (.i .u64 (e1 y_))))), (8, .w (.c (.d (.i .u64 (e2 y_))))), (9, .w (.c (.d (.i .u64 (Int.fdiv (e1 y_) (e3 )))))), (10, .w (.c (.d (.i .u64 (IntKind.wrap .u64 (↑(BitVec.toNat (BitVec.ofInt (IntKind.bits .u64) (e1 y_) &&& BitVec.ofInt (IntKind.bits .u64) (4294967295 : Int))) : Int)))))), (14, .w (.c (.d (.i .u64 (IntKind.wrap .u64 (↑(BitVec.toNat (BitVec.ofInt (IntKind.bits .u64) (e4 lo y_) &&& BitVec.ofInt (IntKind.bits .u64) (4294967295 : Int))) : Int)))))), (15, .w (.c (.d (.i .u64 (Prod.fst z))))), (16, .w (.c (.d (.i .u64 (Prod.fst (Prod.fst (Prod.snd z))))))), (17, .w (.c (.d (.i .u64 (IntKind.wrap .u64 (IntKind.wrap .u64 (e0 hi lo y_) - IntKind.wrap .u64 (Prod.fst z * IntKind.wrap .u64 (y_ * (2 : Int) ^ min (Int.toNat (e2 y_)) (IntKind.bits .u64))))))))), (18, .w (.c (.d (.i .u64 (Prod.snd (Prod.fst (Prod.snd z)))))))], [], 3⟩, fun z => Option.bind (iter (math_bits_Div64_b1 lo y_ (e5 y_)) (Prod.snd (Prod.snd z)) (Prod.fst (Prod.snd z))) (fun y0 => Option.bind (math_bits_Div64_r1 hi lo y_ (Prod.fst z) (e5 y_) y0) some) = some r, fun z => Prod.snd (Prod.snd z)⟩
 | _ => none) [.d (.i .u64 hi), .d (.i .u64 lo), .d (.i .u64 y_)] [.d (.i .u64 r.1), .d (.i .u64 r.2)] := by
  refine Eq.mp (by kernel_rfl : (
 Br (y_ == (0 : Int))
   (False)
 (Br (decide (y_ ≤ hi))
   (False)
 (Br (hi == (0 : Int))
   ((Ob (y_ ≠ (0 : Int)) ∧
 (Ob (y_ ≠ (0 : Int)) ∧
 (Ob (True) ∧
 (Ob (True) ∧
 (Ob (IntKind.wrap .u64 (Int.tdiv lo y_) = r.1) ∧
 (Ob (Int.tmod lo y_ = r.2) ∧
 True)))))))
   ((Ob (ok (math_bits_LeadingZeros64 y_)) ∧
 (Ob (True) ∧
 (Ob ((0 : Int) ≤ IntKind.wrap .u64 (e5 y_)) ∧
 (Ob ((0 : Int) ≤ (32 : Int)) ∧
 (Ob ((0 : Int) ≤ IntKind.wrap .u64 (e5 y_)) ∧
 (Ob ((0 : Int) ≤ IntKind.wrap .u64 ((64 : Int) - IntKind.wrap .u64 (e5 y_))) ∧
 (Ob ((0 : Int) ≤ IntKind.wrap .u64 (e5 y_)) ∧
 (Ob ((0 : Int) ≤ (32 : Int)) ∧
 (Ob (Int.fdiv (e1 y_) (e3 ) ≠ (0 : Int)) ∧
   ((∃ (v0 : (Int × Int) × Nat), (Ob ((Option.bind (iter (math_bits_Div64_b0 lo y_ (e5 y_)) v0.2 v0.1) fun y0 => Option.bind (math_bits_Div64_r0 hi lo y_ (e5 y_) y0) some) = some r) ∧
 (Ob (IntKind.wrap .u64 (y_ * (2 : Int) ^ min (Int.toNat (e2 y_)) (IntKind.bits .u64)) = IntKind.wrap .u64 (y_ * (2 : Int) ^ min (Int.toNat (e2 y_)) (IntKind.bits .u64))) ∧
 (Ob (IntKind.wrap .u64 (e5 y_) = IntKind.wrap .u64 (e5 y_)) ∧
 (Ob (Int.fdiv (e1 y_) (e3 ) = Int.fdiv (e1 y_) (e3 )) ∧
 (Ob (IntKind.wrap .u64 (↑(BitVec.toNat (BitVec.ofInt (IntKind.bits .u64) (e1 y_) &&& BitVec.ofInt (IntKind.bits .u64) (4294967295 : Int))) : Int) = IntKind.wrap .u64 (↑(BitVec.toNat (BitVec.ofInt (IntKind.bits .u64) (e1 y_) &&& BitVec.ofInt (IntKind.bits .u64) (4294967295 : Int))) : Int)) ∧
 (Ob (IntKind.wrap .u64 (↑(BitVec.toNat (BitVec.ofInt (IntKind.bits .u64) (e7 hi y_) ||| BitVec.ofInt (IntKind.bits .u64) (e6 lo y_))) : Int) = IntKind.wrap .u64 (↑(BitVec.toNat (BitVec.ofInt (IntKind.bits .u64) (e7 hi y_) ||| BitVec.ofInt (IntKind.bits .u64) (e6 lo y_))) : Int)) ∧
 (Ob (Int.fdiv (e4 lo y_) (e3 ) = Int.fdiv (e4 lo y_) (e3 )) ∧
 (Ob (IntKind.wrap .u64 (↑(BitVec.toNat (BitVec.ofInt (IntKind.bits .u64) (e4 lo y_) &&& BitVec.ofInt (IntKind.bits .u64) (4294967295 : Int))) : Int) = IntKind.wrap .u64 (↑(BitVec.toNat (BitVec.ofInt (IntKind.bits .u64) (e4 lo y_) &&& BitVec.ofInt (IntKind.bits .u64) (4294967295 : Int))) : Int)) ∧
 (Ob (IntKind.wrap .u64 (Int.tdiv (e8 hi lo y_) (Int.fdiv (e1 y_) (e3 ))) = v0.1.1) ∧
 (Ob (IntKind.wrap .u64 (IntKind.wrap .u64 (↑(BitVec.toNat (BitVec.ofInt (IntKind.bits .u64) (e7 hi y_) ||| BitVec.ofInt (IntKind.bits .u64) (e6 lo y_))) : Int) - IntKind.wrap .u64 (IntKind.wrap .u64 (Int.tdiv (e8 hi lo y_) (Int.fdiv (e1 y_) (e3 ))) * Int.fdiv (e1 y_) (e3 ))) = v0.1.2) ∧
 True))))))))))) ∧
   (∀ (v0 : (Int × Int) × Nat), ((Option.bind (iter (math_bits_Div64_b0 lo y_ (e5 y_)) v0.2 v0.1) fun y0 => Option.bind (math_bits_Div64_r0 hi lo y_ (e5 y_) y0) some) = some r →
 Br (decide (v0.1.1 ≥ (4294967296 : Int)))
 (Br (decide (IntKind.wrap .u64 (v0.1.2 + Int.fdiv (e1 y_) (e3 )) ≥ (4294967296 : Int)))
   ((Ob (Int.fdiv (e1 y_) (e3 ) ≠ (0 : Int)) ∧
   ((∃ (v1 : Int × (Int × Int) × Nat), (Ob ((Option.bind (iter (math_bits_Div64_b1 lo y_ (e5 y_)) v1.2.2 v1.2.1) fun y0 => Option.bind (math_bits_Div64_r1 hi lo y_ v1.1 (e5 y_) y0) some) = some r) ∧
 (Ob (IntKind.wrap .u64 (y_ * (2 : Int) ^ min (Int.toNat (e2 y_)) (IntKind.bits .u64)) = IntKind.wrap .u64 (y_ * (2 : Int) ^ min (Int.toNat (e2 y_)) (IntKind.bits .u64))) ∧
 (Ob (IntKind.wrap .u64 (e5 y_) = IntKind.wrap .u64 (e5 y_)) ∧
 (Ob (Int.fdiv (e1 y_) (e3 ) = Int.fdiv (e1 y_) (e3 )) ∧
 (Ob (IntKind.wrap .u64 (↑(BitVec.toNat (BitVec.ofInt (IntKind.bits .u64) (e1 y_) &&& BitVec.ofInt (IntKind.bits .u64) (4294967295 : Int))) : Int) = IntKind.wrap .u64 (↑(BitVec.toNat (BitVec.ofInt (IntKind.bits .u64) (e1 y_) &&& BitVec.ofInt (IntKind.bits .u64) (4294967295 : Int))) : Int)) ∧
 (Ob (IntKind.wrap .u64 (↑(BitVec.toNat (BitVec.ofInt (IntKind.bits .u64) (e4 lo y_) &&& BitVec.ofInt (IntKind.bits .u64) (4294967295 : Int))) : Int) = IntKind.wrap .u64 (↑(BitVec.toNat (BitVec.ofInt (IntKind.bits .u64) (e4 lo y_) &&& BitVec.ofInt (IntKind.bits .u64) (4294967295 : Int))) : Int)) ∧
 (Ob (IntKind.wrap .u64 (v0.1.1 - (1 : Int)) = v1.1) ∧
 (Ob (IntKind.wrap .u64 (IntKind.wrap .u64 (IntKind.wrap .u64 (e0 hi lo y_) - IntKind.wrap .u64 (IntKind.wrap .u64 (v0.1.1 - (1 : Int)) * IntKind.wrap .u64 (y_ * (2 : Int) ^ min (Int.toNat (e2 y_)) (IntKind.bits .u64)))) - IntKind.wrap .u64 (IntKind.wrap .u64 (Int.tdiv (IntKind.wrap .u64 (IntKind.wrap .u64 (e0 hi lo y_) - IntKind.wrap .u64 (IntKind.wrap .u64 (v0.1.1 - (1 : Int)) * IntKind.wrap .u64 (y_ * (2 : Int) ^ min (Int.toNat (e2 y_)) (IntKind.bits .u64))))) (Int.fdiv (e1 y_) (e3 ))) * Int.fdiv (e1 y_) (e3 ))) = v1.2.1.1) ∧
 (Ob (IntKind.wrap .u64 (IntKind.wrap .u64 (e0 hi lo y_) - IntKind.wrap .u64 (IntKind.wrap .u64 (v0.1.1 - (1 : Int)) * IntKind.wrap .u64 (y_ * (2 : Int) ^ min (Int.toNat (e2 y_)) (IntKind.bits .u64)))) = IntKind.wrap .u64 (IntKind.wrap .u64 (e0 hi lo y_) - IntKind.wrap .u64 (v1.1 * IntKind.wrap .u64 (y_ * (2 : Int) ^ min (Int.toNat (e2 y_)) (IntKind.bits .u64))))) ∧
 (Ob (IntKind.wrap .u64 (Int.tdiv (IntKind.wrap .u64 (IntKind.wrap .u64 (e0 hi lo y_) - IntKind.wrap .u64 (IntKind.wrap .u64 (v0.1.1 - (1 : Int)) * IntKind.wrap .u64 (y_ * (2 : Int) ^ min (Int.toNat (e2 y_)) (IntKind.bits .u64))))) (Int.fdiv (e1 y_) (e3 ))) = v1.2.1.2) ∧
 True))))))))))) ∧
   (∀ (v1 : Int × (Int × Int) × Nat), ((Option.bind (iter (math_bits_Div64_b1 lo y_ (e5 y_)) v1.2.2 v1.2.1) fun y0 => Option.bind (math_bits_Div64_r1 hi lo y_ v1.1 (e5 y_) y0) some) = some r →
 Br (decide (v1.2.1.2 ≥ (4294967296 : Int)))
 (Br (decide (IntKind.wrap .u64 (v1.2.1.1 + Int.fdiv (e1 y_) (e3 )) ≥ (4294967296 : Int)))
   ((Ob ((0 : Int) ≤ IntKind.wrap .u64 (e5 y_)) ∧
 (Ob (True) ∧
 (Ob (True) ∧
 (Ob (IntKind.wrap .u64 (IntKind.wrap .u64 (v1.1 * (4294967296 : Int)) + IntKind.wrap .u64 (v1.2.1.2 - (1 : Int))) = r.1) ∧
 (Ob (Int.fdiv (IntKind.wrap .u64 (IntKind.wrap .u64 (IntKind.wrap .u64 (IntKind.wrap .u64 (IntKind.wrap .u64 (e0 hi lo y_) - IntKind.wrap .u64 (v1.1 * IntKind.wrap .u64 (y_ * (2 : Int) ^ min (Int.toNat (e2 y_)) (IntKind.bits .u64)))) * (4294967296 : Int)) + IntKind.wrap .u64 (↑(BitVec.toNat (BitVec.ofInt (IntKind.bits .u64) (e4 lo y_) &&& BitVec.ofInt (IntKind.bits .u64) (4294967295 : Int))) : Int)) - IntKind.wrap .u64 (IntKind.wrap .u64 (v1.2.1.2 - (1 : Int)) * IntKind.wrap .u64 (y_ * (2 : Int) ^ min (Int.toNat (e2 y_)) (IntKind.bits .u64))))) (e9 y_) = r.2) ∧
 True))))))
   ((∃ (v2 : Int × (Int × Int) × Nat), (Ob ((Option.bind (iter (math_bits_Div64_b1 lo y_ (e5 y_)) v2.2.2 v2.2.1) fun y0 => Option.bind (math_bits_Div64_r1 hi lo y_ v2.1 (e5 y_) y0) some) = some r) ∧
 (Ob (v2.2.2 < v1.2.2) ∧
 (Ob (IntKind.wrap .u64 (y_ * (2 : Int) ^ min (Int.toNat (e2 y_)) (IntKind.bits .u64)) = IntKind.wrap .u64 (y_ * (2 : Int) ^ min (Int.toNat (e2 y_)) (IntKind.bits .u64))) ∧
 (Ob (IntKind.wrap .u64 (e5 y_) = IntKind.wrap .u64 (e5 y_)) ∧
 (Ob (Int.fdiv (e1 y_) (e3 ) = Int.fdiv (e1 y_) (e3 )) ∧
 (Ob (IntKind.wrap .u64 (↑(BitVec.toNat (BitVec.ofInt (IntKind.bits .u64) (e1 y_) &&& BitVec.ofInt (IntKind.bits .u64) (4294967295 : Int))) : Int) = IntKind.wrap .u64 (↑(BitVec.toNat (BitVec.ofInt (IntKind.bits .u64) (e1 y_) &&& BitVec.ofInt (IntKind.bits .u64) (4294967295 : Int))) : Int)) ∧
 (Ob (IntKind.wrap .u64 (↑(BitVec.toNat (BitVec.ofInt (IntKind.bits .u64) (e4 lo y_) &&& BitVec.ofInt (IntKind.bits .u64) (4294967295 : Int))) : Int) = IntKind.wrap .u64 (↑(BitVec.toNat (BitVec.ofInt (IntKind.bits .u64) (e4 lo y_) &&& BitVec.ofInt (IntKind.bits .u64) (4294967295 : Int))) : Int)) ∧
 (Ob (v1.1 = v2.1) ∧
 (Ob (IntKind.wrap .u64 (v1.2.1.1 + Int.fdiv (e1 y_) (e3 )) = v2.2.1.1) ∧
 (Ob (IntKind.wrap .u64 (IntKind.wrap .u64 (e0 hi lo y_) - IntKind.wrap .u64 (v1.1 * IntKind.wrap .u64 (y_ * (2 : Int) ^ min (Int.toNat (e2 y_)) (IntKind.bits .u64)))) = IntKind.wrap .u64 (IntKind.wrap .u64 (e0 hi lo y_) - IntKind.wrap .u64 (v2.1 * IntKind.wrap .u64 (y_ * (2 : Int) ^ min (Int.toNat (e2 y_)) (IntKind.bits .u64))))) ∧
 (Ob (IntKind.wrap .u64 (v1.2.1.2 - (1 : Int)) = v2.2.1.2) ∧
 True))))))))))))))
 (Br (decide (IntKind.wrap .u64 (v1.2.1.2 * IntKind.wrap .u64 (↑(BitVec.toNat (BitVec.ofInt (IntKind.bits .u64) (e1 y_) &&& BitVec.ofInt (IntKind.bits .u64) (4294967295 : Int))) : Int)) > IntKind.wrap .u64 (IntKind.wrap .u64 ((4294967296 : Int) * v1.2.1.1) + IntKind.wrap .u64 (↑(BitVec.toNat (BitVec.ofInt (IntKind.bits .u64) (e4 lo y_) &&& BitVec.ofInt (IntKind.bits .u64) (4294967295 : Int))) : Int))))
 (Br (decide (IntKind.wrap .u64 (v1.2.1.1 + Int.fdiv (e1 y_) (e3 )) ≥ (4294967296 : Int)))
   ((Ob ((0 : Int) ≤ IntKind.wrap .u64 (e5 y_)) ∧
 (Ob (True) ∧
 (Ob (True) ∧
 (Ob (IntKind.wrap .u64 (IntKind.wrap .u64 (v1.1 * (4294967296 : Int)) + IntKind.wrap .u64 (v1.2.1.2 - (1 : Int))) = r.1) ∧
 (Ob (Int.fdiv (IntKind.wrap .u64 (IntKind.wrap .u64 (IntKind.wrap .u64 (IntKind.wrap .u64 (IntKind.wrap .u64 (e0 hi lo y_) - IntKind.wrap .u64 (v1.1 * IntKind.wrap .u64 (y_ * (2 : Int) ^ min (Int.toNat (e2 y_)) (IntKind.bits .u64)))) * (4294967296 : Int)) + IntKind.wrap .u64 (↑(BitVec.toNat (BitVec.ofInt (IntKind.bits .u64) (e4 lo y_) &&& BitVec.ofInt (IntKind.bits .u64) (4294967295 : Int))) : Int)) - IntKind.wrap .u64 (IntKind.wrap .u64 (v1.2.1.2 - (1 : Int)) * IntKind.wrap .u64 (y_ * (2 : Int) ^ min (Int.toNat (e2 y_)) (IntKind.bits .u64))))) (e9 y_) = r.2) ∧
 True))))))
   ((∃ (v2 : Int × (Int × Int) × Nat), (Ob ((Option.bind (iter (math_bits_Div64_b1 lo y_ (e5 y_)) v2.2.2 v2.2.1) fun y0 => Option.bind (math_bits_Div64_r1 hi lo y_ v2.1 (e5 y_) y0) some) = some r) ∧
 (Ob (v2.2.2 < v1.2.2) ∧
 (Ob (IntKind.wrap .u64 (y_ * (2 : Int) ^ min (Int.toNat (e2 y_)) (IntKind.bits .u64)) = IntKind.wrap .u64 (y_ * (2 : Int) ^ min (Int.toNat (e2 y_)) (IntKind.bits .u64))) ∧
 (Ob (IntKind.wrap .u64 (e5 y_) = IntKind.wrap .u64 (e5 y_)) ∧
 (Ob (Int.fdiv (e1 y_) (e3 ) = Int.fdiv (e1 y_) (e3 )) ∧
 (Ob (IntKind.wrap .u64 (↑(BitVec.toNat (BitVec.ofInt (IntKind.bits .u64) (e1 y_) &&& BitVec.ofInt (IntKind.bits .u64) (4294967295 : Int))) : Int) = IntKind.wrap .u64 (↑(BitVec.toNat (BitVec.ofInt (IntKind.bits .u64) (e1 y_) &&& BitVec.ofInt (IntKind.bits .u64) (4294967295 : Int))) : Int)) ∧
 (Ob (IntKind.wrap .u64 (↑(BitVec.toNat (BitVec.ofInt (IntKind.bits .u64) (e4 lo y_) &&& BitVec.ofInt (IntKind.bits .u64) (4294967295 : Int))) : Int) = IntKind.wrap .u64 (↑(BitVec.toNat (BitVec.ofInt (IntKind.bits .u64) (e4 lo y_) &&& BitVec.ofInt (IntKind.bits .u64) (4294967295 : Int))) : Int)) ∧
 (Ob (v1.1 = v2.1) ∧
 (Ob (IntKind.wrap .u64 (v1.2.1.1 + Int.fdiv (e1 y_) (e3 )) = v2.2.1.1) ∧
 (Ob (IntKind.wrap .u64 (IntKind.wrap .u64 (e0 hi lo y_) - IntKind.wrap .u64 (v1.1 * IntKind.wrap .u64 (y_ * (2 : Int) ^ min (Int.toNat (e2 y_)) (IntKind.bits .u64)))) = IntKind.wrap .u64 (IntKind.wrap .u64 (e0 hi lo y_) - IntKind.wrap .u64 (v2.1 * IntKind.wrap .u64 (y_ * (2 : Int) ^ min (Int.toNat (e2 y_)) (IntKind.bits .u64))))) ∧
 (Ob (IntKind.wrap .u64 (v1.2.1.2 - (1 : Int)) = v2.2.1.2) ∧
 True))))))))))))))
   ((Ob ((0 : Int) ≤ IntKind.wrap .u64 (e5 y_)) ∧
 (Ob (True) ∧
 (Ob (True) ∧
 (Ob (IntKind.wrap .u64 (IntKind.wrap .u64 (v1.1 * (4294967296 : Int)) + v1.2.1.2) = r.1) ∧
 (Ob (Int.fdiv (IntKind.wrap .u64 (IntKind.wrap .u64 (IntKind.wrap .u64 (IntKind.wrap .u64 (IntKind.wrap .u64 (e0 hi lo y_) - IntKind.wrap .u64 (v1.1 * IntKind.wrap .u64 (y_ * (2 : Int) ^ min (Int.toNat (e2 y_)) (IntKind.bits .u64)))) * (4294967296 : Int)) + IntKind.wrap .u64 (↑(BitVec.toNat (BitVec.ofInt (IntKind.bits .u64) (e4 lo y_) &&& BitVec.ofInt (IntKind.bits .u64) (4294967295 : Int))) : Int)) - IntKind.wrap .u64 (v1.2.1.2 * IntKind.wrap .u64 (y_ * (2 : Int) ^ min (Int.toNat (e2 y_)) (IntKind.bits .u64))))) (e9 y_) = r.2) ∧
 True))))))))))))
   ((∃ (v1 : (Int × Int) × Nat), (Ob ((Option.bind (iter (math_bits_Div64_b0 lo y_ (e5 y_)) v1.2 v1.1) fun y0 => Option.bind (math_bits_Div64_r0 hi lo y_ (e5 y_) y0) some) = some r) ∧
 (Ob (v1.2 < v0.2) ∧
 (Ob (IntKind.wrap .u64 (y_ * (2 : Int) ^ min (Int.toNat (e2 y_)) (IntKind.bits .u64)) = IntKind.wrap .u64 (y_ * (2 : Int) ^ min (Int.toNat (e2 y_)) (IntKind.bits .u64))) ∧
 (Ob (IntKind.wrap .u64 (e5 y_) = IntKind.wrap .u64 (e5 y_)) ∧
 (Ob (Int.fdiv (e1 y_) (e3 ) = Int.fdiv (e1 y_) (e3 )) ∧
 (Ob (IntKind.wrap .u64 (↑(BitVec.toNat (BitVec.ofInt (IntKind.bits .u64) (e1 y_) &&& BitVec.ofInt (IntKind.bits .u64) (4294967295 : Int))) : Int) = IntKind.wrap .u64 (↑(BitVec.toNat (BitVec.ofInt (IntKind.bits .u64) (e1 y_) &&& BitVec.ofInt (IntKind.bits .u64) (4294967295 : Int))) : Int)) ∧
 (Ob (IntKind.wrap .u64 (↑(BitVec.toNat (BitVec.ofInt (IntKind.bits .u64) (e7 hi y_) ||| BitVec.ofInt (IntKind.bits .u64) (e6 lo y_))) : Int) = IntKind.wrap .u64 (↑(BitVec.toNat (BitVec.ofInt (IntKind.bits .u64) (e7 hi y_) ||| BitVec.ofInt (IntKind.bits .u64) (e6 lo y_))) : Int)) ∧
 (Ob (Int.fdiv (e4 lo y_) (e3 ) = Int.fdiv (e4 lo y_) (e3 )) ∧
 (Ob (IntKind.wrap .u64 (↑(BitVec.toNat (BitVec.ofInt (IntKind.bits .u64) (e4 lo y_) &&& BitVec.ofInt (IntKind.bits .u64) (4294967295 : Int))) : Int) = IntKind.wrap .u64 (↑(BitVec.toNat (BitVec.ofInt (IntKind.bits .u64) (e4 lo y_) &&& BitVec.ofInt (IntKind.bits .u64) (4294967295 : Int))) : Int)) ∧
 (Ob (IntKind.wrap .u64 (v0.1.1 - (1 : Int)) = v1.1.1) ∧
 (Ob (IntKind.wrap .u64 (v0.1.2 + Int.fdiv (e1 y_) (e3 )) = v1.1.2) ∧
 True))))))))))))))
 (Br (decide (IntKind.wrap .u64 (v0.1.1 * IntKind.wrap .u64 (↑(BitVec.toNat (BitVec.ofInt (IntKind.bits .u64) (e1 y_) &&& BitVec.ofInt (IntKind.bits .u64) (4294967295 : Int))) : Int)) > IntKind.wrap .u64 (IntKind.wrap .u64 ((4294967296 : Int) * v0.1.2) + Int.fdiv (e4 lo y_) (e3 ))))
 (Br (decide (IntKind.wrap .u64 (v0.1.2 + Int.fdiv (e1 y_) (e3 )) ≥ (4294967296 : Int)))
   ((Ob (Int.fdiv (e1 y_) (e3 ) ≠ (0 : Int)) ∧
   ((∃ (v1 : Int × (Int × Int) × Nat), (Ob ((Option.bind (iter (math_bits_Div64_b1 lo y_ (e5 y_)) v1.2.2 v1.2.1) fun y0 => Option.bind (math_bits_Div64_r1 hi lo y_ v1.1 (e5 y_) y0) some) = some r) ∧
 (Ob (IntKind.wrap .u64 (y_ * (2 : Int) ^ min (Int.toNat (e2 y_)) (IntKind.bits .u64)) = IntKind.wrap .u64 (y_ * (2 : Int) ^ min (Int.toNat (e2 y_)) (IntKind.bits .u64))) ∧
 (Ob (IntKind.wrap .u64 (e5 y_) = IntKind.wrap .u64 (e5 y_)) ∧
 (Ob (Int.fdiv (e1 y_) (e3 ) = Int.fdiv (e1 y_) (e3 )) ∧
 (Ob (IntKind.wrap .u64 (↑(BitVec.toNat (BitVec.ofInt (IntKind.bits .u64) (e1 y_) &&& BitVec.ofInt (IntKind.bits .u64) (4294967295 : Int))) : Int) = IntKind.wrap .u64 (↑(BitVec.toNat (BitVec.ofInt (IntKind.bits .u64) (e1 y_) &&& BitVec.ofInt (IntKind.bits .u64) (4294967295 : Int))) : Int)) ∧
 (Ob (IntKind.wrap .u64 (↑(BitVec.toNat (BitVec.ofInt (IntKind.bits .u64) (e4 lo y_) &&& BitVec.ofInt (IntKind.bits .u64) (4294967295 : Int))) : Int) = IntKind.wrap .u64 (↑(BitVec.toNat (BitVec.ofInt (IntKind.bits .u64) (e4 lo y_) &&& BitVec.ofInt (IntKind.bits .u64) (4294967295 : Int))) : Int)) ∧
 (Ob (IntKind.wrap .u64 (v0.1.1 - (1 : Int)) = v1.1) ∧
 (Ob (IntKind.wrap .u64 (IntKind.wrap .u64 (IntKind.wrap .u64 (e0 hi lo y_) - IntKind.wrap .u64 (IntKind.wrap .u64 (v0.1.1 - (1 : Int)) * IntKind.wrap .u64 (y_ * (2 : Int) ^ min (Int.toNat (e2 y_)) (IntKind.bits .u64)))) - IntKind.wrap .u64 (IntKind.wrap .u64 (Int.tdiv (IntKind.wrap .u64 (IntKind.wrap .u64 (e0 hi lo y_) - IntKind.wrap .u64 (IntKind.wrap .u64 (v0.1.1 - (1 : Int)) * IntKind.wrap .u64 (y_ * (2 : Int) ^ min (Int.toNat (e2 y_)) (IntKind.bits .u64))))) (Int.fdiv (e1 y_) (e3 ))) * Int.fdiv (e1 y_) (e3 ))) = v1.2.1.1) ∧
 (Ob (IntKind.wrap .u64 (IntKind.wrap .u64 (e0 hi lo y_) - IntKind.wrap .u64 (IntKind.wrap .u64 (v0.1.1 - (1 : Int)) * IntKind.wrap .u64 (y_ * (2 : Int) ^ min (Int.toNat (e2 y_)) (IntKind.bits .u64)))) = IntKind.wrap .u64 (IntKind.wrap .u64 (e0 hi lo y_) - IntKind.wrap .u64 (v1.1 * IntKind.wrap .u64 (y_ * (2 : Int) ^ min (Int.toNat (e2 y_)) (IntKind.bits .u64))))) ∧
 (Ob (IntKind.wrap .u64 (Int.tdiv (IntKind.wrap .u64 (IntKind.wrap .u64 (e0 hi lo y_) - IntKind.wrap .u64 (IntKind.wrap .u64 (v0.1.1 - (1 : Int)) * IntKind.wrap .u64 (y_ * (2 : Int) ^ min (Int.toNat (e2 y_)) (IntKind.bits .u64))))) (Int.fdiv (e1 y_) (e3 ))) = v1.2.1.2) ∧
 True))))))))))) ∧
   (∀ (v1 : Int × (Int × Int) × Nat), ((Option.bind (iter (math_bits_Div64_b1 lo y_ (e5 y_)) v1.2.2 v1.2.1) fun y0 => Option.bind (math_bits_Div64_r1 hi lo y_ v1.1 (e5 y_) y0) some) = some r →
 Br (decide (v1.2.1.2 ≥ (4294967296 : Int)))
 (Br (decide (IntKind.wrap .u64 (v1.2.1.1 + Int.fdiv (e1 y_) (e3 )) ≥ (4294967296 : Int)))
   ((Ob ((0 : Int) ≤ IntKind.wrap .u64 (e5 y_)) ∧
 (Ob (True) ∧
 (Ob (True) ∧
 (Ob (IntKind.wrap .u64 (IntKind.wrap .u64 (v1.1 * (4294967296 : Int)) + IntKind.wrap .u64 (v1.2.1.2 - (1 : Int))) = r.1) ∧
 (Ob (Int.fdiv (IntKind.wrap .u64 (IntKind.wrap .u64 (IntKind.wrap .u64 (IntKind.wrap .u64 (IntKind.wrap .u64 (e0 hi lo y_) - IntKind.wrap .u64 (v1.1 * IntKind.wrap .u64 (y_ * (2 : Int) ^ min (Int.toNat (e2 y_)) (IntKind.bits .u64)))) * (4294967296 : Int)) + IntKind.wrap .u64 (↑(BitVec.toNat (BitVec.ofInt (IntKind.bits .u64) (e4 lo y_) &&& BitVec.ofInt (IntKind.bits .u64) (4294967295 : Int))) : Int)) - IntKind.wrap .u64 (IntKind.wrap .u64 (v1.2.1.2 - (1 : Int)) * IntKind.wrap .u64 (y_ * (2 : Int) ^ min (Int.toNat (e2 y_)) (IntKind.bits .u64))))) (e9 y_) = r.2) ∧
 True))))))
   ((∃ (v2 : Int × (Int × Int) × Nat), (Ob ((Option.bind (iter (math_bits_Div64_b1 lo y_ (e5 y_)) v2.2.2 v2.2.1) fun y0 => Option.bind (math_bits_Div64_r1 hi lo y_ v2.1 (e5 y_) y0) some) = some r) ∧
 (Ob (v2.2.2 < v1.2.2) ∧
 (Ob (IntKind.wrap .u64 (y_ * (2 : Int) ^ min (Int.toNat (e2 y_)) (IntKind.bits .u64)) = IntKind.wrap .u64 (y_ * (2 : Int) ^ min (Int.toNat (e2 y_)) (IntKind.bits .u64))) ∧
 (Ob (IntKind.wrap .u64 (e5 y_) = IntKind.wrap .u64 (e5 y_)) ∧
 (Ob (Int.fdiv (e1 y_) (e3 ) = Int.fdiv (e1 y_) (e3 )) ∧
 (Ob (IntKind.wrap .u64 (↑(BitVec.toNat (BitVec.ofInt (IntKind.bits .u64) (e1 y_) &&& BitVec.ofInt (IntKind.bits .u64) (4294967295 : Int))) : Int) = IntKind.wrap .u64 (↑(BitVec.toNat (BitVec.ofInt (IntKind.bits .u64) (e1 y_) &&& BitVec.ofInt (IntKind.bits .u64) (4294967295 : Int))) : Int)) ∧
 (Ob (IntKind.wrap .u64 (↑(BitVec.toNat (BitVec.ofInt (IntKind.bits .u64) (e4 lo y_) &&& BitVec.ofInt (IntKind.bits .u64) (4294967295 : Int))) : Int) = IntKind.wrap .u64 (↑(BitVec.toNat (BitVec.ofInt (IntKind.bits .u64) (e4 lo y_) &&& BitVec.ofInt (IntKind.bits .u64) (4294967295 : Int))) : Int)) ∧
 (Ob (v1.1 = v2.1) ∧
 (Ob (IntKind.wrap .u64 (v1.2.1.1 + Int.fdiv (e1 y_) (e3 )) = v2.2.1.1) ∧
 (Ob (IntKind.wrap .u64 (IntKind.wrap .u64 (e0 hi lo y_) - IntKind.wrap .u64 (v1.1 * IntKind.wrap .u64 (y_ * (2 : Int) ^ min (Int.toNat (e2 y_)) (IntKind.bits .u64)))) = IntKind.wrap .u64 (IntKind.wrap .u64 (e0 hi lo y_) - IntKind.wrap .u64 (v2.1 * IntKind.wrap .u64 (y_ * (2 : Int) ^ min (Int.toNat (e2 y_)) (IntKind.bits .u64))))) ∧
 (Ob (IntKind.wrap .u64 (v1.2.1.2 - (1 : Int)) = v2.2.1.2) ∧
 True))))))))))))))
 (Br (decide (IntKind.wrap .u64 (v1.2.1.2 * IntKind.wrap .u64 (↑(BitVec.toNat (BitVec.ofInt (IntKind.bits .u64) (e1 y_) &&& BitVec.ofInt (IntKind.bits .u64) (4294967295 : Int))) : Int)) > IntKind.wrap .u64 (IntKind.wrap .u64 ((4294967296 : Int) * v1.2.1.1) + IntKind.wrap .u64 (↑(BitVec.toNat (BitVec.ofInt (IntKind.bits .u64) (e4 lo y_) &&& BitVec.ofInt (IntKind.bits .u64) (4294967295 : Int))) : Int))))
 (Br (decide (IntKind.wrap .u64 (v1.2.1.1 + Int.fdiv (e1 y_) (e3 )) ≥ (4294967296 : Int)))
   ((Ob ((0 : Int) ≤ IntKind.wrap .u64 (e5 y_)) ∧
 (Ob (True) ∧
 (Ob (True) ∧
 (Ob (IntKind.wrap .u64 (IntKind.wrap .u64 (v1.1 * (4294967296 : Int)) + IntKind.wrap .u64 (v1.2.1.2 - (1 : Int))) = r.1) ∧
 (Ob (Int.fdiv (IntKind.wrap .u64 (IntKind.wrap .u64 (IntKind.wrap .u64 (IntKind.wrap .u64 (IntKind.wrap .u64 (e0 hi lo y_) - IntKind.wrap .u64 (v1.1 * IntKind.wrap .u64 (y_ * (2 : Int) ^ min (Int.toNat (e2 y_)) (IntKind.bits .u64)))) * (4294967296 : Int)) + IntKind.wrap .u64 (↑(BitVec.toNat (BitVec.ofInt (IntKind.bits .u64) (e4 lo y_) &&& BitVec.ofInt (IntKind.bits .u64) (4294967295 : Int))) : Int)) - IntKind.wrap .u64 (IntKind.wrap .u64 (v1.2.1.2 - (1 : Int)) * IntKind.wrap .u64 (y_ * (2 : Int) ^ min (Int.toNat (e2 y_)) (IntKind.bits .u64))))) (e9 y_) = r.2) ∧
 True))))))
   ((∃ (v2 : Int × (Int × Int) × Nat), (Ob ((Option.bind (iter (math_bits_Div64_b1 lo y_ (e5 y_)) v2.2.2 v2.2.1) fun y0 => Option.bind (math_bits_Div64_r1 hi lo y_ v2.1 (e5 y_) y0) some) = some r) ∧
 (Ob (v2.2.2 < v1.2.2) ∧
 (Ob (IntKind.wrap .u64 (y_ * (2 : Int) ^ min (Int.toNat (e2 y_)) (IntKind.bits .u64)) = IntKind.wrap .u64 (y_ * (2 : Int) ^ min (Int.toNat (e2 y_)) (IntKind.bits .u64))) ∧
 (Ob (IntKind.wrap .u64 (e5 y_) = IntKind.wrap .u64 (e5 y_)) ∧
 (Ob (Int.fdiv (e1 y_) (e3 ) = Int.fdiv (e1 y_) (e3 )) ∧
 (Ob (IntKind.wrap .u64 (↑(BitVec.toNat (BitVec.ofInt (IntKind.bits .u64) (e1 y_) &&& BitVec.ofInt (IntKind.bits .u64) (4294967295 : Int))) : Int) = IntKind.wrap .u64 (↑(BitVec.toNat (BitVec.ofInt (IntKind.bits .u64) (e1 y_) &&& BitVec.ofInt (IntKind.bits .u64) (4294967295 : Int))) : Int)) ∧
 (Ob (IntKind.wrap .u64 (↑(BitVec.toNat (BitVec.ofInt (IntKind.bits .u64) (e4 lo y_) &&& BitVec.ofInt (IntKind.bits .u64) (4294967295 : Int))) : Int) = IntKind.wrap .u64 (↑(BitVec.toNat (BitVec.ofInt (IntKind.bits .u64) (e4 lo y_) &&& BitVec.ofInt (IntKind.bits .u64) (4294967295 : Int))) : Int)) ∧
 (Ob (v1.1 = v2.1) ∧
 (Ob (IntKind.wrap .u64 (v1.2.1.1 + Int.fdiv (e1 y_) (e3 )) = v2.2.1.1) ∧
 (Ob (IntKind.wrap .u64 (IntKind.wrap .u64 (e0 hi lo y_) - IntKind.wrap .u64 (v1.1 * IntKind.wrap .u64 (y_ * (2 : Int) ^ min (Int.toNat (e2 y_)) (IntKind.bits .u64)))) = IntKind.wrap .u64 (IntKind.wrap .u64 (e0 hi lo y_) - IntKind.wrap .u64 (v2.1 * IntKind.wrap .u64 (y_ * (2 : Int) ^ min (Int.toNat (e2 y_)) (IntKind.bits .u64))))) ∧
 (Ob (IntKind.wrap .u64 (v1.2.1.2 - (1 : Int)) = v2.2.1.2) ∧
 True))))))))))))))
   ((Ob ((0 : Int) ≤ IntKind.wrap .u64 (e5 y_)) ∧
 (Ob (True) ∧
 (Ob (True) ∧
 (Ob (IntKind.wrap .u64 (IntKind.wrap .u64 (v1.1 * (4294967296 : Int)) + v1.2.1.2) = r.1) ∧
 (Ob (Int.fdiv (IntKind.wrap .u64 (IntKind.wrap .u64 (IntKind.wrap .u64 (IntKind.wrap .u64 (IntKind.wrap .u64 (e0 hi lo y_) - IntKind.wrap .u64 (v1.1 * IntKind.wrap .u64 (y_ * (2 : Int) ^ min (Int.toNat (e2 y_)) (IntKind.bits .u64)))) * (4294967296 : Int)) + IntKind.wrap .u64 (↑(BitVec.toNat (BitVec.ofInt (IntKind.bits .u64) (e4 lo y_) &&& BitVec.ofInt (IntKind.bits .u64) (4294967295 : Int))) : Int)) - IntKind.wrap .u64 (v1.2.1.2 * IntKind.wrap .u64 (y_ * (2 : Int) ^ min (Int.toNat (e2 y_)) (IntKind.bits .u64))))) (e9 y_) = r.2) ∧
 True))))))))))))
   ((∃ (v1 : (Int × Int) × Nat), (Ob ((Option.bind (iter (math_bits_Div64_b0 lo y_ (e5 y_)) v1.2 v1.1) fun y0 => Option.bind (math_bits_Div64_r0 hi lo y_ (e5 y_) y0) some) = some r) ∧
 (Ob (v1.2 < v0.2) ∧
 (Ob (IntKind.wrap .u64 (y_ * (2 : Int) ^ min (Int.toNat (e2 y_)) (IntKind.bits .u64)) = IntKind.wrap .u64 (y_ * (2 : Int) ^ min (Int.toNat (e2 y_)) (IntKind.bits .u64))) ∧
 (Ob (IntKind.wrap .u64 (e5 y_) = IntKind.wrap .u64 (e5 y_)) ∧
 (Ob (Int.fdiv (e1 y_) (e3 ) = Int.fdiv (e1 y_) (e3 )) ∧
 (Ob (IntKind.wrap .u64 (↑(BitVec.toNat (BitVec.ofInt (IntKind.bits .u64) (e1 y_) &&& BitVec.ofInt (IntKind.bits .u64) (4294967295 : Int))) : Int) = IntKind.wrap .u64 (↑(BitVec.toNat (BitVec.ofInt (IntKind.bits .u64) (e1 y_) &&& BitVec.ofInt (IntKind.bits .u64) (4294967295 : Int))) : Int)) ∧
 (Ob (IntKind.wrap .u64 (↑(BitVec.toNat (BitVec.ofInt (IntKind.bits .u64) (e7 hi y_) ||| BitVec.ofInt (IntKind.bits .u64) (e6 lo y_))) : Int) = IntKind.wrap .u64 (↑(BitVec.toNat (BitVec.ofInt (IntKind.bits .u64) (e7 hi y_) ||| BitVec.ofInt (IntKind.bits .u64) (e6 lo y_))) : Int)) ∧
 (Ob (Int.fdiv (e4 lo y_) (e3 ) = Int.fdiv (e4 lo y_) (e3 )) ∧
 (Ob (IntKind.wrap .u64 (↑(BitVec.toNat (BitVec.ofInt (IntKind.bits .u64) (e4 lo y_) &&& BitVec.ofInt (IntKind.bits .u64) (4294967295 : Int))) : Int) = IntKind.wrap .u64 (↑(BitVec.toNat (BitVec.ofInt (IntKind.bits .u64) (e4 lo y_) &&& BitVec.ofInt (IntKind.bits .u64) (4294967295 : Int))) : Int)) ∧
 (Ob (IntKind.wrap .u64 (v0.1.1 - (1 : Int)) = v1.1.1) ∧
 (Ob (IntKind.wrap .u64 (v0.1.2 + Int.fdiv (e1 y_) (e3 )) = v1.1.2) ∧
 True))))))))))))))
   ((Ob (Int.fdiv (e1 y_) (e3 ) ≠ (0 : Int)) ∧
   ((∃ (v1 : Int × (Int × Int) × Nat), (Ob ((Option.bind (iter (math_bits_Div64_b1 lo y_ (e5 y_)) v1.2.2 v1.2.1) fun y0 => Option.bind (math_bits_Div64_r1 hi lo y_ v1.1 (e5 y_) y0) some) = some r) ∧
 (Ob (IntKind.wrap .u64 (y_ * (2 : Int) ^ min (Int.toNat (e2 y_)) (IntKind.bits .u64)) = IntKind.wrap .u64 (y_ * (2 : Int) ^ min (Int.toNat (e2 y_)) (IntKind.bits .u64))) ∧
 (Ob (IntKind.wrap .u64 (e5 y_) = IntKind.wrap .u64 (e5 y_)) ∧
 (Ob (Int.fdiv (e1 y_) (e3 ) = Int.fdiv (e1 y_) (e3 )) ∧
 (Ob (IntKind.wrap .u64 (↑(BitVec.toNat (BitVec.ofInt (IntKind.bits .u64) (e1 y_) &&& BitVec.ofInt (IntKind.bits .u64) (4294967295 : Int))) : Int) = IntKind.wrap .u64 (↑(BitVec.toNat (BitVec.ofInt (IntKind.bits .u64) (e1 y_) &&& BitVec.ofInt (IntKind.bits .u64) (4294967295 : Int))) : Int)) ∧
 (Ob (IntKind.wrap .u64 (↑(BitVec.toNat (BitVec.ofInt (IntKind.bits .u64) (e4 lo y_) &&& BitVec.ofInt (IntKind.bits .u64) (4294967295 : Int))) : Int) = IntKind.wrap .u64 (↑(BitVec.toNat (BitVec.ofInt (IntKind.bits .u64) (e4 lo y_) &&& BitVec.ofInt (IntKind.bits .u64) (4294967295 : Int))) : Int)) ∧
 (Ob (v0.1.1 = v1.1) ∧
 (Ob (IntKind.wrap .u64 (IntKind.wrap .u64 (IntKind.wrap .u64 (e0 hi lo y_) - IntKind.wrap .u64 (v0.1.1 * IntKind.wrap .u64 (y_ * (2 : Int) ^ min (Int.toNat (e2 y_)) (IntKind.bits .u64)))) - IntKind.wrap .u64 (IntKind.wrap .u64 (Int.tdiv (IntKind.wrap .u64 (IntKind.wrap .u64 (e0 hi lo y_) - IntKind.wrap .u64 (v0.1.1 * IntKind.wrap .u64 (y_ * (2 : Int) ^ min (Int.toNat (e2 y_)) (IntKind.bits .u64))))) (Int.fdiv (e1 y_) (e3 ))) * Int.fdiv (e1 y_) (e3 ))) = v1.2.1.1) ∧
 (Ob (IntKind.wrap .u64 (IntKind.wrap .u64 (e0 hi lo y_) - IntKind.wrap .u64 (v0.1.1 * IntKind.wrap .u64 (y_ * (2 : Int) ^ min (Int.toNat (e2 y_)) (IntKind.bits .u64)))) = IntKind.wrap .u64 (IntKind.wrap .u64 (e0 hi lo y_) - IntKind.wrap .u64 (v1.1 * IntKind.wrap .u64 (y_ * (2 : Int) ^ min (Int.toNat (e2 y_)) (IntKind.bits .u64))))) ∧
 (Ob (IntKind.wrap .u64 (Int.tdiv (IntKind.wrap .u64 (IntKind.wrap .u64 (e0 hi lo y_) - IntKind.wrap .u64 (v0.1.1 * IntKind.wrap .u64 (y_ * (2 : Int) ^ min (Int.toNat (e2 y_)) (IntKind.bits .u64))))) (Int.fdiv (e1 y_) (e3 ))) = v1.2.1.2) ∧
 True))))))))))) ∧
   (∀ (v1 : Int × (Int × Int) × Nat), ((Option.bind (iter (math_bits_Div64_b1 lo y_ (e5 y_)) v1.2.2 v1.2.1) fun y0 => Option.bind (math_bits_Div64_r1 hi lo y_ v1.1 (e5 y_) y0) some) = some r →
 Br (decide (v1.2.1.2 ≥ (4294967296 : Int)))
 (Br (decide (IntKind.wrap .u64 (v1.2.1.1 + Int.fdiv (e1 y_) (e3 )) ≥ (4294967296 : Int)))
   ((Ob ((0 : Int) ≤ IntKind.wrap .u64 (e5 y_)) ∧
 (Ob (True) ∧
 (Ob (True) ∧
 (Ob (IntKind.wrap .u64 (IntKind.wrap .u64 (v1.1 * (4294967296 : Int)) + IntKind.wrap .u64 (v1.2.1.2 - (1 : Int))) = r.1) ∧
 (Ob (Int.fdiv (IntKind.wrap .u64 (IntKind.wrap .u64 (IntKind.wrap .u64 (IntKind.wrap .u64 (IntKind.wrap .u64 (e0 hi lo y_) - IntKind.wrap .u64 (v1.1 * IntKind.wrap .u64 (y_ * (2 : Int) ^ min (Int.toNat (e2 y_)) (IntKind.bits .u64)))) * (4294967296 : Int)) + IntKind.wrap .u64 (↑(BitVec.toNat (BitVec.ofInt (IntKind.bits .u64) (e4 lo y_) &&& BitVec.ofInt (IntKind.bits .u64) (4294967295 : Int))) : Int)) - IntKind.wrap .u64 (IntKind.wrap .u64 (v1.2.1.2 - (1 : Int)) * IntKind.wrap .u64 (y_ * (2 : Int) ^ min (Int.toNat (e2 y_)) (IntKind.bits .u64))))) (e9 y_) = r.2) ∧
 True))))))
   ((∃ (v2 : Int × (Int × Int) × Nat), (Ob ((Option.bind (iter (math_bits_Div64_b1 lo y_ (e5 y_)) v2.2.2 v2.2.1) fun y0 => Option.bind (math_bits_Div64_r1 hi lo y_ v2.1 (e5 y_) y0) some) = some r) ∧
 (Ob (v2.2.2 < v1.2.2) ∧
 (Ob (IntKind.wrap .u64 (y_ * (2 : Int) ^ min (Int.toNat (e2 y_)) (IntKind.bits .u64)) = IntKind.wrap .u64 (y_ * (2 : Int) ^ min (Int.toNat (e2 y_)) (IntKind.bits .u64))) ∧
 (Ob (IntKind.wrap .u64 (e5 y_) = IntKind.wrap .u64 (e5 y_)) ∧
 (Ob (Int.fdiv (e1 y_) (e3 ) = Int.fdiv (e1 y_) (e3 )) ∧
 (Ob (IntKind.wrap .u64 (↑(BitVec.toNat (BitVec.ofInt (IntKind.bits .u64) (e1 y_) &&& BitVec.ofInt (IntKind.bits .u64) (4294967295 : Int))) : Int) = IntKind.wrap .u64 (↑(BitVec.toNat (BitVec.ofInt (IntKind.bits .u64) (e1 y_) &&& BitVec.ofInt (IntKind.bits .u64) (4294967295 : Int))) : Int)) ∧
 (Ob (IntKind.wrap .u64 (↑(BitVec.toNat (BitVec.ofInt (IntKind.bits .u64) (e4 lo y_) &&& BitVec.ofInt (IntKind.bits .u64) (4294967295 : Int))) : Int) = IntKind.wrap .u64 (↑(BitVec.toNat (BitVec.ofInt (IntKind.bits .u64) (e4 lo y_) &&& BitVec.ofInt (IntKind.bits .u64) (4294967295 : Int))) : Int)) ∧
 (Ob (v1.1 = v2.1) ∧
 (Ob (IntKind.wrap .u64 (v1.2.1.1 + Int.fdiv (e1 y_) (e3 )) = v2.2.1.1) ∧
 (Ob (IntKind.wrap .u64 (IntKind.wrap .u64 (e0 hi lo y_) - IntKind.wrap .u64 (v1.1 * IntKind.wrap .u64 (y_ * (2 : Int) ^ min (Int.toNat (e2 y_)) (IntKind.bits .u64)))) = IntKind.wrap .u64 (IntKind.wrap .u64 (e0 hi lo y_) - IntKind.wrap .u64 (v2.1 * IntKind.wrap .u64 (y_ * (2 : Int) ^ min (Int.toNat (e2 y_)) (IntKind.bits .u64))))) ∧
 (Ob (IntKind.wrap .u64 (v1.2.1.2 - (1 : Int)) = v2.2.1.2) ∧
 True))))))))))))))
 (Br (decide (IntKind.wrap .u64 (v1.2.1.2 * IntKind.wrap .u64 (↑(BitVec.toNat (BitVec.ofInt (IntKind.bits .u64) (e1 y_) &&& BitVec.ofInt (IntKind.bits .u64) (4294967295 : Int))) : Int)) > IntKind.wrap .u64 (IntKind.wrap .u64 ((4294967296 : Int) * v1.2.1.1) + IntKind.wrap .u64 (↑(BitVec.toNat (BitVec.ofInt (IntKind.bits .u64) (e4 lo y_) &&& BitVec.ofInt (IntKind.bits .u64) (4294967295 : Int))) : Int))))
 (Br (decide (IntKind.wrap .u64 (v1.2.1.1 + Int.fdiv (e1 y_) (e3 )) ≥ (4294967296 : Int)))
   ((Ob ((0 : Int) ≤ IntKind.wrap .u64 (e5 y_)) ∧
 (Ob (True) ∧
 (Ob (True) ∧
 (Ob (IntKind.wrap .u64 (IntKind.wrap .u64 (v1.1 * (4294967296 : Int)) + IntKind.wrap .u64 (v1.2.1.2 - (1 : Int))) = r.1) ∧
 (Ob (Int.fdiv (IntKind.wrap .u64 (IntKind.wrap .u64 (IntKind.wrap .u64 (IntKind.wrap .u64 (IntKind.wrap .u64 (e0 hi lo y_) - IntKind.wrap .u64 (v1.1 * IntKind.wrap .u64 (y_ * (2 : Int) ^ min (Int.toNat (e2 y_)) (IntKind.bits .u64)))) * (4294967296 : Int)) + IntKind.wrap .u64 (↑(BitVec.toNat (BitVec.ofInt (IntKind.bits .u64) (e4 lo y_) &&& BitVec.ofInt (IntKind.bits .u64) (4294967295 : Int))) : Int)) - IntKind.wrap .u64 (IntKind.wrap .u64 (v1.2.1.2 - (1 : Int)) * IntKind.wrap .u64 (y_ * (2 : Int) ^ min (Int.toNat (e2 y_)) (IntKind.bits .u64))))) (e9 y_) = r.2) ∧
 True))))))
   ((∃ (v2 : Int × (Int × Int) × Nat), (Ob ((Option.bind (iter (math_bits_Div64_b1 lo y_ (e5 y_)) v2.2.2 v2.2.1) fun y0 => Option.bind (math_bits_Div64_r1 hi lo y_ v2.1 (e5 y_) y0) some) = some r) ∧
 (Ob (v2.2.2 < v1.2.2) ∧
 (Ob (IntKind.wrap .u64 (y_ * (2 : Int) ^ min (Int.toNat (e2 y_)) (IntKind.bits .u64)) = IntKind.wrap .u64 (y_ * (2 : Int) ^ min (Int.toNat (e2 y_)) (IntKind.bits .u64))) ∧
 (Ob (IntKind.wrap .u64 (e5 y_) = IntKind.wrap .u64 (e5 y_)) ∧
 (Ob (Int.fdiv (e1 y_) (e3 ) = Int.fdiv (e1 y_) (e3 )) ∧
 (Ob (IntKind.wrap .u64 (↑(BitVec.toNat (BitVec.ofInt (IntKind.bits .u64) (e1 y_) &&& BitVec.ofInt (IntKind.bits .u64) (4294967295 : Int))) : Int) = IntKind.wrap .u64 (↑(BitVec.toNat (BitVec.ofInt (IntKind.bits .u64) (e1 y_) &&& BitVec.ofInt (IntKind.bits .u64) (4294967295 : Int))) : Int)) ∧
 (Ob (IntKind.wrap .u64 (↑(BitVec.toNat (BitVec.ofInt (IntKind.bits .u64) (e4 lo y_) &&& BitVec.ofInt (IntKind.bits .u64) (4294967295 : Int))) : Int) = IntKind.wrap .u64 (↑(BitVec.toNat (BitVec.ofInt (IntKind.bits .u64) (e4 lo y_) &&& BitVec.ofInt (IntKind.bits .u64) (4294967295 : Int))) : Int)) ∧
 (Ob (v1.1 = v2.1) ∧
 (Ob (IntKind.wrap .u64 (v1.2.1.1 + Int.fdiv (e1 y_) (e3 )) = v2.2.1.1) ∧
 (Ob (IntKind.wrap .u64 (IntKind.wrap .u64 (e0 hi lo y_) - IntKind.wrap .u64 (v1.1 * IntKind.wrap .u64 (y_ * (2 : Int) ^ min (Int.toNat (e2 y_)) (IntKind.bits .u64)))) = IntKind.wrap .u64 (IntKind.wrap .u64 (e0 hi lo y_) - IntKind.wrap .u64 (v2.1 * IntKind.wrap .u64 (y_ * (2 : Int) ^ min (Int.toNat (e2 y_)) (IntKind.bits .u64))))) ∧
 (Ob (IntKind.wrap .u64 (v1.2.1.2 - (1 : Int)) = v2.2.1.2) ∧
 True))))))))))))))
   ((Ob ((0 : Int) ≤ IntKind.wrap .u64 (e5 y_)) ∧
 (Ob (True) ∧
 (Ob (True) ∧
 (Ob (IntKind.wrap .u64 (IntKind.wrap .u64 (v1.1 * (4294967296 : Int)) + v1.2.1.2) = r.1) ∧
 (Ob (Int.fdiv (IntKind.wrap .u64 (IntKind.wrap .u64 (IntKind.wrap .u64 (IntKind.wrap .u64 (IntKind.wrap .u64 (e0 hi lo y_) - IntKind.wrap .u64 (v1.1 * IntKind.wrap .u64 (y_ * (2 : Int) ^ min (Int.toNat (e2 y_)) (IntKind.bits .u64)))) * (4294967296 : Int)) + IntKind.wrap .u64 (↑(BitVec.toNat (BitVec.ofInt (IntKind.bits .u64) (e4 lo y_) &&& BitVec.ofInt (IntKind.bits .u64) (4294967295 : Int))) : Int)) - IntKind.wrap .u64 (v1.2.1.2 * IntKind.wrap .u64 (y_ * (2 : Int) ^ min (Int.toNat (e2 y_)) (IntKind.bits .u64))))) (e9 y_) = r.2) ∧
 True))))))))))))))))))))))))))))) = _) ?_
  refine br_b h (fun h => ?_) (fun h => ?_)
  · exact nomatch h
  · refine br_d h (fun h => ?_) (fun h => ?_)
    · exact nomatch h
    · refine br_b h (fun h => ?_) (fun h => ?_)
      · refine ob_s h fun h => ?_
        refine ob_s h fun h => ?_
        refine ob_t ?_
        refine ob_t ?_
        exact ret_s h (fun e => by subst e; exact (by repeat' (first | exact trivial | exact ⟨rfl⟩ | refine And.intro ?_ ?_)))
      · refine call_s h fun h => ?_
        refine ob_t ?_
        refine ob_s h fun h => ?_
        refine ob_c (p := (0 : Int) ≤ (32 : Int)) (by decide) ?_
        refine ob_s h fun h => ?_
        refine ob_s h fun h => ?_
        refine ob_s h fun h => ?_
        refine ob_c (p := (0 : Int) ≤ (32 : Int)) (by decide) ?_
        refine ob_s h fun h => ?_
        refine ⟨⟨((IntKind.wrap .u64 (Int.tdiv (e8 hi lo y_) (Int.fdiv (e1 y_) (e3 ))), IntKind.wrap .u64 (IntKind.wrap .u64 (↑(BitVec.toNat (BitVec.ofInt (IntKind.bits .u64) (e7 hi y_) ||| BitVec.ofInt (IntKind.bits .u64) (e6 lo y_))) : Int) - IntKind.wrap .u64 (IntKind.wrap .u64 (Int.tdiv (e8 hi lo y_) (Int.fdiv (e1 y_) (e3 ))) * Int.fdiv (e1 y_) (e3 )))), big), ⟨loop_s h⟩, (by repeat' (first | exact trivial | exact ⟨rfl⟩ | refine And.intro ?_ ?_))⟩, fun z1 hz1 => ?_⟩
        obtain ⟨k1, hm1, h⟩ := iter_pos hz1
        refine br_d h (fun h => ?_) (fun h => ?_)
        · refine br_d h (fun h => ?_) (fun h => ?_)
          · have h := exit_s h
            refine ob_s h fun h => ?_
            refine ⟨⟨(IntKind.wrap .u64 ((Prod.fst z1).1 - (1 : Int)), (IntKind.wrap .u64 (IntKind.wrap .u64 (IntKind.wrap .u64 (e0 hi lo y_) - IntKind.wrap .u64 (IntKind.wrap .u64 ((Prod.fst z1).1 - (1 : Int)) * IntKind.wrap .u64 (y_ * (2 : Int) ^ min (Int.toNat (e2 y_)) (IntKind.bits .u64)))) - IntKind.wrap .u64 (IntKind.wrap .u64 (Int.tdiv (IntKind.wrap .u64 (IntKind.wrap .u64 (e0 hi lo y_) - IntKind.wrap .u64 (IntKind.wrap .u64 ((Prod.fst z1).1 - (1 : Int)) * IntKind.wrap .u64 (y_ * (2 : Int) ^ min (Int.toNat (e2 y_)) (IntKind.bits .u64))))) (Int.fdiv (e1 y_) (e3 ))) * Int.fdiv (e1 y_) (e3 ))), IntKind.wrap .u64 (Int.tdiv (IntKind.wrap .u64 (IntKind.wrap .u64 (e0 hi lo y_) - IntKind.wrap .u64 (IntKind.wrap .u64 ((Prod.fst z1).1 - (1 : Int)) * IntKind.wrap .u64 (y_ * (2 : Int) ^ min (Int.toNat (e2 y_)) (IntKind.bits .u64))))) (Int.fdiv (e1 y_) (e3 )))), big), ⟨loop_s h⟩, (by repeat' (first | exact trivial | exact ⟨rfl⟩ | refine And.intro ?_ ?_))⟩, fun z2 hz2 => ?_⟩
            obtain ⟨k2, hm2, h⟩ := iter_pos hz2
            refine br_d h (fun h => ?_) (fun h => ?_)
            · refine br_d h (fun h => ?_) (fun h => ?_)
              · have h := exit_s h
                refine ob_s h fun h => ?_
                refine ob_t ?_
                refine ob_t ?_
                exact ret_s h (fun e => by subst e; exact (by repeat' (first | exact trivial | exact ⟨rfl⟩ | refine And.intro ?_ ?_)))
              · exact ⟨(Prod.fst z2, (IntKind.wrap .u64 ((Prod.fst (Prod.snd z2)).1 + Int.fdiv (e1 y_) (e3 )), IntKind.wrap .u64 ((Prod.fst (Prod.snd z2)).2 - (1 : Int))), k2), ⟨next_s h⟩, ⟨lt_gs hm2.symm⟩, (by repeat' (first | exact trivial | exact ⟨rfl⟩ | refine And.intro ?_ ?_))⟩
            · refine br_d h (fun h => ?_) (fun h => ?_)
              · refine br_d h (fun h => ?_) (fun h => ?_)
                · have h := exit_s h
                  refine ob_s h fun h => ?_
                  refine ob_t ?_
                  refine ob_t ?_
                  exact ret_s h (fun e => by subst e; exact (by repeat' (first | exact trivial | exact ⟨rfl⟩ | refine And.intro ?_ ?_)))
                · exact ⟨(Prod.fst z2, (IntKind.wrap .u64 ((Prod.fst (Prod.snd z2)).1 + Int.fdiv (e1 y_) (e3 )), IntKind.wrap .u64 ((Prod.fst (Prod.snd z2)).2 - (1 : Int))), k2), ⟨next_s h⟩, ⟨lt_gs hm2.symm⟩, (by repeat' (first | exact trivial | exact ⟨rfl⟩ | refine And.intro ?_ ?_))⟩
              · have h := exit_s h
                refine ob_s h fun h => ?_
                refine ob_t ?_
                refine ob_t ?_
                exact ret_s h (fun e => by subst e; exact (by repeat' (first | exact trivial | exact ⟨rfl⟩ | refine And.intro ?_ ?_)))
          · exact ⟨((IntKind.wrap .u64 ((Prod.fst z1).1 - (1 : Int)), IntKind.wrap .u64 ((Prod.fst z1).2 + Int.fdiv (e1 y_) (e3 ))), k1), ⟨next_s h⟩, ⟨lt_gs hm1.symm⟩, (by repeat' (first | exact trivial | exact ⟨rfl⟩ | refine And.intro ?_ ?_))⟩
        · refine br_d h (fun h => ?_) (fun h => ?_)
          · refine br_d h (fun h => ?_) (fun h => ?_)
            · have h := exit_s h
              refine ob_s h fun h => ?_
              refine ⟨⟨(IntKind.wrap .u64 ((Prod.fst z1).1 - (1 : Int)), (IntKind.wrap .u64 (IntKind.wrap .u64 (IntKind.wrap .u64 (e0 hi lo y_) - IntKind.wrap .u64 (IntKind.wrap .u64 ((Prod.fst z1).1 - (1 : Int)) * IntKind.wrap .u64 (y_ * (2 : Int) ^ min (Int.toNat (e2 y_)) (IntKind.bits .u64)))) - IntKind.wrap .u64 (IntKind.wrap .u64 (Int.tdiv (IntKind.wrap .u64 (IntKind.wrap .u64 (e0 hi lo y_) - IntKind.wrap .u64 (IntKind.wrap .u64 ((Prod.fst z1).1 - (1 : Int)) * IntKind.wrap .u64 (y_ * (2 : Int) ^ min (Int.toNat (e2 y_)) (IntKind.bits .u64))))) (Int.fdiv (e1 y_) (e3 ))) * Int.fdiv (e1 y_) (e3 ))), IntKind.wrap .u64 (Int.tdiv (IntKind.wrap .u64 (IntKind.wrap .u64 (e0 hi lo y_) - IntKind.wrap .u64 (IntKind.wrap .u64 ((Prod.fst z1).1 - (1 : Int)) * IntKind.wrap .u64 (y_ * (2 : Int) ^ min (Int.toNat (e2 y_)) (IntKind.bits .u64))))) (Int.fdiv (e1 y_) (e3 )))), big), ⟨loop_s h⟩, (by repeat' (first | exact trivial | exact ⟨rfl⟩ | refine And.intro ?_ ?_))⟩, fun z3 hz3 => ?_⟩
              obtain ⟨k3, hm3, h⟩ := iter_pos hz3
              refine br_d h (fun h => ?_) (fun h => ?_)
              · refine br_d h (fun h => ?_) (fun h => ?_)
                · have h := exit_s h
                  refine ob_s h fun h => ?_
                  refine ob_t ?_
                  refine ob_t ?_
                  exact ret_s h (fun e => by subst e; exact (by repeat' (first | exact trivial | exact ⟨rfl⟩ | refine And.intro ?_ ?_)))
                · exact ⟨(Prod.fst z3, (IntKind.wrap .u64 ((Prod.fst (Prod.snd z3)).1 + Int.fdiv (e1 y_) (e3 )), IntKind.wrap .u64 ((Prod.fst (Prod.snd z3)).2 - (1 : Int))), k3), ⟨next_s h⟩, ⟨lt_gs hm3.symm⟩, (by repeat' (first | exact trivial | exact ⟨rfl⟩ | refine And.intro ?_ ?_))⟩
              · refine br_d h (fun h => ?_) (fun h => ?_)
                · refine br_d h (fun h => ?_) (fun h => ?_)
                  · have h := exit_s h
                    refine ob_s h fun h => ?_
                    refine ob_t ?_
                    refine ob_t ?_
                    exact ret_s h (fun e => by subst e; exact (by repeat' (first | exact trivial | exact ⟨rfl⟩ | refine And.intro ?_ ?_)))
                  · exact ⟨(Prod.fst z3, (IntKind.wrap .u64 ((Prod.fst (Prod.snd z3)).1 + Int.fdiv (e1 y_) (e3 )), IntKind.wrap .u64 ((Prod.fst (Prod.snd z3)).2 - (1 : Int))), k3), ⟨next_s h⟩, ⟨lt_gs hm3.symm⟩, (by repeat' (first | exact trivial | exact ⟨rfl⟩ | refine And.intro ?_ ?_))⟩
                · have h := exit_s h
                  refine ob_s h fun h => ?_
                  refine ob_t ?_
                  refine ob_t ?_
                  exact ret_s h (fun e => by subst e; exact (by repeat' (first | exact trivial | exact ⟨rfl⟩ | refine And.intro ?_ ?_)))
            · exact ⟨((IntKind.wrap .u64 ((Prod.fst z1).1 - (1 : Int)), IntKind.wrap .u64 ((Prod.fst z1).2 + Int.fdiv (e1 y_) (e3 ))), k1), ⟨next_s h⟩, ⟨lt_gs hm1.symm⟩, (by repeat' (first | exact trivial | exact ⟨rfl⟩ | refine And.intro ?_ ?_))⟩
          · have h := exit_s h
            refine ob_s h fun h => ?_
            refine ⟨⟨((Prod.fst z1).1, (IntKind.wrap .u64 (IntKind.wrap .u64 (IntKind.wrap .u64 (e0 hi lo y_) - IntKind.wrap .u64 ((Prod.fst z1).1 * IntKind.wrap .u64 (y_ * (2 : Int) ^ min (Int.toNat (e2 y_)) (IntKind.bits .u64)))) - IntKind.wrap .u64 (IntKind.wrap .u64 (Int.tdiv (IntKind.wrap .u64 (IntKind.wrap .u64 (e0 hi lo y_) - IntKind.wrap .u64 ((Prod.fst z1).1 * IntKind.wrap .u64 (y_ * (2 : Int) ^ min (Int.toNat (e2 y_)) (IntKind.bits .u64))))) (Int.fdiv (e1 y_) (e3 ))) * Int.fdiv (e1 y_) (e3 ))), IntKind.wrap .u64 (Int.tdiv (IntKind.wrap .u64 (IntKind.wrap .u64 (e0 hi lo y_) - IntKind.wrap .u64 ((Prod.fst z1).1 * IntKind.wrap .u64 (y_ * (2 : Int) ^ min (Int.toNat (e2 y_)) (IntKind.bits .u64))))) (Int.fdiv (e1 y_) (e3 )))), big), ⟨loop_s h⟩, (by repeat' (first | exact trivial | exact ⟨rfl⟩ | refine And.intro ?_ ?_))⟩, fun z4 hz4 => ?_⟩
            obtain ⟨k4, hm4, h⟩ := iter_pos hz4
            refine br_d h (fun h => ?_) (fun h => ?_)
            · refine br_d h (fun h => ?_) (fun h => ?_)
              · have h := exit_s h
                refine ob_s h fun h => ?_
                refine ob_t ?_
                refine ob_t ?_
                exact ret_s h (fun e => by subst e; exact (by repeat' (first | exact trivial | exact ⟨rfl⟩ | refine And.intro ?_ ?_)))
              · exact ⟨(Prod.fst z4, (IntKind.wrap .u64 ((Prod.fst (Prod.snd z4)).1 + Int.fdiv (e1 y_) (e3 )), IntKind.wrap .u64 ((Prod.fst (Prod.snd z4)).2 - (1 : Int))), k4), ⟨next_s h⟩, ⟨lt_gs hm4.symm⟩, (by repeat' (first | exact trivial | exact ⟨rfl⟩ | refine And.intro ?_ ?_))⟩
            · refine br_d h (fun h => ?_) (fun h => ?_)
              · refine br_d h (fun h => ?_) (fun h => ?_)
                · have h := exit_s h
                  refine ob_s h fun h => ?_
                  refine ob_t ?_
                  refine ob_t ?_
                  exact ret_s h (fun e => by subst e; exact (by repeat' (first | exact trivial | exact ⟨rfl⟩ | refine And.intro ?_ ?_)))
                · exact ⟨(Prod.fst z4, (IntKind.wrap .u64 ((Prod.fst (Prod.snd z4)).1 + Int.fdiv (e1 y_) (e3 )), IntKind.wrap .u64 ((Prod.fst (Prod.snd z4)).2 - (1 : Int))), k4), ⟨next_s h⟩, ⟨lt_gs hm4.symm⟩, (by repeat' (first | exact trivial | exact ⟨rfl⟩ | refine And.intro ?_ ?_))⟩
              · have h := exit_s h
                refine ob_s h fun h => ?_
                refine ob_t ?_
                refine ob_t ?_
                exact ret_s h (fun e => by subst e; exact (by repeat' (first | exact trivial | exact ⟨rfl⟩ | refine And.intro ?_ ?_)))
set_option maxRecDepth 100000 in
theorem math_bits_Div64_ok : SpecOK Tryz.prog 127 true (pureK k_math_bits_Div64 g_math_bits_Div64) := by
  refine pureK_ok (sp := (sp_150 sp0)) (fn := Tryz.f127) (body := bodyOf Tryz.f127) mixed (sp_150_ok sp0_ok) Tryz.func127 (by kernel_rfl) (by kernel_rfl) fun as_ ob rs h ho => ?_
  unfold g_math_bits_Div64 at h
  split at h
  · rename_i hi lo y_
    cases h
    exact ⟨Nat.le_of_ble_eq_true rfl, _, _, math_bits_Div64_vc hi lo y_ _ (ok_some ho)⟩
  · cases h
theorem sp_127_ok {sp : Specs} (h : SpecsOK Tryz.prog sp) : SpecsOK Tryz.prog (sp_127 sp) := addK_ok math_bits_Div64_ok h
def k_G_decay_centre_1 : List SV := [.c (.d), .c (.d), .c (.p [.p [.d, .r (.floats .f32 []), .d, .d, .r (.recs 2 []), .r (.recs 2 [])]])]
def G_decay_centre_1 (u65 : Int) (u66 : Int) (u17 : Int) (u18 : List Nat) (u19 : Int) (u20 : Int) (u21 : List (List Int)) (u22 : List (List Int)) : Option (Int × Bool) :=
  Option.bind (math_bits_Mul64 (IntKind.wrap .u64 u65) (1000000 : Int)) fun r0 =>
  Option.bind (math_bits_Div64 (IntKind.wrap .u64 (IntKind.wrap .u64 (IntKind.wrap .u64 (Int.fdiv (IntKind.wrap .u64 u65) ((2 : Int) ^ min (32 : Nat) (IntKind.bits .u64)) * Int.fdiv (1000000 : Int) ((2 : Int) ^ min (32 : Nat) (IntKind.bits .u64))) + Int.fdiv (IntKind.wrap .u64 (IntKind.wrap .u64 (Int.fdiv (IntKind.wrap .u64 u65) ((2 : Int) ^ min (32 : Nat) (IntKind.bits .u64)) * IntKind.wrap .u64 (↑(BitVec.toNat (BitVec.ofInt (IntKind.bits .u64) (1000000 : Int) &&& BitVec.ofInt (IntKind.bits .u64) (4294967295 : Int))) : Int)) + Int.fdiv (IntKind.wrap .u64 (IntKind.wrap .u64 (↑(BitVec.toNat (BitVec.ofInt (IntKind.bits .u64) (IntKind.wrap .u64 u65) &&& BitVec.ofInt (IntKind.bits .u64) (4294967295 : Int))) : Int) * IntKind.wrap .u64 (↑(BitVec.toNat (BitVec.ofInt (IntKind.bits .u64) (1000000 : Int) &&& BitVec.ofInt (IntKind.bits .u64) (4294967295 : Int))) : Int))) ((2 : Int) ^ min (32 : Nat) (IntKind.bits .u64)))) ((2 : Int) ^ min (32 : Nat) (IntKind.bits .u64))) + Int.fdiv (IntKind.wrap .u64 (IntKind.wrap .u64 (↑(BitVec.toNat (BitVec.ofInt (IntKind.bits .u64) (IntKind.wrap .u64 (IntKind.wrap .u64 (Int.fdiv (IntKind.wrap .u64 u65) ((2 : Int) ^ min (32 : Nat) (IntKind.bits .u64)) * IntKind.wrap .u64 (↑(BitVec.toNat (BitVec.ofInt (IntKind.bits .u64) (1000000 : Int) &&& BitVec.ofInt (IntKind.bits .u64) (4294967295 : Int))) : Int)) + Int.fdiv (IntKind.wrap .u64 (IntKind.wrap .u64 (↑(BitVec.toNat (BitVec.ofInt (IntKind.bits .u64) (IntKind.wrap .u64 u65) &&& BitVec.ofInt (IntKind.bits .u64) (4294967295 : Int))) : Int) * IntKind.wrap .u64 (↑(BitVec.toNat (BitVec.ofInt (IntKind.bits .u64) (1000000 : Int) &&& BitVec.ofInt (IntKind.bits .u64) (4294967295 : Int))) : Int))) ((2 : Int) ^ min (32 : Nat) (IntKind.bits .u64)))) &&& BitVec.ofInt (IntKind.bits .u64) (4294967295 : Int))) : Int) + IntKind.wrap .u64 (IntKind.wrap .u64 (↑(BitVec.toNat (BitVec.ofInt (IntKind.bits .u64) (IntKind.wrap .u64 u65) &&& BitVec.ofInt (IntKind.bits .u64) (4294967295 : Int))) : Int) * Int.fdiv (1000000 : Int) ((2 : Int) ^ min (32 : Nat) (IntKind.bits .u64))))) ((2 : Int) ^ min (32 : Nat) (IntKind.bits .u64)))) (IntKind.wrap .u64 (IntKind.wrap .u64 u65 * (1000000 : Int))) (IntKind.wrap .u64 (IntKind.wrap .i64 (u66 * u17)))) fun r1 =>
  some ((IntKind.wrap .i64 r1.1, decide (r1.2 > (0 : Int))))
def g_G_decay_centre_1 : List Lf → Option GT
  | [.d (.i .i64 u65), .d (.i .i64 u66), .d (.i .i64 u17), .r (.floats .f32 u18), .d (.i .i64 u19), .d (.i .i64 u20), .r (.recs 2 u21), .r (.recs 2 u22)] => some (.leaf (ok (G_decay_centre_1 u65 u66 u17 u18 u19 u20 u21 u22)) [.c (.d (.i .i64 ((val (G_decay_centre_1 u65 u66 u17 u18 u19 u20 u21 u22)).1))), .c (.d (.b ((val (G_decay_centre_1 u65 u66 u17 u18 u19 u20 u21 u22)).2)))])
  | _ => none
abbrev sp_125 : Specs → Specs := addK 125 true (pureT k_G_decay_centre_1 g_G_decay_centre_1)
set_option maxRecDepth 100000 in
theorem G_decay_centre_1_vc (u65 : Int) (u66 : Int) (u17 : Int) (u18 : List Nat) (u19 : Int) (u20 : Int) (u21 : List (List Int)) (u22 : List (List Int)) (r : Int × Bool) (h : Option.bind (G_decay_centre_1 u65 u66 u17 u18 u19 u20 u21 u22) some = some r) : runT Tryz.f125 ((sp_126 (sp_127 sp0))) (fun _ _ _ => none) (bldD k_G_decay_centre_1 [.d (.i .i64 u65), .d (.i .i64 u66), .d (.i .i64 u17), .r (.floats .f32 u18), .d (.i .i64 u19), .d (.i .i64 u20), .r (.recs 2 u21), .r (.recs 2 u22)]) [.c (.d (.i .i64 r.1)), .c (.d (.b r.2))] := by
  refine Eq.mp (by kernel_rfl : (
 (Ob (True) ∧
 (Ob (ok (math_bits_Mul64 (IntKind.wrap .u64 u65) (1000000 : Int))) ∧
 (Ob (True) ∧
 (Ob (True) ∧
 (Ob (True) ∧
 (Ob (ok (math_bits_Div64 (IntKind.wrap .u64 (IntKind.wrap .u64 (IntKind.wrap .u64 (Int.fdiv (IntKind.wrap .u64 u65) ((2 : Int) ^ min (32 : Nat) (IntKind.bits .u64)) * Int.fdiv (1000000 : Int) ((2 : Int) ^ min (32 : Nat) (IntKind.bits .u64))) + Int.fdiv (IntKind.wrap .u64 (IntKind.wrap .u64 (Int.fdiv (IntKind.wrap .u64 u65) ((2 : Int) ^ min (32 : Nat) (IntKind.bits .u64)) * IntKind.wrap .u64 (↑(BitVec.toNat (BitVec.ofInt (IntKind.bits .u64) (1000000 : Int) &&& BitVec.ofInt (IntKind.bits .u64) (4294967295 : Int))) : Int)) + Int.fdiv (IntKind.wrap .u64 (IntKind.wrap .u64 (↑(BitVec.toNat (BitVec.ofInt (IntKind.bits .u64) (IntKind.wrap .u64 u65) &&& BitVec.ofInt (IntKind.bits .u64) (4294967295 : Int))) : Int) * IntKind.wrap .u64 (↑(BitVec.toNat (BitVec.ofInt (IntKind.bits .u64) (1000000 : Int) &&& BitVec.ofInt (IntKind.bits .u64) (4294967295 : Int))) : Int))) ((2 : Int) ^ min (32 : Nat) (IntKind.bits .u64)))) ((2 : Int) ^ min (32 : Nat) (IntKind.bits .u64))) + Int.fdiv (IntKind.wrap .u64 (IntKind.wrap .u64 (↑(BitVec.toNat (BitVec.ofInt (IntKind.bits .u64) (IntKind.wrap .u64 (IntKind.wrap .u64 (Int.fdiv (IntKind.wrap .u64 u65) ((2 : Int) ^ min (32 : Nat) (IntKind.bits .u64)) * IntKind.wrap .u64 (↑(BitVec.toNat (BitVec.ofInt (IntKind.bits .u64) (1000000 : Int) &&& BitVec.ofInt (IntKind.bits .u64) (4294967295 : Int))) : Int)) + Int.fdiv (IntKind.wrap .u64 (IntKind.wrap .u64 (↑(BitVec.toNat (BitVec.ofInt (IntKind.bits .u64) (IntKind.wrap .u64 u65) &&& BitVec.ofInt (IntKind.bits .u64) (4294967295 : Int))) : Int) * IntKind.wrap .u64 (↑(BitVec.toNat (BitVec.ofInt (IntKind.bits .u64) (1000000 : Int) &&& BitVec.ofInt (IntKind.bits .u64) (4294967295 : Int))) : Int))) ((2 : Int) ^ min (32 : Nat) (IntKind.bits .u64)))) &&& BitVec.ofInt (IntKind.bits .u64) (4294967295 : Int))) : Int) + IntKind.wrap .u64 (IntKind.wrap .u64 (↑(BitVec.toNat (BitVec.ofInt (IntKind.bits .u64) (IntKind.wrap .u64 u65) &&& BitVec.ofInt (IntKind.bits .u64) (4294967295 : Int))) : Int) * Int.fdiv (1000000 : Int) ((2 : Int) ^ min (32 : Nat) (IntKind.bits .u64))))) ((2 : Int) ^ min (32 : Nat) (IntKind.bits .u64)))) (IntKind.wrap .u64 (IntKind.wrap .u64 u65 * (1000000 : Int))) (IntKind.wrap .u64 (IntKind.wrap .i64 (u66 * u17))))) ∧
 (Ob (True) ∧
 (Ob (True) ∧
 (Ob (True) ∧
 (Ob (IntKind.wrap .i64 (val (math_bits_Div64 (IntKind.wrap .u64 (IntKind.wrap .u64 (IntKind.wrap .u64 (Int.fdiv (IntKind.wrap .u64 u65) ((2 : Int) ^ min (32 : Nat) (IntKind.bits .u64)) * Int.fdiv (1000000 : Int) ((2 : Int) ^ min (32 : Nat) (IntKind.bits .u64))) + Int.fdiv (IntKind.wrap .u64 (IntKind.wrap .u64 (Int.fdiv (IntKind.wrap .u64 u65) ((2 : Int) ^ min (32 : Nat) (IntKind.bits .u64)) * IntKind.wrap .u64 (↑(BitVec.toNat (BitVec.ofInt (IntKind.bits .u64) (1000000 : Int) &&& BitVec.ofInt (IntKind.bits .u64) (4294967295 : Int))) : Int)) + Int.fdiv (IntKind.wrap .u64 (IntKind.wrap .u64 (↑(BitVec.toNat (BitVec.ofInt (IntKind.bits .u64) (IntKind.wrap .u64 u65) &&& BitVec.ofInt (IntKind.bits .u64) (4294967295 : Int))) : Int) * IntKind.wrap .u64 (↑(BitVec.toNat (BitVec.ofInt (IntKind.bits .u64) (1000000 : Int) &&& BitVec.ofInt (IntKind.bits .u64) (4294967295 : Int))) : Int))) ((2 : Int) ^ min (32 : Nat) (IntKind.bits .u64)))) ((2 : Int) ^ min (32 : Nat) (IntKind.bits .u64))) + Int.fdiv (IntKind.wrap .u64 (IntKind.wrap .u64 (↑(BitVec.toNat (BitVec.ofInt (IntKind.bits .u64) (IntKind.wrap .u64 (IntKind.wrap .u64 (Int.fdiv (IntKind.wrap .u64 u65) ((2 : Int) ^ min (32 : Nat) (IntKind.bits .u64)) * IntKind.wrap .u64 (↑(BitVec.toNat (BitVec.ofInt (IntKind.bits .u64) (1000000 : Int) &&& BitVec.ofInt (IntKind.bits .u64) (4294967295 : Int))) : Int)) + Int.fdiv (IntKind.wrap .u64 (IntKind.wrap .u64 (↑(BitVec.toNat (BitVec.ofInt (IntKind.bits .u64) (IntKind.wrap .u64 u65) &&& BitVec.ofInt (IntKind.bits .u64) (4294967295 : Int))) : Int) * IntKind.wrap .u64 (↑(BitVec.toNat (BitVec.ofInt (IntKind.bits .u64) (1000000 : Int) &&& BitVec.ofInt (IntKind.bits .u64) (4294967295 : Int))) : Int))) ((2 : Int) ^ min (32 : Nat) (IntKind.bits .u64)))) &&& BitVec.ofInt (IntKind.bits .u64) (4294967295 : Int))) : Int) + IntKind.wrap .u64 (IntKind.wrap .u64 (↑(BitVec.toNat (BitVec.ofInt (IntKind.bits .u64) (IntKind.wrap .u64 u65) &&& BitVec.ofInt (IntKind.bits .u64) (4294967295 : Int))) : Int) * Int.fdiv (1000000 : Int) ((2 : Int) ^ min (32 : Nat) (IntKind.bits .u64))))) ((2 : Int) ^ min (32 : Nat) (IntKind.bits .u64)))) (IntKind.wrap .u64 (IntKind.wrap .u64 u65 * (1000000 : Int))) (IntKind.wrap .u64 (IntKind.wrap .i64 (u66 * u17))))).1 = r.1) ∧
 (Ob (decide ((val (math_bits_Div64 (IntKind.wrap .u64 (IntKind.wrap .u64 (IntKind.wrap .u64 (Int.fdiv (IntKind.wrap .u64 u65) ((2 : Int) ^ min (32 : Nat) (IntKind.bits .u64)) * Int.fdiv (1000000 : Int) ((2 : Int) ^ min (32 : Nat) (IntKind.bits .u64))) + Int.fdiv (IntKind.wrap .u64 (IntKind.wrap .u64 (Int.fdiv (IntKind.wrap .u64 u65) ((2 : Int) ^ min (32 : Nat) (IntKind.bits .u64)) * IntKind.wrap .u64 (↑(BitVec.toNat (BitVec.ofInt (IntKind.bits .u64) (1000000 : Int) &&& BitVec.ofInt (IntKind.bits .u64) (4294967295 : Int))) : Int)) + Int.fdiv (IntKind.wrap .u64 (IntKind.wrap .u64 (↑(BitVec.toNat (BitVec.ofInt (IntKind.bits .u64) (IntKind.wrap .u64 u65) &&& BitVec.ofInt (IntKind.bits .u64) (4294967295 : Int))) : Int) * IntKind.wrap .u64 (↑(BitVec.toNat (BitVec.ofInt (IntKind.bits .u64) (1000000 : Int) &&& BitVec.ofInt (IntKind.bits .u64) (4294967295 : Int))) : Int))) ((2 : Int) ^ min (32 : Nat) (IntKind.bits .u64)))) ((2 : Int) ^ min (32 : Nat) (IntKind.bits .u64))) + Int.fdiv (IntKind.wrap .u64 (IntKind.wrap .u64 (↑(BitVec.toNat (BitVec.ofInt (IntKind.bits .u64) (IntKind.wrap .u64 (IntKind.wrap .u64 (Int.fdiv (IntKind.wrap .u64 u65) ((2 : Int) ^ min (32 : Nat) (IntKind.bits .u64)) * IntKind.wrap .u64 (↑(BitVec.toNat (BitVec.ofInt (IntKind.bits .u64) (1000000 : Int) &&& BitVec.ofInt (IntKind.bits .u64) (4294967295 : Int))) : Int)) + Int.fdiv (IntKind.wrap .u64 (IntKind.wrap .u64 (↑(BitVec.toNat (BitVec.ofInt (IntKind.bits .u64) (IntKind.wrap .u64 u65) &&& BitVec.ofInt (IntKind.bits .u64) (4294967295 : Int))) : Int) * IntKind.wrap .u64 (↑(BitVec.toNat (BitVec.ofInt (IntKind.bits .u64) (1000000 : Int) &&& BitVec.ofInt (IntKind.bits .u64) (4294967295 : Int))) : Int))) ((2 : Int) ^ min (32 : Nat) (IntKind.bits .u64)))) &&& BitVec.ofInt (IntKind.bits .u64) (4294967295 : Int))) : Int) + IntKind.wrap .u64 (IntKind.wrap .u64 (↑(BitVec.toNat (BitVec.ofInt (IntKind.bits .u64) (IntKind.wrap .u64 u65) &&& BitVec.ofInt (IntKind.bits .u64) (4294967295 : Int))) : Int) * Int.fdiv (1000000 : Int) ((2 : Int) ^ min (32 : Nat) (IntKind.bits .u64))))) ((2 : Int) ^ min (32 : Nat) (IntKind.bits .u64)))) (IntKind.wrap .u64 (IntKind.wrap .u64 u65 * (1000000 : Int))) (IntKind.wrap .u64 (IntKind.wrap .i64 (u66 * u17))))).2 > (0 : Int)) = r.2) ∧
 True)))))))))))) = _) ?_
  refine ob_t ?_
  refine call_s h fun h => ?_
  refine ob_t ?_
  refine ob_t ?_
  refine ob_t ?_
  refine call_s h fun h => ?_
  refine ob_t ?_
  refine ob_t ?_
  refine ob_t ?_
  exact ret_s h (fun e => by subst e; exact (by repeat' (first | exact trivial | exact ⟨rfl⟩ | refine And.intro ?_ ?_)))
set_option maxRecDepth 100000 in
theorem G_decay_centre_1_ok : SpecOK Tryz.prog 125 true (pureT k_G_decay_centre_1 g_G_decay_centre_1) := by
  refine pureT_ok (sp := (sp_126 (sp_127 sp0))) (fn := Tryz.f125) (body := bodyOf Tryz.f125) mixed (sp_126_ok (sp_127_ok sp0_ok)) Tryz.func125 (by kernel_rfl) (by kernel_rfl) fun ls t h ho b hb => ?_
  unfold g_G_decay_centre_1 at h
  split at h
  · rename_i u65 u66 u17 u18 u19 u20 u21 u22
    cases h
    obtain rfl := bld_eq hb
    exact ⟨Nat.le_of_ble_eq_true (by kernel_rfl), _, _, G_decay_centre_1_vc u65 u66 u17 u18 u19 u20 u21 u22 _ (ok_some ho)⟩
  · cases h
theorem sp_125_ok {sp : Specs} (h : SpecsOK Tryz.prog sp) : SpecsOK Tryz.prog (sp_125 sp) := addK_ok G_decay_centre_1_ok h
end Go.Sh
end

section
namespace Go.Sh
open Go Go.Proofs Go.RowKit Go.Sx
set_option linter.unusedVariables false
def k_G_decay_centre : List SV := [.c (.p [.d, .r (.floats .f32 []), .d, .d, .r (.recs 2 []), .r (.recs 2 [])])]
def G_decay_centre_b0 (u7 : List (List Int)) (x0 : (Int × Int × Int)) : Option ((Int × Int × Int) ⊕ (Int × Int)) :=
  if x0.1 < (↑(List.length u7) : Int) then
   if (0 : Int) ≤ x0.1 ∧ x0.1 < (↑(List.length u7) : Int) then
    if Int.toNat x0.1 < List.length u7 then
     Option.bind (G_plus x0.2.1 x0.2.2 (IntKind.wrap .i64 (x0.1 * List.getD (List.getD u7 (Int.toNat x0.1) []) (0 : Nat) (0 : Int))) (IntKind.wrap .i64 (x0.1 * List.getD (List.getD u7 (Int.toNat x0.1) []) (1 : Nat) (0 : Int)))) fun r0 =>
     some (.inl ((IntKind.wrap .i64 (x0.1 + (1 : Int)), IntKind.wrap .i64 (x0.2.1 + IntKind.wrap .i64 (x0.1 * List.getD (List.getD u7 (Int.toNat x0.1) []) (0 : Nat) (0 : Int))), IntKind.wrap .i64 (x0.2.2 + IntKind.wrap .i64 (x0.1 * List.getD (List.getD u7 (Int.toNat x0.1) []) (1 : Nat) (0 : Int))))))
    else none
   else none
  else
   some (.inr (x0.2.1, x0.2.2))
def G_decay_centre_r0 (u9 : Int) (u10 : List Nat) (u11 : Int) (u12 : Int) (u7 : List (List Int)) (u13 : List (List Int)) (u14 : Int × Int) : Option (Int × Int × Int) :=
  if (0 : Int) ≤ (0 : Int) ∧ (0 : Int) < (↑(List.length u13) : Int) then
   if (0 : Nat) < List.length u13 then
    Option.bind (G_decay_centre_1 u14.1 (List.getD (List.getD u13 (0 : Nat) []) (1 : Nat) (0 : Int)) u9 u10 u11 u12 u7 u13) fun r1 =>
    if (0 : Int) ≤ (0 : Int) ∧ (0 : Int) < (↑(List.length u13) : Int) then
     if (0 : Nat) < List.length u13 then
      Option.bind (G_decay_centre_1 u14.2 (List.getD (List.getD u13 (0 : Nat) []) (0 : Nat) (0 : Int)) u9 u10 u11 u12 u7 u13) fun r2 =>
      if (r2.2) = true then
       Option.bind (G_ceil (IntKind.wrap .i64 (IntKind.wrap .i64 ((↑(List.length u7) : Int) - (1 : Int)) * (1000000 : Int))) u9) fun r3 =>
       some ((r1.1, if r3 < IntKind.wrap .i64 (r2.1 + (1 : Int)) then r3 else IntKind.wrap .i64 (r2.1 + (1 : Int)), (0 : Int)))
      else
       Option.bind (G_ceil (IntKind.wrap .i64 (IntKind.wrap .i64 ((↑(List.length u7) : Int) - (1 : Int)) * (1000000 : Int))) u9) fun r3 =>
       some ((r1.1, if r3 < r2.1 then r3 else r2.1, (0 : Int)))
     else none
    else none
   else none
  else none
def G_decay_centre (u9 : Int) (u10 : List Nat) (u11 : Int) (u12 : Int) (u7 : List (List Int)) (u13 : List (List Int)) : Option (Int × Int × Int) :=
  if (u12 != (0 : Int)) = true then
   some (((0 : Int), (0 : Int), (23 : Int)))
  else
   if (0 : Int) ≤ (0 : Int) ∧ (0 : Int) < (↑(List.length u13) : Int) then
    if (0 : Nat) < List.length u13 then
     if (List.getD (List.getD u13 (0 : Nat) []) (0 : Nat) (0 : Int) == (0 : Int)) = true then
      some (((0 : Int), (0 : Int), (11 : Int)))
     else
      Option.bind (iter (G_decay_centre_b0 u7) big (((0 : Int), (0 : Int), (0 : Int)))) (G_decay_centre_r0 u9 u10 u11 u12 u7 u13)
    else none
   else none
def g_G_decay_centre : List Lf → Option GT
  | [.d (.i .i64 u9), .r (.floats .f32 u10), .d (.i .i64 u11), .d (.i .i64 u12), .r (.recs 2 u7), .r (.recs 2 u13)] => some (.leaf (ok (G_decay_centre u9 u10 u11 u12 u7 u13)) [.s [.d (.i .i64 ((val (G_decay_centre u9 u10 u11 u12 u7 u13)).1)), .d (.i .i64 ((val (G_decay_centre u9 u10 u11 u12 u7 u13)).2.1))], .c (.d (.i .i64 ((val (G_decay_centre u9 u10 u11 u12 u7 u13)).2.2)))])
  | _ => none
abbrev sp_82 : Specs → Specs := addK 82 true (pureT k_G_decay_centre g_G_decay_centre)
set_option maxRecDepth 100000 in
theorem G_decay_centre_vc (u9 : Int) (u10 : List Nat) (u11 : Int) (u12 : Int) (u7 : List (List Int)) (u13 : List (List Int)) (r : Int × Int × Int) (h : Option.bind (G_decay_centre u9 u10 u11 u12 u7 u13) some = some r) : runT Tryz.f82 ((sp_117 (sp_125 (sp_119 sp0)))) (fun gs id _ => match id with
 | 1 => some ⟨(Int × Int × Int) × Nat, fun z => ⟨[(1, .w (.c (.p 4 (0 : Nat) 1 (0 : Nat)))), (2, .w (.c (.p 5 (0 : Nat) 1 (0 : Nat)))), (4, .w (.c (.p 6 (0 : Nat) 1 (0 : Nat)))), (33, .w (.c (.o 1))), (34, .w (.c (.d (.i .i64 ((↑(List.length u7) : Int)))))), (35, .w (.c (.d (.i .i64 (Prod.fst (Prod.fst z))))))], [(4, .box 105 [.p 3 (0 : Nat) 1 (0 : Nat)]), (5, .box 30 [.d (.i .i64 (0 : Int)), .d (.i .i64 (0 : Int))]), (6, .box 30 [.d (.i .i64 (Prod.fst (Prod.snd (Prod.fst z)))), .d (.i .i64 (Prod.snd (Prod.snd (Prod.fst z))))]), (1, .ext (.recs 2 u7)), (3, .ebox [.d (.i .i64 u9), .o 0, .d (.i .i64 u11), .d (.i .i64 u12), .o 1, .o 2]), (0, .ext (.floats .f32 u10)), (2, .ext (.recs 2 u13))], 7⟩, fun z => Option.bind (iter (G_decay_centre_b0 u7) (Prod.snd z) (Prod.fst z)) (fun y0 => Option.bind (G_decay_centre_r0 u9 u10 u11 u12 u7 u13 y0) some) = some r, fun z => Prod.snd z⟩
 | _ => none) (bldD k_G_decay_centre [.d (.i .i64 u9), .r (.floats .f32 u10), .d (.i .i64 u11), .d (.i .i64 u12), .r (.recs 2 u7), .r (.recs 2 u13)]) [.s [.d (.i .i64 r.1), .d (.i .i64 r.2.1)], .c (.d (.i .i64 r.2.2))] := by
  refine Eq.mp (by kernel_rfl : (
 (Ob (True) ∧
 Br (u12 != (0 : Int))
   ((Ob (True) ∧
 (Ob (True) ∧
 (Ob ((0 : Int) = r.1) ∧
 (Ob ((0 : Int) = r.2.1) ∧
 (Ob ((23 : Int) = r.2.2) ∧
 True))))))
   ((Ob (True) ∧
 (Ob ((0 : Int) ≤ (0 : Int) ∧ (0 : Int) < (↑(List.length u13) : Int)) ∧
 (Ob ((0 : Nat) < List.length u13) ∧
 Br (List.getD (List.getD u13 (0 : Nat) []) (0 : Nat) (0 : Int) == (0 : Int))
   ((Ob (True) ∧
 (Ob (True) ∧
 (Ob ((0 : Int) = r.1) ∧
 (Ob ((0 : Int) = r.2.1) ∧
 (Ob ((11 : Int) = r.2.2) ∧
 True))))))
   ((Ob (True) ∧
   ((∃ (v0 : (Int × Int × Int) × Nat), (Ob ((Option.bind (iter (G_decay_centre_b0 u7) v0.2 v0.1) fun y0 => Option.bind (G_decay_centre_r0 u9 u10 u11 u12 u7 u13 y0) some) = some r) ∧
 (Ob ((0 : Nat) = (0 : Nat)) ∧
 (Ob ((0 : Nat) = (0 : Nat)) ∧
 (Ob ((0 : Nat) = (0 : Nat)) ∧
 (Ob ((↑(List.length u7) : Int) = (↑(List.length u7) : Int)) ∧
 (Ob ((0 : Int) = v0.1.1) ∧
 (Ob ((0 : Nat) = (0 : Nat)) ∧
 (Ob ((0 : Int) = (0 : Int)) ∧
 (Ob ((0 : Int) = (0 : Int)) ∧
 (Ob ((0 : Int) = v0.1.2.1) ∧
 (Ob ((0 : Int) = v0.1.2.2) ∧
 (Ob (u7 = u7) ∧
 (Ob (u9 = u9) ∧
 (Ob (u11 = u11) ∧
 (Ob (u12 = u12) ∧
 (Ob (u10 = u10) ∧
 (Ob (u13 = u13) ∧
 True)))))))))))))))))) ∧
   (∀ (v0 : (Int × Int × Int) × Nat), ((Option.bind (iter (G_decay_centre_b0 u7) v0.2 v0.1) fun y0 => Option.bind (G_decay_centre_r0 u9 u10 u11 u12 u7 u13 y0) some) = some r →
 Br (decide (v0.1.1 < (↑(List.length u7) : Int)))
   ((Ob ((0 : Int) ≤ v0.1.1 ∧ v0.1.1 < (↑(List.length u7) : Int)) ∧
 (Ob (Int.toNat v0.1.1 < List.length u7) ∧
 (Ob (ok (G_plus v0.1.2.1 v0.1.2.2 (IntKind.wrap .i64 (v0.1.1 * List.getD (List.getD u7 (Int.toNat v0.1.1) []) (0 : Nat) (0 : Int))) (IntKind.wrap .i64 (v0.1.1 * List.getD (List.getD u7 (Int.toNat v0.1.1) []) (1 : Nat) (0 : Int))))) ∧
   (∃ (v1 : (Int × Int × Int) × Nat), (Ob ((Option.bind (iter (G_decay_centre_b0 u7) v1.2 v1.1) fun y0 => Option.bind (G_decay_centre_r0 u9 u10 u11 u12 u7 u13 y0) some) = some r) ∧
 (Ob (v1.2 < v0.2) ∧
 (Ob ((0 : Nat) = (0 : Nat)) ∧
 (Ob ((0 : Nat) = (0 : Nat)) ∧
 (Ob ((0 : Nat) = (0 : Nat)) ∧
 (Ob ((↑(List.length u7) : Int) = (↑(List.length u7) : Int)) ∧
 (Ob (IntKind.wrap .i64 (v0.1.1 + (1 : Int)) = v1.1.1) ∧
 (Ob ((0 : Nat) = (0 : Nat)) ∧
 (Ob ((0 : Int) = (0 : Int)) ∧
 (Ob ((0 : Int) = (0 : Int)) ∧
 (Ob (IntKind.wrap .i64 (v0.1.2.1 + IntKind.wrap .i64 (v0.1.1 * List.getD (List.getD u7 (Int.toNat v0.1.1) []) (0 : Nat) (0 : Int))) = v1.1.2.1) ∧
 (Ob (IntKind.wrap .i64 (v0.1.2.2 + IntKind.wrap .i64 (v0.1.1 * List.getD (List.getD u7 (Int.toNat v0.1.1) []) (1 : Nat) (0 : Int))) = v1.1.2.2) ∧
 (Ob (u7 = u7) ∧
 (Ob (u9 = u9) ∧
 (Ob (u11 = u11) ∧
 (Ob (u12 = u12) ∧
 (Ob (u10 = u10) ∧
 (Ob (u13 = u13) ∧
 True)))))))))))))))))))))))
   ((Ob (True) ∧
 (Ob ((0 : Int) ≤ (0 : Int) ∧ (0 : Int) < (↑(List.length u13) : Int)) ∧
 (Ob ((0 : Nat) < List.length u13) ∧
 (Ob (ok (G_decay_centre_1 v0.1.2.1 (List.getD (List.getD u13 (0 : Nat) []) (1 : Nat) (0 : Int)) u9 u10 u11 u12 u7 u13)) ∧
 (Ob (True) ∧
 (Ob ((0 : Int) ≤ (0 : Int) ∧ (0 : Int) < (↑(List.length u13) : Int)) ∧
 (Ob ((0 : Nat) < List.length u13) ∧
 (Ob (ok (G_decay_centre_1 v0.1.2.2 (List.getD (List.getD u13 (0 : Nat) []) (0 : Nat) (0 : Int)) u9 u10 u11 u12 u7 u13)) ∧
 Br ((val (G_decay_centre_1 v0.1.2.2 (List.getD (List.getD u13 (0 : Nat) []) (0 : Nat) (0 : Int)) u9 u10 u11 u12 u7 u13)).2)
   ((Ob (True) ∧
 (Ob (True) ∧
 (Ob (ok (G_ceil (IntKind.wrap .i64 (IntKind.wrap .i64 ((↑(List.length u7) : Int) - (1 : Int)) * (1000000 : Int))) u9)) ∧
 (Ob (True) ∧
 (Ob (True) ∧
 (Ob ((val (G_decay_centre_1 v0.1.2.1 (List.getD (List.getD u13 (0 : Nat) []) (1 : Nat) (0 : Int)) u9 u10 u11 u12 u7 u13)).1 = r.1) ∧
 (Ob ((if val (G_ceil (IntKind.wrap .i64 (IntKind.wrap .i64 ((↑(List.length u7) : Int) - (1 : Int)) * (1000000 : Int))) u9) < IntKind.wrap .i64 ((val (G_decay_centre_1 v0.1.2.2 (List.getD (List.getD u13 (0 : Nat) []) (0 : Nat) (0 : Int)) u9 u10 u11 u12 u7 u13)).1 + (1 : Int)) then val (G_ceil (IntKind.wrap .i64 (IntKind.wrap .i64 ((↑(List.length u7) : Int) - (1 : Int)) * (1000000 : Int))) u9) else IntKind.wrap .i64 ((val (G_decay_centre_1 v0.1.2.2 (List.getD (List.getD u13 (0 : Nat) []) (0 : Nat) (0 : Int)) u9 u10 u11 u12 u7 u13)).1 + (1 : Int))) = r.2.1) ∧
 (Ob ((0 : Int) = r.2.2) ∧
 True)))))))))
   ((Ob (True) ∧
 (Ob (True) ∧
 (Ob (ok (G_ceil (IntKind.wrap .i64 (IntKind.wrap .i64 ((↑(List.length u7) : Int) - (1 : Int)) * (1000000 : Int))) u9)) ∧
 (Ob (True) ∧
 (Ob (True) ∧
 (Ob ((val (G_decay_centre_1 v0.1.2.1 (List.getD (List.getD u13 (0 : Nat) []) (1 : Nat) (0 : Int)) u9 u10 u11 u12 u7 u13)).1 = r.1) ∧
 (Ob ((if val (G_ceil (IntKind.wrap .i64 (IntKind.wrap .i64 ((↑(List.length u7) : Int) - (1 : Int)) * (1000000 : Int))) u9) < (val (G_decay_centre_1 v0.1.2.2 (List.getD (List.getD u13 (0 : Nat) []) (0 : Nat) (0 : Int)) u9 u10 u11 u12 u7 u13)).1 then val (G_ceil (IntKind.wrap .i64 (IntKind.wrap .i64 ((↑(List.length u7) : Int) - (1 : Int)) * (1000000 : Int))) u9) else (val (G_decay_centre_1 v0.1.2.2 (List.getD (List.getD u13 (0 : Nat) []) (0 : Nat) (0 : Int)) u9 u10 u11 u12 u7 u13)).1) = r.2.1) ∧
 (Ob ((0 : Int) = r.2.2) ∧
 True))))))))))))))))))))))))))))) = _) ?_
  refine ob_t ?_
  refine br_b h (fun h => ?_) (fun h => ?_)
  · refine ob_t ?_
    refine ob_t ?_
    exact ret_s h (fun e => by subst e; exact (by repeat' (first | exact trivial | exact ⟨rfl⟩ | refine And.intro ?_ ?_)))
  · refine ob_t ?_
    refine ob_s h fun h => ?_
    refine ob_s h fun h => ?_
    refine br_b h (fun h => ?_) (fun h => ?_)
    · refine ob_t ?_
      refine ob_t ?_
      exact ret_s h (fun e => by subst e; exact (by repeat' (first | exact trivial | exact ⟨rfl⟩ | refine And.intro ?_ ?_)))
    · refine ob_t ?_
      refine ⟨⟨(((0 : Int), (0 : Int), (0 : Int)), big), ⟨loop_s h⟩, (by repeat' (first | exact trivial | exact ⟨rfl⟩ | refine And.intro ?_ ?_))⟩, fun z4 hz4 => ?_⟩
      obtain ⟨k4, hm4, h⟩ := iter_pos hz4
      refine br_d h (fun h => ?_) (fun h => ?_)
      · refine ob_s h fun h => ?_
        refine ob_s h fun h => ?_
        refine call_s h fun h => ?_
        exact ⟨((IntKind.wrap .i64 ((Prod.fst z4).1 + (1 : Int)), IntKind.wrap .i64 ((Prod.fst z4).2.1 + IntKind.wrap .i64 ((Prod.fst z4).1 * List.getD (List.getD u7 (Int.toNat (Prod.fst z4).1) []) (0 : Nat) (0 : Int))), IntKind.wrap .i64 ((Prod.fst z4).2.2 + IntKind.wrap .i64 ((Prod.fst z4).1 * List.getD (List.getD u7 (Int.toNat (Prod.fst z4).1) []) (1 : Nat) (0 : Int)))), k4), ⟨next_s h⟩, ⟨lt_gs hm4.symm⟩, (by repeat' (first | exact trivial | exact ⟨rfl⟩ | refine And.intro ?_ ?_))⟩
      · have h := exit_s h
        refine ob_t ?_
        refine ob_s h fun h => ?_
        refine ob_s h fun h => ?_
        refine call_s h fun h => ?_
        refine ob_t ?_
        refine ob_s h fun h => ?_
        refine ob_s h fun h => ?_
        refine call_s h fun h => ?_
        refine br_b h (fun h => ?_) (fun h => ?_)
        · refine ob_t ?_
          refine ob_t ?_
          refine call_s h fun h => ?_
          refine ob_t ?_
          refine ob_t ?_
          exact ret_s h (fun e => by subst e; exact (by repeat' (first | exact trivial | exact ⟨rfl⟩ | refine And.intro ?_ ?_)))
        · refine ob_t ?_
          refine ob_t ?_
          refine call_s h fun h => ?_
          refine ob_t ?_
          refine ob_t ?_
          exact ret_s h (fun e => by subst e; exact (by repeat' (first | exact trivial | exact ⟨rfl⟩ | refine And.intro ?_ ?_)))
set_option maxRecDepth 100000 in
theorem G_decay_centre_ok : SpecOK Tryz.prog 82 true (pureT k_G_decay_centre g_G_decay_centre) := by
  refine pureT_ok (sp := (sp_117 (sp_125 (sp_119 sp0)))) (fn := Tryz.f82) (body := bodyOf Tryz.f82) mixed (sp_117_ok (sp_125_ok (sp_119_ok sp0_ok))) Tryz.func82 (by kernel_rfl) (by kernel_rfl) fun ls t h ho b hb => ?_
  unfold g_G_decay_centre at h
  split at h
  · rename_i u9 u10 u11 u12 u7 u13
    cases h
    obtain rfl := bld_eq hb
    exact ⟨Nat.le_of_ble_eq_true (by kernel_rfl), _, _, G_decay_centre_vc u9 u10 u11 u12 u7 u13 _ (ok_some ho)⟩
  · cases h
theorem sp_82_ok {sp : Specs} (h : SpecsOK Tryz.prog sp) : SpecsOK Tryz.prog (sp_82 sp) := addK_ok G_decay_centre_ok h
end Go.Sh
end

section
namespace Go.Sh
open Go Go.Proofs Go.RowKit Go.Sx
set_option linter.unusedVariables false
def k_G_FiguresOf_1 : List SV := [.c (.p [.p [.d, .r (.floats .f32 []), .d, .d, .r (.recs 2 []), .r (.recs 2 [])]])]
def G_FiguresOf_1 (u17 : Int) (u18 : List Nat) (u19 : Int) (u20 : Int) (u21 : List (List Int)) (u22 : List (List Int)) : Option (Int × Int × Int) :=
  Option.bind (G_decay_clarity u17 u18 u19 u20 u21 u22 (80000 : Int)) fun r0 =>
  some (r0.1, r0.2.1, r0.2.2)
def g_G_FiguresOf_1 : List Lf → Option GT
  | [.d (.i .i64 u17), .r (.floats .f32 u18), .d (.i .i64 u19), .d (.i .i64 u20), .r (.recs 2 u21), .r (.recs 2 u22)] => some (.leaf (ok (G_FiguresOf_1 u17 u18 u19 u20 u21 u22)) [.s [.d (.i .i64 ((val (G_FiguresOf_1 u17 u18 u19 u20 u21 u22)).1)), .d (.i .i64 ((val (G_FiguresOf_1 u17 u18 u19 u20 u21 u22)).2.1))], .c (.d (.i .i64 ((val (G_FiguresOf_1 u17 u18 u19 u20 u21 u22)).2.2)))])
  | _ => none
abbrev sp_102 : Specs → Specs := addK 102 true (pureT k_G_FiguresOf_1 g_G_FiguresOf_1)
set_option maxRecDepth 100000 in
def G_FiguresOf_1_t (u17 : Int) (u18 : List Nat) (u19 : Int) (u20 : Int) (u21 : List (List Int)) (u22 : List (List Int)) : T (Int × Int × Int) :=
 .obT
  (.call (G_decay_clarity u17 u18 u19 u20 u21 u22 (80000 : Int)) fun r0 =>
  .obT
  (.obT
  (.rc ((r0.1, r0.2.1, r0.2.2)))))
set_option maxRecDepth 100000 in
theorem G_FiguresOf_1_vc (u17 : Int) (u18 : List Nat) (u19 : Int) (u20 : Int) (u21 : List (List Int)) (u22 : List (List Int)) (r : Int × Int × Int) (h : Option.bind (G_FiguresOf_1 u17 u18 u19 u20 u21 u22) some = some r) : runT Tryz.f102 ((sp_78 sp0)) (fun _ _ _ => none) (bldD k_G_FiguresOf_1 [.d (.i .i64 u17), .r (.floats .f32 u18), .d (.i .i64 u19), .d (.i .i64 u20), .r (.recs 2 u21), .r (.recs 2 u22)]) [.s [.d (.i .i64 r.1), .d (.i .i64 r.2.1)], .c (.d (.i .i64 r.2.2))] :=
  T.vc (t := G_FiguresOf_1_t u17 u18 u19 u20 u21 u22) (by kernel_rfl) (by kernel_rfl) h
set_option maxRecDepth 100000 in
theorem G_FiguresOf_1_ok : SpecOK Tryz.prog 102 true (pureT k_G_FiguresOf_1 g_G_FiguresOf_1) := by
  refine pureT_ok (sp := (sp_78 sp0)) (fn := Tryz.f102) (body := bodyOf Tryz.f102) mixed (sp_78_ok sp0_ok) Tryz.func102 (by kernel_rfl) (by kernel_rfl) fun ls t h ho b hb => ?_
  unfold g_G_FiguresOf_1 at h
  split at h
  · rename_i u17 u18 u19 u20 u21 u22
    cases h
    obtain rfl := bld_eq hb
    exact ⟨Nat.le_of_ble_eq_true (by kernel_rfl), _, _, G_FiguresOf_1_vc u17 u18 u19 u20 u21 u22 _ (ok_some ho)⟩
  · cases h
theorem sp_102_ok {sp : Specs} (h : SpecsOK Tryz.prog sp) : SpecsOK Tryz.prog (sp_102 sp) := addK_ok G_FiguresOf_1_ok h
def k_G_FiguresOf_2 : List SV := [.c (.p [.p [.d, .r (.floats .f32 []), .d, .d, .r (.recs 2 []), .r (.recs 2 [])]])]
def G_FiguresOf_2 (u17 : Int) (u18 : List Nat) (u19 : Int) (u20 : Int) (u21 : List (List Int)) (u22 : List (List Int)) : Option (Int × Int × Int) :=
  Option.bind (G_decay_definition u17 u18 u19 u20 u21 u22 (50000 : Int)) fun r0 =>
  some (r0.1, r0.2.1, r0.2.2)
def g_G_FiguresOf_2 : List Lf → Option GT
  | [.d (.i .i64 u17), .r (.floats .f32 u18), .d (.i .i64 u19), .d (.i .i64 u20), .r (.recs 2 u21), .r (.recs 2 u22)] => some (.leaf (ok (G_FiguresOf_2 u17 u18 u19 u20 u21 u22)) [.s [.d (.i .i64 ((val (G_FiguresOf_2 u17 u18 u19 u20 u21 u22)).1)), .d (.i .i64 ((val (G_FiguresOf_2 u17 u18 u19 u20 u21 u22)).2.1))], .c (.d (.i .i64 ((val (G_FiguresOf_2 u17 u18 u19 u20 u21 u22)).2.2)))])
  | _ => none
abbrev sp_103 : Specs → Specs := addK 103 true (pureT k_G_FiguresOf_2 g_G_FiguresOf_2)
set_option maxRecDepth 100000 in
def G_FiguresOf_2_t (u17 : Int) (u18 : List Nat) (u19 : Int) (u20 : Int) (u21 : List (List Int)) (u22 : List (List Int)) : T (Int × Int × Int) :=
 .obT
  (.call (G_decay_definition u17 u18 u19 u20 u21 u22 (50000 : Int)) fun r0 =>
  .obT
  (.obT
  (.rc ((r0.1, r0.2.1, r0.2.2)))))
set_option maxRecDepth 100000 in
theorem G_FiguresOf_2_vc (u17 : Int) (u18 : List Nat) (u19 : Int) (u20 : Int) (u21 : List (List Int)) (u22 : List (List Int)) (r : Int × Int × Int) (h : Option.bind (G_FiguresOf_2 u17 u18 u19 u20 u21 u22) some = some r) : runT Tryz.f103 ((sp_98 sp0)) (fun _ _ _ => none) (bldD k_G_FiguresOf_2 [.d (.i .i64 u17), .r (.floats .f32 u18), .d (.i .i64 u19), .d (.i .i64 u20), .r (.recs 2 u21), .r (.recs 2 u22)]) [.s [.d (.i .i64 r.1), .d (.i .i64 r.2.1)], .c (.d (.i .i64 r.2.2))] :=
  T.vc (t := G_FiguresOf_2_t u17 u18 u19 u20 u21 u22) (by kernel_rfl) (by kernel_rfl) h
set_option maxRecDepth 100000 in
theorem G_FiguresOf_2_ok : SpecOK Tryz.prog 103 true (pureT k_G_FiguresOf_2 g_G_FiguresOf_2) := by
  refine pureT_ok (sp := (sp_98 sp0)) (fn := Tryz.f103) (body := bodyOf Tryz.f103) mixed (sp_98_ok sp0_ok) Tryz.func103 (by kernel_rfl) (by kernel_rfl) fun ls t h ho b hb => ?_
  unfold g_G_FiguresOf_2 at h
  split at h
  · rename_i u17 u18 u19 u20 u21 u22
    cases h
    obtain rfl := bld_eq hb
    exact ⟨Nat.le_of_ble_eq_true (by kernel_rfl), _, _, G_FiguresOf_2_vc u17 u18 u19 u20 u21 u22 _ (ok_some ho)⟩
  · cases h
theorem sp_103_ok {sp : Specs} (h : SpecsOK Tryz.prog sp) : SpecsOK Tryz.prog (sp_103 sp) := addK_ok G_FiguresOf_2_ok h
def k_G_FiguresOf_3 : List SV := [.c (.p [.p [.d, .r (.floats .f32 []), .d, .d, .r (.recs 2 []), .r (.recs 2 [])]]), .c (.p [.d])]
def G_FiguresOf_3 (u17 : Int) (u18 : List Nat) (u19 : Int) (u20 : Int) (u21 : List (List Int)) (u22 : List (List Int)) (v1_ : Int) : Option (Int × Int × Int) :=
  Option.bind (G_decay_decayTime u17 u18 u19 u20 u21 u22 v1_) fun r0 =>
  some (r0.1, r0.2.1, r0.2.2)
def g_G_FiguresOf_3 : List Lf → Option GT
  | [.d (.i .i64 u17), .r (.floats .f32 u18), .d (.i .i64 u19), .d (.i .i64 u20), .r (.recs 2 u21), .r (.recs 2 u22), .d (.i .i64 v1_)] => some (.leaf (ok (G_FiguresOf_3 u17 u18 u19 u20 u21 u22 v1_)) [.s [.d (.i .i64 ((val (G_FiguresOf_3 u17 u18 u19 u20 u21 u22 v1_)).1)), .d (.i .i64 ((val (G_FiguresOf_3 u17 u18 u19 u20 u21 u22 v1_)).2.1))], .c (.d (.i .i64 ((val (G_FiguresOf_3 u17 u18 u19 u20 u21 u22 v1_)).2.2)))])
  | _ => none
abbrev sp_104 : Specs → Specs := addK 104 true (pureT k_G_FiguresOf_3 g_G_FiguresOf_3)
set_option maxRecDepth 100000 in
def G_FiguresOf_3_t (u17 : Int) (u18 : List Nat) (u19 : Int) (u20 : Int) (u21 : List (List Int)) (u22 : List (List Int)) (v1_ : Int) : T (Int × Int × Int) :=
 .obT
  (.obT
  (.call (G_decay_decayTime u17 u18 u19 u20 u21 u22 v1_) fun r0 =>
  .obT
  (.obT
  (.rc ((r0.1, r0.2.1, r0.2.2))))))
set_option maxRecDepth 100000 in
theorem G_FiguresOf_3_vc (u17 : Int) (u18 : List Nat) (u19 : Int) (u20 : Int) (u21 : List (List Int)) (u22 : List (List Int)) (v1_ : Int) (r : Int × Int × Int) (h : Option.bind (G_FiguresOf_3 u17 u18 u19 u20 u21 u22 v1_) some = some r) : runT Tryz.f104 ((sp_69 sp0)) (fun _ _ _ => none) (bldD k_G_FiguresOf_3 [.d (.i .i64 u17), .r (.floats .f32 u18), .d (.i .i64 u19), .d (.i .i64 u20), .r (.recs 2 u21), .r (.recs 2 u22), .d (.i .i64 v1_)]) [.s [.d (.i .i64 r.1), .d (.i .i64 r.2.1)], .c (.d (.i .i64 r.2.2))] :=
  T.vc (t := G_FiguresOf_3_t u17 u18 u19 u20 u21 u22 v1_) (by kernel_rfl) (by kernel_rfl) h
set_option maxRecDepth 100000 in
theorem G_FiguresOf_3_ok : SpecOK Tryz.prog 104 true (pureT k_G_FiguresOf_3 g_G_FiguresOf_3) := by
  refine pureT_ok (sp := (sp_69 sp0)) (fn := Tryz.f104) (body := bodyOf Tryz.f104) mixed (sp_69_ok sp0_ok) Tryz.func104 (by kernel_rfl) (by kernel_rfl) fun ls t h ho b hb => ?_
  unfold g_G_FiguresOf_3 at h
  split at h
  · rename_i u17 u18 u19 u20 u21 u22 v1_
    cases h
    obtain rfl := bld_eq hb
    exact ⟨Nat.le_of_ble_eq_true (by kernel_rfl), _, _, G_FiguresOf_3_vc u17 u18 u19 u20 u21 u22 v1_ _ (ok_some ho)⟩
  · cases h
theorem sp_104_ok {sp : Specs} (h : SpecsOK Tryz.prog sp) : SpecsOK Tryz.prog (sp_104 sp) := addK_ok G_FiguresOf_3_ok h
def k_G_FiguresOf : List SV := [.a [.d, .r (.floats .f32 []), .d, .d]]
def G_FiguresOf (u4 : Int) (u0 : List Nat) (u5 : Int) (u1 : Int) : Option (Bool × Bool × Bool × Bool × Bool × Bool × Int × Int × Int × Int × Int × Int × Int × Int × Int × Int × Int × Int × Int) :=
  if ((val (G_open u4 u0 u5 u1)).1 != (0 : Int)) = true then
   Option.bind (G_open u4 u0 u5 u1) fun r0 =>
   if (r0.1 != (0 : Int)) = true then
    some ((false, false, false, false, false, false, (0 : Int), (0 : Int), (0 : Int), (0 : Int), (0 : Int), (0 : Int), (0 : Int), (0 : Int), (0 : Int), (0 : Int), (0 : Int), (0 : Int), r0.1))
   else
    none   else
   Option.bind (G_open u4 u0 u5 u1) fun r0 =>
   Option.bind (G_FiguresOf_3 u4 u0 u5 u1 r0.2.1 r0.2.2 (0 : Int)) fun r1 =>
   if (r1.2.2 == (0 : Int)) = true then
    Option.bind (G_FiguresOf_3 u4 u0 u5 u1 r0.2.1 r0.2.2 (1 : Int)) fun r2 =>
    if (r2.2.2 == (0 : Int)) = true then
     Option.bind (G_FiguresOf_3 u4 u0 u5 u1 r0.2.1 r0.2.2 (2 : Int)) fun r3 =>
     if (r3.2.2 == (0 : Int)) = true then
      Option.bind (G_FiguresOf_1 u4 u0 u5 u1 r0.2.1 r0.2.2) fun r4 =>
      if (r4.2.2 == (0 : Int)) = true then
       Option.bind (G_FiguresOf_2 u4 u0 u5 u1 r0.2.1 r0.2.2) fun r5 =>
       if (r5.2.2 == (0 : Int)) = true then
        Option.bind (G_decay_centre u4 u0 u5 u1 r0.2.1 r0.2.2) fun r6 =>
        if (r6.2.2 == (0 : Int)) = true then
         some ((true, true, true, true, true, true, r1.1, r1.2.1, r2.1, r2.2.1, r3.1, r3.2.1, r4.1, r4.2.1, r5.1, r5.2.1, r6.1, r6.2.1, (0 : Int)))
        else
         some ((true, true, true, true, true, false, r1.1, r1.2.1, r2.1, r2.2.1, r3.1, r3.2.1, r4.1, r4.2.1, r5.1, r5.2.1, (0 : Int), (0 : Int), (0 : Int)))
       else
        Option.bind (G_decay_centre u4 u0 u5 u1 r0.2.1 r0.2.2) fun r6 =>
        if (r6.2.2 == (0 : Int)) = true then
         some ((true, true, true, true, false, true, r1.1, r1.2.1, r2.1, r2.2.1, r3.1, r3.2.1, r4.1, r4.2.1, (0 : Int), (0 : Int), r6.1, r6.2.1, (0 : Int)))
        else
         some ((true, true, true, true, false, false, r1.1, r1.2.1, r2.1, r2.2.1, r3.1, r3.2.1, r4.1, r4.2.1, (0 : Int), (0 : Int), (0 : Int), (0 : Int), (0 : Int)))
      else
       Option.bind (G_FiguresOf_2 u4 u0 u5 u1 r0.2.1 r0.2.2) fun r5 =>
       if (r5.2.2 == (0 : Int)) = true then
        Option.bind (G_decay_centre u4 u0 u5 u1 r0.2.1 r0.2.2) fun r6 =>
        if (r6.2.2 == (0 : Int)) = true then
         some ((true, true, true, false, true, true, r1.1, r1.2.1, r2.1, r2.2.1, r3.1, r3.2.1, (0 : Int), (0 : Int), r5.1, r5.2.1, r6.1, r6.2.1, (0 : Int)))
        else
         some ((true, true, true, false, true, false, r1.1, r1.2.1, r2.1, r2.2.1, r3.1, r3.2.1, (0 : Int), (0 : Int), r5.1, r5.2.1, (0 : Int), (0 : Int), (0 : Int)))
       else
        Option.bind (G_decay_centre u4 u0 u5 u1 r0.2.1 r0.2.2) fun r6 =>
        if (r6.2.2 == (0 : Int)) = true then
         some ((true, true, true, false, false, true, r1.1, r1.2.1, r2.1, r2.2.1, r3.1, r3.2.1, (0 : Int), (0 : Int), (0 : Int), (0 : Int), r6.1, r6.2.1, (0 : Int)))
        else
         some ((true, true, true, false, false, false, r1.1, r1.2.1, r2.1, r2.2.1, r3.1, r3.2.1, (0 : Int), (0 : Int), (0 : Int), (0 : Int), (0 : Int), (0 : Int), (0 : Int)))
     else
      Option.bind (G_FiguresOf_1 u4 u0 u5 u1 r0.2.1 r0.2.2) fun r4 =>
      if (r4.2.2 == (0 : Int)) = true then
       Option.bind (G_FiguresOf_2 u4 u0 u5 u1 r0.2.1 r0.2.2) fun r5 =>
       if (r5.2.2 == (0 : Int)) = true then
        Option.bind (G_decay_centre u4 u0 u5 u1 r0.2.1 r0.2.2) fun r6 =>
        if (r6.2.2 == (0 : Int)) = true then
         some ((true, true, false, true, true, true, r1.1, r1.2.1, r2.1, r2.2.1, (0 : Int), (0 : Int), r4.1, r4.2.1, r5.1, r5.2.1, r6.1, r6.2.1, (0 : Int)))
        else
         some ((true, true, false, true, true, false, r1.1, r1.2.1, r2.1, r2.2.1, (0 : Int), (0 : Int), r4.1, r4.2.1, r5.1, r5.2.1, (0 : Int), (0 : Int), (0 : Int)))
       else
        Option.bind (G_decay_centre u4 u0 u5 u1 r0.2.1 r0.2.2) fun r6 =>
        if (r6.2.2 == (0 : Int)) = true then
         some ((true, true, false, true, false, true, r1.1, r1.2.1, r2.1, r2.2.1, (0 : Int), (0 : Int), r4.1, r4.2.1, (0 : Int), (0 : Int), r6.1, r6.2.1, (0 : Int)))
        else
         some ((true, true, false, true, false, false, r1.1, r1.2.1, r2.1, r2.2.1, (0 : Int), (0 : Int), r4.1, r4.2.1, (0 : Int), (0 : Int), (0 : Int), (0 : Int), (0 : Int)))
      else
       Option.bind (G_FiguresOf_2 u4 u0 u5 u1 r0.2.1 r0.2.2) fun r5 =>
       if (r5.2.2 == (0 : Int)) = true then
        Option.bind (G_decay_centre u4 u0 u5 u1 r0.2.1 r0.2.2) fun r6 =>
        if (r6.2.2 == (0 : Int)) = true then
         some ((true, true, false, false, true, true, r1.1, r1.2.1, r2.1, r2.2.1, (0 : Int), (0 : Int), (0 : Int), (0 : Int), r5.1, r5.2.1, r6.1, r6.2.1, (0 : Int)))
        else
         some ((true, true, false, false, true, false, r1.1, r1.2.1, r2.1, r2.2.1, (0 : Int), (0 : Int), (0 : Int), (0 : Int), r5.1, r5.2.1, (0 : Int), (0 : Int), (0 : Int)))
       else
        Option.bind (G_decay_centre u4 u0 u5 u1 r0.2.1 r0.2.2) fun r6 =>
        if (r6.2.2 == (0 : Int)) = true then
         some ((true, true, false, false, false, true, r1.1, r1.2.1, r2.1, r2.2.1, (0 : Int), (0 : Int), (0 : Int), (0 : Int), (0 : Int), (0 : Int), r6.1, r6.2.1, (0 : Int)))
        else
         some ((true, true, false, false, false, false, r1.1, r1.2.1, r2.1, r2.2.1, (0 : Int), (0 : Int), (0 : Int), (0 : Int), (0 : Int), (0 : Int), (0 : Int), (0 : Int), (0 : Int)))
    else
     Option.bind (G_FiguresOf_3 u4 u0 u5 u1 r0.2.1 r0.2.2 (2 : Int)) fun r3 =>
     if (r3.2.2 == (0 : Int)) = true then
      Option.bind (G_FiguresOf_1 u4 u0 u5 u1 r0.2.1 r0.2.2) fun r4 =>
      if (r4.2.2 == (0 : Int)) = true then
       Option.bind (G_FiguresOf_2 u4 u0 u5 u1 r0.2.1 r0.2.2) fun r5 =>
       if (r5.2.2 == (0 : Int)) = true then
        Option.bind (G_decay_centre u4 u0 u5 u1 r0.2.1 r0.2.2) fun r6 =>
        if (r6.2.2 == (0 : Int)) = true then
         some ((true, false, true, true, true, true, r1.1, r1.2.1, (0 : Int), (0 : Int), r3.1, r3.2.1, r4.1, r4.2.1, r5.1, r5.2.1, r6.1, r6.2.1, (0 : Int)))
        else
         some ((true, false, true, true, true, false, r1.1, r1.2.1, (0 : Int), (0 : Int), r3.1, r3.2.1, r4.1, r4.2.1, r5.1, r5.2.1, (0 : Int), (0 : Int), (0 : Int)))
       else
        Option.bind (G_decay_centre u4 u0 u5 u1 r0.2.1 r0.2.2) fun r6 =>
        if (r6.2.2 == (0 : Int)) = true then
         some ((true, false, true, true, false, true, r1.1, r1.2.1, (0 : Int), (0 : Int), r3.1, r3.2.1, r4.1, r4.2.1, (0 : Int), (0 : Int), r6.1, r6.2.1, (0 : Int)))
        else
         some ((true, false, true, true, false, false, r1.1, r1.2.1, (0 : Int), (0 : Int), r3.1, r3.2.1, r4.1, r4.2.1, (0 : Int), (0 : Int), (0 : Int), (0 : Int), (0 : Int)))
      else
       Option.bind (G_FiguresOf_2 u4 u0 u5 u1 r0.2.1 r0.2.2) fun r5 =>
       if (r5.2.2 == (0 : Int)) = true then
        Option.bind (G_decay_centre u4 u0 u5 u1 r0.2.1 r0.2.2) fun r6 =>
        if (r6.2.2 == (0 : Int)) = true then
         some ((true, false, true, false, true, true, r1.1, r1.2.1, (0 : Int), (0 : Int), r3.1, r3.2.1, (0 : Int), (0 : Int), r5.1, r5.2.1, r6.1, r6.2.1, (0 : Int)))
        else
         some ((true, false, true, false, true, false, r1.1, r1.2.1, (0 : Int), (0 : Int), r3.1, r3.2.1, (0 : Int), (0 : Int), r5.1, r5.2.1, (0 : Int), (0 : Int), (0 : Int)))
       else
        Option.bind (G_decay_centre u4 u0 u5 u1 r0.2.1 r0.2.2) fun r6 =>
        if (r6.2.2 == (0 : Int)) = true then
         some ((true, false, true, false, false, true, r1.1, r1.2.1, (0 : Int), (0 : Int), r3.1, r3.2.1, (0 : Int), (0 : Int), (0 : Int), (0 : Int), r6.1, r6.2.1, (0 : Int)))
        else
         some ((true, false, true, false, false, false, r1.1, r1.2.1, (0 : Int), (0 : Int), r3.1, r3.2.1, (0 : Int), (0 : Int), (0 : Int), (0 : Int), (0 : Int), (0 : Int), (0 : Int)))
     else
      Option.bind (G_FiguresOf_1 u4 u0 u5 u1 r0.2.1 r0.2.2) fun r4 =>
      if (r4.2.2 == (0 : Int)) = true then
       Option.bind (G_FiguresOf_2 u4 u0 u5 u1 r0.2.1 r0.2.2) fun r5 =>
       if (r5.2.2 == (0 : Int)) = true then
        Option.bind (G_decay_centre u4 u0 u5 u1 r0.2.1 r0.2.2) fun r6 =>
        if (r6.2.2 == (0 : Int)) = true then
         some ((true, false, false, true, true, true, r1.1, r1.2.1, (0 : Int), (0 : Int), (0 : Int), (0 : Int), r4.1, r4.2.1, r5.1, r5.2.1, r6.1, r6.2.1, (0 : Int)))
        else
         some ((true, false, false, true, true, false, r1.1, r1.2.1, (0 : Int), (0 : Int), (0 : Int), (0 : Int), r4.1, r4.2.1, r5.1, r5.2.1, (0 : Int), (0 : Int), (0 : Int)))
       else
        Option.bind (G_decay_centre u4 u0 u5 u1 r0.2.1 r0.2.2) fun r6 =>
        if (r6.2.2 == (0 : Int)) = true then
         some ((true, false, false, true, false, true, r1.1, r1.2.1, (0 : Int), (0 : Int), (0 : Int), (0 : Int), r4.1, r4.2.1, (0 : Int), (0 : Int), r6.1, r6.2.1, (0 : Int)))
        else
         some ((true, false, false, true, false, false, r1.1, r1.2.1, (0 : Int), (0 : Int), (0 : Int), (0 : Int), r4.1, r4.2.1, (0 : Int), (0 : Int), (0 : Int), (0 : Int), (0 : Int)))
      else
       Option.bind (G_FiguresOf_2 u4 u0 u5 u1 r0.2.1 r0.2.2) fun r5 =>
       if (r5.2.2 == (0 : Int)) = true then
        Option.bind (G_decay_centre u4 u0 u5 u1 r0.2.1 r0.2.2) fun r6 =>
        if (r6.2.2 == (0 : Int)) = true then
         some ((true, false, false, false, true, true, r1.1, r1.2.1, (0 : Int), (0 : Int), (0 : Int), (0 : Int), (0 : Int), (0 : Int), r5.1, r5.2.1, r6.1, r6.2.1, (0 : Int)))
        else
         some ((true, false, false, false, true, false, r1.1, r1.2.1, (0 : Int), (0 : Int), (0 : Int), (0 : Int), (0 : Int), (0 : Int), r5.1, r5.2.1, (0 : Int), (0 : Int), (0 : Int)))
       else
        Option.bind (G_decay_centre u4 u0 u5 u1 r0.2.1 r0.2.2) fun r6 =>
        if (r6.2.2 == (0 : Int)) = true then
         some ((true, false, false, false, false, true, r1.1, r1.2.1, (0 : Int), (0 : Int), (0 : Int), (0 : Int), (0 : Int), (0 : Int), (0 : Int), (0 : Int), r6.1, r6.2.1, (0 : Int)))
        else
         some ((true, false, false, false, false, false, r1.1, r1.2.1, (0 : Int), (0 : Int), (0 : Int), (0 : Int), (0 : Int), (0 : Int), (0 : Int), (0 : Int), (0 : Int), (0 : Int), (0 : Int)))
   else
    Option.bind (G_FiguresOf_3 u4 u0 u5 u1 r0.2.1 r0.2.2 (1 : Int)) fun r2 =>
    if (r2.2.2 == (0 : Int)) = true then
     Option.bind (G_FiguresOf_3 u4 u0 u5 u1 r0.2.1 r0.2.2 (2 : Int)) fun r3 =>
     if (r3.2.2 == (0 : Int)) = true then
      Option.bind (G_FiguresOf_1 u4 u0 u5 u1 r0.2.1 r0.2.2) fun r4 =>
      if (r4.2.2 == (0 : Int)) = true then
       Option.bind (G_FiguresOf_2 u4 u0 u5 u1 r0.2.1 r0.2.2) fun r5 =>
       if (r5.2.2 == (0 : Int)) = true then
        Option.bind (G_decay_centre u4 u0 u5 u1 r0.2.1 r0.2.2) fun r6 =>
        if (r6.2.2 == (0 : Int)) = true then
         some ((false, true, true, true, true, true, (0 : Int), (0 : Int), r2.1, r2.2.1, r3.1, r3.2.1, r4.1, r4.2.1, r5.1, r5.2.1, r6.1, r6.2.1, (0 : Int)))
        else
         some ((false, true, true, true, true, false, (0 : Int), (0 : Int), r2.1, r2.2.1, r3.1, r3.2.1, r4.1, r4.2.1, r5.1, r5.2.1, (0 : Int), (0 : Int), (0 : Int)))
       else
        Option.bind (G_decay_centre u4 u0 u5 u1 r0.2.1 r0.2.2) fun r6 =>
        if (r6.2.2 == (0 : Int)) = true then
         some ((false, true, true, true, false, true, (0 : Int), (0 : Int), r2.1, r2.2.1, r3.1, r3.2.1, r4.1, r4.2.1, (0 : Int), (0 : Int), r6.1, r6.2.1, (0 : Int)))
        else
         some ((false, true, true, true, false, false, (0 : Int), (0 : Int), r2.1, r2.2.1, r3.1, r3.2.1, r4.1, r4.2.1, (0 : Int), (0 : Int), (0 : Int), (0 : Int), (0 : Int)))
      else
       Option.bind (G_FiguresOf_2 u4 u0 u5 u1 r0.2.1 r0.2.2) fun r5 =>
       if (r5.2.2 == (0 : Int)) = true then
        Option.bind (G_decay_centre u4 u0 u5 u1 r0.2.1 r0.2.2) fun r6 =>
        if (r6.2.2 == (0 : Int)) = true then
         some ((false, true, true, false, true, true, (0 : Int), (0 : Int), r2.1, r2.2.1, r3.1, r3.2.1, (0 : Int), (0 : Int), r5.1, r5.2.1, r6.1, r6.2.1, (0 : Int)))
        else
         some ((false, true, true, false, true, false, (0 : Int), (0 : Int), r2.1, r2.2.1, r3.1, r3.2.1, (0 : Int), (0 : Int), r5.1, r5.2.1, (0 : Int), (0 : Int), (0 : Int)))
       else
        Option.bind (G_decay_centre u4 u0 u5 u1 r0.2.1 r0.2.2) fun r6 =>
        if (r6.2.2 == (0 : Int)) = true then
         some ((false, true, true, false, false, true, (0 : Int), (0 : Int), r2.1, r2.2.1, r3.1, r3.2.1, (0 : Int), (0 : Int), (0 : Int), (0 : Int), r6.1, r6.2.1, (0 : Int)))
        else
         some ((false, true, true, false, false, false, (0 : Int), (0 : Int), r2.1, r2.2.1, r3.1, r3.2.1, (0 : Int), (0 : Int), (0 : Int), (0 : Int), (0 : Int), (0 : Int), (0 : Int)))
     else
      Option.bind (G_FiguresOf_1 u4 u0 u5 u1 r0.2.1 r0.2.2) fun r4 =>
      if (r4.2.2 == (0 : Int)) = true then
       Option.bind (G_FiguresOf_2 u4 u0 u5 u1 r0.2.1 r0.2.2) fun r5 =>
       if (r5.2.2 == (0 : Int)) = true then
        Option.bind (G_decay_centre u4 u0 u5 u1 r0.2.1 r0.2.2) fun r6 =>
        if (r6.2.2 == (0 : Int)) = true then
         some ((false, true, false, true, true, true, (0 : Int), (0 : Int), r2.1, r2.2.1, (0 : Int), (0 : Int), r4.1, r4.2.1, r5.1, r5.2.1, r6.1, r6.2.1, (0 : Int)))
        else
         some ((false, true, false, true, true, false, (0 : Int), (0 : Int), r2.1, r2.2.1, (0 : Int), (0 : Int), r4.1, r4.2.1, r5.1, r5.2.1, (0 : Int), (0 : Int), (0 : Int)))
       else
        Option.bind (G_decay_centre u4 u0 u5 u1 r0.2.1 r0.2.2) fun r6 =>
        if (r6.2.2 == (0 : Int)) = true then
         some ((false, true, false, true, false, true, (0 : Int), (0 : Int), r2.1, r2.2.1, (0 : Int), (0 : Int), r4.1, r4.2.1, (0 : Int), (0 : Int), r6.1, r6.2.1, (0 : Int)))
        else
         some ((false, true, false, true, false, false, (0 : Int), (0 : Int), r2.1, r2.2.1, (0 : Int), (0 : Int), r4.1, r4.2.1, (0 : Int), (0 : Int), (0 : Int), (0 : Int), (0 : Int)))
      else
       Option.bind (G_FiguresOf_2 u4 u0 u5 u1 r0.2.1 r0.2.2) fun r5 =>
       if (r5.2.2 == (0 : Int)) = true then
        Option.bind (G_decay_centre u4 u0 u5 u1 r0.2.1 r0.2.2) fun r6 =>
        if (r6.2.2 == (0 : Int)) = true then
         some ((false, true, false, false, true, true, (0 : Int), (0 : Int), r2.1, r2.2.1, (0 : Int), (0 : Int), (0 : Int), (0 : Int), r5.1, r5.2.1, r6.1, r6.2.1, (0 : Int)))
        else
         some ((false, true, false, false, true, false, (0 : Int), (0 : Int), r2.1, r2.2.1, (0 : Int), (0 : Int), (0 : Int), (0 : Int), r5.1, r5.2.1, (0 : Int), (0 : Int), (0 : Int)))
       else
        Option.bind (G_decay_centre u4 u0 u5 u1 r0.2.1 r0.2.2) fun r6 =>
        if (r6.2.2 == (0 : Int)) = true then
         some ((false, true, false, false, false, true, (0 : Int), (0 : Int), r2.1, r2.2.1, (0 : Int), (0 : Int), (0 : Int), (0 : Int), (0 : Int), (0 : Int), r6.1, r6.2.1, (0 : Int)))
        else
         some ((false, true, false, false, false, false, (0 : Int), (0 : Int), r2.1, r2.2.1, (0 : Int), (0 : Int), (0 : Int), (0 : Int), (0 : Int), (0 : Int), (0 : Int), (0 : Int), (0 : Int)))
    else
     Option.bind (G_FiguresOf_3 u4 u0 u5 u1 r0.2.1 r0.2.2 (2 : Int)) fun r3 =>
     if (r3.2.2 == (0 : Int)) = true then
      Option.bind (G_FiguresOf_1 u4 u0 u5 u1 r0.2.1 r0.2.2) fun r4 =>
      if (r4.2.2 == (0 : Int)) = true then
       Option.bind (G_FiguresOf_2 u4 u0 u5 u1 r0.2.1 r0.2.2) fun r5 =>
       if (r5.2.2 == (0 : Int)) = true then
        Option.bind (G_decay_centre u4 u0 u5 u1 r0.2.1 r0.2.2) fun r6 =>
        if (r6.2.2 == (0 : Int)) = true then
         some ((false, false, true, true, true, true, (0 : Int), (0 : Int), (0 : Int), (0 : Int), r3.1, r3.2.1, r4.1, r4.2.1, r5.1, r5.2.1, r6.1, r6.2.1, (0 : Int)))
        else
         some ((false, false, true, true, true, false, (0 : Int), (0 : Int), (0 : Int), (0 : Int), r3.1, r3.2.1, r4.1, r4.2.1, r5.1, r5.2.1, (0 : Int), (0 : Int), (0 : Int)))
       else
        Option.bind (G_decay_centre u4 u0 u5 u1 r0.2.1 r0.2.2) fun r6 =>
        if (r6.2.2 == (0 : Int)) = true then
         some ((false, false, true, true, false, true, (0 : Int), (0 : Int), (0 : Int), (0 : Int), r3.1, r3.2.1, r4.1, r4.2.1, (0 : Int), (0 : Int), r6.1, r6.2.1, (0 : Int)))
        else
         some ((false, false, true, true, false, false, (0 : Int), (0 : Int), (0 : Int), (0 : Int), r3.1, r3.2.1, r4.1, r4.2.1, (0 : Int), (0 : Int), (0 : Int), (0 : Int), (0 : Int)))
      else
       Option.bind (G_FiguresOf_2 u4 u0 u5 u1 r0.2.1 r0.2.2) fun r5 =>
       if (r5.2.2 == (0 : Int)) = true then
        Option.bind (G_decay_centre u4 u0 u5 u1 r0.2.1 r0.2.2) fun r6 =>
        if (r6.2.2 == (0 : Int)) = true then
         some ((false, false, true, false, true, true, (0 : Int), (0 : Int), (0 : Int), (0 : Int), r3.1, r3.2.1, (0 : Int), (0 : Int), r5.1, r5.2.1, r6.1, r6.2.1, (0 : Int)))
        else
         some ((false, false, true, false, true, false, (0 : Int), (0 : Int), (0 : Int), (0 : Int), r3.1, r3.2.1, (0 : Int), (0 : Int), r5.1, r5.2.1, (0 : Int), (0 : Int), (0 : Int)))
       else
        Option.bind (G_decay_centre u4 u0 u5 u1 r0.2.1 r0.2.2) fun r6 =>
        if (r6.2.2 == (0 : Int)) = true then
         some ((false, false, true, false, false, true, (0 : Int), (0 : Int), (0 : Int), (0 : Int), r3.1, r3.2.1, (0 : Int), (0 : Int), (0 : Int), (0 : Int), r6.1, r6.2.1, (0 : Int)))
        else
         some ((false, false, true, false, false, false, (0 : Int), (0 : Int), (0 : Int), (0 : Int), r3.1, r3.2.1, (0 : Int), (0 : Int), (0 : Int), (0 : Int), (0 : Int), (0 : Int), (0 : Int)))
     else
      Option.bind (G_FiguresOf_1 u4 u0 u5 u1 r0.2.1 r0.2.2) fun r4 =>
      if (r4.2.2 == (0 : Int)) = true then
       Option.bind (G_FiguresOf_2 u4 u0 u5 u1 r0.2.1 r0.2.2) fun r5 =>
       if (r5.2.2 == (0 : Int)) = true then
        Option.bind (G_decay_centre u4 u0 u5 u1 r0.2.1 r0.2.2) fun r6 =>
        if (r6.2.2 == (0 : Int)) = true then
         some ((false, false, false, true, true, true, (0 : Int), (0 : Int), (0 : Int), (0 : Int), (0 : Int), (0 : Int), r4.1, r4.2.1, r5.1, r5.2.1, r6.1, r6.2.1, (0 : Int)))
        else
         some ((false, false, false, true, true, false, (0 : Int), (0 : Int), (0 : Int), (0 : Int), (0 : Int), (0 : Int), r4.1, r4.2.1, r5.1, r5.2.1, (0 : Int), (0 : Int), (0 : Int)))
       else
        Option.bind (G_decay_centre u4 u0 u5 u1 r0.2.1 r0.2.2) fun r6 =>
        if (r6.2.2 == (0 : Int)) = true then
         some ((false, false, false, true, false, true, (0 : Int), (0 : Int), (0 : Int), (0 : Int), (0 : Int), (0 : Int), r4.1, r4.2.1, (0 : Int), (0 : Int), r6.1, r6.2.1, (0 : Int)))
        else
         some ((false, false, false, true, false, false, (0 : Int), (0 : Int), (0 : Int), (0 : Int), (0 : Int), (0 : Int), r4.1, r4.2.1, (0 : Int), (0 : Int), (0 : Int), (0 : Int), (0 : Int)))
      else
       Option.bind (G_FiguresOf_2 u4 u0 u5 u1 r0.2.1 r0.2.2) fun r5 =>
       if (r5.2.2 == (0 : Int)) = true then
        Option.bind (G_decay_centre u4 u0 u5 u1 r0.2.1 r0.2.2) fun r6 =>
        if (r6.2.2 == (0 : Int)) = true then
         some ((false, false, false, false, true, true, (0 : Int), (0 : Int), (0 : Int), (0 : Int), (0 : Int), (0 : Int), (0 : Int), (0 : Int), r5.1, r5.2.1, r6.1, r6.2.1, (0 : Int)))
        else
         some ((false, false, false, false, true, false, (0 : Int), (0 : Int), (0 : Int), (0 : Int), (0 : Int), (0 : Int), (0 : Int), (0 : Int), r5.1, r5.2.1, (0 : Int), (0 : Int), (0 : Int)))
       else
        Option.bind (G_decay_centre u4 u0 u5 u1 r0.2.1 r0.2.2) fun r6 =>
        if (r6.2.2 == (0 : Int)) = true then
         some ((false, false, false, false, false, true, (0 : Int), (0 : Int), (0 : Int), (0 : Int), (0 : Int), (0 : Int), (0 : Int), (0 : Int), (0 : Int), (0 : Int), r6.1, r6.2.1, (0 : Int)))
        else
         some ((false, false, false, false, false, false, (0 : Int), (0 : Int), (0 : Int), (0 : Int), (0 : Int), (0 : Int), (0 : Int), (0 : Int), (0 : Int), (0 : Int), (0 : Int), (0 : Int), (0 : Int)))
def g_G_FiguresOf : List Lf → Option GT
  | [.d (.i .i64 u4), .r (.floats .f32 u0), .d (.i .i64 u5), .d (.i .i64 u1)] => some (.leaf (ok (G_FiguresOf u4 u0 u5 u1)) [.s [.d (.b ((val (G_FiguresOf u4 u0 u5 u1)).1)), .d (.b ((val (G_FiguresOf u4 u0 u5 u1)).2.1)), .d (.b ((val (G_FiguresOf u4 u0 u5 u1)).2.2.1)), .d (.b ((val (G_FiguresOf u4 u0 u5 u1)).2.2.2.1)), .d (.b ((val (G_FiguresOf u4 u0 u5 u1)).2.2.2.2.1)), .d (.b ((val (G_FiguresOf u4 u0 u5 u1)).2.2.2.2.2.1)), .d (.i .i64 ((val (G_FiguresOf u4 u0 u5 u1)).2.2.2.2.2.2.1)), .d (.i .i64 ((val (G_FiguresOf u4 u0 u5 u1)).2.2.2.2.2.2.2.1)), .d (.i .i64 ((val (G_FiguresOf u4 u0 u5 u1)).2.2.2.2.2.2.2.2.1)), .d (.i .i64 ((val (G_FiguresOf u4 u0 u5 u1)).2.2.2.2.2.2.2.2.2.1)), .d (.i .i64 ((val (G_FiguresOf u4 u0 u5 u1)).2.2.2.2.2.2.2.2.2.2.1)), .d (.i .i64 ((val (G_FiguresOf u4 u0 u5 u1)).2.2.2.2.2.2.2.2.2.2.2.1)), .d (.i .i64 ((val (G_FiguresOf u4 u0 u5 u1)).2.2.2.2.2.2.2.2.2.2.2.2.1)), .d (.i .i64 ((val (G_FiguresOf u4 u0 u5 u1)).2.2.2.2.2.2.2.2.2.2.2.2.2.1)), .d (.i .i64 ((val (G_FiguresOf u4 u0 u5 u1)).2.2.2.2.2.2.2.2.2.2.2.2.2.2.1)), .d (.i .i64 ((val (G_FiguresOf u4 u0 u5 u1)).2.2.2.2.2.2.2.2.2.2.2.2.2.2.2.1)), .d (.i .i64 ((val (G_FiguresOf u4 u0 u5 u1)).2.2.2.2.2.2.2.2.2.2.2.2.2.2.2.2.1)), .d (.i .i64 ((val (G_FiguresOf u4 u0 u5 u1)).2.2.2.2.2.2.2.2.2.2.2.2.2.2.2.2.2.1))], .c (.d (.i .i64 ((val (G_FiguresOf u4 u0 u5 u1)).2.2.2.2.2.2.2.2.2.2.2.2.2.2.2.2.2.2)))])
  | _ => none
abbrev sp_60 : Specs → Specs := addK 60 true (pureT k_G_FiguresOf g_G_FiguresOf)
set_option maxRecDepth 100000 in
def G_FiguresOf_t (u4 : Int) (u0 : List Nat) (u5 : Int) (u1 : Int) : T (Bool × Bool × Bool × Bool × Bool × Bool × Int × Int × Int × Int × Int × Int × Int × Int × Int × Int × Int × Int × Int) :=
 .brB ((val (G_open u4 u0 u5 u1)).1 != (0 : Int))
  (.call (G_open u4 u0 u5 u1) fun r0 =>
  .brB (r0.1 != (0 : Int))
  (.obT
  (.obT
  (.rc (((false, false, false, false, false, false, (0 : Int), (0 : Int), (0 : Int), (0 : Int), (0 : Int), (0 : Int), (0 : Int), (0 : Int), (0 : Int), (0 : Int), (0 : Int), (0 : Int), r0.1))))))
  (.bad (fun r => False)))
  (.call (G_open u4 u0 u5 u1) fun r0 =>
  .obT
  (.obC (((0 : Int) ≤ (0 : Int) ∧ (0 : Int) < (3 : Int)) ∧ true = true) (by decide)
  (.obC ((0 : Int) ≤ (0 : Int) ∧ (0 : Int) < (6 : Int)) (by decide)
  (.obT
  (.obC (((0 : Int) ≤ (1 : Int) ∧ (1 : Int) < (3 : Int)) ∧ true = true) (by decide)
  (.obC ((0 : Int) ≤ (1 : Int) ∧ (1 : Int) < (6 : Int)) (by decide)
  (.obT
  (.obC (((0 : Int) ≤ (2 : Int) ∧ (2 : Int) < (3 : Int)) ∧ true = true) (by decide)
  (.obC ((0 : Int) ≤ (2 : Int) ∧ (2 : Int) < (6 : Int)) (by decide)
  (.obT
  (.obC ((0 : Int) ≤ (0 : Int) ∧ (0 : Int) < (6 : Int)) (by decide)
  (.call (G_FiguresOf_3 u4 u0 u5 u1 r0.2.1 r0.2.2 (0 : Int)) fun r1 =>
  .brB (r1.2.2 == (0 : Int))
  (.obC ((0 : Int) ≤ (0 : Int) ∧ (0 : Int) < (6 : Int)) (by decide)
  (.obC (true = true) (by decide)
  (.obC ((0 : Int) ≤ (0 : Int) ∧ (0 : Int) < (6 : Int)) (by decide)
  (.obC (true = true ∧ true = true) (by decide)
  (.obC ((0 : Int) ≤ (1 : Int) ∧ (1 : Int) < (6 : Int)) (by decide)
  (.call (G_FiguresOf_3 u4 u0 u5 u1 r0.2.1 r0.2.2 (1 : Int)) fun r2 =>
  .brB (r2.2.2 == (0 : Int))
  (.obC ((0 : Int) ≤ (1 : Int) ∧ (1 : Int) < (6 : Int)) (by decide)
  (.obC (true = true) (by decide)
  (.obC ((0 : Int) ≤ (1 : Int) ∧ (1 : Int) < (6 : Int)) (by decide)
  (.obC (true = true ∧ true = true) (by decide)
  (.obC ((0 : Int) ≤ (2 : Int) ∧ (2 : Int) < (6 : Int)) (by decide)
  (.call (G_FiguresOf_3 u4 u0 u5 u1 r0.2.1 r0.2.2 (2 : Int)) fun r3 =>
  .brB (r3.2.2 == (0 : Int))
  (.obC ((0 : Int) ≤ (2 : Int) ∧ (2 : Int) < (6 : Int)) (by decide)
  (.obC (true = true) (by decide)
  (.obC ((0 : Int) ≤ (2 : Int) ∧ (2 : Int) < (6 : Int)) (by decide)
  (.obC (true = true ∧ true = true) (by decide)
  (.obC ((0 : Int) ≤ (3 : Int) ∧ (3 : Int) < (6 : Int)) (by decide)
  (.call (G_FiguresOf_1 u4 u0 u5 u1 r0.2.1 r0.2.2) fun r4 =>
  .brB (r4.2.2 == (0 : Int))
  (.obC ((0 : Int) ≤ (3 : Int) ∧ (3 : Int) < (6 : Int)) (by decide)
  (.obC (true = true) (by decide)
  (.obC ((0 : Int) ≤ (3 : Int) ∧ (3 : Int) < (6 : Int)) (by decide)
  (.obC (true = true ∧ true = true) (by decide)
  (.obC ((0 : Int) ≤ (4 : Int) ∧ (4 : Int) < (6 : Int)) (by decide)
  (.call (G_FiguresOf_2 u4 u0 u5 u1 r0.2.1 r0.2.2) fun r5 =>
  .brB (r5.2.2 == (0 : Int))
  (.obC ((0 : Int) ≤ (4 : Int) ∧ (4 : Int) < (6 : Int)) (by decide)
  (.obC (true = true) (by decide)
  (.obC ((0 : Int) ≤ (4 : Int) ∧ (4 : Int) < (6 : Int)) (by decide)
  (.obC (true = true ∧ true = true) (by decide)
  (.obC ((0 : Int) ≤ (5 : Int) ∧ (5 : Int) < (6 : Int)) (by decide)
  (.call (G_decay_centre u4 u0 u5 u1 r0.2.1 r0.2.2) fun r6 =>
  .brB (r6.2.2 == (0 : Int))
  (.obC ((0 : Int) ≤ (5 : Int) ∧ (5 : Int) < (6 : Int)) (by decide)
  (.obC (true = true) (by decide)
  (.obC ((0 : Int) ≤ (5 : Int) ∧ (5 : Int) < (6 : Int)) (by decide)
  (.obC (true = true ∧ true = true) (by decide)
  (.obT
  (.obT
  (.rc (((true, true, true, true, true, true, r1.1, r1.2.1, r2.1, r2.2.1, r3.1, r3.2.1, r4.1, r4.2.1, r5.1, r5.2.1, r6.1, r6.2.1, (0 : Int)))))))))))
  (.obT
  (.obT
  (.rc (((true, true, true, true, true, false, r1.1, r1.2.1, r2.1, r2.2.1, r3.1, r3.2.1, r4.1, r4.2.1, r5.1, r5.2.1, (0 : Int), (0 : Int), (0 : Int)))))))))))))
  (.obC ((0 : Int) ≤ (5 : Int) ∧ (5 : Int) < (6 : Int)) (by decide)
  (.call (G_decay_centre u4 u0 u5 u1 r0.2.1 r0.2.2) fun r6 =>
  .brB (r6.2.2 == (0 : Int))
  (.obC ((0 : Int) ≤ (5 : Int) ∧ (5 : Int) < (6 : Int)) (by decide)
  (.obC (true = true) (by decide)
  (.obC ((0 : Int) ≤ (5 : Int) ∧ (5 : Int) < (6 : Int)) (by decide)
  (.obC (true = true ∧ true = true) (by decide)
  (.obT
  (.obT
  (.rc (((true, true, true, true, false, true, r1.1, r1.2.1, r2.1, r2.2.1, r3.1, r3.2.1, r4.1, r4.2.1, (0 : Int), (0 : Int), r6.1, r6.2.1, (0 : Int)))))))))))
  (.obT
  (.obT
  (.rc (((true, true, true, true, false, false, r1.1, r1.2.1, r2.1, r2.2.1, r3.1, r3.2.1, r4.1, r4.2.1, (0 : Int), (0 : Int), (0 : Int), (0 : Int), (0 : Int)))))))))))))))
  (.obC ((0 : Int) ≤ (4 : Int) ∧ (4 : Int) < (6 : Int)) (by decide)
  (.call (G_FiguresOf_2 u4 u0 u5 u1 r0.2.1 r0.2.2) fun r5 =>
  .brB (r5.2.2 == (0 : Int))
  (.obC ((0 : Int) ≤ (4 : Int) ∧ (4 : Int) < (6 : Int)) (by decide)
  (.obC (true = true) (by decide)
  (.obC ((0 : Int) ≤ (4 : Int) ∧ (4 : Int) < (6 : Int)) (by decide)
  (.obC (true = true ∧ true = true) (by decide)
  (.obC ((0 : Int) ≤ (5 : Int) ∧ (5 : Int) < (6 : Int)) (by decide)
  (.call (G_decay_centre u4 u0 u5 u1 r0.2.1 r0.2.2) fun r6 =>
  .brB (r6.2.2 == (0 : Int))
  (.obC ((0 : Int) ≤ (5 : Int) ∧ (5 : Int) < (6 : Int)) (by decide)
  (.obC (true = true) (by decide)
  (.obC ((0 : Int) ≤ (5 : Int) ∧ (5 : Int) < (6 : Int)) (by decide)
  (.obC (true = true ∧ true = true) (by decide)
  (.obT
  (.obT
  (.rc (((true, true, true, false, true, true, r1.1, r1.2.1, r2.1, r2.2.1, r3.1, r3.2.1, (0 : Int), (0 : Int), r5.1, r5.2.1, r6.1, r6.2.1, (0 : Int)))))))))))
  (.obT
  (.obT
  (.rc (((true, true, true, false, true, false, r1.1, r1.2.1, r2.1, r2.2.1, r3.1, r3.2.1, (0 : Int), (0 : Int), r5.1, r5.2.1, (0 : Int), (0 : Int), (0 : Int)))))))))))))
  (.obC ((0 : Int) ≤ (5 : Int) ∧ (5 : Int) < (6 : Int)) (by decide)
  (.call (G_decay_centre u4 u0 u5 u1 r0.2.1 r0.2.2) fun r6 =>
  .brB (r6.2.2 == (0 : Int))
  (.obC ((0 : Int) ≤ (5 : Int) ∧ (5 : Int) < (6 : Int)) (by decide)
  (.obC (true = true) (by decide)
  (.obC ((0 : Int) ≤ (5 : Int) ∧ (5 : Int) < (6 : Int)) (by decide)
  (.obC (true = true ∧ true = true) (by decide)
  (.obT
  (.obT
  (.rc (((true, true, true, false, false, true, r1.1, r1.2.1, r2.1, r2.2.1, r3.1, r3.2.1, (0 : Int), (0 : Int), (0 : Int), (0 : Int), r6.1, r6.2.1, (0 : Int)))))))))))
  (.obT
  (.obT
  (.rc (((true, true, true, false, false, false, r1.1, r1.2.1, r2.1, r2.2.1, r3.1, r3.2.1, (0 : Int), (0 : Int), (0 : Int), (0 : Int), (0 : Int), (0 : Int), (0 : Int)))))))))))))))))
  (.obC ((0 : Int) ≤ (3 : Int) ∧ (3 : Int) < (6 : Int)) (by decide)
  (.call (G_FiguresOf_1 u4 u0 u5 u1 r0.2.1 r0.2.2) fun r4 =>
  .brB (r4.2.2 == (0 : Int))
  (.obC ((0 : Int) ≤ (3 : Int) ∧ (3 : Int) < (6 : Int)) (by decide)
  (.obC (true = true) (by decide)
  (.obC ((0 : Int) ≤ (3 : Int) ∧ (3 : Int) < (6 : Int)) (by decide)
  (.obC (true = true ∧ true = true) (by decide)
  (.obC ((0 : Int) ≤ (4 : Int) ∧ (4 : Int) < (6 : Int)) (by decide)
  (.call (G_FiguresOf_2 u4 u0 u5 u1 r0.2.1 r0.2.2) fun r5 =>
  .brB (r5.2.2 == (0 : Int))
  (.obC ((0 : Int) ≤ (4 : Int) ∧ (4 : Int) < (6 : Int)) (by decide)
  (.obC (true = true) (by decide)
  (.obC ((0 : Int) ≤ (4 : Int) ∧ (4 : Int) < (6 : Int)) (by decide)
  (.obC (true = true ∧ true = true) (by decide)
  (.obC ((0 : Int) ≤ (5 : Int) ∧ (5 : Int) < (6 : Int)) (by decide)
  (.call (G_decay_centre u4 u0 u5 u1 r0.2.1 r0.2.2) fun r6 =>
  .brB (r6.2.2 == (0 : Int))
  (.obC ((0 : Int) ≤ (5 : Int) ∧ (5 : Int) < (6 : Int)) (by decide)
  (.obC (true = true) (by decide)
  (.obC ((0 : Int) ≤ (5 : Int) ∧ (5 : Int) < (6 : Int)) (by decide)
  (.obC (true = true ∧ true = true) (by decide)
  (.obT
  (.obT
  (.rc (((true, true, false, true, true, true, r1.1, r1.2.1, r2.1, r2.2.1, (0 : Int), (0 : Int), r4.1, r4.2.1, r5.1, r5.2.1, r6.1, r6.2.1, (0 : Int)))))))))))
  (.obT
  (.obT
  (.rc (((true, true, false, true, true, false, r1.1, r1.2.1, r2.1, r2.2.1, (0 : Int), (0 : Int), r4.1, r4.2.1, r5.1, r5.2.1, (0 : Int), (0 : Int), (0 : Int)))))))))))))
  (.obC ((0 : Int) ≤ (5 : Int) ∧ (5 : Int) < (6 : Int)) (by decide)
  (.call (G_decay_centre u4 u0 u5 u1 r0.2.1 r0.2.2) fun r6 =>
  .brB (r6.2.2 == (0 : Int))
  (.obC ((0 : Int) ≤ (5 : Int) ∧ (5 : Int) < (6 : Int)) (by decide)
  (.obC (true = true) (by decide)
  (.obC ((0 : Int) ≤ (5 : Int) ∧ (5 : Int) < (6 : Int)) (by decide)
  (.obC (true = true ∧ true = true) (by decide)
  (.obT
  (.obT
  (.rc (((true, true, false, true, false, true, r1.1, r1.2.1, r2.1, r2.2.1, (0 : Int), (0 : Int), r4.1, r4.2.1, (0 : Int), (0 : Int), r6.1, r6.2.1, (0 : Int)))))))))))
  (.obT
  (.obT
  (.rc (((true, true, false, true, false, false, r1.1, r1.2.1, r2.1, r2.2.1, (0 : Int), (0 : Int), r4.1, r4.2.1, (0 : Int), (0 : Int), (0 : Int), (0 : Int), (0 : Int)))))))))))))))
  (.obC ((0 : Int) ≤ (4 : Int) ∧ (4 : Int) < (6 : Int)) (by decide)
  (.call (G_FiguresOf_2 u4 u0 u5 u1 r0.2.1 r0.2.2) fun r5 =>
  .brB (r5.2.2 == (0 : Int))
  (.obC ((0 : Int) ≤ (4 : Int) ∧ (4 : Int) < (6 : Int)) (by decide)
  (.obC (true = true) (by decide)
  (.obC ((0 : Int) ≤ (4 : Int) ∧ (4 : Int) < (6 : Int)) (by decide)
  (.obC (true = true ∧ true = true) (by decide)
  (.obC ((0 : Int) ≤ (5 : Int) ∧ (5 : Int) < (6 : Int)) (by decide)
  (.call (G_decay_centre u4 u0 u5 u1 r0.2.1 r0.2.2) fun r6 =>
  .brB (r6.2.2 == (0 : Int))
  (.obC ((0 : Int) ≤ (5 : Int) ∧ (5 : Int) < (6 : Int)) (by decide)
  (.obC (true = true) (by decide)
  (.obC ((0 : Int) ≤ (5 : Int) ∧ (5 : Int) < (6 : Int)) (by decide)
  (.obC (true = true ∧ true = true) (by decide)
  (.obT
  (.obT
  (.rc (((true, true, false, false, true, true, r1.1, r1.2.1, r2.1, r2.2.1, (0 : Int), (0 : Int), (0 : Int), (0 : Int), r5.1, r5.2.1, r6.1, r6.2.1, (0 : Int)))))))))))
  (.obT
  (.obT
  (.rc (((true, true, false, false, true, false, r1.1, r1.2.1, r2.1, r2.2.1, (0 : Int), (0 : Int), (0 : Int), (0 : Int), r5.1, r5.2.1, (0 : Int), (0 : Int), (0 : Int)))))))))))))
  (.obC ((0 : Int) ≤ (5 : Int) ∧ (5 : Int) < (6 : Int)) (by decide)
  (.call (G_decay_centre u4 u0 u5 u1 r0.2.1 r0.2.2) fun r6 =>
  .brB (r6.2.2 == (0 : Int))
  (.obC ((0 : Int) ≤ (5 : Int) ∧ (5 : Int) < (6 : Int)) (by decide)
  (.obC (true = true) (by decide)
  (.obC ((0 : Int) ≤ (5 : Int) ∧ (5 : Int) < (6 : Int)) (by decide)
  (.obC (true = true ∧ true = true) (by decide)
  (.obT
  (.obT
  (.rc (((true, true, false, false, false, true, r1.1, r1.2.1, r2.1, r2.2.1, (0 : Int), (0 : Int), (0 : Int), (0 : Int), (0 : Int), (0 : Int), r6.1, r6.2.1, (0 : Int)))))))))))
  (.obT
  (.obT
  (.rc (((true, true, false, false, false, false, r1.1, r1.2.1, r2.1, r2.2.1, (0 : Int), (0 : Int), (0 : Int), (0 : Int), (0 : Int), (0 : Int), (0 : Int), (0 : Int), (0 : Int)))))))))))))))))))
  (.obC ((0 : Int) ≤ (2 : Int) ∧ (2 : Int) < (6 : Int)) (by decide)
  (.call (G_FiguresOf_3 u4 u0 u5 u1 r0.2.1 r0.2.2 (2 : Int)) fun r3 =>
  .brB (r3.2.2 == (0 : Int))
  (.obC ((0 : Int) ≤ (2 : Int) ∧ (2 : Int) < (6 : Int)) (by decide)
  (.obC (true = true) (by decide)
  (.obC ((0 : Int) ≤ (2 : Int) ∧ (2 : Int) < (6 : Int)) (by decide)
  (.obC (true = true ∧ true = true) (by decide)
  (.obC ((0 : Int) ≤ (3 : Int) ∧ (3 : Int) < (6 : Int)) (by decide)
  (.call (G_FiguresOf_1 u4 u0 u5 u1 r0.2.1 r0.2.2) fun r4 =>
  .brB (r4.2.2 == (0 : Int))
  (.obC ((0 : Int) ≤ (3 : Int) ∧ (3 : Int) < (6 : Int)) (by decide)
  (.obC (true = true) (by decide)
  (.obC ((0 : Int) ≤ (3 : Int) ∧ (3 : Int) < (6 : Int)) (by decide)
  (.obC (true = true ∧ true = true) (by decide)
  (.obC ((0 : Int) ≤ (4 : Int) ∧ (4 : Int) < (6 : Int)) (by decide)
  (.call (G_FiguresOf_2 u4 u0 u5 u1 r0.2.1 r0.2.2) fun r5 =>
  .brB (r5.2.2 == (0 : Int))
  (.obC ((0 : Int) ≤ (4 : Int) ∧ (4 : Int) < (6 : Int)) (by decide)
  (.obC (true = true) (by decide)
  (.obC ((0 : Int) ≤ (4 : Int) ∧ (4 : Int) < (6 : Int)) (by decide)
  (.obC (true = true ∧ true = true) (by decide)
  (.obC ((0 : Int) ≤ (5 : Int) ∧ (5 : Int) < (6 : Int)) (by decide)
  (.call (G_decay_centre u4 u0 u5 u1 r0.2.1 r0.2.2) fun r6 =>
  .brB (r6.2.2 == (0 : Int))
  (.obC ((0 : Int) ≤ (5 : Int) ∧ (5 : Int) < (6 : Int)) (by decide)
  (.obC (true = true) (by decide)
  (.obC ((0 : Int) ≤ (5 : Int) ∧ (5 : Int) < (6 : Int)) (by decide)
  (.obC (true = true ∧ true = true) (by decide)
  (.obT
  (.obT
  (.rc (((true, false, true, true, true, true, r1.1, r1.2.1, (0 : Int), (0 : Int), r3.1, r3.2.1, r4.1, r4.2.1, r5.1, r5.2.1, r6.1, r6.2.1, (0 : Int)))))))))))
  (.obT
  (.obT
  (.rc (((true, false, true, true, true, false, r1.1, r1.2.1, (0 : Int), (0 : Int), r3.1, r3.2.1, r4.1, r4.2.1, r5.1, r5.2.1, (0 : Int), (0 : Int), (0 : Int)))))))))))))
  (.obC ((0 : Int) ≤ (5 : Int) ∧ (5 : Int) < (6 : Int)) (by decide)
  (.call (G_decay_centre u4 u0 u5 u1 r0.2.1 r0.2.2) fun r6 =>
  .brB (r6.2.2 == (0 : Int))
  (.obC ((0 : Int) ≤ (5 : Int) ∧ (5 : Int) < (6 : Int)) (by decide)
  (.obC (true = true) (by decide)
  (.obC ((0 : Int) ≤ (5 : Int) ∧ (5 : Int) < (6 : Int)) (by decide)
  (.obC (true = true ∧ true = true) (by decide)
  (.obT
  (.obT
  (.rc (((true, false, true, true, false, true, r1.1, r1.2.1, (0 : Int), (0 : Int), r3.1, r3.2.1, r4.1, r4.2.1, (0 : Int), (0 : Int), r6.1, r6.2.1, (0 : Int)))))))))))
  (.obT
  (.obT
  (.rc (((true, false, true, true, false, false, r1.1, r1.2.1, (0 : Int), (0 : Int), r3.1, r3.2.1, r4.1, r4.2.1, (0 : Int), (0 : Int), (0 : Int), (0 : Int), (0 : Int)))))))))))))))
  (.obC ((0 : Int) ≤ (4 : Int) ∧ (4 : Int) < (6 : Int)) (by decide)
  (.call (G_FiguresOf_2 u4 u0 u5 u1 r0.2.1 r0.2.2) fun r5 =>
  .brB (r5.2.2 == (0 : Int))
  (.obC ((0 : Int) ≤ (4 : Int) ∧ (4 : Int) < (6 : Int)) (by decide)
  (.obC (true = true) (by decide)
  (.obC ((0 : Int) ≤ (4 : Int) ∧ (4 : Int) < (6 : Int)) (by decide)
  (.obC (true = true ∧ true = true) (by decide)
  (.obC ((0 : Int) ≤ (5 : Int) ∧ (5 : Int) < (6 : Int)) (by decide)
  (.call (G_decay_centre u4 u0 u5 u1 r0.2.1 r0.2.2) fun r6 =>
  .brB (r6.2.2 == (0 : Int))
  (.obC ((0 : Int) ≤ (5 : Int) ∧ (5 : Int) < (6 : Int)) (by decide)
  (.obC (true = true) (by decide)
  (.obC ((0 : Int) ≤ (5 : Int) ∧ (5 : Int) < (6 : Int)) (by decide)
  (.obC (true = true ∧ true = true) (by decide)
  (.obT
  (.obT
  (.rc (((true, false, true, false, true, true, r1.1, r1.2.1, (0 : Int), (0 : Int), r3.1, r3.2.1, (0 : Int), (0 : Int), r5.1, r5.2.1, r6.1, r6.2.1, (0 : Int)))))))))))
  (.obT
  (.obT
  (.rc (((true, false, true, false, true, false, r1.1, r1.2.1, (0 : Int), (0 : Int), r3.1, r3.2.1, (0 : Int), (0 : Int), r5.1, r5.2.1, (0 : Int), (0 : Int), (0 : Int)))))))))))))
  (.obC ((0 : Int) ≤ (5 : Int) ∧ (5 : Int) < (6 : Int)) (by decide)
  (.call (G_decay_centre u4 u0 u5 u1 r0.2.1 r0.2.2) fun r6 =>
  .brB (r6.2.2 == (0 : Int))
  (.obC ((0 : Int) ≤ (5 : Int) ∧ (5 : Int) < (6 : Int)) (by decide)
  (.obC (true = true) (by decide)
  (.obC ((0 : Int) ≤ (5 : Int) ∧ (5 : Int) < (6 : Int)) (by decide)
  (.obC (true = true ∧ true = true) (by decide)
  (.obT
  (.obT
  (.rc (((true, false, true, false, false, true, r1.1, r1.2.1, (0 : Int), (0 : Int), r3.1, r3.2.1, (0 : Int), (0 : Int), (0 : Int), (0 : Int), r6.1, r6.2.1, (0 : Int)))))))))))
  (.obT
  (.obT
  (.rc (((true, false, true, false, false, false, r1.1, r1.2.1, (0 : Int), (0 : Int), r3.1, r3.2.1, (0 : Int), (0 : Int), (0 : Int), (0 : Int), (0 : Int), (0 : Int), (0 : Int)))))))))))))))))
  (.obC ((0 : Int) ≤ (3 : Int) ∧ (3 : Int) < (6 : Int)) (by decide)
  (.call (G_FiguresOf_1 u4 u0 u5 u1 r0.2.1 r0.2.2) fun r4 =>
  .brB (r4.2.2 == (0 : Int))
  (.obC ((0 : Int) ≤ (3 : Int) ∧ (3 : Int) < (6 : Int)) (by decide)
  (.obC (true = true) (by decide)
  (.obC ((0 : Int) ≤ (3 : Int) ∧ (3 : Int) < (6 : Int)) (by decide)
  (.obC (true = true ∧ true = true) (by decide)
  (.obC ((0 : Int) ≤ (4 : Int) ∧ (4 : Int) < (6 : Int)) (by decide)
  (.call (G_FiguresOf_2 u4 u0 u5 u1 r0.2.1 r0.2.2) fun r5 =>
  .brB (r5.2.2 == (0 : Int))
  (.obC ((0 : Int) ≤ (4 : Int) ∧ (4 : Int) < (6 : Int)) (by decide)
  (.obC (true = true) (by decide)
  (.obC ((0 : Int) ≤ (4 : Int) ∧ (4 : Int) < (6 : Int)) (by decide)
  (.obC (true = true ∧ true = true) (by decide)
  (.obC ((0 : Int) ≤ (5 : Int) ∧ (5 : Int) < (6 : Int)) (by decide)
  (.call (G_decay_centre u4 u0 u5 u1 r0.2.1 r0.2.2) fun r6 =>
  .brB (r6.2.2 == (0 : Int))
  (.obC ((0 : Int) ≤ (5 : Int) ∧ (5 : Int) < (6 : Int)) (by decide)
  (.obC (true = true) (by decide)
  (.obC ((0 : Int) ≤ (5 : Int) ∧ (5 : Int) < (6 : Int)) (by decide)
  (.obC (true = true ∧ true = true) (by decide)
  (.obT
  (.obT
  (.rc (((true, false, false, true, true, true, r1.1, r1.2.1, (0 : Int), (0 : Int), (0 : Int), (0 : Int), r4.1, r4.2.1, r5.1, r5.2.1, r6.1, r6.2.1, (0 : Int)))))))))))
  (.obT
  (.obT
  (.rc (((true, false, false, true, true, false, r1.1, r1.2.1, (0 : Int), (0 : Int), (0 : Int), (0 : Int), r4.1, r4.2.1, r5.1, r5.2.1, (0 : Int), (0 : Int), (0 : Int)))))))))))))
  (.obC ((0 : Int) ≤ (5 : Int) ∧ (5 : Int) < (6 : Int)) (by decide)
  (.call (G_decay_centre u4 u0 u5 u1 r0.2.1 r0.2.2) fun r6 =>
  .brB (r6.2.2 == (0 : Int))
  (.obC ((0 : Int) ≤ (5 : Int) ∧ (5 : Int) < (6 : Int)) (by decide)
  (.obC (true = true) (by decide)
  (.obC ((0 : Int) ≤ (5 : Int) ∧ (5 : Int) < (6 : Int)) (by decide)
  (.obC (true = true ∧ true = true) (by decide)
  (.obT
  (.obT
  (.rc (((true, false, false, true, false, true, r1.1, r1.2.1, (0 : Int), (0 : Int), (0 : Int), (0 : Int), r4.1, r4.2.1, (0 : Int), (0 : Int), r6.1, r6.2.1, (0 : Int)))))))))))
  (.obT
  (.obT
  (.rc (((true, false, false, true, false, false, r1.1, r1.2.1, (0 : Int), (0 : Int), (0 : Int), (0 : Int), r4.1, r4.2.1, (0 : Int), (0 : Int), (0 : Int), (0 : Int), (0 : Int)))))))))))))))
  (.obC ((0 : Int) ≤ (4 : Int) ∧ (4 : Int) < (6 : Int)) (by decide)
  (.call (G_FiguresOf_2 u4 u0 u5 u1 r0.2.1 r0.2.2) fun r5 =>
  .brB (r5.2.2 == (0 : Int))
  (.obC ((0 : Int) ≤ (4 : Int) ∧ (4 : Int) < (6 : Int)) (by decide)
  (.obC (true = true) (by decide)
  (.obC ((0 : Int) ≤ (4 : Int) ∧ (4 : Int) < (6 : Int)) (by decide)
  (.obC (true = true ∧ true = true) (by decide)
  (.obC ((0 : Int) ≤ (5 : Int) ∧ (5 : Int) < (6 : Int)) (by decide)
  (.call (G_decay_centre u4 u0 u5 u1 r0.2.1 r0.2.2) fun r6 =>
  .brB (r6.2.2 == (0 : Int))
  (.obC ((0 : Int) ≤ (5 : Int) ∧ (5 : Int) < (6 : Int)) (by decide)
  (.obC (true = true) (by decide)
  (.obC ((0 : Int) ≤ (5 : Int) ∧ (5 : Int) < (6 : Int)) (by decide)
  (.obC (true = true ∧ true = true) (by decide)
  (.obT
  (.obT
  (.rc (((true, false, false, false, true, true, r1.1, r1.2.1, (0 : Int), (0 : Int), (0 : Int), (0 : Int), (0 : Int), (0 : Int), r5.1, r5.2.1, r6.1, r6.2.1, (0 : Int)))))))))))
  (.obT
  (.obT
  (.rc (((true, false, false, false, true, false, r1.1, r1.2.1, (0 : Int), (0 : Int), (0 : Int), (0 : Int), (0 : Int), (0 : Int), r5.1, r5.2.1, (0 : Int), (0 : Int), (0 : Int)))))))))))))
  (.obC ((0 : Int) ≤ (5 : Int) ∧ (5 : Int) < (6 : Int)) (by decide)
  (.call (G_decay_centre u4 u0 u5 u1 r0.2.1 r0.2.2) fun r6 =>
  .brB (r6.2.2 == (0 : Int))
  (.obC ((0 : Int) ≤ (5 : Int) ∧ (5 : Int) < (6 : Int)) (by decide)
  (.obC (true = true) (by decide)
  (.obC ((0 : Int) ≤ (5 : Int) ∧ (5 : Int) < (6 : Int)) (by decide)
  (.obC (true = true ∧ true = true) (by decide)
  (.obT
  (.obT
  (.rc (((true, false, false, false, false, true, r1.1, r1.2.1, (0 : Int), (0 : Int), (0 : Int), (0 : Int), (0 : Int), (0 : Int), (0 : Int), (0 : Int), r6.1, r6.2.1, (0 : Int)))))))))))
  (.obT
  (.obT
  (.rc (((true, false, false, false, false, false, r1.1, r1.2.1, (0 : Int), (0 : Int), (0 : Int), (0 : Int), (0 : Int), (0 : Int), (0 : Int), (0 : Int), (0 : Int), (0 : Int), (0 : Int)))))))))))))))))))))
  (.obC ((0 : Int) ≤ (1 : Int) ∧ (1 : Int) < (6 : Int)) (by decide)
  (.call (G_FiguresOf_3 u4 u0 u5 u1 r0.2.1 r0.2.2 (1 : Int)) fun r2 =>
  .brB (r2.2.2 == (0 : Int))
  (.obC ((0 : Int) ≤ (1 : Int) ∧ (1 : Int) < (6 : Int)) (by decide)
  (.obC (true = true) (by decide)
  (.obC ((0 : Int) ≤ (1 : Int) ∧ (1 : Int) < (6 : Int)) (by decide)
  (.obC (true = true ∧ true = true) (by decide)
  (.obC ((0 : Int) ≤ (2 : Int) ∧ (2 : Int) < (6 : Int)) (by decide)
  (.call (G_FiguresOf_3 u4 u0 u5 u1 r0.2.1 r0.2.2 (2 : Int)) fun r3 =>
  .brB (r3.2.2 == (0 : Int))
  (.obC ((0 : Int) ≤ (2 : Int) ∧ (2 : Int) < (6 : Int)) (by decide)
  (.obC (true = true) (by decide)
  (.obC ((0 : Int) ≤ (2 : Int) ∧ (2 : Int) < (6 : Int)) (by decide)
  (.obC (true = true ∧ true = true) (by decide)
  (.obC ((0 : Int) ≤ (3 : Int) ∧ (3 : Int) < (6 : Int)) (by decide)
  (.call (G_FiguresOf_1 u4 u0 u5 u1 r0.2.1 r0.2.2) fun r4 =>
  .brB (r4.2.2 == (0 : Int))
  (.obC ((0 : Int) ≤ (3 : Int) ∧ (3 : Int) < (6 : Int)) (by decide)
  (.obC (true = true) (by decide)
  (.obC ((0 : Int) ≤ (3 : Int) ∧ (3 : Int) < (6 : Int)) (by decide)
  (.obC (true = true ∧ true = true) (by decide)
  (.obC ((0 : Int) ≤ (4 : Int) ∧ (4 : Int) < (6 : Int)) (by decide)
  (.call (G_FiguresOf_2 u4 u0 u5 u1 r0.2.1 r0.2.2) fun r5 =>
  .brB (r5.2.2 == (0 : Int))
  (.obC ((0 : Int) ≤ (4 : Int) ∧ (4 : Int) < (6 : Int)) (by decide)
  (.obC (true = true) (by decide)
  (.obC ((0 : Int) ≤ (4 : Int) ∧ (4 : Int) < (6 : Int)) (by decide)
  (.obC (true = true ∧ true = true) (by decide)
  (.obC ((0 : Int) ≤ (5 : Int) ∧ (5 : Int) < (6 : Int)) (by decide)
  (.call (G_decay_centre u4 u0 u5 u1 r0.2.1 r0.2.2) fun r6 =>
  .brB (r6.2.2 == (0 : Int))
  (.obC ((0 : Int) ≤ (5 : Int) ∧ (5 : Int) < (6 : Int)) (by decide)
  (.obC (true = true) (by decide)
  (.obC ((0 : Int) ≤ (5 : Int) ∧ (5 : Int) < (6 : Int)) (by decide)
  (.obC (true = true ∧ true = true) (by decide)
  (.obT
  (.obT
  (.rc (((false, true, true, true, true, true, (0 : Int), (0 : Int), r2.1, r2.2.1, r3.1, r3.2.1, r4.1, r4.2.1, r5.1, r5.2.1, r6.1, r6.2.1, (0 : Int)))))))))))
  (.obT
  (.obT
  (.rc (((false, true, true, true, true, false, (0 : Int), (0 : Int), r2.1, r2.2.1, r3.1, r3.2.1, r4.1, r4.2.1, r5.1, r5.2.1, (0 : Int), (0 : Int), (0 : Int)))))))))))))
  (.obC ((0 : Int) ≤ (5 : Int) ∧ (5 : Int) < (6 : Int)) (by decide)
  (.call (G_decay_centre u4 u0 u5 u1 r0.2.1 r0.2.2) fun r6 =>
  .brB (r6.2.2 == (0 : Int))
  (.obC ((0 : Int) ≤ (5 : Int) ∧ (5 : Int) < (6 : Int)) (by decide)
  (.obC (true = true) (by decide)
  (.obC ((0 : Int) ≤ (5 : Int) ∧ (5 : Int) < (6 : Int)) (by decide)
  (.obC (true = true ∧ true = true) (by decide)
  (.obT
  (.obT
  (.rc (((false, true, true, true, false, true, (0 : Int), (0 : Int), r2.1, r2.2.1, r3.1, r3.2.1, r4.1, r4.2.1, (0 : Int), (0 : Int), r6.1, r6.2.1, (0 : Int)))))))))))
  (.obT
  (.obT
  (.rc (((false, true, true, true, false, false, (0 : Int), (0 : Int), r2.1, r2.2.1, r3.1, r3.2.1, r4.1, r4.2.1, (0 : Int), (0 : Int), (0 : Int), (0 : Int), (0 : Int)))))))))))))))
  (.obC ((0 : Int) ≤ (4 : Int) ∧ (4 : Int) < (6 : Int)) (by decide)
  (.call (G_FiguresOf_2 u4 u0 u5 u1 r0.2.1 r0.2.2) fun r5 =>
  .brB (r5.2.2 == (0 : Int))
  (.obC ((0 : Int) ≤ (4 : Int) ∧ (4 : Int) < (6 : Int)) (by decide)
  (.obC (true = true) (by decide)
  (.obC ((0 : Int) ≤ (4 : Int) ∧ (4 : Int) < (6 : Int)) (by decide)
  (.obC (true = true ∧ true = true) (by decide)
  (.obC ((0 : Int) ≤ (5 : Int) ∧ (5 : Int) < (6 : Int)) (by decide)
  (.call (G_decay_centre u4 u0 u5 u1 r0.2.1 r0.2.2) fun r6 =>
  .brB (r6.2.2 == (0 : Int))
  (.obC ((0 : Int) ≤ (5 : Int) ∧ (5 : Int) < (6 : Int)) (by decide)
  (.obC (true = true) (by decide)
  (.obC ((0 : Int) ≤ (5 : Int) ∧ (5 : Int) < (6 : Int)) (by decide)
  (.obC (true = true ∧ true = true) (by decide)
  (.obT
  (.obT
  (.rc (((false, true, true, false, true, true, (0 : Int), (0 : Int), r2.1, r2.2.1, r3.1, r3.2.1, (0 : Int), (0 : Int), r5.1, r5.2.1, r6.1, r6.2.1, (0 : Int)))))))))))
  (.obT
  (.obT
  (.rc (((false, true, true, false, true, false, (0 : Int), (0 : Int), r2.1, r2.2.1, r3.1, r3.2.1, (0 : Int), (0 : Int), r5.1, r5.2.1, (0 : Int), (0 : Int), (0 : Int)))))))))))))
  (.obC ((0 : Int) ≤ (5 : Int) ∧ (5 : Int) < (6 : Int)) (by decide)
  (.call (G_decay_centre u4 u0 u5 u1 r0.2.1 r0.2.2) fun r6 =>
  .brB (r6.2.2 == (0 : Int))
  (.obC ((0 : Int) ≤ (5 : Int) ∧ (5 : Int) < (6 : Int)) (by decide)
  (.obC (true = true) (by decide)
  (.obC ((0 : Int) ≤ (5 : Int) ∧ (5 : Int) < (6 : Int)) (by decide)
  (.obC (true = true ∧ true = true) (by decide)
  (.obT
  (.obT
  (.rc (((false, true, true, false, false, true, (0 : Int), (0 : Int), r2.1, r2.2.1, r3.1, r3.2.1, (0 : Int), (0 : Int), (0 : Int), (0 : Int), r6.1, r6.2.1, (0 : Int)))))))))))
  (.obT
  (.obT
  (.rc (((false, true, true, false, false, false, (0 : Int), (0 : Int), r2.1, r2.2.1, r3.1, r3.2.1, (0 : Int), (0 : Int), (0 : Int), (0 : Int), (0 : Int), (0 : Int), (0 : Int)))))))))))))))))
  (.obC ((0 : Int) ≤ (3 : Int) ∧ (3 : Int) < (6 : Int)) (by decide)
  (.call (G_FiguresOf_1 u4 u0 u5 u1 r0.2.1 r0.2.2) fun r4 =>
  .brB (r4.2.2 == (0 : Int))
  (.obC ((0 : Int) ≤ (3 : Int) ∧ (3 : Int) < (6 : Int)) (by decide)
  (.obC (true = true) (by decide)
  (.obC ((0 : Int) ≤ (3 : Int) ∧ (3 : Int) < (6 : Int)) (by decide)
  (.obC (true = true ∧ true = true) (by decide)
  (.obC ((0 : Int) ≤ (4 : Int) ∧ (4 : Int) < (6 : Int)) (by decide)
  (.call (G_FiguresOf_2 u4 u0 u5 u1 r0.2.1 r0.2.2) fun r5 =>
  .brB (r5.2.2 == (0 : Int))
  (.obC ((0 : Int) ≤ (4 : Int) ∧ (4 : Int) < (6 : Int)) (by decide)
  (.obC (true = true) (by decide)
  (.obC ((0 : Int) ≤ (4 : Int) ∧ (4 : Int) < (6 : Int)) (by decide)
  (.obC (true = true ∧ true = true) (by decide)
  (.obC ((0 : Int) ≤ (5 : Int) ∧ (5 : Int) < (6 : Int)) (by decide)
  (.call (G_decay_centre u4 u0 u5 u1 r0.2.1 r0.2.2) fun r6 =>
  .brB (r6.2.2 == (0 : Int))
  (.obC ((0 : Int) ≤ (5 : Int) ∧ (5 : Int) < (6 : Int)) (by decide)
  (.obC (true = true) (by decide)
  (.obC ((0 : Int) ≤ (5 : Int) ∧ (5 : Int) < (6 : Int)) (by decide)
  (.obC (true = true ∧ true = true) (by decide)
  (.obT
  (.obT
  (.rc (((false, true, false, true, true, true, (0 : Int), (0 : Int), r2.1, r2.2.1, (0 : Int), (0 : Int), r4.1, r4.2.1, r5.1, r5.2.1, r6.1, r6.2.1, (0 : Int)))))))))))
  (.obT
  (.obT
  (.rc (((false, true, false, true, true, false, (0 : Int), (0 : Int), r2.1, r2.2.1, (0 : Int), (0 : Int), r4.1, r4.2.1, r5.1, r5.2.1, (0 : Int), (0 : Int), (0 : Int)))))))))))))
  (.obC ((0 : Int) ≤ (5 : Int) ∧ (5 : Int) < (6 : Int)) (by decide)
  (.call (G_decay_centre u4 u0 u5 u1 r0.2.1 r0.2.2) fun r6 =>
  .brB (r6.2.2 == (0 : Int))
  (.obC ((0 : Int) ≤ (5 : Int) ∧ (5 : Int) < (6 : Int)) (by decide)
  (.obC (true = true) (by decide)
  (.obC ((0 : Int) ≤ (5 : Int) ∧ (5 : Int) < (6 : Int)) (by decide)
  (.obC (true = true ∧ true = true) (by decide)
  (.obT
  (.obT
  (.rc (((false, true, false, true, false, true, (0 : Int), (0 : Int), r2.1, r2.2.1, (0 : Int), (0 : Int), r4.1, r4.2.1, (0 : Int), (0 : Int), r6.1, r6.2.1, (0 : Int)))))))))))
  (.obT
  (.obT
  (.rc (((false, true, false, true, false, false, (0 : Int), (0 : Int), r2.1, r2.2.1, (0 : Int), (0 : Int), r4.1, r4.2.1, (0 : Int), (0 : Int), (0 : Int), (0 : Int), (0 : Int)))))))))))))))
  (.obC ((0 : Int) ≤ (4 : Int) ∧ (4 : Int) < (6 : Int)) (by decide)
  (.call (G_FiguresOf_2 u4 u0 u5 u1 r0.2.1 r0.2.2) fun r5 =>
  .brB (r5.2.2 == (0 : Int))
  (.obC ((0 : Int) ≤ (4 : Int) ∧ (4 : Int) < (6 : Int)) (by decide)
  (.obC (true = true) (by decide)
  (.obC ((0 : Int) ≤ (4 : Int) ∧ (4 : Int) < (6 : Int)) (by decide)
  (.obC (true = true ∧ true = true) (by decide)
  (.obC ((0 : Int) ≤ (5 : Int) ∧ (5 : Int) < (6 : Int)) (by decide)
  (.call (G_decay_centre u4 u0 u5 u1 r0.2.1 r0.2.2) fun r6 =>
  .brB (r6.2.2 == (0 : Int))
  (.obC ((0 : Int) ≤ (5 : Int) ∧ (5 : Int) < (6 : Int)) (by decide)
  (.obC (true = true) (by decide)
  (.obC ((0 : Int) ≤ (5 : Int) ∧ (5 : Int) < (6 : Int)) (by decide)
  (.obC (true = true ∧ true = true) (by decide)
  (.obT
  (.obT
  (.rc (((false, true, false, false, true, true, (0 : Int), (0 : Int), r2.1, r2.2.1, (0 : Int), (0 : Int), (0 : Int), (0 : Int), r5.1, r5.2.1, r6.1, r6.2.1, (0 : Int)))))))))))
  (.obT
  (.obT
  (.rc (((false, true, false, false, true, false, (0 : Int), (0 : Int), r2.1, r2.2.1, (0 : Int), (0 : Int), (0 : Int), (0 : Int), r5.1, r5.2.1, (0 : Int), (0 : Int), (0 : Int)))))))))))))
  (.obC ((0 : Int) ≤ (5 : Int) ∧ (5 : Int) < (6 : Int)) (by decide)
  (.call (G_decay_centre u4 u0 u5 u1 r0.2.1 r0.2.2) fun r6 =>
  .brB (r6.2.2 == (0 : Int))
  (.obC ((0 : Int) ≤ (5 : Int) ∧ (5 : Int) < (6 : Int)) (by decide)
  (.obC (true = true) (by decide)
  (.obC ((0 : Int) ≤ (5 : Int) ∧ (5 : Int) < (6 : Int)) (by decide)
  (.obC (true = true ∧ true = true) (by decide)
  (.obT
  (.obT
  (.rc (((false, true, false, false, false, true, (0 : Int), (0 : Int), r2.1, r2.2.1, (0 : Int), (0 : Int), (0 : Int), (0 : Int), (0 : Int), (0 : Int), r6.1, r6.2.1, (0 : Int)))))))))))
  (.obT
  (.obT
  (.rc (((false, true, false, false, false, false, (0 : Int), (0 : Int), r2.1, r2.2.1, (0 : Int), (0 : Int), (0 : Int), (0 : Int), (0 : Int), (0 : Int), (0 : Int), (0 : Int), (0 : Int)))))))))))))))))))
  (.obC ((0 : Int) ≤ (2 : Int) ∧ (2 : Int) < (6 : Int)) (by decide)
  (.call (G_FiguresOf_3 u4 u0 u5 u1 r0.2.1 r0.2.2 (2 : Int)) fun r3 =>
  .brB (r3.2.2 == (0 : Int))
  (.obC ((0 : Int) ≤ (2 : Int) ∧ (2 : Int) < (6 : Int)) (by decide)
  (.obC (true = true) (by decide)
  (.obC ((0 : Int) ≤ (2 : Int) ∧ (2 : Int) < (6 : Int)) (by decide)
  (.obC (true = true ∧ true = true) (by decide)
  (.obC ((0 : Int) ≤ (3 : Int) ∧ (3 : Int) < (6 : Int)) (by decide)
  (.call (G_FiguresOf_1 u4 u0 u5 u1 r0.2.1 r0.2.2) fun r4 =>
  .brB (r4.2.2 == (0 : Int))
  (.obC ((0 : Int) ≤ (3 : Int) ∧ (3 : Int) < (6 : Int)) (by decide)
  (.obC (true = true) (by decide)
  (.obC ((0 : Int) ≤ (3 : Int) ∧ (3 : Int) < (6 : Int)) (by decide)
  (.obC (true = true ∧ true = true) (by decide)
  (.obC ((0 : Int) ≤ (4 : Int) ∧ (4 : Int) < (6 : Int)) (by decide)
  (.call (G_FiguresOf_2 u4 u0 u5 u1 r0.2.1 r0.2.2) fun r5 =>
  .brB (r5.2.2 == (0 : Int))
  (.obC ((0 : Int) ≤ (4 : Int) ∧ (4 : Int) < (6 : Int)) (by decide)
  (.obC (true = true) (by decide)
  (.obC ((0 : Int) ≤ (4 : Int) ∧ (4 : Int) < (6 : Int)) (by decide)
  (.obC (true = true ∧ true = true) (by decide)
  (.obC ((0 : Int) ≤ (5 : Int) ∧ (5 : Int) < (6 : Int)) (by decide)
  (.call (G_decay_centre u4 u0 u5 u1 r0.2.1 r0.2.2) fun r6 =>
  .brB (r6.2.2 == (0 : Int))
  (.obC ((0 : Int) ≤ (5 : Int) ∧ (5 : Int) < (6 : Int)) (by decide)
  (.obC (true = true) (by decide)
  (.obC ((0 : Int) ≤ (5 : Int) ∧ (5 : Int) < (6 : Int)) (by decide)
  (.obC (true = true ∧ true = true) (by decide)
  (.obT
  (.obT
  (.rc (((false, false, true, true, true, true, (0 : Int), (0 : Int), (0 : Int), (0 : Int), r3.1, r3.2.1, r4.1, r4.2.1, r5.1, r5.2.1, r6.1, r6.2.1, (0 : Int)))))))))))
  (.obT
  (.obT
  (.rc (((false, false, true, true, true, false, (0 : Int), (0 : Int), (0 : Int), (0 : Int), r3.1, r3.2.1, r4.1, r4.2.1, r5.1, r5.2.1, (0 : Int), (0 : Int), (0 : Int)))))))))))))
  (.obC ((0 : Int) ≤ (5 : Int) ∧ (5 : Int) < (6 : Int)) (by decide)
  (.call (G_decay_centre u4 u0 u5 u1 r0.2.1 r0.2.2) fun r6 =>
  .brB (r6.2.2 == (0 : Int))
  (.obC ((0 : Int) ≤ (5 : Int) ∧ (5 : Int) < (6 : Int)) (by decide)
  (.obC (true = true) (by decide)
  (.obC ((0 : Int) ≤ (5 : Int) ∧ (5 : Int) < (6 : Int)) (by decide)
  (.obC (true = true ∧ true = true) (by decide)
  (.obT
  (.obT
  (.rc (((false, false, true, true, false, true, (0 : Int), (0 : Int), (0 : Int), (0 : Int), r3.1, r3.2.1, r4.1, r4.2.1, (0 : Int), (0 : Int), r6.1, r6.2.1, (0 : Int)))))))))))
  (.obT
  (.obT
  (.rc (((false, false, true, true, false, false, (0 : Int), (0 : Int), (0 : Int), (0 : Int), r3.1, r3.2.1, r4.1, r4.2.1, (0 : Int), (0 : Int), (0 : Int), (0 : Int), (0 : Int)))))))))))))))
  (.obC ((0 : Int) ≤ (4 : Int) ∧ (4 : Int) < (6 : Int)) (by decide)
  (.call (G_FiguresOf_2 u4 u0 u5 u1 r0.2.1 r0.2.2) fun r5 =>
  .brB (r5.2.2 == (0 : Int))
  (.obC ((0 : Int) ≤ (4 : Int) ∧ (4 : Int) < (6 : Int)) (by decide)
  (.obC (true = true) (by decide)
  (.obC ((0 : Int) ≤ (4 : Int) ∧ (4 : Int) < (6 : Int)) (by decide)
  (.obC (true = true ∧ true = true) (by decide)
  (.obC ((0 : Int) ≤ (5 : Int) ∧ (5 : Int) < (6 : Int)) (by decide)
  (.call (G_decay_centre u4 u0 u5 u1 r0.2.1 r0.2.2) fun r6 =>
  .brB (r6.2.2 == (0 : Int))
  (.obC ((0 : Int) ≤ (5 : Int) ∧ (5 : Int) < (6 : Int)) (by decide)
  (.obC (true = true) (by decide)
  (.obC ((0 : Int) ≤ (5 : Int) ∧ (5 : Int) < (6 : Int)) (by decide)
  (.obC (true = true ∧ true = true) (by decide)
  (.obT
  (.obT
  (.rc (((false, false, true, false, true, true, (0 : Int), (0 : Int), (0 : Int), (0 : Int), r3.1, r3.2.1, (0 : Int), (0 : Int), r5.1, r5.2.1, r6.1, r6.2.1, (0 : Int)))))))))))
  (.obT
  (.obT
  (.rc (((false, false, true, false, true, false, (0 : Int), (0 : Int), (0 : Int), (0 : Int), r3.1, r3.2.1, (0 : Int), (0 : Int), r5.1, r5.2.1, (0 : Int), (0 : Int), (0 : Int)))))))))))))
  (.obC ((0 : Int) ≤ (5 : Int) ∧ (5 : Int) < (6 : Int)) (by decide)
  (.call (G_decay_centre u4 u0 u5 u1 r0.2.1 r0.2.2) fun r6 =>
  .brB (r6.2.2 == (0 : Int))
  (.obC ((0 : Int) ≤ (5 : Int) ∧ (5 : Int) < (6 : Int)) (by decide)
  (.obC (true = true) (by decide)
  (.obC ((0 : Int) ≤ (5 : Int) ∧ (5 : Int) < (6 : Int)) (by decide)
  (.obC (true = true ∧ true = true) (by decide)
  (.obT
  (.obT
  (.rc (((false, false, true, false, false, true, (0 : Int), (0 : Int), (0 : Int), (0 : Int), r3.1, r3.2.1, (0 : Int), (0 : Int), (0 : Int), (0 : Int), r6.1, r6.2.1, (0 : Int)))))))))))
  (.obT
  (.obT
  (.rc (((false, false, true, false, false, false, (0 : Int), (0 : Int), (0 : Int), (0 : Int), r3.1, r3.2.1, (0 : Int), (0 : Int), (0 : Int), (0 : Int), (0 : Int), (0 : Int), (0 : Int)))))))))))))))))
  (.obC ((0 : Int) ≤ (3 : Int) ∧ (3 : Int) < (6 : Int)) (by decide)
  (.call (G_FiguresOf_1 u4 u0 u5 u1 r0.2.1 r0.2.2) fun r4 =>
  .brB (r4.2.2 == (0 : Int))
  (.obC ((0 : Int) ≤ (3 : Int) ∧ (3 : Int) < (6 : Int)) (by decide)
  (.obC (true = true) (by decide)
  (.obC ((0 : Int) ≤ (3 : Int) ∧ (3 : Int) < (6 : Int)) (by decide)
  (.obC (true = true ∧ true = true) (by decide)
  (.obC ((0 : Int) ≤ (4 : Int) ∧ (4 : Int) < (6 : Int)) (by decide)
  (.call (G_FiguresOf_2 u4 u0 u5 u1 r0.2.1 r0.2.2) fun r5 =>
  .brB (r5.2.2 == (0 : Int))
  (.obC ((0 : Int) ≤ (4 : Int) ∧ (4 : Int) < (6 : Int)) (by decide)
  (.obC (true = true) (by decide)
  (.obC ((0 : Int) ≤ (4 : Int) ∧ (4 : Int) < (6 : Int)) (by decide)
  (.obC (true = true ∧ true = true) (by decide)
  (.obC ((0 : Int) ≤ (5 : Int) ∧ (5 : Int) < (6 : Int)) (by decide)
  (.call (G_decay_centre u4 u0 u5 u1 r0.2.1 r0.2.2) fun r6 =>
  .brB (r6.2.2 == (0 : Int))
  (.obC ((0 : Int) ≤ (5 : Int) ∧ (5 : Int) < (6 : Int)) (by decide)
  (.obC (true = true) (by decide)
  (.obC ((0 : Int) ≤ (5 : Int) ∧ (5 : Int) < (6 : Int)) (by decide)
  (.obC (true = true ∧ true = true) (by decide)
  (.obT
  (.obT
  (.rc (((false, false, false, true, true, true, (0 : Int), (0 : Int), (0 : Int), (0 : Int), (0 : Int), (0 : Int), r4.1, r4.2.1, r5.1, r5.2.1, r6.1, r6.2.1, (0 : Int)))))))))))
  (.obT
  (.obT
  (.rc (((false, false, false, true, true, false, (0 : Int), (0 : Int), (0 : Int), (0 : Int), (0 : Int), (0 : Int), r4.1, r4.2.1, r5.1, r5.2.1, (0 : Int), (0 : Int), (0 : Int)))))))))))))
  (.obC ((0 : Int) ≤ (5 : Int) ∧ (5 : Int) < (6 : Int)) (by decide)
  (.call (G_decay_centre u4 u0 u5 u1 r0.2.1 r0.2.2) fun r6 =>
  .brB (r6.2.2 == (0 : Int))
  (.obC ((0 : Int) ≤ (5 : Int) ∧ (5 : Int) < (6 : Int)) (by decide)
  (.obC (true = true) (by decide)
  (.obC ((0 : Int) ≤ (5 : Int) ∧ (5 : Int) < (6 : Int)) (by decide)
  (.obC (true = true ∧ true = true) (by decide)
  (.obT
  (.obT
  (.rc (((false, false, false, true, false, true, (0 : Int), (0 : Int), (0 : Int), (0 : Int), (0 : Int), (0 : Int), r4.1, r4.2.1, (0 : Int), (0 : Int), r6.1, r6.2.1, (0 : Int)))))))))))
  (.obT
  (.obT
  (.rc (((false, false, false, true, false, false, (0 : Int), (0 : Int), (0 : Int), (0 : Int), (0 : Int), (0 : Int), r4.1, r4.2.1, (0 : Int), (0 : Int), (0 : Int), (0 : Int), (0 : Int)))))))))))))))
  (.obC ((0 : Int) ≤ (4 : Int) ∧ (4 : Int) < (6 : Int)) (by decide)
  (.call (G_FiguresOf_2 u4 u0 u5 u1 r0.2.1 r0.2.2) fun r5 =>
  .brB (r5.2.2 == (0 : Int))
  (.obC ((0 : Int) ≤ (4 : Int) ∧ (4 : Int) < (6 : Int)) (by decide)
  (.obC (true = true) (by decide)
  (.obC ((0 : Int) ≤ (4 : Int) ∧ (4 : Int) < (6 : Int)) (by decide)
  (.obC (true = true ∧ true = true) (by decide)
  (.obC ((0 : Int) ≤ (5 : Int) ∧ (5 : Int) < (6 : Int)) (by decide)
  (.call (G_decay_centre u4 u0 u5 u1 r0.2.1 r0.2.2) fun r6 =>
  .brB (r6.2.2 == (0 : Int))
  (.obC ((0 : Int) ≤ (5 : Int) ∧ (5 : Int) < (6 : Int)) (by decide)
  (.obC (true = true) (by decide)
  (.obC ((0 : Int) ≤ (5 : Int) ∧ (5 : Int) < (6 : Int)) (by decide)
  (.obC (true = true ∧ true = true) (by decide)
  (.obT
  (.obT
  (.rc (((false, false, false, false, true, true, (0 : Int), (0 : Int), (0 : Int), (0 : Int), (0 : Int), (0 : Int), (0 : Int), (0 : Int), r5.1, r5.2.1, r6.1, r6.2.1, (0 : Int)))))))))))
  (.obT
  (.obT
  (.rc (((false, false, false, false, true, false, (0 : Int), (0 : Int), (0 : Int), (0 : Int), (0 : Int), (0 : Int), (0 : Int), (0 : Int), r5.1, r5.2.1, (0 : Int), (0 : Int), (0 : Int)))))))))))))
  (.obC ((0 : Int) ≤ (5 : Int) ∧ (5 : Int) < (6 : Int)) (by decide)
  (.call (G_decay_centre u4 u0 u5 u1 r0.2.1 r0.2.2) fun r6 =>
  .brB (r6.2.2 == (0 : Int))
  (.obC ((0 : Int) ≤ (5 : Int) ∧ (5 : Int) < (6 : Int)) (by decide)
  (.obC (true = true) (by decide)
  (.obC ((0 : Int) ≤ (5 : Int) ∧ (5 : Int) < (6 : Int)) (by decide)
  (.obC (true = true ∧ true = true) (by decide)
  (.obT
  (.obT
  (.rc (((false, false, false, false, false, true, (0 : Int), (0 : Int), (0 : Int), (0 : Int), (0 : Int), (0 : Int), (0 : Int), (0 : Int), (0 : Int), (0 : Int), r6.1, r6.2.1, (0 : Int)))))))))))
  (.obT
  (.obT
  (.rc (((false, false, false, false, false, false, (0 : Int), (0 : Int), (0 : Int), (0 : Int), (0 : Int), (0 : Int), (0 : Int), (0 : Int), (0 : Int), (0 : Int), (0 : Int), (0 : Int), (0 : Int)))))))))))))))))))))))))))))
set_option maxRecDepth 100000 in
theorem G_FiguresOf_vc (u4 : Int) (u0 : List Nat) (u5 : Int) (u1 : Int) (r : Bool × Bool × Bool × Bool × Bool × Bool × Int × Int × Int × Int × Int × Int × Int × Int × Int × Int × Int × Int × Int) (h : Option.bind (G_FiguresOf u4 u0 u5 u1) some = some r) : runT Tryz.f60 ((sp_67 (sp_82 (sp_102 (sp_103 (sp_104 sp0)))))) (fun _ _ _ => none) (bldD k_G_FiguresOf [.d (.i .i64 u4), .r (.floats .f32 u0), .d (.i .i64 u5), .d (.i .i64 u1)]) [.s [.d (.b r.1), .d (.b r.2.1), .d (.b r.2.2.1), .d (.b r.2.2.2.1), .d (.b r.2.2.2.2.1), .d (.b r.2.2.2.2.2.1), .d (.i .i64 r.2.2.2.2.2.2.1), .d (.i .i64 r.2.2.2.2.2.2.2.1), .d (.i .i64 r.2.2.2.2.2.2.2.2.1), .d (.i .i64 r.2.2.2.2.2.2.2.2.2.1), .d (.i .i64 r.2.2.2.2.2.2.2.2.2.2.1), .d (.i .i64 r.2.2.2.2.2.2.2.2.2.2.2.1), .d (.i .i64 r.2.2.2.2.2.2.2.2.2.2.2.2.1), .d (.i .i64 r.2.2.2.2.2.2.2.2.2.2.2.2.2.1), .d (.i .i64 r.2.2.2.2.2.2.2.2.2.2.2.2.2.2.1), .d (.i .i64 r.2.2.2.2.2.2.2.2.2.2.2.2.2.2.2.1), .d (.i .i64 r.2.2.2.2.2.2.2.2.2.2.2.2.2.2.2.2.1), .d (.i .i64 r.2.2.2.2.2.2.2.2.2.2.2.2.2.2.2.2.2.1)], .c (.d (.i .i64 r.2.2.2.2.2.2.2.2.2.2.2.2.2.2.2.2.2.2))] :=
  T.vc (t := G_FiguresOf_t u4 u0 u5 u1) (by kernel_rfl) (by kernel_rfl) h
set_option maxRecDepth 100000 in
theorem G_FiguresOf_ok : SpecOK Tryz.prog 60 true (pureT k_G_FiguresOf g_G_FiguresOf) := by
  refine pureT_ok (sp := (sp_67 (sp_82 (sp_102 (sp_103 (sp_104 sp0)))))) (fn := Tryz.f60) (body := bodyOf Tryz.f60) mixed (sp_67_ok (sp_82_ok (sp_102_ok (sp_103_ok (sp_104_ok sp0_ok))))) Tryz.func60 (by kernel_rfl) (by kernel_rfl) fun ls t h ho b hb => ?_
  unfold g_G_FiguresOf at h
  split at h
  · rename_i u4 u0 u5 u1
    cases h
    obtain rfl := bld_eq hb
    exact ⟨Nat.le_of_ble_eq_true (by kernel_rfl), _, _, G_FiguresOf_vc u4 u0 u5 u1 _ (ok_some ho)⟩
  · cases h
theorem sp_60_ok {sp : Specs} (h : SpecsOK Tryz.prog sp) : SpecsOK Tryz.prog (sp_60 sp) := addK_ok G_FiguresOf_ok h
end Go.Sh
end

section
open Go.RowKit
namespace Go.Proofs
open Go.Shelf
def Tryz.laysM171_ren : Go.Shelf.Ren := ⟨fun | 171 => 109 | 243 => 136 | 246 => 159 | 283 => 178 | 284 => 179 | 285 => 180 | 286 => 181 | 129 => 166 | 317 => 192 | 318 => 193 | 319 => 194 | 320 => 195 | 337 => 200 | 338 => 201 | n => n, fun | 3 => 3 | 9 => 9 | 2 => 2 | 4 => 4 | 171 => 213 | 0 => 0 | 53 => 134 | 37 => 179 | 5 => 5 | 173 => 215 | 212 => 227 | 51 => 228 | 20 => 20 | 213 => 229 | 46 => 189 | 232 => 243 | 233 => 244 | n => n, fun | 17 => 11 | 18 => 14 | 19 => 15 | n => n⟩
theorem Tryz.laysM171 : Go.Proofs.LaysM.n171 Tryz.prog Tryz.laysM171_ren := {
  mixed := by kernel_rfl
  f129 := Tryz.func166.trans (congrArg some (by kernel_rfl))
  f171 := Tryz.func109.trans (congrArg some (by kernel_rfl))
  f243 := Tryz.func136.trans (congrArg some (by kernel_rfl))
  f246 := Tryz.func159.trans (congrArg some (by kernel_rfl))
  f283 := Tryz.func178.trans (congrArg some (by kernel_rfl))
  f284 := Tryz.func179.trans (congrArg some (by kernel_rfl))
  f285 := Tryz.func180.trans (congrArg some (by kernel_rfl))
  f286 := Tryz.func181.trans (congrArg some (by kernel_rfl))
  f317 := Tryz.func192.trans (congrArg some (by kernel_rfl))
  f318 := Tryz.func193.trans (congrArg some (by kernel_rfl))
  f319 := Tryz.func194.trans (congrArg some (by kernel_rfl))
  f320 := Tryz.func195.trans (congrArg some (by kernel_rfl))
  f337 := Tryz.func200.trans (congrArg some (by kernel_rfl))
  f338 := Tryz.func201.trans (congrArg some (by kernel_rfl))
  t0 := Tryz.underlying0
  a0 := Tryz.isAgg0
  z0 := Tryz.sizeOf0
  v0 := Tryz.zeroValue0
  t2 := Tryz.underlying2
  a2 := Tryz.isAgg2
  z2 := Tryz.sizeOf2
  v2 := Tryz.zeroValue2
  t3 := Tryz.underlying3
  a3 := Tryz.isAgg3
  z3 := Tryz.sizeOf3
  v3 := Tryz.zeroValue3
  t4 := Tryz.underlying4
  a4 := Tryz.isAgg4
  z4 := Tryz.sizeOf4
  v4 := Tryz.zeroValue4
  t5 := Tryz.underlying5
  a5 := Tryz.isAgg5
  z5 := Tryz.sizeOf5
  v5 := Tryz.zeroValue5
  t9 := Tryz.underlying9
  a9 := Tryz.isAgg9
  z9 := Tryz.sizeOf9
  v9 := Tryz.zeroValue9
  t20 := Tryz.underlying20
  a20 := Tryz.isAgg20
  z20 := Tryz.sizeOf20
  v20 := Tryz.zeroValue20
  t37 := Tryz.underlying179
  a37 := Tryz.isAgg179
  z37 := Tryz.sizeOf179
  v37 := Tryz.zeroValue179
  t46 := Tryz.underlying189
  a46 := Tryz.isAgg189
  z46 := Tryz.sizeOf189
  v46 := Tryz.zeroValue189
  t51 := Tryz.underlying228
  a51 := Tryz.isAgg228
  z51 := Tryz.sizeOf228
  v51 := Tryz.zeroValue228
  t53 := Tryz.underlying134
  a53 := Tryz.isAgg134
  z53 := Tryz.sizeOf134
  v53 := Tryz.zeroValue134
  t171 := Tryz.underlying213
  a171 := Tryz.isAgg213
  z171 := Tryz.sizeOf213
  v171 := Tryz.zeroValue213
  t173 := Tryz.underlying215
  a173 := Tryz.isAgg215
  z173 := Tryz.sizeOf215
  v173 := Tryz.zeroValue215
  t212 := Tryz.underlying227
  a212 := Tryz.isAgg227
  z212 := Tryz.sizeOf227
  v212 := Tryz.zeroValue227
  t213 := Tryz.underlying229
  a213 := Tryz.isAgg229
  z213 := Tryz.sizeOf229
  t232 := Tryz.underlying243
  a232 := Tryz.isAgg243
  z232 := Tryz.sizeOf243
  v232 := Tryz.zeroValue243
  t233 := Tryz.underlying244
  a233 := Tryz.isAgg244
  z233 := Tryz.sizeOf244
  v233 := Tryz.zeroValue244
  g17 := by kernel_rfl
  g18 := by kernel_rfl
  g19 := by kernel_rfl
  i0 := by kernel_rfl
  i2 := by kernel_rfl
  i3 := by kernel_rfl
  i4 := by kernel_rfl
  i5 := by kernel_rfl
  i9 := by kernel_rfl
  i20 := by kernel_rfl
  i37 := by kernel_rfl
  i46 := by kernel_rfl
  i51 := by kernel_rfl
  i53 := by kernel_rfl
  i171 := by kernel_rfl
  i173 := by kernel_rfl
  i212 := by kernel_rfl
  i232 := by kernel_rfl
  i233 := by kernel_rfl
  m17 := by kernel_rfl
  m18 := by kernel_rfl
  m19 := by kernel_rfl }
def Tryz.lays156_ren : Go.Shelf.Ren := ⟨fun | 156 => 110 | 165 => 137 | 166 => 138 | 169 => 139 | 240 => 160 | 241 => 161 | 276 => 182 | 277 => 183 | n => n, fun | 31 => 142 | 9 => 9 | 3 => 3 | 4 => 4 | 0 => 0 | 20 => 20 | 72 => 181 | 76 => 175 | 70 => 178 | 37 => 179 | 75 => 174 | 127 => 196 | 164 => 217 | 5 => 5 | 80 => 183 | n => n, fun | n => n⟩
theorem Tryz.lays156 : Go.Proofs.Lays.n156 Tryz.prog Tryz.lays156_ren := {
  mixed := by kernel_rfl
  f156 := Tryz.func110.trans (congrArg some (by kernel_rfl))
  f165 := Tryz.func137.trans (congrArg some (by kernel_rfl))
  f166 := Tryz.func138.trans (congrArg some (by kernel_rfl))
  f169 := Tryz.func139.trans (congrArg some (by kernel_rfl))
  f240 := Tryz.func160.trans (congrArg some (by kernel_rfl))
  f241 := Tryz.func161.trans (congrArg some (by kernel_rfl))
  f276 := Tryz.func182.trans (congrArg some (by kernel_rfl))
  f277 := Tryz.func183.trans (congrArg some (by kernel_rfl))
  t0 := Tryz.underlying0
  a0 := Tryz.isAgg0
  z0 := Tryz.sizeOf0
  v0 := Tryz.zeroValue0
  t3 := Tryz.underlying3
  a3 := Tryz.isAgg3
  z3 := Tryz.sizeOf3
  v3 := Tryz.zeroValue3
  t4 := Tryz.underlying4
  a4 := Tryz.isAgg4
  z4 := Tryz.sizeOf4
  v4 := Tryz.zeroValue4
  t9 := Tryz.underlying9
  a9 := Tryz.isAgg9
  z9 := Tryz.sizeOf9
  v9 := Tryz.zeroValue9
  t20 := Tryz.underlying20
  a20 := Tryz.isAgg20
  z20 := Tryz.sizeOf20
  v20 := Tryz.zeroValue20
  t31 := Tryz.underlying142
  a31 := Tryz.isAgg142
  z31 := Tryz.sizeOf142
  v31 := Tryz.zeroValue142
  t37 := Tryz.underlying179
  a37 := Tryz.isAgg179
  z37 := Tryz.sizeOf179
  v37 := Tryz.zeroValue179
  t70 := Tryz.underlying178
  a70 := Tryz.isAgg178
  z70 := Tryz.sizeOf178
  v70 := Tryz.zeroValue178
  t72 := Tryz.underlying181
  a72 := Tryz.isAgg181
  z72 := Tryz.sizeOf181
  v72 := Tryz.zeroValue181
  t75 := Tryz.underlying174
  a75 := Tryz.isAgg174
  z75 := Tryz.sizeOf174
  v75 := Tryz.zeroValue174
  t76 := Tryz.underlying175
  a76 := Tryz.isAgg175
  z76 := Tryz.sizeOf175
  v76 := Tryz.zeroValue175
  t127 := Tryz.underlying196
  a127 := Tryz.isAgg196
  z127 := Tryz.sizeOf196
  v127 := Tryz.zeroValue196
  t164 := Tryz.underlying217
  a164 := Tryz.isAgg217
  z164 := Tryz.sizeOf217
  v164 := Tryz.zeroValue217 }
end Go.Proofs
namespace Go.Sh
open Go Go.Proofs Go.RowKit Go.Sx Go.Shelf
set_option linter.unusedVariables false
theorem flat1 {α : Type} (f : α → D) (l : List α) : (l.flatMap fun x => [f x]) = l.map f := by
  induction l with
  | nil => rfl
  | cons x r ih => simp [List.flatMap_cons, ih]
set_option maxRecDepth 100000 in
theorem builder156 : Builder.Extra Tryz.prog Tryz.lays156_ren where
  sizeBuilder := by kernel_rfl
  liesBuilder := by kernel_rfl
  t5 := by kernel_rfl
  a5 := fun w => run_aggT w (by kernel_rfl)
  z5 := fun w => run_szT w (by kernel_rfl)
  v5 := fun w => rfl
  infoByte := by kernel_rfl
  cellsByte := by kernel_rfl
  sizeByte := by kernel_rfl
  neB5 := by decide
set_option maxRecDepth 100000 in
theorem pow10_named : Tryz.prog.globalNamed "internal/strconv.uint64pow10" = some 11 := by kernel_rfl
theorem tab_is {B : Bd} {w : World} (h : GlobOK B w) {g : Nat} {k : IntKind} {l : List Int} {name : String} (hn : Tryz.prog.globalNamed name = some g) (ht : Globs.tab g = some (.ints k l)) : Lib.TabIs Tryz.prog w name k l := by
  obtain ⟨_, hc, cs, t, f, hg, hs⟩ := h.1 g _ ht
  unfold Lib.TabIs World.var?
  rw [hn]
  simp only [Option.bind_some, hg, Option.some.injEq]
  apply Array.ext'
  apply List.ext_getElem?
  intro i
  have hfl : (Cont.ints k l).flat = l.map (D.i k) := flat1 _ _
  by_cases hi : i < l.length
  · have := hc i (.i k l[i]) (by rw [hfl]; simp [hi])
    simp only [World.cell?, hg] at this
    rw [Array.getElem?_toList]
    simp only [List.getElem?_map, List.getElem?_eq_getElem hi, Option.map_some]
    exact this
  · rw [hfl, List.length_map] at hs
    rw [Array.getElem?_toList, Array.getElem?_eq_none (by omega), List.getElem?_eq_none (by simpa using Nat.le_of_not_lt hi)]
def strconv_Itoa (n : Int) : Option ByteArray := if -9223372036854775808 ≤ n ∧ n ≤ 9223372036854775807 then some ⟨(Lib.itoa n).toArray⟩ else none
def k_strconv_Itoa : List SV := [.c (.d)]
def g_strconv_Itoa : List Lf → Option GT
  | [.d (.i .i64 n)] => some (.leaf (ok (strconv_Itoa n)) [.c (.d (.s (val (strconv_Itoa n))))])
  | _ => none
abbrev sp_109 : Specs → Specs := addK 109 true (pureT k_strconv_Itoa g_strconv_Itoa)
set_option maxRecDepth 100000 in
theorem strconv_Itoa_ok : SpecOK Tryz.prog 109 true (pureT k_strconv_Itoa g_strconv_Itoa) := by
  refine pureT_okC (body := bodyOf Tryz.f109) Tryz.func109 (by kernel_rfl) (by kernel_rfl) ?_
  intro ls t hg ho b hb ρ0 w hlt hh
  unfold g_strconv_Itoa at hg
  split at hg
  · rename_i n
    cases hg
    obtain rfl := bld_eq hb
    have hk : ok (strconv_Itoa n) := ho
    unfold strconv_Itoa at hk
    have hn : -9223372036854775808 ≤ n ∧ n ≤ 9223372036854775807 := by
      by_cases h : -9223372036854775808 ≤ n ∧ n ≤ 9223372036854775807
      · exact h
      · rw [if_neg h] at hk; cases hk
    have hv : val (strconv_Itoa n) = ⟨(Lib.itoa n).toArray⟩ := by
      unfold strconv_Itoa
      rw [if_pos hn]
      rfl
    have htab := tab_is hh.glob pow10_named (k := .u64) (l := Lib.pow10Tab) (by kernel_rfl)
    refine (Any.strconv_Itoa Tryz.laysM171 n hn.1 hn.2 w htab).mono ?_
    rintro e w' ⟨rfl, k, os, rfl⟩
    have hbl : Below w.heap.size w (Sort.grow (w.drewN k) os) := by
      refine ⟨rfl, rfl, rfl, by simp [Sort.grow, World.drewN], fun j hj => ?_⟩
      show (w.heap ++ os)[j]? = _
      rw [Array.getElem?_append_left hj]
    refine ⟨ρ0, .w (.c (.d (.s ⟨(Lib.itoa n).toArray⟩))), _, _, rfl, trivial, Agree.refl _ _, hh.below hbl (fun k hk => hk), bel_of hbl (fun k hk => hk), ?_⟩
    show mD _ _ ∧ True
    rw [hv]
    exact ⟨⟨rfl⟩, trivial⟩
  · cases hg
theorem sp_109_ok {sp : Specs} (h : SpecsOK Tryz.prog sp) : SpecsOK Tryz.prog (sp_109 sp) := addK_ok strconv_Itoa_ok h
def strings_Join (l : List ByteArray) (sep : ByteArray) : Option ByteArray :=
  if l.length ≤ 140737488355328 ∧ (Lib.join (l.map (·.data.toList)) sep.data.toList).length ≤ 140737488355328 then some ⟨(Lib.join (l.map (·.data.toList)) sep.data.toList).toArray⟩ else none
def k_strings_Join : List SV := [.c (.r (.strs [])), .c (.d)]
def g_strings_Join : List Lf → Option GT
  | [.r (.strs l), .d (.s sep)] => some (.leaf (ok (strings_Join l sep)) [.c (.d (.s (val (strings_Join l sep))))])
  | _ => none
abbrev sp_110 : Specs → Specs := addK 110 true (pureT k_strings_Join g_strings_Join)
set_option maxRecDepth 100000 in
theorem strings_Join_ok : SpecOK Tryz.prog 110 true (pureT k_strings_Join g_strings_Join) := by
  refine pureT_okC (body := bodyOf Tryz.f110) Tryz.func110 (by kernel_rfl) (by kernel_rfl) ?_
  intro ls t hg ho b hb ρ0 w hlt hh
  unfold g_strings_Join at hg
  split at hg
  · rename_i l sep
    cases hg
    obtain rfl := bld_eq hb
    have hk : ok (strings_Join l sep) := ho
    unfold strings_Join at hk
    have hn : l.length ≤ 140737488355328 ∧ (Lib.join (l.map (·.data.toList)) sep.data.toList).length ≤ 140737488355328 := by
      by_cases h : l.length ≤ 140737488355328 ∧ (Lib.join (l.map (·.data.toList)) sep.data.toList).length ≤ 140737488355328
      · exact h
      · rw [if_neg h] at hk; cases hk
    have hv : val (strings_Join l sep) = ⟨(Lib.join (l.map (·.data.toList)) sep.data.toList).toArray⟩ := by
      unfold strings_Join
      rw [if_pos hn]
      rfl
    obtain ⟨_, _, ⟨a, cap, hv0, ⟨hcap, _⟩, hcells⟩, hold⟩ := hh.ok 0 (.ext (.strs l)) rfl
    have hargs : ((bldD k_strings_Join [.r (.strs l), .d (.s sep)]).vs.map (V.val ρ0)).toArray = #[ρ0 0, .string sep] := rfl
    rw [hargs, hv0]
    have fin : ∀ w', Below w.heap.size w w' → ∃ ρ' v hp' nx', Ending.returned (.string ⟨(Lib.join (l.map (·.data.toList)) sep.data.toList).toArray⟩) = .returned (V.val ρ' v) ∧ v.lt nx' ∧ Agree 1 ρ0 ρ' ∧ HRel ρ' (fun k => k < w.heap.size) hp' nx' w' ∧ Bel (fun k => k < w.heap.size) w w' ∧
        fitV 1 [.c (.d (.s (val (strings_Join l sep))))] v hp' := fun w' hbl => by
      refine ⟨ρ0, .w (.c (.d (.s ⟨(Lib.join (l.map (·.data.toList)) sep.data.toList).toArray⟩))), _, _, rfl, trivial, Agree.refl _ _, hh.below hbl (fun k hk => hk), bel_of hbl (fun k hk => hk), ?_⟩
      show mD _ _ ∧ True
      rw [hv]
      exact ⟨⟨rfl⟩, trivial⟩
    cases hl : l with
    | nil =>
      subst hl
      refine (Any.strings_Join_none Tryz.lays156 builder156 a cap sep w).mono ?_
      rintro e w' ⟨rfl, rfl⟩
      exact fin _ (Below.refl _ _)
    | cons x r =>
      rw [← hl]
      have h0 : 0 < l.length := by rw [hl]; simp
      obtain ⟨b, off, rfl, hx⟩ := hcells h0
      refine (Any.strings_Join Tryz.lays156 builder156 b off cap l sep w (fun j x hj => ?_) (hold _ _ _ hv0 h0) hn.1 hcap hn.2).mono ?_
      · exact hx j (.s x) (by
          show ((Cont.strs l).flat)[j]? = _
          have hfl : (Cont.strs l).flat = l.map D.s := flat1 _ _
          rw [hfl, List.getElem?_map, hj]
          rfl)
      · rintro e w' ⟨rfl, hbl⟩
        exact fin _ hbl
  · cases hg
theorem sp_110_ok {sp : Specs} (h : SpecsOK Tryz.prog sp) : SpecsOK Tryz.prog (sp_110 sp) := addK_ok strings_Join_ok h
end Go.Sh
end

section
namespace Go.Sh
open Go Go.Proofs Go.RowKit Go.Sx
set_option linter.unusedVariables false
def k_G_FormatFigures : List (Option Cont) := [none]
def G_FormatFigures_b0 (u44 : Bool) (u45 : Bool) (u46 : Bool) (u47 : Bool) (u48 : Bool) (u49 : Bool) (u50 : Int) (u51 : Int) (u52 : Int) (u53 : Int) (u54 : Int) (u55 : Int) (u56 : Int) (u57 : Int) (u58 : Int) (u59 : Int) (u60 : Int) (u61 : Int) (x0 : (Int × List ByteArray)) : Option ((Int × List ByteArray) ⊕ (List ByteArray)) :=
  if x0.1 < (6 : Int) then
   if ((0 : Int) ≤ x0.1 ∧ x0.1 < (↑(6 : Nat) : Int)) ∧ List.getD [true, true, true, true, true, true] (Int.toNat x0.1 * (1 : Nat)) false = true then
    if (!List.getD [u44, u45, u46, u47, u48, u49] (Int.toNat x0.1 * (1 : Nat)) false) = true then
     if (List.length x0.2 + List.length [ByteArray.mk #[(45 : UInt8)]]) * (16 : Nat) ≤ (140737488355328 : Nat) ∧ List.length x0.2 + List.length [ByteArray.mk #[(45 : UInt8)]] ≤ (9223372036854775807 : Nat) then
      some (.inl ((IntKind.wrap .i64 (x0.1 + (1 : Int)), x0.2 ++ [ByteArray.mk #[(45 : UInt8)]])))
     else none
    else
     if (0 : Int) ≤ x0.1 ∧ x0.1 < (↑(6 : Nat) : Int) then
      if List.getD [false, false, false, false, false, false, true, true, true, true, true, true, true, true, true, true, true, true] ((6 : Nat) + Int.toNat x0.1 * (2 : Nat) + Field.offset (Field.mk "Lo" (3 : Nat) (0 : Nat) false "" "" (0 : Nat))) false = true then
       Option.bind (strconv_Itoa (List.getD [(0 : Int), (0 : Int), (0 : Int), (0 : Int), (0 : Int), (0 : Int), u50, u51, u52, u53, u54, u55, u56, u57, u58, u59, u60, u61] ((6 : Nat) + Int.toNat x0.1 * (2 : Nat) + Field.offset (Field.mk "Lo" (3 : Nat) (0 : Nat) false "" "" (0 : Nat))) (0 : Int))) fun r0 =>
       if (0 : Int) ≤ x0.1 ∧ x0.1 < (↑(6 : Nat) : Int) then
        if List.getD [false, false, false, false, false, false, true, true, true, true, true, true, true, true, true, true, true, true] ((6 : Nat) + Int.toNat x0.1 * (2 : Nat) + Field.offset (Field.mk "Hi" (3 : Nat) (1 : Nat) false "" "" (8 : Nat))) false = true then
         Option.bind (strconv_Itoa (List.getD [(0 : Int), (0 : Int), (0 : Int), (0 : Int), (0 : Int), (0 : Int), u50, u51, u52, u53, u54, u55, u56, u57, u58, u59, u60, u61] ((6 : Nat) + Int.toNat x0.1 * (2 : Nat) + Field.offset (Field.mk "Hi" (3 : Nat) (1 : Nat) false "" "" (8 : Nat))) (0 : Int))) fun r1 =>
         if (List.length x0.2 + List.length [r0, r1]) * (16 : Nat) ≤ (140737488355328 : Nat) ∧ List.length x0.2 + List.length [r0, r1] ≤ (9223372036854775807 : Nat) then
          some (.inl ((IntKind.wrap .i64 (x0.1 + (1 : Int)), x0.2 ++ [r0, r1])))
         else none
        else none
       else none
      else none
     else none
   else none
  else
   some (.inr x0.2)
def G_FormatFigures_r0 (u14 : List ByteArray) : Option ByteArray :=
  Option.bind (strings_Join u14 (ByteArray.mk #[(32 : UInt8)])) fun r2 =>
  some r2
def G_FormatFigures (u44 : Bool) (u45 : Bool) (u46 : Bool) (u47 : Bool) (u48 : Bool) (u49 : Bool) (u50 : Int) (u51 : Int) (u52 : Int) (u53 : Int) (u54 : Int) (u55 : Int) (u56 : Int) (u57 : Int) (u58 : Int) (u59 : Int) (u60 : Int) (u61 : Int) : Option ByteArray :=
  Option.bind (iter (G_FormatFigures_b0 u44 u45 u46 u47 u48 u49 u50 u51 u52 u53 u54 u55 u56 u57 u58 u59 u60 u61) big (((0 : Int), []))) (G_FormatFigures_r0)
def g_G_FormatFigures : List A → Option (Prop × List RV)
  | [.s [.b u44, .b u45, .b u46, .b u47, .b u48, .b u49, .i .i64 u50, .i .i64 u51, .i .i64 u52, .i .i64 u53, .i .i64 u54, .i .i64 u55, .i .i64 u56, .i .i64 u57, .i .i64 u58, .i .i64 u59, .i .i64 u60, .i .i64 u61]] => some (ok (G_FormatFigures u44 u45 u46 u47 u48 u49 u50 u51 u52 u53 u54 u55 u56 u57 u58 u59 u60 u61), [.d (.s ((val (G_FormatFigures u44 u45 u46 u47 u48 u49 u50 u51 u52 u53 u54 u55 u56 u57 u58 u59 u60 u61))))])
  | _ => none
abbrev sp_62 : Specs → Specs := addK 62 true (pureK k_G_FormatFigures g_G_FormatFigures)
set_option maxRecDepth 100000 in
theorem G_FormatFigures_vc (u44 : Bool) (u45 : Bool) (u46 : Bool) (u47 : Bool) (u48 : Bool) (u49 : Bool) (u50 : Int) (u51 : Int) (u52 : Int) (u53 : Int) (u54 : Int) (u55 : Int) (u56 : Int) (u57 : Int) (u58 : Int) (u59 : Int) (u60 : Int) (u61 : Int) (r : ByteArray) (h : Option.bind (G_FormatFigures u44 u45 u46 u47 u48 u49 u50 u51 u52 u53 u54 u55 u56 u57 u58 u59 u60 u61) some = some r) : runF Tryz.f62 ((sp_109 (sp_110 sp0))) (fun gs id _ => match id with
 | 0 => some ⟨(Int × List ByteArray) × Nat, fun z => ⟨[(1, .w (.c (.p 1 (0 : Nat) 1 (0 : Nat)))), (3, .w (.c (.o 2))), (7, .w (.a [.d (.b u44), .d (.b u45), .d (.b u46), .d (.b u47), .d (.b u48), .d (.b u49)])), (8, .w (.c (.d (.i .i64 (Prod.fst (Prod.fst z))))))], [(1, .box 95 [.d (.b u44), .d (.b u45), .d (.b u46), .d (.b u47), .d (.b u48), .d (.b u49), .d (.i .i64 u50), .d (.i .i64 u51), .d (.i .i64 u52), .d (.i .i64 u53), .d (.i .i64 u54), .d (.i .i64 u55), .d (.i .i64 u56), .d (.i .i64 u57), .d (.i .i64 u58), .d (.i .i64 u59), .d (.i .i64 u60), .d (.i .i64 u61)]), (2, .row 9 (.strs (Prod.snd (Prod.fst z))))], 3⟩, fun z => Option.bind (iter (G_FormatFigures_b0 u44 u45 u46 u47 u48 u49 u50 u51 u52 u53 u54 u55 u56 u57 u58 u59 u60 u61) (Prod.snd z) (Prod.fst z)) (fun y0 => Option.bind (G_FormatFigures_r0 y0) some) = some r, fun z => Prod.snd z⟩
 | _ => none) [.s [.b u44, .b u45, .b u46, .b u47, .b u48, .b u49, .i .i64 u50, .i .i64 u51, .i .i64 u52, .i .i64 u53, .i .i64 u54, .i .i64 u55, .i .i64 u56, .i .i64 u57, .i .i64 u58, .i .i64 u59, .i .i64 u60, .i .i64 u61]] [.d (.s r)] := by
  refine Eq.mp (by kernel_rfl : (
  ((∃ (v0 : (Int × List ByteArray) × Nat), (Ob ((Option.bind (iter (G_FormatFigures_b0 u44 u45 u46 u47 u48 u49 u50 u51 u52 u53 u54 u55 u56 u57 u58 u59 u60 u61) v0.2 v0.1) fun y0 => Option.bind (G_FormatFigures_r0 y0) some) = some r) ∧
 (Ob ((0 : Nat) = (0 : Nat)) ∧
 (Ob (u44 = u44) ∧
 (Ob (u45 = u45) ∧
 (Ob (u46 = u46) ∧
 (Ob (u47 = u47) ∧
 (Ob (u48 = u48) ∧
 (Ob (u49 = u49) ∧
 (Ob ((0 : Int) = v0.1.1) ∧
 (Ob (u44 = u44) ∧
 (Ob (u45 = u45) ∧
 (Ob (u46 = u46) ∧
 (Ob (u47 = u47) ∧
 (Ob (u48 = u48) ∧
 (Ob (u49 = u49) ∧
 (Ob (u50 = u50) ∧
 (Ob (u51 = u51) ∧
 (Ob (u52 = u52) ∧
 (Ob (u53 = u53) ∧
 (Ob (u54 = u54) ∧
 (Ob (u55 = u55) ∧
 (Ob (u56 = u56) ∧
 (Ob (u57 = u57) ∧
 (Ob (u58 = u58) ∧
 (Ob (u59 = u59) ∧
 (Ob (u60 = u60) ∧
 (Ob (u61 = u61) ∧
 (Ob (List.length v0.1.2 = (0 : Nat)) ∧
 True))))))))))))))))))))))))))))) ∧
   (∀ (v0 : (Int × List ByteArray) × Nat), ((Option.bind (iter (G_FormatFigures_b0 u44 u45 u46 u47 u48 u49 u50 u51 u52 u53 u54 u55 u56 u57 u58 u59 u60 u61) v0.2 v0.1) fun y0 => Option.bind (G_FormatFigures_r0 y0) some) = some r →
 Br (decide (v0.1.1 < (6 : Int)))
   ((Ob (((0 : Int) ≤ v0.1.1 ∧ v0.1.1 < (↑(6 : Nat) : Int)) ∧ List.getD [true, true, true, true, true, true] (Int.toNat v0.1.1 * (1 : Nat)) false = true) ∧
 Br (!List.getD [u44, u45, u46, u47, u48, u49] (Int.toNat v0.1.1 * (1 : Nat)) false)
   ((Ob ((List.length v0.1.2 + List.length [ByteArray.mk #[(45 : UInt8)]]) * (16 : Nat) ≤ (140737488355328 : Nat) ∧ List.length v0.1.2 + List.length [ByteArray.mk #[(45 : UInt8)]] ≤ (9223372036854775807 : Nat)) ∧
   (∃ (v1 : (Int × List ByteArray) × Nat), (Ob ((Option.bind (iter (G_FormatFigures_b0 u44 u45 u46 u47 u48 u49 u50 u51 u52 u53 u54 u55 u56 u57 u58 u59 u60 u61) v1.2 v1.1) fun y0 => Option.bind (G_FormatFigures_r0 y0) some) = some r) ∧
 (Ob (v1.2 < v0.2) ∧
 (Ob ((0 : Nat) = (0 : Nat)) ∧
 (Ob (u44 = u44) ∧
 (Ob (u45 = u45) ∧
 (Ob (u46 = u46) ∧
 (Ob (u47 = u47) ∧
 (Ob (u48 = u48) ∧
 (Ob (u49 = u49) ∧
 (Ob (IntKind.wrap .i64 (v0.1.1 + (1 : Int)) = v1.1.1) ∧
 (Ob (u44 = u44) ∧
 (Ob (u45 = u45) ∧
 (Ob (u46 = u46) ∧
 (Ob (u47 = u47) ∧
 (Ob (u48 = u48) ∧
 (Ob (u49 = u49) ∧
 (Ob (u50 = u50) ∧
 (Ob (u51 = u51) ∧
 (Ob (u52 = u52) ∧
 (Ob (u53 = u53) ∧
 (Ob (u54 = u54) ∧
 (Ob (u55 = u55) ∧
 (Ob (u56 = u56) ∧
 (Ob (u57 = u57) ∧
 (Ob (u58 = u58) ∧
 (Ob (u59 = u59) ∧
 (Ob (u60 = u60) ∧
 (Ob (u61 = u61) ∧
 (Ob (v0.1.2 ++ [ByteArray.mk #[(45 : UInt8)]] = v1.1.2) ∧
 True))))))))))))))))))))))))))))))))
   ((Ob ((0 : Int) ≤ v0.1.1 ∧ v0.1.1 < (↑(6 : Nat) : Int)) ∧
 (Ob (List.getD [false, false, false, false, false, false, true, true, true, true, true, true, true, true, true, true, true, true] ((6 : Nat) + Int.toNat v0.1.1 * (2 : Nat) + Field.offset (Field.mk "Lo" (3 : Nat) (0 : Nat) false "" "" (0 : Nat))) false = true) ∧
 (Ob (ok (strconv_Itoa (List.getD [(0 : Int), (0 : Int), (0 : Int), (0 : Int), (0 : Int), (0 : Int), u50, u51, u52, u53, u54, u55, u56, u57, u58, u59, u60, u61] ((6 : Nat) + Int.toNat v0.1.1 * (2 : Nat) + Field.offset (Field.mk "Lo" (3 : Nat) (0 : Nat) false "" "" (0 : Nat))) (0 : Int)))) ∧
 (Ob ((0 : Int) ≤ v0.1.1 ∧ v0.1.1 < (↑(6 : Nat) : Int)) ∧
 (Ob (List.getD [false, false, false, false, false, false, true, true, true, true, true, true, true, true, true, true, true, true] ((6 : Nat) + Int.toNat v0.1.1 * (2 : Nat) + Field.offset (Field.mk "Hi" (3 : Nat) (1 : Nat) false "" "" (8 : Nat))) false = true) ∧
 (Ob (ok (strconv_Itoa (List.getD [(0 : Int), (0 : Int), (0 : Int), (0 : Int), (0 : Int), (0 : Int), u50, u51, u52, u53, u54, u55, u56, u57, u58, u59, u60, u61] ((6 : Nat) + Int.toNat v0.1.1 * (2 : Nat) + Field.offset (Field.mk "Hi" (3 : Nat) (1 : Nat) false "" "" (8 : Nat))) (0 : Int)))) ∧
 (Ob ((List.length v0.1.2 + List.length [val (strconv_Itoa (List.getD [(0 : Int), (0 : Int), (0 : Int), (0 : Int), (0 : Int), (0 : Int), u50, u51, u52, u53, u54, u55, u56, u57, u58, u59, u60, u61] ((6 : Nat) + Int.toNat v0.1.1 * (2 : Nat) + Field.offset (Field.mk "Lo" (3 : Nat) (0 : Nat) false "" "" (0 : Nat))) (0 : Int))), val (strconv_Itoa (List.getD [(0 : Int), (0 : Int), (0 : Int), (0 : Int), (0 : Int), (0 : Int), u50, u51, u52, u53, u54, u55, u56, u57, u58, u59, u60, u61] ((6 : Nat) + Int.toNat v0.1.1 * (2 : Nat) + Field.offset (Field.mk "Hi" (3 : Nat) (1 : Nat) false "" "" (8 : Nat))) (0 : Int)))]) * (16 : Nat) ≤ (140737488355328 : Nat) ∧ List.length v0.1.2 + List.length [val (strconv_Itoa (List.getD [(0 : Int), (0 : Int), (0 : Int), (0 : Int), (0 : Int), (0 : Int), u50, u51, u52, u53, u54, u55, u56, u57, u58, u59, u60, u61] ((6 : Nat) + Int.toNat v0.1.1 * (2 : Nat) + Field.offset (Field.mk "Lo" (3 : Nat) (0 : Nat) false "" "" (0 : Nat))) (0 : Int))), val (strconv_Itoa (List.getD [(0 : Int), (0 : Int), (0 : Int), (0 : Int), (0 : Int), (0 : Int), u50, u51, u52, u53, u54, u55, u56, u57, u58, u59, u60, u61] ((6 : Nat) + Int.toNat v0.1.1 * (2 : Nat) + Field.offset (Field.mk "Hi" (3 : Nat) (1 : Nat) false "" "" (8 : Nat))) (0 : Int)))] ≤ (9223372036854775807 : Nat)) ∧
   (∃ (v1 : (Int × List ByteArray) × Nat), (Ob ((Option.bind (iter (G_FormatFigures_b0 u44 u45 u46 u47 u48 u49 u50 u51 u52 u53 u54 u55 u56 u57 u58 u59 u60 u61) v1.2 v1.1) fun y0 => Option.bind (G_FormatFigures_r0 y0) some) = some r) ∧
 (Ob (v1.2 < v0.2) ∧
 (Ob ((0 : Nat) = (0 : Nat)) ∧
 (Ob (u44 = u44) ∧
 (Ob (u45 = u45) ∧
 (Ob (u46 = u46) ∧
 (Ob (u47 = u47) ∧
 (Ob (u48 = u48) ∧
 (Ob (u49 = u49) ∧
 (Ob (IntKind.wrap .i64 (v0.1.1 + (1 : Int)) = v1.1.1) ∧
 (Ob (u44 = u44) ∧
 (Ob (u45 = u45) ∧
 (Ob (u46 = u46) ∧
 (Ob (u47 = u47) ∧
 (Ob (u48 = u48) ∧
 (Ob (u49 = u49) ∧
 (Ob (u50 = u50) ∧
 (Ob (u51 = u51) ∧
 (Ob (u52 = u52) ∧
 (Ob (u53 = u53) ∧
 (Ob (u54 = u54) ∧
 (Ob (u55 = u55) ∧
 (Ob (u56 = u56) ∧
 (Ob (u57 = u57) ∧
 (Ob (u58 = u58) ∧
 (Ob (u59 = u59) ∧
 (Ob (u60 = u60) ∧
 (Ob (u61 = u61) ∧
 (Ob (v0.1.2 ++ [val (strconv_Itoa (List.getD [(0 : Int), (0 : Int), (0 : Int), (0 : Int), (0 : Int), (0 : Int), u50, u51, u52, u53, u54, u55, u56, u57, u58, u59, u60, u61] ((6 : Nat) + Int.toNat v0.1.1 * (2 : Nat) + Field.offset (Field.mk "Lo" (3 : Nat) (0 : Nat) false "" "" (0 : Nat))) (0 : Int))), val (strconv_Itoa (List.getD [(0 : Int), (0 : Int), (0 : Int), (0 : Int), (0 : Int), (0 : Int), u50, u51, u52, u53, u54, u55, u56, u57, u58, u59, u60, u61] ((6 : Nat) + Int.toNat v0.1.1 * (2 : Nat) + Field.offset (Field.mk "Hi" (3 : Nat) (1 : Nat) false "" "" (8 : Nat))) (0 : Int)))] = v1.1.2) ∧
 True))))))))))))))))))))))))))))))))))))))))
   ((Ob (ok (strings_Join v0.1.2 (ByteArray.mk #[(32 : UInt8)]))) ∧
 (Ob (True) ∧
 (Ob (val (strings_Join v0.1.2 (ByteArray.mk #[(32 : UInt8)])) = r) ∧
 True)))))))) = _) ?_
  refine ⟨⟨(((0 : Int), []), big), ⟨loop_s h⟩, (by repeat' (first | exact trivial | exact ⟨rfl⟩ | refine And.intro ?_ ?_))⟩, fun z3 hz3 => ?_⟩
  obtain ⟨k3, hm3, h⟩ := iter_pos hz3
  refine br_d h (fun h => ?_) (fun h => ?_)
  · refine ob_s h fun h => ?_
    refine br_b h (fun h => ?_) (fun h => ?_)
    · refine ob_s h fun h => ?_
      exact ⟨((IntKind.wrap .i64 ((Prod.fst z3).1 + (1 : Int)), (Prod.fst z3).2 ++ [ByteArray.mk #[(45 : UInt8)]]), k3), ⟨next_s h⟩, ⟨lt_gs hm3.symm⟩, (by repeat' (first | exact trivial | exact ⟨rfl⟩ | refine And.intro ?_ ?_))⟩
    · refine ob_s h fun h => ?_
      refine ob_s h fun h => ?_
      refine call_s h fun h => ?_
      refine ob_s h fun h => ?_
      refine ob_s h fun h => ?_
      refine call_s h fun h => ?_
      refine ob_s h fun h => ?_
      exact ⟨((IntKind.wrap .i64 ((Prod.fst z3).1 + (1 : Int)), (Prod.fst z3).2 ++ [val (strconv_Itoa (List.getD [(0 : Int), (0 : Int), (0 : Int), (0 : Int), (0 : Int), (0 : Int), u50, u51, u52, u53, u54, u55, u56, u57, u58, u59, u60, u61] ((6 : Nat) + Int.toNat (Prod.fst z3).1 * (2 : Nat) + Field.offset (Field.mk "Lo" (3 : Nat) (0 : Nat) false "" "" (0 : Nat))) (0 : Int))), val (strconv_Itoa (List.getD [(0 : Int), (0 : Int), (0 : Int), (0 : Int), (0 : Int), (0 : Int), u50, u51, u52, u53, u54, u55, u56, u57, u58, u59, u60, u61] ((6 : Nat) + Int.toNat (Prod.fst z3).1 * (2 : Nat) + Field.offset (Field.mk "Hi" (3 : Nat) (1 : Nat) false "" "" (8 : Nat))) (0 : Int)))]), k3), ⟨next_s h⟩, ⟨lt_gs hm3.symm⟩, (by repeat' (first | exact trivial | exact ⟨rfl⟩ | refine And.intro ?_ ?_))⟩
  · have h := exit_s h
    refine call_s h fun h => ?_
    refine ob_t ?_
    exact ret_s h (fun e => by subst e; exact (by repeat' (first | exact trivial | exact ⟨rfl⟩ | refine And.intro ?_ ?_)))
set_option maxRecDepth 100000 in
theorem G_FormatFigures_ok : SpecOK Tryz.prog 62 true (pureK k_G_FormatFigures g_G_FormatFigures) := by
  refine pureK_ok (sp := (sp_109 (sp_110 sp0))) (fn := Tryz.f62) (body := bodyOf Tryz.f62) mixed (sp_109_ok (sp_110_ok sp0_ok)) Tryz.func62 (by kernel_rfl) (by kernel_rfl) fun as_ ob rs h ho => ?_
  unfold g_G_FormatFigures at h
  split at h
  · rename_i u44 u45 u46 u47 u48 u49 u50 u51 u52 u53 u54 u55 u56 u57 u58 u59 u60 u61
    cases h
    exact ⟨Nat.le_of_ble_eq_true rfl, _, _, G_FormatFigures_vc u44 u45 u46 u47 u48 u49 u50 u51 u52 u53 u54 u55 u56 u57 u58 u59 u60 u61 _ (ok_some ho)⟩
  · cases h
theorem sp_62_ok {sp : Specs} (h : SpecsOK Tryz.prog sp) : SpecsOK Tryz.prog (sp_62 sp) := addK_ok G_FormatFigures_ok h
end Go.Sh
end

section
namespace Go.Sh
open Go Go.Proofs Go.RowKit Go.Sx
set_option linter.unusedVariables false
def freeR : Int := 8000
def freeS : List Nat := [1090519040, 1082130432, 1073741824, 1065353216, 0]
def g_five (fr : Int) (fs : List Nat) : List Lf → Option GT
  | [] => some (.leaf True [.s [.d (.i .i64 fr), .row 151 (.floats .f32 fs)]])
  | _ => none
abbrev sp_66v (fr : Int) (fs : List Nat) : Specs → Specs := addK 66 true (pureT k_L05_Five (g_five fr fs))
set_option maxRecDepth 100000 in
theorem five_ok : SpecOK Tryz.prog 66 true (pureT k_L05_Five (g_five freeR freeS)) := by
  refine pureT_ok (sp := sp0) (fn := Tryz.f66) (body := bodyOf Tryz.f66) mixed sp0_ok Tryz.func66 (by kernel_rfl) (by kernel_rfl) fun ls t h ho b hb => ?_
  unfold g_five at h
  split at h
  · cases h
    obtain rfl := bld_eq hb
    exact ⟨Nat.le_of_ble_eq_true (by kernel_rfl), _, _, L05_Five_vc (freeR, freeS) rfl⟩
  · cases h
theorem sp_66v_ok {sp : Specs} (h : SpecsOK Tryz.prog sp) : SpecsOK Tryz.prog (sp_66v freeR freeS sp) := addK_ok five_ok h
end Go.Sh
end

section
namespace Go.Sh
open Go Go.Proofs Go.RowKit Go.Sx
set_option linter.unusedVariables false
def k_L05_awake : List (Option Cont) := []
def L05_awake (fr : Int) (fs : List Nat) : Option Bool :=
  Option.bind (G_Sums fr fs) fun r0 =>
  Option.bind (G_Decay fr fs (1 : Int)) fun r1 =>
  Option.bind (G_Clarity fr fs (0 : Int) (0 : Int) (125 : Int)) fun r2 =>
  Option.bind (G_Transfer fr fs (1 : Int)) fun r3 =>
  Option.bind (G_FiguresOf fr fs (0 : Int) (0 : Int)) fun r4 =>
  if (r0.2 == (0 : Int)) = true then
   Option.bind (B_Ints r0.1 [(85 : Int), (21 : Int), (5 : Int), (1 : Int), (0 : Int)]) fun r5 =>
   if (r5) = true then
    if (r1.2.2 == (0 : Int)) = true then
     if (r1.1 == (750 : Int) && r1.2.1 == (1500 : Int)) = true then
      if (r2.2.2 == (0 : Int)) = true then
       if (r2.1 == (4 : Int) && r2.2.1 == (5 : Int)) = true then
        if (r3.2.2 == (0 : Int)) = true then
         if (r3.1 == (9 : Int) && r3.2.1 == (17 : Int)) = true then
          if (r4.2.2.2.2.2.2.2.2.2.2.2.2.2.2.2.2.2.2 == (0 : Int)) = true then
           Option.bind (G_FormatFigures r4.1 r4.2.1 r4.2.2.1 r4.2.2.2.1 r4.2.2.2.2.1 r4.2.2.2.2.2.1 r4.2.2.2.2.2.2.1 r4.2.2.2.2.2.2.2.1 r4.2.2.2.2.2.2.2.2.1 r4.2.2.2.2.2.2.2.2.2.1 r4.2.2.2.2.2.2.2.2.2.2.1 r4.2.2.2.2.2.2.2.2.2.2.2.1 r4.2.2.2.2.2.2.2.2.2.2.2.2.1 r4.2.2.2.2.2.2.2.2.2.2.2.2.2.1 r4.2.2.2.2.2.2.2.2.2.2.2.2.2.2.1 r4.2.2.2.2.2.2.2.2.2.2.2.2.2.2.2.1 r4.2.2.2.2.2.2.2.2.2.2.2.2.2.2.2.2.1 r4.2.2.2.2.2.2.2.2.2.2.2.2.2.2.2.2.2.1) fun r6 =>
           some (r6 == ByteArray.mk #[(55 : UInt8), (53 : UInt8), (48 : UInt8), (32 : UInt8), (49 : UInt8), (53 : UInt8), (48 : UInt8), (48 : UInt8), (32 : UInt8), (55 : UInt8), (53 : UInt8), (48 : UInt8), (32 : UInt8), (49 : UInt8), (53 : UInt8), (48 : UInt8), (48 : UInt8), (32 : UInt8), (53 : UInt8), (48 : UInt8), (48 : UInt8), (32 : UInt8), (49 : UInt8), (48 : UInt8), (48 : UInt8), (48 : UInt8), (32 : UInt8), (45 : UInt8), (32 : UInt8), (49 : UInt8), (48 : UInt8), (48 : UInt8), (48 : UInt8), (32 : UInt8), (49 : UInt8), (48 : UInt8), (48 : UInt8), (48 : UInt8), (32 : UInt8), (51 : UInt8), (57 : UInt8), (32 : UInt8), (52 : UInt8), (48 : UInt8)])
          else
           some false
         else
          some false
        else
         some false
       else
        some false
      else
       some false
     else
      some false
    else
     some false
   else
    some false
  else
   some false
set_option maxRecDepth 100000 in
def L05_awake_t (fr : Int) (fs : List Nat) : T (Bool) :=
 .obT
  (.call (G_Sums fr fs) fun r0 =>
  .obT
  (.call (G_Decay fr fs (1 : Int)) fun r1 =>
  .obT
  (.call (G_Clarity fr fs (0 : Int) (0 : Int) (125 : Int)) fun r2 =>
  .obT
  (.call (G_Transfer fr fs (1 : Int)) fun r3 =>
  .obT
  (.call (G_FiguresOf fr fs (0 : Int) (0 : Int)) fun r4 =>
  .brB (r0.2 == (0 : Int))
  (.call (B_Ints r0.1 [(85 : Int), (21 : Int), (5 : Int), (1 : Int), (0 : Int)]) fun r5 =>
  .brB (r5)
  (.brB (r1.2.2 == (0 : Int))
  (.brB (r1.1 == (750 : Int) && r1.2.1 == (1500 : Int))
  (.brB (r2.2.2 == (0 : Int))
  (.brB (r2.1 == (4 : Int) && r2.2.1 == (5 : Int))
  (.brB (r3.2.2 == (0 : Int))
  (.brB (r3.1 == (9 : Int) && r3.2.1 == (17 : Int))
  (.brB (r4.2.2.2.2.2.2.2.2.2.2.2.2.2.2.2.2.2.2 == (0 : Int))
  (.call (G_FormatFigures r4.1 r4.2.1 r4.2.2.1 r4.2.2.2.1 r4.2.2.2.2.1 r4.2.2.2.2.2.1 r4.2.2.2.2.2.2.1 r4.2.2.2.2.2.2.2.1 r4.2.2.2.2.2.2.2.2.1 r4.2.2.2.2.2.2.2.2.2.1 r4.2.2.2.2.2.2.2.2.2.2.1 r4.2.2.2.2.2.2.2.2.2.2.2.1 r4.2.2.2.2.2.2.2.2.2.2.2.2.1 r4.2.2.2.2.2.2.2.2.2.2.2.2.2.1 r4.2.2.2.2.2.2.2.2.2.2.2.2.2.2.1 r4.2.2.2.2.2.2.2.2.2.2.2.2.2.2.2.1 r4.2.2.2.2.2.2.2.2.2.2.2.2.2.2.2.2.1 r4.2.2.2.2.2.2.2.2.2.2.2.2.2.2.2.2.2.1) fun r6 =>
  .obT
  (.rc ((r6 == ByteArray.mk #[(55 : UInt8), (53 : UInt8), (48 : UInt8), (32 : UInt8), (49 : UInt8), (53 : UInt8), (48 : UInt8), (48 : UInt8), (32 : UInt8), (55 : UInt8), (53 : UInt8), (48 : UInt8), (32 : UInt8), (49 : UInt8), (53 : UInt8), (48 : UInt8), (48 : UInt8), (32 : UInt8), (53 : UInt8), (48 : UInt8), (48 : UInt8), (32 : UInt8), (49 : UInt8), (48 : UInt8), (48 : UInt8), (48 : UInt8), (32 : UInt8), (45 : UInt8), (32 : UInt8), (49 : UInt8), (48 : UInt8), (48 : UInt8), (48 : UInt8), (32 : UInt8), (49 : UInt8), (48 : UInt8), (48 : UInt8), (48 : UInt8), (32 : UInt8), (51 : UInt8), (57 : UInt8), (32 : UInt8), (52 : UInt8), (48 : UInt8)]))))
  (.obT
  (.rc (false))))
  (.obT
  (.rc (false))))
  (.obT
  (.rc (false))))
  (.obT
  (.rc (false))))
  (.obT
  (.rc (false))))
  (.obT
  (.rc (false))))
  (.obT
  (.rc (false))))
  (.obT
  (.rc (false))))
  (.obT
  (.rc (false))))))))
set_option maxRecDepth 100000 in
theorem L05_awake_vc (fr : Int) (fs : List Nat) (r : Bool) (h : Option.bind (L05_awake fr fs) some = some r) : runF Tryz.f15 ((sp_53 (sp_17 (sp_26 (sp_34 (sp_66v fr fs (sp_60 (sp_55 (sp_62 sp0))))))))) (fun _ _ _ => none) [] [.d (.b r)] :=
  T.vc (t := L05_awake_t fr fs) (by kernel_rfl) (by kernel_rfl) h
end Go.Sh
end

section
namespace Go.Sh
open Go Go.Proofs Go.RowKit Go.Sx
set_option maxRecDepth 100000
set_option maxHeartbeats 4000000
theorem awake_eq : L05_awake freeR freeS = some true := by kernel_rfl
end Go.Sh
end

section
namespace Go.Sh
open Go Go.Proofs Go.RowKit Go.Sx
set_option maxRecDepth 100000
def g_awake : List A → Option (Prop × List RV)
  | [] => some (True, [.d (.b true)])
  | _ => none
abbrev sp_15b : Specs → Specs := addK 15 true (pureK k_L05_awake g_awake)
theorem awakeT_ok : SpecOK Tryz.prog 15 true (pureK k_L05_awake g_awake) := by
  refine pureK_ok (sp := (sp_53 (sp_17 (sp_26 (sp_34 (sp_66v freeR freeS (sp_60 (sp_55 (sp_62 sp0))))))))) (fn := Tryz.f15) (body := bodyOf Tryz.f15) mixed (sp_53_ok (sp_17_ok (sp_26_ok (sp_34_ok (sp_66v_ok (sp_60_ok (sp_55_ok (sp_62_ok sp0_ok)))))))) Tryz.func15 (by kernel_rfl) (by kernel_rfl) fun as_ ob rs h ho => ?_
  unfold g_awake at h
  split at h
  · cases h
    exact ⟨Nat.le_of_ble_eq_true rfl, _, _, L05_awake_vc freeR freeS true (by rw [awake_eq]; rfl)⟩
  · cases h
theorem sp_15b_ok {sp : Specs} (h : SpecsOK Tryz.prog sp) : SpecsOK Tryz.prog (sp_15b sp) := addK_ok awakeT_ok h
end Go.Sh
end

section
namespace Go.Sh
open Go Go.Proofs Go.RowKit Go.Sx
set_option linter.unusedVariables false
def k_L05_FigureClarity : List SV := [.a [.d, .r (.floats .f32 []), .d, .d], .c (.d)]
def L05_FigureClarity (u4 : Int) (u0 : List Nat) (u5 : Int) (u1 : Int) (u6 : Int) : Option Bool :=
  Option.bind (L05_Few u4 u0) fun r0 =>
  if (!r0) = true then
   some true
  else
   Option.bind (R05_Copy u4 u0 u5 u1) fun r1 =>
   Option.bind (G_Clarity r1.1 r1.2.1 r1.2.2.1 r1.2.2.2 u6) fun r2 =>
   Option.bind (R05_AskErr u4 u0 u5 u1) fun r3 =>
   if (r3 == (0 : Int)) = true then
    Option.bind (R05_TimeErr u6) fun r4 =>
    if (r4 == (0 : Int)) = true then
     Option.bind (R05_Clarity u4 u0 u5 u1 u6) fun r5 =>
     if (r2.2.2 == r5.2.2) = true then
      some (r2.1 == r5.1 && r2.2.1 == r5.2.1)
     else
      some false
    else
     if (r2.2.2 == r4) = true then
      some (r2.1 == (0 : Int) && r2.2.1 == (0 : Int))
     else
      some false
   else
    if (r3 == (0 : Int)) = true then
     none     else
     if (r2.2.2 == r3) = true then
      some (r2.1 == (0 : Int) && r2.2.1 == (0 : Int))
     else
      some false
def g_L05_FigureClarity : List Lf → Option GT
  | [.d (.i .i64 u4), .r (.floats .f32 u0), .d (.i .i64 u5), .d (.i .i64 u1), .d (.i .i64 u6)] => some (.leaf (ok (L05_FigureClarity u4 u0 u5 u1 u6)) [.c (.d (.b ((val (L05_FigureClarity u4 u0 u5 u1 u6)))))])
  | _ => none
set_option maxRecDepth 100000 in
def L05_FigureClarity_t (u4 : Int) (u0 : List Nat) (u5 : Int) (u1 : Int) (u6 : Int) : T (Bool) :=
 .obT
  (.call (L05_Few u4 u0) fun r0 =>
  .brB (!r0)
  (.obT
  (.rc (true)))
  (.call (R05_Copy u4 u0 u5 u1) fun r1 =>
  .call (G_Clarity r1.1 r1.2.1 r1.2.2.1 r1.2.2.2 u6) fun r2 =>
  .call (R05_AskErr u4 u0 u5 u1) fun r3 =>
  .brB (r3 == (0 : Int))
  (.call (R05_TimeErr u6) fun r4 =>
  .brB (r4 == (0 : Int))
  (.call (R05_Clarity u4 u0 u5 u1 u6) fun r5 =>
  .brB (r2.2.2 == r5.2.2)
  (.obT
  (.rc ((r2.1 == r5.1 && r2.2.1 == r5.2.1))))
  (.obT
  (.rc (false))))
  (.brB (r2.2.2 == r4)
  (.obT
  (.rc ((r2.1 == (0 : Int) && r2.2.1 == (0 : Int)))))
  (.obT
  (.rc (false)))))
  (.brB (r3 == (0 : Int))
  (.bad (fun r => (Ob (ok (R05_Clarity u4 u0 u5 u1 u6)) ∧
 Br (r2.2.2 == (val (R05_Clarity u4 u0 u5 u1 u6)).2.2)
  ((Ob (True) ∧
 (Ob ((r2.1 == (val (R05_Clarity u4 u0 u5 u1 u6)).1 && r2.2.1 == (val (R05_Clarity u4 u0 u5 u1 u6)).2.1) = r) ∧
 True)))
  ((Ob (True) ∧
 (Ob (false = r) ∧
 True))))))
  (.brB (r2.2.2 == r3)
  (.obT
  (.rc ((r2.1 == (0 : Int) && r2.2.1 == (0 : Int)))))
  (.obT
  (.rc (false)))))))
set_option maxRecDepth 100000 in
theorem L05_FigureClarity_vc (u4 : Int) (u0 : List Nat) (u5 : Int) (u1 : Int) (u6 : Int) (r : Bool) (h : Option.bind (L05_FigureClarity u4 u0 u5 u1 u6) some = some r) : runT Tryz.f4 ((sp_15b (sp_16 (sp_20 (sp_26 (sp_22 (sp_27 (sp_28 sp0)))))))) (fun _ _ _ => none) (bldD k_L05_FigureClarity [.d (.i .i64 u4), .r (.floats .f32 u0), .d (.i .i64 u5), .d (.i .i64 u1), .d (.i .i64 u6)]) [.c (.d (.b r))] :=
  T.vc (t := L05_FigureClarity_t u4 u0 u5 u1 u6) (by kernel_rfl) (by kernel_rfl) h
set_option maxRecDepth 100000 in
theorem L05_FigureClarity_ok : SpecOK Tryz.prog 4 true (pureT k_L05_FigureClarity g_L05_FigureClarity) := by
  refine pureT_ok (sp := (sp_15b (sp_16 (sp_20 (sp_26 (sp_22 (sp_27 (sp_28 sp0)))))))) (fn := Tryz.f4) (body := bodyOf Tryz.f4) mixed (sp_15b_ok (sp_16_ok (sp_20_ok (sp_26_ok (sp_22_ok (sp_27_ok (sp_28_ok sp0_ok))))))) Tryz.func4 (by kernel_rfl) (by kernel_rfl) fun ls t h ho b hb => ?_
  unfold g_L05_FigureClarity at h
  split at h
  · rename_i u4 u0 u5 u1 u6
    cases h
    obtain rfl := bld_eq hb
    exact ⟨Nat.le_of_ble_eq_true (by kernel_rfl), _, _, L05_FigureClarity_vc u4 u0 u5 u1 u6 _ (ok_some ho)⟩
  · cases h
end Go.Sh
end

section
namespace Go.Sh
open Go Go.Proofs Go.RowKit Go.Sx Go.Sx06 Ieee Go.Fl
theorem split_eq {L : Int} (h : -900 ≤ L ∧ L ≤ 900) : G_split L = some (L / 10, L % 10) := by
  unfold G_split
  rw [wr64 (x := L + 900) (by omega), Int.tdiv_eq_ediv_of_nonneg (by omega), Int.tmod_eq_emod_of_nonneg (by omega), wr64 (x := (L + 900) / 10) (by omega), wr64 (by omega)]
  congr 2
  · omega
  · omega
theorem modB_eq {n : Int} (h : -1000 ≤ n ∧ n ≤ 1000) : B_Mod n 10 = some (n % 10) := by
  unfold B_Mod
  rw [if_pos (by decide), Int.tmod_eq_emod]
  by_cases hd : 0 ≤ n ∨ (10 : Int) ∣ n
  · rw [if_pos hd, show ((0 : Nat) : Int) = 0 from rfl, Int.sub_zero, if_neg (by omega)]
  · rw [if_neg hd]
    have e : ((10 : Int).natAbs : Int) = 10 := rfl
    rw [e, if_pos (by omega), wr64 (by omega)]
    congr 1
    omega
theorem tn_range {k : Int} (h : 0 ≤ k ∧ k < 10) : 1000000000 ≤ tenthsT.getD k.toNat 0 ∧ tenthsT.getD k.toNat 0 ≤ 7943282347 := by
  rcases (by omega : k = 0 ∨ k = 1 ∨ k = 2 ∨ k = 3 ∨ k = 4 ∨ k = 5 ∨ k = 6 ∨ k = 7 ∨ k = 8 ∨ k = 9) with rfl | rfl | rfl | rfl | rfl | rfl | rfl | rfl | rfl | rfl <;> exact ⟨by decide, by decide⟩
theorem tenthsR_eq {k : Int} (h : 0 ≤ k ∧ k < 10) : R05_tenths k = some (tenthsT.getD k.toNat 0) := by
  rcases (by omega : k = 0 ∨ k = 1 ∨ k = 2 ∨ k = 3 ∨ k = 4 ∨ k = 5 ∨ k = 6 ∨ k = 7 ∨ k = 8 ∨ k = 9) with rfl | rfl | rfl | rfl | rfl | rfl | rfl | rfl | rfl | rfl <;> rfl
theorem p10_nineteen {a : Int} (h : 0 ≤ a ∧ a ≤ 9) : p10 (9 + a) = 1000000000 * p10 a := by
  rcases (by omega : a = 0 ∨ a = 1 ∨ a = 2 ∨ a = 3 ∨ a = 4 ∨ a = 5 ∨ a = 6 ∨ a = 7 ∨ a = 8 ∨ a = 9) with rfl | rfl | rfl | rfl | rfl | rfl | rfl | rfl | rfl | rfl <;> decide
def nuL (u L : Int) : Int := (tenthsT.getD (L % 10).toNat 0 + if 0 < L % 10 then u else 0) * p10 (max (L / 10) 0)
def deL (L : Int) : Int := 1000000000 * p10 (max (-(L / 10)) 0)
theorem nu_range {u L : Int} (hu : 0 ≤ u ∧ u ≤ 1) (h : -90 ≤ L ∧ L ≤ 90) : 1 ≤ nuL u L ∧ nuL u L ≤ 8000000000000000000 := by
  have ht := tn_range (k := L % 10) (by omega)
  have hp := p10_nine (f := max (L / 10) 0) (by omega)
  have e : 1 ≤ tenthsT.getD (L % 10).toNat 0 + (if 0 < L % 10 then u else 0) ∧ tenthsT.getD (L % 10).toNat 0 + (if 0 < L % 10 then u else 0) ≤ 8000000000 := by split <;> omega
  unfold nuL
  have a := Int.mul_le_mul e.2 hp.2 (by omega) (by omega)
  have b := Int.mul_le_mul e.1 hp.1 (by omega) (by omega)
  omega
theorem de_range {L : Int} (h : -90 ≤ L ∧ L ≤ 90) : 1 ≤ deL L ∧ deL L ≤ 1000000000000000000 := by
  have hp := p10_nine (f := max (-(L / 10)) 0) (by omega)
  unfold deL
  omega
theorem triLe (x y : Int) : decide ((if x < y then (-1 : Int) else if y < x then 1 else 0) ≤ 0) = decide (x ≤ y) := by
  by_cases h1 : x < y
  · rw [if_pos h1, decide_eq_true (by omega), decide_eq_true (by omega)]
  · by_cases h2 : y < x
    · rw [if_neg h1, if_pos h2, decide_eq_false (by omega), decide_eq_false (by omega)]
    · rw [if_neg h1, if_neg h2, decide_eq_true (by omega), decide_eq_true (by omega)]
theorem triGe (x y : Int) : decide ((if x < y then (-1 : Int) else if y < x then 1 else 0) ≥ 0) = decide (y ≤ x) := by
  by_cases h1 : x < y
  · rw [if_pos h1, decide_eq_false (by omega), decide_eq_false (by omega)]
  · by_cases h2 : y < x
    · rw [if_neg h1, if_pos h2, decide_eq_true (by omega), decide_eq_true (by omega)]
    · rw [if_neg h1, if_neg h2, decide_eq_true (by omega), decide_eq_true (by omega)]
section
variable {num den L : Int}
theorem underG_eq (hn : 1 ≤ num ∧ num ≤ 10000000000000) (hd : 1 ≤ den ∧ den ≤ 10000000000000) (h : -90 ≤ L ∧ L ≤ 90) :
    G_ratio_under (IntKind.wrap IntKind.u64 num) (IntKind.wrap IntKind.u64 den) L = some (decide (nuL 1 L * den ≤ deL L * num)) := by
  have ht := tn_range (k := L % 10) (by omega)
  have e1 : IntKind.wrap IntKind.u64 num = num := by rw [u64m]; omega
  have e2 : IntKind.wrap IntKind.u64 den = den := by rw [u64m]; omega
  unfold G_ratio_under
  rw [split_eq (by omega), bind_some', wr64 (x := L + 900) (by omega), Int.tmod_eq_emod_of_nonneg (by omega), Int.tdiv_eq_ediv_of_nonneg (by omega), wr64 (x := (L + 900) / 10) (by omega), wr64 (by omega), e1, e2]
  rw [show (L + 900) % 10 = L % 10 by omega, show (L + 900) / 10 - 90 = L / 10 by omega]
  have hl : tenthsT.length = 10 := rfl
  rw [if_pos (by omega), if_pos (by rw [hl]; omega)]
  unfold nuL deL
  by_cases hk : L % 10 > 0
  · rw [if_pos hk, if_pos hk]
    have e3 : IntKind.wrap IntKind.u64 (tenthsT.getD (L % 10).toNat 0 + 1) = tenthsT.getD (L % 10).toNat 0 + 1 := by rw [u64m]; omega
    rw [e3, ratioG_eq hn hd (by omega) (by omega), bind_some', triLe]
  · rw [if_neg hk, if_neg hk, ratioG_eq hn hd (by omega) (by omega), bind_some', triLe, Int.add_zero]
theorem overG_eq (hn : 1 ≤ num ∧ num ≤ 10000000000000) (hd : 1 ≤ den ∧ den ≤ 10000000000000) (h : -90 ≤ L ∧ L ≤ 90) :
    G_ratio_over (IntKind.wrap IntKind.u64 num) (IntKind.wrap IntKind.u64 den) L = some (decide (deL L * num ≤ nuL 0 L * den)) := by
  have ht := tn_range (k := L % 10) (by omega)
  have e1 : IntKind.wrap IntKind.u64 num = num := by rw [u64m]; omega
  have e2 : IntKind.wrap IntKind.u64 den = den := by rw [u64m]; omega
  unfold G_ratio_over
  rw [split_eq (by omega), bind_some', wr64 (x := L + 900) (by omega), Int.tmod_eq_emod_of_nonneg (by omega), Int.tdiv_eq_ediv_of_nonneg (by omega), wr64 (x := (L + 900) / 10) (by omega), wr64 (by omega), e1, e2]
  rw [show (L + 900) % 10 = L % 10 by omega, show (L + 900) / 10 - 90 = L / 10 by omega]
  have hl : tenthsT.length = 10 := rfl
  rw [if_pos (by omega), if_pos (by rw [hl]; omega)]
  unfold nuL deL
  rw [ratioG_eq hn hd (by omega) (by omega), bind_some', triGe, show (if 0 < L % 10 then (0 : Int) else 0) = 0 by split <;> rfl, Int.add_zero]
theorem againstR_eq {u : Int} (hu : 0 ≤ u ∧ u ≤ 1) (hn : 1 ≤ num ∧ num ≤ 10000000000000) (hd : 1 ≤ den ∧ den ≤ 10000000000000) (h : -90 ≤ L ∧ L ≤ 90) :
    R05_against num den L u = some (cmpS num den (nuL u L) (deL L)) := by
  have ht := tn_range (k := L % 10) (by omega)
  have hnu := nu_range hu h
  have hde := de_range h
  unfold R05_against
  rw [modB_eq (by omega), bind_some', floor_eq (by omega) (by omega), bind_some', tenthsR_eq (by omega), bind_some']
  by_cases hk : L % 10 > 0
  · rw [if_pos hk]
    by_cases ha : L / 10 ≥ 0
    · have e1 : nuL u L = (tenthsT.getD (L % 10).toNat 0 + u) * p10 (L / 10) := by unfold nuL; rw [if_pos hk, show max (L / 10) 0 = L / 10 by omega]
      have e2 : deL L = 1000000000 := by unfold deL; rw [show max (-(L / 10)) 0 = 0 by omega]; rfl
      rw [if_pos ha, ten_eq (by omega), bind_some', wr64 (x := tenthsT.getD (L % 10).toNat 0 + u) (by omega), ← e1, wr64 (x := nuL u L) (by omega), compare_eq (by omega) (by omega) (by omega) (by omega) (by omega) (by omega) (by omega) (by omega), bind_some', e2]
    · have e1 : nuL u L = tenthsT.getD (L % 10).toNat 0 + u := by unfold nuL; rw [if_pos hk, show max (L / 10) 0 = 0 by omega]; exact Int.mul_one _
      have e2 : deL L = p10 (9 - L / 10) := by unfold deL; rw [show max (-(L / 10)) 0 = -(L / 10) by omega, ← p10_nineteen (by omega), Int.sub_eq_add_neg]
      rw [if_neg ha, wr64 (x := 9 - L / 10) (by omega), ten_eq (by omega), bind_some', wr64 (x := tenthsT.getD (L % 10).toNat 0 + u) (by omega), ← e1, ← e2, compare_eq (by omega) (by omega) (by omega) (by omega) (by omega) (by omega) (by omega) (by omega), bind_some']
  · rw [if_neg hk]
    by_cases ha : L / 10 ≥ 0
    · have e1 : nuL u L = tenthsT.getD (L % 10).toNat 0 * p10 (L / 10) := by unfold nuL; rw [if_neg hk, Int.add_zero, show max (L / 10) 0 = L / 10 by omega]
      have e2 : deL L = 1000000000 := by unfold deL; rw [show max (-(L / 10)) 0 = 0 by omega]; rfl
      rw [if_pos ha, ten_eq (by omega), bind_some', ← e1, wr64 (x := nuL u L) (by omega), compare_eq (by omega) (by omega) (by omega) (by omega) (by omega) (by omega) (by omega) (by omega), bind_some', e2]
    · have e1 : nuL u L = tenthsT.getD (L % 10).toNat 0 := by unfold nuL; rw [if_neg hk, Int.add_zero, show max (L / 10) 0 = 0 by omega]; exact Int.mul_one _
      have e2 : deL L = p10 (9 - L / 10) := by unfold deL; rw [show max (-(L / 10)) 0 = -(L / 10) by omega, ← p10_nineteen (by omega), Int.sub_eq_add_neg]
      rw [if_neg ha, wr64 (x := 9 - L / 10) (by omega), ten_eq (by omega), bind_some', ← e1, ← e2, compare_eq (by omega) (by omega) (by omega) (by omega) (by omega) (by omega) (by omega) (by omega), bind_some']
end
end Go.Sh
end

section
namespace Go.Sh
open Go Go.Proofs Go.RowKit Go.Sx Go.Sx06 Ieee Go.Fl
def tmE (time : Int) : Int := if 0 ≤ time ∧ time ≤ 1000000 then 0 else 2
theorem tm_zero {time : Int} (h : tmE time = 0) : 0 ≤ time ∧ time ≤ 1000000 := by
  unfold tmE at h
  by_cases h' : 0 ≤ time ∧ time ≤ 1000000
  · exact h'
  · rw [if_neg h'] at h; omega
def unI (num den : Int) : Option Nat := (List.range 181).findIdx? fun (i : Nat) => decide (nuL 1 (90 - (i : Int)) * den ≤ deL (90 - (i : Int)) * num)
def ovI (num den : Int) : Option Nat := (List.range 181).findIdx? fun (i : Nat) => decide (deL ((i : Int) - 90) * num ≤ nuL 0 ((i : Int) - 90) * den)
def lvS (num den : Int) : Int × Int × Int :=
  if ¬ (1 ≤ num ∧ num ≤ 10000000000000) then (0, 0, 2) else if ¬ (1 ≤ den ∧ den ≤ 10000000000000) then (0, 0, 2) else
  if den * 1000000000 < num then (0, 0, 8) else if num * 1000000000 < den then (0, 0, 8) else (90 - (((unI num den).getD 0 : Nat) : Int), (((ovI num den).getD 0 : Nat) : Int) - 90, 0)
theorem rg {i : Nat} (h : i < 181) : (List.range 181).getD i 0 = i := by simp [List.getD, h]
section
variable {num den : Int}
theorem un_ex (h : den ≤ num * 1000000000) : ∃ j : Nat, unI num den = some j ∧ j < 181 ∧ decide (nuL 1 (90 - (j : Int)) * den ≤ deL (90 - (j : Int)) * num) = true ∧ ∀ i : Nat, i < j → decide (nuL 1 (90 - (i : Int)) * den ≤ deL (90 - (i : Int)) * num) = false := by
  have hx : ∃ j, unI num den = some j ∧ j ≤ 180 := by
    refine idx_le (d := 0) (j := 180) (by simp) ?_
    rw [rg (by omega)]
    have e1 : nuL 1 (90 - ((180 : Nat) : Int)) = 1000000000 := by decide
    have e2 : deL (90 - ((180 : Nat) : Int)) = 1000000000000000000 := by decide
    rw [e1, e2]
    exact decide_eq_true (by omega)
  obtain ⟨j, hj, hle⟩ := hx
  obtain ⟨a, b, c⟩ := idx_some (d := 0) hj
  rw [rg (by omega)] at b
  refine ⟨j, hj, by omega, b, fun i hi => ?_⟩
  have := c i hi
  rw [rg (by omega)] at this
  exact this
theorem ov_ex (h : num ≤ den * 1000000000) : ∃ j : Nat, ovI num den = some j ∧ j < 181 ∧ decide (deL ((j : Int) - 90) * num ≤ nuL 0 ((j : Int) - 90) * den) = true ∧ ∀ i : Nat, i < j → decide (deL ((i : Int) - 90) * num ≤ nuL 0 ((i : Int) - 90) * den) = false := by
  have hx : ∃ j, ovI num den = some j ∧ j ≤ 180 := by
    refine idx_le (d := 0) (j := 180) (by simp) ?_
    rw [rg (by omega)]
    have e1 : nuL 0 (((180 : Nat) : Int) - 90) = 1000000000000000000 := by decide
    have e2 : deL (((180 : Nat) : Int) - 90) = 1000000000 := by decide
    rw [e1, e2]
    exact decide_eq_true (by omega)
  obtain ⟨j, hj, hle⟩ := hx
  obtain ⟨a, b, c⟩ := idx_some (d := 0) hj
  rw [rg (by omega)] at b
  refine ⟨j, hj, by omega, b, fun i hi => ?_⟩
  have := c i hi
  rw [rg (by omega)] at this
  exact this
theorem levelG_eq : G_LevelOf num den = some (lvS num den) := by
  unfold G_LevelOf lvS G_LevelOf_1
  rw [withinG_eq, bind_some', bind_some']
  by_cases hn : 1 ≤ num ∧ num ≤ 10000000000000
  · rw [nd_t hn, if_neg Bool.false_ne_true, if_neg (fun h => h hn), withinG_eq, bind_some', bind_some']
    by_cases hd : 1 ≤ den ∧ den ≤ 10000000000000
    · rw [nd_t hd, if_neg Bool.false_ne_true, if_neg (fun h => h hd)]
      have great : ∀ {a b : Int}, 1 ≤ a ∧ a ≤ 10000000000000 → 1 ≤ b ∧ b ≤ 10000000000000 → G_LevelOf_2 a b = some (decide (b * 1000000000 < a)) := by
        intro a b ha hb
        unfold G_LevelOf_2
        by_cases h : b ≤ 10000
        · rw [if_pos h, wr64 (by omega)]
        · rw [if_neg h, decide_eq_false (by omega)]
      rw [great hn hd, bind_some']
      by_cases g1 : den * 1000000000 < num
      · rw [decide_eq_true g1, if_pos rfl, if_pos g1]
      · rw [decide_eq_false g1, if_neg Bool.false_ne_true, if_neg g1, great hd hn, bind_some']
        by_cases g2 : num * 1000000000 < den
        · rw [decide_eq_true g2, if_pos rfl, if_pos g2]
        · rw [decide_eq_false g2, if_neg Bool.false_ne_true, if_neg g2]
          obtain ⟨j, hj, j1, j2, j3⟩ := un_ex (num := num) (den := den) (by omega)
          obtain ⟨k, hk, k1, k2, k3⟩ := ov_ex (num := num) (den := den) (by omega)
          have i1 : iter (G_LevelOf_b0 num den) big (90 : Int) = some (90 - (j : Int)) := by
            refine iter_upto (fun i => (90 : Int) - (i : Int)) (k := j) (fun i hi => ?_) ?_ (by omega)
            · unfold G_LevelOf_b0
              rw [underG_eq hn hd (by omega), bind_some', j3 i hi, if_pos (by decide), wr64 (by omega)]
              congr 2; omega
            · unfold G_LevelOf_b0
              rw [underG_eq hn hd (by omega), bind_some', j2, if_neg (by decide)]
          have i2 : iter (G_LevelOf_b1 num den) big (-90 : Int) = some ((k : Int) - 90) := by
            refine iter_upto (fun i => (i : Int) - 90) (k := k) (fun i hi => ?_) ?_ (by omega)
            · unfold G_LevelOf_b1
              rw [overG_eq hn hd (by omega), bind_some', k3 i hi, if_pos (by decide), wr64 (by omega)]
              congr 2; omega
            · unfold G_LevelOf_b1
              rw [overG_eq hn hd (by omega), bind_some', k2, if_neg (by decide)]
          rw [i1, bind_some']
          unfold G_LevelOf_r0
          rw [i2, bind_some', hj, hk]
          rfl
    · rw [nd_f hd, if_pos rfl, if_pos hd]
  · rw [nd_f hn, if_pos rfl, if_pos hn]
theorem levelR_eq : R05_LevelOf num den = some (lvS num den) := by
  unfold R05_LevelOf lvS
  rw [withinB_eq, bind_some']
  by_cases hn : 1 ≤ num ∧ num ≤ 10000000000000
  · rw [nd_t hn, if_neg Bool.false_ne_true, if_neg (fun h => h hn), withinB_eq, bind_some']
    by_cases hd : 1 ≤ den ∧ den ≤ 10000000000000
    · rw [nd_t hd, if_neg Bool.false_ne_true, if_neg (fun h => h hd)]
      rw [compare_eq (by omega) (by omega) (by omega) (by omega) (by omega) (by omega) (by omega) (by omega), bind_some']
      have c1 : cmpS num den 1000000000 1 > 0 ↔ den * 1000000000 < num := by unfold cmpS; split <;> (try split) <;> omega
      have c2 : cmpS num den 1 1000000000 < 0 ↔ num * 1000000000 < den := by unfold cmpS; split <;> (try split) <;> omega
      by_cases g1 : den * 1000000000 < num
      · rw [if_pos (c1.2 g1), if_pos g1]
      · rw [if_neg (fun h => g1 (c1.1 h)), if_neg g1, compare_eq (by omega) (by omega) (by omega) (by omega) (by omega) (by omega) (by omega) (by omega), bind_some']
        by_cases g2 : num * 1000000000 < den
        · rw [if_pos (c2.2 g2), if_pos g2]
        · rw [if_neg (fun h => g2 (c2.1 h)), if_neg g2]
          obtain ⟨j, hj, j1, j2, j3⟩ := un_ex (num := num) (den := den) (by omega)
          obtain ⟨k, hk, k1, k2, k3⟩ := ov_ex (num := num) (den := den) (by omega)
          have d1 : ∀ L : Int, cmpS num den (nuL 1 L) (deL L) < 0 ↔ ¬ nuL 1 L * den ≤ deL L * num := by
            intro L
            unfold cmpS
            rw [Int.mul_comm num (deL L)]
            split <;> (try split) <;> omega
          have d2 : ∀ L : Int, cmpS num den (nuL 0 L) (deL L) > 0 ↔ ¬ deL L * num ≤ nuL 0 L * den := by
            intro L
            unfold cmpS
            rw [Int.mul_comm num (deL L)]
            split <;> (try split) <;> omega
          have i1 : iter (R05_LevelOf_b0 num den) big (90 : Int) = some (90 - (j : Int)) := by
            refine iter_upto (fun i => (90 : Int) - (i : Int)) (k := j) (fun i hi => ?_) ?_ (by omega)
            · unfold R05_LevelOf_b0
              rw [againstR_eq (by omega) hn hd (by omega), bind_some', if_pos ((d1 _).2 (of_decide_eq_false (j3 i hi))), wr64 (by omega)]
              congr 2; omega
            · unfold R05_LevelOf_b0
              rw [againstR_eq (by omega) hn hd (by omega), bind_some', if_neg (fun h => (d1 _).1 h (of_decide_eq_true j2))]
          have i2 : iter (R05_LevelOf_b1 num den) big (-90 : Int) = some ((k : Int) - 90) := by
            refine iter_upto (fun i => (i : Int) - 90) (k := k) (fun i hi => ?_) ?_ (by omega)
            · unfold R05_LevelOf_b1
              rw [againstR_eq (by omega) hn hd (by omega), bind_some', if_pos ((d2 _).2 (of_decide_eq_false (k3 i hi))), wr64 (by omega)]
              congr 2; omega
            · unfold R05_LevelOf_b1
              rw [againstR_eq (by omega) hn hd (by omega), bind_some', if_neg (fun h => (d2 _).1 h (of_decide_eq_true k2))]
          rw [i1, bind_some']
          unfold R05_LevelOf_r0
          rw [i2, bind_some', hj, hk]
          rfl
    · rw [nd_f hd, if_pos rfl, if_pos hd]
  · rw [nd_f hn, if_pos rfl, if_pos hn]
end
def clS (rate : Int) (zs : List (List Int)) (T time : Int) : Int × Int × Int :=
  if cutN rate time zs.length = zs.length then (0, 0, 12) else
  if sLo (zs.take (cutN rate time zs.length)) = 0 then (0, 0, 11) else
  if sLo (zs.drop (cutN rate time zs.length)) = 0 then (0, 0, 11) else
  if (lvS (sLo (zs.take (cutN rate time zs.length))) (sHi (zs.drop (cutN rate time zs.length)) + T)).2.2 ≠ 0 then (0, 0, (lvS (sLo (zs.take (cutN rate time zs.length))) (sHi (zs.drop (cutN rate time zs.length)) + T)).2.2) else
  if (lvS (sHi (zs.take (cutN rate time zs.length))) (sLo (zs.drop (cutN rate time zs.length)))).2.2 ≠ 0 then (0, 0, (lvS (sHi (zs.take (cutN rate time zs.length))) (sLo (zs.drop (cutN rate time zs.length)))).2.2) else
  ((lvS (sLo (zs.take (cutN rate time zs.length))) (sHi (zs.drop (cutN rate time zs.length)) + T)).1, (lvS (sHi (zs.take (cutN rate time zs.length))) (sLo (zs.drop (cutN rate time zs.length)))).2.1, 0)
def clW (rate : Int) (l : List Nat) (noise tail time : Int) : Int × Int × Int :=
  if (askE rate l noise tail).2 ≠ 0 then (0, 0, (askE rate l noise tail).2) else if tmE time ≠ 0 then (0, 0, tmE time) else clS rate (zsO noise l) tail time
theorem dcG_eq {rate noise tail T time : Int} {l : List Nat} {zs : List (List Int)} (hz : ZOK zs T) (hr : 8000 ≤ rate ∧ rate ≤ 192000) (ht : 0 ≤ time ∧ time ≤ 1000000) :
    G_decay_clarity rate l noise tail zs (ssO zs T) time = some (clS rate zs T time) := by
  unfold G_decay_clarity clS
  rw [earlyG_eq hz.ok hz.len hr ht, bind_some', lateG_eq hr ht, bind_some', cutG_eq hr ht, bind_some']
  dsimp only
  by_cases h0 : cutN rate time zs.length = zs.length
  · rw [if_pos (show ((cutN rate time zs.length : Int) == (zs.length : Int)) = true by rw [h0]; simp), if_pos h0]
  · rw [if_neg (show ¬ ((cutN rate time zs.length : Int) == (zs.length : Int)) = true by simp; omega), if_neg h0]
    generalize sLo (zs.take (cutN rate time zs.length)) = el at *
    generalize sHi (zs.take (cutN rate time zs.length)) = eh at *
    generalize sLo (zs.drop (cutN rate time zs.length)) = ll at *
    generalize sHi (zs.drop (cutN rate time zs.length)) = lh at *
    by_cases h1 : el = 0
    · rw [if_pos (show (el == 0) = true by simpa using h1), if_pos h1]
    · rw [if_neg (show ¬ (el == 0) = true by simpa using h1), if_neg h1]
      by_cases h2 : ll = 0
      · rw [if_pos (show (ll == 0) = true by simpa using h2), if_pos h2]
      · rw [if_neg (show ¬ (ll == 0) = true by simpa using h2), if_neg h2, levelG_eq, bind_some', levelG_eq, bind_some', first_eq (by simp), bind_some', firE2]
        by_cases h3 : (lvS el (lh + T)).2.2 = 0
        · rw [if_neg (show ¬ (lvS el (lh + T)).2.2 ≠ 0 from fun h => h h3), if_neg (show ¬ (lvS el (lh + T)).2.2 ≠ 0 from fun h => h h3)]
          by_cases h4 : (lvS eh ll).2.2 = 0
          · rw [bne_f h4, if_neg Bool.false_ne_true, if_neg (show ¬ (lvS eh ll).2.2 ≠ 0 from fun h => h h4)]
          · rw [bne_t h4, if_pos rfl, if_pos (show (lvS eh ll).2.2 ≠ 0 from h4)]
        · rw [if_pos (show (lvS el (lh + T)).2.2 ≠ 0 from h3), bne_t h3, if_pos rfl, if_pos (show (lvS el (lh + T)).2.2 ≠ 0 from h3)]
theorem clarityG_eq (rate : Int) {l : List Nat} (noise tail time : Int) (hl : l.length < 1000000000000) : G_Clarity rate l noise tail time = some (clW rate l noise tail time) := by
  unfold G_Clarity clW
  rw [open_e rate noise tail hl]
  by_cases h : (askE rate l noise tail).2 = 0
  · obtain ⟨hz, hr, hs, hl2, _, _, _⟩ := ask_zok h
    rw [bne_f h, if_neg Bool.false_ne_true, open_good hl h, bind_some', if_neg (show ¬ (askE rate l noise tail).2 ≠ 0 from fun hh => hh h)]
    rw [timeErrG_eq, bind_some', show (if 0 ≤ time ∧ time ≤ 1000000 then (0 : Int) else 2) = tmE time from rfl, first_eq (by simp), bind_some', firE2, if_neg (show ¬ (0 : Int) ≠ 0 by simp)]
    by_cases ht : tmE time = 0
    · have ht' := tm_zero ht
      rw [bne_f ht, if_neg Bool.false_ne_true, if_neg (show ¬ tmE time ≠ 0 from fun hh => hh ht)]
      dsimp only
      rw [dcG_eq hz hr ht', bind_some']
    · rw [bne_t ht, if_pos rfl, if_pos (show tmE time ≠ 0 from ht)]
  · rw [bne_t h, if_pos rfl, open_bad hl h, bind_some', timeErrG_eq, bind_some', first_eq (by simp), bind_some', firE2]
    dsimp only
    rw [if_pos (show (askE rate l noise tail).2 ≠ 0 from h), bne_t h, if_pos rfl, if_pos (show (askE rate l noise tail).2 ≠ 0 from h)]
theorem clarityR_eq {rate noise tail time : Int} {l : List Nat} (h : (askE rate l noise tail).2 = 0) (ht : tmE time = 0) : R05_Clarity rate l noise tail time = some (clS rate (zsO noise l) tail time) := by
  obtain ⟨hz, hr, hs, hl2, hn, htl, _⟩ := ask_zok h
  have ht' := tm_zero ht
  have hna := nAt_range hr ht'
  unfold R05_Clarity clS
  rw [sampleAtR_eq hr ht', bind_some', partsR_eq hs hl2 hn htl hr ht', bind_some', zsO_len]
  dsimp only
  by_cases h0 : cutN rate time l.length = l.length
  · rw [if_pos (show nAt rate time ≥ (l.length : Int) by unfold cutN at h0; omega), if_pos h0]
  · rw [if_neg (show ¬ nAt rate time ≥ (l.length : Int) by unfold cutN at h0; omega), if_neg h0]
    generalize sLo ((zsO noise l).take (cutN rate time l.length)) = el at *
    generalize sHi ((zsO noise l).take (cutN rate time l.length)) = eh at *
    generalize sLo ((zsO noise l).drop (cutN rate time l.length)) = ll at *
    generalize sHi ((zsO noise l).drop (cutN rate time l.length)) = lh at *
    by_cases h1 : el = 0
    · rw [if_pos (show (el == 0) = true by simpa using h1), if_pos h1]
    · rw [if_neg (show ¬ (el == 0) = true by simpa using h1), if_neg h1]
      by_cases h2 : ll = 0
      · rw [if_pos (show (ll == 0) = true by simpa using h2), if_pos h2]
      · rw [if_neg (show ¬ (ll == 0) = true by simpa using h2), if_neg h2, levelR_eq, bind_some']
        by_cases h3 : (lvS el (lh + tail)).2.2 = 0
        · rw [bne_f h3, if_neg Bool.false_ne_true, if_neg (show ¬ (lvS el (lh + tail)).2.2 ≠ 0 from fun h => h h3), levelR_eq, bind_some']
          by_cases h4 : (lvS eh ll).2.2 = 0
          · rw [bne_f h4, if_neg Bool.false_ne_true, if_neg (show ¬ (lvS eh ll).2.2 ≠ 0 from fun h => h h4)]
          · rw [bne_t h4, if_pos rfl, if_pos (show (lvS eh ll).2.2 ≠ 0 from h4)]
        · rw [bne_t h3, if_pos rfl, if_pos (show (lvS el (lh + tail)).2.2 ≠ 0 from h3)]
theorem figureClarity_true (rate : Int) {l : List Nat} (noise tail time : Int) : L05_FigureClarity rate l noise tail time = some true := by
  unfold L05_FigureClarity
  rw [few_eq, bind_some']
  by_cases hf : fewB l = false
  · rw [hf]; rfl
  have hf : fewB l = true := by simpa using hf
  have hl : l.length < 1000000000000 := few_len hf
  rw [hf, if_neg (by decide)]
  simp only [copyR_eq rate noise tail hl, bind_some', clarityG_eq rate noise tail time hl, askErr_eq rate noise tail hl, timeErrR_eq]
  rw [show (if 0 ≤ time ∧ time ≤ 1000000 then (0 : Int) else 2) = tmE time from rfl]
  unfold clW
  by_cases h1 : (askE rate l noise tail).2 = 0
  · by_cases ht : tmE time = 0
    · rw [clarityR_eq h1 ht]
      simp only [h1, ht, ne_eq, not_true_eq_false, beq_self_eq_true, if_true, if_false, bind_some', Bool.and_self]
    · simp only [h1, ht, ne_eq, not_true_eq_false, not_false_eq_true, beq_f ht, beq_self_eq_true, if_true, if_false, Bool.false_eq_true, Bool.and_self]
  · simp only [h1, ne_eq, not_false_eq_true, beq_f h1, beq_self_eq_true, if_true, if_false, Bool.false_eq_true, Bool.and_self]
end Go.Sh
end

section
namespace Go.Sx
set_option linter.unusedVariables false
open Go.RowKit Go.ChangeShapes Go.WideShapes
inductive K where
  | i (k : IntKind) | b | f (k : FloatKind) | s
def K.fits : K → D → Prop
  | .i k, .i k' n => k' = k ∧ (Lit.int k n).wf = true
  | .b, .b _ => True
  | .f k, .f k' n => k' = k ∧ (Lit.float k n).wf = true
  | .s, .s x => x.size ≤ maxLen
  | _, _ => False
def fitsAll : List K → List D → Prop
  | [], [] => True
  | k :: ks, d :: ds => k.fits d ∧ fitsAll ks ds
  | _, _ => False
theorem fitsAll_append : ∀ {ks : List K} {ds : List D} {ks' : List K} {ds' : List D}, fitsAll ks ds → fitsAll ks' ds' → fitsAll (ks ++ ks') (ds ++ ds')
  | [], [], _, _, _, h => h
  | _ :: _, _ :: _, _, _, h, h' => ⟨h.1, fitsAll_append h.2 h'⟩
  | [], _ :: _, _, _, h, _ => h.elim
  | _ :: _, [], _, _, h, _ => h.elim
theorem fitsAll_length : ∀ {ks : List K} {ds : List D}, fitsAll ks ds → ds.length = ks.length
  | [], [], _ => rfl
  | _ :: _, _ :: _, h => by simp [fitsAll_length h.2]
  | [], _ :: _, h => h.elim
  | _ :: _, [], h => h.elim
def kindsOf (g : TypeId → Option (List K)) (P : Program) : Nat → List Field → Option (List K)
  | _, [] => some []
  | n, f :: fs => match g f.type with
    | none => none
    | some ks => if f.offset = n ∧ P.cellsOf f.type = ks.length then (kindsOf g P (n + ks.length) fs).map (ks ++ ·) else none
def kinds (P : Program) : Nat → TypeId → Option (List K)
  | 0, _ => none
  | d + 1, t => match P.underlying t with
    | some .bool => some [.b]
    | some (.int k) => some [.i k]
    | some (.float k) => some [.f k]
    | some .string => some [.s]
    | some (.struct fs) => match kindsOf (kinds P d) P 0 fs.toList with
      | some ks => if P.cellsOf t = ks.length then some ks else none
      | none => none
    | some (.array n e) => match kinds P d e with
      | some ks => if P.cellsOf t = n * ks.length ∧ P.cellsOf e = ks.length then some (List.replicate n ks).flatten else none
      | none => none
    | _ => none
section
variable {H : Type} {enc : TypeId × Value → H} {P : Program} {w : World} {base : Nat} {spare : Nat → Bool} {held : Bool}
theorem array_cells {ks : List K} {e : TypeId} {m : Nat} (ih : ∀ cs x, DataW.trod enc P w base spare held m e cs = some x → ∃ ds : List D, cs = ds.map D.val ∧ fitsAll ks ds) :
    ∀ (n : Nat) (cs : List Value), cs.length = n * ks.length → (∀ i, i < n → ∃ x, DataW.trod enc P w base spare held m e ((cs.drop (i * ks.length)).take ks.length) = some x) → ∃ ds : List D, cs = ds.map D.val ∧ fitsAll (List.replicate n ks).flatten ds
  | 0, cs, hl, _ => ⟨[], by simpa using hl, trivial⟩
  | n + 1, cs, hl, h => by
    obtain ⟨x, hx⟩ := h 0 (by omega)
    obtain ⟨ds0, h0, h1⟩ := ih _ x hx
    obtain ⟨ds1, h2, h3⟩ := array_cells ih n (cs.drop ks.length) (by rw [List.length_drop, hl, Nat.add_mul]; omega) (fun i hi => by
      obtain ⟨y, hy⟩ := h (i + 1) (by omega)
      refine ⟨y, ?_⟩
      rw [List.drop_drop]
      rw [show ks.length + i * ks.length = (i + 1) * ks.length by rw [Nat.add_mul]; omega]
      exact hy)
    refine ⟨ds0 ++ ds1, ?_, fitsAll_append h1 h3⟩
    rw [List.map_append, ← h0, ← h2]
    simp
theorem struct_cells {g : TypeId → Option (List K)} {m : Nat} (ih : ∀ t ks cs x, g t = some ks → DataW.trod enc P w base spare held m t cs = some x → ∃ ds : List D, cs = ds.map D.val ∧ fitsAll ks ds) :
    ∀ (fs : List Field) (n : Nat) (ks : List K) (cs : List Value), kindsOf g P n fs = some ks → cs.length = n + ks.length → (∀ f ∈ fs, ∃ x, DataW.trod enc P w base spare held m f.type ((cs.drop f.offset).take (P.cellsOf f.type)) = some x) →
      ∃ ds : List D, cs.drop n = ds.map D.val ∧ fitsAll ks ds
  | [], n, ks, cs, hk, hl, _ => by
    simp only [kindsOf, Option.some.injEq] at hk
    subst hk
    refine ⟨[], ?_, trivial⟩
    simp at hl
    simp [hl]
  | f :: fs, n, ks, cs, hk, hl, h => by
    simp only [kindsOf] at hk
    split at hk
    · cases hk
    · rename_i kf hg
      split at hk
      · rename_i hc
        cases hr : kindsOf g P (n + kf.length) fs with
        | none => simp [hr] at hk
        | some kr =>
          simp only [hr, Option.map_some, Option.some.injEq] at hk
          subst hk
          obtain ⟨x, hx⟩ := h f List.mem_cons_self
          rw [hc.1, hc.2] at hx
          obtain ⟨ds0, h0, h1⟩ := ih f.type kf _ x hg hx
          obtain ⟨ds1, h2, h3⟩ := struct_cells ih fs (n + kf.length) kr cs hr (by rw [hl, List.length_append]; omega) (fun f' hf' => h f' (List.mem_cons_of_mem _ hf'))
          refine ⟨ds0 ++ ds1, ?_, fitsAll_append h1 h3⟩
          rw [List.map_append, ← h0, ← h2, ← List.drop_drop]
          exact (List.take_append_drop _ _).symm
      · cases hk
theorem trod_cells : ∀ (d : Nat) (t : TypeId) (ks : List K) (fuel : Nat) (cs : List Value) (x : DataW H × List MemPlace), kinds P d t = some ks → DataW.trod enc P w base spare held fuel t cs = some x →
    ∃ ds : List D, cs = ds.map D.val ∧ fitsAll ks ds
  | 0, _, _, _, _, _, h, _ => by cases h
  | d + 1, t, ks, fuel, cs, x, hk, hx => by
    unfold kinds at hk
    split at hk
    · rename_i ht
      cases hk
      obtain ⟨b, rfl, _⟩ := DataW.trod_bool ht hx
      exact ⟨[.b b], rfl, trivial, trivial⟩
    · rename_i k ht
      cases hk
      obtain ⟨n, rfl, _, hw⟩ := DataW.trod_int ht hx
      exact ⟨[.i k n], rfl, ⟨rfl, hw⟩, trivial⟩
    · rename_i k ht
      cases hk
      cases fuel with
      | zero => simp [DataW.trod] at hx
      | succ n =>
        rcases cs with _ | ⟨v, _ | ⟨v', r⟩⟩
        · simp [DataW.trod, ht] at hx
        · cases v with
          | float k2 n2 =>
            simp only [DataW.trod, ht] at hx
            split at hx
            · rename_i hh
              exact ⟨[.f k2 n2], rfl, ⟨hh.1, hh.2⟩, trivial⟩
            · cases hx
          | _ => simp [DataW.trod, ht] at hx
        · simp [DataW.trod, ht] at hx
    · rename_i ht
      cases hk
      obtain ⟨z, rfl, _, hw⟩ := DataW.trod_string ht hx
      exact ⟨[.s z], rfl, hw, trivial⟩
    · rename_i fs ht
      split at hk
      · rename_i ks' hks
        split at hk
        · rename_i hc
          cases hk
          obtain ⟨xs, n, rfl, _, hl, hxl, hf⟩ := DataW.trod_struct ht hx
          have := struct_cells (enc := enc) (w := w) (base := base) (spare := spare) (held := held) (g := kinds P d) (m := n) (fun t ks cs x h1 h2 => trod_cells d t ks n cs x h1 h2) fs.toList 0 ks cs hks (by rw [hl, hc]; omega) (fun f hfm => by
            obtain ⟨i, hi, hfi⟩ := List.mem_iff_getElem.1 hfm
            have hi' : i < fs.size := by simpa using hi
            have h1 := hf i f (by rw [Array.getElem?_eq_getElem hi']; simpa using hfi)
            exact ⟨xs[i]'(by omega), by rw [h1, List.getElem?_eq_getElem]⟩)
          simpa using this
        · cases hk
      · cases hk
    · rename_i n e ht
      split at hk
      · rename_i ks' hks
        split at hk
        · rename_i hc
          cases hk
          obtain ⟨xs, m, rfl, _, hl, hxl, hf⟩ := DataW.trod_array ht hx
          exact array_cells (fun cs x h => trod_cells d e ks' m cs x hks h) n cs (by rw [hl, hc.1]) (fun i hi => by
            have h1 := hf i hi
            rw [hc.2] at h1
            exact ⟨xs[i]'(by omega), by rw [h1, List.getElem?_eq_getElem]⟩)
        · cases hk
      · cases hk
    · cases hk
theorem trod_rows {t e : TypeId} {ks : List K} {d fuel : Nat} {cs : List Value} {x : DataW H × List MemPlace} (ht : P.underlying t = some (.slice e)) (hk : kinds P d e = some ks) (hc : P.cellsOf e = ks.length) (h0 : 0 < ks.length)
    (hx : DataW.trod enc P w base spare held fuel t cs = some x) :
    ∃ (v : Value) (rows : List (List D)), cs = [v] ∧ (∀ r ∈ rows, fitsAll ks r) ∧ IsRow w v (.lits ks.length rows) ∧ (x.1 = .nil ∧ rows = [] ∨ ∃ el sp, x.1 = .slice el sp ∧ el.length = rows.length) := by
  rcases DataW.trod_slice ht hx with ⟨rfl, rfl⟩ | ⟨a, len, cap, elems, rest, n, rfl, rfl, rfl, hb, hl, hm, hel, hi, _, _⟩
  · exact ⟨_, [], rfl, (fun _ h => by cases h), ⟨none, 0, rfl, ⟨by simp [Cont.n], fun _ => rfl⟩, fun h => absurd h (by simp [Cont.n])⟩, .inl ⟨rfl, rfl⟩⟩
  · -- each element's cells
    have hget : ∀ i, i < len → ∃ ds : List D, fitsAll ks ds ∧ ∀ j, j < ks.length → w.cell? ((a.add (i * ks.length)).add j) = (ds[j]?).map D.val := fun i hil => by
      have h1 := hi i hil
      rw [hc] at h1
      have h2 : elems[i]? = some (elems[i]'(by omega)) := List.getElem?_eq_getElem (by omega)
      rw [h2] at h1
      obtain ⟨cs', hcs, htr⟩ := Option.bind_eq_some_iff.1 h1
      obtain ⟨ds, hds, hfit⟩ := trod_cells d e ks n cs' _ hk htr
      obtain ⟨_, hcl, hat⟩ := World.cells?_some hcs
      refine ⟨ds, hfit, fun j hj => ?_⟩
      rw [hat j hj, hds, List.getElem?_map]
    let R : Nat → List D := fun i => if h : i < len then Classical.choose (hget i h) else []
    have hR : ∀ i (h : i < len), fitsAll ks (R i) ∧ ∀ j, j < ks.length → w.cell? ((a.add (i * ks.length)).add j) = ((R i)[j]?).map D.val := fun i h => by
      show fitsAll ks (if h : i < len then _ else _) ∧ _
      simp only [R, dif_pos h]
      exact Classical.choose_spec (hget i h)
    refine ⟨_, (List.range len).map R, rfl, fun r hr => ?_, ?_, .inr ⟨_, _, rfl, by simp [hel]⟩⟩
    · obtain ⟨i, hi', rfl⟩ := List.mem_map.1 hr
      exact (hR i (by simpa using hi')).1
    · refine ⟨some a, cap, by simp [Cont.n], ⟨by simpa [Cont.n] using hl, fun h => by cases h⟩, fun hn => ?_⟩
      have hn : 0 < len := by simpa [Cont.n] using hn
      have hsp : a.spot = none := by
        have h1 := (hR 0 hn).2 0 h0
        have hfl := fitsAll_length (hR 0 hn).1
        rw [List.getElem?_eq_getElem (by omega)] at h1
        simp [Addr.add] at h1
        cases hs : a.spot with
        | none => rfl
        | some s =>
          exfalso
          unfold World.cell? at h1
          simp only [hs] at h1
          split at h1
          · simp at h1
          · cases h1
      obtain ⟨b, off, sp⟩ := a
      simp only at hsp
      subst hsp
      refine ⟨b, off, rfl, fun j y hj => ?_⟩
      have hne : 0 < ks.length := h0
      have hjl : j < (Cont.lits ks.length ((List.range len).map R)).flat.length := (List.getElem?_eq_some_iff.1 hj).1
      rw [Cont.flat_length] at hjl
      simp only [Cont.n, Cont.e, List.length_map, List.length_range] at hjl
      have hq : j / ks.length < len := Nat.div_lt_of_lt_mul (by rw [Nat.mul_comm]; exact hjl)
      have hr : j % ks.length < ks.length := Nat.mod_lt _ hne
      have hg := Cont.flat_get (.lits ks.length ((List.range len).map R)) (i := j / ks.length) (j := j % ks.length) (by simpa [Cont.n] using hq) hr
      have ej : j / ks.length * ks.length + j % ks.length = j := by rw [Nat.mul_comm]; exact Nat.div_add_mod j _
      simp only [Cont.e] at hg
      rw [ej, hj] at hg
      have hcell := (hR (j / ks.length) hq).2 (j % ks.length) hr
      have hfl := fitsAll_length (hR (j / ks.length) hq).1
      rw [add_at, add_at, Nat.add_assoc, ej, List.getElem?_eq_getElem (by omega)] at hcell
      rw [hcell]
      simp only [Option.some.injEq] at hg
      simp [hg, Cont.cell, List.getD, hq, List.getElem?_eq_getElem (show j % ks.length < (R (j / ks.length)).length by omega)]
theorem isRow_of {v : Value} {c c' : Cont} (h : IsRow w v c) (hn : c'.n = c.n) (hf : c'.flat = c.flat) : IsRow w v c' := by
  obtain ⟨a, cap, hv, hc, hcell⟩ := h
  exact ⟨a, cap, by rw [hn]; exact hv, by rw [hn]; exact hc, fun h => by
    obtain ⟨b, off, e, hx⟩ := hcell (by rw [← hn]; exact h)
    exact ⟨b, off, e, by rw [hf]; exact hx⟩⟩
end
inductive ArgIs (w : World) : Value → A → Prop where
  | d (x : D) : ArgIs w x.val (.d x)
  | s (l : List D) : ArgIs w (.agg (l.map D.val).toArray) (.s l)
  | r (v : Value) (c : Cont) (he : 0 < c.e) (h : IsRow w v c) : ArgIs w v (.r c)
section
variable [Globs] {P : Program} {w : World}
end
section
variable {H : Type} {enc : TypeId × Value → H} {P : Program}
theorem trod_all {sp : Nat → Bool} (hl : laidOutB P = true) {W W' : World} (hb : Below W.heap.size W W') : ∀ (ts : List TypeId) (vs : List Value) (ds : List (DataW H)) (ps : List MemPlace), (∀ t ∈ ts, P.readableRec t = true ∧ t < P.types.size) →
    DataW.TrodAll enc P W 0 (fun _ => true) true ts vs ds ps → (∀ p ∈ ps, p.block < W.heap.size) → (∀ p ∈ ps, sp p.block = true) → DataW.TrodAll enc P W' 0 sp true ts vs ds ps
  | [], [], [], _, _, h, _, _ => h
  | t :: ts, v :: vs, d :: ds, ps, ht, h, hlt, hs => by
    obtain ⟨p, q, h1, h2, rfl⟩ := h
    have htt := ht t List.mem_cons_self
    exact ⟨p, q, WideElems.Trod_stays hl htt.1 htt.2 h1 (fun x hx => hb.same (hlt x (List.mem_append_left _ hx))) (fun x hx => hs x (List.mem_append_left _ hx)),
      trod_all hl hb ts vs ds q (fun t ht' => ht t (List.mem_cons_of_mem _ ht')) h2 (fun x hx => hlt x (List.mem_append_right _ hx)) (fun x hx => hs x (List.mem_append_right _ hx)), rfl⟩
  | [], _ :: _, _, _, _, h, _, _ => h.elim
  | _ :: _, [], _, _, _, h, _, _ => h.elim
  | [], [], _ :: _, _, _, h, _, _ => h.elim
  | _ :: _, _ :: _, [], _, _, h, _, _ => h.elim
theorem law_post {f : Func} {s : ChangeSpec} {apart fresh handsOn again : Bool} {W W' : World} {args : Array Value} {ds gs : List (DataW H)} {before : List MemPlace} {tb : TypeId} (hvars : s.vars = []) (hrt : f.resultTypes = #[tb]) (htb : P.underlying tb = some .bool)
    (hres : (s.fn H (ds ++ gs)).results = [.lit (.bool true)]) (hargs : (s.fn H (ds ++ gs)).args = ds) (hsv : (s.fn H (ds ++ gs)).vars = []) (hl : laidOutB P = true) (hread : ∀ t ∈ f.params.toList, P.readableRec t = true ∧ t < P.types.size)
    (hW : DataW.Whole enc P f.params.toList s.vars apart W args.toList ds gs before) (hb : Below W.heap.size W W') : s.post enc P f apart fresh handsOn again W args (.bool true) W' := by
  have hlt : ∀ p ∈ before, p.block < W.heap.size := fun p hp => hW.lt p hp
  have hW' := hW
  obtain ⟨p, q, h1, h2, rfl, hfz, hnd⟩ := hW'
  rw [hvars] at h2
  have hq : q = [] := by
    cases gs with
    | nil => exact h2
    | cons _ _ => exact h2.elim
  subst hq
  rw [List.append_nil] at hlt hfz hnd
  have hA : ∀ sp : Nat → Bool, (∀ x ∈ p, sp x.block = true) → DataW.TrodAll enc P W' 0 sp true f.params.toList args.toList ds p := fun sp hs => trod_all hl hb _ _ _ _ hread h1 hlt hs
  have hR : ∀ (b : Nat) (sp : Nat → Bool) (hd : Bool), DataW.TrodAll enc P W' b sp hd [tb] [.bool true] [.lit (.bool true)] [] := fun b sp hd => ⟨[], [], ⟨1, by simp [DataW.trod, htb, Value.cells]⟩, rfl, rfl⟩
  have hrl : (Value.bool true).resultList f.resultTypes.size = [.bool true] := by rw [hrt]; rfl
  have hrt' : f.resultTypes.toList = [tb] := by rw [hrt]
  refine ⟨ds, gs, p ++ [], [], p, [], hW, ?_, ?_, ?_, World.keptBut_mono (fun x hx => ⟨hx, .inr (.inl (by simpa using hx))⟩) (hb.frame (· ∈ p ++ [])), fun _ => ⟨fun j t r hj hr => ?_, ?_⟩⟩
  · rw [hrl, hrt', hres]; exact hR _ _ _
  · rw [hargs]; exact hA _ (fun x hx => by simpa using hlt x hx)
  · rw [hvars, hsv]; rfl
  · rw [hrt] at hj
    rw [hrl] at hr
    cases j with
    | zero =>
      simp at hj hr
      subst hj; subst hr
      exact okWide_bool_mk htb _
    | succ j => simp at hj
  · refine ⟨[.lit (.bool true)] ++ ds, [], p, ⟨p, [], ?_, by rw [hvars]; rfl, by simp, ?_, ?_⟩, fun x hx _ => by simpa using hx⟩
    · rw [hrl, hrt']
      exact ⟨[], p, ⟨1, by simp [DataW.trod, htb, Value.cells]⟩, hA _ (fun _ _ => rfl), rfl⟩
    · intro b off hp
      rw [hb.frozen (hlt _ hp)]
      exact hfz b off hp
    · exact hnd
end
section
variable {H : Type} {enc : TypeId × Value → H} {P : Program} {w : World} {base : Nat} {spare : Nat → Bool} {held : Bool} {r : Reach} {b0 : Nat}
theorem arg_int {t : TypeId} {v : Value} {x : DataW H} {p : List MemPlace} (ht : P.underlying t = some (.int .i64)) (hval : Value.okWide P w r b0 t v) (h : DataW.Trod enc P w base spare held t v x p) :
    ∃ n : Int, ArgIs w v (.d (.i .i64 n)) ∧ inI n := by
  obtain ⟨n, rfl, _, _, hw⟩ := open_int ht hval h
  refine ⟨n, .d (.i .i64 n), ?_⟩
  unfold inI
  simpa [Lit.wf, IntKind.min, IntKind.max, IntKind.signed, IntKind.bits] using hw
end
end Go.Sx
end

section
namespace Go.Sx
set_option linter.unusedVariables false
open Go.RowKit Go.ChangeShapes Go.WideShapes
inductive K2 where
  | d (k : K)
  | s (ks : List K)
inductive T1 where
  | d (x : D)
  | r (c : Cont)
inductive Cell2 (w : World) : K2 → Value → T1 → Prop where
  | d (k : K) (x : D) (h : k.fits x) : Cell2 w (.d k) x.val (.d x)
  | s (ks : List K) (v : Value) (rows : List (List D)) (h0 : 0 < ks.length) (h : ∀ r ∈ rows, fitsAll ks r) (hr : IsRow w v (.lits ks.length rows)) : Cell2 w (.s ks) v (.r (.lits ks.length rows))
inductive Cells2 (w : World) : List K2 → List Value → List T1 → Prop where
  | nil : Cells2 w [] [] []
  | cons {k : K2} {v : Value} {t : T1} {ks : List K2} {vs : List Value} {ts : List T1} (h : Cell2 w k v t) (r : Cells2 w ks vs ts) : Cells2 w (k :: ks) (v :: vs) (t :: ts)
theorem Cells2.append {w : World} {ks ks' : List K2} {vs vs' : List Value} {ts ts' : List T1} (h : Cells2 w ks vs ts) (h' : Cells2 w ks' vs' ts') : Cells2 w (ks ++ ks') (vs ++ vs') (ts ++ ts') := by
  induction h with
  | nil => exact h'
  | cons h r ih => exact .cons h ih
def kinds2Of (g : TypeId → Option (List K2)) (P : Program) : Nat → List Field → Option (List K2)
  | _, [] => some []
  | n, f :: fs => match g f.type with
    | none => none
    | some ks => if f.offset = n ∧ P.cellsOf f.type = ks.length then (kinds2Of g P (n + ks.length) fs).map (ks ++ ·) else none
def kinds2 (P : Program) : Nat → TypeId → Option (List K2)
  | 0, _ => none
  | d + 1, t => match kinds P d t with
    | some ks => some (ks.map .d)
    | none => match P.underlying t with
      | some (.slice e) => match kinds P d e with
        | some (k :: ks) => if P.cellsOf e = ks.length + 1 then some [.s (k :: ks)] else none
        | _ => none
      | some (.struct fs) => match kinds2Of (kinds2 P d) P 0 fs.toList with
        | some ks => if P.cellsOf t = ks.length then some ks else none
        | none => none
      | _ => none
section
variable {H : Type} {enc : TypeId × Value → H} {P : Program} {w : World} {base : Nat} {spare : Nat → Bool} {held : Bool}
theorem cells2_d {ks : List K} {ds : List D} (h : fitsAll ks ds) : Cells2 w (ks.map .d) (ds.map D.val) (ds.map .d) := by
  induction ks generalizing ds with
  | nil => cases ds with
    | nil => exact .nil
    | cons _ _ => exact h.elim
  | cons k ks ih => cases ds with
    | nil => exact h.elim
    | cons d ds => exact .cons (.d k d h.1) (ih h.2)
theorem struct_cells2 {g : TypeId → Option (List K2)} {m : Nat} (ih : ∀ t ks cs x, g t = some ks → DataW.trod enc P w base spare held m t cs = some x → ∃ ts, Cells2 w ks cs ts) :
    ∀ (fs : List Field) (n : Nat) (ks : List K2) (cs : List Value), kinds2Of g P n fs = some ks → cs.length = n + ks.length → (∀ f ∈ fs, ∃ x, DataW.trod enc P w base spare held m f.type ((cs.drop f.offset).take (P.cellsOf f.type)) = some x) →
      ∃ ts, Cells2 w ks (cs.drop n) ts
  | [], n, ks, cs, hk, hl, _ => by
    simp only [kinds2Of, Option.some.injEq] at hk
    subst hk
    refine ⟨[], ?_⟩
    simp at hl
    rw [List.drop_eq_nil_of_le (by omega)]
    exact .nil
  | f :: fs, n, ks, cs, hk, hl, h => by
    simp only [kinds2Of] at hk
    split at hk
    · cases hk
    · rename_i kf hg
      split at hk
      · rename_i hc
        cases hr : kinds2Of g P (n + kf.length) fs with
        | none => simp [hr] at hk
        | some kr =>
          simp only [hr, Option.map_some, Option.some.injEq] at hk
          subst hk
          obtain ⟨x, hx⟩ := h f List.mem_cons_self
          rw [hc.1, hc.2] at hx
          obtain ⟨ts0, h0⟩ := ih f.type kf _ x hg hx
          obtain ⟨ts1, h1⟩ := struct_cells2 ih fs (n + kf.length) kr cs hr (by rw [hl, List.length_append]; omega) (fun f' hf' => h f' (List.mem_cons_of_mem _ hf'))
          refine ⟨ts0 ++ ts1, ?_⟩
          have e : cs.drop n = (cs.drop n).take kf.length ++ cs.drop (n + kf.length) := by rw [← List.drop_drop]; exact (List.take_append_drop _ _).symm
          rw [e]
          exact h0.append h1
      · cases hk
theorem trod_cells2 : ∀ (d : Nat) (t : TypeId) (ks : List K2) (fuel : Nat) (cs : List Value) (x : DataW H × List MemPlace), kinds2 P d t = some ks → DataW.trod enc P w base spare held fuel t cs = some x → ∃ ts, Cells2 w ks cs ts
  | 0, _, _, _, _, _, h, _ => by cases h
  | d + 1, t, ks, fuel, cs, x, hk, hx => by
    unfold kinds2 at hk
    split at hk
    · rename_i ks' hks
      cases hk
      obtain ⟨ds, rfl, h2⟩ := trod_cells d t ks' fuel cs x hks hx
      exact ⟨_, cells2_d h2⟩
    · split at hk
      · rename_i e ht
        split at hk
        · rename_i k ks' hks
          split at hk
          · rename_i hc
            cases hk
            obtain ⟨v, rows, rfl, h2, h3, _⟩ := trod_rows ht hks (by simpa using hc) (by simp) hx
            exact ⟨_, .cons (.s _ v rows (by simp) h2 h3) .nil⟩
          · cases hk
        · cases hk
      · rename_i fs ht
        split at hk
        · rename_i ks' hks
          split at hk
          · rename_i hc
            cases hk
            obtain ⟨xs, n, rfl, _, hl, hxl, hf⟩ := DataW.trod_struct ht hx
            have := struct_cells2 (enc := enc) (w := w) (base := base) (spare := spare) (held := held) (g := kinds2 P d) (m := n) (fun t ks cs x h1 h2 => trod_cells2 d t ks n cs x h1 h2) fs.toList 0 ks cs hks (by rw [hl, hc]; omega) (fun f hfm => by
              obtain ⟨i, hi, hfi⟩ := List.mem_iff_getElem.1 hfm
              have hi' : i < fs.size := by simpa using hi
              have h1 := hf i f (by rw [Array.getElem?_eq_getElem hi']; simpa using hfi)
              exact ⟨xs[i]'(by omega), by rw [h1, List.getElem?_eq_getElem]⟩)
            simpa using this
          · cases hk
        · cases hk
      · cases hk
end
inductive T1Is (w : World) : Value → T1 → Prop where
  | d (x : D) : T1Is w x.val (.d x)
  | r (v : Value) (c : Cont) (he : 0 < c.e) (h : IsRow w v c) : T1Is w v (.r c)
theorem cell_int {w : World} {v : Value} {t : T1} (h : Cell2 w (.d (.i .i64)) v t) : ∃ n : Int, T1Is w v (.d (.i .i64 n)) ∧ inI n := by
  cases h with
  | d k x h =>
    cases x with
    | i k n =>
      obtain ⟨rfl, hw⟩ := h
      exact ⟨n, .d _, by unfold inI; simpa [Lit.wf, IntKind.min, IntKind.max, IntKind.signed, IntKind.bits] using hw⟩
    | _ => exact h.elim
theorem flts_of {k : FloatKind} {r : List D} (h : fitsAll [.f k] r) : ∃ n : Nat, r = [.f k n] ∧ (Lit.float k n).wf = true := by
  match r, h with
  | [.f k' n], h => obtain ⟨⟨rfl, hw⟩, _⟩ := h; exact ⟨n, rfl, hw⟩
theorem cell_flts {w : World} {k : FloatKind} {v : Value} {t : T1} (h : Cell2 w (.s [.f k]) v t) : ∃ l : List Nat, T1Is w v (.r (.floats k l)) ∧ ∀ x ∈ l, (Lit.float k x).wf = true := by
  cases h with
  | s ks v rows h0 h2 h3 =>
    have key : ∀ rows : List (List D), (∀ r ∈ rows, fitsAll [.f k] r) → ∃ l : List Nat, rows = l.map (fun n => [D.f k n]) ∧ ∀ x ∈ l, (Lit.float k x).wf = true := fun rows => by
      induction rows with
      | nil => exact fun _ => ⟨[], rfl, fun _ h => by cases h⟩
      | cons r rows ih =>
        intro h
        obtain ⟨l, e1, e2⟩ := ih fun r hr => h r (List.mem_cons_of_mem _ hr)
        obtain ⟨n, e3, e4⟩ := flts_of (h r List.mem_cons_self)
        refine ⟨n :: l, by rw [e1, e3]; rfl, fun x hx => ?_⟩
        rcases List.mem_cons.1 hx with rfl | hx
        · exact e4
        · exact e2 x hx
    obtain ⟨l, rfl, e2⟩ := key rows h2
    refine ⟨l, .r v _ (Nat.succ_pos 0) (isRow_of h3 (by simp [Cont.n]) ?_), e2⟩
    simp only [Cont.flat]
    clear h3 e2 h2
    induction l with
    | nil => rfl
    | cons n l ih =>
      rw [List.map_cons, List.flatMap_cons, List.flatMap_cons, ih]
      rfl
theorem t1_d {w : World} {v : Value} {x : D} (h : ArgIs w v (.d x)) : T1Is w v (.d x) := by
  cases h with
  | d x => exact .d x
theorem arg_cells2 {H : Type} {enc : TypeId × Value → H} {P : Program} {w : World} {base : Nat} {spare : Nat → Bool} {held : Bool} {r : Reach} {b0 : Nat} {t : TypeId} {d : Nat} {ks : List K2} {v : Value} {x : DataW H} {p : List MemPlace} (ht : aggT P t = some true) (hk : kinds2 P d t = some ks)
    (hval : Value.okWide P w r b0 t v) (h : DataW.Trod enc P w base spare held t v x p) : ∃ vs ts, v = .agg (List.toArray vs) ∧ Cells2 w ks vs ts := by
  obtain ⟨fuel, hx⟩ := h
  obtain ⟨ts, h1⟩ := trod_cells2 d t ks fuel _ _ hk hx
  have hv : ∃ cs, v = .agg cs := by
    unfold Value.okWide at hval
    cases hU : P.underlying t with
    | none => simp [aggT, hU] at ht
    | some u =>
      rw [hU] at hval
      cases u with
      | struct fs => obtain ⟨cs, h, _⟩ := hval; exact ⟨cs, h⟩
      | array n e => obtain ⟨cs, h, _⟩ := hval; exact ⟨cs, h⟩
      | _ => simp [aggT, hU] at ht
  obtain ⟨cs, rfl⟩ := hv
  exact ⟨cs.toList, ts, by simp, h1⟩
section
variable [Globs]
inductive T2 where
  | c (t : T1)
  | a (l : List T1)
inductive T1sAre (w : World) : List Value → List T1 → Prop where
  | nil : T1sAre w [] []
  | cons {v : Value} {t : T1} {vs : List Value} {ts : List T1} (h : T1Is w v t) (r : T1sAre w vs ts) : T1sAre w (v :: vs) (t :: ts)
inductive T2Is (w : World) : Value → T2 → Prop where
  | c {v : Value} {t : T1} (h : T1Is w v t) : T2Is w v (.c t)
  | a {vs : List Value} {ts : List T1} (h : T1sAre w vs ts) : T2Is w (.agg vs.toArray) (.a ts)
inductive T2sAre (w : World) : List Value → List T2 → Prop where
  | nil : T2sAre w [] []
  | cons {v : Value} {t : T2} {vs : List Value} {ts : List T2} (h : T2Is w v t) (r : T2sAre w vs ts) : T2sAre w (v :: vs) (t :: ts)
structure TB where
  cs : List C
  hp : Hp
  n : Nat
def T1.bld (n : Nat) : T1 → TB
  | .d x => ⟨[.d x], [], n⟩
  | .r c => ⟨[.o n], [(n, .ext c)], n + 1⟩
def bldT1 : Nat → List T1 → TB
  | n, [] => ⟨[], [], n⟩
  | n, t :: l => let a := t.bld n; let b := bldT1 a.n l; ⟨a.cs ++ b.cs, b.hp ++ a.hp, b.n⟩
structure TV where
  vs : List V
  hp : Hp
  n : Nat
def T2.bld (n : Nat) : T2 → TV
  | .c t => let a := t.bld n; ⟨[.w (.c (headC a.cs))], a.hp, a.n⟩
  | .a l => let a := bldT1 n l; ⟨[.w (.a a.cs)], a.hp, a.n⟩
def bldT2 : Nat → List T2 → TV
  | n, [] => ⟨[], [], n⟩
  | n, t :: l => let a := t.bld n; let b := bldT2 a.n l; ⟨a.vs ++ b.vs, b.hp ++ a.hp, b.n⟩
structure TOK (w : World) (n : Nat) (ρ ρ' : Env) (vals : List Value) (cs : List C) (hp : Hp) (n' : Nat) : Prop where
  agree : Agree n ρ ρ'
  le : n ≤ n'
  val : cs.map (C.val ρ') = vals
  lt : ∀ c ∈ cs, C.lt n' c
  heap : ∀ k o, find hp k = some o → n ≤ k ∧ k < n' ∧ ∃ c, o = .ext c ∧ IsRow w (ρ' k) c ∧ 0 < c.e
theorem T1.bld_ok {w : World} {v : Value} {t : T1} (h : T1Is w v t) (n : Nat) (ρ : Env) : ∃ ρ', TOK w n ρ ρ' [v] (t.bld n).cs (t.bld n).hp (t.bld n).n := by
  cases h with
  | d x => exact ⟨ρ, Agree.refl _ _, Nat.le_refl _, rfl, (fun c hc => by simp only [T1.bld, List.mem_singleton] at hc; subst hc; trivial), fun _ _ h => by cases h⟩
  | r v c he h =>
    refine ⟨upd ρ n v, upd_agree _ _ _, Nat.le_succ _, by simp [T1.bld, C.val], (fun c hc => by simp only [T1.bld, List.mem_singleton] at hc; subst hc; exact Nat.lt_succ_self n), fun k o hf => ?_⟩
    simp only [T1.bld, find] at hf
    split at hf
    · rename_i e
      subst e
      cases hf
      exact ⟨Nat.le_refl _, Nat.lt_succ_self _, c, rfl, by rw [upd_same]; exact h, he⟩
    · cases hf
theorem TOK.append {w : World} {n n1 n2 : Nat} {ρ ρ1 ρ2 : Env} {a b : List Value} {ca cb : List C} {ha hb : Hp} (h1 : TOK w n ρ ρ1 a ca ha n1) (h2 : TOK w n1 ρ1 ρ2 b cb hb n2) : TOK w n ρ ρ2 (a ++ b) (ca ++ cb) (hb ++ ha) n2 := by
  refine ⟨h1.agree.trans h2.agree h1.le, Nat.le_trans h1.le h2.le, ?_, ?_, ?_⟩
  · rw [List.map_append, h2.val, ← h1.val]
    congr 1
    exact List.map_congr_left fun c hc => C.val_agree h2.agree (h1.lt c hc)
  · intro c hc
    rcases List.mem_append.1 hc with hc | hc
    · exact C.lt_mono h2.le (h1.lt c hc)
    · exact h2.lt c hc
  · intro k o hf
    rw [find_append] at hf
    cases hg : find hb k with
    | some o2 =>
      rw [hg] at hf
      cases hf
      obtain ⟨q1, q2, q3⟩ := h2.heap k o hg
      exact ⟨Nat.le_trans h1.le q1, q2, q3⟩
    | none =>
      rw [hg] at hf
      obtain ⟨q1, q2, c, q3, q4, q5⟩ := h1.heap k o hf
      exact ⟨q1, Nat.lt_of_lt_of_le q2 h2.le, c, q3, by rw [h2.agree k q2]; exact q4, q5⟩
theorem bldT1_ok {w : World} {vs : List Value} {ts : List T1} (h : T1sAre w vs ts) : ∀ (n : Nat) (ρ : Env), ∃ ρ', TOK w n ρ ρ' vs (bldT1 n ts).cs (bldT1 n ts).hp (bldT1 n ts).n := by
  induction h with
  | nil => exact fun n ρ => ⟨ρ, Agree.refl _ _, Nat.le_refl _, rfl, (fun _ h => by cases h), fun _ _ h => by cases h⟩
  | cons h r ih =>
    intro n ρ
    obtain ⟨ρ1, k1⟩ := T1.bld_ok h n ρ
    obtain ⟨ρ2, k2⟩ := ih _ ρ1
    exact ⟨ρ2, k1.append k2⟩
structure TVOK (w : World) (n : Nat) (ρ ρ' : Env) (vals : List Value) (vs : List V) (hp : Hp) (n' : Nat) : Prop where
  agree : Agree n ρ ρ'
  le : n ≤ n'
  val : vs.map (V.val ρ') = vals
  lt : ∀ c ∈ vs, V.lt n' c
  heap : ∀ k o, find hp k = some o → n ≤ k ∧ k < n' ∧ ∃ c, o = .ext c ∧ IsRow w (ρ' k) c ∧ 0 < c.e
theorem T2.bld_ok {w : World} {v : Value} {t : T2} (h : T2Is w v t) (n : Nat) (ρ : Env) : ∃ ρ', TVOK w n ρ ρ' [v] (t.bld n).vs (t.bld n).hp (t.bld n).n := by
  cases h with
  | @c v t h =>
    obtain ⟨ρ', k⟩ := T1.bld_ok h n ρ
    have hone : ∃ c, (t.bld n).cs = [c] := by cases t <;> exact ⟨_, rfl⟩
    obtain ⟨c, hc⟩ := hone
    have hval := k.val
    have hlt := k.lt
    rw [hc] at hval hlt
    refine ⟨ρ', k.agree, k.le, ?_, ?_, k.heap⟩
    · simp only [T2.bld, hc, headC, List.map_cons, List.map_nil, V.val, W.val]
      simpa using hval
    · intro y hy
      simp only [T2.bld, hc, headC, List.mem_singleton] at hy
      subst hy
      exact hlt c List.mem_cons_self
  | @a vs ts h =>
    obtain ⟨ρ', k⟩ := bldT1_ok h n ρ
    refine ⟨ρ', k.agree, k.le, ?_, ?_, k.heap⟩
    · simp only [T2.bld, List.map_cons, List.map_nil, V.val, W.val, k.val]
    · intro y hy
      simp only [T2.bld, List.mem_singleton] at hy
      subst hy
      exact k.lt
theorem bldT2_ok {w : World} {vs : List Value} {ts : List T2} (h : T2sAre w vs ts) : ∀ (n : Nat) (ρ : Env), ∃ ρ', TVOK w n ρ ρ' vs (bldT2 n ts).vs (bldT2 n ts).hp (bldT2 n ts).n := by
  induction h with
  | nil => exact fun n ρ => ⟨ρ, Agree.refl _ _, Nat.le_refl _, rfl, (fun _ h => by cases h), fun _ _ h => by cases h⟩
  | @cons v t vs ts h r ih =>
    intro n ρ
    obtain ⟨ρ1, k1⟩ := T2.bld_ok h n ρ
    obtain ⟨ρ2, k2⟩ := ih (t.bld n).n ρ1
    refine ⟨ρ2, k1.agree.trans k2.agree k1.le, Nat.le_trans k1.le k2.le, ?_, ?_, ?_⟩
    · simp only [bldT2, List.map_append, k2.val]
      have : (t.bld n).vs.map (V.val ρ2) = [v] := by
        rw [← k1.val]
        exact List.map_congr_left fun c hc => V.val_agree k2.agree (k1.lt c hc)
      rw [this]
      rfl
    · intro c hc
      rcases List.mem_append.1 hc with hc | hc
      · exact V.lt_mono k2.le (k1.lt c hc)
      · exact k2.lt c hc
    · intro k o hf
      have hf : find ((bldT2 (t.bld n).n ts).hp ++ (t.bld n).hp) k = some o := hf
      rw [find_append] at hf
      cases hg : find (bldT2 (t.bld n).n ts).hp k with
      | some o2 =>
        rw [hg] at hf
        cases hf
        obtain ⟨q1, q2, q3⟩ := k2.heap k o hg
        exact ⟨Nat.le_trans k1.le q1, q2, q3⟩
      | none =>
        rw [hg] at hf
        obtain ⟨q1, q2, c, q3, q4, q5⟩ := k1.heap k o hf
        exact ⟨q1, Nat.lt_of_lt_of_le q2 k2.le, c, q3, by rw [k2.agree k q2]; exact q4, q5⟩
theorem law_callsT {P : Program} {w : World} {f : Nat} {shs : List SV} {g : List Lf → Option GT} {vs : List Value} {ts : List T2} {ls : List Lf} {am : List C} {ob : Prop} {b : Bool} {fn : Func} (hok : SpecOK P f true (pureT shs g)) (hargs : T2sAre w vs ts)
    (hto : toVs (bldT2 0 ts).hp shs (bldT2 0 ts).vs = some (ls, am)) (hg : g ls = some (.leaf ob [.c (.d (.b b))])) (ho : ob) (hb : b = true)
    (hfn : P.funcs[f]? = some fn) (hbody : fn.body = some (fn.body.getD .skip)) (hn : (fn.name == "runtime.NumGoroutine") = false) (hgl : GlobOK (fun k => k < w.heap.size) w) :
    Calls P f vs.toArray w fun e w' => e = .returned (.bool true) ∧ Below w.heap.size w w' := by
  subst hb
  obtain ⟨ρ, k⟩ := bldT2_ok hargs 0 (fun _ => undef)
  have hh : HRel ρ (fun k => k < w.heap.size) (bldT2 0 ts).hp (bldT2 0 ts).n w := by
    refine ⟨fun x o hf => ?_, fun x o x' o' q hf hf' _ hb => ?_, hgl⟩
    · obtain ⟨_, q2, c, rfl, q4, q5⟩ := k.heap x o hf
      exact ⟨q2, trivial, q4, IsRow.lt q4 q5⟩
    · obtain ⟨_, _, c, rfl, _, _⟩ := k.heap x o hf
      cases hb
  have := (hok.sound hfn hbody hn).sound ρ (fun k => k < w.heap.size) w (bldT2 0 ts).vs (bldT2 0 ts).hp (bldT2 0 ts).n ((GT.leaf ob [.c (.d (.b true))]).toRT am (bldT2 0 ts).hp (bldT2 0 ts).n) (by
    unfold pureT
    rw [hto]
    dsimp only
    rw [hg]) ho k.lt hh (fun k hk => hk)
  rw [k.val] at this
  refine this.mono ?_
  rintro e w' ⟨ρ', rfl, hl⟩
  exact ⟨rfl, hl.mono rfl⟩
end
end Go.Sx
end
