/- Part 5 of the proof of FigureLevelsCard: the executor, the mirrors of the functions, the plain facts. -/
import Derived.Test.YtcklfboglnfepaaDoorPD
import Derived.Shelf.Strings.OnBuilder
import Derived.Shelf.Strconv.Itoa3
import Derived.Carry
import Derived.ChangeArms
import Derived.OpenShut
import Derived.ChangeShapes
import Derived.ChangeSame
import Derived.SizedLaws
import Derived.WideShapes
import Derived.LaidLaws
import Derived.LaidHandle
import Derived.LaidMore
import Derived.MakeChecks
import Derived.Handed
import Derived.Test.YtcklfboglnfepaaDoorRows
set_option linter.unusedSectionVars false
set_option linter.unusedSimpArgs false
set_option linter.unusedVariables false
section
namespace Go.Sh
open Go Go.Proofs Go.RowKit Go.Sx
set_option linter.unusedVariables false
def k_math_bits_Len64 : List (Option Cont) := [none]
def y71 (x_ : Int) : Option Int :=
  if x_ ≥ (4294967296 : Int) then
   if Int.fdiv x_ ((2 : Int) ^ min (32 : Nat) (IntKind.bits .u64)) ≥ (65536 : Int) then
    if Int.fdiv (Int.fdiv x_ ((2 : Int) ^ min (32 : Nat) (IntKind.bits .u64))) ((2 : Int) ^ min (16 : Nat) (IntKind.bits .u64)) ≥ (256 : Int) then
     if (0 : Int) ≤ IntKind.wrap .u8 (Int.fdiv (Int.fdiv (Int.fdiv x_ ((2 : Int) ^ min (32 : Nat) (IntKind.bits .u64))) ((2 : Int) ^ min (16 : Nat) (IntKind.bits .u64))) ((2 : Int) ^ min (8 : Nat) (IntKind.bits .u64))) ∧ IntKind.wrap .u8 (Int.fdiv (Int.fdiv (Int.fdiv x_ ((2 : Int) ^ min (32 : Nat) (IntKind.bits .u64))) ((2 : Int) ^ min (16 : Nat) (IntKind.bits .u64))) ((2 : Int) ^ min (8 : Nat) (IntKind.bits .u64))) < (↑(ByteArray.size tab8) : Int) then
      some (IntKind.wrap .i64 (IntKind.wrap .i64 (IntKind.wrap .i64 ((32 : Int) + (16 : Int)) + (8 : Int)) + IntKind.wrap .i64 (↑(UInt8.toNat (Array.getD (ByteArray.data tab8) (Int.toNat (IntKind.wrap .u8 (Int.fdiv (Int.fdiv (Int.fdiv x_ ((2 : Int) ^ min (32 : Nat) (IntKind.bits .u64))) ((2 : Int) ^ min (16 : Nat) (IntKind.bits .u64))) ((2 : Int) ^ min (8 : Nat) (IntKind.bits .u64))))) (0 : UInt8))) : Int)))
     else none
    else
     if (0 : Int) ≤ IntKind.wrap .u8 (Int.fdiv (Int.fdiv x_ ((2 : Int) ^ min (32 : Nat) (IntKind.bits .u64))) ((2 : Int) ^ min (16 : Nat) (IntKind.bits .u64))) ∧ IntKind.wrap .u8 (Int.fdiv (Int.fdiv x_ ((2 : Int) ^ min (32 : Nat) (IntKind.bits .u64))) ((2 : Int) ^ min (16 : Nat) (IntKind.bits .u64))) < (↑(ByteArray.size tab8) : Int) then
      some (IntKind.wrap .i64 (IntKind.wrap .i64 ((32 : Int) + (16 : Int)) + IntKind.wrap .i64 (↑(UInt8.toNat (Array.getD (ByteArray.data tab8) (Int.toNat (IntKind.wrap .u8 (Int.fdiv (Int.fdiv x_ ((2 : Int) ^ min (32 : Nat) (IntKind.bits .u64))) ((2 : Int) ^ min (16 : Nat) (IntKind.bits .u64))))) (0 : UInt8))) : Int)))
     else none
   else
    if Int.fdiv x_ ((2 : Int) ^ min (32 : Nat) (IntKind.bits .u64)) ≥ (256 : Int) then
     if (0 : Int) ≤ IntKind.wrap .u8 (Int.fdiv (Int.fdiv x_ ((2 : Int) ^ min (32 : Nat) (IntKind.bits .u64))) ((2 : Int) ^ min (8 : Nat) (IntKind.bits .u64))) ∧ IntKind.wrap .u8 (Int.fdiv (Int.fdiv x_ ((2 : Int) ^ min (32 : Nat) (IntKind.bits .u64))) ((2 : Int) ^ min (8 : Nat) (IntKind.bits .u64))) < (↑(ByteArray.size tab8) : Int) then
      some (IntKind.wrap .i64 (IntKind.wrap .i64 ((32 : Int) + (8 : Int)) + IntKind.wrap .i64 (↑(UInt8.toNat (Array.getD (ByteArray.data tab8) (Int.toNat (IntKind.wrap .u8 (Int.fdiv (Int.fdiv x_ ((2 : Int) ^ min (32 : Nat) (IntKind.bits .u64))) ((2 : Int) ^ min (8 : Nat) (IntKind.bits .u64))))) (0 : UInt8))) : Int)))
     else none
    else
     if (0 : Int) ≤ IntKind.wrap .u8 (Int.fdiv x_ ((2 : Int) ^ min (32 : Nat) (IntKind.bits .u64))) ∧ IntKind.wrap .u8 (Int.fdiv x_ ((2 : Int) ^ min (32 : Nat) (IntKind.bits .u64))) < (↑(ByteArray.size tab8) : Int) then
      some (IntKind.wrap .i64 ((32 : Int) + IntKind.wrap .i64 (↑(UInt8.toNat (Array.getD (ByteArray.data tab8) (Int.toNat (IntKind.wrap .u8 (Int.fdiv x_ ((2 : Int) ^ min (32 : Nat) (IntKind.bits .u64))))) (0 : UInt8))) : Int)))
     else none
  else
   if x_ ≥ (65536 : Int) then
    if Int.fdiv x_ ((2 : Int) ^ min (16 : Nat) (IntKind.bits .u64)) ≥ (256 : Int) then
     if (0 : Int) ≤ IntKind.wrap .u8 (Int.fdiv (Int.fdiv x_ ((2 : Int) ^ min (16 : Nat) (IntKind.bits .u64))) ((2 : Int) ^ min (8 : Nat) (IntKind.bits .u64))) ∧ IntKind.wrap .u8 (Int.fdiv (Int.fdiv x_ ((2 : Int) ^ min (16 : Nat) (IntKind.bits .u64))) ((2 : Int) ^ min (8 : Nat) (IntKind.bits .u64))) < (↑(ByteArray.size tab8) : Int) then
      some (IntKind.wrap .i64 (IntKind.wrap .i64 (IntKind.wrap .i64 ((0 : Int) + (16 : Int)) + (8 : Int)) + IntKind.wrap .i64 (↑(UInt8.toNat (Array.getD (ByteArray.data tab8) (Int.toNat (IntKind.wrap .u8 (Int.fdiv (Int.fdiv x_ ((2 : Int) ^ min (16 : Nat) (IntKind.bits .u64))) ((2 : Int) ^ min (8 : Nat) (IntKind.bits .u64))))) (0 : UInt8))) : Int)))
     else none
    else
     if (0 : Int) ≤ IntKind.wrap .u8 (Int.fdiv x_ ((2 : Int) ^ min (16 : Nat) (IntKind.bits .u64))) ∧ IntKind.wrap .u8 (Int.fdiv x_ ((2 : Int) ^ min (16 : Nat) (IntKind.bits .u64))) < (↑(ByteArray.size tab8) : Int) then
      some (IntKind.wrap .i64 (IntKind.wrap .i64 ((0 : Int) + (16 : Int)) + IntKind.wrap .i64 (↑(UInt8.toNat (Array.getD (ByteArray.data tab8) (Int.toNat (IntKind.wrap .u8 (Int.fdiv x_ ((2 : Int) ^ min (16 : Nat) (IntKind.bits .u64))))) (0 : UInt8))) : Int)))
     else none
   else
    if x_ ≥ (256 : Int) then
     if (0 : Int) ≤ IntKind.wrap .u8 (Int.fdiv x_ ((2 : Int) ^ min (8 : Nat) (IntKind.bits .u64))) ∧ IntKind.wrap .u8 (Int.fdiv x_ ((2 : Int) ^ min (8 : Nat) (IntKind.bits .u64))) < (↑(ByteArray.size tab8) : Int) then
      some (IntKind.wrap .i64 (IntKind.wrap .i64 ((0 : Int) + (8 : Int)) + IntKind.wrap .i64 (↑(UInt8.toNat (Array.getD (ByteArray.data tab8) (Int.toNat (IntKind.wrap .u8 (Int.fdiv x_ ((2 : Int) ^ min (8 : Nat) (IntKind.bits .u64))))) (0 : UInt8))) : Int)))
     else none
    else
     if (0 : Int) ≤ IntKind.wrap .u8 x_ ∧ IntKind.wrap .u8 x_ < (↑(ByteArray.size tab8) : Int) then
      some (IntKind.wrap .i64 ((0 : Int) + IntKind.wrap .i64 (↑(UInt8.toNat (Array.getD (ByteArray.data tab8) (Int.toNat (IntKind.wrap .u8 x_)) (0 : UInt8))) : Int)))
     else none
def y118 : List A → Option (Prop × List RV)
  | [.d (.i .u64 x_)] => some (ok (y71 x_), [.d (.i .i64 ((val (y71 x_))))])
  | _ => none
abbrev sp_104 : Specs → Specs := addK 104 true (pureK k_math_bits_Len64 y118)
set_option maxRecDepth 100000 in
theorem math_bits_Len64_vc (x_ : Int) (r : Int) (h : Option.bind (y71 x_) some = some r) : runF Tryd.f104 (sp0) (fun _ _ _ => none) [.d (.i .u64 x_)] [.d (.i .i64 r)] := by
  refine Eq.mp (by kernel_rfl : (
 Br (decide (x_ ≥ (4294967296 : Int)))
   ((Ob ((0 : Int) ≤ (32 : Int)) ∧
 Br (decide (Int.fdiv x_ ((2 : Int) ^ min (32 : Nat) (IntKind.bits .u64)) ≥ (65536 : Int)))
   ((Ob ((0 : Int) ≤ (16 : Int)) ∧
 Br (decide (Int.fdiv (Int.fdiv x_ ((2 : Int) ^ min (32 : Nat) (IntKind.bits .u64))) ((2 : Int) ^ min (16 : Nat) (IntKind.bits .u64)) ≥ (256 : Int)))
   ((Ob ((0 : Int) ≤ (8 : Int)) ∧
 (Ob (True) ∧
 (Ob ((0 : Int) ≤ IntKind.wrap .u8 (Int.fdiv (Int.fdiv (Int.fdiv x_ ((2 : Int) ^ min (32 : Nat) (IntKind.bits .u64))) ((2 : Int) ^ min (16 : Nat) (IntKind.bits .u64))) ((2 : Int) ^ min (8 : Nat) (IntKind.bits .u64))) ∧ IntKind.wrap .u8 (Int.fdiv (Int.fdiv (Int.fdiv x_ ((2 : Int) ^ min (32 : Nat) (IntKind.bits .u64))) ((2 : Int) ^ min (16 : Nat) (IntKind.bits .u64))) ((2 : Int) ^ min (8 : Nat) (IntKind.bits .u64))) < (↑(ByteArray.size tab8) : Int)) ∧
 (Ob (True) ∧
 (Ob (True) ∧
 (Ob (IntKind.wrap .i64 (IntKind.wrap .i64 (IntKind.wrap .i64 ((32 : Int) + (16 : Int)) + (8 : Int)) + IntKind.wrap .i64 (↑(UInt8.toNat (Array.getD (ByteArray.data tab8) (Int.toNat (IntKind.wrap .u8 (Int.fdiv (Int.fdiv (Int.fdiv x_ ((2 : Int) ^ min (32 : Nat) (IntKind.bits .u64))) ((2 : Int) ^ min (16 : Nat) (IntKind.bits .u64))) ((2 : Int) ^ min (8 : Nat) (IntKind.bits .u64))))) (0 : UInt8))) : Int)) = r) ∧
 True)))))))
   ((Ob (True) ∧
 (Ob ((0 : Int) ≤ IntKind.wrap .u8 (Int.fdiv (Int.fdiv x_ ((2 : Int) ^ min (32 : Nat) (IntKind.bits .u64))) ((2 : Int) ^ min (16 : Nat) (IntKind.bits .u64))) ∧ IntKind.wrap .u8 (Int.fdiv (Int.fdiv x_ ((2 : Int) ^ min (32 : Nat) (IntKind.bits .u64))) ((2 : Int) ^ min (16 : Nat) (IntKind.bits .u64))) < (↑(ByteArray.size tab8) : Int)) ∧
 (Ob (True) ∧
 (Ob (True) ∧
 (Ob (IntKind.wrap .i64 (IntKind.wrap .i64 ((32 : Int) + (16 : Int)) + IntKind.wrap .i64 (↑(UInt8.toNat (Array.getD (ByteArray.data tab8) (Int.toNat (IntKind.wrap .u8 (Int.fdiv (Int.fdiv x_ ((2 : Int) ^ min (32 : Nat) (IntKind.bits .u64))) ((2 : Int) ^ min (16 : Nat) (IntKind.bits .u64))))) (0 : UInt8))) : Int)) = r) ∧
 True))))))))
 (Br (decide (Int.fdiv x_ ((2 : Int) ^ min (32 : Nat) (IntKind.bits .u64)) ≥ (256 : Int)))
   ((Ob ((0 : Int) ≤ (8 : Int)) ∧
 (Ob (True) ∧
 (Ob ((0 : Int) ≤ IntKind.wrap .u8 (Int.fdiv (Int.fdiv x_ ((2 : Int) ^ min (32 : Nat) (IntKind.bits .u64))) ((2 : Int) ^ min (8 : Nat) (IntKind.bits .u64))) ∧ IntKind.wrap .u8 (Int.fdiv (Int.fdiv x_ ((2 : Int) ^ min (32 : Nat) (IntKind.bits .u64))) ((2 : Int) ^ min (8 : Nat) (IntKind.bits .u64))) < (↑(ByteArray.size tab8) : Int)) ∧
 (Ob (True) ∧
 (Ob (True) ∧
 (Ob (IntKind.wrap .i64 (IntKind.wrap .i64 ((32 : Int) + (8 : Int)) + IntKind.wrap .i64 (↑(UInt8.toNat (Array.getD (ByteArray.data tab8) (Int.toNat (IntKind.wrap .u8 (Int.fdiv (Int.fdiv x_ ((2 : Int) ^ min (32 : Nat) (IntKind.bits .u64))) ((2 : Int) ^ min (8 : Nat) (IntKind.bits .u64))))) (0 : UInt8))) : Int)) = r) ∧
 True)))))))
   ((Ob (True) ∧
 (Ob ((0 : Int) ≤ IntKind.wrap .u8 (Int.fdiv x_ ((2 : Int) ^ min (32 : Nat) (IntKind.bits .u64))) ∧ IntKind.wrap .u8 (Int.fdiv x_ ((2 : Int) ^ min (32 : Nat) (IntKind.bits .u64))) < (↑(ByteArray.size tab8) : Int)) ∧
 (Ob (True) ∧
 (Ob (True) ∧
 (Ob (IntKind.wrap .i64 ((32 : Int) + IntKind.wrap .i64 (↑(UInt8.toNat (Array.getD (ByteArray.data tab8) (Int.toNat (IntKind.wrap .u8 (Int.fdiv x_ ((2 : Int) ^ min (32 : Nat) (IntKind.bits .u64))))) (0 : UInt8))) : Int)) = r) ∧
 True)))))))))
 (Br (decide (x_ ≥ (65536 : Int)))
   ((Ob ((0 : Int) ≤ (16 : Int)) ∧
 Br (decide (Int.fdiv x_ ((2 : Int) ^ min (16 : Nat) (IntKind.bits .u64)) ≥ (256 : Int)))
   ((Ob ((0 : Int) ≤ (8 : Int)) ∧
 (Ob (True) ∧
 (Ob ((0 : Int) ≤ IntKind.wrap .u8 (Int.fdiv (Int.fdiv x_ ((2 : Int) ^ min (16 : Nat) (IntKind.bits .u64))) ((2 : Int) ^ min (8 : Nat) (IntKind.bits .u64))) ∧ IntKind.wrap .u8 (Int.fdiv (Int.fdiv x_ ((2 : Int) ^ min (16 : Nat) (IntKind.bits .u64))) ((2 : Int) ^ min (8 : Nat) (IntKind.bits .u64))) < (↑(ByteArray.size tab8) : Int)) ∧
 (Ob (True) ∧
 (Ob (True) ∧
 (Ob (IntKind.wrap .i64 (IntKind.wrap .i64 (IntKind.wrap .i64 ((0 : Int) + (16 : Int)) + (8 : Int)) + IntKind.wrap .i64 (↑(UInt8.toNat (Array.getD (ByteArray.data tab8) (Int.toNat (IntKind.wrap .u8 (Int.fdiv (Int.fdiv x_ ((2 : Int) ^ min (16 : Nat) (IntKind.bits .u64))) ((2 : Int) ^ min (8 : Nat) (IntKind.bits .u64))))) (0 : UInt8))) : Int)) = r) ∧
 True)))))))
   ((Ob (True) ∧
 (Ob ((0 : Int) ≤ IntKind.wrap .u8 (Int.fdiv x_ ((2 : Int) ^ min (16 : Nat) (IntKind.bits .u64))) ∧ IntKind.wrap .u8 (Int.fdiv x_ ((2 : Int) ^ min (16 : Nat) (IntKind.bits .u64))) < (↑(ByteArray.size tab8) : Int)) ∧
 (Ob (True) ∧
 (Ob (True) ∧
 (Ob (IntKind.wrap .i64 (IntKind.wrap .i64 ((0 : Int) + (16 : Int)) + IntKind.wrap .i64 (↑(UInt8.toNat (Array.getD (ByteArray.data tab8) (Int.toNat (IntKind.wrap .u8 (Int.fdiv x_ ((2 : Int) ^ min (16 : Nat) (IntKind.bits .u64))))) (0 : UInt8))) : Int)) = r) ∧
 True))))))))
 (Br (decide (x_ ≥ (256 : Int)))
   ((Ob ((0 : Int) ≤ (8 : Int)) ∧
 (Ob (True) ∧
 (Ob ((0 : Int) ≤ IntKind.wrap .u8 (Int.fdiv x_ ((2 : Int) ^ min (8 : Nat) (IntKind.bits .u64))) ∧ IntKind.wrap .u8 (Int.fdiv x_ ((2 : Int) ^ min (8 : Nat) (IntKind.bits .u64))) < (↑(ByteArray.size tab8) : Int)) ∧
 (Ob (True) ∧
 (Ob (True) ∧
 (Ob (IntKind.wrap .i64 (IntKind.wrap .i64 ((0 : Int) + (8 : Int)) + IntKind.wrap .i64 (↑(UInt8.toNat (Array.getD (ByteArray.data tab8) (Int.toNat (IntKind.wrap .u8 (Int.fdiv x_ ((2 : Int) ^ min (8 : Nat) (IntKind.bits .u64))))) (0 : UInt8))) : Int)) = r) ∧
 True)))))))
   ((Ob (True) ∧
 (Ob ((0 : Int) ≤ IntKind.wrap .u8 x_ ∧ IntKind.wrap .u8 x_ < (↑(ByteArray.size tab8) : Int)) ∧
 (Ob (True) ∧
 (Ob (True) ∧
 (Ob (IntKind.wrap .i64 ((0 : Int) + IntKind.wrap .i64 (↑(UInt8.toNat (Array.getD (ByteArray.data tab8) (Int.toNat (IntKind.wrap .u8 x_)) (0 : UInt8))) : Int)) = r) ∧
 True))))))))) = _) ?_
  refine br_d h (fun h => ?_) (fun h => ?_)
  · refine ob_c (p := (0 : Int) ≤ (32 : Int)) (by decide) ?_
    refine br_d h (fun h => ?_) (fun h => ?_)
    · refine ob_c (p := (0 : Int) ≤ (16 : Int)) (by decide) ?_
      refine br_d h (fun h => ?_) (fun h => ?_)
      · refine ob_c (p := (0 : Int) ≤ (8 : Int)) (by decide) ?_
        refine ob_t ?_
        refine ob_s h fun h => ?_
        refine ob_t ?_
        refine ob_t ?_
        exact ret_s h (fun e => by subst e; exact (by repeat' (first | exact trivial | exact ⟨rfl⟩ | refine And.intro ?_ ?_)))
      · refine ob_t ?_
        refine ob_s h fun h => ?_
        refine ob_t ?_
        refine ob_t ?_
        exact ret_s h (fun e => by subst e; exact (by repeat' (first | exact trivial | exact ⟨rfl⟩ | refine And.intro ?_ ?_)))
    · refine br_d h (fun h => ?_) (fun h => ?_)
      · refine ob_c (p := (0 : Int) ≤ (8 : Int)) (by decide) ?_
        refine ob_t ?_
        refine ob_s h fun h => ?_
        refine ob_t ?_
        refine ob_t ?_
        exact ret_s h (fun e => by subst e; exact (by repeat' (first | exact trivial | exact ⟨rfl⟩ | refine And.intro ?_ ?_)))
      · refine ob_t ?_
        refine ob_s h fun h => ?_
        refine ob_t ?_
        refine ob_t ?_
        exact ret_s h (fun e => by subst e; exact (by repeat' (first | exact trivial | exact ⟨rfl⟩ | refine And.intro ?_ ?_)))
  · refine br_d h (fun h => ?_) (fun h => ?_)
    · refine ob_c (p := (0 : Int) ≤ (16 : Int)) (by decide) ?_
      refine br_d h (fun h => ?_) (fun h => ?_)
      · refine ob_c (p := (0 : Int) ≤ (8 : Int)) (by decide) ?_
        refine ob_t ?_
        refine ob_s h fun h => ?_
        refine ob_t ?_
        refine ob_t ?_
        exact ret_s h (fun e => by subst e; exact (by repeat' (first | exact trivial | exact ⟨rfl⟩ | refine And.intro ?_ ?_)))
      · refine ob_t ?_
        refine ob_s h fun h => ?_
        refine ob_t ?_
        refine ob_t ?_
        exact ret_s h (fun e => by subst e; exact (by repeat' (first | exact trivial | exact ⟨rfl⟩ | refine And.intro ?_ ?_)))
    · refine br_d h (fun h => ?_) (fun h => ?_)
      · refine ob_c (p := (0 : Int) ≤ (8 : Int)) (by decide) ?_
        refine ob_t ?_
        refine ob_s h fun h => ?_
        refine ob_t ?_
        refine ob_t ?_
        exact ret_s h (fun e => by subst e; exact (by repeat' (first | exact trivial | exact ⟨rfl⟩ | refine And.intro ?_ ?_)))
      · refine ob_t ?_
        refine ob_s h fun h => ?_
        refine ob_t ?_
        refine ob_t ?_
        exact ret_s h (fun e => by subst e; exact (by repeat' (first | exact trivial | exact ⟨rfl⟩ | refine And.intro ?_ ?_)))
set_option maxRecDepth 100000 in
theorem math_bits_Len64_ok : SpecOK Tryd.prog 104 true (pureK k_math_bits_Len64 y118) := by
  refine pureK_ok (sp := sp0) (fn := Tryd.f104) (body := bodyOf Tryd.f104) mixed sp0_ok Tryd.func104 (by kernel_rfl) (by kernel_rfl) fun as_ ob rs h ho => ?_
  unfold y118 at h
  split at h
  · rename_i x_
    cases h
    exact ⟨Nat.le_of_ble_eq_true rfl, _, _, math_bits_Len64_vc x_ _ (ok_some ho)⟩
  · cases h
theorem sp_104_ok {sp : Specs} (h : SpecsOK Tryd.prog sp) : SpecsOK Tryd.prog (sp_104 sp) := addK_ok math_bits_Len64_ok h
def y96 : List (Option Cont) := [none]
def y9 (x_ : Int) : Option Int :=
  Option.bind (y71 x_) fun r0 =>
  some (IntKind.wrap .i64 ((64 : Int) - r0))
def y74 : List A → Option (Prop × List RV)
  | [.d (.i .u64 x_)] => some (ok (y9 x_), [.d (.i .i64 ((val (y9 x_))))])
  | _ => none
abbrev sp_99 : Specs → Specs := addK 99 true (pureK y96 y74)
set_option maxRecDepth 100000 in
theorem y154 (x_ : Int) (r : Int) (h : Option.bind (y9 x_) some = some r) : runF Tryd.f99 ((sp_104 sp0)) (fun _ _ _ => none) [.d (.i .u64 x_)] [.d (.i .i64 r)] := by
  refine Eq.mp (by kernel_rfl : (
 (Ob (ok (y71 x_)) ∧
 (Ob (True) ∧
 (Ob (IntKind.wrap .i64 ((64 : Int) - val (y71 x_)) = r) ∧
 True)))) = _) ?_
  refine call_s h fun h => ?_
  refine ob_t ?_
  exact ret_s h (fun e => by subst e; exact (by repeat' (first | exact trivial | exact ⟨rfl⟩ | refine And.intro ?_ ?_)))
set_option maxRecDepth 100000 in
theorem y155 : SpecOK Tryd.prog 99 true (pureK y96 y74) := by
  refine pureK_ok (sp := (sp_104 sp0)) (fn := Tryd.f99) (body := bodyOf Tryd.f99) mixed (sp_104_ok sp0_ok) Tryd.func99 (by kernel_rfl) (by kernel_rfl) fun as_ ob rs h ho => ?_
  unfold y74 at h
  split at h
  · rename_i x_
    cases h
    exact ⟨Nat.le_of_ble_eq_true rfl, _, _, y154 x_ _ (ok_some ho)⟩
  · cases h
theorem sp_99_ok {sp : Specs} (h : SpecsOK Tryd.prog sp) : SpecsOK Tryd.prog (sp_99 sp) := addK_ok y155 h
def k_math_bits_Div64 : List (Option Cont) := [none, none, none]
def y45 (lo : Int) (y_ : Int) (r0 : Int) (x0 : (Int × Int)) : Option ((Int × Int) ⊕ Int) :=
  if x0.1 ≥ (4294967296 : Int) then
   if IntKind.wrap .u64 (x0.2 + Int.fdiv (IntKind.wrap .u64 (y_ * (2 : Int) ^ min (Int.toNat (IntKind.wrap .u64 r0)) (IntKind.bits .u64))) ((2 : Int) ^ min (32 : Nat) (IntKind.bits .u64))) ≥ (4294967296 : Int) then
    some (.inr (IntKind.wrap .u64 (x0.1 - (1 : Int))))
   else
    some (.inl ((IntKind.wrap .u64 (x0.1 - (1 : Int)), IntKind.wrap .u64 (x0.2 + Int.fdiv (IntKind.wrap .u64 (y_ * (2 : Int) ^ min (Int.toNat (IntKind.wrap .u64 r0)) (IntKind.bits .u64))) ((2 : Int) ^ min (32 : Nat) (IntKind.bits .u64))))))
  else
   if IntKind.wrap .u64 (x0.1 * IntKind.wrap .u64 (↑(BitVec.toNat (BitVec.ofInt (IntKind.bits .u64) (IntKind.wrap .u64 (y_ * (2 : Int) ^ min (Int.toNat (IntKind.wrap .u64 r0)) (IntKind.bits .u64))) &&& BitVec.ofInt (IntKind.bits .u64) (4294967295 : Int))) : Int)) > IntKind.wrap .u64 (IntKind.wrap .u64 ((4294967296 : Int) * x0.2) + Int.fdiv (IntKind.wrap .u64 (lo * (2 : Int) ^ min (Int.toNat (IntKind.wrap .u64 r0)) (IntKind.bits .u64))) ((2 : Int) ^ min (32 : Nat) (IntKind.bits .u64))) then
    if IntKind.wrap .u64 (x0.2 + Int.fdiv (IntKind.wrap .u64 (y_ * (2 : Int) ^ min (Int.toNat (IntKind.wrap .u64 r0)) (IntKind.bits .u64))) ((2 : Int) ^ min (32 : Nat) (IntKind.bits .u64))) ≥ (4294967296 : Int) then
     some (.inr (IntKind.wrap .u64 (x0.1 - (1 : Int))))
    else
     some (.inl ((IntKind.wrap .u64 (x0.1 - (1 : Int)), IntKind.wrap .u64 (x0.2 + Int.fdiv (IntKind.wrap .u64 (y_ * (2 : Int) ^ min (Int.toNat (IntKind.wrap .u64 r0)) (IntKind.bits .u64))) ((2 : Int) ^ min (32 : Nat) (IntKind.bits .u64))))))
   else
    some (.inr x0.1)
def y11 (lo : Int) (y_ : Int) (r0 : Int) (x1 : (Int × Int)) : Option ((Int × Int) ⊕ Int) :=
  if x1.2 ≥ (4294967296 : Int) then
   if IntKind.wrap .u64 (x1.1 + Int.fdiv (IntKind.wrap .u64 (y_ * (2 : Int) ^ min (Int.toNat (IntKind.wrap .u64 r0)) (IntKind.bits .u64))) ((2 : Int) ^ min (32 : Nat) (IntKind.bits .u64))) ≥ (4294967296 : Int) then
    some (.inr (IntKind.wrap .u64 (x1.2 - (1 : Int))))
   else
    some (.inl ((IntKind.wrap .u64 (x1.1 + Int.fdiv (IntKind.wrap .u64 (y_ * (2 : Int) ^ min (Int.toNat (IntKind.wrap .u64 r0)) (IntKind.bits .u64))) ((2 : Int) ^ min (32 : Nat) (IntKind.bits .u64))), IntKind.wrap .u64 (x1.2 - (1 : Int)))))
  else
   if IntKind.wrap .u64 (x1.2 * IntKind.wrap .u64 (↑(BitVec.toNat (BitVec.ofInt (IntKind.bits .u64) (IntKind.wrap .u64 (y_ * (2 : Int) ^ min (Int.toNat (IntKind.wrap .u64 r0)) (IntKind.bits .u64))) &&& BitVec.ofInt (IntKind.bits .u64) (4294967295 : Int))) : Int)) > IntKind.wrap .u64 (IntKind.wrap .u64 ((4294967296 : Int) * x1.1) + IntKind.wrap .u64 (↑(BitVec.toNat (BitVec.ofInt (IntKind.bits .u64) (IntKind.wrap .u64 (lo * (2 : Int) ^ min (Int.toNat (IntKind.wrap .u64 r0)) (IntKind.bits .u64))) &&& BitVec.ofInt (IntKind.bits .u64) (4294967295 : Int))) : Int)) then
    if IntKind.wrap .u64 (x1.1 + Int.fdiv (IntKind.wrap .u64 (y_ * (2 : Int) ^ min (Int.toNat (IntKind.wrap .u64 r0)) (IntKind.bits .u64))) ((2 : Int) ^ min (32 : Nat) (IntKind.bits .u64))) ≥ (4294967296 : Int) then
     some (.inr (IntKind.wrap .u64 (x1.2 - (1 : Int))))
    else
     some (.inl ((IntKind.wrap .u64 (x1.1 + Int.fdiv (IntKind.wrap .u64 (y_ * (2 : Int) ^ min (Int.toNat (IntKind.wrap .u64 r0)) (IntKind.bits .u64))) ((2 : Int) ^ min (32 : Nat) (IntKind.bits .u64))), IntKind.wrap .u64 (x1.2 - (1 : Int)))))
   else
    some (.inr x1.2)
def y12 (hi : Int) (lo : Int) (y_ : Int) (u10 : Int) (r0 : Int) (u43 : Int) : Option (Int × Int) :=
  if (0 : Int) ≤ IntKind.wrap .u64 r0 then
   some ((IntKind.wrap .u64 (IntKind.wrap .u64 (u10 * (4294967296 : Int)) + u43), Int.fdiv (IntKind.wrap .u64 (IntKind.wrap .u64 (IntKind.wrap .u64 (IntKind.wrap .u64 (IntKind.wrap .u64 (IntKind.wrap .u64 (IntKind.wrap .u64 (↑(BitVec.toNat (BitVec.ofInt (IntKind.bits .u64) (IntKind.wrap .u64 (hi * (2 : Int) ^ min (Int.toNat (IntKind.wrap .u64 r0)) (IntKind.bits .u64))) ||| BitVec.ofInt (IntKind.bits .u64) (Int.fdiv lo ((2 : Int) ^ min (Int.toNat (IntKind.wrap .u64 ((64 : Int) - IntKind.wrap .u64 r0))) (IntKind.bits .u64))))) : Int) * (4294967296 : Int)) + Int.fdiv (IntKind.wrap .u64 (lo * (2 : Int) ^ min (Int.toNat (IntKind.wrap .u64 r0)) (IntKind.bits .u64))) ((2 : Int) ^ min (32 : Nat) (IntKind.bits .u64))) - IntKind.wrap .u64 (u10 * IntKind.wrap .u64 (y_ * (2 : Int) ^ min (Int.toNat (IntKind.wrap .u64 r0)) (IntKind.bits .u64)))) * (4294967296 : Int)) + IntKind.wrap .u64 (↑(BitVec.toNat (BitVec.ofInt (IntKind.bits .u64) (IntKind.wrap .u64 (lo * (2 : Int) ^ min (Int.toNat (IntKind.wrap .u64 r0)) (IntKind.bits .u64))) &&& BitVec.ofInt (IntKind.bits .u64) (4294967295 : Int))) : Int)) - IntKind.wrap .u64 (u43 * IntKind.wrap .u64 (y_ * (2 : Int) ^ min (Int.toNat (IntKind.wrap .u64 r0)) (IntKind.bits .u64))))) ((2 : Int) ^ min (Int.toNat (IntKind.wrap .u64 r0)) (IntKind.bits .u64))))
  else none
def y46 (hi : Int) (lo : Int) (y_ : Int) (r0 : Int) (u10 : Int) : Option (Int × Int) :=
  if Int.fdiv (IntKind.wrap .u64 (y_ * (2 : Int) ^ min (Int.toNat (IntKind.wrap .u64 r0)) (IntKind.bits .u64))) ((2 : Int) ^ min (32 : Nat) (IntKind.bits .u64)) ≠ (0 : Int) then
   Option.bind (iter (y11 lo y_ r0) big ((IntKind.wrap .u64 (IntKind.wrap .u64 (IntKind.wrap .u64 (IntKind.wrap .u64 (IntKind.wrap .u64 (↑(BitVec.toNat (BitVec.ofInt (IntKind.bits .u64) (IntKind.wrap .u64 (hi * (2 : Int) ^ min (Int.toNat (IntKind.wrap .u64 r0)) (IntKind.bits .u64))) ||| BitVec.ofInt (IntKind.bits .u64) (Int.fdiv lo ((2 : Int) ^ min (Int.toNat (IntKind.wrap .u64 ((64 : Int) - IntKind.wrap .u64 r0))) (IntKind.bits .u64))))) : Int) * (4294967296 : Int)) + Int.fdiv (IntKind.wrap .u64 (lo * (2 : Int) ^ min (Int.toNat (IntKind.wrap .u64 r0)) (IntKind.bits .u64))) ((2 : Int) ^ min (32 : Nat) (IntKind.bits .u64))) - IntKind.wrap .u64 (u10 * IntKind.wrap .u64 (y_ * (2 : Int) ^ min (Int.toNat (IntKind.wrap .u64 r0)) (IntKind.bits .u64)))) - IntKind.wrap .u64 (IntKind.wrap .u64 (Int.tdiv (IntKind.wrap .u64 (IntKind.wrap .u64 (IntKind.wrap .u64 (IntKind.wrap .u64 (↑(BitVec.toNat (BitVec.ofInt (IntKind.bits .u64) (IntKind.wrap .u64 (hi * (2 : Int) ^ min (Int.toNat (IntKind.wrap .u64 r0)) (IntKind.bits .u64))) ||| BitVec.ofInt (IntKind.bits .u64) (Int.fdiv lo ((2 : Int) ^ min (Int.toNat (IntKind.wrap .u64 ((64 : Int) - IntKind.wrap .u64 r0))) (IntKind.bits .u64))))) : Int) * (4294967296 : Int)) + Int.fdiv (IntKind.wrap .u64 (lo * (2 : Int) ^ min (Int.toNat (IntKind.wrap .u64 r0)) (IntKind.bits .u64))) ((2 : Int) ^ min (32 : Nat) (IntKind.bits .u64))) - IntKind.wrap .u64 (u10 * IntKind.wrap .u64 (y_ * (2 : Int) ^ min (Int.toNat (IntKind.wrap .u64 r0)) (IntKind.bits .u64))))) (Int.fdiv (IntKind.wrap .u64 (y_ * (2 : Int) ^ min (Int.toNat (IntKind.wrap .u64 r0)) (IntKind.bits .u64))) ((2 : Int) ^ min (32 : Nat) (IntKind.bits .u64)))) * Int.fdiv (IntKind.wrap .u64 (y_ * (2 : Int) ^ min (Int.toNat (IntKind.wrap .u64 r0)) (IntKind.bits .u64))) ((2 : Int) ^ min (32 : Nat) (IntKind.bits .u64)))), IntKind.wrap .u64 (Int.tdiv (IntKind.wrap .u64 (IntKind.wrap .u64 (IntKind.wrap .u64 (IntKind.wrap .u64 (↑(BitVec.toNat (BitVec.ofInt (IntKind.bits .u64) (IntKind.wrap .u64 (hi * (2 : Int) ^ min (Int.toNat (IntKind.wrap .u64 r0)) (IntKind.bits .u64))) ||| BitVec.ofInt (IntKind.bits .u64) (Int.fdiv lo ((2 : Int) ^ min (Int.toNat (IntKind.wrap .u64 ((64 : Int) - IntKind.wrap .u64 r0))) (IntKind.bits .u64))))) : Int) * (4294967296 : Int)) + Int.fdiv (IntKind.wrap .u64 (lo * (2 : Int) ^ min (Int.toNat (IntKind.wrap .u64 r0)) (IntKind.bits .u64))) ((2 : Int) ^ min (32 : Nat) (IntKind.bits .u64))) - IntKind.wrap .u64 (u10 * IntKind.wrap .u64 (y_ * (2 : Int) ^ min (Int.toNat (IntKind.wrap .u64 r0)) (IntKind.bits .u64))))) (Int.fdiv (IntKind.wrap .u64 (y_ * (2 : Int) ^ min (Int.toNat (IntKind.wrap .u64 r0)) (IntKind.bits .u64))) ((2 : Int) ^ min (32 : Nat) (IntKind.bits .u64))))))) (y12 hi lo y_ u10 r0)
  else none
def y40 (hi : Int) (lo : Int) (y_ : Int) : Option (Int × Int) :=
  if (y_ == (0 : Int)) = true then
   none   else
   if y_ ≤ hi then
    none    else
    if (hi == (0 : Int)) = true then
     if y_ ≠ (0 : Int) then
      if y_ ≠ (0 : Int) then
       some ((IntKind.wrap .u64 (Int.tdiv lo y_), Int.tmod lo y_))
      else none
     else none
    else
     Option.bind (y9 y_) fun r0 =>
     if (0 : Int) ≤ IntKind.wrap .u64 r0 then
      if (0 : Int) ≤ IntKind.wrap .u64 r0 then
       if (0 : Int) ≤ IntKind.wrap .u64 ((64 : Int) - IntKind.wrap .u64 r0) then
        if (0 : Int) ≤ IntKind.wrap .u64 r0 then
         if Int.fdiv (IntKind.wrap .u64 (y_ * (2 : Int) ^ min (Int.toNat (IntKind.wrap .u64 r0)) (IntKind.bits .u64))) ((2 : Int) ^ min (32 : Nat) (IntKind.bits .u64)) ≠ (0 : Int) then
          Option.bind (iter (y45 lo y_ r0) big ((IntKind.wrap .u64 (Int.tdiv (IntKind.wrap .u64 (↑(BitVec.toNat (BitVec.ofInt (IntKind.bits .u64) (IntKind.wrap .u64 (hi * (2 : Int) ^ min (Int.toNat (IntKind.wrap .u64 r0)) (IntKind.bits .u64))) ||| BitVec.ofInt (IntKind.bits .u64) (Int.fdiv lo ((2 : Int) ^ min (Int.toNat (IntKind.wrap .u64 ((64 : Int) - IntKind.wrap .u64 r0))) (IntKind.bits .u64))))) : Int)) (Int.fdiv (IntKind.wrap .u64 (y_ * (2 : Int) ^ min (Int.toNat (IntKind.wrap .u64 r0)) (IntKind.bits .u64))) ((2 : Int) ^ min (32 : Nat) (IntKind.bits .u64)))), IntKind.wrap .u64 (IntKind.wrap .u64 (↑(BitVec.toNat (BitVec.ofInt (IntKind.bits .u64) (IntKind.wrap .u64 (hi * (2 : Int) ^ min (Int.toNat (IntKind.wrap .u64 r0)) (IntKind.bits .u64))) ||| BitVec.ofInt (IntKind.bits .u64) (Int.fdiv lo ((2 : Int) ^ min (Int.toNat (IntKind.wrap .u64 ((64 : Int) - IntKind.wrap .u64 r0))) (IntKind.bits .u64))))) : Int) - IntKind.wrap .u64 (IntKind.wrap .u64 (Int.tdiv (IntKind.wrap .u64 (↑(BitVec.toNat (BitVec.ofInt (IntKind.bits .u64) (IntKind.wrap .u64 (hi * (2 : Int) ^ min (Int.toNat (IntKind.wrap .u64 r0)) (IntKind.bits .u64))) ||| BitVec.ofInt (IntKind.bits .u64) (Int.fdiv lo ((2 : Int) ^ min (Int.toNat (IntKind.wrap .u64 ((64 : Int) - IntKind.wrap .u64 r0))) (IntKind.bits .u64))))) : Int)) (Int.fdiv (IntKind.wrap .u64 (y_ * (2 : Int) ^ min (Int.toNat (IntKind.wrap .u64 r0)) (IntKind.bits .u64))) ((2 : Int) ^ min (32 : Nat) (IntKind.bits .u64)))) * Int.fdiv (IntKind.wrap .u64 (y_ * (2 : Int) ^ min (Int.toNat (IntKind.wrap .u64 r0)) (IntKind.bits .u64))) ((2 : Int) ^ min (32 : Nat) (IntKind.bits .u64))))))) (y46 hi lo y_ r0)
         else none
        else none
       else none
      else none
     else none
def y119 : List A → Option (Prop × List RV)
  | [.d (.i .u64 hi), .d (.i .u64 lo), .d (.i .u64 y_)] => some (ok (y40 hi lo y_), [.d (.i .u64 ((val (y40 hi lo y_)).1)), .d (.i .u64 ((val (y40 hi lo y_)).2))])
  | _ => none
abbrev sp_89 : Specs → Specs := addK 89 true (pureK k_math_bits_Div64 y119)
set_option maxRecDepth 100000 in
private abbrev e0 (hi : Int) (lo : Int) (y_ : Int) : Int := IntKind.wrap .u64 (IntKind.wrap .u64 (↑(BitVec.toNat (BitVec.ofInt (IntKind.bits .u64) (IntKind.wrap .u64 (hi * (2 : Int) ^ min (Int.toNat (IntKind.wrap .u64 (val (y9 y_)))) (IntKind.bits .u64))) ||| BitVec.ofInt (IntKind.bits .u64) (Int.fdiv lo ((2 : Int) ^ min (Int.toNat (IntKind.wrap .u64 ((64 : Int) - IntKind.wrap .u64 (val (y9 y_))))) (IntKind.bits .u64))))) : Int) * (4294967296 : Int)) + Int.fdiv (IntKind.wrap .u64 (lo * (2 : Int) ^ min (Int.toNat (IntKind.wrap .u64 (val (y9 y_)))) (IntKind.bits .u64))) ((2 : Int) ^ min (32 : Nat) (IntKind.bits .u64))
private abbrev e1 (y_ : Int) : Int := IntKind.wrap .u64 (y_ * (2 : Int) ^ min (Int.toNat (IntKind.wrap .u64 (val (y9 y_)))) (IntKind.bits .u64))
private abbrev e2 (y_ : Int) : Int := IntKind.wrap .u64 (val (y9 y_))
private abbrev e3  : Int := (2 : Int) ^ min (32 : Nat) (IntKind.bits .u64)
private abbrev e4 (lo : Int) (y_ : Int) : Int := IntKind.wrap .u64 (lo * (2 : Int) ^ min (Int.toNat (e2 y_)) (IntKind.bits .u64))
private abbrev e5 (y_ : Int) : Int := val (y9 y_)
private abbrev e6 (lo : Int) (y_ : Int) : Int := Int.fdiv lo ((2 : Int) ^ min (Int.toNat (IntKind.wrap .u64 ((64 : Int) - IntKind.wrap .u64 (e5 y_)))) (IntKind.bits .u64))
private abbrev e7 (hi : Int) (y_ : Int) : Int := IntKind.wrap .u64 (hi * (2 : Int) ^ min (Int.toNat (e2 y_)) (IntKind.bits .u64))
private abbrev e8 (hi : Int) (lo : Int) (y_ : Int) : Int := IntKind.wrap .u64 (↑(BitVec.toNat (BitVec.ofInt (IntKind.bits .u64) (e7 hi y_) ||| BitVec.ofInt (IntKind.bits .u64) (e6 lo y_))) : Int)
private abbrev e9 (y_ : Int) : Int := (2 : Int) ^ min (Int.toNat (e2 y_)) (IntKind.bits .u64)
theorem math_bits_Div64_vc (hi : Int) (lo : Int) (y_ : Int) (r : Int × Int) (h : Option.bind (y40 hi lo y_) some = some r) : runF Tryd.f89 ((sp_99 sp0)) (fun gs id _ => match id with
 | 0 => some ⟨(Int × Int) × Nat, fun z => ⟨[(2, .w (.c (.d (.i .u64 (e1 y_))))), (8, .w (.c (.d (.i .u64 (e2 y_))))), (9, .w (.c (.d (.i .u64 (Int.fdiv (e1 y_) (e3 )))))), (10, .w (.c (.d (.i .u64 (IntKind.wrap .u64 (↑(BitVec.toNat (BitVec.ofInt (IntKind.bits .u64) (e1 y_) &&& BitVec.ofInt (IntKind.bits .u64) (4294967295 : Int))) : Int)))))), (11, .w (.c (.d (.i .u64 (e8 hi lo y_))))), (13, .w (.c (.d (.i .u64 (Int.fdiv (e4 lo y_) (e3 )))))), (14, .w (.c (.d (.i .u64 (IntKind.wrap .u64 (↑(BitVec.toNat (BitVec.ofInt (IntKind.bits .u64) (e4 lo y_) &&& BitVec.ofInt (IntKind.bits .u64) (4294967295 : Int))) : Int)))))), (15, .w (.c (.d (.i .u64 (Prod.fst (Prod.fst z)))))), (16, .w (.c (.d (.i .u64 (Prod.snd (Prod.fst z))))))], [], 3⟩, fun z => Option.bind (iter (y45 lo y_ (e5 y_)) (Prod.snd z) (Prod.fst z)) (fun y0 => Option.bind (y46 hi lo y_ (e5 y_) y0) some) = some r, fun z => Prod.snd z⟩
 | 2 => some ⟨Int × (Int × Int) × Nat, fun z => ⟨[(2, .w (.c (.d (.i .u64 (e1 y_))))), (8, .w (.c (.d (.i .u64 (e2 y_))))), (9, .w (.c (.d (.i .u64 (Int.fdiv (e1 y_) (e3 )))))), (10, .w (.c (.d (.i .u64 (IntKind.wrap .u64 (↑(BitVec.toNat (BitVec.ofInt (IntKind.bits .u64) (e1 y_) &&& BitVec.ofInt (IntKind.bits .u64) (4294967295 : Int))) : Int)))))), (14, .w (.c (.d (.i .u64 (IntKind.wrap .u64 (↑(BitVec.toNat (BitVec.ofInt (IntKind.bits .u64) (e4 lo y_) &&& BitVec.ofInt (IntKind.bits .u64) (4294967295 : Int))) : Int)))))), (15, .w (.c (.d (.i .u64 (Prod.fst z))))), (16, .w (.c (.d (.i .u64 (Prod.fst (Prod.fst (Prod.snd z))))))), (17, .w (.c (.d (.i .u64 (IntKind.wrap .u64 (IntKind.wrap .u64 (e0 hi lo y_) - IntKind.wrap .u64 (Prod.fst z * IntKind.wrap .u64 (y_ * (2 : Int) ^ min (Int.toNat (e2 y_)) (IntKind.bits .u64))))))))), (18, .w (.c (.d (.i .u64 (Prod.snd (Prod.fst (Prod.snd z)))))))], [], 3⟩, fun z => Option.bind (iter (y11 lo y_ (e5 y_)) (Prod.snd (Prod.snd z)) (Prod.fst (Prod.snd z))) (fun y0 => Option.bind (y12 hi lo y_ (Prod.fst z) (e5 y_) y0) some) = some r, fun z => Prod.snd (Prod.snd z)⟩
 | _ => none) [.d (.i .u64 hi), .d (.i .u64 lo), .d (.i .u64 y_)] [.d (.i .u64 r.1), .d (.i .u64 r.2)] := by
  refine Eq.mp (by kernel_rfl : (
 Br (y_ == (0 : Int))
   (False)
 (Br (decide (y_ ≤ hi))
   (False)
 (Br (hi == (0 : Int))
   ((Ob (y_ ≠ (0 : Int)) ∧
 (Ob (y_ ≠ (0 : Int)) ∧
 (Ob (True) ∧
 (Ob (True) ∧
 (Ob (IntKind.wrap .u64 (Int.tdiv lo y_) = r.1) ∧
 (Ob (Int.tmod lo y_ = r.2) ∧
 True)))))))
   ((Ob (ok (y9 y_)) ∧
 (Ob (True) ∧
 (Ob ((0 : Int) ≤ IntKind.wrap .u64 (e5 y_)) ∧
 (Ob ((0 : Int) ≤ (32 : Int)) ∧
 (Ob ((0 : Int) ≤ IntKind.wrap .u64 (e5 y_)) ∧
 (Ob ((0 : Int) ≤ IntKind.wrap .u64 ((64 : Int) - IntKind.wrap .u64 (e5 y_))) ∧
 (Ob ((0 : Int) ≤ IntKind.wrap .u64 (e5 y_)) ∧
 (Ob ((0 : Int) ≤ (32 : Int)) ∧
 (Ob (Int.fdiv (e1 y_) (e3 ) ≠ (0 : Int)) ∧
   ((∃ (v0 : (Int × Int) × Nat), (Ob ((Option.bind (iter (y45 lo y_ (e5 y_)) v0.2 v0.1) fun y0 => Option.bind (y46 hi lo y_ (e5 y_) y0) some) = some r) ∧
 (Ob (IntKind.wrap .u64 (y_ * (2 : Int) ^ min (Int.toNat (e2 y_)) (IntKind.bits .u64)) = IntKind.wrap .u64 (y_ * (2 : Int) ^ min (Int.toNat (e2 y_)) (IntKind.bits .u64))) ∧
 (Ob (IntKind.wrap .u64 (e5 y_) = IntKind.wrap .u64 (e5 y_)) ∧
 (Ob (Int.fdiv (e1 y_) (e3 ) = Int.fdiv (e1 y_) (e3 )) ∧
 (Ob (IntKind.wrap .u64 (↑(BitVec.toNat (BitVec.ofInt (IntKind.bits .u64) (e1 y_) &&& BitVec.ofInt (IntKind.bits .u64) (4294967295 : Int))) : Int) = IntKind.wrap .u64 (↑(BitVec.toNat (BitVec.ofInt (IntKind.bits .u64) (e1 y_) &&& BitVec.ofInt (IntKind.bits .u64) (4294967295 : Int))) : Int)) ∧
 (Ob (IntKind.wrap .u64 (↑(BitVec.toNat (BitVec.ofInt (IntKind.bits .u64) (e7 hi y_) ||| BitVec.ofInt (IntKind.bits .u64) (e6 lo y_))) : Int) = IntKind.wrap .u64 (↑(BitVec.toNat (BitVec.ofInt (IntKind.bits .u64) (e7 hi y_) ||| BitVec.ofInt (IntKind.bits .u64) (e6 lo y_))) : Int)) ∧
 (Ob (Int.fdiv (e4 lo y_) (e3 ) = Int.fdiv (e4 lo y_) (e3 )) ∧
 (Ob (IntKind.wrap .u64 (↑(BitVec.toNat (BitVec.ofInt (IntKind.bits .u64) (e4 lo y_) &&& BitVec.ofInt (IntKind.bits .u64) (4294967295 : Int))) : Int) = IntKind.wrap .u64 (↑(BitVec.toNat (BitVec.ofInt (IntKind.bits .u64) (e4 lo y_) &&& BitVec.ofInt (IntKind.bits .u64) (4294967295 : Int))) : Int)) ∧
 (Ob (IntKind.wrap .u64 (Int.tdiv (e8 hi lo y_) (Int.fdiv (e1 y_) (e3 ))) = v0.1.1) ∧
 (Ob (IntKind.wrap .u64 (IntKind.wrap .u64 (↑(BitVec.toNat (BitVec.ofInt (IntKind.bits .u64) (e7 hi y_) ||| BitVec.ofInt (IntKind.bits .u64) (e6 lo y_))) : Int) - IntKind.wrap .u64 (IntKind.wrap .u64 (Int.tdiv (e8 hi lo y_) (Int.fdiv (e1 y_) (e3 ))) * Int.fdiv (e1 y_) (e3 ))) = v0.1.2) ∧
 True))))))))))) ∧
   (∀ (v0 : (Int × Int) × Nat), ((Option.bind (iter (y45 lo y_ (e5 y_)) v0.2 v0.1) fun y0 => Option.bind (y46 hi lo y_ (e5 y_) y0) some) = some r →
 Br (decide (v0.1.1 ≥ (4294967296 : Int)))
 (Br (decide (IntKind.wrap .u64 (v0.1.2 + Int.fdiv (e1 y_) (e3 )) ≥ (4294967296 : Int)))
   ((Ob (Int.fdiv (e1 y_) (e3 ) ≠ (0 : Int)) ∧
   ((∃ (v1 : Int × (Int × Int) × Nat), (Ob ((Option.bind (iter (y11 lo y_ (e5 y_)) v1.2.2 v1.2.1) fun y0 => Option.bind (y12 hi lo y_ v1.1 (e5 y_) y0) some) = some r) ∧
 (Ob (IntKind.wrap .u64 (y_ * (2 : Int) ^ min (Int.toNat (e2 y_)) (IntKind.bits .u64)) = IntKind.wrap .u64 (y_ * (2 : Int) ^ min (Int.toNat (e2 y_)) (IntKind.bits .u64))) ∧
 (Ob (IntKind.wrap .u64 (e5 y_) = IntKind.wrap .u64 (e5 y_)) ∧
 (Ob (Int.fdiv (e1 y_) (e3 ) = Int.fdiv (e1 y_) (e3 )) ∧
 (Ob (IntKind.wrap .u64 (↑(BitVec.toNat (BitVec.ofInt (IntKind.bits .u64) (e1 y_) &&& BitVec.ofInt (IntKind.bits .u64) (4294967295 : Int))) : Int) = IntKind.wrap .u64 (↑(BitVec.toNat (BitVec.ofInt (IntKind.bits .u64) (e1 y_) &&& BitVec.ofInt (IntKind.bits .u64) (4294967295 : Int))) : Int)) ∧
 (Ob (IntKind.wrap .u64 (↑(BitVec.toNat (BitVec.ofInt (IntKind.bits .u64) (e4 lo y_) &&& BitVec.ofInt (IntKind.bits .u64) (4294967295 : Int))) : Int) = IntKind.wrap .u64 (↑(BitVec.toNat (BitVec.ofInt (IntKind.bits .u64) (e4 lo y_) &&& BitVec.ofInt (IntKind.bits .u64) (4294967295 : Int))) : Int)) ∧
 (Ob (IntKind.wrap .u64 (v0.1.1 - (1 : Int)) = v1.1) ∧
 (Ob (IntKind.wrap .u64 (IntKind.wrap .u64 (IntKind.wrap .u64 (e0 hi lo y_) - IntKind.wrap .u64 (IntKind.wrap .u64 (v0.1.1 - (1 : Int)) * IntKind.wrap .u64 (y_ * (2 : Int) ^ min (Int.toNat (e2 y_)) (IntKind.bits .u64)))) - IntKind.wrap .u64 (IntKind.wrap .u64 (Int.tdiv (IntKind.wrap .u64 (IntKind.wrap .u64 (e0 hi lo y_) - IntKind.wrap .u64 (IntKind.wrap .u64 (v0.1.1 - (1 : Int)) * IntKind.wrap .u64 (y_ * (2 : Int) ^ min (Int.toNat (e2 y_)) (IntKind.bits .u64))))) (Int.fdiv (e1 y_) (e3 ))) * Int.fdiv (e1 y_) (e3 ))) = v1.2.1.1) ∧
 (Ob (IntKind.wrap .u64 (IntKind.wrap .u64 (e0 hi lo y_) - IntKind.wrap .u64 (IntKind.wrap .u64 (v0.1.1 - (1 : Int)) * IntKind.wrap .u64 (y_ * (2 : Int) ^ min (Int.toNat (e2 y_)) (IntKind.bits .u64)))) = IntKind.wrap .u64 (IntKind.wrap .u64 (e0 hi lo y_) - IntKind.wrap .u64 (v1.1 * IntKind.wrap .u64 (y_ * (2 : Int) ^ min (Int.toNat (e2 y_)) (IntKind.bits .u64))))) ∧
 (Ob (IntKind.wrap .u64 (Int.tdiv (IntKind.wrap .u64 (IntKind.wrap .u64 (e0 hi lo y_) - IntKind.wrap .u64 (IntKind.wrap .u64 (v0.1.1 - (1 : Int)) * IntKind.wrap .u64 (y_ * (2 : Int) ^ min (Int.toNat (e2 y_)) (IntKind.bits .u64))))) (Int.fdiv (e1 y_) (e3 ))) = v1.2.1.2) ∧
 True))))))))))) ∧
   (∀ (v1 : Int × (Int × Int) × Nat), ((Option.bind (iter (y11 lo y_ (e5 y_)) v1.2.2 v1.2.1) fun y0 => Option.bind (y12 hi lo y_ v1.1 (e5 y_) y0) some) = some r →
 Br (decide (v1.2.1.2 ≥ (4294967296 : Int)))
 (Br (decide (IntKind.wrap .u64 (v1.2.1.1 + Int.fdiv (e1 y_) (e3 )) ≥ (4294967296 : Int)))
   ((Ob ((0 : Int) ≤ IntKind.wrap .u64 (e5 y_)) ∧
 (Ob (True) ∧
 (Ob (True) ∧
 (Ob (IntKind.wrap .u64 (IntKind.wrap .u64 (v1.1 * (4294967296 : Int)) + IntKind.wrap .u64 (v1.2.1.2 - (1 : Int))) = r.1) ∧
 (Ob (Int.fdiv (IntKind.wrap .u64 (IntKind.wrap .u64 (IntKind.wrap .u64 (IntKind.wrap .u64 (IntKind.wrap .u64 (e0 hi lo y_) - IntKind.wrap .u64 (v1.1 * IntKind.wrap .u64 (y_ * (2 : Int) ^ min (Int.toNat (e2 y_)) (IntKind.bits .u64)))) * (4294967296 : Int)) + IntKind.wrap .u64 (↑(BitVec.toNat (BitVec.ofInt (IntKind.bits .u64) (e4 lo y_) &&& BitVec.ofInt (IntKind.bits .u64) (4294967295 : Int))) : Int)) - IntKind.wrap .u64 (IntKind.wrap .u64 (v1.2.1.2 - (1 : Int)) * IntKind.wrap .u64 (y_ * (2 : Int) ^ min (Int.toNat (e2 y_)) (IntKind.bits .u64))))) (e9 y_) = r.2) ∧
 True))))))
   ((∃ (v2 : Int × (Int × Int) × Nat), (Ob ((Option.bind (iter (y11 lo y_ (e5 y_)) v2.2.2 v2.2.1) fun y0 => Option.bind (y12 hi lo y_ v2.1 (e5 y_) y0) some) = some r) ∧
 (Ob (v2.2.2 < v1.2.2) ∧
 (Ob (IntKind.wrap .u64 (y_ * (2 : Int) ^ min (Int.toNat (e2 y_)) (IntKind.bits .u64)) = IntKind.wrap .u64 (y_ * (2 : Int) ^ min (Int.toNat (e2 y_)) (IntKind.bits .u64))) ∧
 (Ob (IntKind.wrap .u64 (e5 y_) = IntKind.wrap .u64 (e5 y_)) ∧
 (Ob (Int.fdiv (e1 y_) (e3 ) = Int.fdiv (e1 y_) (e3 )) ∧
 (Ob (IntKind.wrap .u64 (↑(BitVec.toNat (BitVec.ofInt (IntKind.bits .u64) (e1 y_) &&& BitVec.ofInt (IntKind.bits .u64) (4294967295 : Int))) : Int) = IntKind.wrap .u64 (↑(BitVec.toNat (BitVec.ofInt (IntKind.bits .u64) (e1 y_) &&& BitVec.ofInt (IntKind.bits .u64) (4294967295 : Int))) : Int)) ∧
 (Ob (IntKind.wrap .u64 (↑(BitVec.toNat (BitVec.ofInt (IntKind.bits .u64) (e4 lo y_) &&& BitVec.ofInt (IntKind.bits .u64) (4294967295 : Int))) : Int) = IntKind.wrap .u64 (↑(BitVec.toNat (BitVec.ofInt (IntKind.bits .u64) (e4 lo y_) &&& BitVec.ofInt (IntKind.bits .u64) (4294967295 : Int))) : Int)) ∧
 (Ob (v1.1 = v2.1) ∧
 (Ob (IntKind.wrap .u64 (v1.2.1.1 + Int.fdiv (e1 y_) (e3 )) = v2.2.1.1) ∧
 (Ob (IntKind.wrap .u64 (IntKind.wrap .u64 (e0 hi lo y_) - IntKind.wrap .u64 (v1.1 * IntKind.wrap .u64 (y_ * (2 : Int) ^ min (Int.toNat (e2 y_)) (IntKind.bits .u64)))) = IntKind.wrap .u64 (IntKind.wrap .u64 (e0 hi lo y_) - IntKind.wrap .u64 (v2.1 * IntKind.wrap .u64 (y_ * (2 : Int) ^ min (Int.toNat (e2 y_)) (IntKind.bits .u64))))) ∧
 (Ob (IntKind.wrap .u64 (v1.2.1.2 - (1 : Int)) = v2.2.1.2) ∧
 True))))))))))))))
 (Br (decide (IntKind.wrap .u64 (v1.2.1.2 * IntKind.wrap .u64 (↑(BitVec.toNat (BitVec.ofInt (IntKind.bits .u64) (e1 y_) &&& BitVec.ofInt (IntKind.bits .u64) (4294967295 : Int))) : Int)) > IntKind.wrap .u64 (IntKind.wrap .u64 ((4294967296 : Int) * v1.2.1.1) + IntKind.wrap .u64 (↑(BitVec.toNat (BitVec.ofInt (IntKind.bits .u64) (e4 lo y_) &&& BitVec.ofInt (IntKind.bits .u64) (4294967295 : Int))) : Int))))
 (Br (decide (IntKind.wrap .u64 (v1.2.1.1 + Int.fdiv (e1 y_) (e3 )) ≥ (4294967296 : Int)))
   ((Ob ((0 : Int) ≤ IntKind.wrap .u64 (e5 y_)) ∧
 (Ob (True) ∧
 (Ob (True) ∧
 (Ob (IntKind.wrap .u64 (IntKind.wrap .u64 (v1.1 * (4294967296 : Int)) + IntKind.wrap .u64 (v1.2.1.2 - (1 : Int))) = r.1) ∧
 (Ob (Int.fdiv (IntKind.wrap .u64 (IntKind.wrap .u64 (IntKind.wrap .u64 (IntKind.wrap .u64 (IntKind.wrap .u64 (e0 hi lo y_) - IntKind.wrap .u64 (v1.1 * IntKind.wrap .u64 (y_ * (2 : Int) ^ min (Int.toNat (e2 y_)) (IntKind.bits .u64)))) * (4294967296 : Int)) + IntKind.wrap .u64 (↑(BitVec.toNat (BitVec.ofInt (IntKind.bits .u64) (e4 lo y_) &&& BitVec.ofInt (IntKind.bits .u64) (4294967295 : Int))) : Int)) - IntKind.wrap .u64 (IntKind.wrap .u64 (v1.2.1.2 - (1 : Int)) * IntKind.wrap .u64 (y_ * (2 : Int) ^ min (Int.toNat (e2 y_)) (IntKind.bits .u64))))) (e9 y_) = r.2) ∧
 True))))))
   ((∃ (v2 : Int × (Int × Int) × Nat), (Ob ((Option.bind (iter (y11 lo y_ (e5 y_)) v2.2.2 v2.2.1) fun y0 => Option.bind (y12 hi lo y_ v2.1 (e5 y_) y0) some) = some r) ∧
 (Ob (v2.2.2 < v1.2.2) ∧
 (Ob (IntKind.wrap .u64 (y_ * (2 : Int) ^ min (Int.toNat (e2 y_)) (IntKind.bits .u64)) = IntKind.wrap .u64 (y_ * (2 : Int) ^ min (Int.toNat (e2 y_)) (IntKind.bits .u64))) ∧
 (Ob (IntKind.wrap .u64 (e5 y_) = IntKind.wrap .u64 (e5 y_)) ∧
 (Ob (Int.fdiv (e1 y_) (e3 ) = Int.fdiv (e1 y_) (e3 )) ∧
 (Ob (IntKind.wrap .u64 (↑(BitVec.toNat (BitVec.ofInt (IntKind.bits .u64) (e1 y_) &&& BitVec.ofInt (IntKind.bits .u64) (4294967295 : Int))) : Int) = IntKind.wrap .u64 (↑(BitVec.toNat (BitVec.ofInt (IntKind.bits .u64) (e1 y_) &&& BitVec.ofInt (IntKind.bits .u64) (4294967295 : Int))) : Int)) ∧
 (Ob (IntKind.wrap .u64 (↑(BitVec.toNat (BitVec.ofInt (IntKind.bits .u64) (e4 lo y_) &&& BitVec.ofInt (IntKind.bits .u64) (4294967295 : Int))) : Int) = IntKind.wrap .u64 (↑(BitVec.toNat (BitVec.ofInt (IntKind.bits .u64) (e4 lo y_) &&& BitVec.ofInt (IntKind.bits .u64) (4294967295 : Int))) : Int)) ∧
 (Ob (v1.1 = v2.1) ∧
 (Ob (IntKind.wrap .u64 (v1.2.1.1 + Int.fdiv (e1 y_) (e3 )) = v2.2.1.1) ∧
 (Ob (IntKind.wrap .u64 (IntKind.wrap .u64 (e0 hi lo y_) - IntKind.wrap .u64 (v1.1 * IntKind.wrap .u64 (y_ * (2 : Int) ^ min (Int.toNat (e2 y_)) (IntKind.bits .u64)))) = IntKind.wrap .u64 (IntKind.wrap .u64 (e0 hi lo y_) - IntKind.wrap .u64 (v2.1 * IntKind.wrap .u64 (y_ * (2 : Int) ^ min (Int.toNat (e2 y_)) (IntKind.bits .u64))))) ∧
 (Ob (IntKind.wrap .u64 (v1.2.1.2 - (1 : Int)) = v2.2.1.2) ∧
 True))))))))))))))
   ((Ob ((0 : Int) ≤ IntKind.wrap .u64 (e5 y_)) ∧
 (Ob (True) ∧
 (Ob (True) ∧
 (Ob (IntKind.wrap .u64 (IntKind.wrap .u64 (v1.1 * (4294967296 : Int)) + v1.2.1.2) = r.1) ∧
 (Ob (Int.fdiv (IntKind.wrap .u64 (IntKind.wrap .u64 (IntKind.wrap .u64 (IntKind.wrap .u64 (IntKind.wrap .u64 (e0 hi lo y_) - IntKind.wrap .u64 (v1.1 * IntKind.wrap .u64 (y_ * (2 : Int) ^ min (Int.toNat (e2 y_)) (IntKind.bits .u64)))) * (4294967296 : Int)) + IntKind.wrap .u64 (↑(BitVec.toNat (BitVec.ofInt (IntKind.bits .u64) (e4 lo y_) &&& BitVec.ofInt (IntKind.bits .u64) (4294967295 : Int))) : Int)) - IntKind.wrap .u64 (v1.2.1.2 * IntKind.wrap .u64 (y_ * (2 : Int) ^ min (Int.toNat (e2 y_)) (IntKind.bits .u64))))) (e9 y_) = r.2) ∧
 True))))))))))))
   ((∃ (v1 : (Int × Int) × Nat), (Ob ((Option.bind (iter (y45 lo y_ (e5 y_)) v1.2 v1.1) fun y0 => Option.bind (y46 hi lo y_ (e5 y_) y0) some) = some r) ∧
 (Ob (v1.2 < v0.2) ∧
 (Ob (IntKind.wrap .u64 (y_ * (2 : Int) ^ min (Int.toNat (e2 y_)) (IntKind.bits .u64)) = IntKind.wrap .u64 (y_ * (2 : Int) ^ min (Int.toNat (e2 y_)) (IntKind.bits .u64))) ∧
 (Ob (IntKind.wrap .u64 (e5 y_) = IntKind.wrap .u64 (e5 y_)) ∧
 (Ob (Int.fdiv (e1 y_) (e3 ) = Int.fdiv (e1 y_) (e3 )) ∧
 (Ob (IntKind.wrap .u64 (↑(BitVec.toNat (BitVec.ofInt (IntKind.bits .u64) (e1 y_) &&& BitVec.ofInt (IntKind.bits .u64) (4294967295 : Int))) : Int) = IntKind.wrap .u64 (↑(BitVec.toNat (BitVec.ofInt (IntKind.bits .u64) (e1 y_) &&& BitVec.ofInt (IntKind.bits .u64) (4294967295 : Int))) : Int)) ∧
 (Ob (IntKind.wrap .u64 (↑(BitVec.toNat (BitVec.ofInt (IntKind.bits .u64) (e7 hi y_) ||| BitVec.ofInt (IntKind.bits .u64) (e6 lo y_))) : Int) = IntKind.wrap .u64 (↑(BitVec.toNat (BitVec.ofInt (IntKind.bits .u64) (e7 hi y_) ||| BitVec.ofInt (IntKind.bits .u64) (e6 lo y_))) : Int)) ∧
 (Ob (Int.fdiv (e4 lo y_) (e3 ) = Int.fdiv (e4 lo y_) (e3 )) ∧
 (Ob (IntKind.wrap .u64 (↑(BitVec.toNat (BitVec.ofInt (IntKind.bits .u64) (e4 lo y_) &&& BitVec.ofInt (IntKind.bits .u64) (4294967295 : Int))) : Int) = IntKind.wrap .u64 (↑(BitVec.toNat (BitVec.ofInt (IntKind.bits .u64) (e4 lo y_) &&& BitVec.ofInt (IntKind.bits .u64) (4294967295 : Int))) : Int)) ∧
 (Ob (IntKind.wrap .u64 (v0.1.1 - (1 : Int)) = v1.1.1) ∧
 (Ob (IntKind.wrap .u64 (v0.1.2 + Int.fdiv (e1 y_) (e3 )) = v1.1.2) ∧
 True))))))))))))))
 (Br (decide (IntKind.wrap .u64 (v0.1.1 * IntKind.wrap .u64 (↑(BitVec.toNat (BitVec.ofInt (IntKind.bits .u64) (e1 y_) &&& BitVec.ofInt (IntKind.bits .u64) (4294967295 : Int))) : Int)) > IntKind.wrap .u64 (IntKind.wrap .u64 ((4294967296 : Int) * v0.1.2) + Int.fdiv (e4 lo y_) (e3 ))))
 (Br (decide (IntKind.wrap .u64 (v0.1.2 + Int.fdiv (e1 y_) (e3 )) ≥ (4294967296 : Int)))
   ((Ob (Int.fdiv (e1 y_) (e3 ) ≠ (0 : Int)) ∧
   ((∃ (v1 : Int × (Int × Int) × Nat), (Ob ((Option.bind (iter (y11 lo y_ (e5 y_)) v1.2.2 v1.2.1) fun y0 => Option.bind (y12 hi lo y_ v1.1 (e5 y_) y0) some) = some r) ∧
 (Ob (IntKind.wrap .u64 (y_ * (2 : Int) ^ min (Int.toNat (e2 y_)) (IntKind.bits .u64)) = IntKind.wrap .u64 (y_ * (2 : Int) ^ min (Int.toNat (e2 y_)) (IntKind.bits .u64))) ∧
 (Ob (IntKind.wrap .u64 (e5 y_) = IntKind.wrap .u64 (e5 y_)) ∧
 (Ob (Int.fdiv (e1 y_) (e3 ) = Int.fdiv (e1 y_) (e3 )) ∧
 (Ob (IntKind.wrap .u64 (↑(BitVec.toNat (BitVec.ofInt (IntKind.bits .u64) (e1 y_) &&& BitVec.ofInt (IntKind.bits .u64) (4294967295 : Int))) : Int) = IntKind.wrap .u64 (↑(BitVec.toNat (BitVec.ofInt (IntKind.bits .u64) (e1 y_) &&& BitVec.ofInt (IntKind.bits .u64) (4294967295 : Int))) : Int)) ∧
 (Ob (IntKind.wrap .u64 (↑(BitVec.toNat (BitVec.ofInt (IntKind.bits .u64) (e4 lo y_) &&& BitVec.ofInt (IntKind.bits .u64) (4294967295 : Int))) : Int) = IntKind.wrap .u64 (↑(BitVec.toNat (BitVec.ofInt (IntKind.bits .u64) (e4 lo y_) &&& BitVec.ofInt (IntKind.bits .u64) (4294967295 : Int))) : Int)) ∧
 (Ob (IntKind.wrap .u64 (v0.1.1 - (1 : Int)) = v1.1) ∧
 (Ob (IntKind.wrap .u64 (IntKind.wrap .u64 (IntKind.wrap .u64 (e0 hi lo y_) - IntKind.wrap .u64 (IntKind.wrap .u64 (v0.1.1 - (1 : Int)) * IntKind.wrap .u64 (y_ * (2 : Int) ^ min (Int.toNat (e2 y_)) (IntKind.bits .u64)))) - IntKind.wrap .u64 (IntKind.wrap .u64 (Int.tdiv (IntKind.wrap .u64 (IntKind.wrap .u64 (e0 hi lo y_) - IntKind.wrap .u64 (IntKind.wrap .u64 (v0.1.1 - (1 : Int)) * IntKind.wrap .u64 (y_ * (2 : Int) ^ min (Int.toNat (e2 y_)) (IntKind.bits .u64))))) (Int.fdiv (e1 y_) (e3 ))) * Int.fdiv (e1 y_) (e3 ))) = v1.2.1.1) ∧
 (Ob (IntKind.wrap .u64 (IntKind.wrap .u64 (e0 hi lo y_) - IntKind.wrap .u64 (IntKind.wrap .u64 (v0.1.1 - (1 : Int)) * IntKind.wrap .u64 (y_ * (2 : Int) ^ min (Int.toNat (e2 y_)) (IntKind.bits .u64)))) = IntKind.wrap .u64 (IntKind.wrap .u64 (e0 hi lo y_) - IntKind.wrap .u64 (v1.1 * IntKind.wrap .u64 (y_ * (2 : Int) ^ min (Int.toNat (e2 y_)) (IntKind.bits .u64))))) ∧
 (Ob (IntKind.wrap .u64 (Int.tdiv (IntKind.wrap .u64 (IntKind.wrap .u64 (e0 hi lo y_) - IntKind.wrap .u64 (IntKind.wrap .u64 (v0.1.1 - (1 : Int)) * IntKind.wrap .u64 (y_ * (2 : Int) ^ min (Int.toNat (e2 y_)) (IntKind.bits .u64))))) (Int.fdiv (e1 y_) (e3 ))) = v1.2.1.2) ∧
 True))))))))))) ∧
   (∀ (v1 : Int × (Int × Int) × Nat), ((Option.bind (iter (y11 lo y_ (e5 y_)) v1.2.2 v1.2.1) fun y0 => Option.bind (y12 hi lo y_ v1.1 (e5 y_) y0) some) = some r →
 Br (decide (v1.2.1.2 ≥ (4294967296 : Int)))
 (Br (decide (IntKind.wrap .u64 (v1.2.1.1 + Int.fdiv (e1 y_) (e3 )) ≥ (4294967296 : Int)))
   ((Ob ((0 : Int) ≤ IntKind.wrap .u64 (e5 y_)) ∧
 (Ob (True) ∧
 (Ob (True) ∧
 (Ob (IntKind.wrap .u64 (IntKind.wrap .u64 (v1.1 * (4294967296 : Int)) + IntKind.wrap .u64 (v1.2.1.2 - (1 : Int))) = r.1) ∧
 (Ob (Int.fdiv (IntKind.wrap .u64 (IntKind.wrap .u64 (IntKind.wrap .u64 (IntKind.wrap .u64 (IntKind.wrap .u64 (e0 hi lo y_) - IntKind.wrap .u64 (v1.1 * IntKind.wrap .u64 (y_ * (2 : Int) ^ min (Int.toNat (e2 y_)) (IntKind.bits .u64)))) * (4294967296 : Int)) + IntKind.wrap .u64 (↑(BitVec.toNat (BitVec.ofInt (IntKind.bits .u64) (e4 lo y_) &&& BitVec.ofInt (IntKind.bits .u64) (4294967295 : Int))) : Int)) - IntKind.wrap .u64 (IntKind.wrap .u64 (v1.2.1.2 - (1 : Int)) * IntKind.wrap .u64 (y_ * (2 : Int) ^ min (Int.toNat (e2 y_)) (IntKind.bits .u64))))) (e9 y_) = r.2) ∧
 True))))))
   ((∃ (v2 : Int × (Int × Int) × Nat), (Ob ((Option.bind (iter (y11 lo y_ (e5 y_)) v2.2.2 v2.2.1) fun y0 => Option.bind (y12 hi lo y_ v2.1 (e5 y_) y0) some) = some r) ∧
 (Ob (v2.2.2 < v1.2.2) ∧
 (Ob (IntKind.wrap .u64 (y_ * (2 : Int) ^ min (Int.toNat (e2 y_)) (IntKind.bits .u64)) = IntKind.wrap .u64 (y_ * (2 : Int) ^ min (Int.toNat (e2 y_)) (IntKind.bits .u64))) ∧
 (Ob (IntKind.wrap .u64 (e5 y_) = IntKind.wrap .u64 (e5 y_)) ∧
 (Ob (Int.fdiv (e1 y_) (e3 ) = Int.fdiv (e1 y_) (e3 )) ∧
 (Ob (IntKind.wrap .u64 (↑(BitVec.toNat (BitVec.ofInt (IntKind.bits .u64) (e1 y_) &&& BitVec.ofInt (IntKind.bits .u64) (4294967295 : Int))) : Int) = IntKind.wrap .u64 (↑(BitVec.toNat (BitVec.ofInt (IntKind.bits .u64) (e1 y_) &&& BitVec.ofInt (IntKind.bits .u64) (4294967295 : Int))) : Int)) ∧
 (Ob (IntKind.wrap .u64 (↑(BitVec.toNat (BitVec.ofInt (IntKind.bits .u64) (e4 lo y_) &&& BitVec.ofInt (IntKind.bits .u64) (4294967295 : Int))) : Int) = IntKind.wrap .u64 (↑(BitVec.toNat (BitVec.ofInt (IntKind.bits .u64) (e4 lo y_) &&& BitVec.ofInt (IntKind.bits .u64) (4294967295 : Int))) : Int)) ∧
 (Ob (v1.1 = v2.1) ∧
 (Ob (IntKind.wrap .u64 (v1.2.1.1 + Int.fdiv (e1 y_) (e3 )) = v2.2.1.1) ∧
 (Ob (IntKind.wrap .u64 (IntKind.wrap .u64 (e0 hi lo y_) - IntKind.wrap .u64 (v1.1 * IntKind.wrap .u64 (y_ * (2 : Int) ^ min (Int.toNat (e2 y_)) (IntKind.bits .u64)))) = IntKind.wrap .u64 (IntKind.wrap .u64 (e0 hi lo y_) - IntKind.wrap .u64 (v2.1 * IntKind.wrap .u64 (y_ * (2 : Int) ^ min (Int.toNat (e2 y_)) (IntKind.bits .u64))))) ∧
 (Ob (IntKind.wrap .u64 (v1.2.1.2 - (1 : Int)) = v2.2.1.2) ∧
 True))))))))))))))
 (Br (decide (IntKind.wrap .u64 (v1.2.1.2 * IntKind.wrap .u64 (↑(BitVec.toNat (BitVec.ofInt (IntKind.bits .u64) (e1 y_) &&& BitVec.ofInt (IntKind.bits .u64) (4294967295 : Int))) : Int)) > IntKind.wrap .u64 (IntKind.wrap .u64 ((4294967296 : Int) * v1.2.1.1) + IntKind.wrap .u64 (↑(BitVec.toNat (BitVec.ofInt (IntKind.bits .u64) (e4 lo y_) &&& BitVec.ofInt (IntKind.bits .u64) (4294967295 : Int))) : Int))))
 (Br (decide (IntKind.wrap .u64 (v1.2.1.1 + Int.fdiv (e1 y_) (e3 )) ≥ (4294967296 : Int)))
   ((Ob ((0 : Int) ≤ IntKind.wrap .u64 (e5 y_)) ∧
 (Ob (True) ∧
 (Ob (True) ∧
 (Ob (IntKind.wrap .u64 (IntKind.wrap .u64 (v1.1 * (4294967296 : Int)) + IntKind.wrap .u64 (v1.2.1.2 - (1 : Int))) = r.1) ∧
 (Ob (Int.fdiv (IntKind.wrap .u64 (IntKind.wrap .u64 (IntKind.wrap .u64 (IntKind.wrap .u64 (IntKind.wrap .u64 (e0 hi lo y_) - IntKind.wrap .u64 (v1.1 * IntKind.wrap .u64 (y_ * (2 : Int) ^ min (Int.toNat (e2 y_)) (IntKind.bits .u64)))) * (4294967296 : Int)) + IntKind.wrap .u64 (↑(BitVec.toNat (BitVec.ofInt (IntKind.bits .u64) (e4 lo y_) &&& BitVec.ofInt (IntKind.bits .u64) (4294967295 : Int))) : Int)) - IntKind.wrap .u64 (IntKind.wrap .u64 (v1.2.1.2 - (1 : Int)) * IntKind.wrap .u64 (y_ * (2 : Int) ^ min (Int.toNat (e2 y_)) (IntKind.bits .u64))))) (e9 y_) = r.2) ∧
 True))))))
   ((∃ (v2 : Int × (Int × Int) × Nat), (Ob ((Option.bind (iter (y11 lo y_ (e5 y_)) v2.2.2 v2.2.1) fun y0 => Option.bind (y12 hi lo y_ v2.1 (e5 y_) y0) some) = some r) ∧
 (Ob (v2.2.2 < v1.2.2) ∧
 (Ob (IntKind.wrap .u64 (y_ * (2 : Int) ^ min (Int.toNat (e2 y_)) (IntKind.bits .u64)) = IntKind.wrap .u64 (y_ * (2 : Int) ^ min (Int.toNat (e2 y_)) (IntKind.bits .u64))) ∧
 (Ob (IntKind.wrap .u64 (e5 y_) = IntKind.wrap .u64 (e5 y_)) ∧
 (Ob (Int.fdiv (e1 y_) (e3 ) = Int.fdiv (e1 y_) (e3 )) ∧
 (Ob (IntKind.wrap .u64 (↑(BitVec.toNat (BitVec.ofInt (IntKind.bits .u64) (e1 y_) &&& BitVec.ofInt (IntKind.bits .u64) (4294967295 : Int))) : Int) = IntKind.wrap .u64 (↑(BitVec.toNat (BitVec.ofInt (IntKind.bits .u64) (e1 y_) &&& BitVec.ofInt (IntKind.bits .u64) (4294967295 : Int))) : Int)) ∧
 (Ob (IntKind.wrap .u64 (↑(BitVec.toNat (BitVec.ofInt (IntKind.bits .u64) (e4 lo y_) &&& BitVec.ofInt (IntKind.bits .u64) (4294967295 : Int))) : Int) = IntKind.wrap .u64 (↑(BitVec.toNat (BitVec.ofInt (IntKind.bits .u64) (e4 lo y_) &&& BitVec.ofInt (IntKind.bits .u64) (4294967295 : Int))) : Int)) ∧
 (Ob (v1.1 = v2.1) ∧
 (Ob (IntKind.wrap .u64 (v1.2.1.1 + Int.fdiv (e1 y_) (e3 )) = v2.2.1.1) ∧
 (Ob (IntKind.wrap .u64 (IntKind.wrap .u64 (e0 hi lo y_) - IntKind.wrap .u64 (v1.1 * IntKind.wrap .u64 (y_ * (2 : Int) ^ min (Int.toNat (e2 y_)) (IntKind.bits .u64)))) = IntKind.wrap .u64 (IntKind.wrap .u64 (e0 hi lo y_) - IntKind.wrap .u64 (v2.1 * IntKind.wrap .u64 (y_ * (2 : Int) ^ min (Int.toNat (e2 y_)) (IntKind.bits .u64))))) ∧
 (Ob (IntKind.wrap .u64 (v1.2.1.2 - (1 : Int)) = v2.2.1.2) ∧
 True))))))))))))))
   ((Ob ((0 : Int) ≤ IntKind.wrap .u64 (e5 y_)) ∧
 (Ob (True) ∧
 (Ob (True) ∧
 (Ob (IntKind.wrap .u64 (IntKind.wrap .u64 (v1.1 * (4294967296 : Int)) + v1.2.1.2) = r.1) ∧
 (Ob (Int.fdiv (IntKind.wrap .u64 (IntKind.wrap .u64 (IntKind.wrap .u64 (IntKind.wrap .u64 (IntKind.wrap .u64 (e0 hi lo y_) - IntKind.wrap .u64 (v1.1 * IntKind.wrap .u64 (y_ * (2 : Int) ^ min (Int.toNat (e2 y_)) (IntKind.bits .u64)))) * (4294967296 : Int)) + IntKind.wrap .u64 (↑(BitVec.toNat (BitVec.ofInt (IntKind.bits .u64) (e4 lo y_) &&& BitVec.ofInt (IntKind.bits .u64) (4294967295 : Int))) : Int)) - IntKind.wrap .u64 (v1.2.1.2 * IntKind.wrap .u64 (y_ * (2 : Int) ^ min (Int.toNat (e2 y_)) (IntKind.bits .u64))))) (e9 y_) = r.2) ∧
 True))))))))))))
   ((∃ (v1 : (Int × Int) × Nat), (Ob ((Option.bind (iter (y45 lo y_ (e5 y_)) v1.2 v1.1) fun y0 => Option.bind (y46 hi lo y_ (e5 y_) y0) some) = some r) ∧
 (Ob (v1.2 < v0.2) ∧
 (Ob (IntKind.wrap .u64 (y_ * (2 : Int) ^ min (Int.toNat (e2 y_)) (IntKind.bits .u64)) = IntKind.wrap .u64 (y_ * (2 : Int) ^ min (Int.toNat (e2 y_)) (IntKind.bits .u64))) ∧
 (Ob (IntKind.wrap .u64 (e5 y_) = IntKind.wrap .u64 (e5 y_)) ∧
 (Ob (Int.fdiv (e1 y_) (e3 ) = Int.fdiv (e1 y_) (e3 )) ∧
 (Ob (IntKind.wrap .u64 (↑(BitVec.toNat (BitVec.ofInt (IntKind.bits .u64) (e1 y_) &&& BitVec.ofInt (IntKind.bits .u64) (4294967295 : Int))) : Int) = IntKind.wrap .u64 (↑(BitVec.toNat (BitVec.ofInt (IntKind.bits .u64) (e1 y_) &&& BitVec.ofInt (IntKind.bits .u64) (4294967295 : Int))) : Int)) ∧
 (Ob (IntKind.wrap .u64 (↑(BitVec.toNat (BitVec.ofInt (IntKind.bits .u64) (e7 hi y_) ||| BitVec.ofInt (IntKind.bits .u64) (e6 lo y_))) : Int) = IntKind.wrap .u64 (↑(BitVec.toNat (BitVec.ofInt (IntKind.bits .u64) (e7 hi y_) ||| BitVec.ofInt (IntKind.bits .u64) (e6 lo y_))) : Int)) ∧
 (Ob (Int.fdiv (e4 lo y_) (e3 ) = Int.fdiv (e4 lo y_) (e3 )) ∧
 (Ob (IntKind.wrap .u64 (↑(BitVec.toNat (BitVec.ofInt (IntKind.bits .u64) (e4 lo y_) &&& BitVec.ofInt (IntKind.bits .u64) (4294967295 : Int))) : Int) = IntKind.wrap .u64 (↑(BitVec.toNat (BitVec.ofInt (IntKind.bits .u64) (e4 lo y_) &&& BitVec.ofInt (IntKind.bits .u64) (4294967295 : Int))) : Int)) ∧
 (Ob (IntKind.wrap .u64 (v0.1.1 - (1 : Int)) = v1.1.1) ∧
 (Ob (IntKind.wrap .u64 (v0.1.2 + Int.fdiv (e1 y_) (e3 )) = v1.1.2) ∧
 True))))))))))))))
   ((Ob (Int.fdiv (e1 y_) (e3 ) ≠ (0 : Int)) ∧
   ((∃ (v1 : Int × (Int × Int) × Nat), (Ob ((Option.bind (iter (y11 lo y_ (e5 y_)) v1.2.2 v1.2.1) fun y0 => Option.bind (y12 hi lo y_ v1.1 (e5 y_) y0) some) = some r) ∧
 (Ob (IntKind.wrap .u64 (y_ * (2 : Int) ^ min (Int.toNat (e2 y_)) (IntKind.bits .u64)) = IntKind.wrap .u64 (y_ * (2 : Int) ^ min (Int.toNat (e2 y_)) (IntKind.bits .u64))) ∧
 (Ob (IntKind.wrap .u64 (e5 y_) = IntKind.wrap .u64 (e5 y_)) ∧
 (Ob (Int.fdiv (e1 y_) (e3 ) = Int.fdiv (e1 y_) (e3 )) ∧
 (Ob (IntKind.wrap .u64 (↑(BitVec.toNat (BitVec.ofInt (IntKind.bits .u64) (e1 y_) &&& BitVec.ofInt (IntKind.bits .u64) (4294967295 : Int))) : Int) = IntKind.wrap .u64 (↑(BitVec.toNat (BitVec.ofInt (IntKind.bits .u64) (e1 y_) &&& BitVec.ofInt (IntKind.bits .u64) (4294967295 : Int))) : Int)) ∧
 (Ob (IntKind.wrap .u64 (↑(BitVec.toNat (BitVec.ofInt (IntKind.bits .u64) (e4 lo y_) &&& BitVec.ofInt (IntKind.bits .u64) (4294967295 : Int))) : Int) = IntKind.wrap .u64 (↑(BitVec.toNat (BitVec.ofInt (IntKind.bits .u64) (e4 lo y_) &&& BitVec.ofInt (IntKind.bits .u64) (4294967295 : Int))) : Int)) ∧
 (Ob (v0.1.1 = v1.1) ∧
 (Ob (IntKind.wrap .u64 (IntKind.wrap .u64 (IntKind.wrap .u64 (e0 hi lo y_) - IntKind.wrap .u64 (v0.1.1 * IntKind.wrap .u64 (y_ * (2 : Int) ^ min (Int.toNat (e2 y_)) (IntKind.bits .u64)))) - IntKind.wrap .u64 (IntKind.wrap .u64 (Int.tdiv (IntKind.wrap .u64 (IntKind.wrap .u64 (e0 hi lo y_) - IntKind.wrap .u64 (v0.1.1 * IntKind.wrap .u64 (y_ * (2 : Int) ^ min (Int.toNat (e2 y_)) (IntKind.bits .u64))))) (Int.fdiv (e1 y_) (e3 ))) * Int.fdiv (e1 y_) (e3 ))) = v1.2.1.1) ∧
 (Ob (IntKind.wrap .u64 (IntKind.wrap .u64 (e0 hi lo y_) - IntKind.wrap .u64 (v0.1.1 * IntKind.wrap .u64 (y_ * (2 : Int) ^ min (Int.toNat (e2 y_)) (IntKind.bits .u64)))) = IntKind.wrap .u64 (IntKind.wrap .u64 (e0 hi lo y_) - IntKind.wrap .u64 (v1.1 * IntKind.wrap .u64 (y_ * (2 : Int) ^ min (Int.toNat (e2 y_)) (IntKind.bits .u64))))) ∧
 (Ob (IntKind.wrap .u64 (Int.tdiv (IntKind.wrap .u64 (IntKind.wrap .u64 (e0 hi lo y_) - IntKind.wrap .u64 (v0.1.1 * IntKind.wrap .u64 (y_ * (2 : Int) ^ min (Int.toNat (e2 y_)) (IntKind.bits .u64))))) (Int.fdiv (e1 y_) (e3 ))) = v1.2.1.2) ∧
 True))))))))))) ∧
   (∀ (v1 : Int × (Int × Int) × Nat), ((Option.bind (iter (y11 lo y_ (e5 y_)) v1.2.2 v1.2.1) fun y0 => Option.bind (y12 hi lo y_ v1.1 (e5 y_) y0) some) = some r →
 Br (decide (v1.2.1.2 ≥ (4294967296 : Int)))
 (Br (decide (IntKind.wrap .u64 (v1.2.1.1 + Int.fdiv (e1 y_) (e3 )) ≥ (4294967296 : Int)))
   ((Ob ((0 : Int) ≤ IntKind.wrap .u64 (e5 y_)) ∧
 (Ob (True) ∧
 (Ob (True) ∧
 (Ob (IntKind.wrap .u64 (IntKind.wrap .u64 (v1.1 * (4294967296 : Int)) + IntKind.wrap .u64 (v1.2.1.2 - (1 : Int))) = r.1) ∧
 (Ob (Int.fdiv (IntKind.wrap .u64 (IntKind.wrap .u64 (IntKind.wrap .u64 (IntKind.wrap .u64 (IntKind.wrap .u64 (e0 hi lo y_) - IntKind.wrap .u64 (v1.1 * IntKind.wrap .u64 (y_ * (2 : Int) ^ min (Int.toNat (e2 y_)) (IntKind.bits .u64)))) * (4294967296 : Int)) + IntKind.wrap .u64 (↑(BitVec.toNat (BitVec.ofInt (IntKind.bits .u64) (e4 lo y_) &&& BitVec.ofInt (IntKind.bits .u64) (4294967295 : Int))) : Int)) - IntKind.wrap .u64 (IntKind.wrap .u64 (v1.2.1.2 - (1 : Int)) * IntKind.wrap .u64 (y_ * (2 : Int) ^ min (Int.toNat (e2 y_)) (IntKind.bits .u64))))) (e9 y_) = r.2) ∧
 True))))))
   ((∃ (v2 : Int × (Int × Int) × Nat), (Ob ((Option.bind (iter (y11 lo y_ (e5 y_)) v2.2.2 v2.2.1) fun y0 => Option.bind (y12 hi lo y_ v2.1 (e5 y_) y0) some) = some r) ∧
 (Ob (v2.2.2 < v1.2.2) ∧
 (Ob (IntKind.wrap .u64 (y_ * (2 : Int) ^ min (Int.toNat (e2 y_)) (IntKind.bits .u64)) = IntKind.wrap .u64 (y_ * (2 : Int) ^ min (Int.toNat (e2 y_)) (IntKind.bits .u64))) ∧
 (Ob (IntKind.wrap .u64 (e5 y_) = IntKind.wrap .u64 (e5 y_)) ∧
 (Ob (Int.fdiv (e1 y_) (e3 ) = Int.fdiv (e1 y_) (e3 )) ∧
 (Ob (IntKind.wrap .u64 (↑(BitVec.toNat (BitVec.ofInt (IntKind.bits .u64) (e1 y_) &&& BitVec.ofInt (IntKind.bits .u64) (4294967295 : Int))) : Int) = IntKind.wrap .u64 (↑(BitVec.toNat (BitVec.ofInt (IntKind.bits .u64) (e1 y_) &&& BitVec.ofInt (IntKind.bits .u64) (4294967295 : Int))) : Int)) ∧
 (Ob (IntKind.wrap .u64 (↑(BitVec.toNat (BitVec.ofInt (IntKind.bits .u64) (e4 lo y_) &&& BitVec.ofInt (IntKind.bits .u64) (4294967295 : Int))) : Int) = IntKind.wrap .u64 (↑(BitVec.toNat (BitVec.ofInt (IntKind.bits .u64) (e4 lo y_) &&& BitVec.ofInt (IntKind.bits .u64) (4294967295 : Int))) : Int)) ∧
 (Ob (v1.1 = v2.1) ∧
 (Ob (IntKind.wrap .u64 (v1.2.1.1 + Int.fdiv (e1 y_) (e3 )) = v2.2.1.1) ∧
 (Ob (IntKind.wrap .u64 (IntKind.wrap .u64 (e0 hi lo y_) - IntKind.wrap .u64 (v1.1 * IntKind.wrap .u64 (y_ * (2 : Int) ^ min (Int.toNat (e2 y_)) (IntKind.bits .u64)))) = IntKind.wrap .u64 (IntKind.wrap .u64 (e0 hi lo y_) - IntKind.wrap .u64 (v2.1 * IntKind.wrap .u64 (y_ * (2 : Int) ^ min (Int.toNat (e2 y_)) (IntKind.bits .u64))))) ∧
 (Ob (IntKind.wrap .u64 (v1.2.1.2 - (1 : Int)) = v2.2.1.2) ∧
 True))))))))))))))
 (Br (decide (IntKind.wrap .u64 (v1.2.1.2 * IntKind.wrap .u64 (↑(BitVec.toNat (BitVec.ofInt (IntKind.bits .u64) (e1 y_) &&& BitVec.ofInt (IntKind.bits .u64) (4294967295 : Int))) : Int)) > IntKind.wrap .u64 (IntKind.wrap .u64 ((4294967296 : Int) * v1.2.1.1) + IntKind.wrap .u64 (↑(BitVec.toNat (BitVec.ofInt (IntKind.bits .u64) (e4 lo y_) &&& BitVec.ofInt (IntKind.bits .u64) (4294967295 : Int))) : Int))))
 (Br (decide (IntKind.wrap .u64 (v1.2.1.1 + Int.fdiv (e1 y_) (e3 )) ≥ (4294967296 : Int)))
   ((Ob ((0 : Int) ≤ IntKind.wrap .u64 (e5 y_)) ∧
 (Ob (True) ∧
 (Ob (True) ∧
 (Ob (IntKind.wrap .u64 (IntKind.wrap .u64 (v1.1 * (4294967296 : Int)) + IntKind.wrap .u64 (v1.2.1.2 - (1 : Int))) = r.1) ∧
 (Ob (Int.fdiv (IntKind.wrap .u64 (IntKind.wrap .u64 (IntKind.wrap .u64 (IntKind.wrap .u64 (IntKind.wrap .u64 (e0 hi lo y_) - IntKind.wrap .u64 (v1.1 * IntKind.wrap .u64 (y_ * (2 : Int) ^ min (Int.toNat (e2 y_)) (IntKind.bits .u64)))) * (4294967296 : Int)) + IntKind.wrap .u64 (↑(BitVec.toNat (BitVec.ofInt (IntKind.bits .u64) (e4 lo y_) &&& BitVec.ofInt (IntKind.bits .u64) (4294967295 : Int))) : Int)) - IntKind.wrap .u64 (IntKind.wrap .u64 (v1.2.1.2 - (1 : Int)) * IntKind.wrap .u64 (y_ * (2 : Int) ^ min (Int.toNat (e2 y_)) (IntKind.bits .u64))))) (e9 y_) = r.2) ∧
 True))))))
   ((∃ (v2 : Int × (Int × Int) × Nat), (Ob ((Option.bind (iter (y11 lo y_ (e5 y_)) v2.2.2 v2.2.1) fun y0 => Option.bind (y12 hi lo y_ v2.1 (e5 y_) y0) some) = some r) ∧
 (Ob (v2.2.2 < v1.2.2) ∧
 (Ob (IntKind.wrap .u64 (y_ * (2 : Int) ^ min (Int.toNat (e2 y_)) (IntKind.bits .u64)) = IntKind.wrap .u64 (y_ * (2 : Int) ^ min (Int.toNat (e2 y_)) (IntKind.bits .u64))) ∧
 (Ob (IntKind.wrap .u64 (e5 y_) = IntKind.wrap .u64 (e5 y_)) ∧
 (Ob (Int.fdiv (e1 y_) (e3 ) = Int.fdiv (e1 y_) (e3 )) ∧
 (Ob (IntKind.wrap .u64 (↑(BitVec.toNat (BitVec.ofInt (IntKind.bits .u64) (e1 y_) &&& BitVec.ofInt (IntKind.bits .u64) (4294967295 : Int))) : Int) = IntKind.wrap .u64 (↑(BitVec.toNat (BitVec.ofInt (IntKind.bits .u64) (e1 y_) &&& BitVec.ofInt (IntKind.bits .u64) (4294967295 : Int))) : Int)) ∧
 (Ob (IntKind.wrap .u64 (↑(BitVec.toNat (BitVec.ofInt (IntKind.bits .u64) (e4 lo y_) &&& BitVec.ofInt (IntKind.bits .u64) (4294967295 : Int))) : Int) = IntKind.wrap .u64 (↑(BitVec.toNat (BitVec.ofInt (IntKind.bits .u64) (e4 lo y_) &&& BitVec.ofInt (IntKind.bits .u64) (4294967295 : Int))) : Int)) ∧
 (Ob (v1.1 = v2.1) ∧
 (Ob (IntKind.wrap .u64 (v1.2.1.1 + Int.fdiv (e1 y_) (e3 )) = v2.2.1.1) ∧
 (Ob (IntKind.wrap .u64 (IntKind.wrap .u64 (e0 hi lo y_) - IntKind.wrap .u64 (v1.1 * IntKind.wrap .u64 (y_ * (2 : Int) ^ min (Int.toNat (e2 y_)) (IntKind.bits .u64)))) = IntKind.wrap .u64 (IntKind.wrap .u64 (e0 hi lo y_) - IntKind.wrap .u64 (v2.1 * IntKind.wrap .u64 (y_ * (2 : Int) ^ min (Int.toNat (e2 y_)) (IntKind.bits .u64))))) ∧
 (Ob (IntKind.wrap .u64 (v1.2.1.2 - (1 : Int)) = v2.2.1.2) ∧
 True))))))))))))))
   ((Ob ((0 : Int) ≤ IntKind.wrap .u64 (e5 y_)) ∧
 (Ob (True) ∧
 (Ob (True) ∧
 (Ob (IntKind.wrap .u64 (IntKind.wrap .u64 (v1.1 * (4294967296 : Int)) + v1.2.1.2) = r.1) ∧
 (Ob (Int.fdiv (IntKind.wrap .u64 (IntKind.wrap .u64 (IntKind.wrap .u64 (IntKind.wrap .u64 (IntKind.wrap .u64 (e0 hi lo y_) - IntKind.wrap .u64 (v1.1 * IntKind.wrap .u64 (y_ * (2 : Int) ^ min (Int.toNat (e2 y_)) (IntKind.bits .u64)))) * (4294967296 : Int)) + IntKind.wrap .u64 (↑(BitVec.toNat (BitVec.ofInt (IntKind.bits .u64) (e4 lo y_) &&& BitVec.ofInt (IntKind.bits .u64) (4294967295 : Int))) : Int)) - IntKind.wrap .u64 (v1.2.1.2 * IntKind.wrap .u64 (y_ * (2 : Int) ^ min (Int.toNat (e2 y_)) (IntKind.bits .u64))))) (e9 y_) = r.2) ∧
 True))))))))))))))))))))))))))))) = _) ?_
  refine br_b h (fun h => ?_) (fun h => ?_)
  · exact nomatch h
  · refine br_d h (fun h => ?_) (fun h => ?_)
    · exact nomatch h
    · refine br_b h (fun h => ?_) (fun h => ?_)
      · refine ob_s h fun h => ?_
        refine ob_s h fun h => ?_
        refine ob_t ?_
        refine ob_t ?_
        exact ret_s h (fun e => by subst e; exact (by repeat' (first | exact trivial | exact ⟨rfl⟩ | refine And.intro ?_ ?_)))
      · refine call_s h fun h => ?_
        refine ob_t ?_
        refine ob_s h fun h => ?_
        refine ob_c (p := (0 : Int) ≤ (32 : Int)) (by decide) ?_
        refine ob_s h fun h => ?_
        refine ob_s h fun h => ?_
        refine ob_s h fun h => ?_
        refine ob_c (p := (0 : Int) ≤ (32 : Int)) (by decide) ?_
        refine ob_s h fun h => ?_
        refine ⟨⟨((IntKind.wrap .u64 (Int.tdiv (e8 hi lo y_) (Int.fdiv (e1 y_) (e3 ))), IntKind.wrap .u64 (IntKind.wrap .u64 (↑(BitVec.toNat (BitVec.ofInt (IntKind.bits .u64) (e7 hi y_) ||| BitVec.ofInt (IntKind.bits .u64) (e6 lo y_))) : Int) - IntKind.wrap .u64 (IntKind.wrap .u64 (Int.tdiv (e8 hi lo y_) (Int.fdiv (e1 y_) (e3 ))) * Int.fdiv (e1 y_) (e3 )))), big), ⟨loop_s h⟩, (by repeat' (first | exact trivial | exact ⟨rfl⟩ | refine And.intro ?_ ?_))⟩, fun z1 hz1 => ?_⟩
        obtain ⟨k1, hm1, h⟩ := iter_pos hz1
        refine br_d h (fun h => ?_) (fun h => ?_)
        · refine br_d h (fun h => ?_) (fun h => ?_)
          · have h := exit_s h
            refine ob_s h fun h => ?_
            refine ⟨⟨(IntKind.wrap .u64 ((Prod.fst z1).1 - (1 : Int)), (IntKind.wrap .u64 (IntKind.wrap .u64 (IntKind.wrap .u64 (e0 hi lo y_) - IntKind.wrap .u64 (IntKind.wrap .u64 ((Prod.fst z1).1 - (1 : Int)) * IntKind.wrap .u64 (y_ * (2 : Int) ^ min (Int.toNat (e2 y_)) (IntKind.bits .u64)))) - IntKind.wrap .u64 (IntKind.wrap .u64 (Int.tdiv (IntKind.wrap .u64 (IntKind.wrap .u64 (e0 hi lo y_) - IntKind.wrap .u64 (IntKind.wrap .u64 ((Prod.fst z1).1 - (1 : Int)) * IntKind.wrap .u64 (y_ * (2 : Int) ^ min (Int.toNat (e2 y_)) (IntKind.bits .u64))))) (Int.fdiv (e1 y_) (e3 ))) * Int.fdiv (e1 y_) (e3 ))), IntKind.wrap .u64 (Int.tdiv (IntKind.wrap .u64 (IntKind.wrap .u64 (e0 hi lo y_) - IntKind.wrap .u64 (IntKind.wrap .u64 ((Prod.fst z1).1 - (1 : Int)) * IntKind.wrap .u64 (y_ * (2 : Int) ^ min (Int.toNat (e2 y_)) (IntKind.bits .u64))))) (Int.fdiv (e1 y_) (e3 )))), big), ⟨loop_s h⟩, (by repeat' (first | exact trivial | exact ⟨rfl⟩ | refine And.intro ?_ ?_))⟩, fun z2 hz2 => ?_⟩
            obtain ⟨k2, hm2, h⟩ := iter_pos hz2
            refine br_d h (fun h => ?_) (fun h => ?_)
            · refine br_d h (fun h => ?_) (fun h => ?_)
              · have h := exit_s h
                refine ob_s h fun h => ?_
                refine ob_t ?_
                refine ob_t ?_
                exact ret_s h (fun e => by subst e; exact (by repeat' (first | exact trivial | exact ⟨rfl⟩ | refine And.intro ?_ ?_)))
              · exact ⟨(Prod.fst z2, (IntKind.wrap .u64 ((Prod.fst (Prod.snd z2)).1 + Int.fdiv (e1 y_) (e3 )), IntKind.wrap .u64 ((Prod.fst (Prod.snd z2)).2 - (1 : Int))), k2), ⟨next_s h⟩, ⟨lt_gs hm2.symm⟩, (by repeat' (first | exact trivial | exact ⟨rfl⟩ | refine And.intro ?_ ?_))⟩
            · refine br_d h (fun h => ?_) (fun h => ?_)
              · refine br_d h (fun h => ?_) (fun h => ?_)
                · have h := exit_s h
                  refine ob_s h fun h => ?_
                  refine ob_t ?_
                  refine ob_t ?_
                  exact ret_s h (fun e => by subst e; exact (by repeat' (first | exact trivial | exact ⟨rfl⟩ | refine And.intro ?_ ?_)))
                · exact ⟨(Prod.fst z2, (IntKind.wrap .u64 ((Prod.fst (Prod.snd z2)).1 + Int.fdiv (e1 y_) (e3 )), IntKind.wrap .u64 ((Prod.fst (Prod.snd z2)).2 - (1 : Int))), k2), ⟨next_s h⟩, ⟨lt_gs hm2.symm⟩, (by repeat' (first | exact trivial | exact ⟨rfl⟩ | refine And.intro ?_ ?_))⟩
              · have h := exit_s h
                refine ob_s h fun h => ?_
                refine ob_t ?_
                refine ob_t ?_
                exact ret_s h (fun e => by subst e; exact (by repeat' (first | exact trivial | exact ⟨rfl⟩ | refine And.intro ?_ ?_)))
          · exact ⟨((IntKind.wrap .u64 ((Prod.fst z1).1 - (1 : Int)), IntKind.wrap .u64 ((Prod.fst z1).2 + Int.fdiv (e1 y_) (e3 ))), k1), ⟨next_s h⟩, ⟨lt_gs hm1.symm⟩, (by repeat' (first | exact trivial | exact ⟨rfl⟩ | refine And.intro ?_ ?_))⟩
        · refine br_d h (fun h => ?_) (fun h => ?_)
          · refine br_d h (fun h => ?_) (fun h => ?_)
            · have h := exit_s h
              refine ob_s h fun h => ?_
              refine ⟨⟨(IntKind.wrap .u64 ((Prod.fst z1).1 - (1 : Int)), (IntKind.wrap .u64 (IntKind.wrap .u64 (IntKind.wrap .u64 (e0 hi lo y_) - IntKind.wrap .u64 (IntKind.wrap .u64 ((Prod.fst z1).1 - (1 : Int)) * IntKind.wrap .u64 (y_ * (2 : Int) ^ min (Int.toNat (e2 y_)) (IntKind.bits .u64)))) - IntKind.wrap .u64 (IntKind.wrap .u64 (Int.tdiv (IntKind.wrap .u64 (IntKind.wrap .u64 (e0 hi lo y_) - IntKind.wrap .u64 (IntKind.wrap .u64 ((Prod.fst z1).1 - (1 : Int)) * IntKind.wrap .u64 (y_ * (2 : Int) ^ min (Int.toNat (e2 y_)) (IntKind.bits .u64))))) (Int.fdiv (e1 y_) (e3 ))) * Int.fdiv (e1 y_) (e3 ))), IntKind.wrap .u64 (Int.tdiv (IntKind.wrap .u64 (IntKind.wrap .u64 (e0 hi lo y_) - IntKind.wrap .u64 (IntKind.wrap .u64 ((Prod.fst z1).1 - (1 : Int)) * IntKind.wrap .u64 (y_ * (2 : Int) ^ min (Int.toNat (e2 y_)) (IntKind.bits .u64))))) (Int.fdiv (e1 y_) (e3 )))), big), ⟨loop_s h⟩, (by repeat' (first | exact trivial | exact ⟨rfl⟩ | refine And.intro ?_ ?_))⟩, fun z3 hz3 => ?_⟩
              obtain ⟨k3, hm3, h⟩ := iter_pos hz3
              refine br_d h (fun h => ?_) (fun h => ?_)
              · refine br_d h (fun h => ?_) (fun h => ?_)
                · have h := exit_s h
                  refine ob_s h fun h => ?_
                  refine ob_t ?_
                  refine ob_t ?_
                  exact ret_s h (fun e => by subst e; exact (by repeat' (first | exact trivial | exact ⟨rfl⟩ | refine And.intro ?_ ?_)))
                · exact ⟨(Prod.fst z3, (IntKind.wrap .u64 ((Prod.fst (Prod.snd z3)).1 + Int.fdiv (e1 y_) (e3 )), IntKind.wrap .u64 ((Prod.fst (Prod.snd z3)).2 - (1 : Int))), k3), ⟨next_s h⟩, ⟨lt_gs hm3.symm⟩, (by repeat' (first | exact trivial | exact ⟨rfl⟩ | refine And.intro ?_ ?_))⟩
              · refine br_d h (fun h => ?_) (fun h => ?_)
                · refine br_d h (fun h => ?_) (fun h => ?_)
                  · have h := exit_s h
                    refine ob_s h fun h => ?_
                    refine ob_t ?_
                    refine ob_t ?_
                    exact ret_s h (fun e => by subst e; exact (by repeat' (first | exact trivial | exact ⟨rfl⟩ | refine And.intro ?_ ?_)))
                  · exact ⟨(Prod.fst z3, (IntKind.wrap .u64 ((Prod.fst (Prod.snd z3)).1 + Int.fdiv (e1 y_) (e3 )), IntKind.wrap .u64 ((Prod.fst (Prod.snd z3)).2 - (1 : Int))), k3), ⟨next_s h⟩, ⟨lt_gs hm3.symm⟩, (by repeat' (first | exact trivial | exact ⟨rfl⟩ | refine And.intro ?_ ?_))⟩
                · have h := exit_s h
                  refine ob_s h fun h => ?_
                  refine ob_t ?_
                  refine ob_t ?_
                  exact ret_s h (fun e => by subst e; exact (by repeat' (first | exact trivial | exact ⟨rfl⟩ | refine And.intro ?_ ?_)))
            · exact ⟨((IntKind.wrap .u64 ((Prod.fst z1).1 - (1 : Int)), IntKind.wrap .u64 ((Prod.fst z1).2 + Int.fdiv (e1 y_) (e3 ))), k1), ⟨next_s h⟩, ⟨lt_gs hm1.symm⟩, (by repeat' (first | exact trivial | exact ⟨rfl⟩ | refine And.intro ?_ ?_))⟩
          · have h := exit_s h
            refine ob_s h fun h => ?_
            refine ⟨⟨((Prod.fst z1).1, (IntKind.wrap .u64 (IntKind.wrap .u64 (IntKind.wrap .u64 (e0 hi lo y_) - IntKind.wrap .u64 ((Prod.fst z1).1 * IntKind.wrap .u64 (y_ * (2 : Int) ^ min (Int.toNat (e2 y_)) (IntKind.bits .u64)))) - IntKind.wrap .u64 (IntKind.wrap .u64 (Int.tdiv (IntKind.wrap .u64 (IntKind.wrap .u64 (e0 hi lo y_) - IntKind.wrap .u64 ((Prod.fst z1).1 * IntKind.wrap .u64 (y_ * (2 : Int) ^ min (Int.toNat (e2 y_)) (IntKind.bits .u64))))) (Int.fdiv (e1 y_) (e3 ))) * Int.fdiv (e1 y_) (e3 ))), IntKind.wrap .u64 (Int.tdiv (IntKind.wrap .u64 (IntKind.wrap .u64 (e0 hi lo y_) - IntKind.wrap .u64 ((Prod.fst z1).1 * IntKind.wrap .u64 (y_ * (2 : Int) ^ min (Int.toNat (e2 y_)) (IntKind.bits .u64))))) (Int.fdiv (e1 y_) (e3 )))), big), ⟨loop_s h⟩, (by repeat' (first | exact trivial | exact ⟨rfl⟩ | refine And.intro ?_ ?_))⟩, fun z4 hz4 => ?_⟩
            obtain ⟨k4, hm4, h⟩ := iter_pos hz4
            refine br_d h (fun h => ?_) (fun h => ?_)
            · refine br_d h (fun h => ?_) (fun h => ?_)
              · have h := exit_s h
                refine ob_s h fun h => ?_
                refine ob_t ?_
                refine ob_t ?_
                exact ret_s h (fun e => by subst e; exact (by repeat' (first | exact trivial | exact ⟨rfl⟩ | refine And.intro ?_ ?_)))
              · exact ⟨(Prod.fst z4, (IntKind.wrap .u64 ((Prod.fst (Prod.snd z4)).1 + Int.fdiv (e1 y_) (e3 )), IntKind.wrap .u64 ((Prod.fst (Prod.snd z4)).2 - (1 : Int))), k4), ⟨next_s h⟩, ⟨lt_gs hm4.symm⟩, (by repeat' (first | exact trivial | exact ⟨rfl⟩ | refine And.intro ?_ ?_))⟩
            · refine br_d h (fun h => ?_) (fun h => ?_)
              · refine br_d h (fun h => ?_) (fun h => ?_)
                · have h := exit_s h
                  refine ob_s h fun h => ?_
                  refine ob_t ?_
                  refine ob_t ?_
                  exact ret_s h (fun e => by subst e; exact (by repeat' (first | exact trivial | exact ⟨rfl⟩ | refine And.intro ?_ ?_)))
                · exact ⟨(Prod.fst z4, (IntKind.wrap .u64 ((Prod.fst (Prod.snd z4)).1 + Int.fdiv (e1 y_) (e3 )), IntKind.wrap .u64 ((Prod.fst (Prod.snd z4)).2 - (1 : Int))), k4), ⟨next_s h⟩, ⟨lt_gs hm4.symm⟩, (by repeat' (first | exact trivial | exact ⟨rfl⟩ | refine And.intro ?_ ?_))⟩
              · have h := exit_s h
                refine ob_s h fun h => ?_
                refine ob_t ?_
                refine ob_t ?_
                exact ret_s h (fun e => by subst e; exact (by repeat' (first | exact trivial | exact ⟨rfl⟩ | refine And.intro ?_ ?_)))
set_option maxRecDepth 100000 in
theorem math_bits_Div64_ok : SpecOK Tryd.prog 89 true (pureK k_math_bits_Div64 y119) := by
  refine pureK_ok (sp := (sp_99 sp0)) (fn := Tryd.f89) (body := bodyOf Tryd.f89) mixed (sp_99_ok sp0_ok) Tryd.func89 (by kernel_rfl) (by kernel_rfl) fun as_ ob rs h ho => ?_
  unfold y119 at h
  split at h
  · rename_i hi lo y_
    cases h
    exact ⟨Nat.le_of_ble_eq_true rfl, _, _, math_bits_Div64_vc hi lo y_ _ (ok_some ho)⟩
  · cases h
theorem sp_89_ok {sp : Specs} (h : SpecsOK Tryd.prog sp) : SpecsOK Tryd.prog (sp_89 sp) := addK_ok math_bits_Div64_ok h
def y106 : List SV := [.c (.d), .c (.d), .c (.p [.p [.d, .r (.floats .f32 []), .d, .d, .r (.recs 2 []), .r (.recs 2 [])]])]
def y15 (u66 : Int) (u67 : Int) (u12 : Int) (u13 : List Nat) (u14 : Int) (u15 : Int) (u16 : List (List Int)) (u17 : List (List Int)) : Option (Int × Bool) :=
  Option.bind (y5 (IntKind.wrap .u64 u66) (1000000 : Int)) fun r0 =>
  Option.bind (y40 (IntKind.wrap .u64 (IntKind.wrap .u64 (IntKind.wrap .u64 (Int.fdiv (IntKind.wrap .u64 u66) ((2 : Int) ^ min (32 : Nat) (IntKind.bits .u64)) * Int.fdiv (1000000 : Int) ((2 : Int) ^ min (32 : Nat) (IntKind.bits .u64))) + Int.fdiv (IntKind.wrap .u64 (IntKind.wrap .u64 (Int.fdiv (IntKind.wrap .u64 u66) ((2 : Int) ^ min (32 : Nat) (IntKind.bits .u64)) * IntKind.wrap .u64 (↑(BitVec.toNat (BitVec.ofInt (IntKind.bits .u64) (1000000 : Int) &&& BitVec.ofInt (IntKind.bits .u64) (4294967295 : Int))) : Int)) + Int.fdiv (IntKind.wrap .u64 (IntKind.wrap .u64 (↑(BitVec.toNat (BitVec.ofInt (IntKind.bits .u64) (IntKind.wrap .u64 u66) &&& BitVec.ofInt (IntKind.bits .u64) (4294967295 : Int))) : Int) * IntKind.wrap .u64 (↑(BitVec.toNat (BitVec.ofInt (IntKind.bits .u64) (1000000 : Int) &&& BitVec.ofInt (IntKind.bits .u64) (4294967295 : Int))) : Int))) ((2 : Int) ^ min (32 : Nat) (IntKind.bits .u64)))) ((2 : Int) ^ min (32 : Nat) (IntKind.bits .u64))) + Int.fdiv (IntKind.wrap .u64 (IntKind.wrap .u64 (↑(BitVec.toNat (BitVec.ofInt (IntKind.bits .u64) (IntKind.wrap .u64 (IntKind.wrap .u64 (Int.fdiv (IntKind.wrap .u64 u66) ((2 : Int) ^ min (32 : Nat) (IntKind.bits .u64)) * IntKind.wrap .u64 (↑(BitVec.toNat (BitVec.ofInt (IntKind.bits .u64) (1000000 : Int) &&& BitVec.ofInt (IntKind.bits .u64) (4294967295 : Int))) : Int)) + Int.fdiv (IntKind.wrap .u64 (IntKind.wrap .u64 (↑(BitVec.toNat (BitVec.ofInt (IntKind.bits .u64) (IntKind.wrap .u64 u66) &&& BitVec.ofInt (IntKind.bits .u64) (4294967295 : Int))) : Int) * IntKind.wrap .u64 (↑(BitVec.toNat (BitVec.ofInt (IntKind.bits .u64) (1000000 : Int) &&& BitVec.ofInt (IntKind.bits .u64) (4294967295 : Int))) : Int))) ((2 : Int) ^ min (32 : Nat) (IntKind.bits .u64)))) &&& BitVec.ofInt (IntKind.bits .u64) (4294967295 : Int))) : Int) + IntKind.wrap .u64 (IntKind.wrap .u64 (↑(BitVec.toNat (BitVec.ofInt (IntKind.bits .u64) (IntKind.wrap .u64 u66) &&& BitVec.ofInt (IntKind.bits .u64) (4294967295 : Int))) : Int) * Int.fdiv (1000000 : Int) ((2 : Int) ^ min (32 : Nat) (IntKind.bits .u64))))) ((2 : Int) ^ min (32 : Nat) (IntKind.bits .u64)))) (IntKind.wrap .u64 (IntKind.wrap .u64 u66 * (1000000 : Int))) (IntKind.wrap .u64 (IntKind.wrap .i64 (u67 * u12)))) fun r1 =>
  some ((IntKind.wrap .i64 r1.1, decide (r1.2 > (0 : Int))))
def y107 : List Lf → Option GT
  | [.d (.i .i64 u66), .d (.i .i64 u67), .d (.i .i64 u12), .r (.floats .f32 u13), .d (.i .i64 u14), .d (.i .i64 u15), .r (.recs 2 u16), .r (.recs 2 u17)] => some (.leaf (ok (y15 u66 u67 u12 u13 u14 u15 u16 u17)) [.c (.d (.i .i64 ((val (y15 u66 u67 u12 u13 u14 u15 u16 u17)).1))), .c (.d (.b ((val (y15 u66 u67 u12 u13 u14 u15 u16 u17)).2)))])
  | _ => none
abbrev sp_87 : Specs → Specs := addK 87 true (pureT y106 y107)
set_option maxRecDepth 100000 in
theorem G_decay_centre_1_vc (u66 : Int) (u67 : Int) (u12 : Int) (u13 : List Nat) (u14 : Int) (u15 : Int) (u16 : List (List Int)) (u17 : List (List Int)) (r : Int × Bool) (h : Option.bind (y15 u66 u67 u12 u13 u14 u15 u16 u17) some = some r) : runT Tryd.f87 ((sp_88 (sp_89 sp0))) (fun _ _ _ => none) (bldD y106 [.d (.i .i64 u66), .d (.i .i64 u67), .d (.i .i64 u12), .r (.floats .f32 u13), .d (.i .i64 u14), .d (.i .i64 u15), .r (.recs 2 u16), .r (.recs 2 u17)]) [.c (.d (.i .i64 r.1)), .c (.d (.b r.2))] := by
  refine Eq.mp (by kernel_rfl : (
 (Ob (True) ∧
 (Ob (ok (y5 (IntKind.wrap .u64 u66) (1000000 : Int))) ∧
 (Ob (True) ∧
 (Ob (True) ∧
 (Ob (True) ∧
 (Ob (ok (y40 (IntKind.wrap .u64 (IntKind.wrap .u64 (IntKind.wrap .u64 (Int.fdiv (IntKind.wrap .u64 u66) ((2 : Int) ^ min (32 : Nat) (IntKind.bits .u64)) * Int.fdiv (1000000 : Int) ((2 : Int) ^ min (32 : Nat) (IntKind.bits .u64))) + Int.fdiv (IntKind.wrap .u64 (IntKind.wrap .u64 (Int.fdiv (IntKind.wrap .u64 u66) ((2 : Int) ^ min (32 : Nat) (IntKind.bits .u64)) * IntKind.wrap .u64 (↑(BitVec.toNat (BitVec.ofInt (IntKind.bits .u64) (1000000 : Int) &&& BitVec.ofInt (IntKind.bits .u64) (4294967295 : Int))) : Int)) + Int.fdiv (IntKind.wrap .u64 (IntKind.wrap .u64 (↑(BitVec.toNat (BitVec.ofInt (IntKind.bits .u64) (IntKind.wrap .u64 u66) &&& BitVec.ofInt (IntKind.bits .u64) (4294967295 : Int))) : Int) * IntKind.wrap .u64 (↑(BitVec.toNat (BitVec.ofInt (IntKind.bits .u64) (1000000 : Int) &&& BitVec.ofInt (IntKind.bits .u64) (4294967295 : Int))) : Int))) ((2 : Int) ^ min (32 : Nat) (IntKind.bits .u64)))) ((2 : Int) ^ min (32 : Nat) (IntKind.bits .u64))) + Int.fdiv (IntKind.wrap .u64 (IntKind.wrap .u64 (↑(BitVec.toNat (BitVec.ofInt (IntKind.bits .u64) (IntKind.wrap .u64 (IntKind.wrap .u64 (Int.fdiv (IntKind.wrap .u64 u66) ((2 : Int) ^ min (32 : Nat) (IntKind.bits .u64)) * IntKind.wrap .u64 (↑(BitVec.toNat (BitVec.ofInt (IntKind.bits .u64) (1000000 : Int) &&& BitVec.ofInt (IntKind.bits .u64) (4294967295 : Int))) : Int)) + Int.fdiv (IntKind.wrap .u64 (IntKind.wrap .u64 (↑(BitVec.toNat (BitVec.ofInt (IntKind.bits .u64) (IntKind.wrap .u64 u66) &&& BitVec.ofInt (IntKind.bits .u64) (4294967295 : Int))) : Int) * IntKind.wrap .u64 (↑(BitVec.toNat (BitVec.ofInt (IntKind.bits .u64) (1000000 : Int) &&& BitVec.ofInt (IntKind.bits .u64) (4294967295 : Int))) : Int))) ((2 : Int) ^ min (32 : Nat) (IntKind.bits .u64)))) &&& BitVec.ofInt (IntKind.bits .u64) (4294967295 : Int))) : Int) + IntKind.wrap .u64 (IntKind.wrap .u64 (↑(BitVec.toNat (BitVec.ofInt (IntKind.bits .u64) (IntKind.wrap .u64 u66) &&& BitVec.ofInt (IntKind.bits .u64) (4294967295 : Int))) : Int) * Int.fdiv (1000000 : Int) ((2 : Int) ^ min (32 : Nat) (IntKind.bits .u64))))) ((2 : Int) ^ min (32 : Nat) (IntKind.bits .u64)))) (IntKind.wrap .u64 (IntKind.wrap .u64 u66 * (1000000 : Int))) (IntKind.wrap .u64 (IntKind.wrap .i64 (u67 * u12))))) ∧
 (Ob (True) ∧
 (Ob (True) ∧
 (Ob (True) ∧
 (Ob (IntKind.wrap .i64 (val (y40 (IntKind.wrap .u64 (IntKind.wrap .u64 (IntKind.wrap .u64 (Int.fdiv (IntKind.wrap .u64 u66) ((2 : Int) ^ min (32 : Nat) (IntKind.bits .u64)) * Int.fdiv (1000000 : Int) ((2 : Int) ^ min (32 : Nat) (IntKind.bits .u64))) + Int.fdiv (IntKind.wrap .u64 (IntKind.wrap .u64 (Int.fdiv (IntKind.wrap .u64 u66) ((2 : Int) ^ min (32 : Nat) (IntKind.bits .u64)) * IntKind.wrap .u64 (↑(BitVec.toNat (BitVec.ofInt (IntKind.bits .u64) (1000000 : Int) &&& BitVec.ofInt (IntKind.bits .u64) (4294967295 : Int))) : Int)) + Int.fdiv (IntKind.wrap .u64 (IntKind.wrap .u64 (↑(BitVec.toNat (BitVec.ofInt (IntKind.bits .u64) (IntKind.wrap .u64 u66) &&& BitVec.ofInt (IntKind.bits .u64) (4294967295 : Int))) : Int) * IntKind.wrap .u64 (↑(BitVec.toNat (BitVec.ofInt (IntKind.bits .u64) (1000000 : Int) &&& BitVec.ofInt (IntKind.bits .u64) (4294967295 : Int))) : Int))) ((2 : Int) ^ min (32 : Nat) (IntKind.bits .u64)))) ((2 : Int) ^ min (32 : Nat) (IntKind.bits .u64))) + Int.fdiv (IntKind.wrap .u64 (IntKind.wrap .u64 (↑(BitVec.toNat (BitVec.ofInt (IntKind.bits .u64) (IntKind.wrap .u64 (IntKind.wrap .u64 (Int.fdiv (IntKind.wrap .u64 u66) ((2 : Int) ^ min (32 : Nat) (IntKind.bits .u64)) * IntKind.wrap .u64 (↑(BitVec.toNat (BitVec.ofInt (IntKind.bits .u64) (1000000 : Int) &&& BitVec.ofInt (IntKind.bits .u64) (4294967295 : Int))) : Int)) + Int.fdiv (IntKind.wrap .u64 (IntKind.wrap .u64 (↑(BitVec.toNat (BitVec.ofInt (IntKind.bits .u64) (IntKind.wrap .u64 u66) &&& BitVec.ofInt (IntKind.bits .u64) (4294967295 : Int))) : Int) * IntKind.wrap .u64 (↑(BitVec.toNat (BitVec.ofInt (IntKind.bits .u64) (1000000 : Int) &&& BitVec.ofInt (IntKind.bits .u64) (4294967295 : Int))) : Int))) ((2 : Int) ^ min (32 : Nat) (IntKind.bits .u64)))) &&& BitVec.ofInt (IntKind.bits .u64) (4294967295 : Int))) : Int) + IntKind.wrap .u64 (IntKind.wrap .u64 (↑(BitVec.toNat (BitVec.ofInt (IntKind.bits .u64) (IntKind.wrap .u64 u66) &&& BitVec.ofInt (IntKind.bits .u64) (4294967295 : Int))) : Int) * Int.fdiv (1000000 : Int) ((2 : Int) ^ min (32 : Nat) (IntKind.bits .u64))))) ((2 : Int) ^ min (32 : Nat) (IntKind.bits .u64)))) (IntKind.wrap .u64 (IntKind.wrap .u64 u66 * (1000000 : Int))) (IntKind.wrap .u64 (IntKind.wrap .i64 (u67 * u12))))).1 = r.1) ∧
 (Ob (decide ((val (y40 (IntKind.wrap .u64 (IntKind.wrap .u64 (IntKind.wrap .u64 (Int.fdiv (IntKind.wrap .u64 u66) ((2 : Int) ^ min (32 : Nat) (IntKind.bits .u64)) * Int.fdiv (1000000 : Int) ((2 : Int) ^ min (32 : Nat) (IntKind.bits .u64))) + Int.fdiv (IntKind.wrap .u64 (IntKind.wrap .u64 (Int.fdiv (IntKind.wrap .u64 u66) ((2 : Int) ^ min (32 : Nat) (IntKind.bits .u64)) * IntKind.wrap .u64 (↑(BitVec.toNat (BitVec.ofInt (IntKind.bits .u64) (1000000 : Int) &&& BitVec.ofInt (IntKind.bits .u64) (4294967295 : Int))) : Int)) + Int.fdiv (IntKind.wrap .u64 (IntKind.wrap .u64 (↑(BitVec.toNat (BitVec.ofInt (IntKind.bits .u64) (IntKind.wrap .u64 u66) &&& BitVec.ofInt (IntKind.bits .u64) (4294967295 : Int))) : Int) * IntKind.wrap .u64 (↑(BitVec.toNat (BitVec.ofInt (IntKind.bits .u64) (1000000 : Int) &&& BitVec.ofInt (IntKind.bits .u64) (4294967295 : Int))) : Int))) ((2 : Int) ^ min (32 : Nat) (IntKind.bits .u64)))) ((2 : Int) ^ min (32 : Nat) (IntKind.bits .u64))) + Int.fdiv (IntKind.wrap .u64 (IntKind.wrap .u64 (↑(BitVec.toNat (BitVec.ofInt (IntKind.bits .u64) (IntKind.wrap .u64 (IntKind.wrap .u64 (Int.fdiv (IntKind.wrap .u64 u66) ((2 : Int) ^ min (32 : Nat) (IntKind.bits .u64)) * IntKind.wrap .u64 (↑(BitVec.toNat (BitVec.ofInt (IntKind.bits .u64) (1000000 : Int) &&& BitVec.ofInt (IntKind.bits .u64) (4294967295 : Int))) : Int)) + Int.fdiv (IntKind.wrap .u64 (IntKind.wrap .u64 (↑(BitVec.toNat (BitVec.ofInt (IntKind.bits .u64) (IntKind.wrap .u64 u66) &&& BitVec.ofInt (IntKind.bits .u64) (4294967295 : Int))) : Int) * IntKind.wrap .u64 (↑(BitVec.toNat (BitVec.ofInt (IntKind.bits .u64) (1000000 : Int) &&& BitVec.ofInt (IntKind.bits .u64) (4294967295 : Int))) : Int))) ((2 : Int) ^ min (32 : Nat) (IntKind.bits .u64)))) &&& BitVec.ofInt (IntKind.bits .u64) (4294967295 : Int))) : Int) + IntKind.wrap .u64 (IntKind.wrap .u64 (↑(BitVec.toNat (BitVec.ofInt (IntKind.bits .u64) (IntKind.wrap .u64 u66) &&& BitVec.ofInt (IntKind.bits .u64) (4294967295 : Int))) : Int) * Int.fdiv (1000000 : Int) ((2 : Int) ^ min (32 : Nat) (IntKind.bits .u64))))) ((2 : Int) ^ min (32 : Nat) (IntKind.bits .u64)))) (IntKind.wrap .u64 (IntKind.wrap .u64 u66 * (1000000 : Int))) (IntKind.wrap .u64 (IntKind.wrap .i64 (u67 * u12))))).2 > (0 : Int)) = r.2) ∧
 True)))))))))))) = _) ?_
  refine ob_t ?_
  refine call_s h fun h => ?_
  refine ob_t ?_
  refine ob_t ?_
  refine ob_t ?_
  refine call_s h fun h => ?_
  refine ob_t ?_
  refine ob_t ?_
  refine ob_t ?_
  exact ret_s h (fun e => by subst e; exact (by repeat' (first | exact trivial | exact ⟨rfl⟩ | refine And.intro ?_ ?_)))
set_option maxRecDepth 100000 in
theorem G_decay_centre_1_ok : SpecOK Tryd.prog 87 true (pureT y106 y107) := by
  refine pureT_ok (sp := (sp_88 (sp_89 sp0))) (fn := Tryd.f87) (body := bodyOf Tryd.f87) mixed (sp_88_ok (sp_89_ok sp0_ok)) Tryd.func87 (by kernel_rfl) (by kernel_rfl) fun ls t h ho b hb => ?_
  unfold y107 at h
  split at h
  · rename_i u66 u67 u12 u13 u14 u15 u16 u17
    cases h
    obtain rfl := bld_eq hb
    exact ⟨Nat.le_of_ble_eq_true (by kernel_rfl), _, _, G_decay_centre_1_vc u66 u67 u12 u13 u14 u15 u16 u17 _ (ok_some ho)⟩
  · cases h
theorem sp_87_ok {sp : Specs} (h : SpecsOK Tryd.prog sp) : SpecsOK Tryd.prog (sp_87 sp) := addK_ok G_decay_centre_1_ok h
end Go.Sh
end

section
namespace Go.Sh
open Go Go.Proofs Go.RowKit Go.Sx
set_option linter.unusedVariables false
def y127 : List SV := [.c (.p [.d, .r (.floats .f32 []), .d, .d, .r (.recs 2 []), .r (.recs 2 [])])]
def y77 (u0 : List (List Int)) (x0 : (Int × Int × Int)) : Option ((Int × Int × Int) ⊕ (Int × Int)) :=
  if x0.1 < (↑(List.length u0) : Int) then
   if (0 : Int) ≤ x0.1 ∧ x0.1 < (↑(List.length u0) : Int) then
    if Int.toNat x0.1 < List.length u0 then
     Option.bind (G_plus x0.2.1 x0.2.2 (IntKind.wrap .i64 (x0.1 * List.getD (List.getD u0 (Int.toNat x0.1) []) (0 : Nat) (0 : Int))) (IntKind.wrap .i64 (x0.1 * List.getD (List.getD u0 (Int.toNat x0.1) []) (1 : Nat) (0 : Int)))) fun r0 =>
     some (.inl ((IntKind.wrap .i64 (x0.1 + (1 : Int)), IntKind.wrap .i64 (x0.2.1 + IntKind.wrap .i64 (x0.1 * List.getD (List.getD u0 (Int.toNat x0.1) []) (0 : Nat) (0 : Int))), IntKind.wrap .i64 (x0.2.2 + IntKind.wrap .i64 (x0.1 * List.getD (List.getD u0 (Int.toNat x0.1) []) (1 : Nat) (0 : Int))))))
    else none
   else none
  else
   some (.inr (x0.2.1, x0.2.2))
def y78 (u4 : Int) (u5 : List Nat) (u6 : Int) (u7 : Int) (u0 : List (List Int)) (u9 : List (List Int)) (u10 : Int × Int) : Option (Int × Int × Int) :=
  if (0 : Int) ≤ (0 : Int) ∧ (0 : Int) < (↑(List.length u9) : Int) then
   if (0 : Nat) < List.length u9 then
    Option.bind (y15 u10.1 (List.getD (List.getD u9 (0 : Nat) []) (1 : Nat) (0 : Int)) u4 u5 u6 u7 u0 u9) fun r1 =>
    if (0 : Int) ≤ (0 : Int) ∧ (0 : Int) < (↑(List.length u9) : Int) then
     if (0 : Nat) < List.length u9 then
      Option.bind (y15 u10.2 (List.getD (List.getD u9 (0 : Nat) []) (0 : Nat) (0 : Int)) u4 u5 u6 u7 u0 u9) fun r2 =>
      if (r2.2) = true then
       Option.bind (G_ceil (IntKind.wrap .i64 (IntKind.wrap .i64 ((↑(List.length u0) : Int) - (1 : Int)) * (1000000 : Int))) u4) fun r3 =>
       some ((r1.1, if r3 < IntKind.wrap .i64 (r2.1 + (1 : Int)) then r3 else IntKind.wrap .i64 (r2.1 + (1 : Int)), (0 : Int)))
      else
       Option.bind (G_ceil (IntKind.wrap .i64 (IntKind.wrap .i64 ((↑(List.length u0) : Int) - (1 : Int)) * (1000000 : Int))) u4) fun r3 =>
       some ((r1.1, if r3 < r2.1 then r3 else r2.1, (0 : Int)))
     else none
    else none
   else none
  else none
def y2 (u4 : Int) (u5 : List Nat) (u6 : Int) (u7 : Int) (u0 : List (List Int)) (u9 : List (List Int)) : Option (Int × Int × Int) :=
  if (u7 != (0 : Int)) = true then
   some (((0 : Int), (0 : Int), (23 : Int)))
  else
   if (0 : Int) ≤ (0 : Int) ∧ (0 : Int) < (↑(List.length u9) : Int) then
    if (0 : Nat) < List.length u9 then
     if (List.getD (List.getD u9 (0 : Nat) []) (0 : Nat) (0 : Int) == (0 : Int)) = true then
      some (((0 : Int), (0 : Int), (11 : Int)))
     else
      Option.bind (iter (y77 u0) big (((0 : Int), (0 : Int), (0 : Int)))) (y78 u4 u5 u6 u7 u0 u9)
    else none
   else none
def y128 : List Lf → Option GT
  | [.d (.i .i64 u4), .r (.floats .f32 u5), .d (.i .i64 u6), .d (.i .i64 u7), .r (.recs 2 u0), .r (.recs 2 u9)] => some (.leaf (ok (y2 u4 u5 u6 u7 u0 u9)) [.s [.d (.i .i64 ((val (y2 u4 u5 u6 u7 u0 u9)).1)), .d (.i .i64 ((val (y2 u4 u5 u6 u7 u0 u9)).2.1))], .c (.d (.i .i64 ((val (y2 u4 u5 u6 u7 u0 u9)).2.2)))])
  | _ => none
abbrev sp_60 : Specs → Specs := addK 60 true (pureT y127 y128)
set_option maxRecDepth 100000 in
theorem G_decay_centre_vc (u4 : Int) (u5 : List Nat) (u6 : Int) (u7 : Int) (u0 : List (List Int)) (u9 : List (List Int)) (r : Int × Int × Int) (h : Option.bind (y2 u4 u5 u6 u7 u0 u9) some = some r) : runT Tryd.f60 ((sp_83 (sp_87 (sp_81 sp0)))) (fun gs id _ => match id with
 | 1 => some ⟨(Int × Int × Int) × Nat, fun z => ⟨[(1, .w (.c (.p 4 (0 : Nat) 1 (0 : Nat)))), (2, .w (.c (.p 5 (0 : Nat) 1 (0 : Nat)))), (4, .w (.c (.p 6 (0 : Nat) 1 (0 : Nat)))), (33, .w (.c (.o 1))), (34, .w (.c (.d (.i .i64 ((↑(List.length u0) : Int)))))), (35, .w (.c (.d (.i .i64 (Prod.fst (Prod.fst z))))))], [(4, .box 95 [.p 3 (0 : Nat) 1 (0 : Nat)]), (5, .box 24 [.d (.i .i64 (0 : Int)), .d (.i .i64 (0 : Int))]), (6, .box 24 [.d (.i .i64 (Prod.fst (Prod.snd (Prod.fst z)))), .d (.i .i64 (Prod.snd (Prod.snd (Prod.fst z))))]), (1, .ext (.recs 2 u0)), (3, .ebox [.d (.i .i64 u4), .o 0, .d (.i .i64 u6), .d (.i .i64 u7), .o 1, .o 2]), (0, .ext (.floats .f32 u5)), (2, .ext (.recs 2 u9))], 7⟩, fun z => Option.bind (iter (y77 u0) (Prod.snd z) (Prod.fst z)) (fun y0 => Option.bind (y78 u4 u5 u6 u7 u0 u9 y0) some) = some r, fun z => Prod.snd z⟩
 | _ => none) (bldD y127 [.d (.i .i64 u4), .r (.floats .f32 u5), .d (.i .i64 u6), .d (.i .i64 u7), .r (.recs 2 u0), .r (.recs 2 u9)]) [.s [.d (.i .i64 r.1), .d (.i .i64 r.2.1)], .c (.d (.i .i64 r.2.2))] := by
  refine Eq.mp (by kernel_rfl : (
 (Ob (True) ∧
 Br (u7 != (0 : Int))
   ((Ob (True) ∧
 (Ob (True) ∧
 (Ob ((0 : Int) = r.1) ∧
 (Ob ((0 : Int) = r.2.1) ∧
 (Ob ((23 : Int) = r.2.2) ∧
 True))))))
   ((Ob (True) ∧
 (Ob ((0 : Int) ≤ (0 : Int) ∧ (0 : Int) < (↑(List.length u9) : Int)) ∧
 (Ob ((0 : Nat) < List.length u9) ∧
 Br (List.getD (List.getD u9 (0 : Nat) []) (0 : Nat) (0 : Int) == (0 : Int))
   ((Ob (True) ∧
 (Ob (True) ∧
 (Ob ((0 : Int) = r.1) ∧
 (Ob ((0 : Int) = r.2.1) ∧
 (Ob ((11 : Int) = r.2.2) ∧
 True))))))
   ((Ob (True) ∧
   ((∃ (v0 : (Int × Int × Int) × Nat), (Ob ((Option.bind (iter (y77 u0) v0.2 v0.1) fun y0 => Option.bind (y78 u4 u5 u6 u7 u0 u9 y0) some) = some r) ∧
 (Ob ((0 : Nat) = (0 : Nat)) ∧
 (Ob ((0 : Nat) = (0 : Nat)) ∧
 (Ob ((0 : Nat) = (0 : Nat)) ∧
 (Ob ((↑(List.length u0) : Int) = (↑(List.length u0) : Int)) ∧
 (Ob ((0 : Int) = v0.1.1) ∧
 (Ob ((0 : Nat) = (0 : Nat)) ∧
 (Ob ((0 : Int) = (0 : Int)) ∧
 (Ob ((0 : Int) = (0 : Int)) ∧
 (Ob ((0 : Int) = v0.1.2.1) ∧
 (Ob ((0 : Int) = v0.1.2.2) ∧
 (Ob (u0 = u0) ∧
 (Ob (u4 = u4) ∧
 (Ob (u6 = u6) ∧
 (Ob (u7 = u7) ∧
 (Ob (u5 = u5) ∧
 (Ob (u9 = u9) ∧
 True)))))))))))))))))) ∧
   (∀ (v0 : (Int × Int × Int) × Nat), ((Option.bind (iter (y77 u0) v0.2 v0.1) fun y0 => Option.bind (y78 u4 u5 u6 u7 u0 u9 y0) some) = some r →
 Br (decide (v0.1.1 < (↑(List.length u0) : Int)))
   ((Ob ((0 : Int) ≤ v0.1.1 ∧ v0.1.1 < (↑(List.length u0) : Int)) ∧
 (Ob (Int.toNat v0.1.1 < List.length u0) ∧
 (Ob (ok (G_plus v0.1.2.1 v0.1.2.2 (IntKind.wrap .i64 (v0.1.1 * List.getD (List.getD u0 (Int.toNat v0.1.1) []) (0 : Nat) (0 : Int))) (IntKind.wrap .i64 (v0.1.1 * List.getD (List.getD u0 (Int.toNat v0.1.1) []) (1 : Nat) (0 : Int))))) ∧
   (∃ (v1 : (Int × Int × Int) × Nat), (Ob ((Option.bind (iter (y77 u0) v1.2 v1.1) fun y0 => Option.bind (y78 u4 u5 u6 u7 u0 u9 y0) some) = some r) ∧
 (Ob (v1.2 < v0.2) ∧
 (Ob ((0 : Nat) = (0 : Nat)) ∧
 (Ob ((0 : Nat) = (0 : Nat)) ∧
 (Ob ((0 : Nat) = (0 : Nat)) ∧
 (Ob ((↑(List.length u0) : Int) = (↑(List.length u0) : Int)) ∧
 (Ob (IntKind.wrap .i64 (v0.1.1 + (1 : Int)) = v1.1.1) ∧
 (Ob ((0 : Nat) = (0 : Nat)) ∧
 (Ob ((0 : Int) = (0 : Int)) ∧
 (Ob ((0 : Int) = (0 : Int)) ∧
 (Ob (IntKind.wrap .i64 (v0.1.2.1 + IntKind.wrap .i64 (v0.1.1 * List.getD (List.getD u0 (Int.toNat v0.1.1) []) (0 : Nat) (0 : Int))) = v1.1.2.1) ∧
 (Ob (IntKind.wrap .i64 (v0.1.2.2 + IntKind.wrap .i64 (v0.1.1 * List.getD (List.getD u0 (Int.toNat v0.1.1) []) (1 : Nat) (0 : Int))) = v1.1.2.2) ∧
 (Ob (u0 = u0) ∧
 (Ob (u4 = u4) ∧
 (Ob (u6 = u6) ∧
 (Ob (u7 = u7) ∧
 (Ob (u5 = u5) ∧
 (Ob (u9 = u9) ∧
 True)))))))))))))))))))))))
   ((Ob (True) ∧
 (Ob ((0 : Int) ≤ (0 : Int) ∧ (0 : Int) < (↑(List.length u9) : Int)) ∧
 (Ob ((0 : Nat) < List.length u9) ∧
 (Ob (ok (y15 v0.1.2.1 (List.getD (List.getD u9 (0 : Nat) []) (1 : Nat) (0 : Int)) u4 u5 u6 u7 u0 u9)) ∧
 (Ob (True) ∧
 (Ob ((0 : Int) ≤ (0 : Int) ∧ (0 : Int) < (↑(List.length u9) : Int)) ∧
 (Ob ((0 : Nat) < List.length u9) ∧
 (Ob (ok (y15 v0.1.2.2 (List.getD (List.getD u9 (0 : Nat) []) (0 : Nat) (0 : Int)) u4 u5 u6 u7 u0 u9)) ∧
 Br ((val (y15 v0.1.2.2 (List.getD (List.getD u9 (0 : Nat) []) (0 : Nat) (0 : Int)) u4 u5 u6 u7 u0 u9)).2)
   ((Ob (True) ∧
 (Ob (True) ∧
 (Ob (ok (G_ceil (IntKind.wrap .i64 (IntKind.wrap .i64 ((↑(List.length u0) : Int) - (1 : Int)) * (1000000 : Int))) u4)) ∧
 (Ob (True) ∧
 (Ob (True) ∧
 (Ob ((val (y15 v0.1.2.1 (List.getD (List.getD u9 (0 : Nat) []) (1 : Nat) (0 : Int)) u4 u5 u6 u7 u0 u9)).1 = r.1) ∧
 (Ob ((if val (G_ceil (IntKind.wrap .i64 (IntKind.wrap .i64 ((↑(List.length u0) : Int) - (1 : Int)) * (1000000 : Int))) u4) < IntKind.wrap .i64 ((val (y15 v0.1.2.2 (List.getD (List.getD u9 (0 : Nat) []) (0 : Nat) (0 : Int)) u4 u5 u6 u7 u0 u9)).1 + (1 : Int)) then val (G_ceil (IntKind.wrap .i64 (IntKind.wrap .i64 ((↑(List.length u0) : Int) - (1 : Int)) * (1000000 : Int))) u4) else IntKind.wrap .i64 ((val (y15 v0.1.2.2 (List.getD (List.getD u9 (0 : Nat) []) (0 : Nat) (0 : Int)) u4 u5 u6 u7 u0 u9)).1 + (1 : Int))) = r.2.1) ∧
 (Ob ((0 : Int) = r.2.2) ∧
 True)))))))))
   ((Ob (True) ∧
 (Ob (True) ∧
 (Ob (ok (G_ceil (IntKind.wrap .i64 (IntKind.wrap .i64 ((↑(List.length u0) : Int) - (1 : Int)) * (1000000 : Int))) u4)) ∧
 (Ob (True) ∧
 (Ob (True) ∧
 (Ob ((val (y15 v0.1.2.1 (List.getD (List.getD u9 (0 : Nat) []) (1 : Nat) (0 : Int)) u4 u5 u6 u7 u0 u9)).1 = r.1) ∧
 (Ob ((if val (G_ceil (IntKind.wrap .i64 (IntKind.wrap .i64 ((↑(List.length u0) : Int) - (1 : Int)) * (1000000 : Int))) u4) < (val (y15 v0.1.2.2 (List.getD (List.getD u9 (0 : Nat) []) (0 : Nat) (0 : Int)) u4 u5 u6 u7 u0 u9)).1 then val (G_ceil (IntKind.wrap .i64 (IntKind.wrap .i64 ((↑(List.length u0) : Int) - (1 : Int)) * (1000000 : Int))) u4) else (val (y15 v0.1.2.2 (List.getD (List.getD u9 (0 : Nat) []) (0 : Nat) (0 : Int)) u4 u5 u6 u7 u0 u9)).1) = r.2.1) ∧
 (Ob ((0 : Int) = r.2.2) ∧
 True))))))))))))))))))))))))))))) = _) ?_
  refine ob_t ?_
  refine br_b h (fun h => ?_) (fun h => ?_)
  · refine ob_t ?_
    refine ob_t ?_
    exact ret_s h (fun e => by subst e; exact (by repeat' (first | exact trivial | exact ⟨rfl⟩ | refine And.intro ?_ ?_)))
  · refine ob_t ?_
    refine ob_s h fun h => ?_
    refine ob_s h fun h => ?_
    refine br_b h (fun h => ?_) (fun h => ?_)
    · refine ob_t ?_
      refine ob_t ?_
      exact ret_s h (fun e => by subst e; exact (by repeat' (first | exact trivial | exact ⟨rfl⟩ | refine And.intro ?_ ?_)))
    · refine ob_t ?_
      refine ⟨⟨(((0 : Int), (0 : Int), (0 : Int)), big), ⟨loop_s h⟩, (by repeat' (first | exact trivial | exact ⟨rfl⟩ | refine And.intro ?_ ?_))⟩, fun z4 hz4 => ?_⟩
      obtain ⟨k4, hm4, h⟩ := iter_pos hz4
      refine br_d h (fun h => ?_) (fun h => ?_)
      · refine ob_s h fun h => ?_
        refine ob_s h fun h => ?_
        refine call_s h fun h => ?_
        exact ⟨((IntKind.wrap .i64 ((Prod.fst z4).1 + (1 : Int)), IntKind.wrap .i64 ((Prod.fst z4).2.1 + IntKind.wrap .i64 ((Prod.fst z4).1 * List.getD (List.getD u0 (Int.toNat (Prod.fst z4).1) []) (0 : Nat) (0 : Int))), IntKind.wrap .i64 ((Prod.fst z4).2.2 + IntKind.wrap .i64 ((Prod.fst z4).1 * List.getD (List.getD u0 (Int.toNat (Prod.fst z4).1) []) (1 : Nat) (0 : Int)))), k4), ⟨next_s h⟩, ⟨lt_gs hm4.symm⟩, (by repeat' (first | exact trivial | exact ⟨rfl⟩ | refine And.intro ?_ ?_))⟩
      · have h := exit_s h
        refine ob_t ?_
        refine ob_s h fun h => ?_
        refine ob_s h fun h => ?_
        refine call_s h fun h => ?_
        refine ob_t ?_
        refine ob_s h fun h => ?_
        refine ob_s h fun h => ?_
        refine call_s h fun h => ?_
        refine br_b h (fun h => ?_) (fun h => ?_)
        · refine ob_t ?_
          refine ob_t ?_
          refine call_s h fun h => ?_
          refine ob_t ?_
          refine ob_t ?_
          exact ret_s h (fun e => by subst e; exact (by repeat' (first | exact trivial | exact ⟨rfl⟩ | refine And.intro ?_ ?_)))
        · refine ob_t ?_
          refine ob_t ?_
          refine call_s h fun h => ?_
          refine ob_t ?_
          refine ob_t ?_
          exact ret_s h (fun e => by subst e; exact (by repeat' (first | exact trivial | exact ⟨rfl⟩ | refine And.intro ?_ ?_)))
set_option maxRecDepth 100000 in
theorem G_decay_centre_ok : SpecOK Tryd.prog 60 true (pureT y127 y128) := by
  refine pureT_ok (sp := (sp_83 (sp_87 (sp_81 sp0)))) (fn := Tryd.f60) (body := bodyOf Tryd.f60) mixed (sp_83_ok (sp_87_ok (sp_81_ok sp0_ok))) Tryd.func60 (by kernel_rfl) (by kernel_rfl) fun ls t h ho b hb => ?_
  unfold y128 at h
  split at h
  · rename_i u4 u5 u6 u7 u0 u9
    cases h
    obtain rfl := bld_eq hb
    exact ⟨Nat.le_of_ble_eq_true (by kernel_rfl), _, _, G_decay_centre_vc u4 u5 u6 u7 u0 u9 _ (ok_some ho)⟩
  · cases h
theorem sp_60_ok {sp : Specs} (h : SpecsOK Tryd.prog sp) : SpecsOK Tryd.prog (sp_60 sp) := addK_ok G_decay_centre_ok h
end Go.Sh
end

section
namespace Go.Sh
open Go Go.Proofs Go.RowKit Go.Sx Go.Sx06 Ieee Go.Fl
theorem split_eq {L : Int} (h : -900 ≤ L ∧ L ≤ 900) : y97 L = some (L / 10, L % 10) := by
  unfold y97
  rw [wr64 (x := L + 900) (by omega), Int.tdiv_eq_ediv_of_nonneg (by omega), Int.tmod_eq_emod_of_nonneg (by omega), wr64 (x := (L + 900) / 10) (by omega), wr64 (by omega)]
  congr 2
  · omega
  · omega
theorem modB_eq {n : Int} (h : -1000 ≤ n ∧ n ≤ 1000) : B_Mod n 10 = some (n % 10) := by
  unfold B_Mod
  rw [if_pos (by decide), Int.tmod_eq_emod]
  by_cases hd : 0 ≤ n ∨ (10 : Int) ∣ n
  · rw [if_pos hd, show ((0 : Nat) : Int) = 0 from rfl, Int.sub_zero, if_neg (by omega)]
  · rw [if_neg hd]
    have e : ((10 : Int).natAbs : Int) = 10 := rfl
    rw [e, if_pos (by omega), wr64 (by omega)]
    congr 1
    omega
theorem tn_range {k : Int} (h : 0 ≤ k ∧ k < 10) : 1000000000 ≤ tenthsT.getD k.toNat 0 ∧ tenthsT.getD k.toNat 0 ≤ 7943282347 := by
  rcases (by omega : k = 0 ∨ k = 1 ∨ k = 2 ∨ k = 3 ∨ k = 4 ∨ k = 5 ∨ k = 6 ∨ k = 7 ∨ k = 8 ∨ k = 9) with rfl | rfl | rfl | rfl | rfl | rfl | rfl | rfl | rfl | rfl <;> exact ⟨by decide, by decide⟩
theorem tenthsR_eq {k : Int} (h : 0 ≤ k ∧ k < 10) : y108 k = some (tenthsT.getD k.toNat 0) := by
  rcases (by omega : k = 0 ∨ k = 1 ∨ k = 2 ∨ k = 3 ∨ k = 4 ∨ k = 5 ∨ k = 6 ∨ k = 7 ∨ k = 8 ∨ k = 9) with rfl | rfl | rfl | rfl | rfl | rfl | rfl | rfl | rfl | rfl <;> rfl
theorem p10_nineteen {a : Int} (h : 0 ≤ a ∧ a ≤ 9) : p10 (9 + a) = 1000000000 * p10 a := by
  rcases (by omega : a = 0 ∨ a = 1 ∨ a = 2 ∨ a = 3 ∨ a = 4 ∨ a = 5 ∨ a = 6 ∨ a = 7 ∨ a = 8 ∨ a = 9) with rfl | rfl | rfl | rfl | rfl | rfl | rfl | rfl | rfl | rfl <;> decide
def nuL (u L : Int) : Int := (tenthsT.getD (L % 10).toNat 0 + if 0 < L % 10 then u else 0) * p10 (max (L / 10) 0)
def deL (L : Int) : Int := 1000000000 * p10 (max (-(L / 10)) 0)
theorem nu_range {u L : Int} (hu : 0 ≤ u ∧ u ≤ 1) (h : -90 ≤ L ∧ L ≤ 90) : 1 ≤ nuL u L ∧ nuL u L ≤ 8000000000000000000 := by
  have ht := tn_range (k := L % 10) (by omega)
  have hp := p10_nine (f := max (L / 10) 0) (by omega)
  have e : 1 ≤ tenthsT.getD (L % 10).toNat 0 + (if 0 < L % 10 then u else 0) ∧ tenthsT.getD (L % 10).toNat 0 + (if 0 < L % 10 then u else 0) ≤ 8000000000 := by split <;> omega
  unfold nuL
  have a := Int.mul_le_mul e.2 hp.2 (by omega) (by omega)
  have b := Int.mul_le_mul e.1 hp.1 (by omega) (by omega)
  omega
theorem de_range {L : Int} (h : -90 ≤ L ∧ L ≤ 90) : 1 ≤ deL L ∧ deL L ≤ 1000000000000000000 := by
  have hp := p10_nine (f := max (-(L / 10)) 0) (by omega)
  unfold deL
  omega
theorem triLe (x y : Int) : decide ((if x < y then (-1 : Int) else if y < x then 1 else 0) ≤ 0) = decide (x ≤ y) := by
  by_cases h1 : x < y
  · rw [if_pos h1, decide_eq_true (by omega), decide_eq_true (by omega)]
  · by_cases h2 : y < x
    · rw [if_neg h1, if_pos h2, decide_eq_false (by omega), decide_eq_false (by omega)]
    · rw [if_neg h1, if_neg h2, decide_eq_true (by omega), decide_eq_true (by omega)]
theorem triGe (x y : Int) : decide ((if x < y then (-1 : Int) else if y < x then 1 else 0) ≥ 0) = decide (y ≤ x) := by
  by_cases h1 : x < y
  · rw [if_pos h1, decide_eq_false (by omega), decide_eq_false (by omega)]
  · by_cases h2 : y < x
    · rw [if_neg h1, if_pos h2, decide_eq_true (by omega), decide_eq_true (by omega)]
    · rw [if_neg h1, if_neg h2, decide_eq_true (by omega), decide_eq_true (by omega)]
section
variable {num den L : Int}
theorem underG_eq (hn : 1 ≤ num ∧ num ≤ 10000000000000) (hd : 1 ≤ den ∧ den ≤ 10000000000000) (h : -90 ≤ L ∧ L ≤ 90) :
    y52 (IntKind.wrap IntKind.u64 num) (IntKind.wrap IntKind.u64 den) L = some (decide (nuL 1 L * den ≤ deL L * num)) := by
  have ht := tn_range (k := L % 10) (by omega)
  have e1 : IntKind.wrap IntKind.u64 num = num := by rw [u64m]; omega
  have e2 : IntKind.wrap IntKind.u64 den = den := by rw [u64m]; omega
  unfold y52
  rw [split_eq (by omega), bind_some', wr64 (x := L + 900) (by omega), Int.tmod_eq_emod_of_nonneg (by omega), Int.tdiv_eq_ediv_of_nonneg (by omega), wr64 (x := (L + 900) / 10) (by omega), wr64 (by omega), e1, e2]
  rw [show (L + 900) % 10 = L % 10 by omega, show (L + 900) / 10 - 90 = L / 10 by omega]
  have hl : tenthsT.length = 10 := rfl
  rw [if_pos (by omega), if_pos (by rw [hl]; omega)]
  unfold nuL deL
  by_cases hk : L % 10 > 0
  · rw [if_pos hk, if_pos hk]
    have e3 : IntKind.wrap IntKind.u64 (tenthsT.getD (L % 10).toNat 0 + 1) = tenthsT.getD (L % 10).toNat 0 + 1 := by rw [u64m]; omega
    rw [e3, ratioG_eq hn hd (by omega) (by omega), bind_some', triLe]
  · rw [if_neg hk, if_neg hk, ratioG_eq hn hd (by omega) (by omega), bind_some', triLe, Int.add_zero]
theorem overG_eq (hn : 1 ≤ num ∧ num ≤ 10000000000000) (hd : 1 ≤ den ∧ den ≤ 10000000000000) (h : -90 ≤ L ∧ L ≤ 90) :
    y63 (IntKind.wrap IntKind.u64 num) (IntKind.wrap IntKind.u64 den) L = some (decide (deL L * num ≤ nuL 0 L * den)) := by
  have ht := tn_range (k := L % 10) (by omega)
  have e1 : IntKind.wrap IntKind.u64 num = num := by rw [u64m]; omega
  have e2 : IntKind.wrap IntKind.u64 den = den := by rw [u64m]; omega
  unfold y63
  rw [split_eq (by omega), bind_some', wr64 (x := L + 900) (by omega), Int.tmod_eq_emod_of_nonneg (by omega), Int.tdiv_eq_ediv_of_nonneg (by omega), wr64 (x := (L + 900) / 10) (by omega), wr64 (by omega), e1, e2]
  rw [show (L + 900) % 10 = L % 10 by omega, show (L + 900) / 10 - 90 = L / 10 by omega]
  have hl : tenthsT.length = 10 := rfl
  rw [if_pos (by omega), if_pos (by rw [hl]; omega)]
  unfold nuL deL
  rw [ratioG_eq hn hd (by omega) (by omega), bind_some', triGe, show (if 0 < L % 10 then (0 : Int) else 0) = 0 by split <;> rfl, Int.add_zero]
theorem againstR_eq {u : Int} (hu : 0 ≤ u ∧ u ≤ 1) (hn : 1 ≤ num ∧ num ≤ 10000000000000) (hd : 1 ≤ den ∧ den ≤ 10000000000000) (h : -90 ≤ L ∧ L ≤ 90) :
    y42 num den L u = some (cmpS num den (nuL u L) (deL L)) := by
  have ht := tn_range (k := L % 10) (by omega)
  have hnu := nu_range hu h
  have hde := de_range h
  unfold y42
  rw [modB_eq (by omega), bind_some', floor_eq (by omega) (by omega), bind_some', tenthsR_eq (by omega), bind_some']
  by_cases hk : L % 10 > 0
  · rw [if_pos hk]
    by_cases ha : L / 10 ≥ 0
    · have e1 : nuL u L = (tenthsT.getD (L % 10).toNat 0 + u) * p10 (L / 10) := by unfold nuL; rw [if_pos hk, show max (L / 10) 0 = L / 10 by omega]
      have e2 : deL L = 1000000000 := by unfold deL; rw [show max (-(L / 10)) 0 = 0 by omega]; rfl
      rw [if_pos ha, ten_eq (by omega), bind_some', wr64 (x := tenthsT.getD (L % 10).toNat 0 + u) (by omega), ← e1, wr64 (x := nuL u L) (by omega), compare_eq (by omega) (by omega) (by omega) (by omega) (by omega) (by omega) (by omega) (by omega), bind_some', e2]
    · have e1 : nuL u L = tenthsT.getD (L % 10).toNat 0 + u := by unfold nuL; rw [if_pos hk, show max (L / 10) 0 = 0 by omega]; exact Int.mul_one _
      have e2 : deL L = p10 (9 - L / 10) := by unfold deL; rw [show max (-(L / 10)) 0 = -(L / 10) by omega, ← p10_nineteen (by omega), Int.sub_eq_add_neg]
      rw [if_neg ha, wr64 (x := 9 - L / 10) (by omega), ten_eq (by omega), bind_some', wr64 (x := tenthsT.getD (L % 10).toNat 0 + u) (by omega), ← e1, ← e2, compare_eq (by omega) (by omega) (by omega) (by omega) (by omega) (by omega) (by omega) (by omega), bind_some']
  · rw [if_neg hk]
    by_cases ha : L / 10 ≥ 0
    · have e1 : nuL u L = tenthsT.getD (L % 10).toNat 0 * p10 (L / 10) := by unfold nuL; rw [if_neg hk, Int.add_zero, show max (L / 10) 0 = L / 10 by omega]
      have e2 : deL L = 1000000000 := by unfold deL; rw [show max (-(L / 10)) 0 = 0 by omega]; rfl
      rw [if_pos ha, ten_eq (by omega), bind_some', ← e1, wr64 (x := nuL u L) (by omega), compare_eq (by omega) (by omega) (by omega) (by omega) (by omega) (by omega) (by omega) (by omega), bind_some', e2]
    · have e1 : nuL u L = tenthsT.getD (L % 10).toNat 0 := by unfold nuL; rw [if_neg hk, Int.add_zero, show max (L / 10) 0 = 0 by omega]; exact Int.mul_one _
      have e2 : deL L = p10 (9 - L / 10) := by unfold deL; rw [show max (-(L / 10)) 0 = -(L / 10) by omega, ← p10_nineteen (by omega), Int.sub_eq_add_neg]
      rw [if_neg ha, wr64 (x := 9 - L / 10) (by omega), ten_eq (by omega), bind_some', ← e1, ← e2, compare_eq (by omega) (by omega) (by omega) (by omega) (by omega) (by omega) (by omega) (by omega), bind_some']
end
end Go.Sh
end

section
namespace Go.Sh
open Go Go.Proofs Go.RowKit Go.Sx Go.Sx06 Ieee Go.Fl
def unI (num den : Int) : Option Nat := (List.range 181).findIdx? fun (i : Nat) => decide (nuL 1 (90 - (i : Int)) * den ≤ deL (90 - (i : Int)) * num)
def ovI (num den : Int) : Option Nat := (List.range 181).findIdx? fun (i : Nat) => decide (deL ((i : Int) - 90) * num ≤ nuL 0 ((i : Int) - 90) * den)
def lvS (num den : Int) : Int × Int × Int :=
  if ¬ (1 ≤ num ∧ num ≤ 10000000000000) then (0, 0, 2) else if ¬ (1 ≤ den ∧ den ≤ 10000000000000) then (0, 0, 2) else
  if den * 1000000000 < num then (0, 0, 8) else if num * 1000000000 < den then (0, 0, 8) else (90 - (((unI num den).getD 0 : Nat) : Int), (((ovI num den).getD 0 : Nat) : Int) - 90, 0)
theorem rg {i : Nat} (h : i < 181) : (List.range 181).getD i 0 = i := by simp [List.getD, h]
section
variable {num den : Int}
theorem un_ex (h : den ≤ num * 1000000000) : ∃ j : Nat, unI num den = some j ∧ j < 181 ∧ decide (nuL 1 (90 - (j : Int)) * den ≤ deL (90 - (j : Int)) * num) = true ∧ ∀ i : Nat, i < j → decide (nuL 1 (90 - (i : Int)) * den ≤ deL (90 - (i : Int)) * num) = false := by
  have hx : ∃ j, unI num den = some j ∧ j ≤ 180 := by
    refine idx_le (d := 0) (j := 180) (by simp) ?_
    rw [rg (by omega)]
    have e1 : nuL 1 (90 - ((180 : Nat) : Int)) = 1000000000 := by decide
    have e2 : deL (90 - ((180 : Nat) : Int)) = 1000000000000000000 := by decide
    rw [e1, e2]
    exact decide_eq_true (by omega)
  obtain ⟨j, hj, hle⟩ := hx
  obtain ⟨a, b, c⟩ := idx_some (d := 0) hj
  rw [rg (by omega)] at b
  refine ⟨j, hj, by omega, b, fun i hi => ?_⟩
  have := c i hi
  rw [rg (by omega)] at this
  exact this
theorem ov_ex (h : num ≤ den * 1000000000) : ∃ j : Nat, ovI num den = some j ∧ j < 181 ∧ decide (deL ((j : Int) - 90) * num ≤ nuL 0 ((j : Int) - 90) * den) = true ∧ ∀ i : Nat, i < j → decide (deL ((i : Int) - 90) * num ≤ nuL 0 ((i : Int) - 90) * den) = false := by
  have hx : ∃ j, ovI num den = some j ∧ j ≤ 180 := by
    refine idx_le (d := 0) (j := 180) (by simp) ?_
    rw [rg (by omega)]
    have e1 : nuL 0 (((180 : Nat) : Int) - 90) = 1000000000000000000 := by decide
    have e2 : deL (((180 : Nat) : Int) - 90) = 1000000000 := by decide
    rw [e1, e2]
    exact decide_eq_true (by omega)
  obtain ⟨j, hj, hle⟩ := hx
  obtain ⟨a, b, c⟩ := idx_some (d := 0) hj
  rw [rg (by omega)] at b
  refine ⟨j, hj, by omega, b, fun i hi => ?_⟩
  have := c i hi
  rw [rg (by omega)] at this
  exact this
theorem levelG_eq : y33 num den = some (lvS num den) := by
  unfold y33 lvS y49
  rw [withinG_eq, bind_some', bind_some']
  by_cases hn : 1 ≤ num ∧ num ≤ 10000000000000
  · rw [nd_t hn, if_neg Bool.false_ne_true, if_neg (fun h => h hn), withinG_eq, bind_some', bind_some']
    by_cases hd : 1 ≤ den ∧ den ≤ 10000000000000
    · rw [nd_t hd, if_neg Bool.false_ne_true, if_neg (fun h => h hd)]
      have great : ∀ {a b : Int}, 1 ≤ a ∧ a ≤ 10000000000000 → 1 ≤ b ∧ b ≤ 10000000000000 → y41 a b = some (decide (b * 1000000000 < a)) := by
        intro a b ha hb
        unfold y41
        by_cases h : b ≤ 10000
        · rw [if_pos h, wr64 (by omega)]
        · rw [if_neg h, decide_eq_false (by omega)]
      rw [great hn hd, bind_some']
      by_cases g1 : den * 1000000000 < num
      · rw [decide_eq_true g1, if_pos rfl, if_pos g1]
      · rw [decide_eq_false g1, if_neg Bool.false_ne_true, if_neg g1, great hd hn, bind_some']
        by_cases g2 : num * 1000000000 < den
        · rw [decide_eq_true g2, if_pos rfl, if_pos g2]
        · rw [decide_eq_false g2, if_neg Bool.false_ne_true, if_neg g2]
          obtain ⟨j, hj, j1, j2, j3⟩ := un_ex (num := num) (den := den) (by omega)
          obtain ⟨k, hk, k1, k2, k3⟩ := ov_ex (num := num) (den := den) (by omega)
          have i1 : iter (y64 num den) big (90 : Int) = some (90 - (j : Int)) := by
            refine iter_upto (fun i => (90 : Int) - (i : Int)) (k := j) (fun i hi => ?_) ?_ (by omega)
            · unfold y64
              rw [underG_eq hn hd (by omega), bind_some', j3 i hi, if_pos (by decide), wr64 (by omega)]
              congr 2; omega
            · unfold y64
              rw [underG_eq hn hd (by omega), bind_some', j2, if_neg (by decide)]
          have i2 : iter (y65 num den) big (-90 : Int) = some ((k : Int) - 90) := by
            refine iter_upto (fun i => (i : Int) - 90) (k := k) (fun i hi => ?_) ?_ (by omega)
            · unfold y65
              rw [overG_eq hn hd (by omega), bind_some', k3 i hi, if_pos (by decide), wr64 (by omega)]
              congr 2; omega
            · unfold y65
              rw [overG_eq hn hd (by omega), bind_some', k2, if_neg (by decide)]
          rw [i1, bind_some']
          unfold y88
          rw [i2, bind_some', hj, hk]
          rfl
    · rw [nd_f hd, if_pos rfl, if_pos hd]
  · rw [nd_f hn, if_pos rfl, if_pos hn]
theorem levelR_eq : y60 num den = some (lvS num den) := by
  unfold y60 lvS
  rw [withinB_eq, bind_some']
  by_cases hn : 1 ≤ num ∧ num ≤ 10000000000000
  · rw [nd_t hn, if_neg Bool.false_ne_true, if_neg (fun h => h hn), withinB_eq, bind_some']
    by_cases hd : 1 ≤ den ∧ den ≤ 10000000000000
    · rw [nd_t hd, if_neg Bool.false_ne_true, if_neg (fun h => h hd)]
      rw [compare_eq (by omega) (by omega) (by omega) (by omega) (by omega) (by omega) (by omega) (by omega), bind_some']
      have c1 : cmpS num den 1000000000 1 > 0 ↔ den * 1000000000 < num := by unfold cmpS; split <;> (try split) <;> omega
      have c2 : cmpS num den 1 1000000000 < 0 ↔ num * 1000000000 < den := by unfold cmpS; split <;> (try split) <;> omega
      by_cases g1 : den * 1000000000 < num
      · rw [if_pos (c1.2 g1), if_pos g1]
      · rw [if_neg (fun h => g1 (c1.1 h)), if_neg g1, compare_eq (by omega) (by omega) (by omega) (by omega) (by omega) (by omega) (by omega) (by omega), bind_some']
        by_cases g2 : num * 1000000000 < den
        · rw [if_pos (c2.2 g2), if_pos g2]
        · rw [if_neg (fun h => g2 (c2.1 h)), if_neg g2]
          obtain ⟨j, hj, j1, j2, j3⟩ := un_ex (num := num) (den := den) (by omega)
          obtain ⟨k, hk, k1, k2, k3⟩ := ov_ex (num := num) (den := den) (by omega)
          have d1 : ∀ L : Int, cmpS num den (nuL 1 L) (deL L) < 0 ↔ ¬ nuL 1 L * den ≤ deL L * num := by
            intro L
            unfold cmpS
            rw [Int.mul_comm num (deL L)]
            split <;> (try split) <;> omega
          have d2 : ∀ L : Int, cmpS num den (nuL 0 L) (deL L) > 0 ↔ ¬ deL L * num ≤ nuL 0 L * den := by
            intro L
            unfold cmpS
            rw [Int.mul_comm num (deL L)]
            split <;> (try split) <;> omega
          have i1 : iter (y43 num den) big (90 : Int) = some (90 - (j : Int)) := by
            refine iter_upto (fun i => (90 : Int) - (i : Int)) (k := j) (fun i hi => ?_) ?_ (by omega)
            · unfold y43
              rw [againstR_eq (by omega) hn hd (by omega), bind_some', if_pos ((d1 _).2 (of_decide_eq_false (j3 i hi))), wr64 (by omega)]
              congr 2; omega
            · unfold y43
              rw [againstR_eq (by omega) hn hd (by omega), bind_some', if_neg (fun h => (d1 _).1 h (of_decide_eq_true j2))]
          have i2 : iter (y44 num den) big (-90 : Int) = some ((k : Int) - 90) := by
            refine iter_upto (fun i => (i : Int) - 90) (k := k) (fun i hi => ?_) ?_ (by omega)
            · unfold y44
              rw [againstR_eq (by omega) hn hd (by omega), bind_some', if_pos ((d2 _).2 (of_decide_eq_false (k3 i hi))), wr64 (by omega)]
              congr 2; omega
            · unfold y44
              rw [againstR_eq (by omega) hn hd (by omega), bind_some', if_neg (fun h => (d2 _).1 h (of_decide_eq_true k2))]
          rw [i1, bind_some']
          unfold y83
          rw [i2, bind_some', hj, hk]
          rfl
    · rw [nd_f hd, if_pos rfl, if_pos hd]
  · rw [nd_f hn, if_pos rfl, if_pos hn]
end
end Go.Sh
end

section
namespace Go.Sh
open Go Go.Proofs Go.RowKit Go.Sx Go.Sx06 Ieee Go.Fl
def lvA (i : Nat) : Int := (i : Int) - 90
set_option maxRecDepth 100000 in
theorem lev_pairs : ∀ a ∈ List.range 181, ∀ b ∈ List.range 181, a < b → nuL 0 (lvA a) * deL (lvA b) < nuL 1 (lvA b) * deL (lvA a) ∧ nuL 1 (lvA a) * deL (lvA b) ≤ nuL 1 (lvA b) * deL (lvA a) := by decide +kernel
set_option maxRecDepth 100000 in
theorem lev_next : ∀ a ∈ List.range 180, nuL 1 (lvA a) * deL (lvA (a + 1)) ≤ nuL 0 (lvA (a + 1)) * deL (lvA a) := by decide +kernel
set_option maxRecDepth 100000 in
theorem lev_opp : ∀ a ∈ List.range 180, nuL 0 (lvA a) * nuL 1 (-lvA a - 1) ≤ deL (lvA a) * deL (-lvA a - 1) ∧ deL (lvA (a + 1)) * deL (1 - lvA (a + 1)) ≤ nuL 0 (lvA (a + 1)) * nuL 1 (1 - lvA (a + 1)) := by decide +kernel
set_option maxRecDepth 100000 in
theorem lev_self : ∀ a ∈ List.range 90, deL (lvA (180 - a)) < nuL 1 (lvA (180 - a)) ∧ nuL 0 (lvA a) < deL (lvA a) := by decide +kernel
theorem lvA_of {L : Int} (h : -90 ≤ L ∧ L ≤ 90) : L = lvA (L + 90).toNat ∧ (L + 90).toNat < 181 := by unfold lvA; omega
section
variable {num den n1 d1 n2 d2 : Int}
theorem lv_good (e : (lvS num den).2.2 = 0) : (1 ≤ num ∧ num ≤ 10000000000000) ∧ (1 ≤ den ∧ den ≤ 10000000000000) ∧ num ≤ den * 1000000000 ∧ den ≤ num * 1000000000 ∧
    ∃ a b : Int, lvS num den = (a, b, 0) ∧ (-90 ≤ a ∧ a ≤ 90) ∧ (-90 ≤ b ∧ b ≤ 90) ∧ nuL 1 a * den ≤ deL a * num ∧ (∀ L, a < L → L ≤ 90 → deL L * num < nuL 1 L * den) ∧ deL b * num ≤ nuL 0 b * den ∧ (∀ L, L < b → -90 ≤ L → nuL 0 L * den < deL L * num) := by
  unfold lvS at e ⊢
  by_cases hn : 1 ≤ num ∧ num ≤ 10000000000000
  · rw [if_neg (fun h => h hn)] at e ⊢
    by_cases hd : 1 ≤ den ∧ den ≤ 10000000000000
    · rw [if_neg (fun h => h hd)] at e ⊢
      by_cases g1 : den * 1000000000 < num
      · rw [if_pos g1] at e; exact absurd e (by decide)
      · rw [if_neg g1] at e ⊢
        by_cases g2 : num * 1000000000 < den
        · rw [if_pos g2] at e; exact absurd e (by decide)
        · rw [if_neg g2]
          obtain ⟨j, hj, j1, j2, j3⟩ := un_ex (num := num) (den := den) (by omega)
          obtain ⟨k, hk, k1, k2, k3⟩ := ov_ex (num := num) (den := den) (by omega)
          refine ⟨hn, hd, by omega, by omega, 90 - (j : Int), (k : Int) - 90, by rw [hj, hk]; rfl, by omega, by omega, of_decide_eq_true j2, fun L h1 h2 => ?_, of_decide_eq_true k2, fun L h1 h2 => ?_⟩
          · have := of_decide_eq_false (j3 (90 - L).toNat (by omega))
            rw [show 90 - (((90 - L).toNat : Nat) : Int) = L by omega] at this
            omega
          · have := of_decide_eq_false (k3 (L + 90).toNat (by omega))
            rw [show (((L + 90).toNat : Nat) : Int) - 90 = L by omega] at this
            omega
    · rw [if_pos hd] at e; exact absurd e (by decide)
  · rw [if_pos hn] at e; exact absurd e (by decide)
theorem mul_cut {a b c : Int} (hc : 0 < c) (h : a * c ≤ b * c) : a ≤ b := Int.le_of_mul_le_mul_right h hc
theorem lv_near (e : (lvS num den).2.2 = 0) : (lvS num den).1 ≤ (lvS num den).2.1 ∧ (lvS num den).2.1 ≤ (lvS num den).1 + 2 := by
  obtain ⟨hn, hd, _, _, a, b, q, ra, rb, u, v, w, x⟩ := lv_good e
  rw [q]
  refine ⟨(show a ≤ b from Int.not_lt.1 fun hh => ?_), (show b ≤ a + 2 from Int.not_lt.1 fun hh => ?_)⟩
  · obtain ⟨ea, la⟩ := lvA_of ra
    obtain ⟨eb, lb⟩ := lvA_of rb
    have hp := (lev_pairs (b + 90).toNat (by simpa using lb) (a + 90).toNat (by simpa using la) (by omega)).1
    rw [← ea, ← eb] at hp
    have d1 := de_range ra
    have d2 := de_range rb
    have s1 := Int.mul_lt_mul_of_pos_right hp (show 0 < den by omega)
    have s2 := Int.mul_le_mul_of_nonneg_right u (show 0 ≤ deL b by omega)
    have s3 := Int.mul_le_mul_of_nonneg_right w (show 0 ≤ deL a by omega)
    generalize nuL 1 a = p1 at *
    generalize nuL 0 b = p2 at *
    generalize deL a = p3 at *
    generalize deL b = p4 at *
    have t1 : p1 * den * p4 = p1 * p4 * den := by grind
    have t2 : p3 * num * p4 = p4 * num * p3 := by grind
    have t3 : p2 * den * p3 = p2 * p3 * den := by grind
    omega
  · have hv := v (a + 1) (by omega) (by omega)
    have hx := x (a + 2) (by omega) (by omega)
    have hp := lev_next (a + 1 + 90).toNat (by simp; omega)
    rw [show (a + 1 + 90).toNat + 1 = (a + 2 + 90).toNat by omega, ← (lvA_of (L := a + 1) (by omega)).1, ← (lvA_of (L := a + 2) (by omega)).1] at hp
    have d1 := de_range (L := a + 1) (by omega)
    have d2 := de_range (L := a + 2) (by omega)
    have s1 := Int.mul_le_mul_of_nonneg_right hp (show 0 ≤ den by omega)
    have s2 := Int.mul_lt_mul_of_pos_right hv (show 0 < deL (a + 2) by omega)
    have s3 := Int.mul_lt_mul_of_pos_right hx (show 0 < deL (a + 1) by omega)
    generalize nuL 1 (a + 1) = p1 at *
    generalize nuL 0 (a + 2) = p2 at *
    generalize deL (a + 1) = p3 at *
    generalize deL (a + 2) = p4 at *
    have t1 : p1 * den * p4 = p1 * p4 * den := by grind
    have t2 : p3 * num * p4 = p4 * num * p3 := by grind
    have t3 : p2 * den * p3 = p2 * p3 * den := by grind
    omega
theorem lv_turn (e : (lvS num den).2.2 = 0) : (lvS den num).2.2 = 0 ∧ -(lvS num den).2.1 - 1 ≤ (lvS den num).1 ∧ (lvS den num).1 ≤ -(lvS num den).2.1 + 1 := by
  obtain ⟨hn, hd, g1, g2, a, b, q, ra, rb, u, v, w, x⟩ := lv_good e
  have e' : (lvS den num).2.2 = 0 := by
    unfold lvS
    rw [if_neg (fun h => h hd), if_neg (fun h => h hn), if_neg (by omega), if_neg (by omega)]
  obtain ⟨_, _, _, _, c, d, q', rc, rd, u', v', w', x'⟩ := lv_good e'
  refine ⟨e', ?_⟩
  rw [q, q']
  refine ⟨(show -b - 1 ≤ c from Int.not_lt.1 fun hh => ?_), (show c ≤ -b + 1 from Int.not_lt.1 fun hh => ?_)⟩
  · have hv := v' (-b - 1) hh (by omega)
    have hp := (lev_opp (b + 90).toNat (by simp; omega)).1
    rw [← (lvA_of rb).1] at hp
    have d1 := de_range rb
    have d2 := de_range (L := -b - 1) (by omega)
    have n2 := nu_range (u := 1) (L := -b - 1) (by omega) (by omega)
    have s1 := Int.mul_le_mul_of_nonneg_right hp (show 0 ≤ den by omega)
    have s2 := Int.mul_lt_mul_of_pos_right hv (show 0 < deL b by omega)
    have s3 := Int.mul_le_mul_of_nonneg_right w (show 0 ≤ nuL 1 (-b - 1) by omega)
    generalize nuL 1 (-b - 1) = p1 at *
    generalize nuL 0 b = p2 at *
    generalize deL (-b - 1) = p3 at *
    generalize deL b = p4 at *
    have t1 : p1 * num * p4 = p4 * num * p1 := by grind
    have t2 : p2 * den * p1 = p2 * p1 * den := by grind
    have t3 : p3 * den * p4 = p4 * p3 * den := by grind
    omega
  · have hx := x (b - 1) (by omega) (by omega)
    have hp := (lev_opp (b - 2 + 90).toNat (by simp; omega)).2
    rw [show (b - 2 + 90).toNat + 1 = (b - 1 + 90).toNat by omega, ← (lvA_of (L := b - 1) (by omega)).1, show 1 - (b - 1) = 2 - b by omega] at hp
    have hm : nuL 1 (2 - b) * deL c ≤ nuL 1 c * deL (2 - b) := by
      by_cases hc : c = 2 - b
      · rw [hc]; omega
      · have := (lev_pairs (2 - b + 90).toNat (by simp; omega) (c + 90).toNat (by simp; omega) (by omega)).2
        rw [← (lvA_of (L := 2 - b) (by omega)).1, ← (lvA_of rc).1] at this
        exact this
    have d1 := de_range rc
    have d2 := de_range (L := b - 1) (by omega)
    have d3 := de_range (L := 2 - b) (by omega)
    have n1 := nu_range (u := 0) (L := b - 1) (by omega) (by omega)
    have n2 := nu_range (u := 1) (L := 2 - b) (by omega) (by omega)
    generalize nuL 1 (2 - b) = u1 at *
    generalize deL (2 - b) = e1 at *
    generalize nuL 1 c = w1 at *
    generalize deL c = v1 at *
    generalize nuL 0 (b - 1) = p1 at *
    generalize deL (b - 1) = q1 at *
    have s1 := Int.mul_le_mul_of_nonneg_right hm (show 0 ≤ num by omega)
    have s2 := Int.mul_le_mul_of_nonneg_right u' (show 0 ≤ e1 by omega)
    have s3 : u1 * num ≤ e1 * den := by
      refine mul_cut (c := v1) (by omega) ?_
      have t1 : u1 * num * v1 = u1 * v1 * num := by grind
      have t2 : w1 * num * e1 = w1 * e1 * num := by grind
      have t3 : e1 * den * v1 = v1 * den * e1 := by grind
      omega
    have s4 := Int.mul_le_mul_of_nonneg_right s3 (show 0 ≤ p1 by omega)
    have s5 := Int.mul_lt_mul_of_pos_right hx (show 0 < e1 by omega)
    have s6 := Int.mul_le_mul_of_nonneg_right hp (show 0 ≤ num by omega)
    have t1 : u1 * num * p1 = p1 * u1 * num := by grind
    have t2 : e1 * den * p1 = p1 * den * e1 := by grind
    have t3 : q1 * num * e1 = q1 * e1 * num := by grind
    omega
theorem lv_same (h : 1 ≤ num ∧ num ≤ 10000000000000) : lvS num num = (0, 0, 0) := by
  have e' : (lvS num num).2.2 = 0 := by
    unfold lvS
    rw [if_neg (fun hh => hh h), if_neg (fun hh => hh h), if_neg (by omega), if_neg (by omega)]
  obtain ⟨_, _, _, _, a, b, q, ra, rb, u, v, w, x⟩ := lv_good e'
  have z1 : nuL 1 0 = deL 0 := by decide
  have z0 : nuL 0 0 = deL 0 := by decide
  have ha : a = 0 := by
    by_cases h1 : a < 0
    · have := v 0 h1 (by omega)
      rw [z1] at this; omega
    · by_cases h2 : 0 < a
      · have := (lev_self (90 - a).toNat (by simp; omega)).1
        rw [show 180 - (90 - a).toNat = (a + 90).toNat by omega, ← (lvA_of ra).1] at this
        have := mul_cut (c := num) (by omega) u
        omega
      · omega
  have hb : b = 0 := by
    by_cases h1 : 0 < b
    · have := x 0 h1 (by omega)
      rw [z0] at this; omega
    · by_cases h2 : b < 0
      · have := (lev_self (b + 90).toNat (by simp; omega)).2
        rw [← (lvA_of rb).1] at this
        have := mul_cut (c := num) (by omega) w
        omega
      · omega
  rw [q, ha, hb]
end
end Go.Sh
end

section
namespace Go.Sh
open Go Go.Proofs Go.RowKit Go.Sx
set_option linter.unusedVariables false
def y141 : List SV := [.c (.p [.p [.d, .r (.floats .f32 []), .d, .d, .r (.recs 2 []), .r (.recs 2 [])]])]
def y10 (u12 : Int) (u13 : List Nat) (u14 : Int) (u15 : Int) (u16 : List (List Int)) (u17 : List (List Int)) : Option (Int × Int × Int) :=
  Option.bind (y36 u12 u13 u14 u15 u16 u17 (80000 : Int)) fun r0 =>
  some (r0.1, r0.2.1, r0.2.2)
def y142 : List Lf → Option GT
  | [.d (.i .i64 u12), .r (.floats .f32 u13), .d (.i .i64 u14), .d (.i .i64 u15), .r (.recs 2 u16), .r (.recs 2 u17)] => some (.leaf (ok (y10 u12 u13 u14 u15 u16 u17)) [.s [.d (.i .i64 ((val (y10 u12 u13 u14 u15 u16 u17)).1)), .d (.i .i64 ((val (y10 u12 u13 u14 u15 u16 u17)).2.1))], .c (.d (.i .i64 ((val (y10 u12 u13 u14 u15 u16 u17)).2.2)))])
  | _ => none
abbrev sp_69 : Specs → Specs := addK 69 true (pureT y141 y142)
set_option maxRecDepth 100000 in
def G_FiguresOf_1_t (u12 : Int) (u13 : List Nat) (u14 : Int) (u15 : Int) (u16 : List (List Int)) (u17 : List (List Int)) : T (Int × Int × Int) :=
 .obT
  (.call (y36 u12 u13 u14 u15 u16 u17 (80000 : Int)) fun r0 =>
  .obT
  (.obT
  (.rc ((r0.1, r0.2.1, r0.2.2)))))
set_option maxRecDepth 100000 in
theorem G_FiguresOf_1_vc (u12 : Int) (u13 : List Nat) (u14 : Int) (u15 : Int) (u16 : List (List Int)) (u17 : List (List Int)) (r : Int × Int × Int) (h : Option.bind (y10 u12 u13 u14 u15 u16 u17) some = some r) : runT Tryd.f69 ((sp_58 sp0)) (fun _ _ _ => none) (bldD y141 [.d (.i .i64 u12), .r (.floats .f32 u13), .d (.i .i64 u14), .d (.i .i64 u15), .r (.recs 2 u16), .r (.recs 2 u17)]) [.s [.d (.i .i64 r.1), .d (.i .i64 r.2.1)], .c (.d (.i .i64 r.2.2))] :=
  T.vc (t := G_FiguresOf_1_t u12 u13 u14 u15 u16 u17) (by kernel_rfl) (by kernel_rfl) h
set_option maxRecDepth 100000 in
theorem G_FiguresOf_1_ok : SpecOK Tryd.prog 69 true (pureT y141 y142) := by
  refine pureT_ok (sp := (sp_58 sp0)) (fn := Tryd.f69) (body := bodyOf Tryd.f69) mixed (sp_58_ok sp0_ok) Tryd.func69 (by kernel_rfl) (by kernel_rfl) fun ls t h ho b hb => ?_
  unfold y142 at h
  split at h
  · rename_i u12 u13 u14 u15 u16 u17
    cases h
    obtain rfl := bld_eq hb
    exact ⟨Nat.le_of_ble_eq_true (by kernel_rfl), _, _, G_FiguresOf_1_vc u12 u13 u14 u15 u16 u17 _ (ok_some ho)⟩
  · cases h
theorem sp_69_ok {sp : Specs} (h : SpecsOK Tryd.prog sp) : SpecsOK Tryd.prog (sp_69 sp) := addK_ok G_FiguresOf_1_ok h
def y143 : List SV := [.c (.p [.p [.d, .r (.floats .f32 []), .d, .d, .r (.recs 2 []), .r (.recs 2 [])]])]
def y3 (u12 : Int) (u13 : List Nat) (u14 : Int) (u15 : Int) (u16 : List (List Int)) (u17 : List (List Int)) : Option (Int × Int × Int) :=
  Option.bind (y39 u12 u13 u14 u15 u16 u17 (50000 : Int)) fun r0 =>
  some (r0.1, r0.2.1, r0.2.2)
def y144 : List Lf → Option GT
  | [.d (.i .i64 u12), .r (.floats .f32 u13), .d (.i .i64 u14), .d (.i .i64 u15), .r (.recs 2 u16), .r (.recs 2 u17)] => some (.leaf (ok (y3 u12 u13 u14 u15 u16 u17)) [.s [.d (.i .i64 ((val (y3 u12 u13 u14 u15 u16 u17)).1)), .d (.i .i64 ((val (y3 u12 u13 u14 u15 u16 u17)).2.1))], .c (.d (.i .i64 ((val (y3 u12 u13 u14 u15 u16 u17)).2.2)))])
  | _ => none
abbrev sp_70 : Specs → Specs := addK 70 true (pureT y143 y144)
set_option maxRecDepth 100000 in
def G_FiguresOf_2_t (u12 : Int) (u13 : List Nat) (u14 : Int) (u15 : Int) (u16 : List (List Int)) (u17 : List (List Int)) : T (Int × Int × Int) :=
 .obT
  (.call (y39 u12 u13 u14 u15 u16 u17 (50000 : Int)) fun r0 =>
  .obT
  (.obT
  (.rc ((r0.1, r0.2.1, r0.2.2)))))
set_option maxRecDepth 100000 in
theorem G_FiguresOf_2_vc (u12 : Int) (u13 : List Nat) (u14 : Int) (u15 : Int) (u16 : List (List Int)) (u17 : List (List Int)) (r : Int × Int × Int) (h : Option.bind (y3 u12 u13 u14 u15 u16 u17) some = some r) : runT Tryd.f70 ((sp_59 sp0)) (fun _ _ _ => none) (bldD y143 [.d (.i .i64 u12), .r (.floats .f32 u13), .d (.i .i64 u14), .d (.i .i64 u15), .r (.recs 2 u16), .r (.recs 2 u17)]) [.s [.d (.i .i64 r.1), .d (.i .i64 r.2.1)], .c (.d (.i .i64 r.2.2))] :=
  T.vc (t := G_FiguresOf_2_t u12 u13 u14 u15 u16 u17) (by kernel_rfl) (by kernel_rfl) h
set_option maxRecDepth 100000 in
theorem G_FiguresOf_2_ok : SpecOK Tryd.prog 70 true (pureT y143 y144) := by
  refine pureT_ok (sp := (sp_59 sp0)) (fn := Tryd.f70) (body := bodyOf Tryd.f70) mixed (sp_59_ok sp0_ok) Tryd.func70 (by kernel_rfl) (by kernel_rfl) fun ls t h ho b hb => ?_
  unfold y144 at h
  split at h
  · rename_i u12 u13 u14 u15 u16 u17
    cases h
    obtain rfl := bld_eq hb
    exact ⟨Nat.le_of_ble_eq_true (by kernel_rfl), _, _, G_FiguresOf_2_vc u12 u13 u14 u15 u16 u17 _ (ok_some ho)⟩
  · cases h
theorem sp_70_ok {sp : Specs} (h : SpecsOK Tryd.prog sp) : SpecsOK Tryd.prog (sp_70 sp) := addK_ok G_FiguresOf_2_ok h
def y145 : List SV := [.c (.p [.p [.d, .r (.floats .f32 []), .d, .d, .r (.recs 2 []), .r (.recs 2 [])]]), .c (.p [.d])]
def y14 (u12 : Int) (u13 : List Nat) (u14 : Int) (u15 : Int) (u16 : List (List Int)) (u17 : List (List Int)) (v1_ : Int) : Option (Int × Int × Int) :=
  Option.bind (y30 u12 u13 u14 u15 u16 u17 v1_) fun r0 =>
  some (r0.1, r0.2.1, r0.2.2)
def y146 : List Lf → Option GT
  | [.d (.i .i64 u12), .r (.floats .f32 u13), .d (.i .i64 u14), .d (.i .i64 u15), .r (.recs 2 u16), .r (.recs 2 u17), .d (.i .i64 v1_)] => some (.leaf (ok (y14 u12 u13 u14 u15 u16 u17 v1_)) [.s [.d (.i .i64 ((val (y14 u12 u13 u14 u15 u16 u17 v1_)).1)), .d (.i .i64 ((val (y14 u12 u13 u14 u15 u16 u17 v1_)).2.1))], .c (.d (.i .i64 ((val (y14 u12 u13 u14 u15 u16 u17 v1_)).2.2)))])
  | _ => none
abbrev sp_71 : Specs → Specs := addK 71 true (pureT y145 y146)
set_option maxRecDepth 100000 in
def G_FiguresOf_3_t (u12 : Int) (u13 : List Nat) (u14 : Int) (u15 : Int) (u16 : List (List Int)) (u17 : List (List Int)) (v1_ : Int) : T (Int × Int × Int) :=
 .obT
  (.obT
  (.call (y30 u12 u13 u14 u15 u16 u17 v1_) fun r0 =>
  .obT
  (.obT
  (.rc ((r0.1, r0.2.1, r0.2.2))))))
set_option maxRecDepth 100000 in
theorem G_FiguresOf_3_vc (u12 : Int) (u13 : List Nat) (u14 : Int) (u15 : Int) (u16 : List (List Int)) (u17 : List (List Int)) (v1_ : Int) (r : Int × Int × Int) (h : Option.bind (y14 u12 u13 u14 u15 u16 u17 v1_) some = some r) : runT Tryd.f71 ((sp_57 sp0)) (fun _ _ _ => none) (bldD y145 [.d (.i .i64 u12), .r (.floats .f32 u13), .d (.i .i64 u14), .d (.i .i64 u15), .r (.recs 2 u16), .r (.recs 2 u17), .d (.i .i64 v1_)]) [.s [.d (.i .i64 r.1), .d (.i .i64 r.2.1)], .c (.d (.i .i64 r.2.2))] :=
  T.vc (t := G_FiguresOf_3_t u12 u13 u14 u15 u16 u17 v1_) (by kernel_rfl) (by kernel_rfl) h
set_option maxRecDepth 100000 in
theorem G_FiguresOf_3_ok : SpecOK Tryd.prog 71 true (pureT y145 y146) := by
  refine pureT_ok (sp := (sp_57 sp0)) (fn := Tryd.f71) (body := bodyOf Tryd.f71) mixed (sp_57_ok sp0_ok) Tryd.func71 (by kernel_rfl) (by kernel_rfl) fun ls t h ho b hb => ?_
  unfold y146 at h
  split at h
  · rename_i u12 u13 u14 u15 u16 u17 v1_
    cases h
    obtain rfl := bld_eq hb
    exact ⟨Nat.le_of_ble_eq_true (by kernel_rfl), _, _, G_FiguresOf_3_vc u12 u13 u14 u15 u16 u17 v1_ _ (ok_some ho)⟩
  · cases h
theorem sp_71_ok {sp : Specs} (h : SpecsOK Tryd.prog sp) : SpecsOK Tryd.prog (sp_71 sp) := addK_ok G_FiguresOf_3_ok h
def k_G_FiguresOf : List SV := [.a [.d, .r (.floats .f32 []), .d, .d]]
def y13 (u18 : Int) (u19 : List Nat) (u20 : Int) (u21 : Int) : Option (Bool × Bool × Bool × Bool × Bool × Bool × Int × Int × Int × Int × Int × Int × Int × Int × Int × Int × Int × Int × Int) :=
  if ((val (G_open u18 u19 u20 u21)).1 != (0 : Int)) = true then
   Option.bind (G_open u18 u19 u20 u21) fun r0 =>
   if (r0.1 != (0 : Int)) = true then
    some ((false, false, false, false, false, false, (0 : Int), (0 : Int), (0 : Int), (0 : Int), (0 : Int), (0 : Int), (0 : Int), (0 : Int), (0 : Int), (0 : Int), (0 : Int), (0 : Int), r0.1))
   else
    none   else
   Option.bind (G_open u18 u19 u20 u21) fun r0 =>
   Option.bind (y14 u18 u19 u20 u21 r0.2.1 r0.2.2 (0 : Int)) fun r1 =>
   if (r1.2.2 == (0 : Int)) = true then
    Option.bind (y14 u18 u19 u20 u21 r0.2.1 r0.2.2 (1 : Int)) fun r2 =>
    if (r2.2.2 == (0 : Int)) = true then
     Option.bind (y14 u18 u19 u20 u21 r0.2.1 r0.2.2 (2 : Int)) fun r3 =>
     if (r3.2.2 == (0 : Int)) = true then
      Option.bind (y10 u18 u19 u20 u21 r0.2.1 r0.2.2) fun r4 =>
      if (r4.2.2 == (0 : Int)) = true then
       Option.bind (y3 u18 u19 u20 u21 r0.2.1 r0.2.2) fun r5 =>
       if (r5.2.2 == (0 : Int)) = true then
        Option.bind (y2 u18 u19 u20 u21 r0.2.1 r0.2.2) fun r6 =>
        if (r6.2.2 == (0 : Int)) = true then
         some ((true, true, true, true, true, true, r1.1, r1.2.1, r2.1, r2.2.1, r3.1, r3.2.1, r4.1, r4.2.1, r5.1, r5.2.1, r6.1, r6.2.1, (0 : Int)))
        else
         some ((true, true, true, true, true, false, r1.1, r1.2.1, r2.1, r2.2.1, r3.1, r3.2.1, r4.1, r4.2.1, r5.1, r5.2.1, (0 : Int), (0 : Int), (0 : Int)))
       else
        Option.bind (y2 u18 u19 u20 u21 r0.2.1 r0.2.2) fun r6 =>
        if (r6.2.2 == (0 : Int)) = true then
         some ((true, true, true, true, false, true, r1.1, r1.2.1, r2.1, r2.2.1, r3.1, r3.2.1, r4.1, r4.2.1, (0 : Int), (0 : Int), r6.1, r6.2.1, (0 : Int)))
        else
         some ((true, true, true, true, false, false, r1.1, r1.2.1, r2.1, r2.2.1, r3.1, r3.2.1, r4.1, r4.2.1, (0 : Int), (0 : Int), (0 : Int), (0 : Int), (0 : Int)))
      else
       Option.bind (y3 u18 u19 u20 u21 r0.2.1 r0.2.2) fun r5 =>
       if (r5.2.2 == (0 : Int)) = true then
        Option.bind (y2 u18 u19 u20 u21 r0.2.1 r0.2.2) fun r6 =>
        if (r6.2.2 == (0 : Int)) = true then
         some ((true, true, true, false, true, true, r1.1, r1.2.1, r2.1, r2.2.1, r3.1, r3.2.1, (0 : Int), (0 : Int), r5.1, r5.2.1, r6.1, r6.2.1, (0 : Int)))
        else
         some ((true, true, true, false, true, false, r1.1, r1.2.1, r2.1, r2.2.1, r3.1, r3.2.1, (0 : Int), (0 : Int), r5.1, r5.2.1, (0 : Int), (0 : Int), (0 : Int)))
       else
        Option.bind (y2 u18 u19 u20 u21 r0.2.1 r0.2.2) fun r6 =>
        if (r6.2.2 == (0 : Int)) = true then
         some ((true, true, true, false, false, true, r1.1, r1.2.1, r2.1, r2.2.1, r3.1, r3.2.1, (0 : Int), (0 : Int), (0 : Int), (0 : Int), r6.1, r6.2.1, (0 : Int)))
        else
         some ((true, true, true, false, false, false, r1.1, r1.2.1, r2.1, r2.2.1, r3.1, r3.2.1, (0 : Int), (0 : Int), (0 : Int), (0 : Int), (0 : Int), (0 : Int), (0 : Int)))
     else
      Option.bind (y10 u18 u19 u20 u21 r0.2.1 r0.2.2) fun r4 =>
      if (r4.2.2 == (0 : Int)) = true then
       Option.bind (y3 u18 u19 u20 u21 r0.2.1 r0.2.2) fun r5 =>
       if (r5.2.2 == (0 : Int)) = true then
        Option.bind (y2 u18 u19 u20 u21 r0.2.1 r0.2.2) fun r6 =>
        if (r6.2.2 == (0 : Int)) = true then
         some ((true, true, false, true, true, true, r1.1, r1.2.1, r2.1, r2.2.1, (0 : Int), (0 : Int), r4.1, r4.2.1, r5.1, r5.2.1, r6.1, r6.2.1, (0 : Int)))
        else
         some ((true, true, false, true, true, false, r1.1, r1.2.1, r2.1, r2.2.1, (0 : Int), (0 : Int), r4.1, r4.2.1, r5.1, r5.2.1, (0 : Int), (0 : Int), (0 : Int)))
       else
        Option.bind (y2 u18 u19 u20 u21 r0.2.1 r0.2.2) fun r6 =>
        if (r6.2.2 == (0 : Int)) = true then
         some ((true, true, false, true, false, true, r1.1, r1.2.1, r2.1, r2.2.1, (0 : Int), (0 : Int), r4.1, r4.2.1, (0 : Int), (0 : Int), r6.1, r6.2.1, (0 : Int)))
        else
         some ((true, true, false, true, false, false, r1.1, r1.2.1, r2.1, r2.2.1, (0 : Int), (0 : Int), r4.1, r4.2.1, (0 : Int), (0 : Int), (0 : Int), (0 : Int), (0 : Int)))
      else
       Option.bind (y3 u18 u19 u20 u21 r0.2.1 r0.2.2) fun r5 =>
       if (r5.2.2 == (0 : Int)) = true then
        Option.bind (y2 u18 u19 u20 u21 r0.2.1 r0.2.2) fun r6 =>
        if (r6.2.2 == (0 : Int)) = true then
         some ((true, true, false, false, true, true, r1.1, r1.2.1, r2.1, r2.2.1, (0 : Int), (0 : Int), (0 : Int), (0 : Int), r5.1, r5.2.1, r6.1, r6.2.1, (0 : Int)))
        else
         some ((true, true, false, false, true, false, r1.1, r1.2.1, r2.1, r2.2.1, (0 : Int), (0 : Int), (0 : Int), (0 : Int), r5.1, r5.2.1, (0 : Int), (0 : Int), (0 : Int)))
       else
        Option.bind (y2 u18 u19 u20 u21 r0.2.1 r0.2.2) fun r6 =>
        if (r6.2.2 == (0 : Int)) = true then
         some ((true, true, false, false, false, true, r1.1, r1.2.1, r2.1, r2.2.1, (0 : Int), (0 : Int), (0 : Int), (0 : Int), (0 : Int), (0 : Int), r6.1, r6.2.1, (0 : Int)))
        else
         some ((true, true, false, false, false, false, r1.1, r1.2.1, r2.1, r2.2.1, (0 : Int), (0 : Int), (0 : Int), (0 : Int), (0 : Int), (0 : Int), (0 : Int), (0 : Int), (0 : Int)))
    else
     Option.bind (y14 u18 u19 u20 u21 r0.2.1 r0.2.2 (2 : Int)) fun r3 =>
     if (r3.2.2 == (0 : Int)) = true then
      Option.bind (y10 u18 u19 u20 u21 r0.2.1 r0.2.2) fun r4 =>
      if (r4.2.2 == (0 : Int)) = true then
       Option.bind (y3 u18 u19 u20 u21 r0.2.1 r0.2.2) fun r5 =>
       if (r5.2.2 == (0 : Int)) = true then
        Option.bind (y2 u18 u19 u20 u21 r0.2.1 r0.2.2) fun r6 =>
        if (r6.2.2 == (0 : Int)) = true then
         some ((true, false, true, true, true, true, r1.1, r1.2.1, (0 : Int), (0 : Int), r3.1, r3.2.1, r4.1, r4.2.1, r5.1, r5.2.1, r6.1, r6.2.1, (0 : Int)))
        else
         some ((true, false, true, true, true, false, r1.1, r1.2.1, (0 : Int), (0 : Int), r3.1, r3.2.1, r4.1, r4.2.1, r5.1, r5.2.1, (0 : Int), (0 : Int), (0 : Int)))
       else
        Option.bind (y2 u18 u19 u20 u21 r0.2.1 r0.2.2) fun r6 =>
        if (r6.2.2 == (0 : Int)) = true then
         some ((true, false, true, true, false, true, r1.1, r1.2.1, (0 : Int), (0 : Int), r3.1, r3.2.1, r4.1, r4.2.1, (0 : Int), (0 : Int), r6.1, r6.2.1, (0 : Int)))
        else
         some ((true, false, true, true, false, false, r1.1, r1.2.1, (0 : Int), (0 : Int), r3.1, r3.2.1, r4.1, r4.2.1, (0 : Int), (0 : Int), (0 : Int), (0 : Int), (0 : Int)))
      else
       Option.bind (y3 u18 u19 u20 u21 r0.2.1 r0.2.2) fun r5 =>
       if (r5.2.2 == (0 : Int)) = true then
        Option.bind (y2 u18 u19 u20 u21 r0.2.1 r0.2.2) fun r6 =>
        if (r6.2.2 == (0 : Int)) = true then
         some ((true, false, true, false, true, true, r1.1, r1.2.1, (0 : Int), (0 : Int), r3.1, r3.2.1, (0 : Int), (0 : Int), r5.1, r5.2.1, r6.1, r6.2.1, (0 : Int)))
        else
         some ((true, false, true, false, true, false, r1.1, r1.2.1, (0 : Int), (0 : Int), r3.1, r3.2.1, (0 : Int), (0 : Int), r5.1, r5.2.1, (0 : Int), (0 : Int), (0 : Int)))
       else
        Option.bind (y2 u18 u19 u20 u21 r0.2.1 r0.2.2) fun r6 =>
        if (r6.2.2 == (0 : Int)) = true then
         some ((true, false, true, false, false, true, r1.1, r1.2.1, (0 : Int), (0 : Int), r3.1, r3.2.1, (0 : Int), (0 : Int), (0 : Int), (0 : Int), r6.1, r6.2.1, (0 : Int)))
        else
         some ((true, false, true, false, false, false, r1.1, r1.2.1, (0 : Int), (0 : Int), r3.1, r3.2.1, (0 : Int), (0 : Int), (0 : Int), (0 : Int), (0 : Int), (0 : Int), (0 : Int)))
     else
      Option.bind (y10 u18 u19 u20 u21 r0.2.1 r0.2.2) fun r4 =>
      if (r4.2.2 == (0 : Int)) = true then
       Option.bind (y3 u18 u19 u20 u21 r0.2.1 r0.2.2) fun r5 =>
       if (r5.2.2 == (0 : Int)) = true then
        Option.bind (y2 u18 u19 u20 u21 r0.2.1 r0.2.2) fun r6 =>
        if (r6.2.2 == (0 : Int)) = true then
         some ((true, false, false, true, true, true, r1.1, r1.2.1, (0 : Int), (0 : Int), (0 : Int), (0 : Int), r4.1, r4.2.1, r5.1, r5.2.1, r6.1, r6.2.1, (0 : Int)))
        else
         some ((true, false, false, true, true, false, r1.1, r1.2.1, (0 : Int), (0 : Int), (0 : Int), (0 : Int), r4.1, r4.2.1, r5.1, r5.2.1, (0 : Int), (0 : Int), (0 : Int)))
       else
        Option.bind (y2 u18 u19 u20 u21 r0.2.1 r0.2.2) fun r6 =>
        if (r6.2.2 == (0 : Int)) = true then
         some ((true, false, false, true, false, true, r1.1, r1.2.1, (0 : Int), (0 : Int), (0 : Int), (0 : Int), r4.1, r4.2.1, (0 : Int), (0 : Int), r6.1, r6.2.1, (0 : Int)))
        else
         some ((true, false, false, true, false, false, r1.1, r1.2.1, (0 : Int), (0 : Int), (0 : Int), (0 : Int), r4.1, r4.2.1, (0 : Int), (0 : Int), (0 : Int), (0 : Int), (0 : Int)))
      else
       Option.bind (y3 u18 u19 u20 u21 r0.2.1 r0.2.2) fun r5 =>
       if (r5.2.2 == (0 : Int)) = true then
        Option.bind (y2 u18 u19 u20 u21 r0.2.1 r0.2.2) fun r6 =>
        if (r6.2.2 == (0 : Int)) = true then
         some ((true, false, false, false, true, true, r1.1, r1.2.1, (0 : Int), (0 : Int), (0 : Int), (0 : Int), (0 : Int), (0 : Int), r5.1, r5.2.1, r6.1, r6.2.1, (0 : Int)))
        else
         some ((true, false, false, false, true, false, r1.1, r1.2.1, (0 : Int), (0 : Int), (0 : Int), (0 : Int), (0 : Int), (0 : Int), r5.1, r5.2.1, (0 : Int), (0 : Int), (0 : Int)))
       else
        Option.bind (y2 u18 u19 u20 u21 r0.2.1 r0.2.2) fun r6 =>
        if (r6.2.2 == (0 : Int)) = true then
         some ((true, false, false, false, false, true, r1.1, r1.2.1, (0 : Int), (0 : Int), (0 : Int), (0 : Int), (0 : Int), (0 : Int), (0 : Int), (0 : Int), r6.1, r6.2.1, (0 : Int)))
        else
         some ((true, false, false, false, false, false, r1.1, r1.2.1, (0 : Int), (0 : Int), (0 : Int), (0 : Int), (0 : Int), (0 : Int), (0 : Int), (0 : Int), (0 : Int), (0 : Int), (0 : Int)))
   else
    Option.bind (y14 u18 u19 u20 u21 r0.2.1 r0.2.2 (1 : Int)) fun r2 =>
    if (r2.2.2 == (0 : Int)) = true then
     Option.bind (y14 u18 u19 u20 u21 r0.2.1 r0.2.2 (2 : Int)) fun r3 =>
     if (r3.2.2 == (0 : Int)) = true then
      Option.bind (y10 u18 u19 u20 u21 r0.2.1 r0.2.2) fun r4 =>
      if (r4.2.2 == (0 : Int)) = true then
       Option.bind (y3 u18 u19 u20 u21 r0.2.1 r0.2.2) fun r5 =>
       if (r5.2.2 == (0 : Int)) = true then
        Option.bind (y2 u18 u19 u20 u21 r0.2.1 r0.2.2) fun r6 =>
        if (r6.2.2 == (0 : Int)) = true then
         some ((false, true, true, true, true, true, (0 : Int), (0 : Int), r2.1, r2.2.1, r3.1, r3.2.1, r4.1, r4.2.1, r5.1, r5.2.1, r6.1, r6.2.1, (0 : Int)))
        else
         some ((false, true, true, true, true, false, (0 : Int), (0 : Int), r2.1, r2.2.1, r3.1, r3.2.1, r4.1, r4.2.1, r5.1, r5.2.1, (0 : Int), (0 : Int), (0 : Int)))
       else
        Option.bind (y2 u18 u19 u20 u21 r0.2.1 r0.2.2) fun r6 =>
        if (r6.2.2 == (0 : Int)) = true then
         some ((false, true, true, true, false, true, (0 : Int), (0 : Int), r2.1, r2.2.1, r3.1, r3.2.1, r4.1, r4.2.1, (0 : Int), (0 : Int), r6.1, r6.2.1, (0 : Int)))
        else
         some ((false, true, true, true, false, false, (0 : Int), (0 : Int), r2.1, r2.2.1, r3.1, r3.2.1, r4.1, r4.2.1, (0 : Int), (0 : Int), (0 : Int), (0 : Int), (0 : Int)))
      else
       Option.bind (y3 u18 u19 u20 u21 r0.2.1 r0.2.2) fun r5 =>
       if (r5.2.2 == (0 : Int)) = true then
        Option.bind (y2 u18 u19 u20 u21 r0.2.1 r0.2.2) fun r6 =>
        if (r6.2.2 == (0 : Int)) = true then
         some ((false, true, true, false, true, true, (0 : Int), (0 : Int), r2.1, r2.2.1, r3.1, r3.2.1, (0 : Int), (0 : Int), r5.1, r5.2.1, r6.1, r6.2.1, (0 : Int)))
        else
         some ((false, true, true, false, true, false, (0 : Int), (0 : Int), r2.1, r2.2.1, r3.1, r3.2.1, (0 : Int), (0 : Int), r5.1, r5.2.1, (0 : Int), (0 : Int), (0 : Int)))
       else
        Option.bind (y2 u18 u19 u20 u21 r0.2.1 r0.2.2) fun r6 =>
        if (r6.2.2 == (0 : Int)) = true then
         some ((false, true, true, false, false, true, (0 : Int), (0 : Int), r2.1, r2.2.1, r3.1, r3.2.1, (0 : Int), (0 : Int), (0 : Int), (0 : Int), r6.1, r6.2.1, (0 : Int)))
        else
         some ((false, true, true, false, false, false, (0 : Int), (0 : Int), r2.1, r2.2.1, r3.1, r3.2.1, (0 : Int), (0 : Int), (0 : Int), (0 : Int), (0 : Int), (0 : Int), (0 : Int)))
     else
      Option.bind (y10 u18 u19 u20 u21 r0.2.1 r0.2.2) fun r4 =>
      if (r4.2.2 == (0 : Int)) = true then
       Option.bind (y3 u18 u19 u20 u21 r0.2.1 r0.2.2) fun r5 =>
       if (r5.2.2 == (0 : Int)) = true then
        Option.bind (y2 u18 u19 u20 u21 r0.2.1 r0.2.2) fun r6 =>
        if (r6.2.2 == (0 : Int)) = true then
         some ((false, true, false, true, true, true, (0 : Int), (0 : Int), r2.1, r2.2.1, (0 : Int), (0 : Int), r4.1, r4.2.1, r5.1, r5.2.1, r6.1, r6.2.1, (0 : Int)))
        else
         some ((false, true, false, true, true, false, (0 : Int), (0 : Int), r2.1, r2.2.1, (0 : Int), (0 : Int), r4.1, r4.2.1, r5.1, r5.2.1, (0 : Int), (0 : Int), (0 : Int)))
       else
        Option.bind (y2 u18 u19 u20 u21 r0.2.1 r0.2.2) fun r6 =>
        if (r6.2.2 == (0 : Int)) = true then
         some ((false, true, false, true, false, true, (0 : Int), (0 : Int), r2.1, r2.2.1, (0 : Int), (0 : Int), r4.1, r4.2.1, (0 : Int), (0 : Int), r6.1, r6.2.1, (0 : Int)))
        else
         some ((false, true, false, true, false, false, (0 : Int), (0 : Int), r2.1, r2.2.1, (0 : Int), (0 : Int), r4.1, r4.2.1, (0 : Int), (0 : Int), (0 : Int), (0 : Int), (0 : Int)))
      else
       Option.bind (y3 u18 u19 u20 u21 r0.2.1 r0.2.2) fun r5 =>
       if (r5.2.2 == (0 : Int)) = true then
        Option.bind (y2 u18 u19 u20 u21 r0.2.1 r0.2.2) fun r6 =>
        if (r6.2.2 == (0 : Int)) = true then
         some ((false, true, false, false, true, true, (0 : Int), (0 : Int), r2.1, r2.2.1, (0 : Int), (0 : Int), (0 : Int), (0 : Int), r5.1, r5.2.1, r6.1, r6.2.1, (0 : Int)))
        else
         some ((false, true, false, false, true, false, (0 : Int), (0 : Int), r2.1, r2.2.1, (0 : Int), (0 : Int), (0 : Int), (0 : Int), r5.1, r5.2.1, (0 : Int), (0 : Int), (0 : Int)))
       else
        Option.bind (y2 u18 u19 u20 u21 r0.2.1 r0.2.2) fun r6 =>
        if (r6.2.2 == (0 : Int)) = true then
         some ((false, true, false, false, false, true, (0 : Int), (0 : Int), r2.1, r2.2.1, (0 : Int), (0 : Int), (0 : Int), (0 : Int), (0 : Int), (0 : Int), r6.1, r6.2.1, (0 : Int)))
        else
         some ((false, true, false, false, false, false, (0 : Int), (0 : Int), r2.1, r2.2.1, (0 : Int), (0 : Int), (0 : Int), (0 : Int), (0 : Int), (0 : Int), (0 : Int), (0 : Int), (0 : Int)))
    else
     Option.bind (y14 u18 u19 u20 u21 r0.2.1 r0.2.2 (2 : Int)) fun r3 =>
     if (r3.2.2 == (0 : Int)) = true then
      Option.bind (y10 u18 u19 u20 u21 r0.2.1 r0.2.2) fun r4 =>
      if (r4.2.2 == (0 : Int)) = true then
       Option.bind (y3 u18 u19 u20 u21 r0.2.1 r0.2.2) fun r5 =>
       if (r5.2.2 == (0 : Int)) = true then
        Option.bind (y2 u18 u19 u20 u21 r0.2.1 r0.2.2) fun r6 =>
        if (r6.2.2 == (0 : Int)) = true then
         some ((false, false, true, true, true, true, (0 : Int), (0 : Int), (0 : Int), (0 : Int), r3.1, r3.2.1, r4.1, r4.2.1, r5.1, r5.2.1, r6.1, r6.2.1, (0 : Int)))
        else
         some ((false, false, true, true, true, false, (0 : Int), (0 : Int), (0 : Int), (0 : Int), r3.1, r3.2.1, r4.1, r4.2.1, r5.1, r5.2.1, (0 : Int), (0 : Int), (0 : Int)))
       else
        Option.bind (y2 u18 u19 u20 u21 r0.2.1 r0.2.2) fun r6 =>
        if (r6.2.2 == (0 : Int)) = true then
         some ((false, false, true, true, false, true, (0 : Int), (0 : Int), (0 : Int), (0 : Int), r3.1, r3.2.1, r4.1, r4.2.1, (0 : Int), (0 : Int), r6.1, r6.2.1, (0 : Int)))
        else
         some ((false, false, true, true, false, false, (0 : Int), (0 : Int), (0 : Int), (0 : Int), r3.1, r3.2.1, r4.1, r4.2.1, (0 : Int), (0 : Int), (0 : Int), (0 : Int), (0 : Int)))
      else
       Option.bind (y3 u18 u19 u20 u21 r0.2.1 r0.2.2) fun r5 =>
       if (r5.2.2 == (0 : Int)) = true then
        Option.bind (y2 u18 u19 u20 u21 r0.2.1 r0.2.2) fun r6 =>
        if (r6.2.2 == (0 : Int)) = true then
         some ((false, false, true, false, true, true, (0 : Int), (0 : Int), (0 : Int), (0 : Int), r3.1, r3.2.1, (0 : Int), (0 : Int), r5.1, r5.2.1, r6.1, r6.2.1, (0 : Int)))
        else
         some ((false, false, true, false, true, false, (0 : Int), (0 : Int), (0 : Int), (0 : Int), r3.1, r3.2.1, (0 : Int), (0 : Int), r5.1, r5.2.1, (0 : Int), (0 : Int), (0 : Int)))
       else
        Option.bind (y2 u18 u19 u20 u21 r0.2.1 r0.2.2) fun r6 =>
        if (r6.2.2 == (0 : Int)) = true then
         some ((false, false, true, false, false, true, (0 : Int), (0 : Int), (0 : Int), (0 : Int), r3.1, r3.2.1, (0 : Int), (0 : Int), (0 : Int), (0 : Int), r6.1, r6.2.1, (0 : Int)))
        else
         some ((false, false, true, false, false, false, (0 : Int), (0 : Int), (0 : Int), (0 : Int), r3.1, r3.2.1, (0 : Int), (0 : Int), (0 : Int), (0 : Int), (0 : Int), (0 : Int), (0 : Int)))
     else
      Option.bind (y10 u18 u19 u20 u21 r0.2.1 r0.2.2) fun r4 =>
      if (r4.2.2 == (0 : Int)) = true then
       Option.bind (y3 u18 u19 u20 u21 r0.2.1 r0.2.2) fun r5 =>
       if (r5.2.2 == (0 : Int)) = true then
        Option.bind (y2 u18 u19 u20 u21 r0.2.1 r0.2.2) fun r6 =>
        if (r6.2.2 == (0 : Int)) = true then
         some ((false, false, false, true, true, true, (0 : Int), (0 : Int), (0 : Int), (0 : Int), (0 : Int), (0 : Int), r4.1, r4.2.1, r5.1, r5.2.1, r6.1, r6.2.1, (0 : Int)))
        else
         some ((false, false, false, true, true, false, (0 : Int), (0 : Int), (0 : Int), (0 : Int), (0 : Int), (0 : Int), r4.1, r4.2.1, r5.1, r5.2.1, (0 : Int), (0 : Int), (0 : Int)))
       else
        Option.bind (y2 u18 u19 u20 u21 r0.2.1 r0.2.2) fun r6 =>
        if (r6.2.2 == (0 : Int)) = true then
         some ((false, false, false, true, false, true, (0 : Int), (0 : Int), (0 : Int), (0 : Int), (0 : Int), (0 : Int), r4.1, r4.2.1, (0 : Int), (0 : Int), r6.1, r6.2.1, (0 : Int)))
        else
         some ((false, false, false, true, false, false, (0 : Int), (0 : Int), (0 : Int), (0 : Int), (0 : Int), (0 : Int), r4.1, r4.2.1, (0 : Int), (0 : Int), (0 : Int), (0 : Int), (0 : Int)))
      else
       Option.bind (y3 u18 u19 u20 u21 r0.2.1 r0.2.2) fun r5 =>
       if (r5.2.2 == (0 : Int)) = true then
        Option.bind (y2 u18 u19 u20 u21 r0.2.1 r0.2.2) fun r6 =>
        if (r6.2.2 == (0 : Int)) = true then
         some ((false, false, false, false, true, true, (0 : Int), (0 : Int), (0 : Int), (0 : Int), (0 : Int), (0 : Int), (0 : Int), (0 : Int), r5.1, r5.2.1, r6.1, r6.2.1, (0 : Int)))
        else
         some ((false, false, false, false, true, false, (0 : Int), (0 : Int), (0 : Int), (0 : Int), (0 : Int), (0 : Int), (0 : Int), (0 : Int), r5.1, r5.2.1, (0 : Int), (0 : Int), (0 : Int)))
       else
        Option.bind (y2 u18 u19 u20 u21 r0.2.1 r0.2.2) fun r6 =>
        if (r6.2.2 == (0 : Int)) = true then
         some ((false, false, false, false, false, true, (0 : Int), (0 : Int), (0 : Int), (0 : Int), (0 : Int), (0 : Int), (0 : Int), (0 : Int), (0 : Int), (0 : Int), r6.1, r6.2.1, (0 : Int)))
        else
         some ((false, false, false, false, false, false, (0 : Int), (0 : Int), (0 : Int), (0 : Int), (0 : Int), (0 : Int), (0 : Int), (0 : Int), (0 : Int), (0 : Int), (0 : Int), (0 : Int), (0 : Int)))
def g_G_FiguresOf : List Lf → Option GT
  | [.d (.i .i64 u18), .r (.floats .f32 u19), .d (.i .i64 u20), .d (.i .i64 u21)] => some (.leaf (ok (y13 u18 u19 u20 u21)) [.s [.d (.b ((val (y13 u18 u19 u20 u21)).1)), .d (.b ((val (y13 u18 u19 u20 u21)).2.1)), .d (.b ((val (y13 u18 u19 u20 u21)).2.2.1)), .d (.b ((val (y13 u18 u19 u20 u21)).2.2.2.1)), .d (.b ((val (y13 u18 u19 u20 u21)).2.2.2.2.1)), .d (.b ((val (y13 u18 u19 u20 u21)).2.2.2.2.2.1)), .d (.i .i64 ((val (y13 u18 u19 u20 u21)).2.2.2.2.2.2.1)), .d (.i .i64 ((val (y13 u18 u19 u20 u21)).2.2.2.2.2.2.2.1)), .d (.i .i64 ((val (y13 u18 u19 u20 u21)).2.2.2.2.2.2.2.2.1)), .d (.i .i64 ((val (y13 u18 u19 u20 u21)).2.2.2.2.2.2.2.2.2.1)), .d (.i .i64 ((val (y13 u18 u19 u20 u21)).2.2.2.2.2.2.2.2.2.2.1)), .d (.i .i64 ((val (y13 u18 u19 u20 u21)).2.2.2.2.2.2.2.2.2.2.2.1)), .d (.i .i64 ((val (y13 u18 u19 u20 u21)).2.2.2.2.2.2.2.2.2.2.2.2.1)), .d (.i .i64 ((val (y13 u18 u19 u20 u21)).2.2.2.2.2.2.2.2.2.2.2.2.2.1)), .d (.i .i64 ((val (y13 u18 u19 u20 u21)).2.2.2.2.2.2.2.2.2.2.2.2.2.2.1)), .d (.i .i64 ((val (y13 u18 u19 u20 u21)).2.2.2.2.2.2.2.2.2.2.2.2.2.2.2.1)), .d (.i .i64 ((val (y13 u18 u19 u20 u21)).2.2.2.2.2.2.2.2.2.2.2.2.2.2.2.2.1)), .d (.i .i64 ((val (y13 u18 u19 u20 u21)).2.2.2.2.2.2.2.2.2.2.2.2.2.2.2.2.2.1))], .c (.d (.i .i64 ((val (y13 u18 u19 u20 u21)).2.2.2.2.2.2.2.2.2.2.2.2.2.2.2.2.2.2)))])
  | _ => none
abbrev sp_37 : Specs → Specs := addK 37 true (pureT k_G_FiguresOf g_G_FiguresOf)
set_option maxRecDepth 100000 in
def G_FiguresOf_t (u18 : Int) (u19 : List Nat) (u20 : Int) (u21 : Int) : T (Bool × Bool × Bool × Bool × Bool × Bool × Int × Int × Int × Int × Int × Int × Int × Int × Int × Int × Int × Int × Int) :=
 .brB ((val (G_open u18 u19 u20 u21)).1 != (0 : Int))
  (.call (G_open u18 u19 u20 u21) fun r0 =>
  .brB (r0.1 != (0 : Int))
  (.obT
  (.obT
  (.rc (((false, false, false, false, false, false, (0 : Int), (0 : Int), (0 : Int), (0 : Int), (0 : Int), (0 : Int), (0 : Int), (0 : Int), (0 : Int), (0 : Int), (0 : Int), (0 : Int), r0.1))))))
  (.bad (fun r => False)))
  (.call (G_open u18 u19 u20 u21) fun r0 =>
  .obT
  (.obC (((0 : Int) ≤ (0 : Int) ∧ (0 : Int) < (3 : Int)) ∧ true = true) (by decide)
  (.obC ((0 : Int) ≤ (0 : Int) ∧ (0 : Int) < (6 : Int)) (by decide)
  (.obT
  (.obC (((0 : Int) ≤ (1 : Int) ∧ (1 : Int) < (3 : Int)) ∧ true = true) (by decide)
  (.obC ((0 : Int) ≤ (1 : Int) ∧ (1 : Int) < (6 : Int)) (by decide)
  (.obT
  (.obC (((0 : Int) ≤ (2 : Int) ∧ (2 : Int) < (3 : Int)) ∧ true = true) (by decide)
  (.obC ((0 : Int) ≤ (2 : Int) ∧ (2 : Int) < (6 : Int)) (by decide)
  (.obT
  (.obC ((0 : Int) ≤ (0 : Int) ∧ (0 : Int) < (6 : Int)) (by decide)
  (.call (y14 u18 u19 u20 u21 r0.2.1 r0.2.2 (0 : Int)) fun r1 =>
  .brB (r1.2.2 == (0 : Int))
  (.obC ((0 : Int) ≤ (0 : Int) ∧ (0 : Int) < (6 : Int)) (by decide)
  (.obC (true = true) (by decide)
  (.obC ((0 : Int) ≤ (0 : Int) ∧ (0 : Int) < (6 : Int)) (by decide)
  (.obC (true = true ∧ true = true) (by decide)
  (.obC ((0 : Int) ≤ (1 : Int) ∧ (1 : Int) < (6 : Int)) (by decide)
  (.call (y14 u18 u19 u20 u21 r0.2.1 r0.2.2 (1 : Int)) fun r2 =>
  .brB (r2.2.2 == (0 : Int))
  (.obC ((0 : Int) ≤ (1 : Int) ∧ (1 : Int) < (6 : Int)) (by decide)
  (.obC (true = true) (by decide)
  (.obC ((0 : Int) ≤ (1 : Int) ∧ (1 : Int) < (6 : Int)) (by decide)
  (.obC (true = true ∧ true = true) (by decide)
  (.obC ((0 : Int) ≤ (2 : Int) ∧ (2 : Int) < (6 : Int)) (by decide)
  (.call (y14 u18 u19 u20 u21 r0.2.1 r0.2.2 (2 : Int)) fun r3 =>
  .brB (r3.2.2 == (0 : Int))
  (.obC ((0 : Int) ≤ (2 : Int) ∧ (2 : Int) < (6 : Int)) (by decide)
  (.obC (true = true) (by decide)
  (.obC ((0 : Int) ≤ (2 : Int) ∧ (2 : Int) < (6 : Int)) (by decide)
  (.obC (true = true ∧ true = true) (by decide)
  (.obC ((0 : Int) ≤ (3 : Int) ∧ (3 : Int) < (6 : Int)) (by decide)
  (.call (y10 u18 u19 u20 u21 r0.2.1 r0.2.2) fun r4 =>
  .brB (r4.2.2 == (0 : Int))
  (.obC ((0 : Int) ≤ (3 : Int) ∧ (3 : Int) < (6 : Int)) (by decide)
  (.obC (true = true) (by decide)
  (.obC ((0 : Int) ≤ (3 : Int) ∧ (3 : Int) < (6 : Int)) (by decide)
  (.obC (true = true ∧ true = true) (by decide)
  (.obC ((0 : Int) ≤ (4 : Int) ∧ (4 : Int) < (6 : Int)) (by decide)
  (.call (y3 u18 u19 u20 u21 r0.2.1 r0.2.2) fun r5 =>
  .brB (r5.2.2 == (0 : Int))
  (.obC ((0 : Int) ≤ (4 : Int) ∧ (4 : Int) < (6 : Int)) (by decide)
  (.obC (true = true) (by decide)
  (.obC ((0 : Int) ≤ (4 : Int) ∧ (4 : Int) < (6 : Int)) (by decide)
  (.obC (true = true ∧ true = true) (by decide)
  (.obC ((0 : Int) ≤ (5 : Int) ∧ (5 : Int) < (6 : Int)) (by decide)
  (.call (y2 u18 u19 u20 u21 r0.2.1 r0.2.2) fun r6 =>
  .brB (r6.2.2 == (0 : Int))
  (.obC ((0 : Int) ≤ (5 : Int) ∧ (5 : Int) < (6 : Int)) (by decide)
  (.obC (true = true) (by decide)
  (.obC ((0 : Int) ≤ (5 : Int) ∧ (5 : Int) < (6 : Int)) (by decide)
  (.obC (true = true ∧ true = true) (by decide)
  (.obT
  (.obT
  (.rc (((true, true, true, true, true, true, r1.1, r1.2.1, r2.1, r2.2.1, r3.1, r3.2.1, r4.1, r4.2.1, r5.1, r5.2.1, r6.1, r6.2.1, (0 : Int)))))))))))
  (.obT
  (.obT
  (.rc (((true, true, true, true, true, false, r1.1, r1.2.1, r2.1, r2.2.1, r3.1, r3.2.1, r4.1, r4.2.1, r5.1, r5.2.1, (0 : Int), (0 : Int), (0 : Int)))))))))))))
  (.obC ((0 : Int) ≤ (5 : Int) ∧ (5 : Int) < (6 : Int)) (by decide)
  (.call (y2 u18 u19 u20 u21 r0.2.1 r0.2.2) fun r6 =>
  .brB (r6.2.2 == (0 : Int))
  (.obC ((0 : Int) ≤ (5 : Int) ∧ (5 : Int) < (6 : Int)) (by decide)
  (.obC (true = true) (by decide)
  (.obC ((0 : Int) ≤ (5 : Int) ∧ (5 : Int) < (6 : Int)) (by decide)
  (.obC (true = true ∧ true = true) (by decide)
  (.obT
  (.obT
  (.rc (((true, true, true, true, false, true, r1.1, r1.2.1, r2.1, r2.2.1, r3.1, r3.2.1, r4.1, r4.2.1, (0 : Int), (0 : Int), r6.1, r6.2.1, (0 : Int)))))))))))
  (.obT
  (.obT
  (.rc (((true, true, true, true, false, false, r1.1, r1.2.1, r2.1, r2.2.1, r3.1, r3.2.1, r4.1, r4.2.1, (0 : Int), (0 : Int), (0 : Int), (0 : Int), (0 : Int)))))))))))))))
  (.obC ((0 : Int) ≤ (4 : Int) ∧ (4 : Int) < (6 : Int)) (by decide)
  (.call (y3 u18 u19 u20 u21 r0.2.1 r0.2.2) fun r5 =>
  .brB (r5.2.2 == (0 : Int))
  (.obC ((0 : Int) ≤ (4 : Int) ∧ (4 : Int) < (6 : Int)) (by decide)
  (.obC (true = true) (by decide)
  (.obC ((0 : Int) ≤ (4 : Int) ∧ (4 : Int) < (6 : Int)) (by decide)
  (.obC (true = true ∧ true = true) (by decide)
  (.obC ((0 : Int) ≤ (5 : Int) ∧ (5 : Int) < (6 : Int)) (by decide)
  (.call (y2 u18 u19 u20 u21 r0.2.1 r0.2.2) fun r6 =>
  .brB (r6.2.2 == (0 : Int))
  (.obC ((0 : Int) ≤ (5 : Int) ∧ (5 : Int) < (6 : Int)) (by decide)
  (.obC (true = true) (by decide)
  (.obC ((0 : Int) ≤ (5 : Int) ∧ (5 : Int) < (6 : Int)) (by decide)
  (.obC (true = true ∧ true = true) (by decide)
  (.obT
  (.obT
  (.rc (((true, true, true, false, true, true, r1.1, r1.2.1, r2.1, r2.2.1, r3.1, r3.2.1, (0 : Int), (0 : Int), r5.1, r5.2.1, r6.1, r6.2.1, (0 : Int)))))))))))
  (.obT
  (.obT
  (.rc (((true, true, true, false, true, false, r1.1, r1.2.1, r2.1, r2.2.1, r3.1, r3.2.1, (0 : Int), (0 : Int), r5.1, r5.2.1, (0 : Int), (0 : Int), (0 : Int)))))))))))))
  (.obC ((0 : Int) ≤ (5 : Int) ∧ (5 : Int) < (6 : Int)) (by decide)
  (.call (y2 u18 u19 u20 u21 r0.2.1 r0.2.2) fun r6 =>
  .brB (r6.2.2 == (0 : Int))
  (.obC ((0 : Int) ≤ (5 : Int) ∧ (5 : Int) < (6 : Int)) (by decide)
  (.obC (true = true) (by decide)
  (.obC ((0 : Int) ≤ (5 : Int) ∧ (5 : Int) < (6 : Int)) (by decide)
  (.obC (true = true ∧ true = true) (by decide)
  (.obT
  (.obT
  (.rc (((true, true, true, false, false, true, r1.1, r1.2.1, r2.1, r2.2.1, r3.1, r3.2.1, (0 : Int), (0 : Int), (0 : Int), (0 : Int), r6.1, r6.2.1, (0 : Int)))))))))))
  (.obT
  (.obT
  (.rc (((true, true, true, false, false, false, r1.1, r1.2.1, r2.1, r2.2.1, r3.1, r3.2.1, (0 : Int), (0 : Int), (0 : Int), (0 : Int), (0 : Int), (0 : Int), (0 : Int)))))))))))))))))
  (.obC ((0 : Int) ≤ (3 : Int) ∧ (3 : Int) < (6 : Int)) (by decide)
  (.call (y10 u18 u19 u20 u21 r0.2.1 r0.2.2) fun r4 =>
  .brB (r4.2.2 == (0 : Int))
  (.obC ((0 : Int) ≤ (3 : Int) ∧ (3 : Int) < (6 : Int)) (by decide)
  (.obC (true = true) (by decide)
  (.obC ((0 : Int) ≤ (3 : Int) ∧ (3 : Int) < (6 : Int)) (by decide)
  (.obC (true = true ∧ true = true) (by decide)
  (.obC ((0 : Int) ≤ (4 : Int) ∧ (4 : Int) < (6 : Int)) (by decide)
  (.call (y3 u18 u19 u20 u21 r0.2.1 r0.2.2) fun r5 =>
  .brB (r5.2.2 == (0 : Int))
  (.obC ((0 : Int) ≤ (4 : Int) ∧ (4 : Int) < (6 : Int)) (by decide)
  (.obC (true = true) (by decide)
  (.obC ((0 : Int) ≤ (4 : Int) ∧ (4 : Int) < (6 : Int)) (by decide)
  (.obC (true = true ∧ true = true) (by decide)
  (.obC ((0 : Int) ≤ (5 : Int) ∧ (5 : Int) < (6 : Int)) (by decide)
  (.call (y2 u18 u19 u20 u21 r0.2.1 r0.2.2) fun r6 =>
  .brB (r6.2.2 == (0 : Int))
  (.obC ((0 : Int) ≤ (5 : Int) ∧ (5 : Int) < (6 : Int)) (by decide)
  (.obC (true = true) (by decide)
  (.obC ((0 : Int) ≤ (5 : Int) ∧ (5 : Int) < (6 : Int)) (by decide)
  (.obC (true = true ∧ true = true) (by decide)
  (.obT
  (.obT
  (.rc (((true, true, false, true, true, true, r1.1, r1.2.1, r2.1, r2.2.1, (0 : Int), (0 : Int), r4.1, r4.2.1, r5.1, r5.2.1, r6.1, r6.2.1, (0 : Int)))))))))))
  (.obT
  (.obT
  (.rc (((true, true, false, true, true, false, r1.1, r1.2.1, r2.1, r2.2.1, (0 : Int), (0 : Int), r4.1, r4.2.1, r5.1, r5.2.1, (0 : Int), (0 : Int), (0 : Int)))))))))))))
  (.obC ((0 : Int) ≤ (5 : Int) ∧ (5 : Int) < (6 : Int)) (by decide)
  (.call (y2 u18 u19 u20 u21 r0.2.1 r0.2.2) fun r6 =>
  .brB (r6.2.2 == (0 : Int))
  (.obC ((0 : Int) ≤ (5 : Int) ∧ (5 : Int) < (6 : Int)) (by decide)
  (.obC (true = true) (by decide)
  (.obC ((0 : Int) ≤ (5 : Int) ∧ (5 : Int) < (6 : Int)) (by decide)
  (.obC (true = true ∧ true = true) (by decide)
  (.obT
  (.obT
  (.rc (((true, true, false, true, false, true, r1.1, r1.2.1, r2.1, r2.2.1, (0 : Int), (0 : Int), r4.1, r4.2.1, (0 : Int), (0 : Int), r6.1, r6.2.1, (0 : Int)))))))))))
  (.obT
  (.obT
  (.rc (((true, true, false, true, false, false, r1.1, r1.2.1, r2.1, r2.2.1, (0 : Int), (0 : Int), r4.1, r4.2.1, (0 : Int), (0 : Int), (0 : Int), (0 : Int), (0 : Int)))))))))))))))
  (.obC ((0 : Int) ≤ (4 : Int) ∧ (4 : Int) < (6 : Int)) (by decide)
  (.call (y3 u18 u19 u20 u21 r0.2.1 r0.2.2) fun r5 =>
  .brB (r5.2.2 == (0 : Int))
  (.obC ((0 : Int) ≤ (4 : Int) ∧ (4 : Int) < (6 : Int)) (by decide)
  (.obC (true = true) (by decide)
  (.obC ((0 : Int) ≤ (4 : Int) ∧ (4 : Int) < (6 : Int)) (by decide)
  (.obC (true = true ∧ true = true) (by decide)
  (.obC ((0 : Int) ≤ (5 : Int) ∧ (5 : Int) < (6 : Int)) (by decide)
  (.call (y2 u18 u19 u20 u21 r0.2.1 r0.2.2) fun r6 =>
  .brB (r6.2.2 == (0 : Int))
  (.obC ((0 : Int) ≤ (5 : Int) ∧ (5 : Int) < (6 : Int)) (by decide)
  (.obC (true = true) (by decide)
  (.obC ((0 : Int) ≤ (5 : Int) ∧ (5 : Int) < (6 : Int)) (by decide)
  (.obC (true = true ∧ true = true) (by decide)
  (.obT
  (.obT
  (.rc (((true, true, false, false, true, true, r1.1, r1.2.1, r2.1, r2.2.1, (0 : Int), (0 : Int), (0 : Int), (0 : Int), r5.1, r5.2.1, r6.1, r6.2.1, (0 : Int)))))))))))
  (.obT
  (.obT
  (.rc (((true, true, false, false, true, false, r1.1, r1.2.1, r2.1, r2.2.1, (0 : Int), (0 : Int), (0 : Int), (0 : Int), r5.1, r5.2.1, (0 : Int), (0 : Int), (0 : Int)))))))))))))
  (.obC ((0 : Int) ≤ (5 : Int) ∧ (5 : Int) < (6 : Int)) (by decide)
  (.call (y2 u18 u19 u20 u21 r0.2.1 r0.2.2) fun r6 =>
  .brB (r6.2.2 == (0 : Int))
  (.obC ((0 : Int) ≤ (5 : Int) ∧ (5 : Int) < (6 : Int)) (by decide)
  (.obC (true = true) (by decide)
  (.obC ((0 : Int) ≤ (5 : Int) ∧ (5 : Int) < (6 : Int)) (by decide)
  (.obC (true = true ∧ true = true) (by decide)
  (.obT
  (.obT
  (.rc (((true, true, false, false, false, true, r1.1, r1.2.1, r2.1, r2.2.1, (0 : Int), (0 : Int), (0 : Int), (0 : Int), (0 : Int), (0 : Int), r6.1, r6.2.1, (0 : Int)))))))))))
  (.obT
  (.obT
  (.rc (((true, true, false, false, false, false, r1.1, r1.2.1, r2.1, r2.2.1, (0 : Int), (0 : Int), (0 : Int), (0 : Int), (0 : Int), (0 : Int), (0 : Int), (0 : Int), (0 : Int)))))))))))))))))))
  (.obC ((0 : Int) ≤ (2 : Int) ∧ (2 : Int) < (6 : Int)) (by decide)
  (.call (y14 u18 u19 u20 u21 r0.2.1 r0.2.2 (2 : Int)) fun r3 =>
  .brB (r3.2.2 == (0 : Int))
  (.obC ((0 : Int) ≤ (2 : Int) ∧ (2 : Int) < (6 : Int)) (by decide)
  (.obC (true = true) (by decide)
  (.obC ((0 : Int) ≤ (2 : Int) ∧ (2 : Int) < (6 : Int)) (by decide)
  (.obC (true = true ∧ true = true) (by decide)
  (.obC ((0 : Int) ≤ (3 : Int) ∧ (3 : Int) < (6 : Int)) (by decide)
  (.call (y10 u18 u19 u20 u21 r0.2.1 r0.2.2) fun r4 =>
  .brB (r4.2.2 == (0 : Int))
  (.obC ((0 : Int) ≤ (3 : Int) ∧ (3 : Int) < (6 : Int)) (by decide)
  (.obC (true = true) (by decide)
  (.obC ((0 : Int) ≤ (3 : Int) ∧ (3 : Int) < (6 : Int)) (by decide)
  (.obC (true = true ∧ true = true) (by decide)
  (.obC ((0 : Int) ≤ (4 : Int) ∧ (4 : Int) < (6 : Int)) (by decide)
  (.call (y3 u18 u19 u20 u21 r0.2.1 r0.2.2) fun r5 =>
  .brB (r5.2.2 == (0 : Int))
  (.obC ((0 : Int) ≤ (4 : Int) ∧ (4 : Int) < (6 : Int)) (by decide)
  (.obC (true = true) (by decide)
  (.obC ((0 : Int) ≤ (4 : Int) ∧ (4 : Int) < (6 : Int)) (by decide)
  (.obC (true = true ∧ true = true) (by decide)
  (.obC ((0 : Int) ≤ (5 : Int) ∧ (5 : Int) < (6 : Int)) (by decide)
  (.call (y2 u18 u19 u20 u21 r0.2.1 r0.2.2) fun r6 =>
  .brB (r6.2.2 == (0 : Int))
  (.obC ((0 : Int) ≤ (5 : Int) ∧ (5 : Int) < (6 : Int)) (by decide)
  (.obC (true = true) (by decide)
  (.obC ((0 : Int) ≤ (5 : Int) ∧ (5 : Int) < (6 : Int)) (by decide)
  (.obC (true = true ∧ true = true) (by decide)
  (.obT
  (.obT
  (.rc (((true, false, true, true, true, true, r1.1, r1.2.1, (0 : Int), (0 : Int), r3.1, r3.2.1, r4.1, r4.2.1, r5.1, r5.2.1, r6.1, r6.2.1, (0 : Int)))))))))))
  (.obT
  (.obT
  (.rc (((true, false, true, true, true, false, r1.1, r1.2.1, (0 : Int), (0 : Int), r3.1, r3.2.1, r4.1, r4.2.1, r5.1, r5.2.1, (0 : Int), (0 : Int), (0 : Int)))))))))))))
  (.obC ((0 : Int) ≤ (5 : Int) ∧ (5 : Int) < (6 : Int)) (by decide)
  (.call (y2 u18 u19 u20 u21 r0.2.1 r0.2.2) fun r6 =>
  .brB (r6.2.2 == (0 : Int))
  (.obC ((0 : Int) ≤ (5 : Int) ∧ (5 : Int) < (6 : Int)) (by decide)
  (.obC (true = true) (by decide)
  (.obC ((0 : Int) ≤ (5 : Int) ∧ (5 : Int) < (6 : Int)) (by decide)
  (.obC (true = true ∧ true = true) (by decide)
  (.obT
  (.obT
  (.rc (((true, false, true, true, false, true, r1.1, r1.2.1, (0 : Int), (0 : Int), r3.1, r3.2.1, r4.1, r4.2.1, (0 : Int), (0 : Int), r6.1, r6.2.1, (0 : Int)))))))))))
  (.obT
  (.obT
  (.rc (((true, false, true, true, false, false, r1.1, r1.2.1, (0 : Int), (0 : Int), r3.1, r3.2.1, r4.1, r4.2.1, (0 : Int), (0 : Int), (0 : Int), (0 : Int), (0 : Int)))))))))))))))
  (.obC ((0 : Int) ≤ (4 : Int) ∧ (4 : Int) < (6 : Int)) (by decide)
  (.call (y3 u18 u19 u20 u21 r0.2.1 r0.2.2) fun r5 =>
  .brB (r5.2.2 == (0 : Int))
  (.obC ((0 : Int) ≤ (4 : Int) ∧ (4 : Int) < (6 : Int)) (by decide)
  (.obC (true = true) (by decide)
  (.obC ((0 : Int) ≤ (4 : Int) ∧ (4 : Int) < (6 : Int)) (by decide)
  (.obC (true = true ∧ true = true) (by decide)
  (.obC ((0 : Int) ≤ (5 : Int) ∧ (5 : Int) < (6 : Int)) (by decide)
  (.call (y2 u18 u19 u20 u21 r0.2.1 r0.2.2) fun r6 =>
  .brB (r6.2.2 == (0 : Int))
  (.obC ((0 : Int) ≤ (5 : Int) ∧ (5 : Int) < (6 : Int)) (by decide)
  (.obC (true = true) (by decide)
  (.obC ((0 : Int) ≤ (5 : Int) ∧ (5 : Int) < (6 : Int)) (by decide)
  (.obC (true = true ∧ true = true) (by decide)
  (.obT
  (.obT
  (.rc (((true, false, true, false, true, true, r1.1, r1.2.1, (0 : Int), (0 : Int), r3.1, r3.2.1, (0 : Int), (0 : Int), r5.1, r5.2.1, r6.1, r6.2.1, (0 : Int)))))))))))
  (.obT
  (.obT
  (.rc (((true, false, true, false, true, false, r1.1, r1.2.1, (0 : Int), (0 : Int), r3.1, r3.2.1, (0 : Int), (0 : Int), r5.1, r5.2.1, (0 : Int), (0 : Int), (0 : Int)))))))))))))
  (.obC ((0 : Int) ≤ (5 : Int) ∧ (5 : Int) < (6 : Int)) (by decide)
  (.call (y2 u18 u19 u20 u21 r0.2.1 r0.2.2) fun r6 =>
  .brB (r6.2.2 == (0 : Int))
  (.obC ((0 : Int) ≤ (5 : Int) ∧ (5 : Int) < (6 : Int)) (by decide)
  (.obC (true = true) (by decide)
  (.obC ((0 : Int) ≤ (5 : Int) ∧ (5 : Int) < (6 : Int)) (by decide)
  (.obC (true = true ∧ true = true) (by decide)
  (.obT
  (.obT
  (.rc (((true, false, true, false, false, true, r1.1, r1.2.1, (0 : Int), (0 : Int), r3.1, r3.2.1, (0 : Int), (0 : Int), (0 : Int), (0 : Int), r6.1, r6.2.1, (0 : Int)))))))))))
  (.obT
  (.obT
  (.rc (((true, false, true, false, false, false, r1.1, r1.2.1, (0 : Int), (0 : Int), r3.1, r3.2.1, (0 : Int), (0 : Int), (0 : Int), (0 : Int), (0 : Int), (0 : Int), (0 : Int)))))))))))))))))
  (.obC ((0 : Int) ≤ (3 : Int) ∧ (3 : Int) < (6 : Int)) (by decide)
  (.call (y10 u18 u19 u20 u21 r0.2.1 r0.2.2) fun r4 =>
  .brB (r4.2.2 == (0 : Int))
  (.obC ((0 : Int) ≤ (3 : Int) ∧ (3 : Int) < (6 : Int)) (by decide)
  (.obC (true = true) (by decide)
  (.obC ((0 : Int) ≤ (3 : Int) ∧ (3 : Int) < (6 : Int)) (by decide)
  (.obC (true = true ∧ true = true) (by decide)
  (.obC ((0 : Int) ≤ (4 : Int) ∧ (4 : Int) < (6 : Int)) (by decide)
  (.call (y3 u18 u19 u20 u21 r0.2.1 r0.2.2) fun r5 =>
  .brB (r5.2.2 == (0 : Int))
  (.obC ((0 : Int) ≤ (4 : Int) ∧ (4 : Int) < (6 : Int)) (by decide)
  (.obC (true = true) (by decide)
  (.obC ((0 : Int) ≤ (4 : Int) ∧ (4 : Int) < (6 : Int)) (by decide)
  (.obC (true = true ∧ true = true) (by decide)
  (.obC ((0 : Int) ≤ (5 : Int) ∧ (5 : Int) < (6 : Int)) (by decide)
  (.call (y2 u18 u19 u20 u21 r0.2.1 r0.2.2) fun r6 =>
  .brB (r6.2.2 == (0 : Int))
  (.obC ((0 : Int) ≤ (5 : Int) ∧ (5 : Int) < (6 : Int)) (by decide)
  (.obC (true = true) (by decide)
  (.obC ((0 : Int) ≤ (5 : Int) ∧ (5 : Int) < (6 : Int)) (by decide)
  (.obC (true = true ∧ true = true) (by decide)
  (.obT
  (.obT
  (.rc (((true, false, false, true, true, true, r1.1, r1.2.1, (0 : Int), (0 : Int), (0 : Int), (0 : Int), r4.1, r4.2.1, r5.1, r5.2.1, r6.1, r6.2.1, (0 : Int)))))))))))
  (.obT
  (.obT
  (.rc (((true, false, false, true, true, false, r1.1, r1.2.1, (0 : Int), (0 : Int), (0 : Int), (0 : Int), r4.1, r4.2.1, r5.1, r5.2.1, (0 : Int), (0 : Int), (0 : Int)))))))))))))
  (.obC ((0 : Int) ≤ (5 : Int) ∧ (5 : Int) < (6 : Int)) (by decide)
  (.call (y2 u18 u19 u20 u21 r0.2.1 r0.2.2) fun r6 =>
  .brB (r6.2.2 == (0 : Int))
  (.obC ((0 : Int) ≤ (5 : Int) ∧ (5 : Int) < (6 : Int)) (by decide)
  (.obC (true = true) (by decide)
  (.obC ((0 : Int) ≤ (5 : Int) ∧ (5 : Int) < (6 : Int)) (by decide)
  (.obC (true = true ∧ true = true) (by decide)
  (.obT
  (.obT
  (.rc (((true, false, false, true, false, true, r1.1, r1.2.1, (0 : Int), (0 : Int), (0 : Int), (0 : Int), r4.1, r4.2.1, (0 : Int), (0 : Int), r6.1, r6.2.1, (0 : Int)))))))))))
  (.obT
  (.obT
  (.rc (((true, false, false, true, false, false, r1.1, r1.2.1, (0 : Int), (0 : Int), (0 : Int), (0 : Int), r4.1, r4.2.1, (0 : Int), (0 : Int), (0 : Int), (0 : Int), (0 : Int)))))))))))))))
  (.obC ((0 : Int) ≤ (4 : Int) ∧ (4 : Int) < (6 : Int)) (by decide)
  (.call (y3 u18 u19 u20 u21 r0.2.1 r0.2.2) fun r5 =>
  .brB (r5.2.2 == (0 : Int))
  (.obC ((0 : Int) ≤ (4 : Int) ∧ (4 : Int) < (6 : Int)) (by decide)
  (.obC (true = true) (by decide)
  (.obC ((0 : Int) ≤ (4 : Int) ∧ (4 : Int) < (6 : Int)) (by decide)
  (.obC (true = true ∧ true = true) (by decide)
  (.obC ((0 : Int) ≤ (5 : Int) ∧ (5 : Int) < (6 : Int)) (by decide)
  (.call (y2 u18 u19 u20 u21 r0.2.1 r0.2.2) fun r6 =>
  .brB (r6.2.2 == (0 : Int))
  (.obC ((0 : Int) ≤ (5 : Int) ∧ (5 : Int) < (6 : Int)) (by decide)
  (.obC (true = true) (by decide)
  (.obC ((0 : Int) ≤ (5 : Int) ∧ (5 : Int) < (6 : Int)) (by decide)
  (.obC (true = true ∧ true = true) (by decide)
  (.obT
  (.obT
  (.rc (((true, false, false, false, true, true, r1.1, r1.2.1, (0 : Int), (0 : Int), (0 : Int), (0 : Int), (0 : Int), (0 : Int), r5.1, r5.2.1, r6.1, r6.2.1, (0 : Int)))))))))))
  (.obT
  (.obT
  (.rc (((true, false, false, false, true, false, r1.1, r1.2.1, (0 : Int), (0 : Int), (0 : Int), (0 : Int), (0 : Int), (0 : Int), r5.1, r5.2.1, (0 : Int), (0 : Int), (0 : Int)))))))))))))
  (.obC ((0 : Int) ≤ (5 : Int) ∧ (5 : Int) < (6 : Int)) (by decide)
  (.call (y2 u18 u19 u20 u21 r0.2.1 r0.2.2) fun r6 =>
  .brB (r6.2.2 == (0 : Int))
  (.obC ((0 : Int) ≤ (5 : Int) ∧ (5 : Int) < (6 : Int)) (by decide)
  (.obC (true = true) (by decide)
  (.obC ((0 : Int) ≤ (5 : Int) ∧ (5 : Int) < (6 : Int)) (by decide)
  (.obC (true = true ∧ true = true) (by decide)
  (.obT
  (.obT
  (.rc (((true, false, false, false, false, true, r1.1, r1.2.1, (0 : Int), (0 : Int), (0 : Int), (0 : Int), (0 : Int), (0 : Int), (0 : Int), (0 : Int), r6.1, r6.2.1, (0 : Int)))))))))))
  (.obT
  (.obT
  (.rc (((true, false, false, false, false, false, r1.1, r1.2.1, (0 : Int), (0 : Int), (0 : Int), (0 : Int), (0 : Int), (0 : Int), (0 : Int), (0 : Int), (0 : Int), (0 : Int), (0 : Int)))))))))))))))))))))
  (.obC ((0 : Int) ≤ (1 : Int) ∧ (1 : Int) < (6 : Int)) (by decide)
  (.call (y14 u18 u19 u20 u21 r0.2.1 r0.2.2 (1 : Int)) fun r2 =>
  .brB (r2.2.2 == (0 : Int))
  (.obC ((0 : Int) ≤ (1 : Int) ∧ (1 : Int) < (6 : Int)) (by decide)
  (.obC (true = true) (by decide)
  (.obC ((0 : Int) ≤ (1 : Int) ∧ (1 : Int) < (6 : Int)) (by decide)
  (.obC (true = true ∧ true = true) (by decide)
  (.obC ((0 : Int) ≤ (2 : Int) ∧ (2 : Int) < (6 : Int)) (by decide)
  (.call (y14 u18 u19 u20 u21 r0.2.1 r0.2.2 (2 : Int)) fun r3 =>
  .brB (r3.2.2 == (0 : Int))
  (.obC ((0 : Int) ≤ (2 : Int) ∧ (2 : Int) < (6 : Int)) (by decide)
  (.obC (true = true) (by decide)
  (.obC ((0 : Int) ≤ (2 : Int) ∧ (2 : Int) < (6 : Int)) (by decide)
  (.obC (true = true ∧ true = true) (by decide)
  (.obC ((0 : Int) ≤ (3 : Int) ∧ (3 : Int) < (6 : Int)) (by decide)
  (.call (y10 u18 u19 u20 u21 r0.2.1 r0.2.2) fun r4 =>
  .brB (r4.2.2 == (0 : Int))
  (.obC ((0 : Int) ≤ (3 : Int) ∧ (3 : Int) < (6 : Int)) (by decide)
  (.obC (true = true) (by decide)
  (.obC ((0 : Int) ≤ (3 : Int) ∧ (3 : Int) < (6 : Int)) (by decide)
  (.obC (true = true ∧ true = true) (by decide)
  (.obC ((0 : Int) ≤ (4 : Int) ∧ (4 : Int) < (6 : Int)) (by decide)
  (.call (y3 u18 u19 u20 u21 r0.2.1 r0.2.2) fun r5 =>
  .brB (r5.2.2 == (0 : Int))
  (.obC ((0 : Int) ≤ (4 : Int) ∧ (4 : Int) < (6 : Int)) (by decide)
  (.obC (true = true) (by decide)
  (.obC ((0 : Int) ≤ (4 : Int) ∧ (4 : Int) < (6 : Int)) (by decide)
  (.obC (true = true ∧ true = true) (by decide)
  (.obC ((0 : Int) ≤ (5 : Int) ∧ (5 : Int) < (6 : Int)) (by decide)
  (.call (y2 u18 u19 u20 u21 r0.2.1 r0.2.2) fun r6 =>
  .brB (r6.2.2 == (0 : Int))
  (.obC ((0 : Int) ≤ (5 : Int) ∧ (5 : Int) < (6 : Int)) (by decide)
  (.obC (true = true) (by decide)
  (.obC ((0 : Int) ≤ (5 : Int) ∧ (5 : Int) < (6 : Int)) (by decide)
  (.obC (true = true ∧ true = true) (by decide)
  (.obT
  (.obT
  (.rc (((false, true, true, true, true, true, (0 : Int), (0 : Int), r2.1, r2.2.1, r3.1, r3.2.1, r4.1, r4.2.1, r5.1, r5.2.1, r6.1, r6.2.1, (0 : Int)))))))))))
  (.obT
  (.obT
  (.rc (((false, true, true, true, true, false, (0 : Int), (0 : Int), r2.1, r2.2.1, r3.1, r3.2.1, r4.1, r4.2.1, r5.1, r5.2.1, (0 : Int), (0 : Int), (0 : Int)))))))))))))
  (.obC ((0 : Int) ≤ (5 : Int) ∧ (5 : Int) < (6 : Int)) (by decide)
  (.call (y2 u18 u19 u20 u21 r0.2.1 r0.2.2) fun r6 =>
  .brB (r6.2.2 == (0 : Int))
  (.obC ((0 : Int) ≤ (5 : Int) ∧ (5 : Int) < (6 : Int)) (by decide)
  (.obC (true = true) (by decide)
  (.obC ((0 : Int) ≤ (5 : Int) ∧ (5 : Int) < (6 : Int)) (by decide)
  (.obC (true = true ∧ true = true) (by decide)
  (.obT
  (.obT
  (.rc (((false, true, true, true, false, true, (0 : Int), (0 : Int), r2.1, r2.2.1, r3.1, r3.2.1, r4.1, r4.2.1, (0 : Int), (0 : Int), r6.1, r6.2.1, (0 : Int)))))))))))
  (.obT
  (.obT
  (.rc (((false, true, true, true, false, false, (0 : Int), (0 : Int), r2.1, r2.2.1, r3.1, r3.2.1, r4.1, r4.2.1, (0 : Int), (0 : Int), (0 : Int), (0 : Int), (0 : Int)))))))))))))))
  (.obC ((0 : Int) ≤ (4 : Int) ∧ (4 : Int) < (6 : Int)) (by decide)
  (.call (y3 u18 u19 u20 u21 r0.2.1 r0.2.2) fun r5 =>
  .brB (r5.2.2 == (0 : Int))
  (.obC ((0 : Int) ≤ (4 : Int) ∧ (4 : Int) < (6 : Int)) (by decide)
  (.obC (true = true) (by decide)
  (.obC ((0 : Int) ≤ (4 : Int) ∧ (4 : Int) < (6 : Int)) (by decide)
  (.obC (true = true ∧ true = true) (by decide)
  (.obC ((0 : Int) ≤ (5 : Int) ∧ (5 : Int) < (6 : Int)) (by decide)
  (.call (y2 u18 u19 u20 u21 r0.2.1 r0.2.2) fun r6 =>
  .brB (r6.2.2 == (0 : Int))
  (.obC ((0 : Int) ≤ (5 : Int) ∧ (5 : Int) < (6 : Int)) (by decide)
  (.obC (true = true) (by decide)
  (.obC ((0 : Int) ≤ (5 : Int) ∧ (5 : Int) < (6 : Int)) (by decide)
  (.obC (true = true ∧ true = true) (by decide)
  (.obT
  (.obT
  (.rc (((false, true, true, false, true, true, (0 : Int), (0 : Int), r2.1, r2.2.1, r3.1, r3.2.1, (0 : Int), (0 : Int), r5.1, r5.2.1, r6.1, r6.2.1, (0 : Int)))))))))))
  (.obT
  (.obT
  (.rc (((false, true, true, false, true, false, (0 : Int), (0 : Int), r2.1, r2.2.1, r3.1, r3.2.1, (0 : Int), (0 : Int), r5.1, r5.2.1, (0 : Int), (0 : Int), (0 : Int)))))))))))))
  (.obC ((0 : Int) ≤ (5 : Int) ∧ (5 : Int) < (6 : Int)) (by decide)
  (.call (y2 u18 u19 u20 u21 r0.2.1 r0.2.2) fun r6 =>
  .brB (r6.2.2 == (0 : Int))
  (.obC ((0 : Int) ≤ (5 : Int) ∧ (5 : Int) < (6 : Int)) (by decide)
  (.obC (true = true) (by decide)
  (.obC ((0 : Int) ≤ (5 : Int) ∧ (5 : Int) < (6 : Int)) (by decide)
  (.obC (true = true ∧ true = true) (by decide)
  (.obT
  (.obT
  (.rc (((false, true, true, false, false, true, (0 : Int), (0 : Int), r2.1, r2.2.1, r3.1, r3.2.1, (0 : Int), (0 : Int), (0 : Int), (0 : Int), r6.1, r6.2.1, (0 : Int)))))))))))
  (.obT
  (.obT
  (.rc (((false, true, true, false, false, false, (0 : Int), (0 : Int), r2.1, r2.2.1, r3.1, r3.2.1, (0 : Int), (0 : Int), (0 : Int), (0 : Int), (0 : Int), (0 : Int), (0 : Int)))))))))))))))))
  (.obC ((0 : Int) ≤ (3 : Int) ∧ (3 : Int) < (6 : Int)) (by decide)
  (.call (y10 u18 u19 u20 u21 r0.2.1 r0.2.2) fun r4 =>
  .brB (r4.2.2 == (0 : Int))
  (.obC ((0 : Int) ≤ (3 : Int) ∧ (3 : Int) < (6 : Int)) (by decide)
  (.obC (true = true) (by decide)
  (.obC ((0 : Int) ≤ (3 : Int) ∧ (3 : Int) < (6 : Int)) (by decide)
  (.obC (true = true ∧ true = true) (by decide)
  (.obC ((0 : Int) ≤ (4 : Int) ∧ (4 : Int) < (6 : Int)) (by decide)
  (.call (y3 u18 u19 u20 u21 r0.2.1 r0.2.2) fun r5 =>
  .brB (r5.2.2 == (0 : Int))
  (.obC ((0 : Int) ≤ (4 : Int) ∧ (4 : Int) < (6 : Int)) (by decide)
  (.obC (true = true) (by decide)
  (.obC ((0 : Int) ≤ (4 : Int) ∧ (4 : Int) < (6 : Int)) (by decide)
  (.obC (true = true ∧ true = true) (by decide)
  (.obC ((0 : Int) ≤ (5 : Int) ∧ (5 : Int) < (6 : Int)) (by decide)
  (.call (y2 u18 u19 u20 u21 r0.2.1 r0.2.2) fun r6 =>
  .brB (r6.2.2 == (0 : Int))
  (.obC ((0 : Int) ≤ (5 : Int) ∧ (5 : Int) < (6 : Int)) (by decide)
  (.obC (true = true) (by decide)
  (.obC ((0 : Int) ≤ (5 : Int) ∧ (5 : Int) < (6 : Int)) (by decide)
  (.obC (true = true ∧ true = true) (by decide)
  (.obT
  (.obT
  (.rc (((false, true, false, true, true, true, (0 : Int), (0 : Int), r2.1, r2.2.1, (0 : Int), (0 : Int), r4.1, r4.2.1, r5.1, r5.2.1, r6.1, r6.2.1, (0 : Int)))))))))))
  (.obT
  (.obT
  (.rc (((false, true, false, true, true, false, (0 : Int), (0 : Int), r2.1, r2.2.1, (0 : Int), (0 : Int), r4.1, r4.2.1, r5.1, r5.2.1, (0 : Int), (0 : Int), (0 : Int)))))))))))))
  (.obC ((0 : Int) ≤ (5 : Int) ∧ (5 : Int) < (6 : Int)) (by decide)
  (.call (y2 u18 u19 u20 u21 r0.2.1 r0.2.2) fun r6 =>
  .brB (r6.2.2 == (0 : Int))
  (.obC ((0 : Int) ≤ (5 : Int) ∧ (5 : Int) < (6 : Int)) (by decide)
  (.obC (true = true) (by decide)
  (.obC ((0 : Int) ≤ (5 : Int) ∧ (5 : Int) < (6 : Int)) (by decide)
  (.obC (true = true ∧ true = true) (by decide)
  (.obT
  (.obT
  (.rc (((false, true, false, true, false, true, (0 : Int), (0 : Int), r2.1, r2.2.1, (0 : Int), (0 : Int), r4.1, r4.2.1, (0 : Int), (0 : Int), r6.1, r6.2.1, (0 : Int)))))))))))
  (.obT
  (.obT
  (.rc (((false, true, false, true, false, false, (0 : Int), (0 : Int), r2.1, r2.2.1, (0 : Int), (0 : Int), r4.1, r4.2.1, (0 : Int), (0 : Int), (0 : Int), (0 : Int), (0 : Int)))))))))))))))
  (.obC ((0 : Int) ≤ (4 : Int) ∧ (4 : Int) < (6 : Int)) (by decide)
  (.call (y3 u18 u19 u20 u21 r0.2.1 r0.2.2) fun r5 =>
  .brB (r5.2.2 == (0 : Int))
  (.obC ((0 : Int) ≤ (4 : Int) ∧ (4 : Int) < (6 : Int)) (by decide)
  (.obC (true = true) (by decide)
  (.obC ((0 : Int) ≤ (4 : Int) ∧ (4 : Int) < (6 : Int)) (by decide)
  (.obC (true = true ∧ true = true) (by decide)
  (.obC ((0 : Int) ≤ (5 : Int) ∧ (5 : Int) < (6 : Int)) (by decide)
  (.call (y2 u18 u19 u20 u21 r0.2.1 r0.2.2) fun r6 =>
  .brB (r6.2.2 == (0 : Int))
  (.obC ((0 : Int) ≤ (5 : Int) ∧ (5 : Int) < (6 : Int)) (by decide)
  (.obC (true = true) (by decide)
  (.obC ((0 : Int) ≤ (5 : Int) ∧ (5 : Int) < (6 : Int)) (by decide)
  (.obC (true = true ∧ true = true) (by decide)
  (.obT
  (.obT
  (.rc (((false, true, false, false, true, true, (0 : Int), (0 : Int), r2.1, r2.2.1, (0 : Int), (0 : Int), (0 : Int), (0 : Int), r5.1, r5.2.1, r6.1, r6.2.1, (0 : Int)))))))))))
  (.obT
  (.obT
  (.rc (((false, true, false, false, true, false, (0 : Int), (0 : Int), r2.1, r2.2.1, (0 : Int), (0 : Int), (0 : Int), (0 : Int), r5.1, r5.2.1, (0 : Int), (0 : Int), (0 : Int)))))))))))))
  (.obC ((0 : Int) ≤ (5 : Int) ∧ (5 : Int) < (6 : Int)) (by decide)
  (.call (y2 u18 u19 u20 u21 r0.2.1 r0.2.2) fun r6 =>
  .brB (r6.2.2 == (0 : Int))
  (.obC ((0 : Int) ≤ (5 : Int) ∧ (5 : Int) < (6 : Int)) (by decide)
  (.obC (true = true) (by decide)
  (.obC ((0 : Int) ≤ (5 : Int) ∧ (5 : Int) < (6 : Int)) (by decide)
  (.obC (true = true ∧ true = true) (by decide)
  (.obT
  (.obT
  (.rc (((false, true, false, false, false, true, (0 : Int), (0 : Int), r2.1, r2.2.1, (0 : Int), (0 : Int), (0 : Int), (0 : Int), (0 : Int), (0 : Int), r6.1, r6.2.1, (0 : Int)))))))))))
  (.obT
  (.obT
  (.rc (((false, true, false, false, false, false, (0 : Int), (0 : Int), r2.1, r2.2.1, (0 : Int), (0 : Int), (0 : Int), (0 : Int), (0 : Int), (0 : Int), (0 : Int), (0 : Int), (0 : Int)))))))))))))))))))
  (.obC ((0 : Int) ≤ (2 : Int) ∧ (2 : Int) < (6 : Int)) (by decide)
  (.call (y14 u18 u19 u20 u21 r0.2.1 r0.2.2 (2 : Int)) fun r3 =>
  .brB (r3.2.2 == (0 : Int))
  (.obC ((0 : Int) ≤ (2 : Int) ∧ (2 : Int) < (6 : Int)) (by decide)
  (.obC (true = true) (by decide)
  (.obC ((0 : Int) ≤ (2 : Int) ∧ (2 : Int) < (6 : Int)) (by decide)
  (.obC (true = true ∧ true = true) (by decide)
  (.obC ((0 : Int) ≤ (3 : Int) ∧ (3 : Int) < (6 : Int)) (by decide)
  (.call (y10 u18 u19 u20 u21 r0.2.1 r0.2.2) fun r4 =>
  .brB (r4.2.2 == (0 : Int))
  (.obC ((0 : Int) ≤ (3 : Int) ∧ (3 : Int) < (6 : Int)) (by decide)
  (.obC (true = true) (by decide)
  (.obC ((0 : Int) ≤ (3 : Int) ∧ (3 : Int) < (6 : Int)) (by decide)
  (.obC (true = true ∧ true = true) (by decide)
  (.obC ((0 : Int) ≤ (4 : Int) ∧ (4 : Int) < (6 : Int)) (by decide)
  (.call (y3 u18 u19 u20 u21 r0.2.1 r0.2.2) fun r5 =>
  .brB (r5.2.2 == (0 : Int))
  (.obC ((0 : Int) ≤ (4 : Int) ∧ (4 : Int) < (6 : Int)) (by decide)
  (.obC (true = true) (by decide)
  (.obC ((0 : Int) ≤ (4 : Int) ∧ (4 : Int) < (6 : Int)) (by decide)
  (.obC (true = true ∧ true = true) (by decide)
  (.obC ((0 : Int) ≤ (5 : Int) ∧ (5 : Int) < (6 : Int)) (by decide)
  (.call (y2 u18 u19 u20 u21 r0.2.1 r0.2.2) fun r6 =>
  .brB (r6.2.2 == (0 : Int))
  (.obC ((0 : Int) ≤ (5 : Int) ∧ (5 : Int) < (6 : Int)) (by decide)
  (.obC (true = true) (by decide)
  (.obC ((0 : Int) ≤ (5 : Int) ∧ (5 : Int) < (6 : Int)) (by decide)
  (.obC (true = true ∧ true = true) (by decide)
  (.obT
  (.obT
  (.rc (((false, false, true, true, true, true, (0 : Int), (0 : Int), (0 : Int), (0 : Int), r3.1, r3.2.1, r4.1, r4.2.1, r5.1, r5.2.1, r6.1, r6.2.1, (0 : Int)))))))))))
  (.obT
  (.obT
  (.rc (((false, false, true, true, true, false, (0 : Int), (0 : Int), (0 : Int), (0 : Int), r3.1, r3.2.1, r4.1, r4.2.1, r5.1, r5.2.1, (0 : Int), (0 : Int), (0 : Int)))))))))))))
  (.obC ((0 : Int) ≤ (5 : Int) ∧ (5 : Int) < (6 : Int)) (by decide)
  (.call (y2 u18 u19 u20 u21 r0.2.1 r0.2.2) fun r6 =>
  .brB (r6.2.2 == (0 : Int))
  (.obC ((0 : Int) ≤ (5 : Int) ∧ (5 : Int) < (6 : Int)) (by decide)
  (.obC (true = true) (by decide)
  (.obC ((0 : Int) ≤ (5 : Int) ∧ (5 : Int) < (6 : Int)) (by decide)
  (.obC (true = true ∧ true = true) (by decide)
  (.obT
  (.obT
  (.rc (((false, false, true, true, false, true, (0 : Int), (0 : Int), (0 : Int), (0 : Int), r3.1, r3.2.1, r4.1, r4.2.1, (0 : Int), (0 : Int), r6.1, r6.2.1, (0 : Int)))))))))))
  (.obT
  (.obT
  (.rc (((false, false, true, true, false, false, (0 : Int), (0 : Int), (0 : Int), (0 : Int), r3.1, r3.2.1, r4.1, r4.2.1, (0 : Int), (0 : Int), (0 : Int), (0 : Int), (0 : Int)))))))))))))))
  (.obC ((0 : Int) ≤ (4 : Int) ∧ (4 : Int) < (6 : Int)) (by decide)
  (.call (y3 u18 u19 u20 u21 r0.2.1 r0.2.2) fun r5 =>
  .brB (r5.2.2 == (0 : Int))
  (.obC ((0 : Int) ≤ (4 : Int) ∧ (4 : Int) < (6 : Int)) (by decide)
  (.obC (true = true) (by decide)
  (.obC ((0 : Int) ≤ (4 : Int) ∧ (4 : Int) < (6 : Int)) (by decide)
  (.obC (true = true ∧ true = true) (by decide)
  (.obC ((0 : Int) ≤ (5 : Int) ∧ (5 : Int) < (6 : Int)) (by decide)
  (.call (y2 u18 u19 u20 u21 r0.2.1 r0.2.2) fun r6 =>
  .brB (r6.2.2 == (0 : Int))
  (.obC ((0 : Int) ≤ (5 : Int) ∧ (5 : Int) < (6 : Int)) (by decide)
  (.obC (true = true) (by decide)
  (.obC ((0 : Int) ≤ (5 : Int) ∧ (5 : Int) < (6 : Int)) (by decide)
  (.obC (true = true ∧ true = true) (by decide)
  (.obT
  (.obT
  (.rc (((false, false, true, false, true, true, (0 : Int), (0 : Int), (0 : Int), (0 : Int), r3.1, r3.2.1, (0 : Int), (0 : Int), r5.1, r5.2.1, r6.1, r6.2.1, (0 : Int)))))))))))
  (.obT
  (.obT
  (.rc (((false, false, true, false, true, false, (0 : Int), (0 : Int), (0 : Int), (0 : Int), r3.1, r3.2.1, (0 : Int), (0 : Int), r5.1, r5.2.1, (0 : Int), (0 : Int), (0 : Int)))))))))))))
  (.obC ((0 : Int) ≤ (5 : Int) ∧ (5 : Int) < (6 : Int)) (by decide)
  (.call (y2 u18 u19 u20 u21 r0.2.1 r0.2.2) fun r6 =>
  .brB (r6.2.2 == (0 : Int))
  (.obC ((0 : Int) ≤ (5 : Int) ∧ (5 : Int) < (6 : Int)) (by decide)
  (.obC (true = true) (by decide)
  (.obC ((0 : Int) ≤ (5 : Int) ∧ (5 : Int) < (6 : Int)) (by decide)
  (.obC (true = true ∧ true = true) (by decide)
  (.obT
  (.obT
  (.rc (((false, false, true, false, false, true, (0 : Int), (0 : Int), (0 : Int), (0 : Int), r3.1, r3.2.1, (0 : Int), (0 : Int), (0 : Int), (0 : Int), r6.1, r6.2.1, (0 : Int)))))))))))
  (.obT
  (.obT
  (.rc (((false, false, true, false, false, false, (0 : Int), (0 : Int), (0 : Int), (0 : Int), r3.1, r3.2.1, (0 : Int), (0 : Int), (0 : Int), (0 : Int), (0 : Int), (0 : Int), (0 : Int)))))))))))))))))
  (.obC ((0 : Int) ≤ (3 : Int) ∧ (3 : Int) < (6 : Int)) (by decide)
  (.call (y10 u18 u19 u20 u21 r0.2.1 r0.2.2) fun r4 =>
  .brB (r4.2.2 == (0 : Int))
  (.obC ((0 : Int) ≤ (3 : Int) ∧ (3 : Int) < (6 : Int)) (by decide)
  (.obC (true = true) (by decide)
  (.obC ((0 : Int) ≤ (3 : Int) ∧ (3 : Int) < (6 : Int)) (by decide)
  (.obC (true = true ∧ true = true) (by decide)
  (.obC ((0 : Int) ≤ (4 : Int) ∧ (4 : Int) < (6 : Int)) (by decide)
  (.call (y3 u18 u19 u20 u21 r0.2.1 r0.2.2) fun r5 =>
  .brB (r5.2.2 == (0 : Int))
  (.obC ((0 : Int) ≤ (4 : Int) ∧ (4 : Int) < (6 : Int)) (by decide)
  (.obC (true = true) (by decide)
  (.obC ((0 : Int) ≤ (4 : Int) ∧ (4 : Int) < (6 : Int)) (by decide)
  (.obC (true = true ∧ true = true) (by decide)
  (.obC ((0 : Int) ≤ (5 : Int) ∧ (5 : Int) < (6 : Int)) (by decide)
  (.call (y2 u18 u19 u20 u21 r0.2.1 r0.2.2) fun r6 =>
  .brB (r6.2.2 == (0 : Int))
  (.obC ((0 : Int) ≤ (5 : Int) ∧ (5 : Int) < (6 : Int)) (by decide)
  (.obC (true = true) (by decide)
  (.obC ((0 : Int) ≤ (5 : Int) ∧ (5 : Int) < (6 : Int)) (by decide)
  (.obC (true = true ∧ true = true) (by decide)
  (.obT
  (.obT
  (.rc (((false, false, false, true, true, true, (0 : Int), (0 : Int), (0 : Int), (0 : Int), (0 : Int), (0 : Int), r4.1, r4.2.1, r5.1, r5.2.1, r6.1, r6.2.1, (0 : Int)))))))))))
  (.obT
  (.obT
  (.rc (((false, false, false, true, true, false, (0 : Int), (0 : Int), (0 : Int), (0 : Int), (0 : Int), (0 : Int), r4.1, r4.2.1, r5.1, r5.2.1, (0 : Int), (0 : Int), (0 : Int)))))))))))))
  (.obC ((0 : Int) ≤ (5 : Int) ∧ (5 : Int) < (6 : Int)) (by decide)
  (.call (y2 u18 u19 u20 u21 r0.2.1 r0.2.2) fun r6 =>
  .brB (r6.2.2 == (0 : Int))
  (.obC ((0 : Int) ≤ (5 : Int) ∧ (5 : Int) < (6 : Int)) (by decide)
  (.obC (true = true) (by decide)
  (.obC ((0 : Int) ≤ (5 : Int) ∧ (5 : Int) < (6 : Int)) (by decide)
  (.obC (true = true ∧ true = true) (by decide)
  (.obT
  (.obT
  (.rc (((false, false, false, true, false, true, (0 : Int), (0 : Int), (0 : Int), (0 : Int), (0 : Int), (0 : Int), r4.1, r4.2.1, (0 : Int), (0 : Int), r6.1, r6.2.1, (0 : Int)))))))))))
  (.obT
  (.obT
  (.rc (((false, false, false, true, false, false, (0 : Int), (0 : Int), (0 : Int), (0 : Int), (0 : Int), (0 : Int), r4.1, r4.2.1, (0 : Int), (0 : Int), (0 : Int), (0 : Int), (0 : Int)))))))))))))))
  (.obC ((0 : Int) ≤ (4 : Int) ∧ (4 : Int) < (6 : Int)) (by decide)
  (.call (y3 u18 u19 u20 u21 r0.2.1 r0.2.2) fun r5 =>
  .brB (r5.2.2 == (0 : Int))
  (.obC ((0 : Int) ≤ (4 : Int) ∧ (4 : Int) < (6 : Int)) (by decide)
  (.obC (true = true) (by decide)
  (.obC ((0 : Int) ≤ (4 : Int) ∧ (4 : Int) < (6 : Int)) (by decide)
  (.obC (true = true ∧ true = true) (by decide)
  (.obC ((0 : Int) ≤ (5 : Int) ∧ (5 : Int) < (6 : Int)) (by decide)
  (.call (y2 u18 u19 u20 u21 r0.2.1 r0.2.2) fun r6 =>
  .brB (r6.2.2 == (0 : Int))
  (.obC ((0 : Int) ≤ (5 : Int) ∧ (5 : Int) < (6 : Int)) (by decide)
  (.obC (true = true) (by decide)
  (.obC ((0 : Int) ≤ (5 : Int) ∧ (5 : Int) < (6 : Int)) (by decide)
  (.obC (true = true ∧ true = true) (by decide)
  (.obT
  (.obT
  (.rc (((false, false, false, false, true, true, (0 : Int), (0 : Int), (0 : Int), (0 : Int), (0 : Int), (0 : Int), (0 : Int), (0 : Int), r5.1, r5.2.1, r6.1, r6.2.1, (0 : Int)))))))))))
  (.obT
  (.obT
  (.rc (((false, false, false, false, true, false, (0 : Int), (0 : Int), (0 : Int), (0 : Int), (0 : Int), (0 : Int), (0 : Int), (0 : Int), r5.1, r5.2.1, (0 : Int), (0 : Int), (0 : Int)))))))))))))
  (.obC ((0 : Int) ≤ (5 : Int) ∧ (5 : Int) < (6 : Int)) (by decide)
  (.call (y2 u18 u19 u20 u21 r0.2.1 r0.2.2) fun r6 =>
  .brB (r6.2.2 == (0 : Int))
  (.obC ((0 : Int) ≤ (5 : Int) ∧ (5 : Int) < (6 : Int)) (by decide)
  (.obC (true = true) (by decide)
  (.obC ((0 : Int) ≤ (5 : Int) ∧ (5 : Int) < (6 : Int)) (by decide)
  (.obC (true = true ∧ true = true) (by decide)
  (.obT
  (.obT
  (.rc (((false, false, false, false, false, true, (0 : Int), (0 : Int), (0 : Int), (0 : Int), (0 : Int), (0 : Int), (0 : Int), (0 : Int), (0 : Int), (0 : Int), r6.1, r6.2.1, (0 : Int)))))))))))
  (.obT
  (.obT
  (.rc (((false, false, false, false, false, false, (0 : Int), (0 : Int), (0 : Int), (0 : Int), (0 : Int), (0 : Int), (0 : Int), (0 : Int), (0 : Int), (0 : Int), (0 : Int), (0 : Int), (0 : Int)))))))))))))))))))))))))))))
set_option maxRecDepth 100000 in
theorem G_FiguresOf_vc (u18 : Int) (u19 : List Nat) (u20 : Int) (u21 : Int) (r : Bool × Bool × Bool × Bool × Bool × Bool × Int × Int × Int × Int × Int × Int × Int × Int × Int × Int × Int × Int × Int) (h : Option.bind (y13 u18 u19 u20 u21) some = some r) : runT Tryd.f37 ((sp_56 (sp_60 (sp_69 (sp_70 (sp_71 sp0)))))) (fun _ _ _ => none) (bldD k_G_FiguresOf [.d (.i .i64 u18), .r (.floats .f32 u19), .d (.i .i64 u20), .d (.i .i64 u21)]) [.s [.d (.b r.1), .d (.b r.2.1), .d (.b r.2.2.1), .d (.b r.2.2.2.1), .d (.b r.2.2.2.2.1), .d (.b r.2.2.2.2.2.1), .d (.i .i64 r.2.2.2.2.2.2.1), .d (.i .i64 r.2.2.2.2.2.2.2.1), .d (.i .i64 r.2.2.2.2.2.2.2.2.1), .d (.i .i64 r.2.2.2.2.2.2.2.2.2.1), .d (.i .i64 r.2.2.2.2.2.2.2.2.2.2.1), .d (.i .i64 r.2.2.2.2.2.2.2.2.2.2.2.1), .d (.i .i64 r.2.2.2.2.2.2.2.2.2.2.2.2.1), .d (.i .i64 r.2.2.2.2.2.2.2.2.2.2.2.2.2.1), .d (.i .i64 r.2.2.2.2.2.2.2.2.2.2.2.2.2.2.1), .d (.i .i64 r.2.2.2.2.2.2.2.2.2.2.2.2.2.2.2.1), .d (.i .i64 r.2.2.2.2.2.2.2.2.2.2.2.2.2.2.2.2.1), .d (.i .i64 r.2.2.2.2.2.2.2.2.2.2.2.2.2.2.2.2.2.1)], .c (.d (.i .i64 r.2.2.2.2.2.2.2.2.2.2.2.2.2.2.2.2.2.2))] :=
  T.vc (t := G_FiguresOf_t u18 u19 u20 u21) (by kernel_rfl) (by kernel_rfl) h
set_option maxRecDepth 100000 in
theorem G_FiguresOf_ok : SpecOK Tryd.prog 37 true (pureT k_G_FiguresOf g_G_FiguresOf) := by
  refine pureT_ok (sp := (sp_56 (sp_60 (sp_69 (sp_70 (sp_71 sp0)))))) (fn := Tryd.f37) (body := bodyOf Tryd.f37) mixed (sp_56_ok (sp_60_ok (sp_69_ok (sp_70_ok (sp_71_ok sp0_ok))))) Tryd.func37 (by kernel_rfl) (by kernel_rfl) fun ls t h ho b hb => ?_
  unfold g_G_FiguresOf at h
  split at h
  · rename_i u18 u19 u20 u21
    cases h
    obtain rfl := bld_eq hb
    exact ⟨Nat.le_of_ble_eq_true (by kernel_rfl), _, _, G_FiguresOf_vc u18 u19 u20 u21 _ (ok_some ho)⟩
  · cases h
theorem sp_37_ok {sp : Specs} (h : SpecsOK Tryd.prog sp) : SpecsOK Tryd.prog (sp_37 sp) := addK_ok G_FiguresOf_ok h
end Go.Sh
end

section
open Go.RowKit
namespace Go.Proofs
open Go.Shelf
def Tryd.laysM171_ren : Go.Shelf.Ren := ⟨fun | 171 => 72 | 243 => 92 | 246 => 101 | 283 => 106 | 284 => 107 | 285 => 108 | 286 => 109 | 129 => 104 | 317 => 112 | 318 => 113 | 319 => 114 | 320 => 115 | 337 => 116 | 338 => 117 | n => n, fun | 3 => 3 | 9 => 9 | 2 => 2 | 4 => 4 | 171 => 155 | 0 => 0 | 53 => 84 | 37 => 138 | 5 => 5 | 173 => 157 | 212 => 163 | 51 => 164 | 20 => 20 | 213 => 165 | 46 => 149 | 232 => 168 | 233 => 169 | n => n, fun | 17 => 6 | 18 => 8 | 19 => 9 | n => n⟩
theorem Tryd.laysM171 : Go.Proofs.LaysM.n171 Tryd.prog Tryd.laysM171_ren := {
  mixed := by kernel_rfl
  f129 := Tryd.func104.trans (congrArg some (by kernel_rfl))
  f171 := Tryd.func72.trans (congrArg some (by kernel_rfl))
  f243 := Tryd.func92.trans (congrArg some (by kernel_rfl))
  f246 := Tryd.func101.trans (congrArg some (by kernel_rfl))
  f283 := Tryd.func106.trans (congrArg some (by kernel_rfl))
  f284 := Tryd.func107.trans (congrArg some (by kernel_rfl))
  f285 := Tryd.func108.trans (congrArg some (by kernel_rfl))
  f286 := Tryd.func109.trans (congrArg some (by kernel_rfl))
  f317 := Tryd.func112.trans (congrArg some (by kernel_rfl))
  f318 := Tryd.func113.trans (congrArg some (by kernel_rfl))
  f319 := Tryd.func114.trans (congrArg some (by kernel_rfl))
  f320 := Tryd.func115.trans (congrArg some (by kernel_rfl))
  f337 := Tryd.func116.trans (congrArg some (by kernel_rfl))
  f338 := Tryd.func117.trans (congrArg some (by kernel_rfl))
  t0 := Tryd.underlying0
  a0 := Tryd.isAgg0
  z0 := Tryd.sizeOf0
  v0 := Tryd.zeroValue0
  t2 := Tryd.underlying2
  a2 := Tryd.isAgg2
  z2 := Tryd.sizeOf2
  v2 := Tryd.zeroValue2
  t3 := Tryd.underlying3
  a3 := Tryd.isAgg3
  z3 := Tryd.sizeOf3
  v3 := Tryd.zeroValue3
  t4 := Tryd.underlying4
  a4 := Tryd.isAgg4
  z4 := Tryd.sizeOf4
  v4 := Tryd.zeroValue4
  t5 := Tryd.underlying5
  a5 := Tryd.isAgg5
  z5 := Tryd.sizeOf5
  v5 := Tryd.zeroValue5
  t9 := Tryd.underlying9
  a9 := Tryd.isAgg9
  z9 := Tryd.sizeOf9
  v9 := Tryd.zeroValue9
  t20 := Tryd.underlying20
  a20 := Tryd.isAgg20
  z20 := Tryd.sizeOf20
  v20 := Tryd.zeroValue20
  t37 := Tryd.underlying138
  a37 := Tryd.isAgg138
  z37 := Tryd.sizeOf138
  v37 := Tryd.zeroValue138
  t46 := Tryd.underlying149
  a46 := Tryd.isAgg149
  z46 := Tryd.sizeOf149
  v46 := Tryd.zeroValue149
  t51 := Tryd.underlying164
  a51 := Tryd.isAgg164
  z51 := Tryd.sizeOf164
  v51 := Tryd.zeroValue164
  t53 := Tryd.underlying84
  a53 := Tryd.isAgg84
  z53 := Tryd.sizeOf84
  v53 := Tryd.zeroValue84
  t171 := Tryd.underlying155
  a171 := Tryd.isAgg155
  z171 := Tryd.sizeOf155
  v171 := Tryd.zeroValue155
  t173 := Tryd.underlying157
  a173 := Tryd.isAgg157
  z173 := Tryd.sizeOf157
  v173 := Tryd.zeroValue157
  t212 := Tryd.underlying163
  a212 := Tryd.isAgg163
  z212 := Tryd.sizeOf163
  v212 := Tryd.zeroValue163
  t213 := Tryd.underlying165
  a213 := Tryd.isAgg165
  z213 := Tryd.sizeOf165
  t232 := Tryd.underlying168
  a232 := Tryd.isAgg168
  z232 := Tryd.sizeOf168
  v232 := Tryd.zeroValue168
  t233 := Tryd.underlying169
  a233 := Tryd.isAgg169
  z233 := Tryd.sizeOf169
  v233 := Tryd.zeroValue169
  g17 := by kernel_rfl
  g18 := by kernel_rfl
  g19 := by kernel_rfl
  i0 := by kernel_rfl
  i2 := by kernel_rfl
  i3 := by kernel_rfl
  i4 := by kernel_rfl
  i5 := by kernel_rfl
  i9 := by kernel_rfl
  i20 := by kernel_rfl
  i37 := by kernel_rfl
  i46 := by kernel_rfl
  i51 := by kernel_rfl
  i53 := by kernel_rfl
  i171 := by kernel_rfl
  i173 := by kernel_rfl
  i212 := by kernel_rfl
  i232 := by kernel_rfl
  i233 := by kernel_rfl
  m17 := by kernel_rfl
  m18 := by kernel_rfl
  m19 := by kernel_rfl }
def Tryd.lays156_ren : Go.Shelf.Ren := ⟨fun | 156 => 73 | 165 => 93 | 166 => 94 | 169 => 95 | 240 => 102 | 241 => 103 | 276 => 110 | 277 => 111 | n => n, fun | 31 => 111 | 9 => 9 | 3 => 3 | 4 => 4 | 0 => 0 | 20 => 20 | 72 => 140 | 76 => 144 | 70 => 137 | 37 => 138 | 75 => 143 | 127 => 153 | 164 => 159 | 5 => 5 | 80 => 146 | n => n, fun | n => n⟩
theorem Tryd.lays156 : Go.Proofs.Lays.n156 Tryd.prog Tryd.lays156_ren := {
  mixed := by kernel_rfl
  f156 := Tryd.func73.trans (congrArg some (by kernel_rfl))
  f165 := Tryd.func93.trans (congrArg some (by kernel_rfl))
  f166 := Tryd.func94.trans (congrArg some (by kernel_rfl))
  f169 := Tryd.func95.trans (congrArg some (by kernel_rfl))
  f240 := Tryd.func102.trans (congrArg some (by kernel_rfl))
  f241 := Tryd.func103.trans (congrArg some (by kernel_rfl))
  f276 := Tryd.func110.trans (congrArg some (by kernel_rfl))
  f277 := Tryd.func111.trans (congrArg some (by kernel_rfl))
  t0 := Tryd.underlying0
  a0 := Tryd.isAgg0
  z0 := Tryd.sizeOf0
  v0 := Tryd.zeroValue0
  t3 := Tryd.underlying3
  a3 := Tryd.isAgg3
  z3 := Tryd.sizeOf3
  v3 := Tryd.zeroValue3
  t4 := Tryd.underlying4
  a4 := Tryd.isAgg4
  z4 := Tryd.sizeOf4
  v4 := Tryd.zeroValue4
  t9 := Tryd.underlying9
  a9 := Tryd.isAgg9
  z9 := Tryd.sizeOf9
  v9 := Tryd.zeroValue9
  t20 := Tryd.underlying20
  a20 := Tryd.isAgg20
  z20 := Tryd.sizeOf20
  v20 := Tryd.zeroValue20
  t31 := Tryd.underlying111
  a31 := Tryd.isAgg111
  z31 := Tryd.sizeOf111
  v31 := Tryd.zeroValue111
  t37 := Tryd.underlying138
  a37 := Tryd.isAgg138
  z37 := Tryd.sizeOf138
  v37 := Tryd.zeroValue138
  t70 := Tryd.underlying137
  a70 := Tryd.isAgg137
  z70 := Tryd.sizeOf137
  v70 := Tryd.zeroValue137
  t72 := Tryd.underlying140
  a72 := Tryd.isAgg140
  z72 := Tryd.sizeOf140
  v72 := Tryd.zeroValue140
  t75 := Tryd.underlying143
  a75 := Tryd.isAgg143
  z75 := Tryd.sizeOf143
  v75 := Tryd.zeroValue143
  t76 := Tryd.underlying144
  a76 := Tryd.isAgg144
  z76 := Tryd.sizeOf144
  v76 := Tryd.zeroValue144
  t127 := Tryd.underlying153
  a127 := Tryd.isAgg153
  z127 := Tryd.sizeOf153
  v127 := Tryd.zeroValue153
  t164 := Tryd.underlying159
  a164 := Tryd.isAgg159
  z164 := Tryd.sizeOf159
  v164 := Tryd.zeroValue159 }
end Go.Proofs
namespace Go.Sh
open Go Go.Proofs Go.RowKit Go.Sx Go.Shelf
set_option linter.unusedVariables false
theorem flat1 {α : Type} (f : α → D) (l : List α) : (l.flatMap fun x => [f x]) = l.map f := by
  induction l with
  | nil => rfl
  | cons x r ih => simp [List.flatMap_cons, ih]
set_option maxRecDepth 100000 in
theorem builder156 : Builder.Extra Tryd.prog Tryd.lays156_ren where
  sizeBuilder := by kernel_rfl
  liesBuilder := by kernel_rfl
  t5 := by kernel_rfl
  a5 := fun w => run_aggT w (by kernel_rfl)
  z5 := fun w => run_szT w (by kernel_rfl)
  v5 := fun w => rfl
  infoByte := by kernel_rfl
  cellsByte := by kernel_rfl
  sizeByte := by kernel_rfl
  neB5 := by decide
set_option maxRecDepth 100000 in
theorem pow10_named : Tryd.prog.globalNamed "internal/strconv.uint64pow10" = some 6 := by kernel_rfl
theorem tab_is {B : Bd} {w : World} (h : GlobOK B w) {g : Nat} {k : IntKind} {l : List Int} {name : String} (hn : Tryd.prog.globalNamed name = some g) (ht : Globs.tab g = some (.ints k l)) : Lib.TabIs Tryd.prog w name k l := by
  obtain ⟨_, hc, cs, t, f, hg, hs⟩ := h.1 g _ ht
  unfold Lib.TabIs World.var?
  rw [hn]
  simp only [Option.bind_some, hg, Option.some.injEq]
  apply Array.ext'
  apply List.ext_getElem?
  intro i
  have hfl : (Cont.ints k l).flat = l.map (D.i k) := flat1 _ _
  by_cases hi : i < l.length
  · have := hc i (.i k l[i]) (by rw [hfl]; simp [hi])
    simp only [World.cell?, hg] at this
    rw [Array.getElem?_toList]
    simp only [List.getElem?_map, List.getElem?_eq_getElem hi, Option.map_some]
    exact this
  · rw [hfl, List.length_map] at hs
    rw [Array.getElem?_toList, Array.getElem?_eq_none (by omega), List.getElem?_eq_none (by simpa using Nat.le_of_not_lt hi)]
def strconv_Itoa (n : Int) : Option ByteArray := if -9223372036854775808 ≤ n ∧ n ≤ 9223372036854775807 then some ⟨(Lib.itoa n).toArray⟩ else none
def k_strconv_Itoa : List SV := [.c (.d)]
def g_strconv_Itoa : List Lf → Option GT
  | [.d (.i .i64 n)] => some (.leaf (ok (strconv_Itoa n)) [.c (.d (.s (val (strconv_Itoa n))))])
  | _ => none
abbrev sp_72 : Specs → Specs := addK 72 true (pureT k_strconv_Itoa g_strconv_Itoa)
set_option maxRecDepth 100000 in
theorem strconv_Itoa_ok : SpecOK Tryd.prog 72 true (pureT k_strconv_Itoa g_strconv_Itoa) := by
  refine pureT_okC (body := bodyOf Tryd.f72) Tryd.func72 (by kernel_rfl) (by kernel_rfl) ?_
  intro ls t hg ho b hb ρ0 w hlt hh
  unfold g_strconv_Itoa at hg
  split at hg
  · rename_i n
    cases hg
    obtain rfl := bld_eq hb
    have hk : ok (strconv_Itoa n) := ho
    unfold strconv_Itoa at hk
    have hn : -9223372036854775808 ≤ n ∧ n ≤ 9223372036854775807 := by
      by_cases h : -9223372036854775808 ≤ n ∧ n ≤ 9223372036854775807
      · exact h
      · rw [if_neg h] at hk; cases hk
    have hv : val (strconv_Itoa n) = ⟨(Lib.itoa n).toArray⟩ := by
      unfold strconv_Itoa
      rw [if_pos hn]
      rfl
    have htab := tab_is hh.glob pow10_named (k := .u64) (l := Lib.pow10Tab) (by kernel_rfl)
    refine (Any.strconv_Itoa Tryd.laysM171 n hn.1 hn.2 w htab).mono ?_
    rintro e w' ⟨rfl, k, os, rfl⟩
    have hbl : Below w.heap.size w (Sort.grow (w.drewN k) os) := by
      refine ⟨rfl, rfl, rfl, by simp [Sort.grow, World.drewN], fun j hj => ?_⟩
      show (w.heap ++ os)[j]? = _
      rw [Array.getElem?_append_left hj]
    refine ⟨ρ0, .w (.c (.d (.s ⟨(Lib.itoa n).toArray⟩))), _, _, rfl, trivial, Agree.refl _ _, hh.below hbl (fun k hk => hk), bel_of hbl (fun k hk => hk), ?_⟩
    show mD _ _ ∧ True
    rw [hv]
    exact ⟨⟨rfl⟩, trivial⟩
  · cases hg
theorem sp_72_ok {sp : Specs} (h : SpecsOK Tryd.prog sp) : SpecsOK Tryd.prog (sp_72 sp) := addK_ok strconv_Itoa_ok h
def strings_Join (l : List ByteArray) (sep : ByteArray) : Option ByteArray :=
  if l.length ≤ 140737488355328 ∧ (Lib.join (l.map (·.data.toList)) sep.data.toList).length ≤ 140737488355328 then some ⟨(Lib.join (l.map (·.data.toList)) sep.data.toList).toArray⟩ else none
def k_strings_Join : List SV := [.c (.r (.strs [])), .c (.d)]
def g_strings_Join : List Lf → Option GT
  | [.r (.strs l), .d (.s sep)] => some (.leaf (ok (strings_Join l sep)) [.c (.d (.s (val (strings_Join l sep))))])
  | _ => none
abbrev sp_73 : Specs → Specs := addK 73 true (pureT k_strings_Join g_strings_Join)
set_option maxRecDepth 100000 in
theorem strings_Join_ok : SpecOK Tryd.prog 73 true (pureT k_strings_Join g_strings_Join) := by
  refine pureT_okC (body := bodyOf Tryd.f73) Tryd.func73 (by kernel_rfl) (by kernel_rfl) ?_
  intro ls t hg ho b hb ρ0 w hlt hh
  unfold g_strings_Join at hg
  split at hg
  · rename_i l sep
    cases hg
    obtain rfl := bld_eq hb
    have hk : ok (strings_Join l sep) := ho
    unfold strings_Join at hk
    have hn : l.length ≤ 140737488355328 ∧ (Lib.join (l.map (·.data.toList)) sep.data.toList).length ≤ 140737488355328 := by
      by_cases h : l.length ≤ 140737488355328 ∧ (Lib.join (l.map (·.data.toList)) sep.data.toList).length ≤ 140737488355328
      · exact h
      · rw [if_neg h] at hk; cases hk
    have hv : val (strings_Join l sep) = ⟨(Lib.join (l.map (·.data.toList)) sep.data.toList).toArray⟩ := by
      unfold strings_Join
      rw [if_pos hn]
      rfl
    obtain ⟨_, _, ⟨a, cap, hv0, ⟨hcap, _⟩, hcells⟩, hold⟩ := hh.ok 0 (.ext (.strs l)) rfl
    have hargs : ((bldD k_strings_Join [.r (.strs l), .d (.s sep)]).vs.map (V.val ρ0)).toArray = #[ρ0 0, .string sep] := rfl
    rw [hargs, hv0]
    have fin : ∀ w', Below w.heap.size w w' → ∃ ρ' v hp' nx', Ending.returned (.string ⟨(Lib.join (l.map (·.data.toList)) sep.data.toList).toArray⟩) = .returned (V.val ρ' v) ∧ v.lt nx' ∧ Agree 1 ρ0 ρ' ∧ HRel ρ' (fun k => k < w.heap.size) hp' nx' w' ∧ Bel (fun k => k < w.heap.size) w w' ∧
        fitV 1 [.c (.d (.s (val (strings_Join l sep))))] v hp' := fun w' hbl => by
      refine ⟨ρ0, .w (.c (.d (.s ⟨(Lib.join (l.map (·.data.toList)) sep.data.toList).toArray⟩))), _, _, rfl, trivial, Agree.refl _ _, hh.below hbl (fun k hk => hk), bel_of hbl (fun k hk => hk), ?_⟩
      show mD _ _ ∧ True
      rw [hv]
      exact ⟨⟨rfl⟩, trivial⟩
    cases hl : l with
    | nil =>
      subst hl
      refine (Any.strings_Join_none Tryd.lays156 builder156 a cap sep w).mono ?_
      rintro e w' ⟨rfl, rfl⟩
      exact fin _ (Below.refl _ _)
    | cons x r =>
      rw [← hl]
      have h0 : 0 < l.length := by rw [hl]; simp
      obtain ⟨b, off, rfl, hx⟩ := hcells h0
      refine (Any.strings_Join Tryd.lays156 builder156 b off cap l sep w (fun j x hj => ?_) (hold _ _ _ hv0 h0) hn.1 hcap hn.2).mono ?_
      · exact hx j (.s x) (by
          show ((Cont.strs l).flat)[j]? = _
          have hfl : (Cont.strs l).flat = l.map D.s := flat1 _ _
          rw [hfl, List.getElem?_map, hj]
          rfl)
      · rintro e w' ⟨rfl, hbl⟩
        exact fin _ hbl
  · cases hg
theorem sp_73_ok {sp : Specs} (h : SpecsOK Tryd.prog sp) : SpecsOK Tryd.prog (sp_73 sp) := addK_ok strings_Join_ok h
end Go.Sh
end

section
namespace Go.Sh
open Go Go.Proofs Go.RowKit Go.Sx
set_option linter.unusedVariables false
def k_G_FormatFigures : List (Option Cont) := [none]
def y47 (u45 : Bool) (u46 : Bool) (u47 : Bool) (u48 : Bool) (u49 : Bool) (u50 : Bool) (u51 : Int) (u52 : Int) (u53 : Int) (u54 : Int) (u55 : Int) (u56 : Int) (u57 : Int) (u58 : Int) (u59 : Int) (u60 : Int) (u61 : Int) (u62 : Int) (x0 : (Int × List ByteArray)) : Option ((Int × List ByteArray) ⊕ (List ByteArray)) :=
  if x0.1 < (6 : Int) then
   if ((0 : Int) ≤ x0.1 ∧ x0.1 < (↑(6 : Nat) : Int)) ∧ List.getD [true, true, true, true, true, true] (Int.toNat x0.1 * (1 : Nat)) false = true then
    if (!List.getD [u45, u46, u47, u48, u49, u50] (Int.toNat x0.1 * (1 : Nat)) false) = true then
     if (List.length x0.2 + List.length [ByteArray.mk #[(45 : UInt8)]]) * (16 : Nat) ≤ (140737488355328 : Nat) ∧ List.length x0.2 + List.length [ByteArray.mk #[(45 : UInt8)]] ≤ (9223372036854775807 : Nat) then
      some (.inl ((IntKind.wrap .i64 (x0.1 + (1 : Int)), x0.2 ++ [ByteArray.mk #[(45 : UInt8)]])))
     else none
    else
     if (0 : Int) ≤ x0.1 ∧ x0.1 < (↑(6 : Nat) : Int) then
      if List.getD [false, false, false, false, false, false, true, true, true, true, true, true, true, true, true, true, true, true] ((6 : Nat) + Int.toNat x0.1 * (2 : Nat) + Field.offset (Field.mk "Lo" (3 : Nat) (0 : Nat) false "" "" (0 : Nat))) false = true then
       Option.bind (strconv_Itoa (List.getD [(0 : Int), (0 : Int), (0 : Int), (0 : Int), (0 : Int), (0 : Int), u51, u52, u53, u54, u55, u56, u57, u58, u59, u60, u61, u62] ((6 : Nat) + Int.toNat x0.1 * (2 : Nat) + Field.offset (Field.mk "Lo" (3 : Nat) (0 : Nat) false "" "" (0 : Nat))) (0 : Int))) fun r0 =>
       if (0 : Int) ≤ x0.1 ∧ x0.1 < (↑(6 : Nat) : Int) then
        if List.getD [false, false, false, false, false, false, true, true, true, true, true, true, true, true, true, true, true, true] ((6 : Nat) + Int.toNat x0.1 * (2 : Nat) + Field.offset (Field.mk "Hi" (3 : Nat) (1 : Nat) false "" "" (8 : Nat))) false = true then
         Option.bind (strconv_Itoa (List.getD [(0 : Int), (0 : Int), (0 : Int), (0 : Int), (0 : Int), (0 : Int), u51, u52, u53, u54, u55, u56, u57, u58, u59, u60, u61, u62] ((6 : Nat) + Int.toNat x0.1 * (2 : Nat) + Field.offset (Field.mk "Hi" (3 : Nat) (1 : Nat) false "" "" (8 : Nat))) (0 : Int))) fun r1 =>
         if (List.length x0.2 + List.length [r0, r1]) * (16 : Nat) ≤ (140737488355328 : Nat) ∧ List.length x0.2 + List.length [r0, r1] ≤ (9223372036854775807 : Nat) then
          some (.inl ((IntKind.wrap .i64 (x0.1 + (1 : Int)), x0.2 ++ [r0, r1])))
         else none
        else none
       else none
      else none
     else none
   else none
  else
   some (.inr x0.2)
def y48 (u10 : List ByteArray) : Option ByteArray :=
  Option.bind (strings_Join u10 (ByteArray.mk #[(32 : UInt8)])) fun r2 =>
  some r2
def y86 (u45 : Bool) (u46 : Bool) (u47 : Bool) (u48 : Bool) (u49 : Bool) (u50 : Bool) (u51 : Int) (u52 : Int) (u53 : Int) (u54 : Int) (u55 : Int) (u56 : Int) (u57 : Int) (u58 : Int) (u59 : Int) (u60 : Int) (u61 : Int) (u62 : Int) : Option ByteArray :=
  Option.bind (iter (y47 u45 u46 u47 u48 u49 u50 u51 u52 u53 u54 u55 u56 u57 u58 u59 u60 u61 u62) big (((0 : Int), []))) (y48)
def y120 : List A → Option (Prop × List RV)
  | [.s [.b u45, .b u46, .b u47, .b u48, .b u49, .b u50, .i .i64 u51, .i .i64 u52, .i .i64 u53, .i .i64 u54, .i .i64 u55, .i .i64 u56, .i .i64 u57, .i .i64 u58, .i .i64 u59, .i .i64 u60, .i .i64 u61, .i .i64 u62]] => some (ok (y86 u45 u46 u47 u48 u49 u50 u51 u52 u53 u54 u55 u56 u57 u58 u59 u60 u61 u62), [.d (.s ((val (y86 u45 u46 u47 u48 u49 u50 u51 u52 u53 u54 u55 u56 u57 u58 u59 u60 u61 u62))))])
  | _ => none
abbrev sp_39 : Specs → Specs := addK 39 true (pureK k_G_FormatFigures y120)
set_option maxRecDepth 100000 in
theorem G_FormatFigures_vc (u45 : Bool) (u46 : Bool) (u47 : Bool) (u48 : Bool) (u49 : Bool) (u50 : Bool) (u51 : Int) (u52 : Int) (u53 : Int) (u54 : Int) (u55 : Int) (u56 : Int) (u57 : Int) (u58 : Int) (u59 : Int) (u60 : Int) (u61 : Int) (u62 : Int) (r : ByteArray) (h : Option.bind (y86 u45 u46 u47 u48 u49 u50 u51 u52 u53 u54 u55 u56 u57 u58 u59 u60 u61 u62) some = some r) : runF Tryd.f39 ((sp_72 (sp_73 sp0))) (fun gs id _ => match id with
 | 0 => some ⟨(Int × List ByteArray) × Nat, fun z => ⟨[(1, .w (.c (.p 1 (0 : Nat) 1 (0 : Nat)))), (3, .w (.c (.o 2))), (7, .w (.a [.d (.b u45), .d (.b u46), .d (.b u47), .d (.b u48), .d (.b u49), .d (.b u50)])), (8, .w (.c (.d (.i .i64 (Prod.fst (Prod.fst z))))))], [(1, .box 78 [.d (.b u45), .d (.b u46), .d (.b u47), .d (.b u48), .d (.b u49), .d (.b u50), .d (.i .i64 u51), .d (.i .i64 u52), .d (.i .i64 u53), .d (.i .i64 u54), .d (.i .i64 u55), .d (.i .i64 u56), .d (.i .i64 u57), .d (.i .i64 u58), .d (.i .i64 u59), .d (.i .i64 u60), .d (.i .i64 u61), .d (.i .i64 u62)]), (2, .row 9 (.strs (Prod.snd (Prod.fst z))))], 3⟩, fun z => Option.bind (iter (y47 u45 u46 u47 u48 u49 u50 u51 u52 u53 u54 u55 u56 u57 u58 u59 u60 u61 u62) (Prod.snd z) (Prod.fst z)) (fun y0 => Option.bind (y48 y0) some) = some r, fun z => Prod.snd z⟩
 | _ => none) [.s [.b u45, .b u46, .b u47, .b u48, .b u49, .b u50, .i .i64 u51, .i .i64 u52, .i .i64 u53, .i .i64 u54, .i .i64 u55, .i .i64 u56, .i .i64 u57, .i .i64 u58, .i .i64 u59, .i .i64 u60, .i .i64 u61, .i .i64 u62]] [.d (.s r)] := by
  refine Eq.mp (by kernel_rfl : (
  ((∃ (v0 : (Int × List ByteArray) × Nat), (Ob ((Option.bind (iter (y47 u45 u46 u47 u48 u49 u50 u51 u52 u53 u54 u55 u56 u57 u58 u59 u60 u61 u62) v0.2 v0.1) fun y0 => Option.bind (y48 y0) some) = some r) ∧
 (Ob ((0 : Nat) = (0 : Nat)) ∧
 (Ob (u45 = u45) ∧
 (Ob (u46 = u46) ∧
 (Ob (u47 = u47) ∧
 (Ob (u48 = u48) ∧
 (Ob (u49 = u49) ∧
 (Ob (u50 = u50) ∧
 (Ob ((0 : Int) = v0.1.1) ∧
 (Ob (u45 = u45) ∧
 (Ob (u46 = u46) ∧
 (Ob (u47 = u47) ∧
 (Ob (u48 = u48) ∧
 (Ob (u49 = u49) ∧
 (Ob (u50 = u50) ∧
 (Ob (u51 = u51) ∧
 (Ob (u52 = u52) ∧
 (Ob (u53 = u53) ∧
 (Ob (u54 = u54) ∧
 (Ob (u55 = u55) ∧
 (Ob (u56 = u56) ∧
 (Ob (u57 = u57) ∧
 (Ob (u58 = u58) ∧
 (Ob (u59 = u59) ∧
 (Ob (u60 = u60) ∧
 (Ob (u61 = u61) ∧
 (Ob (u62 = u62) ∧
 (Ob (List.length v0.1.2 = (0 : Nat)) ∧
 True))))))))))))))))))))))))))))) ∧
   (∀ (v0 : (Int × List ByteArray) × Nat), ((Option.bind (iter (y47 u45 u46 u47 u48 u49 u50 u51 u52 u53 u54 u55 u56 u57 u58 u59 u60 u61 u62) v0.2 v0.1) fun y0 => Option.bind (y48 y0) some) = some r →
 Br (decide (v0.1.1 < (6 : Int)))
   ((Ob (((0 : Int) ≤ v0.1.1 ∧ v0.1.1 < (↑(6 : Nat) : Int)) ∧ List.getD [true, true, true, true, true, true] (Int.toNat v0.1.1 * (1 : Nat)) false = true) ∧
 Br (!List.getD [u45, u46, u47, u48, u49, u50] (Int.toNat v0.1.1 * (1 : Nat)) false)
   ((Ob ((List.length v0.1.2 + List.length [ByteArray.mk #[(45 : UInt8)]]) * (16 : Nat) ≤ (140737488355328 : Nat) ∧ List.length v0.1.2 + List.length [ByteArray.mk #[(45 : UInt8)]] ≤ (9223372036854775807 : Nat)) ∧
   (∃ (v1 : (Int × List ByteArray) × Nat), (Ob ((Option.bind (iter (y47 u45 u46 u47 u48 u49 u50 u51 u52 u53 u54 u55 u56 u57 u58 u59 u60 u61 u62) v1.2 v1.1) fun y0 => Option.bind (y48 y0) some) = some r) ∧
 (Ob (v1.2 < v0.2) ∧
 (Ob ((0 : Nat) = (0 : Nat)) ∧
 (Ob (u45 = u45) ∧
 (Ob (u46 = u46) ∧
 (Ob (u47 = u47) ∧
 (Ob (u48 = u48) ∧
 (Ob (u49 = u49) ∧
 (Ob (u50 = u50) ∧
 (Ob (IntKind.wrap .i64 (v0.1.1 + (1 : Int)) = v1.1.1) ∧
 (Ob (u45 = u45) ∧
 (Ob (u46 = u46) ∧
 (Ob (u47 = u47) ∧
 (Ob (u48 = u48) ∧
 (Ob (u49 = u49) ∧
 (Ob (u50 = u50) ∧
 (Ob (u51 = u51) ∧
 (Ob (u52 = u52) ∧
 (Ob (u53 = u53) ∧
 (Ob (u54 = u54) ∧
 (Ob (u55 = u55) ∧
 (Ob (u56 = u56) ∧
 (Ob (u57 = u57) ∧
 (Ob (u58 = u58) ∧
 (Ob (u59 = u59) ∧
 (Ob (u60 = u60) ∧
 (Ob (u61 = u61) ∧
 (Ob (u62 = u62) ∧
 (Ob (v0.1.2 ++ [ByteArray.mk #[(45 : UInt8)]] = v1.1.2) ∧
 True))))))))))))))))))))))))))))))))
   ((Ob ((0 : Int) ≤ v0.1.1 ∧ v0.1.1 < (↑(6 : Nat) : Int)) ∧
 (Ob (List.getD [false, false, false, false, false, false, true, true, true, true, true, true, true, true, true, true, true, true] ((6 : Nat) + Int.toNat v0.1.1 * (2 : Nat) + Field.offset (Field.mk "Lo" (3 : Nat) (0 : Nat) false "" "" (0 : Nat))) false = true) ∧
 (Ob (ok (strconv_Itoa (List.getD [(0 : Int), (0 : Int), (0 : Int), (0 : Int), (0 : Int), (0 : Int), u51, u52, u53, u54, u55, u56, u57, u58, u59, u60, u61, u62] ((6 : Nat) + Int.toNat v0.1.1 * (2 : Nat) + Field.offset (Field.mk "Lo" (3 : Nat) (0 : Nat) false "" "" (0 : Nat))) (0 : Int)))) ∧
 (Ob ((0 : Int) ≤ v0.1.1 ∧ v0.1.1 < (↑(6 : Nat) : Int)) ∧
 (Ob (List.getD [false, false, false, false, false, false, true, true, true, true, true, true, true, true, true, true, true, true] ((6 : Nat) + Int.toNat v0.1.1 * (2 : Nat) + Field.offset (Field.mk "Hi" (3 : Nat) (1 : Nat) false "" "" (8 : Nat))) false = true) ∧
 (Ob (ok (strconv_Itoa (List.getD [(0 : Int), (0 : Int), (0 : Int), (0 : Int), (0 : Int), (0 : Int), u51, u52, u53, u54, u55, u56, u57, u58, u59, u60, u61, u62] ((6 : Nat) + Int.toNat v0.1.1 * (2 : Nat) + Field.offset (Field.mk "Hi" (3 : Nat) (1 : Nat) false "" "" (8 : Nat))) (0 : Int)))) ∧
 (Ob ((List.length v0.1.2 + List.length [val (strconv_Itoa (List.getD [(0 : Int), (0 : Int), (0 : Int), (0 : Int), (0 : Int), (0 : Int), u51, u52, u53, u54, u55, u56, u57, u58, u59, u60, u61, u62] ((6 : Nat) + Int.toNat v0.1.1 * (2 : Nat) + Field.offset (Field.mk "Lo" (3 : Nat) (0 : Nat) false "" "" (0 : Nat))) (0 : Int))), val (strconv_Itoa (List.getD [(0 : Int), (0 : Int), (0 : Int), (0 : Int), (0 : Int), (0 : Int), u51, u52, u53, u54, u55, u56, u57, u58, u59, u60, u61, u62] ((6 : Nat) + Int.toNat v0.1.1 * (2 : Nat) + Field.offset (Field.mk "Hi" (3 : Nat) (1 : Nat) false "" "" (8 : Nat))) (0 : Int)))]) * (16 : Nat) ≤ (140737488355328 : Nat) ∧ List.length v0.1.2 + List.length [val (strconv_Itoa (List.getD [(0 : Int), (0 : Int), (0 : Int), (0 : Int), (0 : Int), (0 : Int), u51, u52, u53, u54, u55, u56, u57, u58, u59, u60, u61, u62] ((6 : Nat) + Int.toNat v0.1.1 * (2 : Nat) + Field.offset (Field.mk "Lo" (3 : Nat) (0 : Nat) false "" "" (0 : Nat))) (0 : Int))), val (strconv_Itoa (List.getD [(0 : Int), (0 : Int), (0 : Int), (0 : Int), (0 : Int), (0 : Int), u51, u52, u53, u54, u55, u56, u57, u58, u59, u60, u61, u62] ((6 : Nat) + Int.toNat v0.1.1 * (2 : Nat) + Field.offset (Field.mk "Hi" (3 : Nat) (1 : Nat) false "" "" (8 : Nat))) (0 : Int)))] ≤ (9223372036854775807 : Nat)) ∧
   (∃ (v1 : (Int × List ByteArray) × Nat), (Ob ((Option.bind (iter (y47 u45 u46 u47 u48 u49 u50 u51 u52 u53 u54 u55 u56 u57 u58 u59 u60 u61 u62) v1.2 v1.1) fun y0 => Option.bind (y48 y0) some) = some r) ∧
 (Ob (v1.2 < v0.2) ∧
 (Ob ((0 : Nat) = (0 : Nat)) ∧
 (Ob (u45 = u45) ∧
 (Ob (u46 = u46) ∧
 (Ob (u47 = u47) ∧
 (Ob (u48 = u48) ∧
 (Ob (u49 = u49) ∧
 (Ob (u50 = u50) ∧
 (Ob (IntKind.wrap .i64 (v0.1.1 + (1 : Int)) = v1.1.1) ∧
 (Ob (u45 = u45) ∧
 (Ob (u46 = u46) ∧
 (Ob (u47 = u47) ∧
 (Ob (u48 = u48) ∧
 (Ob (u49 = u49) ∧
 (Ob (u50 = u50) ∧
 (Ob (u51 = u51) ∧
 (Ob (u52 = u52) ∧
 (Ob (u53 = u53) ∧
 (Ob (u54 = u54) ∧
 (Ob (u55 = u55) ∧
 (Ob (u56 = u56) ∧
 (Ob (u57 = u57) ∧
 (Ob (u58 = u58) ∧
 (Ob (u59 = u59) ∧
 (Ob (u60 = u60) ∧
 (Ob (u61 = u61) ∧
 (Ob (u62 = u62) ∧
 (Ob (v0.1.2 ++ [val (strconv_Itoa (List.getD [(0 : Int), (0 : Int), (0 : Int), (0 : Int), (0 : Int), (0 : Int), u51, u52, u53, u54, u55, u56, u57, u58, u59, u60, u61, u62] ((6 : Nat) + Int.toNat v0.1.1 * (2 : Nat) + Field.offset (Field.mk "Lo" (3 : Nat) (0 : Nat) false "" "" (0 : Nat))) (0 : Int))), val (strconv_Itoa (List.getD [(0 : Int), (0 : Int), (0 : Int), (0 : Int), (0 : Int), (0 : Int), u51, u52, u53, u54, u55, u56, u57, u58, u59, u60, u61, u62] ((6 : Nat) + Int.toNat v0.1.1 * (2 : Nat) + Field.offset (Field.mk "Hi" (3 : Nat) (1 : Nat) false "" "" (8 : Nat))) (0 : Int)))] = v1.1.2) ∧
 True))))))))))))))))))))))))))))))))))))))))
   ((Ob (ok (strings_Join v0.1.2 (ByteArray.mk #[(32 : UInt8)]))) ∧
 (Ob (True) ∧
 (Ob (val (strings_Join v0.1.2 (ByteArray.mk #[(32 : UInt8)])) = r) ∧
 True)))))))) = _) ?_
  refine ⟨⟨(((0 : Int), []), big), ⟨loop_s h⟩, (by repeat' (first | exact trivial | exact ⟨rfl⟩ | refine And.intro ?_ ?_))⟩, fun z3 hz3 => ?_⟩
  obtain ⟨k3, hm3, h⟩ := iter_pos hz3
  refine br_d h (fun h => ?_) (fun h => ?_)
  · refine ob_s h fun h => ?_
    refine br_b h (fun h => ?_) (fun h => ?_)
    · refine ob_s h fun h => ?_
      exact ⟨((IntKind.wrap .i64 ((Prod.fst z3).1 + (1 : Int)), (Prod.fst z3).2 ++ [ByteArray.mk #[(45 : UInt8)]]), k3), ⟨next_s h⟩, ⟨lt_gs hm3.symm⟩, (by repeat' (first | exact trivial | exact ⟨rfl⟩ | refine And.intro ?_ ?_))⟩
    · refine ob_s h fun h => ?_
      refine ob_s h fun h => ?_
      refine call_s h fun h => ?_
      refine ob_s h fun h => ?_
      refine ob_s h fun h => ?_
      refine call_s h fun h => ?_
      refine ob_s h fun h => ?_
      exact ⟨((IntKind.wrap .i64 ((Prod.fst z3).1 + (1 : Int)), (Prod.fst z3).2 ++ [val (strconv_Itoa (List.getD [(0 : Int), (0 : Int), (0 : Int), (0 : Int), (0 : Int), (0 : Int), u51, u52, u53, u54, u55, u56, u57, u58, u59, u60, u61, u62] ((6 : Nat) + Int.toNat (Prod.fst z3).1 * (2 : Nat) + Field.offset (Field.mk "Lo" (3 : Nat) (0 : Nat) false "" "" (0 : Nat))) (0 : Int))), val (strconv_Itoa (List.getD [(0 : Int), (0 : Int), (0 : Int), (0 : Int), (0 : Int), (0 : Int), u51, u52, u53, u54, u55, u56, u57, u58, u59, u60, u61, u62] ((6 : Nat) + Int.toNat (Prod.fst z3).1 * (2 : Nat) + Field.offset (Field.mk "Hi" (3 : Nat) (1 : Nat) false "" "" (8 : Nat))) (0 : Int)))]), k3), ⟨next_s h⟩, ⟨lt_gs hm3.symm⟩, (by repeat' (first | exact trivial | exact ⟨rfl⟩ | refine And.intro ?_ ?_))⟩
  · have h := exit_s h
    refine call_s h fun h => ?_
    refine ob_t ?_
    exact ret_s h (fun e => by subst e; exact (by repeat' (first | exact trivial | exact ⟨rfl⟩ | refine And.intro ?_ ?_)))
set_option maxRecDepth 100000 in
theorem G_FormatFigures_ok : SpecOK Tryd.prog 39 true (pureK k_G_FormatFigures y120) := by
  refine pureK_ok (sp := (sp_72 (sp_73 sp0))) (fn := Tryd.f39) (body := bodyOf Tryd.f39) mixed (sp_72_ok (sp_73_ok sp0_ok)) Tryd.func39 (by kernel_rfl) (by kernel_rfl) fun as_ ob rs h ho => ?_
  unfold y120 at h
  split at h
  · rename_i u45 u46 u47 u48 u49 u50 u51 u52 u53 u54 u55 u56 u57 u58 u59 u60 u61 u62
    cases h
    exact ⟨Nat.le_of_ble_eq_true rfl, _, _, G_FormatFigures_vc u45 u46 u47 u48 u49 u50 u51 u52 u53 u54 u55 u56 u57 u58 u59 u60 u61 u62 _ (ok_some ho)⟩
  · cases h
theorem sp_39_ok {sp : Specs} (h : SpecsOK Tryd.prog sp) : SpecsOK Tryd.prog (sp_39 sp) := addK_ok G_FormatFigures_ok h
end Go.Sh
end

section
namespace Go.Sh
open Go Go.Proofs Go.RowKit Go.Sx
set_option linter.unusedVariables false
def freeR : Int := 8000
def freeS : List Nat := [1090519040, 1082130432, 1073741824, 1065353216, 0]
def g_five (fr : Int) (fs : List Nat) : List Lf → Option GT
  | [] => some (.leaf True [.s [.d (.i .i64 fr), .row 54 (.floats .f32 fs)]])
  | _ => none
abbrev sp_35v (fr : Int) (fs : List Nat) : Specs → Specs := addK 35 true (pureT k_L05_Five (g_five fr fs))
set_option maxRecDepth 100000 in
theorem five_ok : SpecOK Tryd.prog 35 true (pureT k_L05_Five (g_five freeR freeS)) := by
  refine pureT_ok (sp := sp0) (fn := Tryd.f35) (body := bodyOf Tryd.f35) mixed sp0_ok Tryd.func35 (by kernel_rfl) (by kernel_rfl) fun ls t h ho b hb => ?_
  unfold g_five at h
  split at h
  · cases h
    obtain rfl := bld_eq hb
    exact ⟨Nat.le_of_ble_eq_true (by kernel_rfl), _, _, L05_Five_vc (freeR, freeS) rfl⟩
  · cases h
theorem sp_35v_ok {sp : Specs} (h : SpecsOK Tryd.prog sp) : SpecsOK Tryd.prog (sp_35v freeR freeS sp) := addK_ok five_ok h
end Go.Sh
end

section
namespace Go.Sh
open Go Go.Proofs Go.RowKit Go.Sx
set_option linter.unusedVariables false
def k_L05_awake : List (Option Cont) := []
def L05_awake (fr : Int) (fs : List Nat) : Option Bool :=
  Option.bind (G_Sums fr fs) fun r0 =>
  Option.bind (G_Decay fr fs (1 : Int)) fun r1 =>
  Option.bind (G_Clarity fr fs (0 : Int) (0 : Int) (125 : Int)) fun r2 =>
  Option.bind (y95 fr fs (1 : Int)) fun r3 =>
  Option.bind (y13 fr fs (0 : Int) (0 : Int)) fun r4 =>
  if (r0.2 == (0 : Int)) = true then
   Option.bind (B_Ints r0.1 [(85 : Int), (21 : Int), (5 : Int), (1 : Int), (0 : Int)]) fun r5 =>
   if (r5) = true then
    if (r1.2.2 == (0 : Int)) = true then
     if (r1.1 == (750 : Int) && r1.2.1 == (1500 : Int)) = true then
      if (r2.2.2 == (0 : Int)) = true then
       if (r2.1 == (4 : Int) && r2.2.1 == (5 : Int)) = true then
        if (r3.2.2 == (0 : Int)) = true then
         if (r3.1 == (9 : Int) && r3.2.1 == (17 : Int)) = true then
          if (r4.2.2.2.2.2.2.2.2.2.2.2.2.2.2.2.2.2.2 == (0 : Int)) = true then
           Option.bind (y86 r4.1 r4.2.1 r4.2.2.1 r4.2.2.2.1 r4.2.2.2.2.1 r4.2.2.2.2.2.1 r4.2.2.2.2.2.2.1 r4.2.2.2.2.2.2.2.1 r4.2.2.2.2.2.2.2.2.1 r4.2.2.2.2.2.2.2.2.2.1 r4.2.2.2.2.2.2.2.2.2.2.1 r4.2.2.2.2.2.2.2.2.2.2.2.1 r4.2.2.2.2.2.2.2.2.2.2.2.2.1 r4.2.2.2.2.2.2.2.2.2.2.2.2.2.1 r4.2.2.2.2.2.2.2.2.2.2.2.2.2.2.1 r4.2.2.2.2.2.2.2.2.2.2.2.2.2.2.2.1 r4.2.2.2.2.2.2.2.2.2.2.2.2.2.2.2.2.1 r4.2.2.2.2.2.2.2.2.2.2.2.2.2.2.2.2.2.1) fun r6 =>
           some (r6 == ByteArray.mk #[(55 : UInt8), (53 : UInt8), (48 : UInt8), (32 : UInt8), (49 : UInt8), (53 : UInt8), (48 : UInt8), (48 : UInt8), (32 : UInt8), (55 : UInt8), (53 : UInt8), (48 : UInt8), (32 : UInt8), (49 : UInt8), (53 : UInt8), (48 : UInt8), (48 : UInt8), (32 : UInt8), (53 : UInt8), (48 : UInt8), (48 : UInt8), (32 : UInt8), (49 : UInt8), (48 : UInt8), (48 : UInt8), (48 : UInt8), (32 : UInt8), (45 : UInt8), (32 : UInt8), (49 : UInt8), (48 : UInt8), (48 : UInt8), (48 : UInt8), (32 : UInt8), (49 : UInt8), (48 : UInt8), (48 : UInt8), (48 : UInt8), (32 : UInt8), (51 : UInt8), (57 : UInt8), (32 : UInt8), (52 : UInt8), (48 : UInt8)])
          else
           some false
         else
          some false
        else
         some false
       else
        some false
      else
       some false
     else
      some false
    else
     some false
   else
    some false
  else
   some false
set_option maxRecDepth 100000 in
def L05_awake_t (fr : Int) (fs : List Nat) : T (Bool) :=
 .obT
  (.call (G_Sums fr fs) fun r0 =>
  .obT
  (.call (G_Decay fr fs (1 : Int)) fun r1 =>
  .obT
  (.call (G_Clarity fr fs (0 : Int) (0 : Int) (125 : Int)) fun r2 =>
  .obT
  (.call (y95 fr fs (1 : Int)) fun r3 =>
  .obT
  (.call (y13 fr fs (0 : Int) (0 : Int)) fun r4 =>
  .brB (r0.2 == (0 : Int))
  (.call (B_Ints r0.1 [(85 : Int), (21 : Int), (5 : Int), (1 : Int), (0 : Int)]) fun r5 =>
  .brB (r5)
  (.brB (r1.2.2 == (0 : Int))
  (.brB (r1.1 == (750 : Int) && r1.2.1 == (1500 : Int))
  (.brB (r2.2.2 == (0 : Int))
  (.brB (r2.1 == (4 : Int) && r2.2.1 == (5 : Int))
  (.brB (r3.2.2 == (0 : Int))
  (.brB (r3.1 == (9 : Int) && r3.2.1 == (17 : Int))
  (.brB (r4.2.2.2.2.2.2.2.2.2.2.2.2.2.2.2.2.2.2 == (0 : Int))
  (.call (y86 r4.1 r4.2.1 r4.2.2.1 r4.2.2.2.1 r4.2.2.2.2.1 r4.2.2.2.2.2.1 r4.2.2.2.2.2.2.1 r4.2.2.2.2.2.2.2.1 r4.2.2.2.2.2.2.2.2.1 r4.2.2.2.2.2.2.2.2.2.1 r4.2.2.2.2.2.2.2.2.2.2.1 r4.2.2.2.2.2.2.2.2.2.2.2.1 r4.2.2.2.2.2.2.2.2.2.2.2.2.1 r4.2.2.2.2.2.2.2.2.2.2.2.2.2.1 r4.2.2.2.2.2.2.2.2.2.2.2.2.2.2.1 r4.2.2.2.2.2.2.2.2.2.2.2.2.2.2.2.1 r4.2.2.2.2.2.2.2.2.2.2.2.2.2.2.2.2.1 r4.2.2.2.2.2.2.2.2.2.2.2.2.2.2.2.2.2.1) fun r6 =>
  .obT
  (.rc ((r6 == ByteArray.mk #[(55 : UInt8), (53 : UInt8), (48 : UInt8), (32 : UInt8), (49 : UInt8), (53 : UInt8), (48 : UInt8), (48 : UInt8), (32 : UInt8), (55 : UInt8), (53 : UInt8), (48 : UInt8), (32 : UInt8), (49 : UInt8), (53 : UInt8), (48 : UInt8), (48 : UInt8), (32 : UInt8), (53 : UInt8), (48 : UInt8), (48 : UInt8), (32 : UInt8), (49 : UInt8), (48 : UInt8), (48 : UInt8), (48 : UInt8), (32 : UInt8), (45 : UInt8), (32 : UInt8), (49 : UInt8), (48 : UInt8), (48 : UInt8), (48 : UInt8), (32 : UInt8), (49 : UInt8), (48 : UInt8), (48 : UInt8), (48 : UInt8), (32 : UInt8), (51 : UInt8), (57 : UInt8), (32 : UInt8), (52 : UInt8), (48 : UInt8)]))))
  (.obT
  (.rc (false))))
  (.obT
  (.rc (false))))
  (.obT
  (.rc (false))))
  (.obT
  (.rc (false))))
  (.obT
  (.rc (false))))
  (.obT
  (.rc (false))))
  (.obT
  (.rc (false))))
  (.obT
  (.rc (false))))
  (.obT
  (.rc (false))))))))
set_option maxRecDepth 100000 in
theorem L05_awake_vc (fr : Int) (fs : List Nat) (r : Bool) (h : Option.bind (L05_awake fr fs) some = some r) : runF Tryd.f8 ((sp_34 (sp_24 (sp_27 (sp_36 (sp_35v fr fs (sp_37 (sp_38 (sp_39 sp0))))))))) (fun _ _ _ => none) [] [.d (.b r)] :=
  T.vc (t := L05_awake_t fr fs) (by kernel_rfl) (by kernel_rfl) h
end Go.Sh
end

section
namespace Go.Sh
open Go Go.Proofs Go.RowKit Go.Sx
set_option maxRecDepth 100000
set_option maxHeartbeats 4000000
theorem awake_eq : L05_awake freeR freeS = some true := by kernel_rfl
end Go.Sh
end

section
namespace Go.Sh
open Go Go.Proofs Go.RowKit Go.Sx
set_option maxRecDepth 100000
def g_awake : List A → Option (Prop × List RV)
  | [] => some (True, [.d (.b true)])
  | _ => none
abbrev sp_8b : Specs → Specs := addK 8 true (pureK k_L05_awake g_awake)
theorem awakeT_ok : SpecOK Tryd.prog 8 true (pureK k_L05_awake g_awake) := by
  refine pureK_ok (sp := (sp_34 (sp_24 (sp_27 (sp_36 (sp_35v freeR freeS (sp_37 (sp_38 (sp_39 sp0))))))))) (fn := Tryd.f8) (body := bodyOf Tryd.f8) mixed (sp_34_ok (sp_24_ok (sp_27_ok (sp_36_ok (sp_35v_ok (sp_37_ok (sp_38_ok (sp_39_ok sp0_ok)))))))) Tryd.func8 (by kernel_rfl) (by kernel_rfl) fun as_ ob rs h ho => ?_
  unfold g_awake at h
  split at h
  · cases h
    exact ⟨Nat.le_of_ble_eq_true rfl, _, _, L05_awake_vc freeR freeS true (by rw [awake_eq]; rfl)⟩
  · cases h
theorem sp_8b_ok {sp : Specs} (h : SpecsOK Tryd.prog sp) : SpecsOK Tryd.prog (sp_8b sp) := addK_ok awakeT_ok h
end Go.Sh
end

section
namespace Go.Sh
open Go Go.Proofs Go.RowKit Go.Sx
set_option linter.unusedVariables false
end Go.Sh
end

section
namespace Go.Sh
open Go Go.Proofs Go.RowKit Go.Sx
set_option linter.unusedVariables false
def k_L05_FigureLevels : List (Option Cont) := [none, none]
def L05_FigureLevels (num : Int) (den : Int) : Option Bool :=
  Option.bind (y33 num den) fun r0 =>
  Option.bind (y60 num den) fun r1 =>
  if (r0.2.2 != r1.2.2) = true then
   some false
  else
   if (!(r0.1 == r1.1 && r0.2.1 == r1.2.1)) = true then
    some false
   else
    if (r1.2.2 != (0 : Int)) = true then
     some true
    else
     Option.bind (y33 den num) fun r2 =>
     Option.bind (y33 num num) fun r3 =>
     if (r2.2.2 == (0 : Int)) = true then
      if r0.1 ≤ r0.2.1 then
       if r0.2.1 ≤ IntKind.wrap .i64 (r0.1 + (2 : Int)) then
        Option.bind (y54 r2.1 (IntKind.wrap .i64 (IntKind.wrap .i64 ((0 : Int) - r0.2.1) - (1 : Int))) (IntKind.wrap .i64 (IntKind.wrap .i64 ((0 : Int) - r0.2.1) + (1 : Int)))) fun r4 =>
        if (r4) = true then
         if (r3.2.2 == (0 : Int)) = true then
          some (r3.1 == (0 : Int) && r3.2.1 == (0 : Int))
         else
          some false
        else
         some false
       else
        some false
      else
       some false
     else
      some false
def g_L05_FigureLevels : List A → Option (Prop × List RV)
  | [.d (.i .i64 num), .d (.i .i64 den)] => some (ok (L05_FigureLevels num den), [.d (.b ((val (L05_FigureLevels num den))))])
  | _ => none
set_option maxRecDepth 100000 in
def L05_FigureLevels_t (num : Int) (den : Int) : T (Bool) :=
 .obT
  (.call (y33 num den) fun r0 =>
  .call (y60 num den) fun r1 =>
  .brB (r0.2.2 != r1.2.2)
  (.obT
  (.rc (false)))
  (.brB (!(r0.1 == r1.1 && r0.2.1 == r1.2.1))
  (.obT
  (.rc (false)))
  (.brB (r1.2.2 != (0 : Int))
  (.obT
  (.rc (true)))
  (.call (y33 den num) fun r2 =>
  .call (y33 num num) fun r3 =>
  .brB (r2.2.2 == (0 : Int))
  (.brP (r0.1 ≤ r0.2.1)
  (.brP (r0.2.1 ≤ IntKind.wrap .i64 (r0.1 + (2 : Int)))
  (.call (y54 r2.1 (IntKind.wrap .i64 (IntKind.wrap .i64 ((0 : Int) - r0.2.1) - (1 : Int))) (IntKind.wrap .i64 (IntKind.wrap .i64 ((0 : Int) - r0.2.1) + (1 : Int)))) fun r4 =>
  .brB (r4)
  (.brB (r3.2.2 == (0 : Int))
  (.obT
  (.rc ((r3.1 == (0 : Int) && r3.2.1 == (0 : Int)))))
  (.obT
  (.rc (false))))
  (.obT
  (.rc (false))))
  (.obT
  (.rc (false))))
  (.obT
  (.rc (false))))
  (.obT
  (.rc (false)))))))
set_option maxRecDepth 100000 in
theorem L05_FigureLevels_vc (num : Int) (den : Int) (r : Bool) (h : Option.bind (L05_FigureLevels num den) some = some r) : runF Tryd.f3 ((sp_8b (sp_10 (sp_9 (sp_11 sp0))))) (fun _ _ _ => none) [.d (.i .i64 num), .d (.i .i64 den)] [.d (.b r)] :=
  T.vc (t := L05_FigureLevels_t num den) (by kernel_rfl) (by kernel_rfl) h
set_option maxRecDepth 100000 in
theorem L05_FigureLevels_ok : SpecOK Tryd.prog 3 true (pureK k_L05_FigureLevels g_L05_FigureLevels) := by
  refine pureK_ok (sp := (sp_8b (sp_10 (sp_9 (sp_11 sp0))))) (fn := Tryd.f3) (body := bodyOf Tryd.f3) mixed (sp_8b_ok (sp_10_ok (sp_9_ok (sp_11_ok sp0_ok)))) Tryd.func3 (by kernel_rfl) (by kernel_rfl) fun as_ ob rs h ho => ?_
  unfold g_L05_FigureLevels at h
  split at h
  · rename_i num den
    cases h
    exact ⟨Nat.le_of_ble_eq_true rfl, _, _, L05_FigureLevels_vc num den _ (ok_some ho)⟩
  · cases h
end Go.Sh
end

section
namespace Go.Sh
open Go Go.Proofs Go.RowKit Go.Sx Go.Sx06 Ieee Go.Fl
theorem figureLevels_true (num den : Int) : L05_FigureLevels num den = some true := by
  unfold L05_FigureLevels
  rw [levelG_eq, bind_some', levelR_eq, bind_some']
  simp only [bne_self_eq_false, beq_self_eq_true, Bool.and_self, Bool.not_true, Bool.false_eq_true, if_false]
  by_cases h : (lvS num den).2.2 = 0
  · obtain ⟨hn, _, _, _, a, b, q, ra, rb, _⟩ := lv_good h
    obtain ⟨t0, t1, t2⟩ := lv_turn h
    have n1 := lv_near h
    rw [bne_f h, if_neg Bool.false_ne_true, levelG_eq, bind_some', levelG_eq, bind_some', lv_same hn]
    rw [q] at t1 t2 n1 ⊢
    dsimp only at t1 t2 n1 ⊢
    rw [t0, wr64 (x := a + 2) (by omega), wr64 (x := 0 - b) (by omega), wr64 (x := 0 - b - 1) (by omega), wr64 (x := 0 - b + 1) (by omega), withinB_eq, bind_some', decide_eq_true (by omega), if_pos rfl, if_pos n1.1, if_pos n1.2]
    rfl
  · rw [bne_t h, if_pos rfl]
end Go.Sh
end

section
namespace Go.Sx
set_option linter.unusedVariables false
open Go.RowKit Go.ChangeShapes Go.WideShapes
inductive K where
  | i (k : IntKind) | b | f (k : FloatKind) | s
def K.fits : K → D → Prop
  | .i k, .i k' n => k' = k ∧ (Lit.int k n).wf = true
  | .b, .b _ => True
  | .f k, .f k' n => k' = k ∧ (Lit.float k n).wf = true
  | .s, .s x => x.size ≤ maxLen
  | _, _ => False
def fitsAll : List K → List D → Prop
  | [], [] => True
  | k :: ks, d :: ds => k.fits d ∧ fitsAll ks ds
  | _, _ => False
def kindsOf (g : TypeId → Option (List K)) (P : Program) : Nat → List Field → Option (List K)
  | _, [] => some []
  | n, f :: fs => match g f.type with
    | none => none
    | some ks => if f.offset = n ∧ P.cellsOf f.type = ks.length then (kindsOf g P (n + ks.length) fs).map (ks ++ ·) else none
def kinds (P : Program) : Nat → TypeId → Option (List K)
  | 0, _ => none
  | d + 1, t => match P.underlying t with
    | some .bool => some [.b]
    | some (.int k) => some [.i k]
    | some (.float k) => some [.f k]
    | some .string => some [.s]
    | some (.struct fs) => match kindsOf (kinds P d) P 0 fs.toList with
      | some ks => if P.cellsOf t = ks.length then some ks else none
      | none => none
    | some (.array n e) => match kinds P d e with
      | some ks => if P.cellsOf t = n * ks.length ∧ P.cellsOf e = ks.length then some (List.replicate n ks).flatten else none
      | none => none
    | _ => none
section
variable {H : Type} {enc : TypeId × Value → H} {P : Program} {w : World} {base : Nat} {spare : Nat → Bool} {held : Bool}
end
inductive ArgIs (w : World) : Value → A → Prop where
  | d (x : D) : ArgIs w x.val (.d x)
  | s (l : List D) : ArgIs w (.agg (l.map D.val).toArray) (.s l)
  | r (v : Value) (c : Cont) (he : 0 < c.e) (h : IsRow w v c) : ArgIs w v (.r c)
def argsV : Nat → List A → List V
  | _, [] => []
  | n, .d x :: l => .w (.c (.d x)) :: argsV (n + 1) l
  | n, .s x :: l => .w (.a (x.map C.d)) :: argsV (n + 1) l
  | n, .r _ :: l => .w (.c (.o n)) :: argsV (n + 1) l
  | n, .f g :: l => .w (.c (.fn g [])) :: argsV (n + 1) l
inductive ArgsAre (w : World) : List Value → List A → Prop where
  | nil : ArgsAre w [] []
  | cons {v : Value} {a : A} {vs : List Value} {asq : List A} (h : ArgIs w v a) (t : ArgsAre w vs asq) : ArgsAre w (v :: vs) (a :: asq)
section
variable [Globs] {P : Program} {w : World}
theorem args_ok {vs : List Value} {asq : List A} (h : ArgsAre w vs asq) : ∀ (n : Nat) (ρ : Env), (∀ i v, vs[i]? = some v → ρ (n + i) = v) →
    (argsV n asq).map (V.val ρ) = vs ∧ (∀ x ∈ argsV n asq, V.lt (n + asq.length) x) ∧ (∀ k o, find (argHp n asq) k = some o → n ≤ k ∧ k < n + asq.length ∧ o.lt (n + asq.length) ∧ o.ok ρ (fun k => k < w.heap.size) w k ∧ ∀ b, o.blk (ρ k) ≠ some b) ∧ asq.length = vs.length := by
  induction h with
  | nil => exact fun n ρ _ => ⟨rfl, (fun _ h => by cases h), (fun _ _ h => by cases h), rfl⟩
  | @cons v a vs asq ha hs ih =>
    intro n ρ hρ
    obtain ⟨h1, h2, h3, h4⟩ := ih (n + 1) ρ (fun i v hv => by rw [show n + 1 + i = n + (i + 1) by omega]; exact hρ (i + 1) v (by simpa using hv))
    have h0 : ρ n = v := by have := hρ 0 v rfl; simpa using this
    have up : ∀ x, V.lt (n + 1 + asq.length) x → V.lt (n + (a :: asq).length) x := fun x hx => V.lt_mono (by simp; omega) hx
    have up3 : ∀ k o, find (argHp (n + 1) asq) k = some o → n ≤ k ∧ k < n + (a :: asq).length ∧ o.lt (n + (a :: asq).length) ∧ o.ok ρ (fun k => k < w.heap.size) w k ∧ ∀ b, o.blk (ρ k) ≠ some b := fun k o hf => by
      obtain ⟨p1, p2, p3, p4, p5⟩ := h3 k o hf
      exact ⟨by omega, by simp; omega, O.lt_mono (by simp; omega) p3, p4, p5⟩
    cases ha with
    | d x =>
      refine ⟨by simp only [argsV, List.map_cons, h1]; rfl, fun y hy => ?_, up3, by simp [h4]⟩
      rcases List.mem_cons.1 hy with rfl | hy
      · trivial
      · exact up y (h2 y hy)
    | s l =>
      refine ⟨?_, fun y hy => ?_, up3, by simp [h4]⟩
      · simp only [argsV, List.map_cons, h1]
        congr 1
        simp [V.val, W.val, C.val, Function.comp_def]
      · rcases List.mem_cons.1 hy with rfl | hy
        · intro c hc
          obtain ⟨z, _, rfl⟩ := List.mem_map.1 hc
          trivial
        · exact up y (h2 y hy)
    | r v c he hr =>
      refine ⟨?_, fun y hy => ?_, fun k o hf => ?_, by simp [h4]⟩
      · simp only [argsV, List.map_cons, h1]
        congr 1
      · rcases List.mem_cons.1 hy with rfl | hy
        · show n < n + (asq.length + 1)
          omega
        · exact up y (h2 y hy)
      · simp only [argHp, find] at hf
        split at hf
        · rename_i e
          subst e
          cases hf
          refine ⟨Nat.le_refl _, by simp, trivial, ?_, fun b => by simp [O.blk]⟩
          show IsRow w (ρ n) c ∧ OldRow _ (ρ n)
          rw [h0]
          exact ⟨hr, IsRow.lt hr he⟩
        · exact up3 k o hf
theorem law_calls {f : Nat} {qs : List (Option Cont)} {g : List A → Option (Prop × List RV)} {vs : List Value} {ax : List A} {ob : Prop} {b : Bool} {fn : Func} (hok : SpecOK P f true (pureK qs g)) (hargs : ArgsAre w vs ax)
    (hto : toAsK qs (argHp 0 ax) (argsV 0 ax) = some ax) (hg : g ax = some (ob, [.d (.b b)])) (ho : ob) (hb : b = true)
    (hfn : P.funcs[f]? = some fn) (hbody : fn.body = some (fn.body.getD .skip)) (hn : (fn.name == "runtime.NumGoroutine") = false) (hgl : GlobOK (fun k => k < w.heap.size) w) :
    Calls P f vs.toArray w fun e w' => e = .returned (.bool true) ∧ Below w.heap.size w w' := by
  subst hb
  obtain ⟨h1, h2, h3, h4⟩ := args_ok hargs 0 (fun i => (vs[i]?).getD undef) (fun i v hv => by simp [hv])
  rw [Nat.zero_add] at h2
  have hh : HRel (fun i => (vs[i]?).getD undef) (fun k => k < w.heap.size) (argHp 0 ax) ax.length w :=
    ⟨fun k o hf => by obtain ⟨_, p2, p3, p4, _⟩ := h3 k o hf; exact ⟨by omega, by simpa using p3, p4⟩, fun k o k' o' b hf _ _ hbk => absurd hbk ((h3 k o hf).2.2.2.2 b), hgl⟩
  have := (hok.sound hfn hbody hn).sound _ (fun k => k < w.heap.size) w (argsV 0 ax) (argHp 0 ax) ax.length (.leaf ⟨ob, tupV (rvW ax.length [.d (.b true)]), rvHp ax.length [.d (.b true)] (argHp 0 ax), rvNx ax.length [.d (.b true)]⟩) (by
    unfold pureK
    rw [hto]
    dsimp only
    rw [hg]) ho h2 hh (fun k hk => hk)
  rw [h1] at this
  refine this.mono ?_
  rintro e w' ⟨ρ', rfl, hl⟩
  exact ⟨rfl, hl.mono rfl⟩
end
section
variable {H : Type} {enc : TypeId × Value → H} {P : Program}
theorem trod_all {sp : Nat → Bool} (hl : laidOutB P = true) {W W' : World} (hb : Below W.heap.size W W') : ∀ (ts : List TypeId) (vs : List Value) (ds : List (DataW H)) (ps : List MemPlace), (∀ t ∈ ts, P.readableRec t = true ∧ t < P.types.size) →
    DataW.TrodAll enc P W 0 (fun _ => true) true ts vs ds ps → (∀ p ∈ ps, p.block < W.heap.size) → (∀ p ∈ ps, sp p.block = true) → DataW.TrodAll enc P W' 0 sp true ts vs ds ps
  | [], [], [], _, _, h, _, _ => h
  | t :: ts, v :: vs, d :: ds, ps, ht, h, hlt, hs => by
    obtain ⟨p, q, h1, h2, rfl⟩ := h
    have htt := ht t List.mem_cons_self
    exact ⟨p, q, WideElems.Trod_stays hl htt.1 htt.2 h1 (fun x hx => hb.same (hlt x (List.mem_append_left _ hx))) (fun x hx => hs x (List.mem_append_left _ hx)),
      trod_all hl hb ts vs ds q (fun t ht' => ht t (List.mem_cons_of_mem _ ht')) h2 (fun x hx => hlt x (List.mem_append_right _ hx)) (fun x hx => hs x (List.mem_append_right _ hx)), rfl⟩
  | [], _ :: _, _, _, _, h, _, _ => h.elim
  | _ :: _, [], _, _, _, h, _, _ => h.elim
  | [], [], _ :: _, _, _, h, _, _ => h.elim
  | _ :: _, _ :: _, [], _, _, h, _, _ => h.elim
theorem law_post {f : Func} {s : ChangeSpec} {apart fresh handsOn again : Bool} {W W' : World} {args : Array Value} {ds gs : List (DataW H)} {before : List MemPlace} {tb : TypeId} (hvars : s.vars = []) (hrt : f.resultTypes = #[tb]) (htb : P.underlying tb = some .bool)
    (hres : (s.fn H (ds ++ gs)).results = [.lit (.bool true)]) (hargs : (s.fn H (ds ++ gs)).args = ds) (hsv : (s.fn H (ds ++ gs)).vars = []) (hl : laidOutB P = true) (hread : ∀ t ∈ f.params.toList, P.readableRec t = true ∧ t < P.types.size)
    (hW : DataW.Whole enc P f.params.toList s.vars apart W args.toList ds gs before) (hb : Below W.heap.size W W') : s.post enc P f apart fresh handsOn again W args (.bool true) W' := by
  have hlt : ∀ p ∈ before, p.block < W.heap.size := fun p hp => hW.lt p hp
  have hW' := hW
  obtain ⟨p, q, h1, h2, rfl, hfz, hnd⟩ := hW'
  rw [hvars] at h2
  have hq : q = [] := by
    cases gs with
    | nil => exact h2
    | cons _ _ => exact h2.elim
  subst hq
  rw [List.append_nil] at hlt hfz hnd
  have hA : ∀ sp : Nat → Bool, (∀ x ∈ p, sp x.block = true) → DataW.TrodAll enc P W' 0 sp true f.params.toList args.toList ds p := fun sp hs => trod_all hl hb _ _ _ _ hread h1 hlt hs
  have hR : ∀ (b : Nat) (sp : Nat → Bool) (hd : Bool), DataW.TrodAll enc P W' b sp hd [tb] [.bool true] [.lit (.bool true)] [] := fun b sp hd => ⟨[], [], ⟨1, by simp [DataW.trod, htb, Value.cells]⟩, rfl, rfl⟩
  have hrl : (Value.bool true).resultList f.resultTypes.size = [.bool true] := by rw [hrt]; rfl
  have hrt' : f.resultTypes.toList = [tb] := by rw [hrt]
  refine ⟨ds, gs, p ++ [], [], p, [], hW, ?_, ?_, ?_, World.keptBut_mono (fun x hx => ⟨hx, .inr (.inl (by simpa using hx))⟩) (hb.frame (· ∈ p ++ [])), fun _ => ⟨fun j t r hj hr => ?_, ?_⟩⟩
  · rw [hrl, hrt', hres]; exact hR _ _ _
  · rw [hargs]; exact hA _ (fun x hx => by simpa using hlt x hx)
  · rw [hvars, hsv]; rfl
  · rw [hrt] at hj
    rw [hrl] at hr
    cases j with
    | zero =>
      simp at hj hr
      subst hj; subst hr
      exact okWide_bool_mk htb _
    | succ j => simp at hj
  · refine ⟨[.lit (.bool true)] ++ ds, [], p, ⟨p, [], ?_, by rw [hvars]; rfl, by simp, ?_, ?_⟩, fun x hx _ => by simpa using hx⟩
    · rw [hrl, hrt']
      exact ⟨[], p, ⟨1, by simp [DataW.trod, htb, Value.cells]⟩, hA _ (fun _ _ => rfl), rfl⟩
    · intro b off hp
      rw [hb.frozen (hlt _ hp)]
      exact hfz b off hp
    · exact hnd
end
section
variable {H : Type} {enc : TypeId × Value → H} {P : Program} {w : World} {base : Nat} {spare : Nat → Bool} {held : Bool} {r : Reach} {b0 : Nat}
theorem arg_int {t : TypeId} {v : Value} {x : DataW H} {p : List MemPlace} (ht : P.underlying t = some (.int .i64)) (hval : Value.okWide P w r b0 t v) (h : DataW.Trod enc P w base spare held t v x p) :
    ∃ n : Int, ArgIs w v (.d (.i .i64 n)) ∧ inI n := by
  obtain ⟨n, rfl, _, _, hw⟩ := open_int ht hval h
  refine ⟨n, .d (.i .i64 n), ?_⟩
  unfold inI
  simpa [Lit.wf, IntKind.min, IntKind.max, IntKind.signed, IntKind.bits] using hw
end
end Go.Sx
end

section
namespace Go.Sx
set_option linter.unusedVariables false
open Go.RowKit Go.ChangeShapes Go.WideShapes
inductive K2 where
  | d (k : K)
  | s (ks : List K)
inductive T1 where
  | d (x : D)
  | r (c : Cont)
inductive Cell2 (w : World) : K2 → Value → T1 → Prop where
  | d (k : K) (x : D) (h : k.fits x) : Cell2 w (.d k) x.val (.d x)
  | s (ks : List K) (v : Value) (rows : List (List D)) (h0 : 0 < ks.length) (h : ∀ r ∈ rows, fitsAll ks r) (hr : IsRow w v (.lits ks.length rows)) : Cell2 w (.s ks) v (.r (.lits ks.length rows))
inductive Cells2 (w : World) : List K2 → List Value → List T1 → Prop where
  | nil : Cells2 w [] [] []
  | cons {k : K2} {v : Value} {t : T1} {ks : List K2} {vs : List Value} {ts : List T1} (h : Cell2 w k v t) (r : Cells2 w ks vs ts) : Cells2 w (k :: ks) (v :: vs) (t :: ts)
theorem Cells2.append {w : World} {ks ks' : List K2} {vs vs' : List Value} {ts ts' : List T1} (h : Cells2 w ks vs ts) (h' : Cells2 w ks' vs' ts') : Cells2 w (ks ++ ks') (vs ++ vs') (ts ++ ts') := by
  induction h with
  | nil => exact h'
  | cons h r ih => exact .cons h ih
section
variable {H : Type} {enc : TypeId × Value → H} {P : Program} {w : World} {base : Nat} {spare : Nat → Bool} {held : Bool}
end
section
variable [Globs]
structure TOK (w : World) (n : Nat) (ρ ρ' : Env) (vals : List Value) (cs : List C) (hp : Hp) (n' : Nat) : Prop where
  agree : Agree n ρ ρ'
  le : n ≤ n'
  val : cs.map (C.val ρ') = vals
  lt : ∀ c ∈ cs, C.lt n' c
  heap : ∀ k o, find hp k = some o → n ≤ k ∧ k < n' ∧ ∃ c, o = .ext c ∧ IsRow w (ρ' k) c ∧ 0 < c.e
theorem TOK.append {w : World} {n n1 n2 : Nat} {ρ ρ1 ρ2 : Env} {a b : List Value} {ca cb : List C} {ha hb : Hp} (h1 : TOK w n ρ ρ1 a ca ha n1) (h2 : TOK w n1 ρ1 ρ2 b cb hb n2) : TOK w n ρ ρ2 (a ++ b) (ca ++ cb) (hb ++ ha) n2 := by
  refine ⟨h1.agree.trans h2.agree h1.le, Nat.le_trans h1.le h2.le, ?_, ?_, ?_⟩
  · rw [List.map_append, h2.val, ← h1.val]
    congr 1
    exact List.map_congr_left fun c hc => C.val_agree h2.agree (h1.lt c hc)
  · intro c hc
    rcases List.mem_append.1 hc with hc | hc
    · exact C.lt_mono h2.le (h1.lt c hc)
    · exact h2.lt c hc
  · intro k o hf
    rw [find_append] at hf
    cases hg : find hb k with
    | some o2 =>
      rw [hg] at hf
      cases hf
      obtain ⟨q1, q2, q3⟩ := h2.heap k o hg
      exact ⟨Nat.le_trans h1.le q1, q2, q3⟩
    | none =>
      rw [hg] at hf
      obtain ⟨q1, q2, c, q3, q4, q5⟩ := h1.heap k o hf
      exact ⟨q1, Nat.lt_of_lt_of_le q2 h2.le, c, q3, by rw [h2.agree k q2]; exact q4, q5⟩
end
end Go.Sx
end

section
namespace Go.Sx
set_option linter.unusedVariables false
open Go.RowKit Go.ChangeShapes Go.WideShapes
section
variable {P : Program} {w : World}
theorem laid_get : ∀ {l : List (String × DataW Unit)} {ps : List MemPlace} {n : String} {d : DataW Unit}, DataW.LaidVars P w l ps → (n, d) ∈ l →
    ∃ g t cs fuel p, P.globalNamed n = some g ∧ (P.globals[g]?).map (·.type) = some t ∧ w.var? P n = some cs ∧ DataW.trod (fun _ => ()) P w 0 (fun _ => true) false fuel t cs.toList = some (d, p)
  | (n', d') :: r, ps, n, d, h, hm => by
    obtain ⟨g, t, cs, fuel, p, q, h1, h2, h3, h4, h5, _⟩ := h
    rcases List.mem_cons.1 hm with e | hm
    · cases e
      exact ⟨g, t, cs, fuel, p, h1, h2, h3, h4⟩
    · exact laid_get h5 hm
variable {enc : TypeId × Value → Unit} {base : Nat} {spare : Nat → Bool} {held : Bool} {fuel : Nat}
theorem take_one {α : Type} {l : List α} {i : Nat} (h : i < l.length) : (l.drop i).take 1 = [l[i]] := by
  rw [List.drop_eq_getElem_cons h]
  rfl
theorem laid_ints {t e n : Nat} {k : IntKind} {l : List Int} {cs : List Value} {p : List MemPlace} (hu : P.underlying t = some (.array n e)) (he : P.underlying e = some (.int k)) (hc : P.cellsOf e = 1) (hct : P.cellsOf t = n) (hl : l.length = n)
    (h : DataW.trod enc P w base spare held fuel t cs = some (.agg (l.map fun x => .lit (.int k x)), p)) : cs = (Cont.ints k l).flat.map D.val := by
  obtain ⟨xs, m, _, hx, hlen, hn, hel⟩ := DataW.trod_array hu h
  have hx1 : l.map (fun x => DataW.lit (H := Unit) (.int k x)) = xs.map (·.1) := by
    have := congrArg Prod.fst hx
    simpa using this
  have hf : (Cont.ints k l).flat.map D.val = l.map fun x => Value.int k x := by
    simp only [Cont.flat, List.map_flatMap, List.map_cons, List.map_nil, D.val]
    rw [← List.flatMap_singleton' (l.map fun x => Value.int k x), List.flatMap_map]
  rw [hf]
  apply List.ext_getElem
  · rw [hlen, hct, List.length_map, hl]
  · intro i h1 h2
    have hi : i < n := by rw [hlen, hct] at h1; exact h1
    have h3 := hel i hi
    rw [hc, Nat.mul_one, take_one h1] at h3
    have hxi : i < xs.length := by omega
    rw [List.getElem?_eq_getElem hxi] at h3
    obtain ⟨a, ha, hb, _⟩ := DataW.trod_int he h3
    have h4 : (l.map (fun x => DataW.lit (H := Unit) (.int k x)))[i]? = (xs.map (·.1))[i]? := by rw [hx1]
    rw [List.getElem?_map, List.getElem?_map, List.getElem?_eq_getElem hxi, List.getElem?_eq_getElem (show i < l.length by omega), hb] at h4
    simp only [Option.map_some, Option.some.injEq] at h4
    have e1 : l[i] = a := by cases h4; rfl
    have e2 : cs[i] = .int k a := by simpa using ha
    rw [e2, List.getElem_map, e1]
theorem laid_recs3 {t e n a b c : Nat} {fs : Array Field} {l : List (List Int)} {cs : List Value} {p : List MemPlace} (hu : P.underlying t = some (.array n e)) (he : P.underlying e = some (.struct fs))
    (hfs : fs.toList.map (fun f => (f.type, f.offset)) = [(a, 0), (b, 1), (c, 2)]) (ha : P.underlying a = some (.int .i64)) (hb : P.underlying b = some (.int .i64)) (hc : P.underlying c = some (.int .i64)) (hca : P.cellsOf a = 1) (hcb : P.cellsOf b = 1) (hcc : P.cellsOf c = 1)
    (hce : P.cellsOf e = 3) (hct : P.cellsOf t = 3 * n) (hl : l.length = n)
    (h : DataW.trod enc P w base spare held fuel t cs = some (.agg (l.map fun x => .agg [.lit (.int .i64 (x.getD 0 0)), .lit (.int .i64 (x.getD 1 0)), .lit (.int .i64 (x.getD 2 0))]), p)) : cs = (Cont.recs 3 l).flat.map D.val := by
  obtain ⟨xs, m, _, hx, hlen, hn, hel⟩ := DataW.trod_array hu h
  have hx1 : l.map (fun x => DataW.agg (H := Unit) [.lit (.int .i64 (x.getD 0 0)), .lit (.int .i64 (x.getD 1 0)), .lit (.int .i64 (x.getD 2 0))]) = xs.map (·.1) := by
    have := congrArg Prod.fst hx
    simpa using this
  have hrow : ∀ i, i < n → (cs.drop (i * 3)).take 3 = [Value.int .i64 ((l.getD i []).getD 0 0), .int .i64 ((l.getD i []).getD 1 0), .int .i64 ((l.getD i []).getD 2 0)] := by
    intro i hi
    have h3 := hel i hi
    rw [hce] at h3
    have hxi : i < xs.length := by omega
    have hli : i < l.length := by omega
    rw [List.getElem?_eq_getElem hxi] at h3
    have h4 : (l.map (fun x => DataW.agg (H := Unit) [.lit (.int .i64 (x.getD 0 0)), .lit (.int .i64 (x.getD 1 0)), .lit (.int .i64 (x.getD 2 0))]))[i]? = (xs.map (·.1))[i]? := by rw [hx1]
    rw [List.getElem?_map, List.getElem?_map, List.getElem?_eq_getElem hxi, List.getElem?_eq_getElem hli] at h4
    simp only [Option.map_some, Option.some.injEq] at h4
    have hgl : l.getD i [] = l[i] := by simp [List.getD, hli]
    rw [hgl]
    obtain ⟨ys, m2, _, hy, hyl, hyn, hye⟩ := DataW.trod_struct he h3
    rw [hce] at hyl
    have hy1 : xs[i].1 = .agg (ys.map (·.1)) := by rw [hy]
    rw [hy1] at h4
    have h5 : [DataW.lit (H := Unit) (.int .i64 (l[i].getD 0 0)), .lit (.int .i64 (l[i].getD 1 0)), .lit (.int .i64 (l[i].getD 2 0))] = ys.map (·.1) := by
      rw [DataW.agg.injEq] at h4
      exact h4
    have hfl : fs.size = 3 := by
      have := congrArg List.length hfs
      simpa using this
    have field : ∀ (j : Nat) (tj : Nat), j < 3 → (fs.toList.map (fun f => (f.type, f.offset)))[j]? = some (tj, j) → P.underlying tj = some (.int .i64) → P.cellsOf tj = 1 → ∃ v, ((cs.drop (i * 3)).take 3)[j]? = some (Value.int .i64 v) ∧ (ys.map (·.1))[j]? = some (.lit (.int .i64 v)) := by
      intro j tj hj hf htj hcj
      rw [List.getElem?_map] at hf
      cases hfj : fs.toList[j]? with
      | none => rw [hfj] at hf; cases hf
      | some f =>
        rw [hfj] at hf
        simp only [Option.map_some, Option.some.injEq, Prod.mk.injEq] at hf
        obtain ⟨e1, e2⟩ := hf
        have h6 := hye j f (by simpa using hfj)
        rw [e1, e2, hcj, take_one (by rw [hyl]; exact hj)] at h6
        have hyj : j < ys.length := by omega
        rw [List.getElem?_eq_getElem hyj] at h6
        obtain ⟨v, hv1, hv2, _⟩ := DataW.trod_int htj h6
        refine ⟨v, ?_, ?_⟩
        · rw [List.getElem?_eq_getElem (by rw [hyl]; exact hj)]
          simpa using hv1
        · rw [List.getElem?_map, List.getElem?_eq_getElem hyj, hv2]
          rfl
    obtain ⟨v0, a0, b0⟩ := field 0 a (by omega) (by rw [hfs]; rfl) ha hca
    obtain ⟨v1, a1, b1⟩ := field 1 b (by omega) (by rw [hfs]; rfl) hb hcb
    obtain ⟨v2, a2, b2⟩ := field 2 c (by omega) (by rw [hfs]; rfl) hc hcc
    rw [← h5] at b0 b1 b2
    have e0 : l[i].getD 0 0 = v0 := by simpa using b0
    have e1 : l[i].getD 1 0 = v1 := by simpa using b1
    have e2 : l[i].getD 2 0 = v2 := by simpa using b2
    rw [e0, e1, e2]
    generalize (cs.drop (i * 3)).take 3 = L at *
    match L, hyl with
    | [x, y, z], _ =>
      simp only [List.getElem?_cons_zero, List.getElem?_cons_succ, Option.some.injEq] at a0 a1 a2
      rw [a0, a1, a2]
  apply List.ext_getElem?
  intro j
  have hfl := (Cont.recs 3 l).flat_length
  have hn3 : (Cont.recs 3 l).n * (Cont.recs 3 l).e = n * 3 := by simp [Cont.n, Cont.e, hl]
  by_cases hj : j < n * 3
  · have hi : j / 3 < n := by omega
    have h7 := hrow (j / 3) hi
    have h8 := (Cont.recs 3 l).flat_get (i := j / 3) (j := j % 3) (by simpa [Cont.n, hl] using hi) (by simp only [Cont.e]; omega)
    have e9 : j / 3 * (Cont.recs 3 l).e + j % 3 = j := by simp only [Cont.e]; omega
    rw [e9] at h8
    rw [List.getElem?_map, h8]
    have h10 : cs[j]? = ((cs.drop (j / 3 * 3)).take 3)[j % 3]? := by
      rw [List.getElem?_take, if_pos (by omega), List.getElem?_drop]
      congr 1
      omega
    rw [h10, h7]
    have hm : j % 3 = 0 ∨ j % 3 = 1 ∨ j % 3 = 2 := by omega
    rcases hm with h | h | h <;> rw [h] <;> rfl
  · rw [List.getElem?_eq_none (by rw [hlen, hct]; omega), List.getElem?_eq_none (by rw [List.length_map, hfl, hn3]; omega)]
theorem tab_of {n : String} {g : Nat} {cs : Array Value} {c : Cont} (hg : P.globalNamed n = some g) (hv : w.var? P n = some cs) (hc : cs.toList = c.flat.map D.val) :
    g < w.heap.size ∧ (∀ j x, c.flat[j]? = some x → w.cell? ⟨g, j, none⟩ = some x.val) ∧ ∃ cs t f, w.heap[g]? = some (.cells cs t f) ∧ cs.size = c.flat.length := by
  have hcell := World.var?_cell hg hv
  have hsz : cs.size = c.flat.length := by
    have := congrArg List.length hc
    simpa using this
  simp only [World.var?, hg, Option.bind_some] at hv
  split at hv
  · rename_i cs' t f hh
    cases hv
    refine ⟨(Array.getElem?_eq_some_iff.1 hh).1, fun j x hj => ?_, cs, t, f, hh, hsz⟩
    rw [hcell j]
    have : cs.toList[j]? = some x.val := by rw [hc, List.getElem?_map, hj]; rfl
    simpa using this
  · cases hv
end
end Go.Sx
end

section
namespace Go.Proofs.YtcklfboglnfepaaDoor
open Go Go.Proofs Go.RowKit Go.Sx
set_option maxRecDepth 100000
theorem globs_ok {W : World} {laid : List (String × DataW Unit)} (hp : (laid.all fun x => x.2.handleName?.isNone) = true)
    (hm : ∀ x ∈ [("internal/strconv.uint64pow10", Rows.laid_internal_strconv_uint64pow10 (H := Unit)), ("shoebox/figure.powers", Rows.laid_shoebox_figure_powers), ("shoebox/figure.slopes", Rows.laid_shoebox_figure_slopes), ("shoebox/figure.tenths", Rows.laid_shoebox_figure_tenths), ("shoebox/figure.decayKinds", Rows.laid_shoebox_figure_decayKinds)], x ∈ laid)
    (h : laidMetH Tryd.prog laid W) : GlobOK (fun k => k < W.heap.size) W := by
  rw [MakeChecks.laidMetH_plain _ _ _ hp] at h
  obtain ⟨ps, hl, _, _⟩ := h
  have t0 : (Tryd.prog.globals[0]?).map (·.type) = some 110 := by kernel_rfl
  have t2 : (Tryd.prog.globals[2]?).map (·.type) = some 123 := by kernel_rfl
  have t3 : (Tryd.prog.globals[3]?).map (·.type) = some 131 := by kernel_rfl
  have t1 : (Tryd.prog.globals[1]?).map (·.type) = some 114 := by kernel_rfl
  have t6 : (Tryd.prog.globals[6]?).map (·.type) = some 163 := by kernel_rfl
  refine ⟨fun g c hg => ?_, held_none (fun g => rfl) _ _⟩
  have hg : tabZ g = some c := hg
  unfold tabZ at hg
  split at hg
  · cases hg
    obtain ⟨g, t, cs, fuel, p, h1, h2, h3, h4⟩ := laid_get hl (hm ("shoebox/figure.decayKinds", Rows.laid_shoebox_figure_decayKinds) (by simp))
    obtain rfl := Option.some.inj ((show Tryd.prog.globalNamed "shoebox/figure.decayKinds" = some 0 by kernel_rfl).symm.trans h1)
    obtain rfl := Option.some.inj (t0.symm.trans h2)
    have hc := laid_ints (n := 3) (e := 3) (k := .i64) (l := kindsT) (by kernel_rfl) (by kernel_rfl) (by kernel_rfl) (by kernel_rfl) rfl h4
    exact tab_of h1 h3 hc
  · cases hg
    obtain ⟨g, t, cs, fuel, p, h1, h2, h3, h4⟩ := laid_get hl (hm ("shoebox/figure.slopes", Rows.laid_shoebox_figure_slopes) (by simp))
    obtain rfl := Option.some.inj ((show Tryd.prog.globalNamed "shoebox/figure.slopes" = some 2 by kernel_rfl).symm.trans h1)
    obtain rfl := Option.some.inj (t2.symm.trans h2)
    have hu : ∃ fs, Tryd.prog.underlying 122 = some (.struct fs) ∧ fs.toList.map (fun f => (f.type, f.offset)) = [(3, 0), (3, 1), (3, 2)] := by
      have u := Tryd.underlying122
      exact ⟨_, u, by kernel_rfl⟩
    obtain ⟨fs, u2, u3⟩ := hu
    have hc := laid_recs3 (n := 3) (l := slopesT) (e := 122) (by kernel_rfl) u2 u3 (by kernel_rfl) (by kernel_rfl) (by kernel_rfl) (by kernel_rfl) (by kernel_rfl) (by kernel_rfl) (by kernel_rfl) (by kernel_rfl) rfl h4
    exact tab_of h1 h3 hc
  · cases hg
    obtain ⟨g, t, cs, fuel, p, h1, h2, h3, h4⟩ := laid_get hl (hm ("shoebox/figure.powers", Rows.laid_shoebox_figure_powers) (by simp))
    obtain rfl := Option.some.inj ((show Tryd.prog.globalNamed "shoebox/figure.powers" = some 3 by kernel_rfl).symm.trans h1)
    obtain rfl := Option.some.inj (t3.symm.trans h2)
    have hc := laid_ints (n := 13) (l := powersT) (e := 84) (k := .u64) (by kernel_rfl) (by kernel_rfl) (by kernel_rfl) (by kernel_rfl) rfl h4
    exact tab_of h1 h3 hc
  · cases hg
    obtain ⟨g, t, cs, fuel, p, h1, h2, h3, h4⟩ := laid_get hl (hm ("shoebox/figure.tenths", Rows.laid_shoebox_figure_tenths) (by simp))
    obtain rfl := Option.some.inj ((show Tryd.prog.globalNamed "shoebox/figure.tenths" = some 1 by kernel_rfl).symm.trans h1)
    obtain rfl := Option.some.inj (t1.symm.trans h2)
    have hc := laid_ints (n := 10) (l := tenthsT) (e := 84) (k := .u64) (by kernel_rfl) (by kernel_rfl) (by kernel_rfl) (by kernel_rfl) rfl h4
    exact tab_of h1 h3 hc
  · cases hg
    obtain ⟨g, t, cs, fuel, p, h1, h2, h3, h4⟩ := laid_get hl (hm ("internal/strconv.uint64pow10", Rows.laid_internal_strconv_uint64pow10) (by simp))
    obtain rfl := Option.some.inj ((show Tryd.prog.globalNamed "internal/strconv.uint64pow10" = some 6 by kernel_rfl).symm.trans h1)
    obtain rfl := Option.some.inj (t6.symm.trans h2)
    have hc := laid_ints (n := 20) (l := pow10T) (e := 84) (k := .u64) (by kernel_rfl) (by kernel_rfl) (by kernel_rfl) (by kernel_rfl) rfl h4
    exact tab_of h1 h3 hc
  · cases hg
end Go.Proofs.YtcklfboglnfepaaDoor
end
