/- Part 5 of the proof of TopLongerTailCard: the executor, the mirrors of the functions, the plain facts. -/
import Derived.Test.YtcklfboglnfepaaDoorPD
import Derived.Shelf.Strings.OnBuilder
import Derived.Shelf.Strconv.Itoa3
set_option linter.unusedSectionVars false
set_option linter.unusedSimpArgs false
set_option linter.unusedVariables false
section
namespace Go.Sh
open Go Go.Proofs Go.RowKit Go.Sx
set_option linter.unusedVariables false
def k_math_bits_Len64 : List (Option Cont) := [none]
def y64 (x_ : Int) : Option Int :=
  if x_ ≥ (4294967296 : Int) then
   if Int.fdiv x_ ((2 : Int) ^ min (32 : Nat) (IntKind.bits .u64)) ≥ (65536 : Int) then
    if Int.fdiv (Int.fdiv x_ ((2 : Int) ^ min (32 : Nat) (IntKind.bits .u64))) ((2 : Int) ^ min (16 : Nat) (IntKind.bits .u64)) ≥ (256 : Int) then
     if (0 : Int) ≤ IntKind.wrap .u8 (Int.fdiv (Int.fdiv (Int.fdiv x_ ((2 : Int) ^ min (32 : Nat) (IntKind.bits .u64))) ((2 : Int) ^ min (16 : Nat) (IntKind.bits .u64))) ((2 : Int) ^ min (8 : Nat) (IntKind.bits .u64))) ∧ IntKind.wrap .u8 (Int.fdiv (Int.fdiv (Int.fdiv x_ ((2 : Int) ^ min (32 : Nat) (IntKind.bits .u64))) ((2 : Int) ^ min (16 : Nat) (IntKind.bits .u64))) ((2 : Int) ^ min (8 : Nat) (IntKind.bits .u64))) < (↑(ByteArray.size tab8) : Int) then
      some (IntKind.wrap .i64 (IntKind.wrap .i64 (IntKind.wrap .i64 ((32 : Int) + (16 : Int)) + (8 : Int)) + IntKind.wrap .i64 (↑(UInt8.toNat (Array.getD (ByteArray.data tab8) (Int.toNat (IntKind.wrap .u8 (Int.fdiv (Int.fdiv (Int.fdiv x_ ((2 : Int) ^ min (32 : Nat) (IntKind.bits .u64))) ((2 : Int) ^ min (16 : Nat) (IntKind.bits .u64))) ((2 : Int) ^ min (8 : Nat) (IntKind.bits .u64))))) (0 : UInt8))) : Int)))
     else none
    else
     if (0 : Int) ≤ IntKind.wrap .u8 (Int.fdiv (Int.fdiv x_ ((2 : Int) ^ min (32 : Nat) (IntKind.bits .u64))) ((2 : Int) ^ min (16 : Nat) (IntKind.bits .u64))) ∧ IntKind.wrap .u8 (Int.fdiv (Int.fdiv x_ ((2 : Int) ^ min (32 : Nat) (IntKind.bits .u64))) ((2 : Int) ^ min (16 : Nat) (IntKind.bits .u64))) < (↑(ByteArray.size tab8) : Int) then
      some (IntKind.wrap .i64 (IntKind.wrap .i64 ((32 : Int) + (16 : Int)) + IntKind.wrap .i64 (↑(UInt8.toNat (Array.getD (ByteArray.data tab8) (Int.toNat (IntKind.wrap .u8 (Int.fdiv (Int.fdiv x_ ((2 : Int) ^ min (32 : Nat) (IntKind.bits .u64))) ((2 : Int) ^ min (16 : Nat) (IntKind.bits .u64))))) (0 : UInt8))) : Int)))
     else none
   else
    if Int.fdiv x_ ((2 : Int) ^ min (32 : Nat) (IntKind.bits .u64)) ≥ (256 : Int) then
     if (0 : Int) ≤ IntKind.wrap .u8 (Int.fdiv (Int.fdiv x_ ((2 : Int) ^ min (32 : Nat) (IntKind.bits .u64))) ((2 : Int) ^ min (8 : Nat) (IntKind.bits .u64))) ∧ IntKind.wrap .u8 (Int.fdiv (Int.fdiv x_ ((2 : Int) ^ min (32 : Nat) (IntKind.bits .u64))) ((2 : Int) ^ min (8 : Nat) (IntKind.bits .u64))) < (↑(ByteArray.size tab8) : Int) then
      some (IntKind.wrap .i64 (IntKind.wrap .i64 ((32 : Int) + (8 : Int)) + IntKind.wrap .i64 (↑(UInt8.toNat (Array.getD (ByteArray.data tab8) (Int.toNat (IntKind.wrap .u8 (Int.fdiv (Int.fdiv x_ ((2 : Int) ^ min (32 : Nat) (IntKind.bits .u64))) ((2 : Int) ^ min (8 : Nat) (IntKind.bits .u64))))) (0 : UInt8))) : Int)))
     else none
    else
     if (0 : Int) ≤ IntKind.wrap .u8 (Int.fdiv x_ ((2 : Int) ^ min (32 : Nat) (IntKind.bits .u64))) ∧ IntKind.wrap .u8 (Int.fdiv x_ ((2 : Int) ^ min (32 : Nat) (IntKind.bits .u64))) < (↑(ByteArray.size tab8) : Int) then
      some (IntKind.wrap .i64 ((32 : Int) + IntKind.wrap .i64 (↑(UInt8.toNat (Array.getD (ByteArray.data tab8) (Int.toNat (IntKind.wrap .u8 (Int.fdiv x_ ((2 : Int) ^ min (32 : Nat) (IntKind.bits .u64))))) (0 : UInt8))) : Int)))
     else none
  else
   if x_ ≥ (65536 : Int) then
    if Int.fdiv x_ ((2 : Int) ^ min (16 : Nat) (IntKind.bits .u64)) ≥ (256 : Int) then
     if (0 : Int) ≤ IntKind.wrap .u8 (Int.fdiv (Int.fdiv x_ ((2 : Int) ^ min (16 : Nat) (IntKind.bits .u64))) ((2 : Int) ^ min (8 : Nat) (IntKind.bits .u64))) ∧ IntKind.wrap .u8 (Int.fdiv (Int.fdiv x_ ((2 : Int) ^ min (16 : Nat) (IntKind.bits .u64))) ((2 : Int) ^ min (8 : Nat) (IntKind.bits .u64))) < (↑(ByteArray.size tab8) : Int) then
      some (IntKind.wrap .i64 (IntKind.wrap .i64 (IntKind.wrap .i64 ((0 : Int) + (16 : Int)) + (8 : Int)) + IntKind.wrap .i64 (↑(UInt8.toNat (Array.getD (ByteArray.data tab8) (Int.toNat (IntKind.wrap .u8 (Int.fdiv (Int.fdiv x_ ((2 : Int) ^ min (16 : Nat) (IntKind.bits .u64))) ((2 : Int) ^ min (8 : Nat) (IntKind.bits .u64))))) (0 : UInt8))) : Int)))
     else none
    else
     if (0 : Int) ≤ IntKind.wrap .u8 (Int.fdiv x_ ((2 : Int) ^ min (16 : Nat) (IntKind.bits .u64))) ∧ IntKind.wrap .u8 (Int.fdiv x_ ((2 : Int) ^ min (16 : Nat) (IntKind.bits .u64))) < (↑(ByteArray.size tab8) : Int) then
      some (IntKind.wrap .i64 (IntKind.wrap .i64 ((0 : Int) + (16 : Int)) + IntKind.wrap .i64 (↑(UInt8.toNat (Array.getD (ByteArray.data tab8) (Int.toNat (IntKind.wrap .u8 (Int.fdiv x_ ((2 : Int) ^ min (16 : Nat) (IntKind.bits .u64))))) (0 : UInt8))) : Int)))
     else none
   else
    if x_ ≥ (256 : Int) then
     if (0 : Int) ≤ IntKind.wrap .u8 (Int.fdiv x_ ((2 : Int) ^ min (8 : Nat) (IntKind.bits .u64))) ∧ IntKind.wrap .u8 (Int.fdiv x_ ((2 : Int) ^ min (8 : Nat) (IntKind.bits .u64))) < (↑(ByteArray.size tab8) : Int) then
      some (IntKind.wrap .i64 (IntKind.wrap .i64 ((0 : Int) + (8 : Int)) + IntKind.wrap .i64 (↑(UInt8.toNat (Array.getD (ByteArray.data tab8) (Int.toNat (IntKind.wrap .u8 (Int.fdiv x_ ((2 : Int) ^ min (8 : Nat) (IntKind.bits .u64))))) (0 : UInt8))) : Int)))
     else none
    else
     if (0 : Int) ≤ IntKind.wrap .u8 x_ ∧ IntKind.wrap .u8 x_ < (↑(ByteArray.size tab8) : Int) then
      some (IntKind.wrap .i64 ((0 : Int) + IntKind.wrap .i64 (↑(UInt8.toNat (Array.getD (ByteArray.data tab8) (Int.toNat (IntKind.wrap .u8 x_)) (0 : UInt8))) : Int)))
     else none
def y109 : List A → Option (Prop × List RV)
  | [.d (.i .u64 x_)] => some (ok (y64 x_), [.d (.i .i64 ((val (y64 x_))))])
  | _ => none
abbrev sp_104 : Specs → Specs := addK 104 true (pureK k_math_bits_Len64 y109)
set_option maxRecDepth 100000 in
theorem math_bits_Len64_vc (x_ : Int) (r : Int) (h : Option.bind (y64 x_) some = some r) : runF Tryd.f104 (sp0) (fun _ _ _ => none) [.d (.i .u64 x_)] [.d (.i .i64 r)] := by
  refine Eq.mp (by kernel_rfl : (
 Br (decide (x_ ≥ (4294967296 : Int)))
   ((Ob ((0 : Int) ≤ (32 : Int)) ∧
 Br (decide (Int.fdiv x_ ((2 : Int) ^ min (32 : Nat) (IntKind.bits .u64)) ≥ (65536 : Int)))
   ((Ob ((0 : Int) ≤ (16 : Int)) ∧
 Br (decide (Int.fdiv (Int.fdiv x_ ((2 : Int) ^ min (32 : Nat) (IntKind.bits .u64))) ((2 : Int) ^ min (16 : Nat) (IntKind.bits .u64)) ≥ (256 : Int)))
   ((Ob ((0 : Int) ≤ (8 : Int)) ∧
 (Ob (True) ∧
 (Ob ((0 : Int) ≤ IntKind.wrap .u8 (Int.fdiv (Int.fdiv (Int.fdiv x_ ((2 : Int) ^ min (32 : Nat) (IntKind.bits .u64))) ((2 : Int) ^ min (16 : Nat) (IntKind.bits .u64))) ((2 : Int) ^ min (8 : Nat) (IntKind.bits .u64))) ∧ IntKind.wrap .u8 (Int.fdiv (Int.fdiv (Int.fdiv x_ ((2 : Int) ^ min (32 : Nat) (IntKind.bits .u64))) ((2 : Int) ^ min (16 : Nat) (IntKind.bits .u64))) ((2 : Int) ^ min (8 : Nat) (IntKind.bits .u64))) < (↑(ByteArray.size tab8) : Int)) ∧
 (Ob (True) ∧
 (Ob (True) ∧
 (Ob (IntKind.wrap .i64 (IntKind.wrap .i64 (IntKind.wrap .i64 ((32 : Int) + (16 : Int)) + (8 : Int)) + IntKind.wrap .i64 (↑(UInt8.toNat (Array.getD (ByteArray.data tab8) (Int.toNat (IntKind.wrap .u8 (Int.fdiv (Int.fdiv (Int.fdiv x_ ((2 : Int) ^ min (32 : Nat) (IntKind.bits .u64))) ((2 : Int) ^ min (16 : Nat) (IntKind.bits .u64))) ((2 : Int) ^ min (8 : Nat) (IntKind.bits .u64))))) (0 : UInt8))) : Int)) = r) ∧
 True)))))))
   ((Ob (True) ∧
 (Ob ((0 : Int) ≤ IntKind.wrap .u8 (Int.fdiv (Int.fdiv x_ ((2 : Int) ^ min (32 : Nat) (IntKind.bits .u64))) ((2 : Int) ^ min (16 : Nat) (IntKind.bits .u64))) ∧ IntKind.wrap .u8 (Int.fdiv (Int.fdiv x_ ((2 : Int) ^ min (32 : Nat) (IntKind.bits .u64))) ((2 : Int) ^ min (16 : Nat) (IntKind.bits .u64))) < (↑(ByteArray.size tab8) : Int)) ∧
 (Ob (True) ∧
 (Ob (True) ∧
 (Ob (IntKind.wrap .i64 (IntKind.wrap .i64 ((32 : Int) + (16 : Int)) + IntKind.wrap .i64 (↑(UInt8.toNat (Array.getD (ByteArray.data tab8) (Int.toNat (IntKind.wrap .u8 (Int.fdiv (Int.fdiv x_ ((2 : Int) ^ min (32 : Nat) (IntKind.bits .u64))) ((2 : Int) ^ min (16 : Nat) (IntKind.bits .u64))))) (0 : UInt8))) : Int)) = r) ∧
 True))))))))
 (Br (decide (Int.fdiv x_ ((2 : Int) ^ min (32 : Nat) (IntKind.bits .u64)) ≥ (256 : Int)))
   ((Ob ((0 : Int) ≤ (8 : Int)) ∧
 (Ob (True) ∧
 (Ob ((0 : Int) ≤ IntKind.wrap .u8 (Int.fdiv (Int.fdiv x_ ((2 : Int) ^ min (32 : Nat) (IntKind.bits .u64))) ((2 : Int) ^ min (8 : Nat) (IntKind.bits .u64))) ∧ IntKind.wrap .u8 (Int.fdiv (Int.fdiv x_ ((2 : Int) ^ min (32 : Nat) (IntKind.bits .u64))) ((2 : Int) ^ min (8 : Nat) (IntKind.bits .u64))) < (↑(ByteArray.size tab8) : Int)) ∧
 (Ob (True) ∧
 (Ob (True) ∧
 (Ob (IntKind.wrap .i64 (IntKind.wrap .i64 ((32 : Int) + (8 : Int)) + IntKind.wrap .i64 (↑(UInt8.toNat (Array.getD (ByteArray.data tab8) (Int.toNat (IntKind.wrap .u8 (Int.fdiv (Int.fdiv x_ ((2 : Int) ^ min (32 : Nat) (IntKind.bits .u64))) ((2 : Int) ^ min (8 : Nat) (IntKind.bits .u64))))) (0 : UInt8))) : Int)) = r) ∧
 True)))))))
   ((Ob (True) ∧
 (Ob ((0 : Int) ≤ IntKind.wrap .u8 (Int.fdiv x_ ((2 : Int) ^ min (32 : Nat) (IntKind.bits .u64))) ∧ IntKind.wrap .u8 (Int.fdiv x_ ((2 : Int) ^ min (32 : Nat) (IntKind.bits .u64))) < (↑(ByteArray.size tab8) : Int)) ∧
 (Ob (True) ∧
 (Ob (True) ∧
 (Ob (IntKind.wrap .i64 ((32 : Int) + IntKind.wrap .i64 (↑(UInt8.toNat (Array.getD (ByteArray.data tab8) (Int.toNat (IntKind.wrap .u8 (Int.fdiv x_ ((2 : Int) ^ min (32 : Nat) (IntKind.bits .u64))))) (0 : UInt8))) : Int)) = r) ∧
 True)))))))))
 (Br (decide (x_ ≥ (65536 : Int)))
   ((Ob ((0 : Int) ≤ (16 : Int)) ∧
 Br (decide (Int.fdiv x_ ((2 : Int) ^ min (16 : Nat) (IntKind.bits .u64)) ≥ (256 : Int)))
   ((Ob ((0 : Int) ≤ (8 : Int)) ∧
 (Ob (True) ∧
 (Ob ((0 : Int) ≤ IntKind.wrap .u8 (Int.fdiv (Int.fdiv x_ ((2 : Int) ^ min (16 : Nat) (IntKind.bits .u64))) ((2 : Int) ^ min (8 : Nat) (IntKind.bits .u64))) ∧ IntKind.wrap .u8 (Int.fdiv (Int.fdiv x_ ((2 : Int) ^ min (16 : Nat) (IntKind.bits .u64))) ((2 : Int) ^ min (8 : Nat) (IntKind.bits .u64))) < (↑(ByteArray.size tab8) : Int)) ∧
 (Ob (True) ∧
 (Ob (True) ∧
 (Ob (IntKind.wrap .i64 (IntKind.wrap .i64 (IntKind.wrap .i64 ((0 : Int) + (16 : Int)) + (8 : Int)) + IntKind.wrap .i64 (↑(UInt8.toNat (Array.getD (ByteArray.data tab8) (Int.toNat (IntKind.wrap .u8 (Int.fdiv (Int.fdiv x_ ((2 : Int) ^ min (16 : Nat) (IntKind.bits .u64))) ((2 : Int) ^ min (8 : Nat) (IntKind.bits .u64))))) (0 : UInt8))) : Int)) = r) ∧
 True)))))))
   ((Ob (True) ∧
 (Ob ((0 : Int) ≤ IntKind.wrap .u8 (Int.fdiv x_ ((2 : Int) ^ min (16 : Nat) (IntKind.bits .u64))) ∧ IntKind.wrap .u8 (Int.fdiv x_ ((2 : Int) ^ min (16 : Nat) (IntKind.bits .u64))) < (↑(ByteArray.size tab8) : Int)) ∧
 (Ob (True) ∧
 (Ob (True) ∧
 (Ob (IntKind.wrap .i64 (IntKind.wrap .i64 ((0 : Int) + (16 : Int)) + IntKind.wrap .i64 (↑(UInt8.toNat (Array.getD (ByteArray.data tab8) (Int.toNat (IntKind.wrap .u8 (Int.fdiv x_ ((2 : Int) ^ min (16 : Nat) (IntKind.bits .u64))))) (0 : UInt8))) : Int)) = r) ∧
 True))))))))
 (Br (decide (x_ ≥ (256 : Int)))
   ((Ob ((0 : Int) ≤ (8 : Int)) ∧
 (Ob (True) ∧
 (Ob ((0 : Int) ≤ IntKind.wrap .u8 (Int.fdiv x_ ((2 : Int) ^ min (8 : Nat) (IntKind.bits .u64))) ∧ IntKind.wrap .u8 (Int.fdiv x_ ((2 : Int) ^ min (8 : Nat) (IntKind.bits .u64))) < (↑(ByteArray.size tab8) : Int)) ∧
 (Ob (True) ∧
 (Ob (True) ∧
 (Ob (IntKind.wrap .i64 (IntKind.wrap .i64 ((0 : Int) + (8 : Int)) + IntKind.wrap .i64 (↑(UInt8.toNat (Array.getD (ByteArray.data tab8) (Int.toNat (IntKind.wrap .u8 (Int.fdiv x_ ((2 : Int) ^ min (8 : Nat) (IntKind.bits .u64))))) (0 : UInt8))) : Int)) = r) ∧
 True)))))))
   ((Ob (True) ∧
 (Ob ((0 : Int) ≤ IntKind.wrap .u8 x_ ∧ IntKind.wrap .u8 x_ < (↑(ByteArray.size tab8) : Int)) ∧
 (Ob (True) ∧
 (Ob (True) ∧
 (Ob (IntKind.wrap .i64 ((0 : Int) + IntKind.wrap .i64 (↑(UInt8.toNat (Array.getD (ByteArray.data tab8) (Int.toNat (IntKind.wrap .u8 x_)) (0 : UInt8))) : Int)) = r) ∧
 True))))))))) = _) ?_
  refine br_d h (fun h => ?_) (fun h => ?_)
  · refine ob_c (p := (0 : Int) ≤ (32 : Int)) (by decide) ?_
    refine br_d h (fun h => ?_) (fun h => ?_)
    · refine ob_c (p := (0 : Int) ≤ (16 : Int)) (by decide) ?_
      refine br_d h (fun h => ?_) (fun h => ?_)
      · refine ob_c (p := (0 : Int) ≤ (8 : Int)) (by decide) ?_
        refine ob_t ?_
        refine ob_s h fun h => ?_
        refine ob_t ?_
        refine ob_t ?_
        exact ret_s h (fun e => by subst e; exact (by repeat' (first | exact trivial | exact ⟨rfl⟩ | refine And.intro ?_ ?_)))
      · refine ob_t ?_
        refine ob_s h fun h => ?_
        refine ob_t ?_
        refine ob_t ?_
        exact ret_s h (fun e => by subst e; exact (by repeat' (first | exact trivial | exact ⟨rfl⟩ | refine And.intro ?_ ?_)))
    · refine br_d h (fun h => ?_) (fun h => ?_)
      · refine ob_c (p := (0 : Int) ≤ (8 : Int)) (by decide) ?_
        refine ob_t ?_
        refine ob_s h fun h => ?_
        refine ob_t ?_
        refine ob_t ?_
        exact ret_s h (fun e => by subst e; exact (by repeat' (first | exact trivial | exact ⟨rfl⟩ | refine And.intro ?_ ?_)))
      · refine ob_t ?_
        refine ob_s h fun h => ?_
        refine ob_t ?_
        refine ob_t ?_
        exact ret_s h (fun e => by subst e; exact (by repeat' (first | exact trivial | exact ⟨rfl⟩ | refine And.intro ?_ ?_)))
  · refine br_d h (fun h => ?_) (fun h => ?_)
    · refine ob_c (p := (0 : Int) ≤ (16 : Int)) (by decide) ?_
      refine br_d h (fun h => ?_) (fun h => ?_)
      · refine ob_c (p := (0 : Int) ≤ (8 : Int)) (by decide) ?_
        refine ob_t ?_
        refine ob_s h fun h => ?_
        refine ob_t ?_
        refine ob_t ?_
        exact ret_s h (fun e => by subst e; exact (by repeat' (first | exact trivial | exact ⟨rfl⟩ | refine And.intro ?_ ?_)))
      · refine ob_t ?_
        refine ob_s h fun h => ?_
        refine ob_t ?_
        refine ob_t ?_
        exact ret_s h (fun e => by subst e; exact (by repeat' (first | exact trivial | exact ⟨rfl⟩ | refine And.intro ?_ ?_)))
    · refine br_d h (fun h => ?_) (fun h => ?_)
      · refine ob_c (p := (0 : Int) ≤ (8 : Int)) (by decide) ?_
        refine ob_t ?_
        refine ob_s h fun h => ?_
        refine ob_t ?_
        refine ob_t ?_
        exact ret_s h (fun e => by subst e; exact (by repeat' (first | exact trivial | exact ⟨rfl⟩ | refine And.intro ?_ ?_)))
      · refine ob_t ?_
        refine ob_s h fun h => ?_
        refine ob_t ?_
        refine ob_t ?_
        exact ret_s h (fun e => by subst e; exact (by repeat' (first | exact trivial | exact ⟨rfl⟩ | refine And.intro ?_ ?_)))
set_option maxRecDepth 100000 in
theorem math_bits_Len64_ok : SpecOK Tryd.prog 104 true (pureK k_math_bits_Len64 y109) := by
  refine pureK_ok (sp := sp0) (fn := Tryd.f104) (body := bodyOf Tryd.f104) mixed sp0_ok Tryd.func104 (by kernel_rfl) (by kernel_rfl) fun as_ ob rs h ho => ?_
  unfold y109 at h
  split at h
  · rename_i x_
    cases h
    exact ⟨Nat.le_of_ble_eq_true rfl, _, _, math_bits_Len64_vc x_ _ (ok_some ho)⟩
  · cases h
theorem sp_104_ok {sp : Specs} (h : SpecsOK Tryd.prog sp) : SpecsOK Tryd.prog (sp_104 sp) := addK_ok math_bits_Len64_ok h
def y85 : List (Option Cont) := [none]
def y11 (x_ : Int) : Option Int :=
  Option.bind (y64 x_) fun r0 =>
  some (IntKind.wrap .i64 ((64 : Int) - r0))
def y65 : List A → Option (Prop × List RV)
  | [.d (.i .u64 x_)] => some (ok (y11 x_), [.d (.i .i64 ((val (y11 x_))))])
  | _ => none
abbrev sp_99 : Specs → Specs := addK 99 true (pureK y85 y65)
set_option maxRecDepth 100000 in
theorem y145 (x_ : Int) (r : Int) (h : Option.bind (y11 x_) some = some r) : runF Tryd.f99 ((sp_104 sp0)) (fun _ _ _ => none) [.d (.i .u64 x_)] [.d (.i .i64 r)] := by
  refine Eq.mp (by kernel_rfl : (
 (Ob (ok (y64 x_)) ∧
 (Ob (True) ∧
 (Ob (IntKind.wrap .i64 ((64 : Int) - val (y64 x_)) = r) ∧
 True)))) = _) ?_
  refine call_s h fun h => ?_
  refine ob_t ?_
  exact ret_s h (fun e => by subst e; exact (by repeat' (first | exact trivial | exact ⟨rfl⟩ | refine And.intro ?_ ?_)))
set_option maxRecDepth 100000 in
theorem y146 : SpecOK Tryd.prog 99 true (pureK y85 y65) := by
  refine pureK_ok (sp := (sp_104 sp0)) (fn := Tryd.f99) (body := bodyOf Tryd.f99) mixed (sp_104_ok sp0_ok) Tryd.func99 (by kernel_rfl) (by kernel_rfl) fun as_ ob rs h ho => ?_
  unfold y65 at h
  split at h
  · rename_i x_
    cases h
    exact ⟨Nat.le_of_ble_eq_true rfl, _, _, y145 x_ _ (ok_some ho)⟩
  · cases h
theorem sp_99_ok {sp : Specs} (h : SpecsOK Tryd.prog sp) : SpecsOK Tryd.prog (sp_99 sp) := addK_ok y146 h
def k_math_bits_Div64 : List (Option Cont) := [none, none, none]
def y47 (lo : Int) (y_ : Int) (r0 : Int) (x0 : (Int × Int)) : Option ((Int × Int) ⊕ Int) :=
  if x0.1 ≥ (4294967296 : Int) then
   if IntKind.wrap .u64 (x0.2 + Int.fdiv (IntKind.wrap .u64 (y_ * (2 : Int) ^ min (Int.toNat (IntKind.wrap .u64 r0)) (IntKind.bits .u64))) ((2 : Int) ^ min (32 : Nat) (IntKind.bits .u64))) ≥ (4294967296 : Int) then
    some (.inr (IntKind.wrap .u64 (x0.1 - (1 : Int))))
   else
    some (.inl ((IntKind.wrap .u64 (x0.1 - (1 : Int)), IntKind.wrap .u64 (x0.2 + Int.fdiv (IntKind.wrap .u64 (y_ * (2 : Int) ^ min (Int.toNat (IntKind.wrap .u64 r0)) (IntKind.bits .u64))) ((2 : Int) ^ min (32 : Nat) (IntKind.bits .u64))))))
  else
   if IntKind.wrap .u64 (x0.1 * IntKind.wrap .u64 (↑(BitVec.toNat (BitVec.ofInt (IntKind.bits .u64) (IntKind.wrap .u64 (y_ * (2 : Int) ^ min (Int.toNat (IntKind.wrap .u64 r0)) (IntKind.bits .u64))) &&& BitVec.ofInt (IntKind.bits .u64) (4294967295 : Int))) : Int)) > IntKind.wrap .u64 (IntKind.wrap .u64 ((4294967296 : Int) * x0.2) + Int.fdiv (IntKind.wrap .u64 (lo * (2 : Int) ^ min (Int.toNat (IntKind.wrap .u64 r0)) (IntKind.bits .u64))) ((2 : Int) ^ min (32 : Nat) (IntKind.bits .u64))) then
    if IntKind.wrap .u64 (x0.2 + Int.fdiv (IntKind.wrap .u64 (y_ * (2 : Int) ^ min (Int.toNat (IntKind.wrap .u64 r0)) (IntKind.bits .u64))) ((2 : Int) ^ min (32 : Nat) (IntKind.bits .u64))) ≥ (4294967296 : Int) then
     some (.inr (IntKind.wrap .u64 (x0.1 - (1 : Int))))
    else
     some (.inl ((IntKind.wrap .u64 (x0.1 - (1 : Int)), IntKind.wrap .u64 (x0.2 + Int.fdiv (IntKind.wrap .u64 (y_ * (2 : Int) ^ min (Int.toNat (IntKind.wrap .u64 r0)) (IntKind.bits .u64))) ((2 : Int) ^ min (32 : Nat) (IntKind.bits .u64))))))
   else
    some (.inr x0.1)
def y13 (lo : Int) (y_ : Int) (r0 : Int) (x1 : (Int × Int)) : Option ((Int × Int) ⊕ Int) :=
  if x1.2 ≥ (4294967296 : Int) then
   if IntKind.wrap .u64 (x1.1 + Int.fdiv (IntKind.wrap .u64 (y_ * (2 : Int) ^ min (Int.toNat (IntKind.wrap .u64 r0)) (IntKind.bits .u64))) ((2 : Int) ^ min (32 : Nat) (IntKind.bits .u64))) ≥ (4294967296 : Int) then
    some (.inr (IntKind.wrap .u64 (x1.2 - (1 : Int))))
   else
    some (.inl ((IntKind.wrap .u64 (x1.1 + Int.fdiv (IntKind.wrap .u64 (y_ * (2 : Int) ^ min (Int.toNat (IntKind.wrap .u64 r0)) (IntKind.bits .u64))) ((2 : Int) ^ min (32 : Nat) (IntKind.bits .u64))), IntKind.wrap .u64 (x1.2 - (1 : Int)))))
  else
   if IntKind.wrap .u64 (x1.2 * IntKind.wrap .u64 (↑(BitVec.toNat (BitVec.ofInt (IntKind.bits .u64) (IntKind.wrap .u64 (y_ * (2 : Int) ^ min (Int.toNat (IntKind.wrap .u64 r0)) (IntKind.bits .u64))) &&& BitVec.ofInt (IntKind.bits .u64) (4294967295 : Int))) : Int)) > IntKind.wrap .u64 (IntKind.wrap .u64 ((4294967296 : Int) * x1.1) + IntKind.wrap .u64 (↑(BitVec.toNat (BitVec.ofInt (IntKind.bits .u64) (IntKind.wrap .u64 (lo * (2 : Int) ^ min (Int.toNat (IntKind.wrap .u64 r0)) (IntKind.bits .u64))) &&& BitVec.ofInt (IntKind.bits .u64) (4294967295 : Int))) : Int)) then
    if IntKind.wrap .u64 (x1.1 + Int.fdiv (IntKind.wrap .u64 (y_ * (2 : Int) ^ min (Int.toNat (IntKind.wrap .u64 r0)) (IntKind.bits .u64))) ((2 : Int) ^ min (32 : Nat) (IntKind.bits .u64))) ≥ (4294967296 : Int) then
     some (.inr (IntKind.wrap .u64 (x1.2 - (1 : Int))))
    else
     some (.inl ((IntKind.wrap .u64 (x1.1 + Int.fdiv (IntKind.wrap .u64 (y_ * (2 : Int) ^ min (Int.toNat (IntKind.wrap .u64 r0)) (IntKind.bits .u64))) ((2 : Int) ^ min (32 : Nat) (IntKind.bits .u64))), IntKind.wrap .u64 (x1.2 - (1 : Int)))))
   else
    some (.inr x1.2)
def y14 (hi : Int) (lo : Int) (y_ : Int) (u21 : Int) (r0 : Int) (u44 : Int) : Option (Int × Int) :=
  if (0 : Int) ≤ IntKind.wrap .u64 r0 then
   some ((IntKind.wrap .u64 (IntKind.wrap .u64 (u21 * (4294967296 : Int)) + u44), Int.fdiv (IntKind.wrap .u64 (IntKind.wrap .u64 (IntKind.wrap .u64 (IntKind.wrap .u64 (IntKind.wrap .u64 (IntKind.wrap .u64 (IntKind.wrap .u64 (↑(BitVec.toNat (BitVec.ofInt (IntKind.bits .u64) (IntKind.wrap .u64 (hi * (2 : Int) ^ min (Int.toNat (IntKind.wrap .u64 r0)) (IntKind.bits .u64))) ||| BitVec.ofInt (IntKind.bits .u64) (Int.fdiv lo ((2 : Int) ^ min (Int.toNat (IntKind.wrap .u64 ((64 : Int) - IntKind.wrap .u64 r0))) (IntKind.bits .u64))))) : Int) * (4294967296 : Int)) + Int.fdiv (IntKind.wrap .u64 (lo * (2 : Int) ^ min (Int.toNat (IntKind.wrap .u64 r0)) (IntKind.bits .u64))) ((2 : Int) ^ min (32 : Nat) (IntKind.bits .u64))) - IntKind.wrap .u64 (u21 * IntKind.wrap .u64 (y_ * (2 : Int) ^ min (Int.toNat (IntKind.wrap .u64 r0)) (IntKind.bits .u64)))) * (4294967296 : Int)) + IntKind.wrap .u64 (↑(BitVec.toNat (BitVec.ofInt (IntKind.bits .u64) (IntKind.wrap .u64 (lo * (2 : Int) ^ min (Int.toNat (IntKind.wrap .u64 r0)) (IntKind.bits .u64))) &&& BitVec.ofInt (IntKind.bits .u64) (4294967295 : Int))) : Int)) - IntKind.wrap .u64 (u44 * IntKind.wrap .u64 (y_ * (2 : Int) ^ min (Int.toNat (IntKind.wrap .u64 r0)) (IntKind.bits .u64))))) ((2 : Int) ^ min (Int.toNat (IntKind.wrap .u64 r0)) (IntKind.bits .u64))))
  else none
def y48 (hi : Int) (lo : Int) (y_ : Int) (r0 : Int) (u21 : Int) : Option (Int × Int) :=
  if Int.fdiv (IntKind.wrap .u64 (y_ * (2 : Int) ^ min (Int.toNat (IntKind.wrap .u64 r0)) (IntKind.bits .u64))) ((2 : Int) ^ min (32 : Nat) (IntKind.bits .u64)) ≠ (0 : Int) then
   Option.bind (iter (y13 lo y_ r0) big ((IntKind.wrap .u64 (IntKind.wrap .u64 (IntKind.wrap .u64 (IntKind.wrap .u64 (IntKind.wrap .u64 (↑(BitVec.toNat (BitVec.ofInt (IntKind.bits .u64) (IntKind.wrap .u64 (hi * (2 : Int) ^ min (Int.toNat (IntKind.wrap .u64 r0)) (IntKind.bits .u64))) ||| BitVec.ofInt (IntKind.bits .u64) (Int.fdiv lo ((2 : Int) ^ min (Int.toNat (IntKind.wrap .u64 ((64 : Int) - IntKind.wrap .u64 r0))) (IntKind.bits .u64))))) : Int) * (4294967296 : Int)) + Int.fdiv (IntKind.wrap .u64 (lo * (2 : Int) ^ min (Int.toNat (IntKind.wrap .u64 r0)) (IntKind.bits .u64))) ((2 : Int) ^ min (32 : Nat) (IntKind.bits .u64))) - IntKind.wrap .u64 (u21 * IntKind.wrap .u64 (y_ * (2 : Int) ^ min (Int.toNat (IntKind.wrap .u64 r0)) (IntKind.bits .u64)))) - IntKind.wrap .u64 (IntKind.wrap .u64 (Int.tdiv (IntKind.wrap .u64 (IntKind.wrap .u64 (IntKind.wrap .u64 (IntKind.wrap .u64 (↑(BitVec.toNat (BitVec.ofInt (IntKind.bits .u64) (IntKind.wrap .u64 (hi * (2 : Int) ^ min (Int.toNat (IntKind.wrap .u64 r0)) (IntKind.bits .u64))) ||| BitVec.ofInt (IntKind.bits .u64) (Int.fdiv lo ((2 : Int) ^ min (Int.toNat (IntKind.wrap .u64 ((64 : Int) - IntKind.wrap .u64 r0))) (IntKind.bits .u64))))) : Int) * (4294967296 : Int)) + Int.fdiv (IntKind.wrap .u64 (lo * (2 : Int) ^ min (Int.toNat (IntKind.wrap .u64 r0)) (IntKind.bits .u64))) ((2 : Int) ^ min (32 : Nat) (IntKind.bits .u64))) - IntKind.wrap .u64 (u21 * IntKind.wrap .u64 (y_ * (2 : Int) ^ min (Int.toNat (IntKind.wrap .u64 r0)) (IntKind.bits .u64))))) (Int.fdiv (IntKind.wrap .u64 (y_ * (2 : Int) ^ min (Int.toNat (IntKind.wrap .u64 r0)) (IntKind.bits .u64))) ((2 : Int) ^ min (32 : Nat) (IntKind.bits .u64)))) * Int.fdiv (IntKind.wrap .u64 (y_ * (2 : Int) ^ min (Int.toNat (IntKind.wrap .u64 r0)) (IntKind.bits .u64))) ((2 : Int) ^ min (32 : Nat) (IntKind.bits .u64)))), IntKind.wrap .u64 (Int.tdiv (IntKind.wrap .u64 (IntKind.wrap .u64 (IntKind.wrap .u64 (IntKind.wrap .u64 (↑(BitVec.toNat (BitVec.ofInt (IntKind.bits .u64) (IntKind.wrap .u64 (hi * (2 : Int) ^ min (Int.toNat (IntKind.wrap .u64 r0)) (IntKind.bits .u64))) ||| BitVec.ofInt (IntKind.bits .u64) (Int.fdiv lo ((2 : Int) ^ min (Int.toNat (IntKind.wrap .u64 ((64 : Int) - IntKind.wrap .u64 r0))) (IntKind.bits .u64))))) : Int) * (4294967296 : Int)) + Int.fdiv (IntKind.wrap .u64 (lo * (2 : Int) ^ min (Int.toNat (IntKind.wrap .u64 r0)) (IntKind.bits .u64))) ((2 : Int) ^ min (32 : Nat) (IntKind.bits .u64))) - IntKind.wrap .u64 (u21 * IntKind.wrap .u64 (y_ * (2 : Int) ^ min (Int.toNat (IntKind.wrap .u64 r0)) (IntKind.bits .u64))))) (Int.fdiv (IntKind.wrap .u64 (y_ * (2 : Int) ^ min (Int.toNat (IntKind.wrap .u64 r0)) (IntKind.bits .u64))) ((2 : Int) ^ min (32 : Nat) (IntKind.bits .u64))))))) (y14 hi lo y_ u21 r0)
  else none
def y44 (hi : Int) (lo : Int) (y_ : Int) : Option (Int × Int) :=
  if (y_ == (0 : Int)) = true then
   none   else
   if y_ ≤ hi then
    none    else
    if (hi == (0 : Int)) = true then
     if y_ ≠ (0 : Int) then
      if y_ ≠ (0 : Int) then
       some ((IntKind.wrap .u64 (Int.tdiv lo y_), Int.tmod lo y_))
      else none
     else none
    else
     Option.bind (y11 y_) fun r0 =>
     if (0 : Int) ≤ IntKind.wrap .u64 r0 then
      if (0 : Int) ≤ IntKind.wrap .u64 r0 then
       if (0 : Int) ≤ IntKind.wrap .u64 ((64 : Int) - IntKind.wrap .u64 r0) then
        if (0 : Int) ≤ IntKind.wrap .u64 r0 then
         if Int.fdiv (IntKind.wrap .u64 (y_ * (2 : Int) ^ min (Int.toNat (IntKind.wrap .u64 r0)) (IntKind.bits .u64))) ((2 : Int) ^ min (32 : Nat) (IntKind.bits .u64)) ≠ (0 : Int) then
          Option.bind (iter (y47 lo y_ r0) big ((IntKind.wrap .u64 (Int.tdiv (IntKind.wrap .u64 (↑(BitVec.toNat (BitVec.ofInt (IntKind.bits .u64) (IntKind.wrap .u64 (hi * (2 : Int) ^ min (Int.toNat (IntKind.wrap .u64 r0)) (IntKind.bits .u64))) ||| BitVec.ofInt (IntKind.bits .u64) (Int.fdiv lo ((2 : Int) ^ min (Int.toNat (IntKind.wrap .u64 ((64 : Int) - IntKind.wrap .u64 r0))) (IntKind.bits .u64))))) : Int)) (Int.fdiv (IntKind.wrap .u64 (y_ * (2 : Int) ^ min (Int.toNat (IntKind.wrap .u64 r0)) (IntKind.bits .u64))) ((2 : Int) ^ min (32 : Nat) (IntKind.bits .u64)))), IntKind.wrap .u64 (IntKind.wrap .u64 (↑(BitVec.toNat (BitVec.ofInt (IntKind.bits .u64) (IntKind.wrap .u64 (hi * (2 : Int) ^ min (Int.toNat (IntKind.wrap .u64 r0)) (IntKind.bits .u64))) ||| BitVec.ofInt (IntKind.bits .u64) (Int.fdiv lo ((2 : Int) ^ min (Int.toNat (IntKind.wrap .u64 ((64 : Int) - IntKind.wrap .u64 r0))) (IntKind.bits .u64))))) : Int) - IntKind.wrap .u64 (IntKind.wrap .u64 (Int.tdiv (IntKind.wrap .u64 (↑(BitVec.toNat (BitVec.ofInt (IntKind.bits .u64) (IntKind.wrap .u64 (hi * (2 : Int) ^ min (Int.toNat (IntKind.wrap .u64 r0)) (IntKind.bits .u64))) ||| BitVec.ofInt (IntKind.bits .u64) (Int.fdiv lo ((2 : Int) ^ min (Int.toNat (IntKind.wrap .u64 ((64 : Int) - IntKind.wrap .u64 r0))) (IntKind.bits .u64))))) : Int)) (Int.fdiv (IntKind.wrap .u64 (y_ * (2 : Int) ^ min (Int.toNat (IntKind.wrap .u64 r0)) (IntKind.bits .u64))) ((2 : Int) ^ min (32 : Nat) (IntKind.bits .u64)))) * Int.fdiv (IntKind.wrap .u64 (y_ * (2 : Int) ^ min (Int.toNat (IntKind.wrap .u64 r0)) (IntKind.bits .u64))) ((2 : Int) ^ min (32 : Nat) (IntKind.bits .u64))))))) (y48 hi lo y_ r0)
         else none
        else none
       else none
      else none
     else none
def y110 : List A → Option (Prop × List RV)
  | [.d (.i .u64 hi), .d (.i .u64 lo), .d (.i .u64 y_)] => some (ok (y44 hi lo y_), [.d (.i .u64 ((val (y44 hi lo y_)).1)), .d (.i .u64 ((val (y44 hi lo y_)).2))])
  | _ => none
abbrev sp_89 : Specs → Specs := addK 89 true (pureK k_math_bits_Div64 y110)
set_option maxRecDepth 100000 in
private abbrev e0 (hi : Int) (lo : Int) (y_ : Int) : Int := IntKind.wrap .u64 (IntKind.wrap .u64 (↑(BitVec.toNat (BitVec.ofInt (IntKind.bits .u64) (IntKind.wrap .u64 (hi * (2 : Int) ^ min (Int.toNat (IntKind.wrap .u64 (val (y11 y_)))) (IntKind.bits .u64))) ||| BitVec.ofInt (IntKind.bits .u64) (Int.fdiv lo ((2 : Int) ^ min (Int.toNat (IntKind.wrap .u64 ((64 : Int) - IntKind.wrap .u64 (val (y11 y_))))) (IntKind.bits .u64))))) : Int) * (4294967296 : Int)) + Int.fdiv (IntKind.wrap .u64 (lo * (2 : Int) ^ min (Int.toNat (IntKind.wrap .u64 (val (y11 y_)))) (IntKind.bits .u64))) ((2 : Int) ^ min (32 : Nat) (IntKind.bits .u64))
private abbrev e1 (y_ : Int) : Int := IntKind.wrap .u64 (y_ * (2 : Int) ^ min (Int.toNat (IntKind.wrap .u64 (val (y11 y_)))) (IntKind.bits .u64))
private abbrev e2 (y_ : Int) : Int := IntKind.wrap .u64 (val (y11 y_))
private abbrev e3  : Int := (2 : Int) ^ min (32 : Nat) (IntKind.bits .u64)
private abbrev e4 (lo : Int) (y_ : Int) : Int := IntKind.wrap .u64 (lo * (2 : Int) ^ min (Int.toNat (e2 y_)) (IntKind.bits .u64))
private abbrev e5 (y_ : Int) : Int := val (y11 y_)
private abbrev e6 (lo : Int) (y_ : Int) : Int := Int.fdiv lo ((2 : Int) ^ min (Int.toNat (IntKind.wrap .u64 ((64 : Int) - IntKind.wrap .u64 (e5 y_)))) (IntKind.bits .u64))
private abbrev e7 (hi : Int) (y_ : Int) : Int := IntKind.wrap .u64 (hi * (2 : Int) ^ min (Int.toNat (e2 y_)) (IntKind.bits .u64))
private abbrev e8 (hi : Int) (lo : Int) (y_ : Int) : Int := IntKind.wrap .u64 (↑(BitVec.toNat (BitVec.ofInt (IntKind.bits .u64) (e7 hi y_) ||| BitVec.ofInt (IntKind.bits .u64) (e6 lo y_))) : Int)
private abbrev e9 (y_ : Int) : Int := (2 : Int) ^ min (Int.toNat (e2 y_)) (IntKind.bits .u64)
theorem math_bits_Div64_vc (hi : Int) (lo : Int) (y_ : Int) (r : Int × Int) (h : Option.bind (y44 hi lo y_) some = some r) : runF Tryd.f89 ((sp_99 sp0)) (fun gs id _ => match id with
 | 0 => some ⟨(Int × Int) × Nat, fun z => ⟨[(2, .w (.c (.d (.i .u64 (e1 y_))))), (8, .w (.c (.d (.i .u64 (e2 y_))))), (9, .w (.c (.d (.i .u64 (Int.fdiv (e1 y_) (e3 )))))), (10, .w (.c (.d (.i .u64 (IntKind.wrap .u64 (↑(BitVec.toNat (BitVec.ofInt (IntKind.bits .u64) (e1 y_) &&& BitVec.ofInt (IntKind.bits .u64) (4294967295 : Int))) : Int)))))), (11, .w (.c (.d (.i .u64 (e8 hi lo y_))))), (13, .w (.c (.d (.i .u64 (Int.fdiv (e4 lo y_) (e3 )))))), (14, .w (.c (.d (.i .u64 (IntKind.wrap .u64 (↑(BitVec.toNat (BitVec.ofInt (IntKind.bits .u64) (e4 lo y_) &&& BitVec.ofInt (IntKind.bits .u64) (4294967295 : Int))) : Int)))))), (15, .w (.c (.d (.i .u64 (Prod.fst (Prod.fst z)))))), (16, .w (.c (.d (.i .u64 (Prod.snd (Prod.fst z))))))], [], 3⟩, fun z => Option.bind (iter (y47 lo y_ (e5 y_)) (Prod.snd z) (Prod.fst z)) (fun y0 => Option.bind (y48 hi lo y_ (e5 y_) y0) some) = some r, fun z => Prod.snd z⟩
 | 2 => some ⟨Int × (Int × Int) × Nat, fun z => ⟨[(2, .w (.c (.d (.i .u64 (e1 y_))))), (8, .w (.c (.d (.i .u64 (e2 y_))))), (9, .w (.c (.d (.i .u64 (Int.fdiv (e1 y_) (e3 )))))), (10, .w (.c (.d (.i .u64 (IntKind.wrap .u64 (↑(BitVec.toNat (BitVec.ofInt (IntKind.bits .u64) (e1 y_) &&& BitVec.ofInt (IntKind.bits .u64) (4294967295 : Int))) : Int)))))), (14, .w (.c (.d (.i .u64 (IntKind.wrap .u64 (↑(BitVec.toNat (BitVec.ofInt (IntKind.bits .u64) (e4 lo y_) &&& BitVec.ofInt (IntKind.bits .u64) (4294967295 : Int))) : Int)))))), (15, .w (.c (.d (.i .u64 (Prod.fst z))))), (16, .w (.c (.d (.i .u64 (Prod.fst (Prod.fst (Prod.snd z))))))), (17, .w (.c (.d (.i .u64 (IntKind.wrap .u64 (IntKind.wrap .u64 (e0 hi lo y_) - IntKind.wrap .u64 (Prod.fst z * IntKind.wrap .u64 (y_ * (2 : Int) ^ min (Int.toNat (e2 y_)) (IntKind.bits .u64))))))))), (18, .w (.c (.d (.i .u64 (Prod.snd (Prod.fst (Prod.snd z)))))))], [], 3⟩, fun z => Option.bind (iter (y13 lo y_ (e5 y_)) (Prod.snd (Prod.snd z)) (Prod.fst (Prod.snd z))) (fun y0 => Option.bind (y14 hi lo y_ (Prod.fst z) (e5 y_) y0) some) = some r, fun z => Prod.snd (Prod.snd z)⟩
 | _ => none) [.d (.i .u64 hi), .d (.i .u64 lo), .d (.i .u64 y_)] [.d (.i .u64 r.1), .d (.i .u64 r.2)] := by
  refine Eq.mp (by kernel_rfl : (
 Br (y_ == (0 : Int))
   (False)
 (Br (decide (y_ ≤ hi))
   (False)
 (Br (hi == (0 : Int))
   ((Ob (y_ ≠ (0 : Int)) ∧
 (Ob (y_ ≠ (0 : Int)) ∧
 (Ob (True) ∧
 (Ob (True) ∧
 (Ob (IntKind.wrap .u64 (Int.tdiv lo y_) = r.1) ∧
 (Ob (Int.tmod lo y_ = r.2) ∧
 True)))))))
   ((Ob (ok (y11 y_)) ∧
 (Ob (True) ∧
 (Ob ((0 : Int) ≤ IntKind.wrap .u64 (e5 y_)) ∧
 (Ob ((0 : Int) ≤ (32 : Int)) ∧
 (Ob ((0 : Int) ≤ IntKind.wrap .u64 (e5 y_)) ∧
 (Ob ((0 : Int) ≤ IntKind.wrap .u64 ((64 : Int) - IntKind.wrap .u64 (e5 y_))) ∧
 (Ob ((0 : Int) ≤ IntKind.wrap .u64 (e5 y_)) ∧
 (Ob ((0 : Int) ≤ (32 : Int)) ∧
 (Ob (Int.fdiv (e1 y_) (e3 ) ≠ (0 : Int)) ∧
   ((∃ (v0 : (Int × Int) × Nat), (Ob ((Option.bind (iter (y47 lo y_ (e5 y_)) v0.2 v0.1) fun y0 => Option.bind (y48 hi lo y_ (e5 y_) y0) some) = some r) ∧
 (Ob (IntKind.wrap .u64 (y_ * (2 : Int) ^ min (Int.toNat (e2 y_)) (IntKind.bits .u64)) = IntKind.wrap .u64 (y_ * (2 : Int) ^ min (Int.toNat (e2 y_)) (IntKind.bits .u64))) ∧
 (Ob (IntKind.wrap .u64 (e5 y_) = IntKind.wrap .u64 (e5 y_)) ∧
 (Ob (Int.fdiv (e1 y_) (e3 ) = Int.fdiv (e1 y_) (e3 )) ∧
 (Ob (IntKind.wrap .u64 (↑(BitVec.toNat (BitVec.ofInt (IntKind.bits .u64) (e1 y_) &&& BitVec.ofInt (IntKind.bits .u64) (4294967295 : Int))) : Int) = IntKind.wrap .u64 (↑(BitVec.toNat (BitVec.ofInt (IntKind.bits .u64) (e1 y_) &&& BitVec.ofInt (IntKind.bits .u64) (4294967295 : Int))) : Int)) ∧
 (Ob (IntKind.wrap .u64 (↑(BitVec.toNat (BitVec.ofInt (IntKind.bits .u64) (e7 hi y_) ||| BitVec.ofInt (IntKind.bits .u64) (e6 lo y_))) : Int) = IntKind.wrap .u64 (↑(BitVec.toNat (BitVec.ofInt (IntKind.bits .u64) (e7 hi y_) ||| BitVec.ofInt (IntKind.bits .u64) (e6 lo y_))) : Int)) ∧
 (Ob (Int.fdiv (e4 lo y_) (e3 ) = Int.fdiv (e4 lo y_) (e3 )) ∧
 (Ob (IntKind.wrap .u64 (↑(BitVec.toNat (BitVec.ofInt (IntKind.bits .u64) (e4 lo y_) &&& BitVec.ofInt (IntKind.bits .u64) (4294967295 : Int))) : Int) = IntKind.wrap .u64 (↑(BitVec.toNat (BitVec.ofInt (IntKind.bits .u64) (e4 lo y_) &&& BitVec.ofInt (IntKind.bits .u64) (4294967295 : Int))) : Int)) ∧
 (Ob (IntKind.wrap .u64 (Int.tdiv (e8 hi lo y_) (Int.fdiv (e1 y_) (e3 ))) = v0.1.1) ∧
 (Ob (IntKind.wrap .u64 (IntKind.wrap .u64 (↑(BitVec.toNat (BitVec.ofInt (IntKind.bits .u64) (e7 hi y_) ||| BitVec.ofInt (IntKind.bits .u64) (e6 lo y_))) : Int) - IntKind.wrap .u64 (IntKind.wrap .u64 (Int.tdiv (e8 hi lo y_) (Int.fdiv (e1 y_) (e3 ))) * Int.fdiv (e1 y_) (e3 ))) = v0.1.2) ∧
 True))))))))))) ∧
   (∀ (v0 : (Int × Int) × Nat), ((Option.bind (iter (y47 lo y_ (e5 y_)) v0.2 v0.1) fun y0 => Option.bind (y48 hi lo y_ (e5 y_) y0) some) = some r →
 Br (decide (v0.1.1 ≥ (4294967296 : Int)))
 (Br (decide (IntKind.wrap .u64 (v0.1.2 + Int.fdiv (e1 y_) (e3 )) ≥ (4294967296 : Int)))
   ((Ob (Int.fdiv (e1 y_) (e3 ) ≠ (0 : Int)) ∧
   ((∃ (v1 : Int × (Int × Int) × Nat), (Ob ((Option.bind (iter (y13 lo y_ (e5 y_)) v1.2.2 v1.2.1) fun y0 => Option.bind (y14 hi lo y_ v1.1 (e5 y_) y0) some) = some r) ∧
 (Ob (IntKind.wrap .u64 (y_ * (2 : Int) ^ min (Int.toNat (e2 y_)) (IntKind.bits .u64)) = IntKind.wrap .u64 (y_ * (2 : Int) ^ min (Int.toNat (e2 y_)) (IntKind.bits .u64))) ∧
 (Ob (IntKind.wrap .u64 (e5 y_) = IntKind.wrap .u64 (e5 y_)) ∧
 (Ob (Int.fdiv (e1 y_) (e3 ) = Int.fdiv (e1 y_) (e3 )) ∧
 (Ob (IntKind.wrap .u64 (↑(BitVec.toNat (BitVec.ofInt (IntKind.bits .u64) (e1 y_) &&& BitVec.ofInt (IntKind.bits .u64) (4294967295 : Int))) : Int) = IntKind.wrap .u64 (↑(BitVec.toNat (BitVec.ofInt (IntKind.bits .u64) (e1 y_) &&& BitVec.ofInt (IntKind.bits .u64) (4294967295 : Int))) : Int)) ∧
 (Ob (IntKind.wrap .u64 (↑(BitVec.toNat (BitVec.ofInt (IntKind.bits .u64) (e4 lo y_) &&& BitVec.ofInt (IntKind.bits .u64) (4294967295 : Int))) : Int) = IntKind.wrap .u64 (↑(BitVec.toNat (BitVec.ofInt (IntKind.bits .u64) (e4 lo y_) &&& BitVec.ofInt (IntKind.bits .u64) (4294967295 : Int))) : Int)) ∧
 (Ob (IntKind.wrap .u64 (v0.1.1 - (1 : Int)) = v1.1) ∧
 (Ob (IntKind.wrap .u64 (IntKind.wrap .u64 (IntKind.wrap .u64 (e0 hi lo y_) - IntKind.wrap .u64 (IntKind.wrap .u64 (v0.1.1 - (1 : Int)) * IntKind.wrap .u64 (y_ * (2 : Int) ^ min (Int.toNat (e2 y_)) (IntKind.bits .u64)))) - IntKind.wrap .u64 (IntKind.wrap .u64 (Int.tdiv (IntKind.wrap .u64 (IntKind.wrap .u64 (e0 hi lo y_) - IntKind.wrap .u64 (IntKind.wrap .u64 (v0.1.1 - (1 : Int)) * IntKind.wrap .u64 (y_ * (2 : Int) ^ min (Int.toNat (e2 y_)) (IntKind.bits .u64))))) (Int.fdiv (e1 y_) (e3 ))) * Int.fdiv (e1 y_) (e3 ))) = v1.2.1.1) ∧
 (Ob (IntKind.wrap .u64 (IntKind.wrap .u64 (e0 hi lo y_) - IntKind.wrap .u64 (IntKind.wrap .u64 (v0.1.1 - (1 : Int)) * IntKind.wrap .u64 (y_ * (2 : Int) ^ min (Int.toNat (e2 y_)) (IntKind.bits .u64)))) = IntKind.wrap .u64 (IntKind.wrap .u64 (e0 hi lo y_) - IntKind.wrap .u64 (v1.1 * IntKind.wrap .u64 (y_ * (2 : Int) ^ min (Int.toNat (e2 y_)) (IntKind.bits .u64))))) ∧
 (Ob (IntKind.wrap .u64 (Int.tdiv (IntKind.wrap .u64 (IntKind.wrap .u64 (e0 hi lo y_) - IntKind.wrap .u64 (IntKind.wrap .u64 (v0.1.1 - (1 : Int)) * IntKind.wrap .u64 (y_ * (2 : Int) ^ min (Int.toNat (e2 y_)) (IntKind.bits .u64))))) (Int.fdiv (e1 y_) (e3 ))) = v1.2.1.2) ∧
 True))))))))))) ∧
   (∀ (v1 : Int × (Int × Int) × Nat), ((Option.bind (iter (y13 lo y_ (e5 y_)) v1.2.2 v1.2.1) fun y0 => Option.bind (y14 hi lo y_ v1.1 (e5 y_) y0) some) = some r →
 Br (decide (v1.2.1.2 ≥ (4294967296 : Int)))
 (Br (decide (IntKind.wrap .u64 (v1.2.1.1 + Int.fdiv (e1 y_) (e3 )) ≥ (4294967296 : Int)))
   ((Ob ((0 : Int) ≤ IntKind.wrap .u64 (e5 y_)) ∧
 (Ob (True) ∧
 (Ob (True) ∧
 (Ob (IntKind.wrap .u64 (IntKind.wrap .u64 (v1.1 * (4294967296 : Int)) + IntKind.wrap .u64 (v1.2.1.2 - (1 : Int))) = r.1) ∧
 (Ob (Int.fdiv (IntKind.wrap .u64 (IntKind.wrap .u64 (IntKind.wrap .u64 (IntKind.wrap .u64 (IntKind.wrap .u64 (e0 hi lo y_) - IntKind.wrap .u64 (v1.1 * IntKind.wrap .u64 (y_ * (2 : Int) ^ min (Int.toNat (e2 y_)) (IntKind.bits .u64)))) * (4294967296 : Int)) + IntKind.wrap .u64 (↑(BitVec.toNat (BitVec.ofInt (IntKind.bits .u64) (e4 lo y_) &&& BitVec.ofInt (IntKind.bits .u64) (4294967295 : Int))) : Int)) - IntKind.wrap .u64 (IntKind.wrap .u64 (v1.2.1.2 - (1 : Int)) * IntKind.wrap .u64 (y_ * (2 : Int) ^ min (Int.toNat (e2 y_)) (IntKind.bits .u64))))) (e9 y_) = r.2) ∧
 True))))))
   ((∃ (v2 : Int × (Int × Int) × Nat), (Ob ((Option.bind (iter (y13 lo y_ (e5 y_)) v2.2.2 v2.2.1) fun y0 => Option.bind (y14 hi lo y_ v2.1 (e5 y_) y0) some) = some r) ∧
 (Ob (v2.2.2 < v1.2.2) ∧
 (Ob (IntKind.wrap .u64 (y_ * (2 : Int) ^ min (Int.toNat (e2 y_)) (IntKind.bits .u64)) = IntKind.wrap .u64 (y_ * (2 : Int) ^ min (Int.toNat (e2 y_)) (IntKind.bits .u64))) ∧
 (Ob (IntKind.wrap .u64 (e5 y_) = IntKind.wrap .u64 (e5 y_)) ∧
 (Ob (Int.fdiv (e1 y_) (e3 ) = Int.fdiv (e1 y_) (e3 )) ∧
 (Ob (IntKind.wrap .u64 (↑(BitVec.toNat (BitVec.ofInt (IntKind.bits .u64) (e1 y_) &&& BitVec.ofInt (IntKind.bits .u64) (4294967295 : Int))) : Int) = IntKind.wrap .u64 (↑(BitVec.toNat (BitVec.ofInt (IntKind.bits .u64) (e1 y_) &&& BitVec.ofInt (IntKind.bits .u64) (4294967295 : Int))) : Int)) ∧
 (Ob (IntKind.wrap .u64 (↑(BitVec.toNat (BitVec.ofInt (IntKind.bits .u64) (e4 lo y_) &&& BitVec.ofInt (IntKind.bits .u64) (4294967295 : Int))) : Int) = IntKind.wrap .u64 (↑(BitVec.toNat (BitVec.ofInt (IntKind.bits .u64) (e4 lo y_) &&& BitVec.ofInt (IntKind.bits .u64) (4294967295 : Int))) : Int)) ∧
 (Ob (v1.1 = v2.1) ∧
 (Ob (IntKind.wrap .u64 (v1.2.1.1 + Int.fdiv (e1 y_) (e3 )) = v2.2.1.1) ∧
 (Ob (IntKind.wrap .u64 (IntKind.wrap .u64 (e0 hi lo y_) - IntKind.wrap .u64 (v1.1 * IntKind.wrap .u64 (y_ * (2 : Int) ^ min (Int.toNat (e2 y_)) (IntKind.bits .u64)))) = IntKind.wrap .u64 (IntKind.wrap .u64 (e0 hi lo y_) - IntKind.wrap .u64 (v2.1 * IntKind.wrap .u64 (y_ * (2 : Int) ^ min (Int.toNat (e2 y_)) (IntKind.bits .u64))))) ∧
 (Ob (IntKind.wrap .u64 (v1.2.1.2 - (1 : Int)) = v2.2.1.2) ∧
 True))))))))))))))
 (Br (decide (IntKind.wrap .u64 (v1.2.1.2 * IntKind.wrap .u64 (↑(BitVec.toNat (BitVec.ofInt (IntKind.bits .u64) (e1 y_) &&& BitVec.ofInt (IntKind.bits .u64) (4294967295 : Int))) : Int)) > IntKind.wrap .u64 (IntKind.wrap .u64 ((4294967296 : Int) * v1.2.1.1) + IntKind.wrap .u64 (↑(BitVec.toNat (BitVec.ofInt (IntKind.bits .u64) (e4 lo y_) &&& BitVec.ofInt (IntKind.bits .u64) (4294967295 : Int))) : Int))))
 (Br (decide (IntKind.wrap .u64 (v1.2.1.1 + Int.fdiv (e1 y_) (e3 )) ≥ (4294967296 : Int)))
   ((Ob ((0 : Int) ≤ IntKind.wrap .u64 (e5 y_)) ∧
 (Ob (True) ∧
 (Ob (True) ∧
 (Ob (IntKind.wrap .u64 (IntKind.wrap .u64 (v1.1 * (4294967296 : Int)) + IntKind.wrap .u64 (v1.2.1.2 - (1 : Int))) = r.1) ∧
 (Ob (Int.fdiv (IntKind.wrap .u64 (IntKind.wrap .u64 (IntKind.wrap .u64 (IntKind.wrap .u64 (IntKind.wrap .u64 (e0 hi lo y_) - IntKind.wrap .u64 (v1.1 * IntKind.wrap .u64 (y_ * (2 : Int) ^ min (Int.toNat (e2 y_)) (IntKind.bits .u64)))) * (4294967296 : Int)) + IntKind.wrap .u64 (↑(BitVec.toNat (BitVec.ofInt (IntKind.bits .u64) (e4 lo y_) &&& BitVec.ofInt (IntKind.bits .u64) (4294967295 : Int))) : Int)) - IntKind.wrap .u64 (IntKind.wrap .u64 (v1.2.1.2 - (1 : Int)) * IntKind.wrap .u64 (y_ * (2 : Int) ^ min (Int.toNat (e2 y_)) (IntKind.bits .u64))))) (e9 y_) = r.2) ∧
 True))))))
   ((∃ (v2 : Int × (Int × Int) × Nat), (Ob ((Option.bind (iter (y13 lo y_ (e5 y_)) v2.2.2 v2.2.1) fun y0 => Option.bind (y14 hi lo y_ v2.1 (e5 y_) y0) some) = some r) ∧
 (Ob (v2.2.2 < v1.2.2) ∧
 (Ob (IntKind.wrap .u64 (y_ * (2 : Int) ^ min (Int.toNat (e2 y_)) (IntKind.bits .u64)) = IntKind.wrap .u64 (y_ * (2 : Int) ^ min (Int.toNat (e2 y_)) (IntKind.bits .u64))) ∧
 (Ob (IntKind.wrap .u64 (e5 y_) = IntKind.wrap .u64 (e5 y_)) ∧
 (Ob (Int.fdiv (e1 y_) (e3 ) = Int.fdiv (e1 y_) (e3 )) ∧
 (Ob (IntKind.wrap .u64 (↑(BitVec.toNat (BitVec.ofInt (IntKind.bits .u64) (e1 y_) &&& BitVec.ofInt (IntKind.bits .u64) (4294967295 : Int))) : Int) = IntKind.wrap .u64 (↑(BitVec.toNat (BitVec.ofInt (IntKind.bits .u64) (e1 y_) &&& BitVec.ofInt (IntKind.bits .u64) (4294967295 : Int))) : Int)) ∧
 (Ob (IntKind.wrap .u64 (↑(BitVec.toNat (BitVec.ofInt (IntKind.bits .u64) (e4 lo y_) &&& BitVec.ofInt (IntKind.bits .u64) (4294967295 : Int))) : Int) = IntKind.wrap .u64 (↑(BitVec.toNat (BitVec.ofInt (IntKind.bits .u64) (e4 lo y_) &&& BitVec.ofInt (IntKind.bits .u64) (4294967295 : Int))) : Int)) ∧
 (Ob (v1.1 = v2.1) ∧
 (Ob (IntKind.wrap .u64 (v1.2.1.1 + Int.fdiv (e1 y_) (e3 )) = v2.2.1.1) ∧
 (Ob (IntKind.wrap .u64 (IntKind.wrap .u64 (e0 hi lo y_) - IntKind.wrap .u64 (v1.1 * IntKind.wrap .u64 (y_ * (2 : Int) ^ min (Int.toNat (e2 y_)) (IntKind.bits .u64)))) = IntKind.wrap .u64 (IntKind.wrap .u64 (e0 hi lo y_) - IntKind.wrap .u64 (v2.1 * IntKind.wrap .u64 (y_ * (2 : Int) ^ min (Int.toNat (e2 y_)) (IntKind.bits .u64))))) ∧
 (Ob (IntKind.wrap .u64 (v1.2.1.2 - (1 : Int)) = v2.2.1.2) ∧
 True))))))))))))))
   ((Ob ((0 : Int) ≤ IntKind.wrap .u64 (e5 y_)) ∧
 (Ob (True) ∧
 (Ob (True) ∧
 (Ob (IntKind.wrap .u64 (IntKind.wrap .u64 (v1.1 * (4294967296 : Int)) + v1.2.1.2) = r.1) ∧
 (Ob (Int.fdiv (IntKind.wrap .u64 (IntKind.wrap .u64 (IntKind.wrap .u64 (IntKind.wrap .u64 (IntKind.wrap .u64 (e0 hi lo y_) - IntKind.wrap .u64 (v1.1 * IntKind.wrap .u64 (y_ * (2 : Int) ^ min (Int.toNat (e2 y_)) (IntKind.bits .u64)))) * (4294967296 : Int)) + IntKind.wrap .u64 (↑(BitVec.toNat (BitVec.ofInt (IntKind.bits .u64) (e4 lo y_) &&& BitVec.ofInt (IntKind.bits .u64) (4294967295 : Int))) : Int)) - IntKind.wrap .u64 (v1.2.1.2 * IntKind.wrap .u64 (y_ * (2 : Int) ^ min (Int.toNat (e2 y_)) (IntKind.bits .u64))))) (e9 y_) = r.2) ∧
 True))))))))))))
   ((∃ (v1 : (Int × Int) × Nat), (Ob ((Option.bind (iter (y47 lo y_ (e5 y_)) v1.2 v1.1) fun y0 => Option.bind (y48 hi lo y_ (e5 y_) y0) some) = some r) ∧
 (Ob (v1.2 < v0.2) ∧
 (Ob (IntKind.wrap .u64 (y_ * (2 : Int) ^ min (Int.toNat (e2 y_)) (IntKind.bits .u64)) = IntKind.wrap .u64 (y_ * (2 : Int) ^ min (Int.toNat (e2 y_)) (IntKind.bits .u64))) ∧
 (Ob (IntKind.wrap .u64 (e5 y_) = IntKind.wrap .u64 (e5 y_)) ∧
 (Ob (Int.fdiv (e1 y_) (e3 ) = Int.fdiv (e1 y_) (e3 )) ∧
 (Ob (IntKind.wrap .u64 (↑(BitVec.toNat (BitVec.ofInt (IntKind.bits .u64) (e1 y_) &&& BitVec.ofInt (IntKind.bits .u64) (4294967295 : Int))) : Int) = IntKind.wrap .u64 (↑(BitVec.toNat (BitVec.ofInt (IntKind.bits .u64) (e1 y_) &&& BitVec.ofInt (IntKind.bits .u64) (4294967295 : Int))) : Int)) ∧
 (Ob (IntKind.wrap .u64 (↑(BitVec.toNat (BitVec.ofInt (IntKind.bits .u64) (e7 hi y_) ||| BitVec.ofInt (IntKind.bits .u64) (e6 lo y_))) : Int) = IntKind.wrap .u64 (↑(BitVec.toNat (BitVec.ofInt (IntKind.bits .u64) (e7 hi y_) ||| BitVec.ofInt (IntKind.bits .u64) (e6 lo y_))) : Int)) ∧
 (Ob (Int.fdiv (e4 lo y_) (e3 ) = Int.fdiv (e4 lo y_) (e3 )) ∧
 (Ob (IntKind.wrap .u64 (↑(BitVec.toNat (BitVec.ofInt (IntKind.bits .u64) (e4 lo y_) &&& BitVec.ofInt (IntKind.bits .u64) (4294967295 : Int))) : Int) = IntKind.wrap .u64 (↑(BitVec.toNat (BitVec.ofInt (IntKind.bits .u64) (e4 lo y_) &&& BitVec.ofInt (IntKind.bits .u64) (4294967295 : Int))) : Int)) ∧
 (Ob (IntKind.wrap .u64 (v0.1.1 - (1 : Int)) = v1.1.1) ∧
 (Ob (IntKind.wrap .u64 (v0.1.2 + Int.fdiv (e1 y_) (e3 )) = v1.1.2) ∧
 True))))))))))))))
 (Br (decide (IntKind.wrap .u64 (v0.1.1 * IntKind.wrap .u64 (↑(BitVec.toNat (BitVec.ofInt (IntKind.bits .u64) (e1 y_) &&& BitVec.ofInt (IntKind.bits .u64) (4294967295 : Int))) : Int)) > IntKind.wrap .u64 (IntKind.wrap .u64 ((4294967296 : Int) * v0.1.2) + Int.fdiv (e4 lo y_) (e3 ))))
 (Br (decide (IntKind.wrap .u64 (v0.1.2 + Int.fdiv (e1 y_) (e3 )) ≥ (4294967296 : Int)))
   ((Ob (Int.fdiv (e1 y_) (e3 ) ≠ (0 : Int)) ∧
   ((∃ (v1 : Int × (Int × Int) × Nat), (Ob ((Option.bind (iter (y13 lo y_ (e5 y_)) v1.2.2 v1.2.1) fun y0 => Option.bind (y14 hi lo y_ v1.1 (e5 y_) y0) some) = some r) ∧
 (Ob (IntKind.wrap .u64 (y_ * (2 : Int) ^ min (Int.toNat (e2 y_)) (IntKind.bits .u64)) = IntKind.wrap .u64 (y_ * (2 : Int) ^ min (Int.toNat (e2 y_)) (IntKind.bits .u64))) ∧
 (Ob (IntKind.wrap .u64 (e5 y_) = IntKind.wrap .u64 (e5 y_)) ∧
 (Ob (Int.fdiv (e1 y_) (e3 ) = Int.fdiv (e1 y_) (e3 )) ∧
 (Ob (IntKind.wrap .u64 (↑(BitVec.toNat (BitVec.ofInt (IntKind.bits .u64) (e1 y_) &&& BitVec.ofInt (IntKind.bits .u64) (4294967295 : Int))) : Int) = IntKind.wrap .u64 (↑(BitVec.toNat (BitVec.ofInt (IntKind.bits .u64) (e1 y_) &&& BitVec.ofInt (IntKind.bits .u64) (4294967295 : Int))) : Int)) ∧
 (Ob (IntKind.wrap .u64 (↑(BitVec.toNat (BitVec.ofInt (IntKind.bits .u64) (e4 lo y_) &&& BitVec.ofInt (IntKind.bits .u64) (4294967295 : Int))) : Int) = IntKind.wrap .u64 (↑(BitVec.toNat (BitVec.ofInt (IntKind.bits .u64) (e4 lo y_) &&& BitVec.ofInt (IntKind.bits .u64) (4294967295 : Int))) : Int)) ∧
 (Ob (IntKind.wrap .u64 (v0.1.1 - (1 : Int)) = v1.1) ∧
 (Ob (IntKind.wrap .u64 (IntKind.wrap .u64 (IntKind.wrap .u64 (e0 hi lo y_) - IntKind.wrap .u64 (IntKind.wrap .u64 (v0.1.1 - (1 : Int)) * IntKind.wrap .u64 (y_ * (2 : Int) ^ min (Int.toNat (e2 y_)) (IntKind.bits .u64)))) - IntKind.wrap .u64 (IntKind.wrap .u64 (Int.tdiv (IntKind.wrap .u64 (IntKind.wrap .u64 (e0 hi lo y_) - IntKind.wrap .u64 (IntKind.wrap .u64 (v0.1.1 - (1 : Int)) * IntKind.wrap .u64 (y_ * (2 : Int) ^ min (Int.toNat (e2 y_)) (IntKind.bits .u64))))) (Int.fdiv (e1 y_) (e3 ))) * Int.fdiv (e1 y_) (e3 ))) = v1.2.1.1) ∧
 (Ob (IntKind.wrap .u64 (IntKind.wrap .u64 (e0 hi lo y_) - IntKind.wrap .u64 (IntKind.wrap .u64 (v0.1.1 - (1 : Int)) * IntKind.wrap .u64 (y_ * (2 : Int) ^ min (Int.toNat (e2 y_)) (IntKind.bits .u64)))) = IntKind.wrap .u64 (IntKind.wrap .u64 (e0 hi lo y_) - IntKind.wrap .u64 (v1.1 * IntKind.wrap .u64 (y_ * (2 : Int) ^ min (Int.toNat (e2 y_)) (IntKind.bits .u64))))) ∧
 (Ob (IntKind.wrap .u64 (Int.tdiv (IntKind.wrap .u64 (IntKind.wrap .u64 (e0 hi lo y_) - IntKind.wrap .u64 (IntKind.wrap .u64 (v0.1.1 - (1 : Int)) * IntKind.wrap .u64 (y_ * (2 : Int) ^ min (Int.toNat (e2 y_)) (IntKind.bits .u64))))) (Int.fdiv (e1 y_) (e3 ))) = v1.2.1.2) ∧
 True))))))))))) ∧
   (∀ (v1 : Int × (Int × Int) × Nat), ((Option.bind (iter (y13 lo y_ (e5 y_)) v1.2.2 v1.2.1) fun y0 => Option.bind (y14 hi lo y_ v1.1 (e5 y_) y0) some) = some r →
 Br (decide (v1.2.1.2 ≥ (4294967296 : Int)))
 (Br (decide (IntKind.wrap .u64 (v1.2.1.1 + Int.fdiv (e1 y_) (e3 )) ≥ (4294967296 : Int)))
   ((Ob ((0 : Int) ≤ IntKind.wrap .u64 (e5 y_)) ∧
 (Ob (True) ∧
 (Ob (True) ∧
 (Ob (IntKind.wrap .u64 (IntKind.wrap .u64 (v1.1 * (4294967296 : Int)) + IntKind.wrap .u64 (v1.2.1.2 - (1 : Int))) = r.1) ∧
 (Ob (Int.fdiv (IntKind.wrap .u64 (IntKind.wrap .u64 (IntKind.wrap .u64 (IntKind.wrap .u64 (IntKind.wrap .u64 (e0 hi lo y_) - IntKind.wrap .u64 (v1.1 * IntKind.wrap .u64 (y_ * (2 : Int) ^ min (Int.toNat (e2 y_)) (IntKind.bits .u64)))) * (4294967296 : Int)) + IntKind.wrap .u64 (↑(BitVec.toNat (BitVec.ofInt (IntKind.bits .u64) (e4 lo y_) &&& BitVec.ofInt (IntKind.bits .u64) (4294967295 : Int))) : Int)) - IntKind.wrap .u64 (IntKind.wrap .u64 (v1.2.1.2 - (1 : Int)) * IntKind.wrap .u64 (y_ * (2 : Int) ^ min (Int.toNat (e2 y_)) (IntKind.bits .u64))))) (e9 y_) = r.2) ∧
 True))))))
   ((∃ (v2 : Int × (Int × Int) × Nat), (Ob ((Option.bind (iter (y13 lo y_ (e5 y_)) v2.2.2 v2.2.1) fun y0 => Option.bind (y14 hi lo y_ v2.1 (e5 y_) y0) some) = some r) ∧
 (Ob (v2.2.2 < v1.2.2) ∧
 (Ob (IntKind.wrap .u64 (y_ * (2 : Int) ^ min (Int.toNat (e2 y_)) (IntKind.bits .u64)) = IntKind.wrap .u64 (y_ * (2 : Int) ^ min (Int.toNat (e2 y_)) (IntKind.bits .u64))) ∧
 (Ob (IntKind.wrap .u64 (e5 y_) = IntKind.wrap .u64 (e5 y_)) ∧
 (Ob (Int.fdiv (e1 y_) (e3 ) = Int.fdiv (e1 y_) (e3 )) ∧
 (Ob (IntKind.wrap .u64 (↑(BitVec.toNat (BitVec.ofInt (IntKind.bits .u64) (e1 y_) &&& BitVec.ofInt (IntKind.bits .u64) (4294967295 : Int))) : Int) = IntKind.wrap .u64 (↑(BitVec.toNat (BitVec.ofInt (IntKind.bits .u64) (e1 y_) &&& BitVec.ofInt (IntKind.bits .u64) (4294967295 : Int))) : Int)) ∧
 (Ob (IntKind.wrap .u64 (↑(BitVec.toNat (BitVec.ofInt (IntKind.bits .u64) (e4 lo y_) &&& BitVec.ofInt (IntKind.bits .u64) (4294967295 : Int))) : Int) = IntKind.wrap .u64 (↑(BitVec.toNat (BitVec.ofInt (IntKind.bits .u64) (e4 lo y_) &&& BitVec.ofInt (IntKind.bits .u64) (4294967295 : Int))) : Int)) ∧
 (Ob (v1.1 = v2.1) ∧
 (Ob (IntKind.wrap .u64 (v1.2.1.1 + Int.fdiv (e1 y_) (e3 )) = v2.2.1.1) ∧
 (Ob (IntKind.wrap .u64 (IntKind.wrap .u64 (e0 hi lo y_) - IntKind.wrap .u64 (v1.1 * IntKind.wrap .u64 (y_ * (2 : Int) ^ min (Int.toNat (e2 y_)) (IntKind.bits .u64)))) = IntKind.wrap .u64 (IntKind.wrap .u64 (e0 hi lo y_) - IntKind.wrap .u64 (v2.1 * IntKind.wrap .u64 (y_ * (2 : Int) ^ min (Int.toNat (e2 y_)) (IntKind.bits .u64))))) ∧
 (Ob (IntKind.wrap .u64 (v1.2.1.2 - (1 : Int)) = v2.2.1.2) ∧
 True))))))))))))))
 (Br (decide (IntKind.wrap .u64 (v1.2.1.2 * IntKind.wrap .u64 (↑(BitVec.toNat (BitVec.ofInt (IntKind.bits .u64) (e1 y_) &&& BitVec.ofInt (IntKind.bits .u64) (4294967295 : Int))) : Int)) > IntKind.wrap .u64 (IntKind.wrap .u64 ((4294967296 : Int) * v1.2.1.1) + IntKind.wrap .u64 (↑(BitVec.toNat (BitVec.ofInt (IntKind.bits .u64) (e4 lo y_) &&& BitVec.ofInt (IntKind.bits .u64) (4294967295 : Int))) : Int))))
 (Br (decide (IntKind.wrap .u64 (v1.2.1.1 + Int.fdiv (e1 y_) (e3 )) ≥ (4294967296 : Int)))
   ((Ob ((0 : Int) ≤ IntKind.wrap .u64 (e5 y_)) ∧
 (Ob (True) ∧
 (Ob (True) ∧
 (Ob (IntKind.wrap .u64 (IntKind.wrap .u64 (v1.1 * (4294967296 : Int)) + IntKind.wrap .u64 (v1.2.1.2 - (1 : Int))) = r.1) ∧
 (Ob (Int.fdiv (IntKind.wrap .u64 (IntKind.wrap .u64 (IntKind.wrap .u64 (IntKind.wrap .u64 (IntKind.wrap .u64 (e0 hi lo y_) - IntKind.wrap .u64 (v1.1 * IntKind.wrap .u64 (y_ * (2 : Int) ^ min (Int.toNat (e2 y_)) (IntKind.bits .u64)))) * (4294967296 : Int)) + IntKind.wrap .u64 (↑(BitVec.toNat (BitVec.ofInt (IntKind.bits .u64) (e4 lo y_) &&& BitVec.ofInt (IntKind.bits .u64) (4294967295 : Int))) : Int)) - IntKind.wrap .u64 (IntKind.wrap .u64 (v1.2.1.2 - (1 : Int)) * IntKind.wrap .u64 (y_ * (2 : Int) ^ min (Int.toNat (e2 y_)) (IntKind.bits .u64))))) (e9 y_) = r.2) ∧
 True))))))
   ((∃ (v2 : Int × (Int × Int) × Nat), (Ob ((Option.bind (iter (y13 lo y_ (e5 y_)) v2.2.2 v2.2.1) fun y0 => Option.bind (y14 hi lo y_ v2.1 (e5 y_) y0) some) = some r) ∧
 (Ob (v2.2.2 < v1.2.2) ∧
 (Ob (IntKind.wrap .u64 (y_ * (2 : Int) ^ min (Int.toNat (e2 y_)) (IntKind.bits .u64)) = IntKind.wrap .u64 (y_ * (2 : Int) ^ min (Int.toNat (e2 y_)) (IntKind.bits .u64))) ∧
 (Ob (IntKind.wrap .u64 (e5 y_) = IntKind.wrap .u64 (e5 y_)) ∧
 (Ob (Int.fdiv (e1 y_) (e3 ) = Int.fdiv (e1 y_) (e3 )) ∧
 (Ob (IntKind.wrap .u64 (↑(BitVec.toNat (BitVec.ofInt (IntKind.bits .u64) (e1 y_) &&& BitVec.ofInt (IntKind.bits .u64) (4294967295 : Int))) : Int) = IntKind.wrap .u64 (↑(BitVec.toNat (BitVec.ofInt (IntKind.bits .u64) (e1 y_) &&& BitVec.ofInt (IntKind.bits .u64) (4294967295 : Int))) : Int)) ∧
 (Ob (IntKind.wrap .u64 (↑(BitVec.toNat (BitVec.ofInt (IntKind.bits .u64) (e4 lo y_) &&& BitVec.ofInt (IntKind.bits .u64) (4294967295 : Int))) : Int) = IntKind.wrap .u64 (↑(BitVec.toNat (BitVec.ofInt (IntKind.bits .u64) (e4 lo y_) &&& BitVec.ofInt (IntKind.bits .u64) (4294967295 : Int))) : Int)) ∧
 (Ob (v1.1 = v2.1) ∧
 (Ob (IntKind.wrap .u64 (v1.2.1.1 + Int.fdiv (e1 y_) (e3 )) = v2.2.1.1) ∧
 (Ob (IntKind.wrap .u64 (IntKind.wrap .u64 (e0 hi lo y_) - IntKind.wrap .u64 (v1.1 * IntKind.wrap .u64 (y_ * (2 : Int) ^ min (Int.toNat (e2 y_)) (IntKind.bits .u64)))) = IntKind.wrap .u64 (IntKind.wrap .u64 (e0 hi lo y_) - IntKind.wrap .u64 (v2.1 * IntKind.wrap .u64 (y_ * (2 : Int) ^ min (Int.toNat (e2 y_)) (IntKind.bits .u64))))) ∧
 (Ob (IntKind.wrap .u64 (v1.2.1.2 - (1 : Int)) = v2.2.1.2) ∧
 True))))))))))))))
   ((Ob ((0 : Int) ≤ IntKind.wrap .u64 (e5 y_)) ∧
 (Ob (True) ∧
 (Ob (True) ∧
 (Ob (IntKind.wrap .u64 (IntKind.wrap .u64 (v1.1 * (4294967296 : Int)) + v1.2.1.2) = r.1) ∧
 (Ob (Int.fdiv (IntKind.wrap .u64 (IntKind.wrap .u64 (IntKind.wrap .u64 (IntKind.wrap .u64 (IntKind.wrap .u64 (e0 hi lo y_) - IntKind.wrap .u64 (v1.1 * IntKind.wrap .u64 (y_ * (2 : Int) ^ min (Int.toNat (e2 y_)) (IntKind.bits .u64)))) * (4294967296 : Int)) + IntKind.wrap .u64 (↑(BitVec.toNat (BitVec.ofInt (IntKind.bits .u64) (e4 lo y_) &&& BitVec.ofInt (IntKind.bits .u64) (4294967295 : Int))) : Int)) - IntKind.wrap .u64 (v1.2.1.2 * IntKind.wrap .u64 (y_ * (2 : Int) ^ min (Int.toNat (e2 y_)) (IntKind.bits .u64))))) (e9 y_) = r.2) ∧
 True))))))))))))
   ((∃ (v1 : (Int × Int) × Nat), (Ob ((Option.bind (iter (y47 lo y_ (e5 y_)) v1.2 v1.1) fun y0 => Option.bind (y48 hi lo y_ (e5 y_) y0) some) = some r) ∧
 (Ob (v1.2 < v0.2) ∧
 (Ob (IntKind.wrap .u64 (y_ * (2 : Int) ^ min (Int.toNat (e2 y_)) (IntKind.bits .u64)) = IntKind.wrap .u64 (y_ * (2 : Int) ^ min (Int.toNat (e2 y_)) (IntKind.bits .u64))) ∧
 (Ob (IntKind.wrap .u64 (e5 y_) = IntKind.wrap .u64 (e5 y_)) ∧
 (Ob (Int.fdiv (e1 y_) (e3 ) = Int.fdiv (e1 y_) (e3 )) ∧
 (Ob (IntKind.wrap .u64 (↑(BitVec.toNat (BitVec.ofInt (IntKind.bits .u64) (e1 y_) &&& BitVec.ofInt (IntKind.bits .u64) (4294967295 : Int))) : Int) = IntKind.wrap .u64 (↑(BitVec.toNat (BitVec.ofInt (IntKind.bits .u64) (e1 y_) &&& BitVec.ofInt (IntKind.bits .u64) (4294967295 : Int))) : Int)) ∧
 (Ob (IntKind.wrap .u64 (↑(BitVec.toNat (BitVec.ofInt (IntKind.bits .u64) (e7 hi y_) ||| BitVec.ofInt (IntKind.bits .u64) (e6 lo y_))) : Int) = IntKind.wrap .u64 (↑(BitVec.toNat (BitVec.ofInt (IntKind.bits .u64) (e7 hi y_) ||| BitVec.ofInt (IntKind.bits .u64) (e6 lo y_))) : Int)) ∧
 (Ob (Int.fdiv (e4 lo y_) (e3 ) = Int.fdiv (e4 lo y_) (e3 )) ∧
 (Ob (IntKind.wrap .u64 (↑(BitVec.toNat (BitVec.ofInt (IntKind.bits .u64) (e4 lo y_) &&& BitVec.ofInt (IntKind.bits .u64) (4294967295 : Int))) : Int) = IntKind.wrap .u64 (↑(BitVec.toNat (BitVec.ofInt (IntKind.bits .u64) (e4 lo y_) &&& BitVec.ofInt (IntKind.bits .u64) (4294967295 : Int))) : Int)) ∧
 (Ob (IntKind.wrap .u64 (v0.1.1 - (1 : Int)) = v1.1.1) ∧
 (Ob (IntKind.wrap .u64 (v0.1.2 + Int.fdiv (e1 y_) (e3 )) = v1.1.2) ∧
 True))))))))))))))
   ((Ob (Int.fdiv (e1 y_) (e3 ) ≠ (0 : Int)) ∧
   ((∃ (v1 : Int × (Int × Int) × Nat), (Ob ((Option.bind (iter (y13 lo y_ (e5 y_)) v1.2.2 v1.2.1) fun y0 => Option.bind (y14 hi lo y_ v1.1 (e5 y_) y0) some) = some r) ∧
 (Ob (IntKind.wrap .u64 (y_ * (2 : Int) ^ min (Int.toNat (e2 y_)) (IntKind.bits .u64)) = IntKind.wrap .u64 (y_ * (2 : Int) ^ min (Int.toNat (e2 y_)) (IntKind.bits .u64))) ∧
 (Ob (IntKind.wrap .u64 (e5 y_) = IntKind.wrap .u64 (e5 y_)) ∧
 (Ob (Int.fdiv (e1 y_) (e3 ) = Int.fdiv (e1 y_) (e3 )) ∧
 (Ob (IntKind.wrap .u64 (↑(BitVec.toNat (BitVec.ofInt (IntKind.bits .u64) (e1 y_) &&& BitVec.ofInt (IntKind.bits .u64) (4294967295 : Int))) : Int) = IntKind.wrap .u64 (↑(BitVec.toNat (BitVec.ofInt (IntKind.bits .u64) (e1 y_) &&& BitVec.ofInt (IntKind.bits .u64) (4294967295 : Int))) : Int)) ∧
 (Ob (IntKind.wrap .u64 (↑(BitVec.toNat (BitVec.ofInt (IntKind.bits .u64) (e4 lo y_) &&& BitVec.ofInt (IntKind.bits .u64) (4294967295 : Int))) : Int) = IntKind.wrap .u64 (↑(BitVec.toNat (BitVec.ofInt (IntKind.bits .u64) (e4 lo y_) &&& BitVec.ofInt (IntKind.bits .u64) (4294967295 : Int))) : Int)) ∧
 (Ob (v0.1.1 = v1.1) ∧
 (Ob (IntKind.wrap .u64 (IntKind.wrap .u64 (IntKind.wrap .u64 (e0 hi lo y_) - IntKind.wrap .u64 (v0.1.1 * IntKind.wrap .u64 (y_ * (2 : Int) ^ min (Int.toNat (e2 y_)) (IntKind.bits .u64)))) - IntKind.wrap .u64 (IntKind.wrap .u64 (Int.tdiv (IntKind.wrap .u64 (IntKind.wrap .u64 (e0 hi lo y_) - IntKind.wrap .u64 (v0.1.1 * IntKind.wrap .u64 (y_ * (2 : Int) ^ min (Int.toNat (e2 y_)) (IntKind.bits .u64))))) (Int.fdiv (e1 y_) (e3 ))) * Int.fdiv (e1 y_) (e3 ))) = v1.2.1.1) ∧
 (Ob (IntKind.wrap .u64 (IntKind.wrap .u64 (e0 hi lo y_) - IntKind.wrap .u64 (v0.1.1 * IntKind.wrap .u64 (y_ * (2 : Int) ^ min (Int.toNat (e2 y_)) (IntKind.bits .u64)))) = IntKind.wrap .u64 (IntKind.wrap .u64 (e0 hi lo y_) - IntKind.wrap .u64 (v1.1 * IntKind.wrap .u64 (y_ * (2 : Int) ^ min (Int.toNat (e2 y_)) (IntKind.bits .u64))))) ∧
 (Ob (IntKind.wrap .u64 (Int.tdiv (IntKind.wrap .u64 (IntKind.wrap .u64 (e0 hi lo y_) - IntKind.wrap .u64 (v0.1.1 * IntKind.wrap .u64 (y_ * (2 : Int) ^ min (Int.toNat (e2 y_)) (IntKind.bits .u64))))) (Int.fdiv (e1 y_) (e3 ))) = v1.2.1.2) ∧
 True))))))))))) ∧
   (∀ (v1 : Int × (Int × Int) × Nat), ((Option.bind (iter (y13 lo y_ (e5 y_)) v1.2.2 v1.2.1) fun y0 => Option.bind (y14 hi lo y_ v1.1 (e5 y_) y0) some) = some r →
 Br (decide (v1.2.1.2 ≥ (4294967296 : Int)))
 (Br (decide (IntKind.wrap .u64 (v1.2.1.1 + Int.fdiv (e1 y_) (e3 )) ≥ (4294967296 : Int)))
   ((Ob ((0 : Int) ≤ IntKind.wrap .u64 (e5 y_)) ∧
 (Ob (True) ∧
 (Ob (True) ∧
 (Ob (IntKind.wrap .u64 (IntKind.wrap .u64 (v1.1 * (4294967296 : Int)) + IntKind.wrap .u64 (v1.2.1.2 - (1 : Int))) = r.1) ∧
 (Ob (Int.fdiv (IntKind.wrap .u64 (IntKind.wrap .u64 (IntKind.wrap .u64 (IntKind.wrap .u64 (IntKind.wrap .u64 (e0 hi lo y_) - IntKind.wrap .u64 (v1.1 * IntKind.wrap .u64 (y_ * (2 : Int) ^ min (Int.toNat (e2 y_)) (IntKind.bits .u64)))) * (4294967296 : Int)) + IntKind.wrap .u64 (↑(BitVec.toNat (BitVec.ofInt (IntKind.bits .u64) (e4 lo y_) &&& BitVec.ofInt (IntKind.bits .u64) (4294967295 : Int))) : Int)) - IntKind.wrap .u64 (IntKind.wrap .u64 (v1.2.1.2 - (1 : Int)) * IntKind.wrap .u64 (y_ * (2 : Int) ^ min (Int.toNat (e2 y_)) (IntKind.bits .u64))))) (e9 y_) = r.2) ∧
 True))))))
   ((∃ (v2 : Int × (Int × Int) × Nat), (Ob ((Option.bind (iter (y13 lo y_ (e5 y_)) v2.2.2 v2.2.1) fun y0 => Option.bind (y14 hi lo y_ v2.1 (e5 y_) y0) some) = some r) ∧
 (Ob (v2.2.2 < v1.2.2) ∧
 (Ob (IntKind.wrap .u64 (y_ * (2 : Int) ^ min (Int.toNat (e2 y_)) (IntKind.bits .u64)) = IntKind.wrap .u64 (y_ * (2 : Int) ^ min (Int.toNat (e2 y_)) (IntKind.bits .u64))) ∧
 (Ob (IntKind.wrap .u64 (e5 y_) = IntKind.wrap .u64 (e5 y_)) ∧
 (Ob (Int.fdiv (e1 y_) (e3 ) = Int.fdiv (e1 y_) (e3 )) ∧
 (Ob (IntKind.wrap .u64 (↑(BitVec.toNat (BitVec.ofInt (IntKind.bits .u64) (e1 y_) &&& BitVec.ofInt (IntKind.bits .u64) (4294967295 : Int))) : Int) = IntKind.wrap .u64 (↑(BitVec.toNat (BitVec.ofInt (IntKind.bits .u64) (e1 y_) &&& BitVec.ofInt (IntKind.bits .u64) (4294967295 : Int))) : Int)) ∧
 (Ob (IntKind.wrap .u64 (↑(BitVec.toNat (BitVec.ofInt (IntKind.bits .u64) (e4 lo y_) &&& BitVec.ofInt (IntKind.bits .u64) (4294967295 : Int))) : Int) = IntKind.wrap .u64 (↑(BitVec.toNat (BitVec.ofInt (IntKind.bits .u64) (e4 lo y_) &&& BitVec.ofInt (IntKind.bits .u64) (4294967295 : Int))) : Int)) ∧
 (Ob (v1.1 = v2.1) ∧
 (Ob (IntKind.wrap .u64 (v1.2.1.1 + Int.fdiv (e1 y_) (e3 )) = v2.2.1.1) ∧
 (Ob (IntKind.wrap .u64 (IntKind.wrap .u64 (e0 hi lo y_) - IntKind.wrap .u64 (v1.1 * IntKind.wrap .u64 (y_ * (2 : Int) ^ min (Int.toNat (e2 y_)) (IntKind.bits .u64)))) = IntKind.wrap .u64 (IntKind.wrap .u64 (e0 hi lo y_) - IntKind.wrap .u64 (v2.1 * IntKind.wrap .u64 (y_ * (2 : Int) ^ min (Int.toNat (e2 y_)) (IntKind.bits .u64))))) ∧
 (Ob (IntKind.wrap .u64 (v1.2.1.2 - (1 : Int)) = v2.2.1.2) ∧
 True))))))))))))))
 (Br (decide (IntKind.wrap .u64 (v1.2.1.2 * IntKind.wrap .u64 (↑(BitVec.toNat (BitVec.ofInt (IntKind.bits .u64) (e1 y_) &&& BitVec.ofInt (IntKind.bits .u64) (4294967295 : Int))) : Int)) > IntKind.wrap .u64 (IntKind.wrap .u64 ((4294967296 : Int) * v1.2.1.1) + IntKind.wrap .u64 (↑(BitVec.toNat (BitVec.ofInt (IntKind.bits .u64) (e4 lo y_) &&& BitVec.ofInt (IntKind.bits .u64) (4294967295 : Int))) : Int))))
 (Br (decide (IntKind.wrap .u64 (v1.2.1.1 + Int.fdiv (e1 y_) (e3 )) ≥ (4294967296 : Int)))
   ((Ob ((0 : Int) ≤ IntKind.wrap .u64 (e5 y_)) ∧
 (Ob (True) ∧
 (Ob (True) ∧
 (Ob (IntKind.wrap .u64 (IntKind.wrap .u64 (v1.1 * (4294967296 : Int)) + IntKind.wrap .u64 (v1.2.1.2 - (1 : Int))) = r.1) ∧
 (Ob (Int.fdiv (IntKind.wrap .u64 (IntKind.wrap .u64 (IntKind.wrap .u64 (IntKind.wrap .u64 (IntKind.wrap .u64 (e0 hi lo y_) - IntKind.wrap .u64 (v1.1 * IntKind.wrap .u64 (y_ * (2 : Int) ^ min (Int.toNat (e2 y_)) (IntKind.bits .u64)))) * (4294967296 : Int)) + IntKind.wrap .u64 (↑(BitVec.toNat (BitVec.ofInt (IntKind.bits .u64) (e4 lo y_) &&& BitVec.ofInt (IntKind.bits .u64) (4294967295 : Int))) : Int)) - IntKind.wrap .u64 (IntKind.wrap .u64 (v1.2.1.2 - (1 : Int)) * IntKind.wrap .u64 (y_ * (2 : Int) ^ min (Int.toNat (e2 y_)) (IntKind.bits .u64))))) (e9 y_) = r.2) ∧
 True))))))
   ((∃ (v2 : Int × (Int × Int) × Nat), (Ob ((Option.bind (iter (y13 lo y_ (e5 y_)) v2.2.2 v2.2.1) fun y0 => Option.bind (y14 hi lo y_ v2.1 (e5 y_) y0) some) = some r) ∧
 (Ob (v2.2.2 < v1.2.2) ∧
 (Ob (IntKind.wrap .u64 (y_ * (2 : Int) ^ min (Int.toNat (e2 y_)) (IntKind.bits .u64)) = IntKind.wrap .u64 (y_ * (2 : Int) ^ min (Int.toNat (e2 y_)) (IntKind.bits .u64))) ∧
 (Ob (IntKind.wrap .u64 (e5 y_) = IntKind.wrap .u64 (e5 y_)) ∧
 (Ob (Int.fdiv (e1 y_) (e3 ) = Int.fdiv (e1 y_) (e3 )) ∧
 (Ob (IntKind.wrap .u64 (↑(BitVec.toNat (BitVec.ofInt (IntKind.bits .u64) (e1 y_) &&& BitVec.ofInt (IntKind.bits .u64) (4294967295 : Int))) : Int) = IntKind.wrap .u64 (↑(BitVec.toNat (BitVec.ofInt (IntKind.bits .u64) (e1 y_) &&& BitVec.ofInt (IntKind.bits .u64) (4294967295 : Int))) : Int)) ∧
 (Ob (IntKind.wrap .u64 (↑(BitVec.toNat (BitVec.ofInt (IntKind.bits .u64) (e4 lo y_) &&& BitVec.ofInt (IntKind.bits .u64) (4294967295 : Int))) : Int) = IntKind.wrap .u64 (↑(BitVec.toNat (BitVec.ofInt (IntKind.bits .u64) (e4 lo y_) &&& BitVec.ofInt (IntKind.bits .u64) (4294967295 : Int))) : Int)) ∧
 (Ob (v1.1 = v2.1) ∧
 (Ob (IntKind.wrap .u64 (v1.2.1.1 + Int.fdiv (e1 y_) (e3 )) = v2.2.1.1) ∧
 (Ob (IntKind.wrap .u64 (IntKind.wrap .u64 (e0 hi lo y_) - IntKind.wrap .u64 (v1.1 * IntKind.wrap .u64 (y_ * (2 : Int) ^ min (Int.toNat (e2 y_)) (IntKind.bits .u64)))) = IntKind.wrap .u64 (IntKind.wrap .u64 (e0 hi lo y_) - IntKind.wrap .u64 (v2.1 * IntKind.wrap .u64 (y_ * (2 : Int) ^ min (Int.toNat (e2 y_)) (IntKind.bits .u64))))) ∧
 (Ob (IntKind.wrap .u64 (v1.2.1.2 - (1 : Int)) = v2.2.1.2) ∧
 True))))))))))))))
   ((Ob ((0 : Int) ≤ IntKind.wrap .u64 (e5 y_)) ∧
 (Ob (True) ∧
 (Ob (True) ∧
 (Ob (IntKind.wrap .u64 (IntKind.wrap .u64 (v1.1 * (4294967296 : Int)) + v1.2.1.2) = r.1) ∧
 (Ob (Int.fdiv (IntKind.wrap .u64 (IntKind.wrap .u64 (IntKind.wrap .u64 (IntKind.wrap .u64 (IntKind.wrap .u64 (e0 hi lo y_) - IntKind.wrap .u64 (v1.1 * IntKind.wrap .u64 (y_ * (2 : Int) ^ min (Int.toNat (e2 y_)) (IntKind.bits .u64)))) * (4294967296 : Int)) + IntKind.wrap .u64 (↑(BitVec.toNat (BitVec.ofInt (IntKind.bits .u64) (e4 lo y_) &&& BitVec.ofInt (IntKind.bits .u64) (4294967295 : Int))) : Int)) - IntKind.wrap .u64 (v1.2.1.2 * IntKind.wrap .u64 (y_ * (2 : Int) ^ min (Int.toNat (e2 y_)) (IntKind.bits .u64))))) (e9 y_) = r.2) ∧
 True))))))))))))))))))))))))))))) = _) ?_
  refine br_b h (fun h => ?_) (fun h => ?_)
  · exact nomatch h
  · refine br_d h (fun h => ?_) (fun h => ?_)
    · exact nomatch h
    · refine br_b h (fun h => ?_) (fun h => ?_)
      · refine ob_s h fun h => ?_
        refine ob_s h fun h => ?_
        refine ob_t ?_
        refine ob_t ?_
        exact ret_s h (fun e => by subst e; exact (by repeat' (first | exact trivial | exact ⟨rfl⟩ | refine And.intro ?_ ?_)))
      · refine call_s h fun h => ?_
        refine ob_t ?_
        refine ob_s h fun h => ?_
        refine ob_c (p := (0 : Int) ≤ (32 : Int)) (by decide) ?_
        refine ob_s h fun h => ?_
        refine ob_s h fun h => ?_
        refine ob_s h fun h => ?_
        refine ob_c (p := (0 : Int) ≤ (32 : Int)) (by decide) ?_
        refine ob_s h fun h => ?_
        refine ⟨⟨((IntKind.wrap .u64 (Int.tdiv (e8 hi lo y_) (Int.fdiv (e1 y_) (e3 ))), IntKind.wrap .u64 (IntKind.wrap .u64 (↑(BitVec.toNat (BitVec.ofInt (IntKind.bits .u64) (e7 hi y_) ||| BitVec.ofInt (IntKind.bits .u64) (e6 lo y_))) : Int) - IntKind.wrap .u64 (IntKind.wrap .u64 (Int.tdiv (e8 hi lo y_) (Int.fdiv (e1 y_) (e3 ))) * Int.fdiv (e1 y_) (e3 )))), big), ⟨loop_s h⟩, (by repeat' (first | exact trivial | exact ⟨rfl⟩ | refine And.intro ?_ ?_))⟩, fun z1 hz1 => ?_⟩
        obtain ⟨k1, hm1, h⟩ := iter_pos hz1
        refine br_d h (fun h => ?_) (fun h => ?_)
        · refine br_d h (fun h => ?_) (fun h => ?_)
          · have h := exit_s h
            refine ob_s h fun h => ?_
            refine ⟨⟨(IntKind.wrap .u64 ((Prod.fst z1).1 - (1 : Int)), (IntKind.wrap .u64 (IntKind.wrap .u64 (IntKind.wrap .u64 (e0 hi lo y_) - IntKind.wrap .u64 (IntKind.wrap .u64 ((Prod.fst z1).1 - (1 : Int)) * IntKind.wrap .u64 (y_ * (2 : Int) ^ min (Int.toNat (e2 y_)) (IntKind.bits .u64)))) - IntKind.wrap .u64 (IntKind.wrap .u64 (Int.tdiv (IntKind.wrap .u64 (IntKind.wrap .u64 (e0 hi lo y_) - IntKind.wrap .u64 (IntKind.wrap .u64 ((Prod.fst z1).1 - (1 : Int)) * IntKind.wrap .u64 (y_ * (2 : Int) ^ min (Int.toNat (e2 y_)) (IntKind.bits .u64))))) (Int.fdiv (e1 y_) (e3 ))) * Int.fdiv (e1 y_) (e3 ))), IntKind.wrap .u64 (Int.tdiv (IntKind.wrap .u64 (IntKind.wrap .u64 (e0 hi lo y_) - IntKind.wrap .u64 (IntKind.wrap .u64 ((Prod.fst z1).1 - (1 : Int)) * IntKind.wrap .u64 (y_ * (2 : Int) ^ min (Int.toNat (e2 y_)) (IntKind.bits .u64))))) (Int.fdiv (e1 y_) (e3 )))), big), ⟨loop_s h⟩, (by repeat' (first | exact trivial | exact ⟨rfl⟩ | refine And.intro ?_ ?_))⟩, fun z2 hz2 => ?_⟩
            obtain ⟨k2, hm2, h⟩ := iter_pos hz2
            refine br_d h (fun h => ?_) (fun h => ?_)
            · refine br_d h (fun h => ?_) (fun h => ?_)
              · have h := exit_s h
                refine ob_s h fun h => ?_
                refine ob_t ?_
                refine ob_t ?_
                exact ret_s h (fun e => by subst e; exact (by repeat' (first | exact trivial | exact ⟨rfl⟩ | refine And.intro ?_ ?_)))
              · exact ⟨(Prod.fst z2, (IntKind.wrap .u64 ((Prod.fst (Prod.snd z2)).1 + Int.fdiv (e1 y_) (e3 )), IntKind.wrap .u64 ((Prod.fst (Prod.snd z2)).2 - (1 : Int))), k2), ⟨next_s h⟩, ⟨lt_gs hm2.symm⟩, (by repeat' (first | exact trivial | exact ⟨rfl⟩ | refine And.intro ?_ ?_))⟩
            · refine br_d h (fun h => ?_) (fun h => ?_)
              · refine br_d h (fun h => ?_) (fun h => ?_)
                · have h := exit_s h
                  refine ob_s h fun h => ?_
                  refine ob_t ?_
                  refine ob_t ?_
                  exact ret_s h (fun e => by subst e; exact (by repeat' (first | exact trivial | exact ⟨rfl⟩ | refine And.intro ?_ ?_)))
                · exact ⟨(Prod.fst z2, (IntKind.wrap .u64 ((Prod.fst (Prod.snd z2)).1 + Int.fdiv (e1 y_) (e3 )), IntKind.wrap .u64 ((Prod.fst (Prod.snd z2)).2 - (1 : Int))), k2), ⟨next_s h⟩, ⟨lt_gs hm2.symm⟩, (by repeat' (first | exact trivial | exact ⟨rfl⟩ | refine And.intro ?_ ?_))⟩
              · have h := exit_s h
                refine ob_s h fun h => ?_
                refine ob_t ?_
                refine ob_t ?_
                exact ret_s h (fun e => by subst e; exact (by repeat' (first | exact trivial | exact ⟨rfl⟩ | refine And.intro ?_ ?_)))
          · exact ⟨((IntKind.wrap .u64 ((Prod.fst z1).1 - (1 : Int)), IntKind.wrap .u64 ((Prod.fst z1).2 + Int.fdiv (e1 y_) (e3 ))), k1), ⟨next_s h⟩, ⟨lt_gs hm1.symm⟩, (by repeat' (first | exact trivial | exact ⟨rfl⟩ | refine And.intro ?_ ?_))⟩
        · refine br_d h (fun h => ?_) (fun h => ?_)
          · refine br_d h (fun h => ?_) (fun h => ?_)
            · have h := exit_s h
              refine ob_s h fun h => ?_
              refine ⟨⟨(IntKind.wrap .u64 ((Prod.fst z1).1 - (1 : Int)), (IntKind.wrap .u64 (IntKind.wrap .u64 (IntKind.wrap .u64 (e0 hi lo y_) - IntKind.wrap .u64 (IntKind.wrap .u64 ((Prod.fst z1).1 - (1 : Int)) * IntKind.wrap .u64 (y_ * (2 : Int) ^ min (Int.toNat (e2 y_)) (IntKind.bits .u64)))) - IntKind.wrap .u64 (IntKind.wrap .u64 (Int.tdiv (IntKind.wrap .u64 (IntKind.wrap .u64 (e0 hi lo y_) - IntKind.wrap .u64 (IntKind.wrap .u64 ((Prod.fst z1).1 - (1 : Int)) * IntKind.wrap .u64 (y_ * (2 : Int) ^ min (Int.toNat (e2 y_)) (IntKind.bits .u64))))) (Int.fdiv (e1 y_) (e3 ))) * Int.fdiv (e1 y_) (e3 ))), IntKind.wrap .u64 (Int.tdiv (IntKind.wrap .u64 (IntKind.wrap .u64 (e0 hi lo y_) - IntKind.wrap .u64 (IntKind.wrap .u64 ((Prod.fst z1).1 - (1 : Int)) * IntKind.wrap .u64 (y_ * (2 : Int) ^ min (Int.toNat (e2 y_)) (IntKind.bits .u64))))) (Int.fdiv (e1 y_) (e3 )))), big), ⟨loop_s h⟩, (by repeat' (first | exact trivial | exact ⟨rfl⟩ | refine And.intro ?_ ?_))⟩, fun z3 hz3 => ?_⟩
              obtain ⟨k3, hm3, h⟩ := iter_pos hz3
              refine br_d h (fun h => ?_) (fun h => ?_)
              · refine br_d h (fun h => ?_) (fun h => ?_)
                · have h := exit_s h
                  refine ob_s h fun h => ?_
                  refine ob_t ?_
                  refine ob_t ?_
                  exact ret_s h (fun e => by subst e; exact (by repeat' (first | exact trivial | exact ⟨rfl⟩ | refine And.intro ?_ ?_)))
                · exact ⟨(Prod.fst z3, (IntKind.wrap .u64 ((Prod.fst (Prod.snd z3)).1 + Int.fdiv (e1 y_) (e3 )), IntKind.wrap .u64 ((Prod.fst (Prod.snd z3)).2 - (1 : Int))), k3), ⟨next_s h⟩, ⟨lt_gs hm3.symm⟩, (by repeat' (first | exact trivial | exact ⟨rfl⟩ | refine And.intro ?_ ?_))⟩
              · refine br_d h (fun h => ?_) (fun h => ?_)
                · refine br_d h (fun h => ?_) (fun h => ?_)
                  · have h := exit_s h
                    refine ob_s h fun h => ?_
                    refine ob_t ?_
                    refine ob_t ?_
                    exact ret_s h (fun e => by subst e; exact (by repeat' (first | exact trivial | exact ⟨rfl⟩ | refine And.intro ?_ ?_)))
                  · exact ⟨(Prod.fst z3, (IntKind.wrap .u64 ((Prod.fst (Prod.snd z3)).1 + Int.fdiv (e1 y_) (e3 )), IntKind.wrap .u64 ((Prod.fst (Prod.snd z3)).2 - (1 : Int))), k3), ⟨next_s h⟩, ⟨lt_gs hm3.symm⟩, (by repeat' (first | exact trivial | exact ⟨rfl⟩ | refine And.intro ?_ ?_))⟩
                · have h := exit_s h
                  refine ob_s h fun h => ?_
                  refine ob_t ?_
                  refine ob_t ?_
                  exact ret_s h (fun e => by subst e; exact (by repeat' (first | exact trivial | exact ⟨rfl⟩ | refine And.intro ?_ ?_)))
            · exact ⟨((IntKind.wrap .u64 ((Prod.fst z1).1 - (1 : Int)), IntKind.wrap .u64 ((Prod.fst z1).2 + Int.fdiv (e1 y_) (e3 ))), k1), ⟨next_s h⟩, ⟨lt_gs hm1.symm⟩, (by repeat' (first | exact trivial | exact ⟨rfl⟩ | refine And.intro ?_ ?_))⟩
          · have h := exit_s h
            refine ob_s h fun h => ?_
            refine ⟨⟨((Prod.fst z1).1, (IntKind.wrap .u64 (IntKind.wrap .u64 (IntKind.wrap .u64 (e0 hi lo y_) - IntKind.wrap .u64 ((Prod.fst z1).1 * IntKind.wrap .u64 (y_ * (2 : Int) ^ min (Int.toNat (e2 y_)) (IntKind.bits .u64)))) - IntKind.wrap .u64 (IntKind.wrap .u64 (Int.tdiv (IntKind.wrap .u64 (IntKind.wrap .u64 (e0 hi lo y_) - IntKind.wrap .u64 ((Prod.fst z1).1 * IntKind.wrap .u64 (y_ * (2 : Int) ^ min (Int.toNat (e2 y_)) (IntKind.bits .u64))))) (Int.fdiv (e1 y_) (e3 ))) * Int.fdiv (e1 y_) (e3 ))), IntKind.wrap .u64 (Int.tdiv (IntKind.wrap .u64 (IntKind.wrap .u64 (e0 hi lo y_) - IntKind.wrap .u64 ((Prod.fst z1).1 * IntKind.wrap .u64 (y_ * (2 : Int) ^ min (Int.toNat (e2 y_)) (IntKind.bits .u64))))) (Int.fdiv (e1 y_) (e3 )))), big), ⟨loop_s h⟩, (by repeat' (first | exact trivial | exact ⟨rfl⟩ | refine And.intro ?_ ?_))⟩, fun z4 hz4 => ?_⟩
            obtain ⟨k4, hm4, h⟩ := iter_pos hz4
            refine br_d h (fun h => ?_) (fun h => ?_)
            · refine br_d h (fun h => ?_) (fun h => ?_)
              · have h := exit_s h
                refine ob_s h fun h => ?_
                refine ob_t ?_
                refine ob_t ?_
                exact ret_s h (fun e => by subst e; exact (by repeat' (first | exact trivial | exact ⟨rfl⟩ | refine And.intro ?_ ?_)))
              · exact ⟨(Prod.fst z4, (IntKind.wrap .u64 ((Prod.fst (Prod.snd z4)).1 + Int.fdiv (e1 y_) (e3 )), IntKind.wrap .u64 ((Prod.fst (Prod.snd z4)).2 - (1 : Int))), k4), ⟨next_s h⟩, ⟨lt_gs hm4.symm⟩, (by repeat' (first | exact trivial | exact ⟨rfl⟩ | refine And.intro ?_ ?_))⟩
            · refine br_d h (fun h => ?_) (fun h => ?_)
              · refine br_d h (fun h => ?_) (fun h => ?_)
                · have h := exit_s h
                  refine ob_s h fun h => ?_
                  refine ob_t ?_
                  refine ob_t ?_
                  exact ret_s h (fun e => by subst e; exact (by repeat' (first | exact trivial | exact ⟨rfl⟩ | refine And.intro ?_ ?_)))
                · exact ⟨(Prod.fst z4, (IntKind.wrap .u64 ((Prod.fst (Prod.snd z4)).1 + Int.fdiv (e1 y_) (e3 )), IntKind.wrap .u64 ((Prod.fst (Prod.snd z4)).2 - (1 : Int))), k4), ⟨next_s h⟩, ⟨lt_gs hm4.symm⟩, (by repeat' (first | exact trivial | exact ⟨rfl⟩ | refine And.intro ?_ ?_))⟩
              · have h := exit_s h
                refine ob_s h fun h => ?_
                refine ob_t ?_
                refine ob_t ?_
                exact ret_s h (fun e => by subst e; exact (by repeat' (first | exact trivial | exact ⟨rfl⟩ | refine And.intro ?_ ?_)))
set_option maxRecDepth 100000 in
theorem math_bits_Div64_ok : SpecOK Tryd.prog 89 true (pureK k_math_bits_Div64 y110) := by
  refine pureK_ok (sp := (sp_99 sp0)) (fn := Tryd.f89) (body := bodyOf Tryd.f89) mixed (sp_99_ok sp0_ok) Tryd.func89 (by kernel_rfl) (by kernel_rfl) fun as_ ob rs h ho => ?_
  unfold y110 at h
  split at h
  · rename_i hi lo y_
    cases h
    exact ⟨Nat.le_of_ble_eq_true rfl, _, _, math_bits_Div64_vc hi lo y_ _ (ok_some ho)⟩
  · cases h
theorem sp_89_ok {sp : Specs} (h : SpecsOK Tryd.prog sp) : SpecsOK Tryd.prog (sp_89 sp) := addK_ok math_bits_Div64_ok h
def y97 : List SV := [.c (.d), .c (.d), .c (.p [.p [.d, .r (.floats .f32 []), .d, .d, .r (.recs 2 []), .r (.recs 2 [])]])]
def y17 (u67 : Int) (u68 : Int) (u13 : Int) (u14 : List Nat) (u15 : Int) (u16 : Int) (u17 : List (List Int)) (u18 : List (List Int)) : Option (Int × Bool) :=
  Option.bind (y6 (IntKind.wrap .u64 u67) (1000000 : Int)) fun r0 =>
  Option.bind (y44 (IntKind.wrap .u64 (IntKind.wrap .u64 (IntKind.wrap .u64 (Int.fdiv (IntKind.wrap .u64 u67) ((2 : Int) ^ min (32 : Nat) (IntKind.bits .u64)) * Int.fdiv (1000000 : Int) ((2 : Int) ^ min (32 : Nat) (IntKind.bits .u64))) + Int.fdiv (IntKind.wrap .u64 (IntKind.wrap .u64 (Int.fdiv (IntKind.wrap .u64 u67) ((2 : Int) ^ min (32 : Nat) (IntKind.bits .u64)) * IntKind.wrap .u64 (↑(BitVec.toNat (BitVec.ofInt (IntKind.bits .u64) (1000000 : Int) &&& BitVec.ofInt (IntKind.bits .u64) (4294967295 : Int))) : Int)) + Int.fdiv (IntKind.wrap .u64 (IntKind.wrap .u64 (↑(BitVec.toNat (BitVec.ofInt (IntKind.bits .u64) (IntKind.wrap .u64 u67) &&& BitVec.ofInt (IntKind.bits .u64) (4294967295 : Int))) : Int) * IntKind.wrap .u64 (↑(BitVec.toNat (BitVec.ofInt (IntKind.bits .u64) (1000000 : Int) &&& BitVec.ofInt (IntKind.bits .u64) (4294967295 : Int))) : Int))) ((2 : Int) ^ min (32 : Nat) (IntKind.bits .u64)))) ((2 : Int) ^ min (32 : Nat) (IntKind.bits .u64))) + Int.fdiv (IntKind.wrap .u64 (IntKind.wrap .u64 (↑(BitVec.toNat (BitVec.ofInt (IntKind.bits .u64) (IntKind.wrap .u64 (IntKind.wrap .u64 (Int.fdiv (IntKind.wrap .u64 u67) ((2 : Int) ^ min (32 : Nat) (IntKind.bits .u64)) * IntKind.wrap .u64 (↑(BitVec.toNat (BitVec.ofInt (IntKind.bits .u64) (1000000 : Int) &&& BitVec.ofInt (IntKind.bits .u64) (4294967295 : Int))) : Int)) + Int.fdiv (IntKind.wrap .u64 (IntKind.wrap .u64 (↑(BitVec.toNat (BitVec.ofInt (IntKind.bits .u64) (IntKind.wrap .u64 u67) &&& BitVec.ofInt (IntKind.bits .u64) (4294967295 : Int))) : Int) * IntKind.wrap .u64 (↑(BitVec.toNat (BitVec.ofInt (IntKind.bits .u64) (1000000 : Int) &&& BitVec.ofInt (IntKind.bits .u64) (4294967295 : Int))) : Int))) ((2 : Int) ^ min (32 : Nat) (IntKind.bits .u64)))) &&& BitVec.ofInt (IntKind.bits .u64) (4294967295 : Int))) : Int) + IntKind.wrap .u64 (IntKind.wrap .u64 (↑(BitVec.toNat (BitVec.ofInt (IntKind.bits .u64) (IntKind.wrap .u64 u67) &&& BitVec.ofInt (IntKind.bits .u64) (4294967295 : Int))) : Int) * Int.fdiv (1000000 : Int) ((2 : Int) ^ min (32 : Nat) (IntKind.bits .u64))))) ((2 : Int) ^ min (32 : Nat) (IntKind.bits .u64)))) (IntKind.wrap .u64 (IntKind.wrap .u64 u67 * (1000000 : Int))) (IntKind.wrap .u64 (IntKind.wrap .i64 (u68 * u13)))) fun r1 =>
  some ((IntKind.wrap .i64 r1.1, decide (r1.2 > (0 : Int))))
def y98 : List Lf → Option GT
  | [.d (.i .i64 u67), .d (.i .i64 u68), .d (.i .i64 u13), .r (.floats .f32 u14), .d (.i .i64 u15), .d (.i .i64 u16), .r (.recs 2 u17), .r (.recs 2 u18)] => some (.leaf (ok (y17 u67 u68 u13 u14 u15 u16 u17 u18)) [.c (.d (.i .i64 ((val (y17 u67 u68 u13 u14 u15 u16 u17 u18)).1))), .c (.d (.b ((val (y17 u67 u68 u13 u14 u15 u16 u17 u18)).2)))])
  | _ => none
abbrev sp_87 : Specs → Specs := addK 87 true (pureT y97 y98)
set_option maxRecDepth 100000 in
theorem G_decay_centre_1_vc (u67 : Int) (u68 : Int) (u13 : Int) (u14 : List Nat) (u15 : Int) (u16 : Int) (u17 : List (List Int)) (u18 : List (List Int)) (r : Int × Bool) (h : Option.bind (y17 u67 u68 u13 u14 u15 u16 u17 u18) some = some r) : runT Tryd.f87 ((sp_88 (sp_89 sp0))) (fun _ _ _ => none) (bldD y97 [.d (.i .i64 u67), .d (.i .i64 u68), .d (.i .i64 u13), .r (.floats .f32 u14), .d (.i .i64 u15), .d (.i .i64 u16), .r (.recs 2 u17), .r (.recs 2 u18)]) [.c (.d (.i .i64 r.1)), .c (.d (.b r.2))] := by
  refine Eq.mp (by kernel_rfl : (
 (Ob (True) ∧
 (Ob (ok (y6 (IntKind.wrap .u64 u67) (1000000 : Int))) ∧
 (Ob (True) ∧
 (Ob (True) ∧
 (Ob (True) ∧
 (Ob (ok (y44 (IntKind.wrap .u64 (IntKind.wrap .u64 (IntKind.wrap .u64 (Int.fdiv (IntKind.wrap .u64 u67) ((2 : Int) ^ min (32 : Nat) (IntKind.bits .u64)) * Int.fdiv (1000000 : Int) ((2 : Int) ^ min (32 : Nat) (IntKind.bits .u64))) + Int.fdiv (IntKind.wrap .u64 (IntKind.wrap .u64 (Int.fdiv (IntKind.wrap .u64 u67) ((2 : Int) ^ min (32 : Nat) (IntKind.bits .u64)) * IntKind.wrap .u64 (↑(BitVec.toNat (BitVec.ofInt (IntKind.bits .u64) (1000000 : Int) &&& BitVec.ofInt (IntKind.bits .u64) (4294967295 : Int))) : Int)) + Int.fdiv (IntKind.wrap .u64 (IntKind.wrap .u64 (↑(BitVec.toNat (BitVec.ofInt (IntKind.bits .u64) (IntKind.wrap .u64 u67) &&& BitVec.ofInt (IntKind.bits .u64) (4294967295 : Int))) : Int) * IntKind.wrap .u64 (↑(BitVec.toNat (BitVec.ofInt (IntKind.bits .u64) (1000000 : Int) &&& BitVec.ofInt (IntKind.bits .u64) (4294967295 : Int))) : Int))) ((2 : Int) ^ min (32 : Nat) (IntKind.bits .u64)))) ((2 : Int) ^ min (32 : Nat) (IntKind.bits .u64))) + Int.fdiv (IntKind.wrap .u64 (IntKind.wrap .u64 (↑(BitVec.toNat (BitVec.ofInt (IntKind.bits .u64) (IntKind.wrap .u64 (IntKind.wrap .u64 (Int.fdiv (IntKind.wrap .u64 u67) ((2 : Int) ^ min (32 : Nat) (IntKind.bits .u64)) * IntKind.wrap .u64 (↑(BitVec.toNat (BitVec.ofInt (IntKind.bits .u64) (1000000 : Int) &&& BitVec.ofInt (IntKind.bits .u64) (4294967295 : Int))) : Int)) + Int.fdiv (IntKind.wrap .u64 (IntKind.wrap .u64 (↑(BitVec.toNat (BitVec.ofInt (IntKind.bits .u64) (IntKind.wrap .u64 u67) &&& BitVec.ofInt (IntKind.bits .u64) (4294967295 : Int))) : Int) * IntKind.wrap .u64 (↑(BitVec.toNat (BitVec.ofInt (IntKind.bits .u64) (1000000 : Int) &&& BitVec.ofInt (IntKind.bits .u64) (4294967295 : Int))) : Int))) ((2 : Int) ^ min (32 : Nat) (IntKind.bits .u64)))) &&& BitVec.ofInt (IntKind.bits .u64) (4294967295 : Int))) : Int) + IntKind.wrap .u64 (IntKind.wrap .u64 (↑(BitVec.toNat (BitVec.ofInt (IntKind.bits .u64) (IntKind.wrap .u64 u67) &&& BitVec.ofInt (IntKind.bits .u64) (4294967295 : Int))) : Int) * Int.fdiv (1000000 : Int) ((2 : Int) ^ min (32 : Nat) (IntKind.bits .u64))))) ((2 : Int) ^ min (32 : Nat) (IntKind.bits .u64)))) (IntKind.wrap .u64 (IntKind.wrap .u64 u67 * (1000000 : Int))) (IntKind.wrap .u64 (IntKind.wrap .i64 (u68 * u13))))) ∧
 (Ob (True) ∧
 (Ob (True) ∧
 (Ob (True) ∧
 (Ob (IntKind.wrap .i64 (val (y44 (IntKind.wrap .u64 (IntKind.wrap .u64 (IntKind.wrap .u64 (Int.fdiv (IntKind.wrap .u64 u67) ((2 : Int) ^ min (32 : Nat) (IntKind.bits .u64)) * Int.fdiv (1000000 : Int) ((2 : Int) ^ min (32 : Nat) (IntKind.bits .u64))) + Int.fdiv (IntKind.wrap .u64 (IntKind.wrap .u64 (Int.fdiv (IntKind.wrap .u64 u67) ((2 : Int) ^ min (32 : Nat) (IntKind.bits .u64)) * IntKind.wrap .u64 (↑(BitVec.toNat (BitVec.ofInt (IntKind.bits .u64) (1000000 : Int) &&& BitVec.ofInt (IntKind.bits .u64) (4294967295 : Int))) : Int)) + Int.fdiv (IntKind.wrap .u64 (IntKind.wrap .u64 (↑(BitVec.toNat (BitVec.ofInt (IntKind.bits .u64) (IntKind.wrap .u64 u67) &&& BitVec.ofInt (IntKind.bits .u64) (4294967295 : Int))) : Int) * IntKind.wrap .u64 (↑(BitVec.toNat (BitVec.ofInt (IntKind.bits .u64) (1000000 : Int) &&& BitVec.ofInt (IntKind.bits .u64) (4294967295 : Int))) : Int))) ((2 : Int) ^ min (32 : Nat) (IntKind.bits .u64)))) ((2 : Int) ^ min (32 : Nat) (IntKind.bits .u64))) + Int.fdiv (IntKind.wrap .u64 (IntKind.wrap .u64 (↑(BitVec.toNat (BitVec.ofInt (IntKind.bits .u64) (IntKind.wrap .u64 (IntKind.wrap .u64 (Int.fdiv (IntKind.wrap .u64 u67) ((2 : Int) ^ min (32 : Nat) (IntKind.bits .u64)) * IntKind.wrap .u64 (↑(BitVec.toNat (BitVec.ofInt (IntKind.bits .u64) (1000000 : Int) &&& BitVec.ofInt (IntKind.bits .u64) (4294967295 : Int))) : Int)) + Int.fdiv (IntKind.wrap .u64 (IntKind.wrap .u64 (↑(BitVec.toNat (BitVec.ofInt (IntKind.bits .u64) (IntKind.wrap .u64 u67) &&& BitVec.ofInt (IntKind.bits .u64) (4294967295 : Int))) : Int) * IntKind.wrap .u64 (↑(BitVec.toNat (BitVec.ofInt (IntKind.bits .u64) (1000000 : Int) &&& BitVec.ofInt (IntKind.bits .u64) (4294967295 : Int))) : Int))) ((2 : Int) ^ min (32 : Nat) (IntKind.bits .u64)))) &&& BitVec.ofInt (IntKind.bits .u64) (4294967295 : Int))) : Int) + IntKind.wrap .u64 (IntKind.wrap .u64 (↑(BitVec.toNat (BitVec.ofInt (IntKind.bits .u64) (IntKind.wrap .u64 u67) &&& BitVec.ofInt (IntKind.bits .u64) (4294967295 : Int))) : Int) * Int.fdiv (1000000 : Int) ((2 : Int) ^ min (32 : Nat) (IntKind.bits .u64))))) ((2 : Int) ^ min (32 : Nat) (IntKind.bits .u64)))) (IntKind.wrap .u64 (IntKind.wrap .u64 u67 * (1000000 : Int))) (IntKind.wrap .u64 (IntKind.wrap .i64 (u68 * u13))))).1 = r.1) ∧
 (Ob (decide ((val (y44 (IntKind.wrap .u64 (IntKind.wrap .u64 (IntKind.wrap .u64 (Int.fdiv (IntKind.wrap .u64 u67) ((2 : Int) ^ min (32 : Nat) (IntKind.bits .u64)) * Int.fdiv (1000000 : Int) ((2 : Int) ^ min (32 : Nat) (IntKind.bits .u64))) + Int.fdiv (IntKind.wrap .u64 (IntKind.wrap .u64 (Int.fdiv (IntKind.wrap .u64 u67) ((2 : Int) ^ min (32 : Nat) (IntKind.bits .u64)) * IntKind.wrap .u64 (↑(BitVec.toNat (BitVec.ofInt (IntKind.bits .u64) (1000000 : Int) &&& BitVec.ofInt (IntKind.bits .u64) (4294967295 : Int))) : Int)) + Int.fdiv (IntKind.wrap .u64 (IntKind.wrap .u64 (↑(BitVec.toNat (BitVec.ofInt (IntKind.bits .u64) (IntKind.wrap .u64 u67) &&& BitVec.ofInt (IntKind.bits .u64) (4294967295 : Int))) : Int) * IntKind.wrap .u64 (↑(BitVec.toNat (BitVec.ofInt (IntKind.bits .u64) (1000000 : Int) &&& BitVec.ofInt (IntKind.bits .u64) (4294967295 : Int))) : Int))) ((2 : Int) ^ min (32 : Nat) (IntKind.bits .u64)))) ((2 : Int) ^ min (32 : Nat) (IntKind.bits .u64))) + Int.fdiv (IntKind.wrap .u64 (IntKind.wrap .u64 (↑(BitVec.toNat (BitVec.ofInt (IntKind.bits .u64) (IntKind.wrap .u64 (IntKind.wrap .u64 (Int.fdiv (IntKind.wrap .u64 u67) ((2 : Int) ^ min (32 : Nat) (IntKind.bits .u64)) * IntKind.wrap .u64 (↑(BitVec.toNat (BitVec.ofInt (IntKind.bits .u64) (1000000 : Int) &&& BitVec.ofInt (IntKind.bits .u64) (4294967295 : Int))) : Int)) + Int.fdiv (IntKind.wrap .u64 (IntKind.wrap .u64 (↑(BitVec.toNat (BitVec.ofInt (IntKind.bits .u64) (IntKind.wrap .u64 u67) &&& BitVec.ofInt (IntKind.bits .u64) (4294967295 : Int))) : Int) * IntKind.wrap .u64 (↑(BitVec.toNat (BitVec.ofInt (IntKind.bits .u64) (1000000 : Int) &&& BitVec.ofInt (IntKind.bits .u64) (4294967295 : Int))) : Int))) ((2 : Int) ^ min (32 : Nat) (IntKind.bits .u64)))) &&& BitVec.ofInt (IntKind.bits .u64) (4294967295 : Int))) : Int) + IntKind.wrap .u64 (IntKind.wrap .u64 (↑(BitVec.toNat (BitVec.ofInt (IntKind.bits .u64) (IntKind.wrap .u64 u67) &&& BitVec.ofInt (IntKind.bits .u64) (4294967295 : Int))) : Int) * Int.fdiv (1000000 : Int) ((2 : Int) ^ min (32 : Nat) (IntKind.bits .u64))))) ((2 : Int) ^ min (32 : Nat) (IntKind.bits .u64)))) (IntKind.wrap .u64 (IntKind.wrap .u64 u67 * (1000000 : Int))) (IntKind.wrap .u64 (IntKind.wrap .i64 (u68 * u13))))).2 > (0 : Int)) = r.2) ∧
 True)))))))))))) = _) ?_
  refine ob_t ?_
  refine call_s h fun h => ?_
  refine ob_t ?_
  refine ob_t ?_
  refine ob_t ?_
  refine call_s h fun h => ?_
  refine ob_t ?_
  refine ob_t ?_
  refine ob_t ?_
  exact ret_s h (fun e => by subst e; exact (by repeat' (first | exact trivial | exact ⟨rfl⟩ | refine And.intro ?_ ?_)))
set_option maxRecDepth 100000 in
theorem G_decay_centre_1_ok : SpecOK Tryd.prog 87 true (pureT y97 y98) := by
  refine pureT_ok (sp := (sp_88 (sp_89 sp0))) (fn := Tryd.f87) (body := bodyOf Tryd.f87) mixed (sp_88_ok (sp_89_ok sp0_ok)) Tryd.func87 (by kernel_rfl) (by kernel_rfl) fun ls t h ho b hb => ?_
  unfold y98 at h
  split at h
  · rename_i u67 u68 u13 u14 u15 u16 u17 u18
    cases h
    obtain rfl := bld_eq hb
    exact ⟨Nat.le_of_ble_eq_true (by kernel_rfl), _, _, G_decay_centre_1_vc u67 u68 u13 u14 u15 u16 u17 u18 _ (ok_some ho)⟩
  · cases h
theorem sp_87_ok {sp : Specs} (h : SpecsOK Tryd.prog sp) : SpecsOK Tryd.prog (sp_87 sp) := addK_ok G_decay_centre_1_ok h
end Go.Sh
end

section
namespace Go.Sh
open Go Go.Proofs Go.RowKit Go.Sx
set_option linter.unusedVariables false
def y118 : List SV := [.c (.p [.d, .r (.floats .f32 []), .d, .d, .r (.recs 2 []), .r (.recs 2 [])])]
def y67 (u4 : List (List Int)) (x0 : (Int × Int × Int)) : Option ((Int × Int × Int) ⊕ (Int × Int)) :=
  if x0.1 < (↑(List.length u4) : Int) then
   if (0 : Int) ≤ x0.1 ∧ x0.1 < (↑(List.length u4) : Int) then
    if Int.toNat x0.1 < List.length u4 then
     Option.bind (G_plus x0.2.1 x0.2.2 (IntKind.wrap .i64 (x0.1 * List.getD (List.getD u4 (Int.toNat x0.1) []) (0 : Nat) (0 : Int))) (IntKind.wrap .i64 (x0.1 * List.getD (List.getD u4 (Int.toNat x0.1) []) (1 : Nat) (0 : Int)))) fun r0 =>
     some (.inl ((IntKind.wrap .i64 (x0.1 + (1 : Int)), IntKind.wrap .i64 (x0.2.1 + IntKind.wrap .i64 (x0.1 * List.getD (List.getD u4 (Int.toNat x0.1) []) (0 : Nat) (0 : Int))), IntKind.wrap .i64 (x0.2.2 + IntKind.wrap .i64 (x0.1 * List.getD (List.getD u4 (Int.toNat x0.1) []) (1 : Nat) (0 : Int))))))
    else none
   else none
  else
   some (.inr (x0.2.1, x0.2.2))
def y68 (u5 : Int) (u6 : List Nat) (u7 : Int) (u9 : Int) (u4 : List (List Int)) (u10 : List (List Int)) (u21 : Int × Int) : Option (Int × Int × Int) :=
  if (0 : Int) ≤ (0 : Int) ∧ (0 : Int) < (↑(List.length u10) : Int) then
   if (0 : Nat) < List.length u10 then
    Option.bind (y17 u21.1 (List.getD (List.getD u10 (0 : Nat) []) (1 : Nat) (0 : Int)) u5 u6 u7 u9 u4 u10) fun r1 =>
    if (0 : Int) ≤ (0 : Int) ∧ (0 : Int) < (↑(List.length u10) : Int) then
     if (0 : Nat) < List.length u10 then
      Option.bind (y17 u21.2 (List.getD (List.getD u10 (0 : Nat) []) (0 : Nat) (0 : Int)) u5 u6 u7 u9 u4 u10) fun r2 =>
      if (r2.2) = true then
       Option.bind (G_ceil (IntKind.wrap .i64 (IntKind.wrap .i64 ((↑(List.length u4) : Int) - (1 : Int)) * (1000000 : Int))) u5) fun r3 =>
       some ((r1.1, if r3 < IntKind.wrap .i64 (r2.1 + (1 : Int)) then r3 else IntKind.wrap .i64 (r2.1 + (1 : Int)), (0 : Int)))
      else
       Option.bind (G_ceil (IntKind.wrap .i64 (IntKind.wrap .i64 ((↑(List.length u4) : Int) - (1 : Int)) * (1000000 : Int))) u5) fun r3 =>
       some ((r1.1, if r3 < r2.1 then r3 else r2.1, (0 : Int)))
     else none
    else none
   else none
  else none
def y3 (u5 : Int) (u6 : List Nat) (u7 : Int) (u9 : Int) (u4 : List (List Int)) (u10 : List (List Int)) : Option (Int × Int × Int) :=
  if (u9 != (0 : Int)) = true then
   some (((0 : Int), (0 : Int), (23 : Int)))
  else
   if (0 : Int) ≤ (0 : Int) ∧ (0 : Int) < (↑(List.length u10) : Int) then
    if (0 : Nat) < List.length u10 then
     if (List.getD (List.getD u10 (0 : Nat) []) (0 : Nat) (0 : Int) == (0 : Int)) = true then
      some (((0 : Int), (0 : Int), (11 : Int)))
     else
      Option.bind (iter (y67 u4) big (((0 : Int), (0 : Int), (0 : Int)))) (y68 u5 u6 u7 u9 u4 u10)
    else none
   else none
def y119 : List Lf → Option GT
  | [.d (.i .i64 u5), .r (.floats .f32 u6), .d (.i .i64 u7), .d (.i .i64 u9), .r (.recs 2 u4), .r (.recs 2 u10)] => some (.leaf (ok (y3 u5 u6 u7 u9 u4 u10)) [.s [.d (.i .i64 ((val (y3 u5 u6 u7 u9 u4 u10)).1)), .d (.i .i64 ((val (y3 u5 u6 u7 u9 u4 u10)).2.1))], .c (.d (.i .i64 ((val (y3 u5 u6 u7 u9 u4 u10)).2.2)))])
  | _ => none
abbrev sp_60 : Specs → Specs := addK 60 true (pureT y118 y119)
set_option maxRecDepth 100000 in
theorem G_decay_centre_vc (u5 : Int) (u6 : List Nat) (u7 : Int) (u9 : Int) (u4 : List (List Int)) (u10 : List (List Int)) (r : Int × Int × Int) (h : Option.bind (y3 u5 u6 u7 u9 u4 u10) some = some r) : runT Tryd.f60 ((sp_83 (sp_87 (sp_81 sp0)))) (fun gs id _ => match id with
 | 1 => some ⟨(Int × Int × Int) × Nat, fun z => ⟨[(1, .w (.c (.p 4 (0 : Nat) 1 (0 : Nat)))), (2, .w (.c (.p 5 (0 : Nat) 1 (0 : Nat)))), (4, .w (.c (.p 6 (0 : Nat) 1 (0 : Nat)))), (33, .w (.c (.o 1))), (34, .w (.c (.d (.i .i64 ((↑(List.length u4) : Int)))))), (35, .w (.c (.d (.i .i64 (Prod.fst (Prod.fst z))))))], [(4, .box 95 [.p 3 (0 : Nat) 1 (0 : Nat)]), (5, .box 24 [.d (.i .i64 (0 : Int)), .d (.i .i64 (0 : Int))]), (6, .box 24 [.d (.i .i64 (Prod.fst (Prod.snd (Prod.fst z)))), .d (.i .i64 (Prod.snd (Prod.snd (Prod.fst z))))]), (1, .ext (.recs 2 u4)), (3, .ebox [.d (.i .i64 u5), .o 0, .d (.i .i64 u7), .d (.i .i64 u9), .o 1, .o 2]), (0, .ext (.floats .f32 u6)), (2, .ext (.recs 2 u10))], 7⟩, fun z => Option.bind (iter (y67 u4) (Prod.snd z) (Prod.fst z)) (fun y0 => Option.bind (y68 u5 u6 u7 u9 u4 u10 y0) some) = some r, fun z => Prod.snd z⟩
 | _ => none) (bldD y118 [.d (.i .i64 u5), .r (.floats .f32 u6), .d (.i .i64 u7), .d (.i .i64 u9), .r (.recs 2 u4), .r (.recs 2 u10)]) [.s [.d (.i .i64 r.1), .d (.i .i64 r.2.1)], .c (.d (.i .i64 r.2.2))] := by
  refine Eq.mp (by kernel_rfl : (
 (Ob (True) ∧
 Br (u9 != (0 : Int))
   ((Ob (True) ∧
 (Ob (True) ∧
 (Ob ((0 : Int) = r.1) ∧
 (Ob ((0 : Int) = r.2.1) ∧
 (Ob ((23 : Int) = r.2.2) ∧
 True))))))
   ((Ob (True) ∧
 (Ob ((0 : Int) ≤ (0 : Int) ∧ (0 : Int) < (↑(List.length u10) : Int)) ∧
 (Ob ((0 : Nat) < List.length u10) ∧
 Br (List.getD (List.getD u10 (0 : Nat) []) (0 : Nat) (0 : Int) == (0 : Int))
   ((Ob (True) ∧
 (Ob (True) ∧
 (Ob ((0 : Int) = r.1) ∧
 (Ob ((0 : Int) = r.2.1) ∧
 (Ob ((11 : Int) = r.2.2) ∧
 True))))))
   ((Ob (True) ∧
   ((∃ (v0 : (Int × Int × Int) × Nat), (Ob ((Option.bind (iter (y67 u4) v0.2 v0.1) fun y0 => Option.bind (y68 u5 u6 u7 u9 u4 u10 y0) some) = some r) ∧
 (Ob ((0 : Nat) = (0 : Nat)) ∧
 (Ob ((0 : Nat) = (0 : Nat)) ∧
 (Ob ((0 : Nat) = (0 : Nat)) ∧
 (Ob ((↑(List.length u4) : Int) = (↑(List.length u4) : Int)) ∧
 (Ob ((0 : Int) = v0.1.1) ∧
 (Ob ((0 : Nat) = (0 : Nat)) ∧
 (Ob ((0 : Int) = (0 : Int)) ∧
 (Ob ((0 : Int) = (0 : Int)) ∧
 (Ob ((0 : Int) = v0.1.2.1) ∧
 (Ob ((0 : Int) = v0.1.2.2) ∧
 (Ob (u4 = u4) ∧
 (Ob (u5 = u5) ∧
 (Ob (u7 = u7) ∧
 (Ob (u9 = u9) ∧
 (Ob (u6 = u6) ∧
 (Ob (u10 = u10) ∧
 True)))))))))))))))))) ∧
   (∀ (v0 : (Int × Int × Int) × Nat), ((Option.bind (iter (y67 u4) v0.2 v0.1) fun y0 => Option.bind (y68 u5 u6 u7 u9 u4 u10 y0) some) = some r →
 Br (decide (v0.1.1 < (↑(List.length u4) : Int)))
   ((Ob ((0 : Int) ≤ v0.1.1 ∧ v0.1.1 < (↑(List.length u4) : Int)) ∧
 (Ob (Int.toNat v0.1.1 < List.length u4) ∧
 (Ob (ok (G_plus v0.1.2.1 v0.1.2.2 (IntKind.wrap .i64 (v0.1.1 * List.getD (List.getD u4 (Int.toNat v0.1.1) []) (0 : Nat) (0 : Int))) (IntKind.wrap .i64 (v0.1.1 * List.getD (List.getD u4 (Int.toNat v0.1.1) []) (1 : Nat) (0 : Int))))) ∧
   (∃ (v1 : (Int × Int × Int) × Nat), (Ob ((Option.bind (iter (y67 u4) v1.2 v1.1) fun y0 => Option.bind (y68 u5 u6 u7 u9 u4 u10 y0) some) = some r) ∧
 (Ob (v1.2 < v0.2) ∧
 (Ob ((0 : Nat) = (0 : Nat)) ∧
 (Ob ((0 : Nat) = (0 : Nat)) ∧
 (Ob ((0 : Nat) = (0 : Nat)) ∧
 (Ob ((↑(List.length u4) : Int) = (↑(List.length u4) : Int)) ∧
 (Ob (IntKind.wrap .i64 (v0.1.1 + (1 : Int)) = v1.1.1) ∧
 (Ob ((0 : Nat) = (0 : Nat)) ∧
 (Ob ((0 : Int) = (0 : Int)) ∧
 (Ob ((0 : Int) = (0 : Int)) ∧
 (Ob (IntKind.wrap .i64 (v0.1.2.1 + IntKind.wrap .i64 (v0.1.1 * List.getD (List.getD u4 (Int.toNat v0.1.1) []) (0 : Nat) (0 : Int))) = v1.1.2.1) ∧
 (Ob (IntKind.wrap .i64 (v0.1.2.2 + IntKind.wrap .i64 (v0.1.1 * List.getD (List.getD u4 (Int.toNat v0.1.1) []) (1 : Nat) (0 : Int))) = v1.1.2.2) ∧
 (Ob (u4 = u4) ∧
 (Ob (u5 = u5) ∧
 (Ob (u7 = u7) ∧
 (Ob (u9 = u9) ∧
 (Ob (u6 = u6) ∧
 (Ob (u10 = u10) ∧
 True)))))))))))))))))))))))
   ((Ob (True) ∧
 (Ob ((0 : Int) ≤ (0 : Int) ∧ (0 : Int) < (↑(List.length u10) : Int)) ∧
 (Ob ((0 : Nat) < List.length u10) ∧
 (Ob (ok (y17 v0.1.2.1 (List.getD (List.getD u10 (0 : Nat) []) (1 : Nat) (0 : Int)) u5 u6 u7 u9 u4 u10)) ∧
 (Ob (True) ∧
 (Ob ((0 : Int) ≤ (0 : Int) ∧ (0 : Int) < (↑(List.length u10) : Int)) ∧
 (Ob ((0 : Nat) < List.length u10) ∧
 (Ob (ok (y17 v0.1.2.2 (List.getD (List.getD u10 (0 : Nat) []) (0 : Nat) (0 : Int)) u5 u6 u7 u9 u4 u10)) ∧
 Br ((val (y17 v0.1.2.2 (List.getD (List.getD u10 (0 : Nat) []) (0 : Nat) (0 : Int)) u5 u6 u7 u9 u4 u10)).2)
   ((Ob (True) ∧
 (Ob (True) ∧
 (Ob (ok (G_ceil (IntKind.wrap .i64 (IntKind.wrap .i64 ((↑(List.length u4) : Int) - (1 : Int)) * (1000000 : Int))) u5)) ∧
 (Ob (True) ∧
 (Ob (True) ∧
 (Ob ((val (y17 v0.1.2.1 (List.getD (List.getD u10 (0 : Nat) []) (1 : Nat) (0 : Int)) u5 u6 u7 u9 u4 u10)).1 = r.1) ∧
 (Ob ((if val (G_ceil (IntKind.wrap .i64 (IntKind.wrap .i64 ((↑(List.length u4) : Int) - (1 : Int)) * (1000000 : Int))) u5) < IntKind.wrap .i64 ((val (y17 v0.1.2.2 (List.getD (List.getD u10 (0 : Nat) []) (0 : Nat) (0 : Int)) u5 u6 u7 u9 u4 u10)).1 + (1 : Int)) then val (G_ceil (IntKind.wrap .i64 (IntKind.wrap .i64 ((↑(List.length u4) : Int) - (1 : Int)) * (1000000 : Int))) u5) else IntKind.wrap .i64 ((val (y17 v0.1.2.2 (List.getD (List.getD u10 (0 : Nat) []) (0 : Nat) (0 : Int)) u5 u6 u7 u9 u4 u10)).1 + (1 : Int))) = r.2.1) ∧
 (Ob ((0 : Int) = r.2.2) ∧
 True)))))))))
   ((Ob (True) ∧
 (Ob (True) ∧
 (Ob (ok (G_ceil (IntKind.wrap .i64 (IntKind.wrap .i64 ((↑(List.length u4) : Int) - (1 : Int)) * (1000000 : Int))) u5)) ∧
 (Ob (True) ∧
 (Ob (True) ∧
 (Ob ((val (y17 v0.1.2.1 (List.getD (List.getD u10 (0 : Nat) []) (1 : Nat) (0 : Int)) u5 u6 u7 u9 u4 u10)).1 = r.1) ∧
 (Ob ((if val (G_ceil (IntKind.wrap .i64 (IntKind.wrap .i64 ((↑(List.length u4) : Int) - (1 : Int)) * (1000000 : Int))) u5) < (val (y17 v0.1.2.2 (List.getD (List.getD u10 (0 : Nat) []) (0 : Nat) (0 : Int)) u5 u6 u7 u9 u4 u10)).1 then val (G_ceil (IntKind.wrap .i64 (IntKind.wrap .i64 ((↑(List.length u4) : Int) - (1 : Int)) * (1000000 : Int))) u5) else (val (y17 v0.1.2.2 (List.getD (List.getD u10 (0 : Nat) []) (0 : Nat) (0 : Int)) u5 u6 u7 u9 u4 u10)).1) = r.2.1) ∧
 (Ob ((0 : Int) = r.2.2) ∧
 True))))))))))))))))))))))))))))) = _) ?_
  refine ob_t ?_
  refine br_b h (fun h => ?_) (fun h => ?_)
  · refine ob_t ?_
    refine ob_t ?_
    exact ret_s h (fun e => by subst e; exact (by repeat' (first | exact trivial | exact ⟨rfl⟩ | refine And.intro ?_ ?_)))
  · refine ob_t ?_
    refine ob_s h fun h => ?_
    refine ob_s h fun h => ?_
    refine br_b h (fun h => ?_) (fun h => ?_)
    · refine ob_t ?_
      refine ob_t ?_
      exact ret_s h (fun e => by subst e; exact (by repeat' (first | exact trivial | exact ⟨rfl⟩ | refine And.intro ?_ ?_)))
    · refine ob_t ?_
      refine ⟨⟨(((0 : Int), (0 : Int), (0 : Int)), big), ⟨loop_s h⟩, (by repeat' (first | exact trivial | exact ⟨rfl⟩ | refine And.intro ?_ ?_))⟩, fun z4 hz4 => ?_⟩
      obtain ⟨k4, hm4, h⟩ := iter_pos hz4
      refine br_d h (fun h => ?_) (fun h => ?_)
      · refine ob_s h fun h => ?_
        refine ob_s h fun h => ?_
        refine call_s h fun h => ?_
        exact ⟨((IntKind.wrap .i64 ((Prod.fst z4).1 + (1 : Int)), IntKind.wrap .i64 ((Prod.fst z4).2.1 + IntKind.wrap .i64 ((Prod.fst z4).1 * List.getD (List.getD u4 (Int.toNat (Prod.fst z4).1) []) (0 : Nat) (0 : Int))), IntKind.wrap .i64 ((Prod.fst z4).2.2 + IntKind.wrap .i64 ((Prod.fst z4).1 * List.getD (List.getD u4 (Int.toNat (Prod.fst z4).1) []) (1 : Nat) (0 : Int)))), k4), ⟨next_s h⟩, ⟨lt_gs hm4.symm⟩, (by repeat' (first | exact trivial | exact ⟨rfl⟩ | refine And.intro ?_ ?_))⟩
      · have h := exit_s h
        refine ob_t ?_
        refine ob_s h fun h => ?_
        refine ob_s h fun h => ?_
        refine call_s h fun h => ?_
        refine ob_t ?_
        refine ob_s h fun h => ?_
        refine ob_s h fun h => ?_
        refine call_s h fun h => ?_
        refine br_b h (fun h => ?_) (fun h => ?_)
        · refine ob_t ?_
          refine ob_t ?_
          refine call_s h fun h => ?_
          refine ob_t ?_
          refine ob_t ?_
          exact ret_s h (fun e => by subst e; exact (by repeat' (first | exact trivial | exact ⟨rfl⟩ | refine And.intro ?_ ?_)))
        · refine ob_t ?_
          refine ob_t ?_
          refine call_s h fun h => ?_
          refine ob_t ?_
          refine ob_t ?_
          exact ret_s h (fun e => by subst e; exact (by repeat' (first | exact trivial | exact ⟨rfl⟩ | refine And.intro ?_ ?_)))
set_option maxRecDepth 100000 in
theorem G_decay_centre_ok : SpecOK Tryd.prog 60 true (pureT y118 y119) := by
  refine pureT_ok (sp := (sp_83 (sp_87 (sp_81 sp0)))) (fn := Tryd.f60) (body := bodyOf Tryd.f60) mixed (sp_83_ok (sp_87_ok (sp_81_ok sp0_ok))) Tryd.func60 (by kernel_rfl) (by kernel_rfl) fun ls t h ho b hb => ?_
  unfold y119 at h
  split at h
  · rename_i u5 u6 u7 u9 u4 u10
    cases h
    obtain rfl := bld_eq hb
    exact ⟨Nat.le_of_ble_eq_true (by kernel_rfl), _, _, G_decay_centre_vc u5 u6 u7 u9 u4 u10 _ (ok_some ho)⟩
  · cases h
theorem sp_60_ok {sp : Specs} (h : SpecsOK Tryd.prog sp) : SpecsOK Tryd.prog (sp_60 sp) := addK_ok G_decay_centre_ok h
end Go.Sh
end

section
namespace Go.Sh
open Go Go.Proofs Go.RowKit Go.Sx Go.Sx06 Ieee Go.Fl
section
variable {num den L : Int}
end
end Go.Sh
end

section
namespace Go.Sh
open Go Go.Proofs Go.RowKit Go.Sx Go.Sx06 Ieee Go.Fl
def tmE (time : Int) : Int := if 0 ≤ time ∧ time ≤ 1000000 then 0 else 2
theorem tm_zero {time : Int} (h : tmE time = 0) : 0 ≤ time ∧ time ≤ 1000000 := by
  unfold tmE at h
  by_cases h' : 0 ≤ time ∧ time ≤ 1000000
  · exact h'
  · rw [if_neg h'] at h; omega
theorem take_range {zs : List (List Int)} (hz : ∀ r ∈ zs, okZ r) (hl : zs.length ≤ 1024) (c : Nat) : 0 ≤ sLo (zs.take c) ∧ sLo (zs.take c) ≤ sHi (zs.take c) ∧ sHi (zs.take c) ≤ 5000000000000 := by
  have := s_range (zs := zs.take c) fun r hr => hz r (List.mem_of_mem_take hr)
  have h2 : ((zs.take c).length : Int) ≤ 1024 := by rw [List.length_take]; omega
  omega
theorem drop_range {zs : List (List Int)} (hz : ∀ r ∈ zs, okZ r) (hl : zs.length ≤ 1024) (c : Nat) : 0 ≤ sLo (zs.drop c) ∧ sLo (zs.drop c) ≤ sHi (zs.drop c) ∧ sHi (zs.drop c) ≤ 5000000000000 := by
  have := s_range (zs := zs.drop c) fun r hr => hz r (List.mem_of_mem_drop hr)
  have h2 : ((zs.drop c).length : Int) ≤ 1024 := by rw [List.length_drop]; omega
  omega
section
variable {num den : Int}
end
end Go.Sh
end

section
namespace Go.Sh
open Go Go.Proofs Go.RowKit Go.Sx Go.Sx06 Ieee Go.Fl
section
variable {num den n1 d1 n2 d2 : Int}
theorem mul_cut {a b c : Int} (hc : 0 < c) (h : a * c ≤ b * c) : a ≤ b := Int.le_of_mul_le_mul_right h hc
end
end Go.Sh
end

section
namespace Go.Sh
open Go Go.Proofs Go.RowKit Go.Sx Go.Sx06 Ieee Go.Fl
def dwS (el eh ll lh : Int) : Int × Int × Int := if el + ll = 0 then (0, 0, 11) else (1000 * el / (el + lh), (1000 * eh + (eh + ll) - 1) / (eh + ll), 0)
def dwW (rate : Int) (l : List Nat) (noise tail time : Int) : Int × Int × Int :=
  if (askE rate l noise tail).2 ≠ 0 then (0, 0, (askE rate l noise tail).2) else if tmE time ≠ 0 then (0, 0, tmE time) else
  dwS (sLo ((zsO noise l).take (cutN rate time l.length))) (sHi ((zsO noise l).take (cutN rate time l.length))) (sLo ((zsO noise l).drop (cutN rate time l.length))) (sHi ((zsO noise l).drop (cutN rate time l.length)) + tail)
theorem ddG_eq {rate noise tail T time : Int} {l : List Nat} {zs : List (List Int)} (hz : ZOK zs T) (hr : 8000 ≤ rate ∧ rate ≤ 192000) (ht : 0 ≤ time ∧ time ≤ 1000000) :
    y22 rate l noise tail zs (ssO zs T) time = some (dwS (sLo (zs.take (cutN rate time zs.length))) (sHi (zs.take (cutN rate time zs.length))) (sLo (zs.drop (cutN rate time zs.length))) (sHi (zs.drop (cutN rate time zs.length)) + T)) := by
  have a := take_range hz.ok hz.len (cutN rate time zs.length)
  have b := drop_range hz.ok hz.len (cutN rate time zs.length)
  have hT := hz.tail
  unfold y22
  rw [earlyG_eq hz.ok hz.len hr ht, bind_some', lateG_eq hr ht, bind_some']
  dsimp only
  generalize sLo (zs.take (cutN rate time zs.length)) = el at *
  generalize sHi (zs.take (cutN rate time zs.length)) = eh at *
  generalize sLo (zs.drop (cutN rate time zs.length)) = ll at *
  generalize sHi (zs.drop (cutN rate time zs.length)) = lh at *
  unfold dwS
  have main : ¬ el + ll = 0 → (if IntKind.wrap IntKind.i64 (el + (lh + T)) ≠ (0 : Int) then
      Option.bind (G_ceil (IntKind.wrap IntKind.i64 ((1000 : Int) * eh)) (IntKind.wrap IntKind.i64 (eh + ll))) fun r2 =>
      some ((IntKind.wrap IntKind.i64 (Int.tdiv (IntKind.wrap IntKind.i64 ((1000 : Int) * el)) (IntKind.wrap IntKind.i64 (el + (lh + T)))), r2, (0 : Int))) else none) = some (1000 * el / (el + (lh + T)), (1000 * eh + (eh + ll) - 1) / (eh + ll), 0) := by
    intro h0
    rw [wr64 (x := el + (lh + T)) (by omega), if_pos (by omega), wr64 (x := 1000 * eh) (by omega), wr64 (x := eh + ll) (by omega), wr64 (x := 1000 * el) (by omega), ceilG_eq (by omega) (by omega) (by omega), bind_some', Int.tdiv_eq_ediv_of_nonneg (by omega)]
    have h1 : 0 ≤ 1000 * el / (el + (lh + T)) := Int.ediv_nonneg (by omega) (by omega)
    have h2 : 1000 * el / (el + (lh + T)) ≤ 1000 * el := Int.ediv_le_self _ (by omega)
    rw [wr64 (by omega)]
  by_cases h1 : el = 0
  · rw [if_pos (show (el == 0) = true by simpa using h1)]
    by_cases h2 : ll = 0
    · rw [if_pos (show (ll == 0) = true by simpa using h2), if_pos (by omega)]
    · rw [if_neg (show ¬ (ll == 0) = true by simpa using h2), if_neg (show ¬ el + ll = 0 by omega)]
      exact main (by omega)
  · rw [if_neg (show ¬ (el == 0) = true by simpa using h1), if_neg (show ¬ el + ll = 0 by omega)]
    exact main (by omega)
theorem definitionWithinG_eq (rate : Int) {l : List Nat} (noise tail time : Int) (hl : l.length < 1000000000000) : y7 rate l noise tail time = some (dwW rate l noise tail time) := by
  unfold y7 dwW
  rw [open_e rate noise tail hl]
  by_cases h : (askE rate l noise tail).2 = 0
  · obtain ⟨hz, hr, hs, hl2, _, _, _⟩ := ask_zok h
    have hzl := zsO_len noise l
    rw [bne_f h, if_neg Bool.false_ne_true, open_good hl h, bind_some', if_neg (show ¬ (askE rate l noise tail).2 ≠ 0 from fun hh => hh h)]
    rw [timeErrG_eq, bind_some', show (if 0 ≤ time ∧ time ≤ 1000000 then (0 : Int) else 2) = tmE time from rfl, first_eq (by simp), bind_some', firE2, if_neg (show ¬ (0 : Int) ≠ 0 by simp)]
    by_cases ht : tmE time = 0
    · have ht' := tm_zero ht
      rw [bne_f ht, if_neg Bool.false_ne_true, if_neg (show ¬ tmE time ≠ 0 from fun hh => hh ht)]
      dsimp only
      rw [ddG_eq hz hr ht', bind_some', hzl]
    · rw [bne_t ht, if_pos rfl, if_pos (show tmE time ≠ 0 from ht)]
  · rw [bne_t h, if_pos rfl, open_bad hl h, bind_some', timeErrG_eq, bind_some', first_eq (by simp), bind_some', firE2]
    dsimp only
    rw [if_pos (show (askE rate l noise tail).2 ≠ 0 from h), bne_t h, if_pos rfl, if_pos (show (askE rate l noise tail).2 ≠ 0 from h)]
theorem def_lo {E L el lh q : Int} (h1 : 0 ≤ el ∧ el ≤ E) (h2 : 0 ≤ L ∧ L ≤ lh) (hq : q = 1000 * el / (el + lh)) (hp : 0 < el + lh) : 0 ≤ q ∧ q ≤ 1000 ∧ q * (E + L) ≤ 1000 * E := by
  have a : q * (el + lh) ≤ 1000 * el := by rw [hq]; exact Int.ediv_mul_le _ (by omega)
  have q0 : 0 ≤ q := by rw [hq]; exact Int.ediv_nonneg (by omega) (by omega)
  have q1 : q ≤ 1000 := by
    rw [hq]
    exact Int.ediv_le_of_le_mul hp (by omega)
  refine ⟨q0, q1, ?_⟩
  have b : q * L ≤ q * lh := Int.mul_le_mul_of_nonneg_left h2.2 q0
  have c : (1000 - q) * el ≤ (1000 - q) * E := Int.mul_le_mul_of_nonneg_left h1.2 (by omega)
  rw [Int.mul_add] at a ⊢
  rw [Int.sub_mul, Int.sub_mul] at c
  omega
theorem def_hi {E L eh ll q : Int} (h1 : 0 ≤ E ∧ E ≤ eh) (h2 : 0 ≤ ll ∧ ll ≤ L) (hq : q = (1000 * eh + (eh + ll) - 1) / (eh + ll)) (hp : 0 < eh + ll) (hE : eh ≤ 5000000000000) : 0 ≤ q ∧ q ≤ 1000 ∧ 1000 * E ≤ q * (E + L) := by
  have a : 1000 * eh ≤ q * (eh + ll) := by
    have := Int.lt_ediv_add_one_mul_self (1000 * eh + (eh + ll) - 1) hp
    rw [← hq, Int.add_mul, Int.one_mul] at this
    omega
  have q0 : 0 ≤ q := by rw [hq]; exact Int.ediv_nonneg (by omega) (by omega)
  have q1 : q ≤ 1000 := by
    have : q < 1001 := by rw [hq]; exact Int.ediv_lt_of_lt_mul hp (by omega)
    omega
  refine ⟨q0, q1, ?_⟩
  have b : q * ll ≤ q * L := Int.mul_le_mul_of_nonneg_left h2.2 q0
  have c : (1000 - q) * E ≤ (1000 - q) * eh := Int.mul_le_mul_of_nonneg_left h1.2 (by omega)
  rw [Int.mul_add] at a ⊢
  rw [Int.sub_mul, Int.sub_mul] at c
  omega
end Go.Sh
end

section
namespace Go.Sh
open Go Go.Proofs Go.RowKit Go.Sx Go.Sx06 Ieee Go.Fl
end Go.Sh
end

section
namespace Go.Sh
open Go Go.Proofs Go.RowKit Go.Sx Go.Sx06 Ieee Go.Fl
end Go.Sh
end

section
namespace Go.Sh
open Go Go.Proofs Go.RowKit Go.Sx Go.Sx06 Ieee Go.Fl
section
variable {lo y v n : Int} {s : Nat}
end
end Go.Sh
end

section
namespace Go.Sh
open Go Go.Proofs Go.RowKit Go.Sx Go.Sx06 Ieee Go.Fl
end Go.Sh
end

section
namespace Go.Sh
open Go Go.Proofs Go.RowKit Go.Sx Go.Sx06 Ieee Go.Fl
def cap (n rate : Int) : Int := ((n - 1) * 1000000 + rate - 1) / rate
end Go.Sh
end

section
namespace Go.Sh
open Go Go.Proofs Go.RowKit Go.Sx Go.Sx06 Ieee Go.Fl
theorem dwS_in {el1 eh1 ll1 lh1 el2 eh2 ll2 lh2 : Int} (h1 : 0 ≤ el2 ∧ el2 ≤ el1) (h2 : el1 ≤ eh1) (h3 : lh1 ≤ lh2) (h4 : 0 ≤ ll2 ∧ ll2 ≤ ll1) (h5 : ll1 ≤ lh1) (h6 : el2 ≤ eh2) (hH : eh1 ≤ eh2 ∨ ll2 = 0) (b1 : eh1 ≤ 5000000000000) (b2 : eh2 ≤ 5000000000000)
    (e : (dwS el2 eh2 ll2 lh2).2.2 = 0) : (dwS el1 eh1 ll1 lh1).2.2 = 0 ∧ (dwS el2 eh2 ll2 lh2).1 ≤ (dwS el1 eh1 ll1 lh1).1 ∧ (dwS el1 eh1 ll1 lh1).2.1 ≤ (dwS el2 eh2 ll2 lh2).2.1 ∧ (dwS el1 eh1 ll1 lh1).1 ≤ (dwS el1 eh1 ll1 lh1).2.1 := by
  unfold dwS at e ⊢
  by_cases h0 : el2 + ll2 = 0
  · rw [if_pos h0] at e; exact absurd e (by decide)
  · rw [if_neg h0, if_neg (show ¬ el1 + ll1 = 0 by omega)]
    have l2 := (def_lo (E := el1) (L := lh1) (el := el2) (lh := lh2) h1 (by omega) rfl (by omega)).2.2
    have l1 := (def_lo (E := eh1) (L := ll1) (el := el1) (lh := lh1) (by omega) (by omega) rfl (by omega)).2.2
    have u1 := def_hi (E := eh1) (L := ll1) (eh := eh1) (ll := ll1) (by omega) (by omega) rfl (by omega) b1
    refine ⟨rfl, (Int.le_ediv_iff_mul_le (by omega)).2 l2, ?_, ?_⟩
    · show (1000 * eh1 + (eh1 + ll1) - 1) / (eh1 + ll1) ≤ (1000 * eh2 + (eh2 + ll2) - 1) / (eh2 + ll2)
      rcases hH with hH | hH
      · have u2 := (def_hi (E := eh1) (L := ll1) (eh := eh2) (ll := ll2) (by omega) h4 rfl (by omega) b2).2.2
        generalize (1000 * eh2 + (eh2 + ll2) - 1) / (eh2 + ll2) = q at *
        have : (1000 * eh1 + (eh1 + ll1) - 1) / (eh1 + ll1) < q + 1 := by
          refine Int.ediv_lt_of_lt_mul (by omega) ?_
          rw [Int.add_mul q 1]
          omega
        omega
      · have : 1000 ≤ (1000 * eh2 + (eh2 + ll2) - 1) / (eh2 + ll2) := (Int.le_ediv_iff_mul_le (by omega)).2 (by omega)
        omega
    · show 1000 * el1 / (el1 + lh1) ≤ (1000 * eh1 + (eh1 + ll1) - 1) / (eh1 + ll1)
      exact mul_cut (c := eh1 + ll1) (by omega) (Int.le_trans l1 u1.2.2)
def dwZ (rate time : Int) (zs : List (List Int)) (T : Int) : Int × Int × Int :=
  dwS (sLo (zs.take (cutN rate time zs.length))) (sHi (zs.take (cutN rate time zs.length))) (sLo (zs.drop (cutN rate time zs.length))) (sHi (zs.drop (cutN rate time zs.length)) + T)
theorem sums_mono {zs : List (List Int)} (h : ∀ r ∈ zs, okZ r) {i j : Nat} (hij : i ≤ j) : sLo (zs.take i) ≤ sLo (zs.take j) ∧ sLo (zs.drop j) ≤ sLo (zs.drop i) ∧ sHi (zs.drop j) ≤ sHi (zs.drop i) := by
  obtain ⟨k, rfl⟩ : ∃ k, j = i + k := ⟨j - i, by omega⟩
  refine ⟨?_, ?_⟩
  · rw [List.take_add, sLo_append]
    have := (s_range (zs := (zs.drop i).take k) fun r hr => h r (List.mem_of_mem_drop (List.mem_of_mem_take hr))).1
    omega
  · rw [← List.drop_drop]
    exact sLo_drop_le (fun r hr => h r (List.mem_of_mem_drop hr)) k
section
variable {zs1 zs2 : List (List Int)} {T1 T2 rate time : Int}
theorem dw_nest (h : Nest zs1 T1 zs2 T2) (e : (dwZ rate time zs2 T2).2.2 = 0) :
    (dwZ rate time zs1 T1).2.2 = 0 ∧ (dwZ rate time zs2 T2).1 ≤ (dwZ rate time zs1 T1).1 ∧ (dwZ rate time zs1 T1).2.1 ≤ (dwZ rate time zs2 T2).2.1 ∧ (dwZ rate time zs1 T1).1 ≤ (dwZ rate time zs1 T1).2.1 := by
  have hl := h.len
  have ht := h.z1.tail
  unfold dwZ at e ⊢
  by_cases hm : (nAt rate time).toNat ≤ zs2.length
  · rw [show cutN rate time zs1.length = (nAt rate time).toNat by unfold cutN; omega] at *
    rw [show cutN rate time zs2.length = (nAt rate time).toNat by unfold cutN; omega] at *
    generalize (nAt rate time).toNat = c at *
    have a1 := take_range h.z1.ok h.z1.len c
    have a2 := take_range h.z2.ok h.z2.len c
    have a3 := drop_range h.z1.ok h.z1.len c
    have a4 := drop_range h.z2.ok h.z2.len c
    exact dwS_in ⟨a2.1, h.elo c hm⟩ a1.2.1 (h.hi c hm) ⟨a4.1, h.lo c hm⟩ (by omega) a2.2.1 (.inl (h.ehi c hm)) a1.2.2 a2.2.2 e
  · have hc : zs2.length ≤ cutN rate time zs1.length := by unfold cutN; omega
    rw [show cutN rate time zs2.length = zs2.length by unfold cutN; omega] at *
    generalize cutN rate time zs1.length = c at *
    have a1 := take_range h.z1.ok h.z1.len c
    have a2 := take_range h.z2.ok h.z2.len zs2.length
    have a3 := drop_range h.z1.ok h.z1.len c
    have m := sums_mono h.z1.ok hc
    have b1 := h.elo zs2.length (Nat.le_refl _)
    have b2 := h.hi zs2.length (Nat.le_refl _)
    have d0 : sLo (zs2.drop zs2.length) = 0 := by rw [List.drop_length]; rfl
    refine dwS_in ⟨a2.1, by omega⟩ a1.2.1 (by omega) (by omega) (by omega) a2.2.1 (.inr d0) a1.2.2 a2.2.2 e
end
inductive In2 : List (List Int) → List (List Int) → Prop
  | nil : In2 [] []
  | cons {r1 r2 : List Int} {l1 l2 : List (List Int)} : r2.getD 0 0 ≤ r1.getD 0 0 → r1.getD 1 0 ≤ r2.getD 1 0 → In2 l1 l2 → In2 (r1 :: l1) (r2 :: l2)
theorem In2.len {a b : List (List Int)} (h : In2 a b) : a.length = b.length := by
  induction h with
  | nil => rfl
  | cons _ _ _ ih => simp [ih]
theorem In2.sum {a b : List (List Int)} (h : In2 a b) : sLo b ≤ sLo a ∧ sHi a ≤ sHi b := by
  induction h with
  | nil => exact ⟨Int.le_refl _, Int.le_refl _⟩
  | cons h1 h2 _ ih => unfold sLo sHi; omega
theorem In2.drop {a b : List (List Int)} (h : In2 a b) : ∀ i, In2 (a.drop i) (b.drop i) := by
  induction h with
  | nil => intro i; simp; exact .nil
  | cons h1 h2 h3 ih =>
    intro i
    cases i with
    | zero => exact .cons h1 h2 h3
    | succ i => exact ih i
theorem In2.take {a b : List (List Int)} (h : In2 a b) : ∀ i, In2 (a.take i) (b.take i) := by
  induction h with
  | nil => intro i; simp; exact .nil
  | cons h1 h2 h3 ih =>
    intro i
    cases i with
    | zero => exact .nil
    | succ i => exact .cons h1 h2 (ih i)
theorem nest_of {A B zs2 : List (List Int)} {T1 T2 : Int} (h : In2 A zs2) (hB : sHi B + T1 ≤ T2) (z1 : ZOK (A ++ B) T1) (z2 : ZOK zs2 T2) : Nest (A ++ B) T1 zs2 T2 := by
  have hl := h.len
  have b0 := (s_range (zs := B) fun r hr => z1.ok r (List.mem_append_right _ hr)).1
  refine ⟨z1, z2, by rw [List.length_append]; omega, fun i hi => ?_, fun i hi => ?_, fun i hi => ?_, fun i hi => ?_⟩
  · rw [List.drop_append_of_le_length (by omega), sLo_append]
    have := (h.drop i).sum
    omega
  · rw [List.drop_append_of_le_length (by omega), sHi_append]
    have := (h.drop i).sum
    omega
  · rw [List.take_append_of_le_length (by omega)]
    exact (h.take i).sum.1
  · rw [List.take_append_of_le_length (by omega)]
    exact (h.take i).sum.2
end Go.Sh
end

section
namespace Go.Sh
open Go Go.Proofs Go.RowKit Go.Sx Go.Sx06 Ieee Go.Fl
end Go.Sh
end

section
namespace Go.Sh
open Go Go.Proofs Go.RowKit Go.Sx Go.Sx06 Ieee Go.Fl
inductive Sc2 (c : Int) : List (List Int) → List (List Int) → Prop
  | nil : Sc2 c [] []
  | cons {r1 r2 : List Int} {l1 l2 : List (List Int)} : r2.getD 0 0 = r1.getD 0 0 * c → r2.getD 1 0 = r1.getD 1 0 * c → Sc2 c l1 l2 → Sc2 c (r1 :: l1) (r2 :: l2)
section
variable {c : Int} {a b : List (List Int)}
theorem Sc2.len (h : Sc2 c a b) : b.length = a.length := by
  induction h with
  | nil => rfl
  | cons _ _ _ ih => simp [ih]
theorem Sc2.sum (h : Sc2 c a b) : sLo b = sLo a * c ∧ sHi b = sHi a * c := by
  induction h with
  | nil => simp [sLo, sHi]
  | cons h1 h2 _ ih => unfold sLo sHi; rw [Int.add_mul, Int.add_mul]; omega
theorem Sc2.drop (h : Sc2 c a b) : ∀ i, Sc2 c (a.drop i) (b.drop i) := by
  induction h with
  | nil => intro i; simp; exact .nil
  | cons h1 h2 h3 ih =>
    intro i
    cases i with
    | zero => exact .cons h1 h2 h3
    | succ i => exact ih i
theorem Sc2.take (h : Sc2 c a b) : ∀ i, Sc2 c (a.take i) (b.take i) := by
  induction h with
  | nil => intro i; simp; exact .nil
  | cons h1 h2 h3 ih =>
    intro i
    cases i with
    | zero => exact .nil
    | succ i => exact .cons h1 h2 (ih i)
end
end Go.Sh
end

section
namespace Go.Sh
open Go Go.Proofs Go.RowKit Go.Sx Go.Sx06 Ieee Go.Fl
end Go.Sh
end

section
namespace Go.Sh
open Go Go.Proofs Go.RowKit Go.Sx Go.Sx06 Ieee Go.Fl
section
variable {rate noise tail time kind : Int} {l : List Nat}
theorem decW_ok (h : (askE rate l noise tail).2 = 0) (hk : 0 ≤ kind ∧ kind ≤ 2) : decW rate l noise tail kind = decS rate (zsO noise l) tail kind := by
  unfold decW
  rw [if_neg (show ¬ (askE rate l noise tail).2 ≠ 0 from fun hh => hh h), if_neg (show ¬ ¬ (0 ≤ kind ∧ kind ≤ 2) from fun hh => hh hk)]
theorem dwW_ok (h : (askE rate l noise tail).2 = 0) (ht : tmE time = 0) : dwW rate l noise tail time = dwZ rate time (zsO noise l) tail := by
  unfold dwW dwZ
  rw [if_neg (show ¬ (askE rate l noise tail).2 ≠ 0 from fun hh => hh h), if_neg (show ¬ tmE time ≠ 0 from fun hh => hh ht), zsO_len]
theorem askE_same {n2 t2 : Int} (h1 : 0 ≤ noise ∧ noise ≤ 32767) (h2 : 0 ≤ tail ∧ tail ≤ 1000000000000) (h3 : 0 ≤ n2 ∧ n2 ≤ 32767) (h4 : 0 ≤ t2 ∧ t2 ≤ 1000000000000) : askE rate l noise tail = askE rate l n2 t2 := by
  unfold askE
  rw [if_pos (show (0 ≤ noise ∧ noise ≤ 32767) ∧ (0 ≤ tail ∧ tail ≤ 1000000000000) from ⟨h1, h2⟩), if_pos (show (0 ≤ n2 ∧ n2 ≤ 32767) ∧ (0 ≤ t2 ∧ t2 ≤ 1000000000000) from ⟨h3, h4⟩)]
end
theorem sq_mono {a b : Int} (h : 0 ≤ a ∧ a ≤ b) : a * a ≤ b * b := Int.mul_le_mul h.2 h.2 h.1 (by omega)
theorem sq_in {n1 n2 x y : Int} (h1 : 0 ≤ n1) (h : n1 + az (x - y) ≤ n2) : (sqP n2 y).getD 0 0 ≤ (sqP n1 x).getD 0 0 ∧ (sqP n1 x).getD 1 0 ≤ (sqP n2 y).getD 1 0 := by
  unfold az at h
  constructor
  · show max 0 (az y - n2) * max 0 (az y - n2) ≤ max 0 (az x - n1) * max 0 (az x - n1)
    exact sq_mono (by unfold az; omega)
  · show (az x + n1) * (az x + n1) ≤ (az y + n2) * (az y + n2)
    exact sq_mono (by unfold az; omega)
theorem in2_wid {n1 n2 : Int} (h1 : 0 ≤ n1) (h : n1 ≤ n2) : ∀ l : List Nat, In2 (zsO n1 l) (zsO n2 l)
  | [] => .nil
  | b :: l => by
    have s := sq_in (n1 := n1) (n2 := n2) (x := fi b) (y := fi b) h1 (by rw [Int.sub_self]; unfold az; omega)
    exact .cons s.1 s.2 (in2_wid h1 h l)
section
variable {l : List Nat} {g : Nat → Nat}
end
end Go.Sh
end

section
namespace Go.Sh
open Go Go.Proofs Go.RowKit Go.Sx
set_option linter.unusedVariables false
def y132 : List SV := [.c (.p [.p [.d, .r (.floats .f32 []), .d, .d, .r (.recs 2 []), .r (.recs 2 [])]])]
def y12 (u13 : Int) (u14 : List Nat) (u15 : Int) (u16 : Int) (u17 : List (List Int)) (u18 : List (List Int)) : Option (Int × Int × Int) :=
  Option.bind (y52 u13 u14 u15 u16 u17 u18 (80000 : Int)) fun r0 =>
  some (r0.1, r0.2.1, r0.2.2)
def y133 : List Lf → Option GT
  | [.d (.i .i64 u13), .r (.floats .f32 u14), .d (.i .i64 u15), .d (.i .i64 u16), .r (.recs 2 u17), .r (.recs 2 u18)] => some (.leaf (ok (y12 u13 u14 u15 u16 u17 u18)) [.s [.d (.i .i64 ((val (y12 u13 u14 u15 u16 u17 u18)).1)), .d (.i .i64 ((val (y12 u13 u14 u15 u16 u17 u18)).2.1))], .c (.d (.i .i64 ((val (y12 u13 u14 u15 u16 u17 u18)).2.2)))])
  | _ => none
abbrev sp_69 : Specs → Specs := addK 69 true (pureT y132 y133)
set_option maxRecDepth 100000 in
def G_FiguresOf_1_t (u13 : Int) (u14 : List Nat) (u15 : Int) (u16 : Int) (u17 : List (List Int)) (u18 : List (List Int)) : T (Int × Int × Int) :=
 .obT
  (.call (y52 u13 u14 u15 u16 u17 u18 (80000 : Int)) fun r0 =>
  .obT
  (.obT
  (.rc ((r0.1, r0.2.1, r0.2.2)))))
set_option maxRecDepth 100000 in
theorem G_FiguresOf_1_vc (u13 : Int) (u14 : List Nat) (u15 : Int) (u16 : Int) (u17 : List (List Int)) (u18 : List (List Int)) (r : Int × Int × Int) (h : Option.bind (y12 u13 u14 u15 u16 u17 u18) some = some r) : runT Tryd.f69 ((sp_58 sp0)) (fun _ _ _ => none) (bldD y132 [.d (.i .i64 u13), .r (.floats .f32 u14), .d (.i .i64 u15), .d (.i .i64 u16), .r (.recs 2 u17), .r (.recs 2 u18)]) [.s [.d (.i .i64 r.1), .d (.i .i64 r.2.1)], .c (.d (.i .i64 r.2.2))] :=
  T.vc (t := G_FiguresOf_1_t u13 u14 u15 u16 u17 u18) (by kernel_rfl) (by kernel_rfl) h
set_option maxRecDepth 100000 in
theorem G_FiguresOf_1_ok : SpecOK Tryd.prog 69 true (pureT y132 y133) := by
  refine pureT_ok (sp := (sp_58 sp0)) (fn := Tryd.f69) (body := bodyOf Tryd.f69) mixed (sp_58_ok sp0_ok) Tryd.func69 (by kernel_rfl) (by kernel_rfl) fun ls t h ho b hb => ?_
  unfold y133 at h
  split at h
  · rename_i u13 u14 u15 u16 u17 u18
    cases h
    obtain rfl := bld_eq hb
    exact ⟨Nat.le_of_ble_eq_true (by kernel_rfl), _, _, G_FiguresOf_1_vc u13 u14 u15 u16 u17 u18 _ (ok_some ho)⟩
  · cases h
theorem sp_69_ok {sp : Specs} (h : SpecsOK Tryd.prog sp) : SpecsOK Tryd.prog (sp_69 sp) := addK_ok G_FiguresOf_1_ok h
def y134 : List SV := [.c (.p [.p [.d, .r (.floats .f32 []), .d, .d, .r (.recs 2 []), .r (.recs 2 [])]])]
def y5 (u13 : Int) (u14 : List Nat) (u15 : Int) (u16 : Int) (u17 : List (List Int)) (u18 : List (List Int)) : Option (Int × Int × Int) :=
  Option.bind (y22 u13 u14 u15 u16 u17 u18 (50000 : Int)) fun r0 =>
  some (r0.1, r0.2.1, r0.2.2)
def y135 : List Lf → Option GT
  | [.d (.i .i64 u13), .r (.floats .f32 u14), .d (.i .i64 u15), .d (.i .i64 u16), .r (.recs 2 u17), .r (.recs 2 u18)] => some (.leaf (ok (y5 u13 u14 u15 u16 u17 u18)) [.s [.d (.i .i64 ((val (y5 u13 u14 u15 u16 u17 u18)).1)), .d (.i .i64 ((val (y5 u13 u14 u15 u16 u17 u18)).2.1))], .c (.d (.i .i64 ((val (y5 u13 u14 u15 u16 u17 u18)).2.2)))])
  | _ => none
abbrev sp_70 : Specs → Specs := addK 70 true (pureT y134 y135)
set_option maxRecDepth 100000 in
def G_FiguresOf_2_t (u13 : Int) (u14 : List Nat) (u15 : Int) (u16 : Int) (u17 : List (List Int)) (u18 : List (List Int)) : T (Int × Int × Int) :=
 .obT
  (.call (y22 u13 u14 u15 u16 u17 u18 (50000 : Int)) fun r0 =>
  .obT
  (.obT
  (.rc ((r0.1, r0.2.1, r0.2.2)))))
set_option maxRecDepth 100000 in
theorem G_FiguresOf_2_vc (u13 : Int) (u14 : List Nat) (u15 : Int) (u16 : Int) (u17 : List (List Int)) (u18 : List (List Int)) (r : Int × Int × Int) (h : Option.bind (y5 u13 u14 u15 u16 u17 u18) some = some r) : runT Tryd.f70 ((sp_59 sp0)) (fun _ _ _ => none) (bldD y134 [.d (.i .i64 u13), .r (.floats .f32 u14), .d (.i .i64 u15), .d (.i .i64 u16), .r (.recs 2 u17), .r (.recs 2 u18)]) [.s [.d (.i .i64 r.1), .d (.i .i64 r.2.1)], .c (.d (.i .i64 r.2.2))] :=
  T.vc (t := G_FiguresOf_2_t u13 u14 u15 u16 u17 u18) (by kernel_rfl) (by kernel_rfl) h
set_option maxRecDepth 100000 in
theorem G_FiguresOf_2_ok : SpecOK Tryd.prog 70 true (pureT y134 y135) := by
  refine pureT_ok (sp := (sp_59 sp0)) (fn := Tryd.f70) (body := bodyOf Tryd.f70) mixed (sp_59_ok sp0_ok) Tryd.func70 (by kernel_rfl) (by kernel_rfl) fun ls t h ho b hb => ?_
  unfold y135 at h
  split at h
  · rename_i u13 u14 u15 u16 u17 u18
    cases h
    obtain rfl := bld_eq hb
    exact ⟨Nat.le_of_ble_eq_true (by kernel_rfl), _, _, G_FiguresOf_2_vc u13 u14 u15 u16 u17 u18 _ (ok_some ho)⟩
  · cases h
theorem sp_70_ok {sp : Specs} (h : SpecsOK Tryd.prog sp) : SpecsOK Tryd.prog (sp_70 sp) := addK_ok G_FiguresOf_2_ok h
def y136 : List SV := [.c (.p [.p [.d, .r (.floats .f32 []), .d, .d, .r (.recs 2 []), .r (.recs 2 [])]]), .c (.p [.d])]
def y16 (u13 : Int) (u14 : List Nat) (u15 : Int) (u16 : Int) (u17 : List (List Int)) (u18 : List (List Int)) (v1_ : Int) : Option (Int × Int × Int) :=
  Option.bind (y26 u13 u14 u15 u16 u17 u18 v1_) fun r0 =>
  some (r0.1, r0.2.1, r0.2.2)
def y137 : List Lf → Option GT
  | [.d (.i .i64 u13), .r (.floats .f32 u14), .d (.i .i64 u15), .d (.i .i64 u16), .r (.recs 2 u17), .r (.recs 2 u18), .d (.i .i64 v1_)] => some (.leaf (ok (y16 u13 u14 u15 u16 u17 u18 v1_)) [.s [.d (.i .i64 ((val (y16 u13 u14 u15 u16 u17 u18 v1_)).1)), .d (.i .i64 ((val (y16 u13 u14 u15 u16 u17 u18 v1_)).2.1))], .c (.d (.i .i64 ((val (y16 u13 u14 u15 u16 u17 u18 v1_)).2.2)))])
  | _ => none
abbrev sp_71 : Specs → Specs := addK 71 true (pureT y136 y137)
set_option maxRecDepth 100000 in
def G_FiguresOf_3_t (u13 : Int) (u14 : List Nat) (u15 : Int) (u16 : Int) (u17 : List (List Int)) (u18 : List (List Int)) (v1_ : Int) : T (Int × Int × Int) :=
 .obT
  (.obT
  (.call (y26 u13 u14 u15 u16 u17 u18 v1_) fun r0 =>
  .obT
  (.obT
  (.rc ((r0.1, r0.2.1, r0.2.2))))))
set_option maxRecDepth 100000 in
theorem G_FiguresOf_3_vc (u13 : Int) (u14 : List Nat) (u15 : Int) (u16 : Int) (u17 : List (List Int)) (u18 : List (List Int)) (v1_ : Int) (r : Int × Int × Int) (h : Option.bind (y16 u13 u14 u15 u16 u17 u18 v1_) some = some r) : runT Tryd.f71 ((sp_57 sp0)) (fun _ _ _ => none) (bldD y136 [.d (.i .i64 u13), .r (.floats .f32 u14), .d (.i .i64 u15), .d (.i .i64 u16), .r (.recs 2 u17), .r (.recs 2 u18), .d (.i .i64 v1_)]) [.s [.d (.i .i64 r.1), .d (.i .i64 r.2.1)], .c (.d (.i .i64 r.2.2))] :=
  T.vc (t := G_FiguresOf_3_t u13 u14 u15 u16 u17 u18 v1_) (by kernel_rfl) (by kernel_rfl) h
set_option maxRecDepth 100000 in
theorem G_FiguresOf_3_ok : SpecOK Tryd.prog 71 true (pureT y136 y137) := by
  refine pureT_ok (sp := (sp_57 sp0)) (fn := Tryd.f71) (body := bodyOf Tryd.f71) mixed (sp_57_ok sp0_ok) Tryd.func71 (by kernel_rfl) (by kernel_rfl) fun ls t h ho b hb => ?_
  unfold y137 at h
  split at h
  · rename_i u13 u14 u15 u16 u17 u18 v1_
    cases h
    obtain rfl := bld_eq hb
    exact ⟨Nat.le_of_ble_eq_true (by kernel_rfl), _, _, G_FiguresOf_3_vc u13 u14 u15 u16 u17 u18 v1_ _ (ok_some ho)⟩
  · cases h
theorem sp_71_ok {sp : Specs} (h : SpecsOK Tryd.prog sp) : SpecsOK Tryd.prog (sp_71 sp) := addK_ok G_FiguresOf_3_ok h
def k_G_FiguresOf : List SV := [.a [.d, .r (.floats .f32 []), .d, .d]]
def y15 (u19 : Int) (u20 : List Nat) (u11 : Int) (u12 : Int) : Option (Bool × Bool × Bool × Bool × Bool × Bool × Int × Int × Int × Int × Int × Int × Int × Int × Int × Int × Int × Int × Int) :=
  if ((val (G_open u19 u20 u11 u12)).1 != (0 : Int)) = true then
   Option.bind (G_open u19 u20 u11 u12) fun r0 =>
   if (r0.1 != (0 : Int)) = true then
    some ((false, false, false, false, false, false, (0 : Int), (0 : Int), (0 : Int), (0 : Int), (0 : Int), (0 : Int), (0 : Int), (0 : Int), (0 : Int), (0 : Int), (0 : Int), (0 : Int), r0.1))
   else
    none   else
   Option.bind (G_open u19 u20 u11 u12) fun r0 =>
   Option.bind (y16 u19 u20 u11 u12 r0.2.1 r0.2.2 (0 : Int)) fun r1 =>
   if (r1.2.2 == (0 : Int)) = true then
    Option.bind (y16 u19 u20 u11 u12 r0.2.1 r0.2.2 (1 : Int)) fun r2 =>
    if (r2.2.2 == (0 : Int)) = true then
     Option.bind (y16 u19 u20 u11 u12 r0.2.1 r0.2.2 (2 : Int)) fun r3 =>
     if (r3.2.2 == (0 : Int)) = true then
      Option.bind (y12 u19 u20 u11 u12 r0.2.1 r0.2.2) fun r4 =>
      if (r4.2.2 == (0 : Int)) = true then
       Option.bind (y5 u19 u20 u11 u12 r0.2.1 r0.2.2) fun r5 =>
       if (r5.2.2 == (0 : Int)) = true then
        Option.bind (y3 u19 u20 u11 u12 r0.2.1 r0.2.2) fun r6 =>
        if (r6.2.2 == (0 : Int)) = true then
         some ((true, true, true, true, true, true, r1.1, r1.2.1, r2.1, r2.2.1, r3.1, r3.2.1, r4.1, r4.2.1, r5.1, r5.2.1, r6.1, r6.2.1, (0 : Int)))
        else
         some ((true, true, true, true, true, false, r1.1, r1.2.1, r2.1, r2.2.1, r3.1, r3.2.1, r4.1, r4.2.1, r5.1, r5.2.1, (0 : Int), (0 : Int), (0 : Int)))
       else
        Option.bind (y3 u19 u20 u11 u12 r0.2.1 r0.2.2) fun r6 =>
        if (r6.2.2 == (0 : Int)) = true then
         some ((true, true, true, true, false, true, r1.1, r1.2.1, r2.1, r2.2.1, r3.1, r3.2.1, r4.1, r4.2.1, (0 : Int), (0 : Int), r6.1, r6.2.1, (0 : Int)))
        else
         some ((true, true, true, true, false, false, r1.1, r1.2.1, r2.1, r2.2.1, r3.1, r3.2.1, r4.1, r4.2.1, (0 : Int), (0 : Int), (0 : Int), (0 : Int), (0 : Int)))
      else
       Option.bind (y5 u19 u20 u11 u12 r0.2.1 r0.2.2) fun r5 =>
       if (r5.2.2 == (0 : Int)) = true then
        Option.bind (y3 u19 u20 u11 u12 r0.2.1 r0.2.2) fun r6 =>
        if (r6.2.2 == (0 : Int)) = true then
         some ((true, true, true, false, true, true, r1.1, r1.2.1, r2.1, r2.2.1, r3.1, r3.2.1, (0 : Int), (0 : Int), r5.1, r5.2.1, r6.1, r6.2.1, (0 : Int)))
        else
         some ((true, true, true, false, true, false, r1.1, r1.2.1, r2.1, r2.2.1, r3.1, r3.2.1, (0 : Int), (0 : Int), r5.1, r5.2.1, (0 : Int), (0 : Int), (0 : Int)))
       else
        Option.bind (y3 u19 u20 u11 u12 r0.2.1 r0.2.2) fun r6 =>
        if (r6.2.2 == (0 : Int)) = true then
         some ((true, true, true, false, false, true, r1.1, r1.2.1, r2.1, r2.2.1, r3.1, r3.2.1, (0 : Int), (0 : Int), (0 : Int), (0 : Int), r6.1, r6.2.1, (0 : Int)))
        else
         some ((true, true, true, false, false, false, r1.1, r1.2.1, r2.1, r2.2.1, r3.1, r3.2.1, (0 : Int), (0 : Int), (0 : Int), (0 : Int), (0 : Int), (0 : Int), (0 : Int)))
     else
      Option.bind (y12 u19 u20 u11 u12 r0.2.1 r0.2.2) fun r4 =>
      if (r4.2.2 == (0 : Int)) = true then
       Option.bind (y5 u19 u20 u11 u12 r0.2.1 r0.2.2) fun r5 =>
       if (r5.2.2 == (0 : Int)) = true then
        Option.bind (y3 u19 u20 u11 u12 r0.2.1 r0.2.2) fun r6 =>
        if (r6.2.2 == (0 : Int)) = true then
         some ((true, true, false, true, true, true, r1.1, r1.2.1, r2.1, r2.2.1, (0 : Int), (0 : Int), r4.1, r4.2.1, r5.1, r5.2.1, r6.1, r6.2.1, (0 : Int)))
        else
         some ((true, true, false, true, true, false, r1.1, r1.2.1, r2.1, r2.2.1, (0 : Int), (0 : Int), r4.1, r4.2.1, r5.1, r5.2.1, (0 : Int), (0 : Int), (0 : Int)))
       else
        Option.bind (y3 u19 u20 u11 u12 r0.2.1 r0.2.2) fun r6 =>
        if (r6.2.2 == (0 : Int)) = true then
         some ((true, true, false, true, false, true, r1.1, r1.2.1, r2.1, r2.2.1, (0 : Int), (0 : Int), r4.1, r4.2.1, (0 : Int), (0 : Int), r6.1, r6.2.1, (0 : Int)))
        else
         some ((true, true, false, true, false, false, r1.1, r1.2.1, r2.1, r2.2.1, (0 : Int), (0 : Int), r4.1, r4.2.1, (0 : Int), (0 : Int), (0 : Int), (0 : Int), (0 : Int)))
      else
       Option.bind (y5 u19 u20 u11 u12 r0.2.1 r0.2.2) fun r5 =>
       if (r5.2.2 == (0 : Int)) = true then
        Option.bind (y3 u19 u20 u11 u12 r0.2.1 r0.2.2) fun r6 =>
        if (r6.2.2 == (0 : Int)) = true then
         some ((true, true, false, false, true, true, r1.1, r1.2.1, r2.1, r2.2.1, (0 : Int), (0 : Int), (0 : Int), (0 : Int), r5.1, r5.2.1, r6.1, r6.2.1, (0 : Int)))
        else
         some ((true, true, false, false, true, false, r1.1, r1.2.1, r2.1, r2.2.1, (0 : Int), (0 : Int), (0 : Int), (0 : Int), r5.1, r5.2.1, (0 : Int), (0 : Int), (0 : Int)))
       else
        Option.bind (y3 u19 u20 u11 u12 r0.2.1 r0.2.2) fun r6 =>
        if (r6.2.2 == (0 : Int)) = true then
         some ((true, true, false, false, false, true, r1.1, r1.2.1, r2.1, r2.2.1, (0 : Int), (0 : Int), (0 : Int), (0 : Int), (0 : Int), (0 : Int), r6.1, r6.2.1, (0 : Int)))
        else
         some ((true, true, false, false, false, false, r1.1, r1.2.1, r2.1, r2.2.1, (0 : Int), (0 : Int), (0 : Int), (0 : Int), (0 : Int), (0 : Int), (0 : Int), (0 : Int), (0 : Int)))
    else
     Option.bind (y16 u19 u20 u11 u12 r0.2.1 r0.2.2 (2 : Int)) fun r3 =>
     if (r3.2.2 == (0 : Int)) = true then
      Option.bind (y12 u19 u20 u11 u12 r0.2.1 r0.2.2) fun r4 =>
      if (r4.2.2 == (0 : Int)) = true then
       Option.bind (y5 u19 u20 u11 u12 r0.2.1 r0.2.2) fun r5 =>
       if (r5.2.2 == (0 : Int)) = true then
        Option.bind (y3 u19 u20 u11 u12 r0.2.1 r0.2.2) fun r6 =>
        if (r6.2.2 == (0 : Int)) = true then
         some ((true, false, true, true, true, true, r1.1, r1.2.1, (0 : Int), (0 : Int), r3.1, r3.2.1, r4.1, r4.2.1, r5.1, r5.2.1, r6.1, r6.2.1, (0 : Int)))
        else
         some ((true, false, true, true, true, false, r1.1, r1.2.1, (0 : Int), (0 : Int), r3.1, r3.2.1, r4.1, r4.2.1, r5.1, r5.2.1, (0 : Int), (0 : Int), (0 : Int)))
       else
        Option.bind (y3 u19 u20 u11 u12 r0.2.1 r0.2.2) fun r6 =>
        if (r6.2.2 == (0 : Int)) = true then
         some ((true, false, true, true, false, true, r1.1, r1.2.1, (0 : Int), (0 : Int), r3.1, r3.2.1, r4.1, r4.2.1, (0 : Int), (0 : Int), r6.1, r6.2.1, (0 : Int)))
        else
         some ((true, false, true, true, false, false, r1.1, r1.2.1, (0 : Int), (0 : Int), r3.1, r3.2.1, r4.1, r4.2.1, (0 : Int), (0 : Int), (0 : Int), (0 : Int), (0 : Int)))
      else
       Option.bind (y5 u19 u20 u11 u12 r0.2.1 r0.2.2) fun r5 =>
       if (r5.2.2 == (0 : Int)) = true then
        Option.bind (y3 u19 u20 u11 u12 r0.2.1 r0.2.2) fun r6 =>
        if (r6.2.2 == (0 : Int)) = true then
         some ((true, false, true, false, true, true, r1.1, r1.2.1, (0 : Int), (0 : Int), r3.1, r3.2.1, (0 : Int), (0 : Int), r5.1, r5.2.1, r6.1, r6.2.1, (0 : Int)))
        else
         some ((true, false, true, false, true, false, r1.1, r1.2.1, (0 : Int), (0 : Int), r3.1, r3.2.1, (0 : Int), (0 : Int), r5.1, r5.2.1, (0 : Int), (0 : Int), (0 : Int)))
       else
        Option.bind (y3 u19 u20 u11 u12 r0.2.1 r0.2.2) fun r6 =>
        if (r6.2.2 == (0 : Int)) = true then
         some ((true, false, true, false, false, true, r1.1, r1.2.1, (0 : Int), (0 : Int), r3.1, r3.2.1, (0 : Int), (0 : Int), (0 : Int), (0 : Int), r6.1, r6.2.1, (0 : Int)))
        else
         some ((true, false, true, false, false, false, r1.1, r1.2.1, (0 : Int), (0 : Int), r3.1, r3.2.1, (0 : Int), (0 : Int), (0 : Int), (0 : Int), (0 : Int), (0 : Int), (0 : Int)))
     else
      Option.bind (y12 u19 u20 u11 u12 r0.2.1 r0.2.2) fun r4 =>
      if (r4.2.2 == (0 : Int)) = true then
       Option.bind (y5 u19 u20 u11 u12 r0.2.1 r0.2.2) fun r5 =>
       if (r5.2.2 == (0 : Int)) = true then
        Option.bind (y3 u19 u20 u11 u12 r0.2.1 r0.2.2) fun r6 =>
        if (r6.2.2 == (0 : Int)) = true then
         some ((true, false, false, true, true, true, r1.1, r1.2.1, (0 : Int), (0 : Int), (0 : Int), (0 : Int), r4.1, r4.2.1, r5.1, r5.2.1, r6.1, r6.2.1, (0 : Int)))
        else
         some ((true, false, false, true, true, false, r1.1, r1.2.1, (0 : Int), (0 : Int), (0 : Int), (0 : Int), r4.1, r4.2.1, r5.1, r5.2.1, (0 : Int), (0 : Int), (0 : Int)))
       else
        Option.bind (y3 u19 u20 u11 u12 r0.2.1 r0.2.2) fun r6 =>
        if (r6.2.2 == (0 : Int)) = true then
         some ((true, false, false, true, false, true, r1.1, r1.2.1, (0 : Int), (0 : Int), (0 : Int), (0 : Int), r4.1, r4.2.1, (0 : Int), (0 : Int), r6.1, r6.2.1, (0 : Int)))
        else
         some ((true, false, false, true, false, false, r1.1, r1.2.1, (0 : Int), (0 : Int), (0 : Int), (0 : Int), r4.1, r4.2.1, (0 : Int), (0 : Int), (0 : Int), (0 : Int), (0 : Int)))
      else
       Option.bind (y5 u19 u20 u11 u12 r0.2.1 r0.2.2) fun r5 =>
       if (r5.2.2 == (0 : Int)) = true then
        Option.bind (y3 u19 u20 u11 u12 r0.2.1 r0.2.2) fun r6 =>
        if (r6.2.2 == (0 : Int)) = true then
         some ((true, false, false, false, true, true, r1.1, r1.2.1, (0 : Int), (0 : Int), (0 : Int), (0 : Int), (0 : Int), (0 : Int), r5.1, r5.2.1, r6.1, r6.2.1, (0 : Int)))
        else
         some ((true, false, false, false, true, false, r1.1, r1.2.1, (0 : Int), (0 : Int), (0 : Int), (0 : Int), (0 : Int), (0 : Int), r5.1, r5.2.1, (0 : Int), (0 : Int), (0 : Int)))
       else
        Option.bind (y3 u19 u20 u11 u12 r0.2.1 r0.2.2) fun r6 =>
        if (r6.2.2 == (0 : Int)) = true then
         some ((true, false, false, false, false, true, r1.1, r1.2.1, (0 : Int), (0 : Int), (0 : Int), (0 : Int), (0 : Int), (0 : Int), (0 : Int), (0 : Int), r6.1, r6.2.1, (0 : Int)))
        else
         some ((true, false, false, false, false, false, r1.1, r1.2.1, (0 : Int), (0 : Int), (0 : Int), (0 : Int), (0 : Int), (0 : Int), (0 : Int), (0 : Int), (0 : Int), (0 : Int), (0 : Int)))
   else
    Option.bind (y16 u19 u20 u11 u12 r0.2.1 r0.2.2 (1 : Int)) fun r2 =>
    if (r2.2.2 == (0 : Int)) = true then
     Option.bind (y16 u19 u20 u11 u12 r0.2.1 r0.2.2 (2 : Int)) fun r3 =>
     if (r3.2.2 == (0 : Int)) = true then
      Option.bind (y12 u19 u20 u11 u12 r0.2.1 r0.2.2) fun r4 =>
      if (r4.2.2 == (0 : Int)) = true then
       Option.bind (y5 u19 u20 u11 u12 r0.2.1 r0.2.2) fun r5 =>
       if (r5.2.2 == (0 : Int)) = true then
        Option.bind (y3 u19 u20 u11 u12 r0.2.1 r0.2.2) fun r6 =>
        if (r6.2.2 == (0 : Int)) = true then
         some ((false, true, true, true, true, true, (0 : Int), (0 : Int), r2.1, r2.2.1, r3.1, r3.2.1, r4.1, r4.2.1, r5.1, r5.2.1, r6.1, r6.2.1, (0 : Int)))
        else
         some ((false, true, true, true, true, false, (0 : Int), (0 : Int), r2.1, r2.2.1, r3.1, r3.2.1, r4.1, r4.2.1, r5.1, r5.2.1, (0 : Int), (0 : Int), (0 : Int)))
       else
        Option.bind (y3 u19 u20 u11 u12 r0.2.1 r0.2.2) fun r6 =>
        if (r6.2.2 == (0 : Int)) = true then
         some ((false, true, true, true, false, true, (0 : Int), (0 : Int), r2.1, r2.2.1, r3.1, r3.2.1, r4.1, r4.2.1, (0 : Int), (0 : Int), r6.1, r6.2.1, (0 : Int)))
        else
         some ((false, true, true, true, false, false, (0 : Int), (0 : Int), r2.1, r2.2.1, r3.1, r3.2.1, r4.1, r4.2.1, (0 : Int), (0 : Int), (0 : Int), (0 : Int), (0 : Int)))
      else
       Option.bind (y5 u19 u20 u11 u12 r0.2.1 r0.2.2) fun r5 =>
       if (r5.2.2 == (0 : Int)) = true then
        Option.bind (y3 u19 u20 u11 u12 r0.2.1 r0.2.2) fun r6 =>
        if (r6.2.2 == (0 : Int)) = true then
         some ((false, true, true, false, true, true, (0 : Int), (0 : Int), r2.1, r2.2.1, r3.1, r3.2.1, (0 : Int), (0 : Int), r5.1, r5.2.1, r6.1, r6.2.1, (0 : Int)))
        else
         some ((false, true, true, false, true, false, (0 : Int), (0 : Int), r2.1, r2.2.1, r3.1, r3.2.1, (0 : Int), (0 : Int), r5.1, r5.2.1, (0 : Int), (0 : Int), (0 : Int)))
       else
        Option.bind (y3 u19 u20 u11 u12 r0.2.1 r0.2.2) fun r6 =>
        if (r6.2.2 == (0 : Int)) = true then
         some ((false, true, true, false, false, true, (0 : Int), (0 : Int), r2.1, r2.2.1, r3.1, r3.2.1, (0 : Int), (0 : Int), (0 : Int), (0 : Int), r6.1, r6.2.1, (0 : Int)))
        else
         some ((false, true, true, false, false, false, (0 : Int), (0 : Int), r2.1, r2.2.1, r3.1, r3.2.1, (0 : Int), (0 : Int), (0 : Int), (0 : Int), (0 : Int), (0 : Int), (0 : Int)))
     else
      Option.bind (y12 u19 u20 u11 u12 r0.2.1 r0.2.2) fun r4 =>
      if (r4.2.2 == (0 : Int)) = true then
       Option.bind (y5 u19 u20 u11 u12 r0.2.1 r0.2.2) fun r5 =>
       if (r5.2.2 == (0 : Int)) = true then
        Option.bind (y3 u19 u20 u11 u12 r0.2.1 r0.2.2) fun r6 =>
        if (r6.2.2 == (0 : Int)) = true then
         some ((false, true, false, true, true, true, (0 : Int), (0 : Int), r2.1, r2.2.1, (0 : Int), (0 : Int), r4.1, r4.2.1, r5.1, r5.2.1, r6.1, r6.2.1, (0 : Int)))
        else
         some ((false, true, false, true, true, false, (0 : Int), (0 : Int), r2.1, r2.2.1, (0 : Int), (0 : Int), r4.1, r4.2.1, r5.1, r5.2.1, (0 : Int), (0 : Int), (0 : Int)))
       else
        Option.bind (y3 u19 u20 u11 u12 r0.2.1 r0.2.2) fun r6 =>
        if (r6.2.2 == (0 : Int)) = true then
         some ((false, true, false, true, false, true, (0 : Int), (0 : Int), r2.1, r2.2.1, (0 : Int), (0 : Int), r4.1, r4.2.1, (0 : Int), (0 : Int), r6.1, r6.2.1, (0 : Int)))
        else
         some ((false, true, false, true, false, false, (0 : Int), (0 : Int), r2.1, r2.2.1, (0 : Int), (0 : Int), r4.1, r4.2.1, (0 : Int), (0 : Int), (0 : Int), (0 : Int), (0 : Int)))
      else
       Option.bind (y5 u19 u20 u11 u12 r0.2.1 r0.2.2) fun r5 =>
       if (r5.2.2 == (0 : Int)) = true then
        Option.bind (y3 u19 u20 u11 u12 r0.2.1 r0.2.2) fun r6 =>
        if (r6.2.2 == (0 : Int)) = true then
         some ((false, true, false, false, true, true, (0 : Int), (0 : Int), r2.1, r2.2.1, (0 : Int), (0 : Int), (0 : Int), (0 : Int), r5.1, r5.2.1, r6.1, r6.2.1, (0 : Int)))
        else
         some ((false, true, false, false, true, false, (0 : Int), (0 : Int), r2.1, r2.2.1, (0 : Int), (0 : Int), (0 : Int), (0 : Int), r5.1, r5.2.1, (0 : Int), (0 : Int), (0 : Int)))
       else
        Option.bind (y3 u19 u20 u11 u12 r0.2.1 r0.2.2) fun r6 =>
        if (r6.2.2 == (0 : Int)) = true then
         some ((false, true, false, false, false, true, (0 : Int), (0 : Int), r2.1, r2.2.1, (0 : Int), (0 : Int), (0 : Int), (0 : Int), (0 : Int), (0 : Int), r6.1, r6.2.1, (0 : Int)))
        else
         some ((false, true, false, false, false, false, (0 : Int), (0 : Int), r2.1, r2.2.1, (0 : Int), (0 : Int), (0 : Int), (0 : Int), (0 : Int), (0 : Int), (0 : Int), (0 : Int), (0 : Int)))
    else
     Option.bind (y16 u19 u20 u11 u12 r0.2.1 r0.2.2 (2 : Int)) fun r3 =>
     if (r3.2.2 == (0 : Int)) = true then
      Option.bind (y12 u19 u20 u11 u12 r0.2.1 r0.2.2) fun r4 =>
      if (r4.2.2 == (0 : Int)) = true then
       Option.bind (y5 u19 u20 u11 u12 r0.2.1 r0.2.2) fun r5 =>
       if (r5.2.2 == (0 : Int)) = true then
        Option.bind (y3 u19 u20 u11 u12 r0.2.1 r0.2.2) fun r6 =>
        if (r6.2.2 == (0 : Int)) = true then
         some ((false, false, true, true, true, true, (0 : Int), (0 : Int), (0 : Int), (0 : Int), r3.1, r3.2.1, r4.1, r4.2.1, r5.1, r5.2.1, r6.1, r6.2.1, (0 : Int)))
        else
         some ((false, false, true, true, true, false, (0 : Int), (0 : Int), (0 : Int), (0 : Int), r3.1, r3.2.1, r4.1, r4.2.1, r5.1, r5.2.1, (0 : Int), (0 : Int), (0 : Int)))
       else
        Option.bind (y3 u19 u20 u11 u12 r0.2.1 r0.2.2) fun r6 =>
        if (r6.2.2 == (0 : Int)) = true then
         some ((false, false, true, true, false, true, (0 : Int), (0 : Int), (0 : Int), (0 : Int), r3.1, r3.2.1, r4.1, r4.2.1, (0 : Int), (0 : Int), r6.1, r6.2.1, (0 : Int)))
        else
         some ((false, false, true, true, false, false, (0 : Int), (0 : Int), (0 : Int), (0 : Int), r3.1, r3.2.1, r4.1, r4.2.1, (0 : Int), (0 : Int), (0 : Int), (0 : Int), (0 : Int)))
      else
       Option.bind (y5 u19 u20 u11 u12 r0.2.1 r0.2.2) fun r5 =>
       if (r5.2.2 == (0 : Int)) = true then
        Option.bind (y3 u19 u20 u11 u12 r0.2.1 r0.2.2) fun r6 =>
        if (r6.2.2 == (0 : Int)) = true then
         some ((false, false, true, false, true, true, (0 : Int), (0 : Int), (0 : Int), (0 : Int), r3.1, r3.2.1, (0 : Int), (0 : Int), r5.1, r5.2.1, r6.1, r6.2.1, (0 : Int)))
        else
         some ((false, false, true, false, true, false, (0 : Int), (0 : Int), (0 : Int), (0 : Int), r3.1, r3.2.1, (0 : Int), (0 : Int), r5.1, r5.2.1, (0 : Int), (0 : Int), (0 : Int)))
       else
        Option.bind (y3 u19 u20 u11 u12 r0.2.1 r0.2.2) fun r6 =>
        if (r6.2.2 == (0 : Int)) = true then
         some ((false, false, true, false, false, true, (0 : Int), (0 : Int), (0 : Int), (0 : Int), r3.1, r3.2.1, (0 : Int), (0 : Int), (0 : Int), (0 : Int), r6.1, r6.2.1, (0 : Int)))
        else
         some ((false, false, true, false, false, false, (0 : Int), (0 : Int), (0 : Int), (0 : Int), r3.1, r3.2.1, (0 : Int), (0 : Int), (0 : Int), (0 : Int), (0 : Int), (0 : Int), (0 : Int)))
     else
      Option.bind (y12 u19 u20 u11 u12 r0.2.1 r0.2.2) fun r4 =>
      if (r4.2.2 == (0 : Int)) = true then
       Option.bind (y5 u19 u20 u11 u12 r0.2.1 r0.2.2) fun r5 =>
       if (r5.2.2 == (0 : Int)) = true then
        Option.bind (y3 u19 u20 u11 u12 r0.2.1 r0.2.2) fun r6 =>
        if (r6.2.2 == (0 : Int)) = true then
         some ((false, false, false, true, true, true, (0 : Int), (0 : Int), (0 : Int), (0 : Int), (0 : Int), (0 : Int), r4.1, r4.2.1, r5.1, r5.2.1, r6.1, r6.2.1, (0 : Int)))
        else
         some ((false, false, false, true, true, false, (0 : Int), (0 : Int), (0 : Int), (0 : Int), (0 : Int), (0 : Int), r4.1, r4.2.1, r5.1, r5.2.1, (0 : Int), (0 : Int), (0 : Int)))
       else
        Option.bind (y3 u19 u20 u11 u12 r0.2.1 r0.2.2) fun r6 =>
        if (r6.2.2 == (0 : Int)) = true then
         some ((false, false, false, true, false, true, (0 : Int), (0 : Int), (0 : Int), (0 : Int), (0 : Int), (0 : Int), r4.1, r4.2.1, (0 : Int), (0 : Int), r6.1, r6.2.1, (0 : Int)))
        else
         some ((false, false, false, true, false, false, (0 : Int), (0 : Int), (0 : Int), (0 : Int), (0 : Int), (0 : Int), r4.1, r4.2.1, (0 : Int), (0 : Int), (0 : Int), (0 : Int), (0 : Int)))
      else
       Option.bind (y5 u19 u20 u11 u12 r0.2.1 r0.2.2) fun r5 =>
       if (r5.2.2 == (0 : Int)) = true then
        Option.bind (y3 u19 u20 u11 u12 r0.2.1 r0.2.2) fun r6 =>
        if (r6.2.2 == (0 : Int)) = true then
         some ((false, false, false, false, true, true, (0 : Int), (0 : Int), (0 : Int), (0 : Int), (0 : Int), (0 : Int), (0 : Int), (0 : Int), r5.1, r5.2.1, r6.1, r6.2.1, (0 : Int)))
        else
         some ((false, false, false, false, true, false, (0 : Int), (0 : Int), (0 : Int), (0 : Int), (0 : Int), (0 : Int), (0 : Int), (0 : Int), r5.1, r5.2.1, (0 : Int), (0 : Int), (0 : Int)))
       else
        Option.bind (y3 u19 u20 u11 u12 r0.2.1 r0.2.2) fun r6 =>
        if (r6.2.2 == (0 : Int)) = true then
         some ((false, false, false, false, false, true, (0 : Int), (0 : Int), (0 : Int), (0 : Int), (0 : Int), (0 : Int), (0 : Int), (0 : Int), (0 : Int), (0 : Int), r6.1, r6.2.1, (0 : Int)))
        else
         some ((false, false, false, false, false, false, (0 : Int), (0 : Int), (0 : Int), (0 : Int), (0 : Int), (0 : Int), (0 : Int), (0 : Int), (0 : Int), (0 : Int), (0 : Int), (0 : Int), (0 : Int)))
def g_G_FiguresOf : List Lf → Option GT
  | [.d (.i .i64 u19), .r (.floats .f32 u20), .d (.i .i64 u11), .d (.i .i64 u12)] => some (.leaf (ok (y15 u19 u20 u11 u12)) [.s [.d (.b ((val (y15 u19 u20 u11 u12)).1)), .d (.b ((val (y15 u19 u20 u11 u12)).2.1)), .d (.b ((val (y15 u19 u20 u11 u12)).2.2.1)), .d (.b ((val (y15 u19 u20 u11 u12)).2.2.2.1)), .d (.b ((val (y15 u19 u20 u11 u12)).2.2.2.2.1)), .d (.b ((val (y15 u19 u20 u11 u12)).2.2.2.2.2.1)), .d (.i .i64 ((val (y15 u19 u20 u11 u12)).2.2.2.2.2.2.1)), .d (.i .i64 ((val (y15 u19 u20 u11 u12)).2.2.2.2.2.2.2.1)), .d (.i .i64 ((val (y15 u19 u20 u11 u12)).2.2.2.2.2.2.2.2.1)), .d (.i .i64 ((val (y15 u19 u20 u11 u12)).2.2.2.2.2.2.2.2.2.1)), .d (.i .i64 ((val (y15 u19 u20 u11 u12)).2.2.2.2.2.2.2.2.2.2.1)), .d (.i .i64 ((val (y15 u19 u20 u11 u12)).2.2.2.2.2.2.2.2.2.2.2.1)), .d (.i .i64 ((val (y15 u19 u20 u11 u12)).2.2.2.2.2.2.2.2.2.2.2.2.1)), .d (.i .i64 ((val (y15 u19 u20 u11 u12)).2.2.2.2.2.2.2.2.2.2.2.2.2.1)), .d (.i .i64 ((val (y15 u19 u20 u11 u12)).2.2.2.2.2.2.2.2.2.2.2.2.2.2.1)), .d (.i .i64 ((val (y15 u19 u20 u11 u12)).2.2.2.2.2.2.2.2.2.2.2.2.2.2.2.1)), .d (.i .i64 ((val (y15 u19 u20 u11 u12)).2.2.2.2.2.2.2.2.2.2.2.2.2.2.2.2.1)), .d (.i .i64 ((val (y15 u19 u20 u11 u12)).2.2.2.2.2.2.2.2.2.2.2.2.2.2.2.2.2.1))], .c (.d (.i .i64 ((val (y15 u19 u20 u11 u12)).2.2.2.2.2.2.2.2.2.2.2.2.2.2.2.2.2.2)))])
  | _ => none
abbrev sp_37 : Specs → Specs := addK 37 true (pureT k_G_FiguresOf g_G_FiguresOf)
set_option maxRecDepth 100000 in
def G_FiguresOf_t (u19 : Int) (u20 : List Nat) (u11 : Int) (u12 : Int) : T (Bool × Bool × Bool × Bool × Bool × Bool × Int × Int × Int × Int × Int × Int × Int × Int × Int × Int × Int × Int × Int) :=
 .brB ((val (G_open u19 u20 u11 u12)).1 != (0 : Int))
  (.call (G_open u19 u20 u11 u12) fun r0 =>
  .brB (r0.1 != (0 : Int))
  (.obT
  (.obT
  (.rc (((false, false, false, false, false, false, (0 : Int), (0 : Int), (0 : Int), (0 : Int), (0 : Int), (0 : Int), (0 : Int), (0 : Int), (0 : Int), (0 : Int), (0 : Int), (0 : Int), r0.1))))))
  (.bad (fun r => False)))
  (.call (G_open u19 u20 u11 u12) fun r0 =>
  .obT
  (.obC (((0 : Int) ≤ (0 : Int) ∧ (0 : Int) < (3 : Int)) ∧ true = true) (by decide)
  (.obC ((0 : Int) ≤ (0 : Int) ∧ (0 : Int) < (6 : Int)) (by decide)
  (.obT
  (.obC (((0 : Int) ≤ (1 : Int) ∧ (1 : Int) < (3 : Int)) ∧ true = true) (by decide)
  (.obC ((0 : Int) ≤ (1 : Int) ∧ (1 : Int) < (6 : Int)) (by decide)
  (.obT
  (.obC (((0 : Int) ≤ (2 : Int) ∧ (2 : Int) < (3 : Int)) ∧ true = true) (by decide)
  (.obC ((0 : Int) ≤ (2 : Int) ∧ (2 : Int) < (6 : Int)) (by decide)
  (.obT
  (.obC ((0 : Int) ≤ (0 : Int) ∧ (0 : Int) < (6 : Int)) (by decide)
  (.call (y16 u19 u20 u11 u12 r0.2.1 r0.2.2 (0 : Int)) fun r1 =>
  .brB (r1.2.2 == (0 : Int))
  (.obC ((0 : Int) ≤ (0 : Int) ∧ (0 : Int) < (6 : Int)) (by decide)
  (.obC (true = true) (by decide)
  (.obC ((0 : Int) ≤ (0 : Int) ∧ (0 : Int) < (6 : Int)) (by decide)
  (.obC (true = true ∧ true = true) (by decide)
  (.obC ((0 : Int) ≤ (1 : Int) ∧ (1 : Int) < (6 : Int)) (by decide)
  (.call (y16 u19 u20 u11 u12 r0.2.1 r0.2.2 (1 : Int)) fun r2 =>
  .brB (r2.2.2 == (0 : Int))
  (.obC ((0 : Int) ≤ (1 : Int) ∧ (1 : Int) < (6 : Int)) (by decide)
  (.obC (true = true) (by decide)
  (.obC ((0 : Int) ≤ (1 : Int) ∧ (1 : Int) < (6 : Int)) (by decide)
  (.obC (true = true ∧ true = true) (by decide)
  (.obC ((0 : Int) ≤ (2 : Int) ∧ (2 : Int) < (6 : Int)) (by decide)
  (.call (y16 u19 u20 u11 u12 r0.2.1 r0.2.2 (2 : Int)) fun r3 =>
  .brB (r3.2.2 == (0 : Int))
  (.obC ((0 : Int) ≤ (2 : Int) ∧ (2 : Int) < (6 : Int)) (by decide)
  (.obC (true = true) (by decide)
  (.obC ((0 : Int) ≤ (2 : Int) ∧ (2 : Int) < (6 : Int)) (by decide)
  (.obC (true = true ∧ true = true) (by decide)
  (.obC ((0 : Int) ≤ (3 : Int) ∧ (3 : Int) < (6 : Int)) (by decide)
  (.call (y12 u19 u20 u11 u12 r0.2.1 r0.2.2) fun r4 =>
  .brB (r4.2.2 == (0 : Int))
  (.obC ((0 : Int) ≤ (3 : Int) ∧ (3 : Int) < (6 : Int)) (by decide)
  (.obC (true = true) (by decide)
  (.obC ((0 : Int) ≤ (3 : Int) ∧ (3 : Int) < (6 : Int)) (by decide)
  (.obC (true = true ∧ true = true) (by decide)
  (.obC ((0 : Int) ≤ (4 : Int) ∧ (4 : Int) < (6 : Int)) (by decide)
  (.call (y5 u19 u20 u11 u12 r0.2.1 r0.2.2) fun r5 =>
  .brB (r5.2.2 == (0 : Int))
  (.obC ((0 : Int) ≤ (4 : Int) ∧ (4 : Int) < (6 : Int)) (by decide)
  (.obC (true = true) (by decide)
  (.obC ((0 : Int) ≤ (4 : Int) ∧ (4 : Int) < (6 : Int)) (by decide)
  (.obC (true = true ∧ true = true) (by decide)
  (.obC ((0 : Int) ≤ (5 : Int) ∧ (5 : Int) < (6 : Int)) (by decide)
  (.call (y3 u19 u20 u11 u12 r0.2.1 r0.2.2) fun r6 =>
  .brB (r6.2.2 == (0 : Int))
  (.obC ((0 : Int) ≤ (5 : Int) ∧ (5 : Int) < (6 : Int)) (by decide)
  (.obC (true = true) (by decide)
  (.obC ((0 : Int) ≤ (5 : Int) ∧ (5 : Int) < (6 : Int)) (by decide)
  (.obC (true = true ∧ true = true) (by decide)
  (.obT
  (.obT
  (.rc (((true, true, true, true, true, true, r1.1, r1.2.1, r2.1, r2.2.1, r3.1, r3.2.1, r4.1, r4.2.1, r5.1, r5.2.1, r6.1, r6.2.1, (0 : Int)))))))))))
  (.obT
  (.obT
  (.rc (((true, true, true, true, true, false, r1.1, r1.2.1, r2.1, r2.2.1, r3.1, r3.2.1, r4.1, r4.2.1, r5.1, r5.2.1, (0 : Int), (0 : Int), (0 : Int)))))))))))))
  (.obC ((0 : Int) ≤ (5 : Int) ∧ (5 : Int) < (6 : Int)) (by decide)
  (.call (y3 u19 u20 u11 u12 r0.2.1 r0.2.2) fun r6 =>
  .brB (r6.2.2 == (0 : Int))
  (.obC ((0 : Int) ≤ (5 : Int) ∧ (5 : Int) < (6 : Int)) (by decide)
  (.obC (true = true) (by decide)
  (.obC ((0 : Int) ≤ (5 : Int) ∧ (5 : Int) < (6 : Int)) (by decide)
  (.obC (true = true ∧ true = true) (by decide)
  (.obT
  (.obT
  (.rc (((true, true, true, true, false, true, r1.1, r1.2.1, r2.1, r2.2.1, r3.1, r3.2.1, r4.1, r4.2.1, (0 : Int), (0 : Int), r6.1, r6.2.1, (0 : Int)))))))))))
  (.obT
  (.obT
  (.rc (((true, true, true, true, false, false, r1.1, r1.2.1, r2.1, r2.2.1, r3.1, r3.2.1, r4.1, r4.2.1, (0 : Int), (0 : Int), (0 : Int), (0 : Int), (0 : Int)))))))))))))))
  (.obC ((0 : Int) ≤ (4 : Int) ∧ (4 : Int) < (6 : Int)) (by decide)
  (.call (y5 u19 u20 u11 u12 r0.2.1 r0.2.2) fun r5 =>
  .brB (r5.2.2 == (0 : Int))
  (.obC ((0 : Int) ≤ (4 : Int) ∧ (4 : Int) < (6 : Int)) (by decide)
  (.obC (true = true) (by decide)
  (.obC ((0 : Int) ≤ (4 : Int) ∧ (4 : Int) < (6 : Int)) (by decide)
  (.obC (true = true ∧ true = true) (by decide)
  (.obC ((0 : Int) ≤ (5 : Int) ∧ (5 : Int) < (6 : Int)) (by decide)
  (.call (y3 u19 u20 u11 u12 r0.2.1 r0.2.2) fun r6 =>
  .brB (r6.2.2 == (0 : Int))
  (.obC ((0 : Int) ≤ (5 : Int) ∧ (5 : Int) < (6 : Int)) (by decide)
  (.obC (true = true) (by decide)
  (.obC ((0 : Int) ≤ (5 : Int) ∧ (5 : Int) < (6 : Int)) (by decide)
  (.obC (true = true ∧ true = true) (by decide)
  (.obT
  (.obT
  (.rc (((true, true, true, false, true, true, r1.1, r1.2.1, r2.1, r2.2.1, r3.1, r3.2.1, (0 : Int), (0 : Int), r5.1, r5.2.1, r6.1, r6.2.1, (0 : Int)))))))))))
  (.obT
  (.obT
  (.rc (((true, true, true, false, true, false, r1.1, r1.2.1, r2.1, r2.2.1, r3.1, r3.2.1, (0 : Int), (0 : Int), r5.1, r5.2.1, (0 : Int), (0 : Int), (0 : Int)))))))))))))
  (.obC ((0 : Int) ≤ (5 : Int) ∧ (5 : Int) < (6 : Int)) (by decide)
  (.call (y3 u19 u20 u11 u12 r0.2.1 r0.2.2) fun r6 =>
  .brB (r6.2.2 == (0 : Int))
  (.obC ((0 : Int) ≤ (5 : Int) ∧ (5 : Int) < (6 : Int)) (by decide)
  (.obC (true = true) (by decide)
  (.obC ((0 : Int) ≤ (5 : Int) ∧ (5 : Int) < (6 : Int)) (by decide)
  (.obC (true = true ∧ true = true) (by decide)
  (.obT
  (.obT
  (.rc (((true, true, true, false, false, true, r1.1, r1.2.1, r2.1, r2.2.1, r3.1, r3.2.1, (0 : Int), (0 : Int), (0 : Int), (0 : Int), r6.1, r6.2.1, (0 : Int)))))))))))
  (.obT
  (.obT
  (.rc (((true, true, true, false, false, false, r1.1, r1.2.1, r2.1, r2.2.1, r3.1, r3.2.1, (0 : Int), (0 : Int), (0 : Int), (0 : Int), (0 : Int), (0 : Int), (0 : Int)))))))))))))))))
  (.obC ((0 : Int) ≤ (3 : Int) ∧ (3 : Int) < (6 : Int)) (by decide)
  (.call (y12 u19 u20 u11 u12 r0.2.1 r0.2.2) fun r4 =>
  .brB (r4.2.2 == (0 : Int))
  (.obC ((0 : Int) ≤ (3 : Int) ∧ (3 : Int) < (6 : Int)) (by decide)
  (.obC (true = true) (by decide)
  (.obC ((0 : Int) ≤ (3 : Int) ∧ (3 : Int) < (6 : Int)) (by decide)
  (.obC (true = true ∧ true = true) (by decide)
  (.obC ((0 : Int) ≤ (4 : Int) ∧ (4 : Int) < (6 : Int)) (by decide)
  (.call (y5 u19 u20 u11 u12 r0.2.1 r0.2.2) fun r5 =>
  .brB (r5.2.2 == (0 : Int))
  (.obC ((0 : Int) ≤ (4 : Int) ∧ (4 : Int) < (6 : Int)) (by decide)
  (.obC (true = true) (by decide)
  (.obC ((0 : Int) ≤ (4 : Int) ∧ (4 : Int) < (6 : Int)) (by decide)
  (.obC (true = true ∧ true = true) (by decide)
  (.obC ((0 : Int) ≤ (5 : Int) ∧ (5 : Int) < (6 : Int)) (by decide)
  (.call (y3 u19 u20 u11 u12 r0.2.1 r0.2.2) fun r6 =>
  .brB (r6.2.2 == (0 : Int))
  (.obC ((0 : Int) ≤ (5 : Int) ∧ (5 : Int) < (6 : Int)) (by decide)
  (.obC (true = true) (by decide)
  (.obC ((0 : Int) ≤ (5 : Int) ∧ (5 : Int) < (6 : Int)) (by decide)
  (.obC (true = true ∧ true = true) (by decide)
  (.obT
  (.obT
  (.rc (((true, true, false, true, true, true, r1.1, r1.2.1, r2.1, r2.2.1, (0 : Int), (0 : Int), r4.1, r4.2.1, r5.1, r5.2.1, r6.1, r6.2.1, (0 : Int)))))))))))
  (.obT
  (.obT
  (.rc (((true, true, false, true, true, false, r1.1, r1.2.1, r2.1, r2.2.1, (0 : Int), (0 : Int), r4.1, r4.2.1, r5.1, r5.2.1, (0 : Int), (0 : Int), (0 : Int)))))))))))))
  (.obC ((0 : Int) ≤ (5 : Int) ∧ (5 : Int) < (6 : Int)) (by decide)
  (.call (y3 u19 u20 u11 u12 r0.2.1 r0.2.2) fun r6 =>
  .brB (r6.2.2 == (0 : Int))
  (.obC ((0 : Int) ≤ (5 : Int) ∧ (5 : Int) < (6 : Int)) (by decide)
  (.obC (true = true) (by decide)
  (.obC ((0 : Int) ≤ (5 : Int) ∧ (5 : Int) < (6 : Int)) (by decide)
  (.obC (true = true ∧ true = true) (by decide)
  (.obT
  (.obT
  (.rc (((true, true, false, true, false, true, r1.1, r1.2.1, r2.1, r2.2.1, (0 : Int), (0 : Int), r4.1, r4.2.1, (0 : Int), (0 : Int), r6.1, r6.2.1, (0 : Int)))))))))))
  (.obT
  (.obT
  (.rc (((true, true, false, true, false, false, r1.1, r1.2.1, r2.1, r2.2.1, (0 : Int), (0 : Int), r4.1, r4.2.1, (0 : Int), (0 : Int), (0 : Int), (0 : Int), (0 : Int)))))))))))))))
  (.obC ((0 : Int) ≤ (4 : Int) ∧ (4 : Int) < (6 : Int)) (by decide)
  (.call (y5 u19 u20 u11 u12 r0.2.1 r0.2.2) fun r5 =>
  .brB (r5.2.2 == (0 : Int))
  (.obC ((0 : Int) ≤ (4 : Int) ∧ (4 : Int) < (6 : Int)) (by decide)
  (.obC (true = true) (by decide)
  (.obC ((0 : Int) ≤ (4 : Int) ∧ (4 : Int) < (6 : Int)) (by decide)
  (.obC (true = true ∧ true = true) (by decide)
  (.obC ((0 : Int) ≤ (5 : Int) ∧ (5 : Int) < (6 : Int)) (by decide)
  (.call (y3 u19 u20 u11 u12 r0.2.1 r0.2.2) fun r6 =>
  .brB (r6.2.2 == (0 : Int))
  (.obC ((0 : Int) ≤ (5 : Int) ∧ (5 : Int) < (6 : Int)) (by decide)
  (.obC (true = true) (by decide)
  (.obC ((0 : Int) ≤ (5 : Int) ∧ (5 : Int) < (6 : Int)) (by decide)
  (.obC (true = true ∧ true = true) (by decide)
  (.obT
  (.obT
  (.rc (((true, true, false, false, true, true, r1.1, r1.2.1, r2.1, r2.2.1, (0 : Int), (0 : Int), (0 : Int), (0 : Int), r5.1, r5.2.1, r6.1, r6.2.1, (0 : Int)))))))))))
  (.obT
  (.obT
  (.rc (((true, true, false, false, true, false, r1.1, r1.2.1, r2.1, r2.2.1, (0 : Int), (0 : Int), (0 : Int), (0 : Int), r5.1, r5.2.1, (0 : Int), (0 : Int), (0 : Int)))))))))))))
  (.obC ((0 : Int) ≤ (5 : Int) ∧ (5 : Int) < (6 : Int)) (by decide)
  (.call (y3 u19 u20 u11 u12 r0.2.1 r0.2.2) fun r6 =>
  .brB (r6.2.2 == (0 : Int))
  (.obC ((0 : Int) ≤ (5 : Int) ∧ (5 : Int) < (6 : Int)) (by decide)
  (.obC (true = true) (by decide)
  (.obC ((0 : Int) ≤ (5 : Int) ∧ (5 : Int) < (6 : Int)) (by decide)
  (.obC (true = true ∧ true = true) (by decide)
  (.obT
  (.obT
  (.rc (((true, true, false, false, false, true, r1.1, r1.2.1, r2.1, r2.2.1, (0 : Int), (0 : Int), (0 : Int), (0 : Int), (0 : Int), (0 : Int), r6.1, r6.2.1, (0 : Int)))))))))))
  (.obT
  (.obT
  (.rc (((true, true, false, false, false, false, r1.1, r1.2.1, r2.1, r2.2.1, (0 : Int), (0 : Int), (0 : Int), (0 : Int), (0 : Int), (0 : Int), (0 : Int), (0 : Int), (0 : Int)))))))))))))))))))
  (.obC ((0 : Int) ≤ (2 : Int) ∧ (2 : Int) < (6 : Int)) (by decide)
  (.call (y16 u19 u20 u11 u12 r0.2.1 r0.2.2 (2 : Int)) fun r3 =>
  .brB (r3.2.2 == (0 : Int))
  (.obC ((0 : Int) ≤ (2 : Int) ∧ (2 : Int) < (6 : Int)) (by decide)
  (.obC (true = true) (by decide)
  (.obC ((0 : Int) ≤ (2 : Int) ∧ (2 : Int) < (6 : Int)) (by decide)
  (.obC (true = true ∧ true = true) (by decide)
  (.obC ((0 : Int) ≤ (3 : Int) ∧ (3 : Int) < (6 : Int)) (by decide)
  (.call (y12 u19 u20 u11 u12 r0.2.1 r0.2.2) fun r4 =>
  .brB (r4.2.2 == (0 : Int))
  (.obC ((0 : Int) ≤ (3 : Int) ∧ (3 : Int) < (6 : Int)) (by decide)
  (.obC (true = true) (by decide)
  (.obC ((0 : Int) ≤ (3 : Int) ∧ (3 : Int) < (6 : Int)) (by decide)
  (.obC (true = true ∧ true = true) (by decide)
  (.obC ((0 : Int) ≤ (4 : Int) ∧ (4 : Int) < (6 : Int)) (by decide)
  (.call (y5 u19 u20 u11 u12 r0.2.1 r0.2.2) fun r5 =>
  .brB (r5.2.2 == (0 : Int))
  (.obC ((0 : Int) ≤ (4 : Int) ∧ (4 : Int) < (6 : Int)) (by decide)
  (.obC (true = true) (by decide)
  (.obC ((0 : Int) ≤ (4 : Int) ∧ (4 : Int) < (6 : Int)) (by decide)
  (.obC (true = true ∧ true = true) (by decide)
  (.obC ((0 : Int) ≤ (5 : Int) ∧ (5 : Int) < (6 : Int)) (by decide)
  (.call (y3 u19 u20 u11 u12 r0.2.1 r0.2.2) fun r6 =>
  .brB (r6.2.2 == (0 : Int))
  (.obC ((0 : Int) ≤ (5 : Int) ∧ (5 : Int) < (6 : Int)) (by decide)
  (.obC (true = true) (by decide)
  (.obC ((0 : Int) ≤ (5 : Int) ∧ (5 : Int) < (6 : Int)) (by decide)
  (.obC (true = true ∧ true = true) (by decide)
  (.obT
  (.obT
  (.rc (((true, false, true, true, true, true, r1.1, r1.2.1, (0 : Int), (0 : Int), r3.1, r3.2.1, r4.1, r4.2.1, r5.1, r5.2.1, r6.1, r6.2.1, (0 : Int)))))))))))
  (.obT
  (.obT
  (.rc (((true, false, true, true, true, false, r1.1, r1.2.1, (0 : Int), (0 : Int), r3.1, r3.2.1, r4.1, r4.2.1, r5.1, r5.2.1, (0 : Int), (0 : Int), (0 : Int)))))))))))))
  (.obC ((0 : Int) ≤ (5 : Int) ∧ (5 : Int) < (6 : Int)) (by decide)
  (.call (y3 u19 u20 u11 u12 r0.2.1 r0.2.2) fun r6 =>
  .brB (r6.2.2 == (0 : Int))
  (.obC ((0 : Int) ≤ (5 : Int) ∧ (5 : Int) < (6 : Int)) (by decide)
  (.obC (true = true) (by decide)
  (.obC ((0 : Int) ≤ (5 : Int) ∧ (5 : Int) < (6 : Int)) (by decide)
  (.obC (true = true ∧ true = true) (by decide)
  (.obT
  (.obT
  (.rc (((true, false, true, true, false, true, r1.1, r1.2.1, (0 : Int), (0 : Int), r3.1, r3.2.1, r4.1, r4.2.1, (0 : Int), (0 : Int), r6.1, r6.2.1, (0 : Int)))))))))))
  (.obT
  (.obT
  (.rc (((true, false, true, true, false, false, r1.1, r1.2.1, (0 : Int), (0 : Int), r3.1, r3.2.1, r4.1, r4.2.1, (0 : Int), (0 : Int), (0 : Int), (0 : Int), (0 : Int)))))))))))))))
  (.obC ((0 : Int) ≤ (4 : Int) ∧ (4 : Int) < (6 : Int)) (by decide)
  (.call (y5 u19 u20 u11 u12 r0.2.1 r0.2.2) fun r5 =>
  .brB (r5.2.2 == (0 : Int))
  (.obC ((0 : Int) ≤ (4 : Int) ∧ (4 : Int) < (6 : Int)) (by decide)
  (.obC (true = true) (by decide)
  (.obC ((0 : Int) ≤ (4 : Int) ∧ (4 : Int) < (6 : Int)) (by decide)
  (.obC (true = true ∧ true = true) (by decide)
  (.obC ((0 : Int) ≤ (5 : Int) ∧ (5 : Int) < (6 : Int)) (by decide)
  (.call (y3 u19 u20 u11 u12 r0.2.1 r0.2.2) fun r6 =>
  .brB (r6.2.2 == (0 : Int))
  (.obC ((0 : Int) ≤ (5 : Int) ∧ (5 : Int) < (6 : Int)) (by decide)
  (.obC (true = true) (by decide)
  (.obC ((0 : Int) ≤ (5 : Int) ∧ (5 : Int) < (6 : Int)) (by decide)
  (.obC (true = true ∧ true = true) (by decide)
  (.obT
  (.obT
  (.rc (((true, false, true, false, true, true, r1.1, r1.2.1, (0 : Int), (0 : Int), r3.1, r3.2.1, (0 : Int), (0 : Int), r5.1, r5.2.1, r6.1, r6.2.1, (0 : Int)))))))))))
  (.obT
  (.obT
  (.rc (((true, false, true, false, true, false, r1.1, r1.2.1, (0 : Int), (0 : Int), r3.1, r3.2.1, (0 : Int), (0 : Int), r5.1, r5.2.1, (0 : Int), (0 : Int), (0 : Int)))))))))))))
  (.obC ((0 : Int) ≤ (5 : Int) ∧ (5 : Int) < (6 : Int)) (by decide)
  (.call (y3 u19 u20 u11 u12 r0.2.1 r0.2.2) fun r6 =>
  .brB (r6.2.2 == (0 : Int))
  (.obC ((0 : Int) ≤ (5 : Int) ∧ (5 : Int) < (6 : Int)) (by decide)
  (.obC (true = true) (by decide)
  (.obC ((0 : Int) ≤ (5 : Int) ∧ (5 : Int) < (6 : Int)) (by decide)
  (.obC (true = true ∧ true = true) (by decide)
  (.obT
  (.obT
  (.rc (((true, false, true, false, false, true, r1.1, r1.2.1, (0 : Int), (0 : Int), r3.1, r3.2.1, (0 : Int), (0 : Int), (0 : Int), (0 : Int), r6.1, r6.2.1, (0 : Int)))))))))))
  (.obT
  (.obT
  (.rc (((true, false, true, false, false, false, r1.1, r1.2.1, (0 : Int), (0 : Int), r3.1, r3.2.1, (0 : Int), (0 : Int), (0 : Int), (0 : Int), (0 : Int), (0 : Int), (0 : Int)))))))))))))))))
  (.obC ((0 : Int) ≤ (3 : Int) ∧ (3 : Int) < (6 : Int)) (by decide)
  (.call (y12 u19 u20 u11 u12 r0.2.1 r0.2.2) fun r4 =>
  .brB (r4.2.2 == (0 : Int))
  (.obC ((0 : Int) ≤ (3 : Int) ∧ (3 : Int) < (6 : Int)) (by decide)
  (.obC (true = true) (by decide)
  (.obC ((0 : Int) ≤ (3 : Int) ∧ (3 : Int) < (6 : Int)) (by decide)
  (.obC (true = true ∧ true = true) (by decide)
  (.obC ((0 : Int) ≤ (4 : Int) ∧ (4 : Int) < (6 : Int)) (by decide)
  (.call (y5 u19 u20 u11 u12 r0.2.1 r0.2.2) fun r5 =>
  .brB (r5.2.2 == (0 : Int))
  (.obC ((0 : Int) ≤ (4 : Int) ∧ (4 : Int) < (6 : Int)) (by decide)
  (.obC (true = true) (by decide)
  (.obC ((0 : Int) ≤ (4 : Int) ∧ (4 : Int) < (6 : Int)) (by decide)
  (.obC (true = true ∧ true = true) (by decide)
  (.obC ((0 : Int) ≤ (5 : Int) ∧ (5 : Int) < (6 : Int)) (by decide)
  (.call (y3 u19 u20 u11 u12 r0.2.1 r0.2.2) fun r6 =>
  .brB (r6.2.2 == (0 : Int))
  (.obC ((0 : Int) ≤ (5 : Int) ∧ (5 : Int) < (6 : Int)) (by decide)
  (.obC (true = true) (by decide)
  (.obC ((0 : Int) ≤ (5 : Int) ∧ (5 : Int) < (6 : Int)) (by decide)
  (.obC (true = true ∧ true = true) (by decide)
  (.obT
  (.obT
  (.rc (((true, false, false, true, true, true, r1.1, r1.2.1, (0 : Int), (0 : Int), (0 : Int), (0 : Int), r4.1, r4.2.1, r5.1, r5.2.1, r6.1, r6.2.1, (0 : Int)))))))))))
  (.obT
  (.obT
  (.rc (((true, false, false, true, true, false, r1.1, r1.2.1, (0 : Int), (0 : Int), (0 : Int), (0 : Int), r4.1, r4.2.1, r5.1, r5.2.1, (0 : Int), (0 : Int), (0 : Int)))))))))))))
  (.obC ((0 : Int) ≤ (5 : Int) ∧ (5 : Int) < (6 : Int)) (by decide)
  (.call (y3 u19 u20 u11 u12 r0.2.1 r0.2.2) fun r6 =>
  .brB (r6.2.2 == (0 : Int))
  (.obC ((0 : Int) ≤ (5 : Int) ∧ (5 : Int) < (6 : Int)) (by decide)
  (.obC (true = true) (by decide)
  (.obC ((0 : Int) ≤ (5 : Int) ∧ (5 : Int) < (6 : Int)) (by decide)
  (.obC (true = true ∧ true = true) (by decide)
  (.obT
  (.obT
  (.rc (((true, false, false, true, false, true, r1.1, r1.2.1, (0 : Int), (0 : Int), (0 : Int), (0 : Int), r4.1, r4.2.1, (0 : Int), (0 : Int), r6.1, r6.2.1, (0 : Int)))))))))))
  (.obT
  (.obT
  (.rc (((true, false, false, true, false, false, r1.1, r1.2.1, (0 : Int), (0 : Int), (0 : Int), (0 : Int), r4.1, r4.2.1, (0 : Int), (0 : Int), (0 : Int), (0 : Int), (0 : Int)))))))))))))))
  (.obC ((0 : Int) ≤ (4 : Int) ∧ (4 : Int) < (6 : Int)) (by decide)
  (.call (y5 u19 u20 u11 u12 r0.2.1 r0.2.2) fun r5 =>
  .brB (r5.2.2 == (0 : Int))
  (.obC ((0 : Int) ≤ (4 : Int) ∧ (4 : Int) < (6 : Int)) (by decide)
  (.obC (true = true) (by decide)
  (.obC ((0 : Int) ≤ (4 : Int) ∧ (4 : Int) < (6 : Int)) (by decide)
  (.obC (true = true ∧ true = true) (by decide)
  (.obC ((0 : Int) ≤ (5 : Int) ∧ (5 : Int) < (6 : Int)) (by decide)
  (.call (y3 u19 u20 u11 u12 r0.2.1 r0.2.2) fun r6 =>
  .brB (r6.2.2 == (0 : Int))
  (.obC ((0 : Int) ≤ (5 : Int) ∧ (5 : Int) < (6 : Int)) (by decide)
  (.obC (true = true) (by decide)
  (.obC ((0 : Int) ≤ (5 : Int) ∧ (5 : Int) < (6 : Int)) (by decide)
  (.obC (true = true ∧ true = true) (by decide)
  (.obT
  (.obT
  (.rc (((true, false, false, false, true, true, r1.1, r1.2.1, (0 : Int), (0 : Int), (0 : Int), (0 : Int), (0 : Int), (0 : Int), r5.1, r5.2.1, r6.1, r6.2.1, (0 : Int)))))))))))
  (.obT
  (.obT
  (.rc (((true, false, false, false, true, false, r1.1, r1.2.1, (0 : Int), (0 : Int), (0 : Int), (0 : Int), (0 : Int), (0 : Int), r5.1, r5.2.1, (0 : Int), (0 : Int), (0 : Int)))))))))))))
  (.obC ((0 : Int) ≤ (5 : Int) ∧ (5 : Int) < (6 : Int)) (by decide)
  (.call (y3 u19 u20 u11 u12 r0.2.1 r0.2.2) fun r6 =>
  .brB (r6.2.2 == (0 : Int))
  (.obC ((0 : Int) ≤ (5 : Int) ∧ (5 : Int) < (6 : Int)) (by decide)
  (.obC (true = true) (by decide)
  (.obC ((0 : Int) ≤ (5 : Int) ∧ (5 : Int) < (6 : Int)) (by decide)
  (.obC (true = true ∧ true = true) (by decide)
  (.obT
  (.obT
  (.rc (((true, false, false, false, false, true, r1.1, r1.2.1, (0 : Int), (0 : Int), (0 : Int), (0 : Int), (0 : Int), (0 : Int), (0 : Int), (0 : Int), r6.1, r6.2.1, (0 : Int)))))))))))
  (.obT
  (.obT
  (.rc (((true, false, false, false, false, false, r1.1, r1.2.1, (0 : Int), (0 : Int), (0 : Int), (0 : Int), (0 : Int), (0 : Int), (0 : Int), (0 : Int), (0 : Int), (0 : Int), (0 : Int)))))))))))))))))))))
  (.obC ((0 : Int) ≤ (1 : Int) ∧ (1 : Int) < (6 : Int)) (by decide)
  (.call (y16 u19 u20 u11 u12 r0.2.1 r0.2.2 (1 : Int)) fun r2 =>
  .brB (r2.2.2 == (0 : Int))
  (.obC ((0 : Int) ≤ (1 : Int) ∧ (1 : Int) < (6 : Int)) (by decide)
  (.obC (true = true) (by decide)
  (.obC ((0 : Int) ≤ (1 : Int) ∧ (1 : Int) < (6 : Int)) (by decide)
  (.obC (true = true ∧ true = true) (by decide)
  (.obC ((0 : Int) ≤ (2 : Int) ∧ (2 : Int) < (6 : Int)) (by decide)
  (.call (y16 u19 u20 u11 u12 r0.2.1 r0.2.2 (2 : Int)) fun r3 =>
  .brB (r3.2.2 == (0 : Int))
  (.obC ((0 : Int) ≤ (2 : Int) ∧ (2 : Int) < (6 : Int)) (by decide)
  (.obC (true = true) (by decide)
  (.obC ((0 : Int) ≤ (2 : Int) ∧ (2 : Int) < (6 : Int)) (by decide)
  (.obC (true = true ∧ true = true) (by decide)
  (.obC ((0 : Int) ≤ (3 : Int) ∧ (3 : Int) < (6 : Int)) (by decide)
  (.call (y12 u19 u20 u11 u12 r0.2.1 r0.2.2) fun r4 =>
  .brB (r4.2.2 == (0 : Int))
  (.obC ((0 : Int) ≤ (3 : Int) ∧ (3 : Int) < (6 : Int)) (by decide)
  (.obC (true = true) (by decide)
  (.obC ((0 : Int) ≤ (3 : Int) ∧ (3 : Int) < (6 : Int)) (by decide)
  (.obC (true = true ∧ true = true) (by decide)
  (.obC ((0 : Int) ≤ (4 : Int) ∧ (4 : Int) < (6 : Int)) (by decide)
  (.call (y5 u19 u20 u11 u12 r0.2.1 r0.2.2) fun r5 =>
  .brB (r5.2.2 == (0 : Int))
  (.obC ((0 : Int) ≤ (4 : Int) ∧ (4 : Int) < (6 : Int)) (by decide)
  (.obC (true = true) (by decide)
  (.obC ((0 : Int) ≤ (4 : Int) ∧ (4 : Int) < (6 : Int)) (by decide)
  (.obC (true = true ∧ true = true) (by decide)
  (.obC ((0 : Int) ≤ (5 : Int) ∧ (5 : Int) < (6 : Int)) (by decide)
  (.call (y3 u19 u20 u11 u12 r0.2.1 r0.2.2) fun r6 =>
  .brB (r6.2.2 == (0 : Int))
  (.obC ((0 : Int) ≤ (5 : Int) ∧ (5 : Int) < (6 : Int)) (by decide)
  (.obC (true = true) (by decide)
  (.obC ((0 : Int) ≤ (5 : Int) ∧ (5 : Int) < (6 : Int)) (by decide)
  (.obC (true = true ∧ true = true) (by decide)
  (.obT
  (.obT
  (.rc (((false, true, true, true, true, true, (0 : Int), (0 : Int), r2.1, r2.2.1, r3.1, r3.2.1, r4.1, r4.2.1, r5.1, r5.2.1, r6.1, r6.2.1, (0 : Int)))))))))))
  (.obT
  (.obT
  (.rc (((false, true, true, true, true, false, (0 : Int), (0 : Int), r2.1, r2.2.1, r3.1, r3.2.1, r4.1, r4.2.1, r5.1, r5.2.1, (0 : Int), (0 : Int), (0 : Int)))))))))))))
  (.obC ((0 : Int) ≤ (5 : Int) ∧ (5 : Int) < (6 : Int)) (by decide)
  (.call (y3 u19 u20 u11 u12 r0.2.1 r0.2.2) fun r6 =>
  .brB (r6.2.2 == (0 : Int))
  (.obC ((0 : Int) ≤ (5 : Int) ∧ (5 : Int) < (6 : Int)) (by decide)
  (.obC (true = true) (by decide)
  (.obC ((0 : Int) ≤ (5 : Int) ∧ (5 : Int) < (6 : Int)) (by decide)
  (.obC (true = true ∧ true = true) (by decide)
  (.obT
  (.obT
  (.rc (((false, true, true, true, false, true, (0 : Int), (0 : Int), r2.1, r2.2.1, r3.1, r3.2.1, r4.1, r4.2.1, (0 : Int), (0 : Int), r6.1, r6.2.1, (0 : Int)))))))))))
  (.obT
  (.obT
  (.rc (((false, true, true, true, false, false, (0 : Int), (0 : Int), r2.1, r2.2.1, r3.1, r3.2.1, r4.1, r4.2.1, (0 : Int), (0 : Int), (0 : Int), (0 : Int), (0 : Int)))))))))))))))
  (.obC ((0 : Int) ≤ (4 : Int) ∧ (4 : Int) < (6 : Int)) (by decide)
  (.call (y5 u19 u20 u11 u12 r0.2.1 r0.2.2) fun r5 =>
  .brB (r5.2.2 == (0 : Int))
  (.obC ((0 : Int) ≤ (4 : Int) ∧ (4 : Int) < (6 : Int)) (by decide)
  (.obC (true = true) (by decide)
  (.obC ((0 : Int) ≤ (4 : Int) ∧ (4 : Int) < (6 : Int)) (by decide)
  (.obC (true = true ∧ true = true) (by decide)
  (.obC ((0 : Int) ≤ (5 : Int) ∧ (5 : Int) < (6 : Int)) (by decide)
  (.call (y3 u19 u20 u11 u12 r0.2.1 r0.2.2) fun r6 =>
  .brB (r6.2.2 == (0 : Int))
  (.obC ((0 : Int) ≤ (5 : Int) ∧ (5 : Int) < (6 : Int)) (by decide)
  (.obC (true = true) (by decide)
  (.obC ((0 : Int) ≤ (5 : Int) ∧ (5 : Int) < (6 : Int)) (by decide)
  (.obC (true = true ∧ true = true) (by decide)
  (.obT
  (.obT
  (.rc (((false, true, true, false, true, true, (0 : Int), (0 : Int), r2.1, r2.2.1, r3.1, r3.2.1, (0 : Int), (0 : Int), r5.1, r5.2.1, r6.1, r6.2.1, (0 : Int)))))))))))
  (.obT
  (.obT
  (.rc (((false, true, true, false, true, false, (0 : Int), (0 : Int), r2.1, r2.2.1, r3.1, r3.2.1, (0 : Int), (0 : Int), r5.1, r5.2.1, (0 : Int), (0 : Int), (0 : Int)))))))))))))
  (.obC ((0 : Int) ≤ (5 : Int) ∧ (5 : Int) < (6 : Int)) (by decide)
  (.call (y3 u19 u20 u11 u12 r0.2.1 r0.2.2) fun r6 =>
  .brB (r6.2.2 == (0 : Int))
  (.obC ((0 : Int) ≤ (5 : Int) ∧ (5 : Int) < (6 : Int)) (by decide)
  (.obC (true = true) (by decide)
  (.obC ((0 : Int) ≤ (5 : Int) ∧ (5 : Int) < (6 : Int)) (by decide)
  (.obC (true = true ∧ true = true) (by decide)
  (.obT
  (.obT
  (.rc (((false, true, true, false, false, true, (0 : Int), (0 : Int), r2.1, r2.2.1, r3.1, r3.2.1, (0 : Int), (0 : Int), (0 : Int), (0 : Int), r6.1, r6.2.1, (0 : Int)))))))))))
  (.obT
  (.obT
  (.rc (((false, true, true, false, false, false, (0 : Int), (0 : Int), r2.1, r2.2.1, r3.1, r3.2.1, (0 : Int), (0 : Int), (0 : Int), (0 : Int), (0 : Int), (0 : Int), (0 : Int)))))))))))))))))
  (.obC ((0 : Int) ≤ (3 : Int) ∧ (3 : Int) < (6 : Int)) (by decide)
  (.call (y12 u19 u20 u11 u12 r0.2.1 r0.2.2) fun r4 =>
  .brB (r4.2.2 == (0 : Int))
  (.obC ((0 : Int) ≤ (3 : Int) ∧ (3 : Int) < (6 : Int)) (by decide)
  (.obC (true = true) (by decide)
  (.obC ((0 : Int) ≤ (3 : Int) ∧ (3 : Int) < (6 : Int)) (by decide)
  (.obC (true = true ∧ true = true) (by decide)
  (.obC ((0 : Int) ≤ (4 : Int) ∧ (4 : Int) < (6 : Int)) (by decide)
  (.call (y5 u19 u20 u11 u12 r0.2.1 r0.2.2) fun r5 =>
  .brB (r5.2.2 == (0 : Int))
  (.obC ((0 : Int) ≤ (4 : Int) ∧ (4 : Int) < (6 : Int)) (by decide)
  (.obC (true = true) (by decide)
  (.obC ((0 : Int) ≤ (4 : Int) ∧ (4 : Int) < (6 : Int)) (by decide)
  (.obC (true = true ∧ true = true) (by decide)
  (.obC ((0 : Int) ≤ (5 : Int) ∧ (5 : Int) < (6 : Int)) (by decide)
  (.call (y3 u19 u20 u11 u12 r0.2.1 r0.2.2) fun r6 =>
  .brB (r6.2.2 == (0 : Int))
  (.obC ((0 : Int) ≤ (5 : Int) ∧ (5 : Int) < (6 : Int)) (by decide)
  (.obC (true = true) (by decide)
  (.obC ((0 : Int) ≤ (5 : Int) ∧ (5 : Int) < (6 : Int)) (by decide)
  (.obC (true = true ∧ true = true) (by decide)
  (.obT
  (.obT
  (.rc (((false, true, false, true, true, true, (0 : Int), (0 : Int), r2.1, r2.2.1, (0 : Int), (0 : Int), r4.1, r4.2.1, r5.1, r5.2.1, r6.1, r6.2.1, (0 : Int)))))))))))
  (.obT
  (.obT
  (.rc (((false, true, false, true, true, false, (0 : Int), (0 : Int), r2.1, r2.2.1, (0 : Int), (0 : Int), r4.1, r4.2.1, r5.1, r5.2.1, (0 : Int), (0 : Int), (0 : Int)))))))))))))
  (.obC ((0 : Int) ≤ (5 : Int) ∧ (5 : Int) < (6 : Int)) (by decide)
  (.call (y3 u19 u20 u11 u12 r0.2.1 r0.2.2) fun r6 =>
  .brB (r6.2.2 == (0 : Int))
  (.obC ((0 : Int) ≤ (5 : Int) ∧ (5 : Int) < (6 : Int)) (by decide)
  (.obC (true = true) (by decide)
  (.obC ((0 : Int) ≤ (5 : Int) ∧ (5 : Int) < (6 : Int)) (by decide)
  (.obC (true = true ∧ true = true) (by decide)
  (.obT
  (.obT
  (.rc (((false, true, false, true, false, true, (0 : Int), (0 : Int), r2.1, r2.2.1, (0 : Int), (0 : Int), r4.1, r4.2.1, (0 : Int), (0 : Int), r6.1, r6.2.1, (0 : Int)))))))))))
  (.obT
  (.obT
  (.rc (((false, true, false, true, false, false, (0 : Int), (0 : Int), r2.1, r2.2.1, (0 : Int), (0 : Int), r4.1, r4.2.1, (0 : Int), (0 : Int), (0 : Int), (0 : Int), (0 : Int)))))))))))))))
  (.obC ((0 : Int) ≤ (4 : Int) ∧ (4 : Int) < (6 : Int)) (by decide)
  (.call (y5 u19 u20 u11 u12 r0.2.1 r0.2.2) fun r5 =>
  .brB (r5.2.2 == (0 : Int))
  (.obC ((0 : Int) ≤ (4 : Int) ∧ (4 : Int) < (6 : Int)) (by decide)
  (.obC (true = true) (by decide)
  (.obC ((0 : Int) ≤ (4 : Int) ∧ (4 : Int) < (6 : Int)) (by decide)
  (.obC (true = true ∧ true = true) (by decide)
  (.obC ((0 : Int) ≤ (5 : Int) ∧ (5 : Int) < (6 : Int)) (by decide)
  (.call (y3 u19 u20 u11 u12 r0.2.1 r0.2.2) fun r6 =>
  .brB (r6.2.2 == (0 : Int))
  (.obC ((0 : Int) ≤ (5 : Int) ∧ (5 : Int) < (6 : Int)) (by decide)
  (.obC (true = true) (by decide)
  (.obC ((0 : Int) ≤ (5 : Int) ∧ (5 : Int) < (6 : Int)) (by decide)
  (.obC (true = true ∧ true = true) (by decide)
  (.obT
  (.obT
  (.rc (((false, true, false, false, true, true, (0 : Int), (0 : Int), r2.1, r2.2.1, (0 : Int), (0 : Int), (0 : Int), (0 : Int), r5.1, r5.2.1, r6.1, r6.2.1, (0 : Int)))))))))))
  (.obT
  (.obT
  (.rc (((false, true, false, false, true, false, (0 : Int), (0 : Int), r2.1, r2.2.1, (0 : Int), (0 : Int), (0 : Int), (0 : Int), r5.1, r5.2.1, (0 : Int), (0 : Int), (0 : Int)))))))))))))
  (.obC ((0 : Int) ≤ (5 : Int) ∧ (5 : Int) < (6 : Int)) (by decide)
  (.call (y3 u19 u20 u11 u12 r0.2.1 r0.2.2) fun r6 =>
  .brB (r6.2.2 == (0 : Int))
  (.obC ((0 : Int) ≤ (5 : Int) ∧ (5 : Int) < (6 : Int)) (by decide)
  (.obC (true = true) (by decide)
  (.obC ((0 : Int) ≤ (5 : Int) ∧ (5 : Int) < (6 : Int)) (by decide)
  (.obC (true = true ∧ true = true) (by decide)
  (.obT
  (.obT
  (.rc (((false, true, false, false, false, true, (0 : Int), (0 : Int), r2.1, r2.2.1, (0 : Int), (0 : Int), (0 : Int), (0 : Int), (0 : Int), (0 : Int), r6.1, r6.2.1, (0 : Int)))))))))))
  (.obT
  (.obT
  (.rc (((false, true, false, false, false, false, (0 : Int), (0 : Int), r2.1, r2.2.1, (0 : Int), (0 : Int), (0 : Int), (0 : Int), (0 : Int), (0 : Int), (0 : Int), (0 : Int), (0 : Int)))))))))))))))))))
  (.obC ((0 : Int) ≤ (2 : Int) ∧ (2 : Int) < (6 : Int)) (by decide)
  (.call (y16 u19 u20 u11 u12 r0.2.1 r0.2.2 (2 : Int)) fun r3 =>
  .brB (r3.2.2 == (0 : Int))
  (.obC ((0 : Int) ≤ (2 : Int) ∧ (2 : Int) < (6 : Int)) (by decide)
  (.obC (true = true) (by decide)
  (.obC ((0 : Int) ≤ (2 : Int) ∧ (2 : Int) < (6 : Int)) (by decide)
  (.obC (true = true ∧ true = true) (by decide)
  (.obC ((0 : Int) ≤ (3 : Int) ∧ (3 : Int) < (6 : Int)) (by decide)
  (.call (y12 u19 u20 u11 u12 r0.2.1 r0.2.2) fun r4 =>
  .brB (r4.2.2 == (0 : Int))
  (.obC ((0 : Int) ≤ (3 : Int) ∧ (3 : Int) < (6 : Int)) (by decide)
  (.obC (true = true) (by decide)
  (.obC ((0 : Int) ≤ (3 : Int) ∧ (3 : Int) < (6 : Int)) (by decide)
  (.obC (true = true ∧ true = true) (by decide)
  (.obC ((0 : Int) ≤ (4 : Int) ∧ (4 : Int) < (6 : Int)) (by decide)
  (.call (y5 u19 u20 u11 u12 r0.2.1 r0.2.2) fun r5 =>
  .brB (r5.2.2 == (0 : Int))
  (.obC ((0 : Int) ≤ (4 : Int) ∧ (4 : Int) < (6 : Int)) (by decide)
  (.obC (true = true) (by decide)
  (.obC ((0 : Int) ≤ (4 : Int) ∧ (4 : Int) < (6 : Int)) (by decide)
  (.obC (true = true ∧ true = true) (by decide)
  (.obC ((0 : Int) ≤ (5 : Int) ∧ (5 : Int) < (6 : Int)) (by decide)
  (.call (y3 u19 u20 u11 u12 r0.2.1 r0.2.2) fun r6 =>
  .brB (r6.2.2 == (0 : Int))
  (.obC ((0 : Int) ≤ (5 : Int) ∧ (5 : Int) < (6 : Int)) (by decide)
  (.obC (true = true) (by decide)
  (.obC ((0 : Int) ≤ (5 : Int) ∧ (5 : Int) < (6 : Int)) (by decide)
  (.obC (true = true ∧ true = true) (by decide)
  (.obT
  (.obT
  (.rc (((false, false, true, true, true, true, (0 : Int), (0 : Int), (0 : Int), (0 : Int), r3.1, r3.2.1, r4.1, r4.2.1, r5.1, r5.2.1, r6.1, r6.2.1, (0 : Int)))))))))))
  (.obT
  (.obT
  (.rc (((false, false, true, true, true, false, (0 : Int), (0 : Int), (0 : Int), (0 : Int), r3.1, r3.2.1, r4.1, r4.2.1, r5.1, r5.2.1, (0 : Int), (0 : Int), (0 : Int)))))))))))))
  (.obC ((0 : Int) ≤ (5 : Int) ∧ (5 : Int) < (6 : Int)) (by decide)
  (.call (y3 u19 u20 u11 u12 r0.2.1 r0.2.2) fun r6 =>
  .brB (r6.2.2 == (0 : Int))
  (.obC ((0 : Int) ≤ (5 : Int) ∧ (5 : Int) < (6 : Int)) (by decide)
  (.obC (true = true) (by decide)
  (.obC ((0 : Int) ≤ (5 : Int) ∧ (5 : Int) < (6 : Int)) (by decide)
  (.obC (true = true ∧ true = true) (by decide)
  (.obT
  (.obT
  (.rc (((false, false, true, true, false, true, (0 : Int), (0 : Int), (0 : Int), (0 : Int), r3.1, r3.2.1, r4.1, r4.2.1, (0 : Int), (0 : Int), r6.1, r6.2.1, (0 : Int)))))))))))
  (.obT
  (.obT
  (.rc (((false, false, true, true, false, false, (0 : Int), (0 : Int), (0 : Int), (0 : Int), r3.1, r3.2.1, r4.1, r4.2.1, (0 : Int), (0 : Int), (0 : Int), (0 : Int), (0 : Int)))))))))))))))
  (.obC ((0 : Int) ≤ (4 : Int) ∧ (4 : Int) < (6 : Int)) (by decide)
  (.call (y5 u19 u20 u11 u12 r0.2.1 r0.2.2) fun r5 =>
  .brB (r5.2.2 == (0 : Int))
  (.obC ((0 : Int) ≤ (4 : Int) ∧ (4 : Int) < (6 : Int)) (by decide)
  (.obC (true = true) (by decide)
  (.obC ((0 : Int) ≤ (4 : Int) ∧ (4 : Int) < (6 : Int)) (by decide)
  (.obC (true = true ∧ true = true) (by decide)
  (.obC ((0 : Int) ≤ (5 : Int) ∧ (5 : Int) < (6 : Int)) (by decide)
  (.call (y3 u19 u20 u11 u12 r0.2.1 r0.2.2) fun r6 =>
  .brB (r6.2.2 == (0 : Int))
  (.obC ((0 : Int) ≤ (5 : Int) ∧ (5 : Int) < (6 : Int)) (by decide)
  (.obC (true = true) (by decide)
  (.obC ((0 : Int) ≤ (5 : Int) ∧ (5 : Int) < (6 : Int)) (by decide)
  (.obC (true = true ∧ true = true) (by decide)
  (.obT
  (.obT
  (.rc (((false, false, true, false, true, true, (0 : Int), (0 : Int), (0 : Int), (0 : Int), r3.1, r3.2.1, (0 : Int), (0 : Int), r5.1, r5.2.1, r6.1, r6.2.1, (0 : Int)))))))))))
  (.obT
  (.obT
  (.rc (((false, false, true, false, true, false, (0 : Int), (0 : Int), (0 : Int), (0 : Int), r3.1, r3.2.1, (0 : Int), (0 : Int), r5.1, r5.2.1, (0 : Int), (0 : Int), (0 : Int)))))))))))))
  (.obC ((0 : Int) ≤ (5 : Int) ∧ (5 : Int) < (6 : Int)) (by decide)
  (.call (y3 u19 u20 u11 u12 r0.2.1 r0.2.2) fun r6 =>
  .brB (r6.2.2 == (0 : Int))
  (.obC ((0 : Int) ≤ (5 : Int) ∧ (5 : Int) < (6 : Int)) (by decide)
  (.obC (true = true) (by decide)
  (.obC ((0 : Int) ≤ (5 : Int) ∧ (5 : Int) < (6 : Int)) (by decide)
  (.obC (true = true ∧ true = true) (by decide)
  (.obT
  (.obT
  (.rc (((false, false, true, false, false, true, (0 : Int), (0 : Int), (0 : Int), (0 : Int), r3.1, r3.2.1, (0 : Int), (0 : Int), (0 : Int), (0 : Int), r6.1, r6.2.1, (0 : Int)))))))))))
  (.obT
  (.obT
  (.rc (((false, false, true, false, false, false, (0 : Int), (0 : Int), (0 : Int), (0 : Int), r3.1, r3.2.1, (0 : Int), (0 : Int), (0 : Int), (0 : Int), (0 : Int), (0 : Int), (0 : Int)))))))))))))))))
  (.obC ((0 : Int) ≤ (3 : Int) ∧ (3 : Int) < (6 : Int)) (by decide)
  (.call (y12 u19 u20 u11 u12 r0.2.1 r0.2.2) fun r4 =>
  .brB (r4.2.2 == (0 : Int))
  (.obC ((0 : Int) ≤ (3 : Int) ∧ (3 : Int) < (6 : Int)) (by decide)
  (.obC (true = true) (by decide)
  (.obC ((0 : Int) ≤ (3 : Int) ∧ (3 : Int) < (6 : Int)) (by decide)
  (.obC (true = true ∧ true = true) (by decide)
  (.obC ((0 : Int) ≤ (4 : Int) ∧ (4 : Int) < (6 : Int)) (by decide)
  (.call (y5 u19 u20 u11 u12 r0.2.1 r0.2.2) fun r5 =>
  .brB (r5.2.2 == (0 : Int))
  (.obC ((0 : Int) ≤ (4 : Int) ∧ (4 : Int) < (6 : Int)) (by decide)
  (.obC (true = true) (by decide)
  (.obC ((0 : Int) ≤ (4 : Int) ∧ (4 : Int) < (6 : Int)) (by decide)
  (.obC (true = true ∧ true = true) (by decide)
  (.obC ((0 : Int) ≤ (5 : Int) ∧ (5 : Int) < (6 : Int)) (by decide)
  (.call (y3 u19 u20 u11 u12 r0.2.1 r0.2.2) fun r6 =>
  .brB (r6.2.2 == (0 : Int))
  (.obC ((0 : Int) ≤ (5 : Int) ∧ (5 : Int) < (6 : Int)) (by decide)
  (.obC (true = true) (by decide)
  (.obC ((0 : Int) ≤ (5 : Int) ∧ (5 : Int) < (6 : Int)) (by decide)
  (.obC (true = true ∧ true = true) (by decide)
  (.obT
  (.obT
  (.rc (((false, false, false, true, true, true, (0 : Int), (0 : Int), (0 : Int), (0 : Int), (0 : Int), (0 : Int), r4.1, r4.2.1, r5.1, r5.2.1, r6.1, r6.2.1, (0 : Int)))))))))))
  (.obT
  (.obT
  (.rc (((false, false, false, true, true, false, (0 : Int), (0 : Int), (0 : Int), (0 : Int), (0 : Int), (0 : Int), r4.1, r4.2.1, r5.1, r5.2.1, (0 : Int), (0 : Int), (0 : Int)))))))))))))
  (.obC ((0 : Int) ≤ (5 : Int) ∧ (5 : Int) < (6 : Int)) (by decide)
  (.call (y3 u19 u20 u11 u12 r0.2.1 r0.2.2) fun r6 =>
  .brB (r6.2.2 == (0 : Int))
  (.obC ((0 : Int) ≤ (5 : Int) ∧ (5 : Int) < (6 : Int)) (by decide)
  (.obC (true = true) (by decide)
  (.obC ((0 : Int) ≤ (5 : Int) ∧ (5 : Int) < (6 : Int)) (by decide)
  (.obC (true = true ∧ true = true) (by decide)
  (.obT
  (.obT
  (.rc (((false, false, false, true, false, true, (0 : Int), (0 : Int), (0 : Int), (0 : Int), (0 : Int), (0 : Int), r4.1, r4.2.1, (0 : Int), (0 : Int), r6.1, r6.2.1, (0 : Int)))))))))))
  (.obT
  (.obT
  (.rc (((false, false, false, true, false, false, (0 : Int), (0 : Int), (0 : Int), (0 : Int), (0 : Int), (0 : Int), r4.1, r4.2.1, (0 : Int), (0 : Int), (0 : Int), (0 : Int), (0 : Int)))))))))))))))
  (.obC ((0 : Int) ≤ (4 : Int) ∧ (4 : Int) < (6 : Int)) (by decide)
  (.call (y5 u19 u20 u11 u12 r0.2.1 r0.2.2) fun r5 =>
  .brB (r5.2.2 == (0 : Int))
  (.obC ((0 : Int) ≤ (4 : Int) ∧ (4 : Int) < (6 : Int)) (by decide)
  (.obC (true = true) (by decide)
  (.obC ((0 : Int) ≤ (4 : Int) ∧ (4 : Int) < (6 : Int)) (by decide)
  (.obC (true = true ∧ true = true) (by decide)
  (.obC ((0 : Int) ≤ (5 : Int) ∧ (5 : Int) < (6 : Int)) (by decide)
  (.call (y3 u19 u20 u11 u12 r0.2.1 r0.2.2) fun r6 =>
  .brB (r6.2.2 == (0 : Int))
  (.obC ((0 : Int) ≤ (5 : Int) ∧ (5 : Int) < (6 : Int)) (by decide)
  (.obC (true = true) (by decide)
  (.obC ((0 : Int) ≤ (5 : Int) ∧ (5 : Int) < (6 : Int)) (by decide)
  (.obC (true = true ∧ true = true) (by decide)
  (.obT
  (.obT
  (.rc (((false, false, false, false, true, true, (0 : Int), (0 : Int), (0 : Int), (0 : Int), (0 : Int), (0 : Int), (0 : Int), (0 : Int), r5.1, r5.2.1, r6.1, r6.2.1, (0 : Int)))))))))))
  (.obT
  (.obT
  (.rc (((false, false, false, false, true, false, (0 : Int), (0 : Int), (0 : Int), (0 : Int), (0 : Int), (0 : Int), (0 : Int), (0 : Int), r5.1, r5.2.1, (0 : Int), (0 : Int), (0 : Int)))))))))))))
  (.obC ((0 : Int) ≤ (5 : Int) ∧ (5 : Int) < (6 : Int)) (by decide)
  (.call (y3 u19 u20 u11 u12 r0.2.1 r0.2.2) fun r6 =>
  .brB (r6.2.2 == (0 : Int))
  (.obC ((0 : Int) ≤ (5 : Int) ∧ (5 : Int) < (6 : Int)) (by decide)
  (.obC (true = true) (by decide)
  (.obC ((0 : Int) ≤ (5 : Int) ∧ (5 : Int) < (6 : Int)) (by decide)
  (.obC (true = true ∧ true = true) (by decide)
  (.obT
  (.obT
  (.rc (((false, false, false, false, false, true, (0 : Int), (0 : Int), (0 : Int), (0 : Int), (0 : Int), (0 : Int), (0 : Int), (0 : Int), (0 : Int), (0 : Int), r6.1, r6.2.1, (0 : Int)))))))))))
  (.obT
  (.obT
  (.rc (((false, false, false, false, false, false, (0 : Int), (0 : Int), (0 : Int), (0 : Int), (0 : Int), (0 : Int), (0 : Int), (0 : Int), (0 : Int), (0 : Int), (0 : Int), (0 : Int), (0 : Int)))))))))))))))))))))))))))))
set_option maxRecDepth 100000 in
theorem G_FiguresOf_vc (u19 : Int) (u20 : List Nat) (u11 : Int) (u12 : Int) (r : Bool × Bool × Bool × Bool × Bool × Bool × Int × Int × Int × Int × Int × Int × Int × Int × Int × Int × Int × Int × Int) (h : Option.bind (y15 u19 u20 u11 u12) some = some r) : runT Tryd.f37 ((sp_56 (sp_60 (sp_69 (sp_70 (sp_71 sp0)))))) (fun _ _ _ => none) (bldD k_G_FiguresOf [.d (.i .i64 u19), .r (.floats .f32 u20), .d (.i .i64 u11), .d (.i .i64 u12)]) [.s [.d (.b r.1), .d (.b r.2.1), .d (.b r.2.2.1), .d (.b r.2.2.2.1), .d (.b r.2.2.2.2.1), .d (.b r.2.2.2.2.2.1), .d (.i .i64 r.2.2.2.2.2.2.1), .d (.i .i64 r.2.2.2.2.2.2.2.1), .d (.i .i64 r.2.2.2.2.2.2.2.2.1), .d (.i .i64 r.2.2.2.2.2.2.2.2.2.1), .d (.i .i64 r.2.2.2.2.2.2.2.2.2.2.1), .d (.i .i64 r.2.2.2.2.2.2.2.2.2.2.2.1), .d (.i .i64 r.2.2.2.2.2.2.2.2.2.2.2.2.1), .d (.i .i64 r.2.2.2.2.2.2.2.2.2.2.2.2.2.1), .d (.i .i64 r.2.2.2.2.2.2.2.2.2.2.2.2.2.2.1), .d (.i .i64 r.2.2.2.2.2.2.2.2.2.2.2.2.2.2.2.1), .d (.i .i64 r.2.2.2.2.2.2.2.2.2.2.2.2.2.2.2.2.1), .d (.i .i64 r.2.2.2.2.2.2.2.2.2.2.2.2.2.2.2.2.2.1)], .c (.d (.i .i64 r.2.2.2.2.2.2.2.2.2.2.2.2.2.2.2.2.2.2))] :=
  T.vc (t := G_FiguresOf_t u19 u20 u11 u12) (by kernel_rfl) (by kernel_rfl) h
set_option maxRecDepth 100000 in
theorem G_FiguresOf_ok : SpecOK Tryd.prog 37 true (pureT k_G_FiguresOf g_G_FiguresOf) := by
  refine pureT_ok (sp := (sp_56 (sp_60 (sp_69 (sp_70 (sp_71 sp0)))))) (fn := Tryd.f37) (body := bodyOf Tryd.f37) mixed (sp_56_ok (sp_60_ok (sp_69_ok (sp_70_ok (sp_71_ok sp0_ok))))) Tryd.func37 (by kernel_rfl) (by kernel_rfl) fun ls t h ho b hb => ?_
  unfold g_G_FiguresOf at h
  split at h
  · rename_i u19 u20 u11 u12
    cases h
    obtain rfl := bld_eq hb
    exact ⟨Nat.le_of_ble_eq_true (by kernel_rfl), _, _, G_FiguresOf_vc u19 u20 u11 u12 _ (ok_some ho)⟩
  · cases h
theorem sp_37_ok {sp : Specs} (h : SpecsOK Tryd.prog sp) : SpecsOK Tryd.prog (sp_37 sp) := addK_ok G_FiguresOf_ok h
end Go.Sh
end

section
open Go.RowKit
namespace Go.Proofs
open Go.Shelf
def Tryd.laysM171_ren : Go.Shelf.Ren := ⟨fun | 171 => 72 | 243 => 92 | 246 => 101 | 283 => 106 | 284 => 107 | 285 => 108 | 286 => 109 | 129 => 104 | 317 => 112 | 318 => 113 | 319 => 114 | 320 => 115 | 337 => 116 | 338 => 117 | n => n, fun | 3 => 3 | 9 => 9 | 2 => 2 | 4 => 4 | 171 => 155 | 0 => 0 | 53 => 84 | 37 => 138 | 5 => 5 | 173 => 157 | 212 => 163 | 51 => 164 | 20 => 20 | 213 => 165 | 46 => 149 | 232 => 168 | 233 => 169 | n => n, fun | 17 => 6 | 18 => 8 | 19 => 9 | n => n⟩
theorem Tryd.laysM171 : Go.Proofs.LaysM.n171 Tryd.prog Tryd.laysM171_ren := {
  mixed := by kernel_rfl
  f129 := Tryd.func104.trans (congrArg some (by kernel_rfl))
  f171 := Tryd.func72.trans (congrArg some (by kernel_rfl))
  f243 := Tryd.func92.trans (congrArg some (by kernel_rfl))
  f246 := Tryd.func101.trans (congrArg some (by kernel_rfl))
  f283 := Tryd.func106.trans (congrArg some (by kernel_rfl))
  f284 := Tryd.func107.trans (congrArg some (by kernel_rfl))
  f285 := Tryd.func108.trans (congrArg some (by kernel_rfl))
  f286 := Tryd.func109.trans (congrArg some (by kernel_rfl))
  f317 := Tryd.func112.trans (congrArg some (by kernel_rfl))
  f318 := Tryd.func113.trans (congrArg some (by kernel_rfl))
  f319 := Tryd.func114.trans (congrArg some (by kernel_rfl))
  f320 := Tryd.func115.trans (congrArg some (by kernel_rfl))
  f337 := Tryd.func116.trans (congrArg some (by kernel_rfl))
  f338 := Tryd.func117.trans (congrArg some (by kernel_rfl))
  t0 := Tryd.underlying0
  a0 := Tryd.isAgg0
  z0 := Tryd.sizeOf0
  v0 := Tryd.zeroValue0
  t2 := Tryd.underlying2
  a2 := Tryd.isAgg2
  z2 := Tryd.sizeOf2
  v2 := Tryd.zeroValue2
  t3 := Tryd.underlying3
  a3 := Tryd.isAgg3
  z3 := Tryd.sizeOf3
  v3 := Tryd.zeroValue3
  t4 := Tryd.underlying4
  a4 := Tryd.isAgg4
  z4 := Tryd.sizeOf4
  v4 := Tryd.zeroValue4
  t5 := Tryd.underlying5
  a5 := Tryd.isAgg5
  z5 := Tryd.sizeOf5
  v5 := Tryd.zeroValue5
  t9 := Tryd.underlying9
  a9 := Tryd.isAgg9
  z9 := Tryd.sizeOf9
  v9 := Tryd.zeroValue9
  t20 := Tryd.underlying20
  a20 := Tryd.isAgg20
  z20 := Tryd.sizeOf20
  v20 := Tryd.zeroValue20
  t37 := Tryd.underlying138
  a37 := Tryd.isAgg138
  z37 := Tryd.sizeOf138
  v37 := Tryd.zeroValue138
  t46 := Tryd.underlying149
  a46 := Tryd.isAgg149
  z46 := Tryd.sizeOf149
  v46 := Tryd.zeroValue149
  t51 := Tryd.underlying164
  a51 := Tryd.isAgg164
  z51 := Tryd.sizeOf164
  v51 := Tryd.zeroValue164
  t53 := Tryd.underlying84
  a53 := Tryd.isAgg84
  z53 := Tryd.sizeOf84
  v53 := Tryd.zeroValue84
  t171 := Tryd.underlying155
  a171 := Tryd.isAgg155
  z171 := Tryd.sizeOf155
  v171 := Tryd.zeroValue155
  t173 := Tryd.underlying157
  a173 := Tryd.isAgg157
  z173 := Tryd.sizeOf157
  v173 := Tryd.zeroValue157
  t212 := Tryd.underlying163
  a212 := Tryd.isAgg163
  z212 := Tryd.sizeOf163
  v212 := Tryd.zeroValue163
  t213 := Tryd.underlying165
  a213 := Tryd.isAgg165
  z213 := Tryd.sizeOf165
  t232 := Tryd.underlying168
  a232 := Tryd.isAgg168
  z232 := Tryd.sizeOf168
  v232 := Tryd.zeroValue168
  t233 := Tryd.underlying169
  a233 := Tryd.isAgg169
  z233 := Tryd.sizeOf169
  v233 := Tryd.zeroValue169
  g17 := by kernel_rfl
  g18 := by kernel_rfl
  g19 := by kernel_rfl
  i0 := by kernel_rfl
  i2 := by kernel_rfl
  i3 := by kernel_rfl
  i4 := by kernel_rfl
  i5 := by kernel_rfl
  i9 := by kernel_rfl
  i20 := by kernel_rfl
  i37 := by kernel_rfl
  i46 := by kernel_rfl
  i51 := by kernel_rfl
  i53 := by kernel_rfl
  i171 := by kernel_rfl
  i173 := by kernel_rfl
  i212 := by kernel_rfl
  i232 := by kernel_rfl
  i233 := by kernel_rfl
  m17 := by kernel_rfl
  m18 := by kernel_rfl
  m19 := by kernel_rfl }
def Tryd.lays156_ren : Go.Shelf.Ren := ⟨fun | 156 => 73 | 165 => 93 | 166 => 94 | 169 => 95 | 240 => 102 | 241 => 103 | 276 => 110 | 277 => 111 | n => n, fun | 31 => 111 | 9 => 9 | 3 => 3 | 4 => 4 | 0 => 0 | 20 => 20 | 72 => 140 | 76 => 144 | 70 => 137 | 37 => 138 | 75 => 143 | 127 => 153 | 164 => 159 | 5 => 5 | 80 => 146 | n => n, fun | n => n⟩
theorem Tryd.lays156 : Go.Proofs.Lays.n156 Tryd.prog Tryd.lays156_ren := {
  mixed := by kernel_rfl
  f156 := Tryd.func73.trans (congrArg some (by kernel_rfl))
  f165 := Tryd.func93.trans (congrArg some (by kernel_rfl))
  f166 := Tryd.func94.trans (congrArg some (by kernel_rfl))
  f169 := Tryd.func95.trans (congrArg some (by kernel_rfl))
  f240 := Tryd.func102.trans (congrArg some (by kernel_rfl))
  f241 := Tryd.func103.trans (congrArg some (by kernel_rfl))
  f276 := Tryd.func110.trans (congrArg some (by kernel_rfl))
  f277 := Tryd.func111.trans (congrArg some (by kernel_rfl))
  t0 := Tryd.underlying0
  a0 := Tryd.isAgg0
  z0 := Tryd.sizeOf0
  v0 := Tryd.zeroValue0
  t3 := Tryd.underlying3
  a3 := Tryd.isAgg3
  z3 := Tryd.sizeOf3
  v3 := Tryd.zeroValue3
  t4 := Tryd.underlying4
  a4 := Tryd.isAgg4
  z4 := Tryd.sizeOf4
  v4 := Tryd.zeroValue4
  t9 := Tryd.underlying9
  a9 := Tryd.isAgg9
  z9 := Tryd.sizeOf9
  v9 := Tryd.zeroValue9
  t20 := Tryd.underlying20
  a20 := Tryd.isAgg20
  z20 := Tryd.sizeOf20
  v20 := Tryd.zeroValue20
  t31 := Tryd.underlying111
  a31 := Tryd.isAgg111
  z31 := Tryd.sizeOf111
  v31 := Tryd.zeroValue111
  t37 := Tryd.underlying138
  a37 := Tryd.isAgg138
  z37 := Tryd.sizeOf138
  v37 := Tryd.zeroValue138
  t70 := Tryd.underlying137
  a70 := Tryd.isAgg137
  z70 := Tryd.sizeOf137
  v70 := Tryd.zeroValue137
  t72 := Tryd.underlying140
  a72 := Tryd.isAgg140
  z72 := Tryd.sizeOf140
  v72 := Tryd.zeroValue140
  t75 := Tryd.underlying143
  a75 := Tryd.isAgg143
  z75 := Tryd.sizeOf143
  v75 := Tryd.zeroValue143
  t76 := Tryd.underlying144
  a76 := Tryd.isAgg144
  z76 := Tryd.sizeOf144
  v76 := Tryd.zeroValue144
  t127 := Tryd.underlying153
  a127 := Tryd.isAgg153
  z127 := Tryd.sizeOf153
  v127 := Tryd.zeroValue153
  t164 := Tryd.underlying159
  a164 := Tryd.isAgg159
  z164 := Tryd.sizeOf159
  v164 := Tryd.zeroValue159 }
end Go.Proofs
namespace Go.Sh
open Go Go.Proofs Go.RowKit Go.Sx Go.Shelf
set_option linter.unusedVariables false
theorem flat1 {α : Type} (f : α → D) (l : List α) : (l.flatMap fun x => [f x]) = l.map f := by
  induction l with
  | nil => rfl
  | cons x r ih => simp [List.flatMap_cons, ih]
set_option maxRecDepth 100000 in
theorem builder156 : Builder.Extra Tryd.prog Tryd.lays156_ren where
  sizeBuilder := by kernel_rfl
  liesBuilder := by kernel_rfl
  t5 := by kernel_rfl
  a5 := fun w => run_aggT w (by kernel_rfl)
  z5 := fun w => run_szT w (by kernel_rfl)
  v5 := fun w => rfl
  infoByte := by kernel_rfl
  cellsByte := by kernel_rfl
  sizeByte := by kernel_rfl
  neB5 := by decide
set_option maxRecDepth 100000 in
theorem pow10_named : Tryd.prog.globalNamed "internal/strconv.uint64pow10" = some 6 := by kernel_rfl
theorem tab_is {B : Bd} {w : World} (h : GlobOK B w) {g : Nat} {k : IntKind} {l : List Int} {name : String} (hn : Tryd.prog.globalNamed name = some g) (ht : Globs.tab g = some (.ints k l)) : Lib.TabIs Tryd.prog w name k l := by
  obtain ⟨_, hc, cs, t, f, hg, hs⟩ := h.1 g _ ht
  unfold Lib.TabIs World.var?
  rw [hn]
  simp only [Option.bind_some, hg, Option.some.injEq]
  apply Array.ext'
  apply List.ext_getElem?
  intro i
  have hfl : (Cont.ints k l).flat = l.map (D.i k) := flat1 _ _
  by_cases hi : i < l.length
  · have := hc i (.i k l[i]) (by rw [hfl]; simp [hi])
    simp only [World.cell?, hg] at this
    rw [Array.getElem?_toList]
    simp only [List.getElem?_map, List.getElem?_eq_getElem hi, Option.map_some]
    exact this
  · rw [hfl, List.length_map] at hs
    rw [Array.getElem?_toList, Array.getElem?_eq_none (by omega), List.getElem?_eq_none (by simpa using Nat.le_of_not_lt hi)]
def strconv_Itoa (n : Int) : Option ByteArray := if -9223372036854775808 ≤ n ∧ n ≤ 9223372036854775807 then some ⟨(Lib.itoa n).toArray⟩ else none
def k_strconv_Itoa : List SV := [.c (.d)]
def g_strconv_Itoa : List Lf → Option GT
  | [.d (.i .i64 n)] => some (.leaf (ok (strconv_Itoa n)) [.c (.d (.s (val (strconv_Itoa n))))])
  | _ => none
abbrev sp_72 : Specs → Specs := addK 72 true (pureT k_strconv_Itoa g_strconv_Itoa)
set_option maxRecDepth 100000 in
theorem strconv_Itoa_ok : SpecOK Tryd.prog 72 true (pureT k_strconv_Itoa g_strconv_Itoa) := by
  refine pureT_okC (body := bodyOf Tryd.f72) Tryd.func72 (by kernel_rfl) (by kernel_rfl) ?_
  intro ls t hg ho b hb ρ0 w hlt hh
  unfold g_strconv_Itoa at hg
  split at hg
  · rename_i n
    cases hg
    obtain rfl := bld_eq hb
    have hk : ok (strconv_Itoa n) := ho
    unfold strconv_Itoa at hk
    have hn : -9223372036854775808 ≤ n ∧ n ≤ 9223372036854775807 := by
      by_cases h : -9223372036854775808 ≤ n ∧ n ≤ 9223372036854775807
      · exact h
      · rw [if_neg h] at hk; cases hk
    have hv : val (strconv_Itoa n) = ⟨(Lib.itoa n).toArray⟩ := by
      unfold strconv_Itoa
      rw [if_pos hn]
      rfl
    have htab := tab_is hh.glob pow10_named (k := .u64) (l := Lib.pow10Tab) (by kernel_rfl)
    refine (Any.strconv_Itoa Tryd.laysM171 n hn.1 hn.2 w htab).mono ?_
    rintro e w' ⟨rfl, k, os, rfl⟩
    have hbl : Below w.heap.size w (Sort.grow (w.drewN k) os) := by
      refine ⟨rfl, rfl, rfl, by simp [Sort.grow, World.drewN], fun j hj => ?_⟩
      show (w.heap ++ os)[j]? = _
      rw [Array.getElem?_append_left hj]
    refine ⟨ρ0, .w (.c (.d (.s ⟨(Lib.itoa n).toArray⟩))), _, _, rfl, trivial, Agree.refl _ _, hh.below hbl (fun k hk => hk), bel_of hbl (fun k hk => hk), ?_⟩
    show mD _ _ ∧ True
    rw [hv]
    exact ⟨⟨rfl⟩, trivial⟩
  · cases hg
theorem sp_72_ok {sp : Specs} (h : SpecsOK Tryd.prog sp) : SpecsOK Tryd.prog (sp_72 sp) := addK_ok strconv_Itoa_ok h
def strings_Join (l : List ByteArray) (sep : ByteArray) : Option ByteArray :=
  if l.length ≤ 140737488355328 ∧ (Lib.join (l.map (·.data.toList)) sep.data.toList).length ≤ 140737488355328 then some ⟨(Lib.join (l.map (·.data.toList)) sep.data.toList).toArray⟩ else none
def k_strings_Join : List SV := [.c (.r (.strs [])), .c (.d)]
def g_strings_Join : List Lf → Option GT
  | [.r (.strs l), .d (.s sep)] => some (.leaf (ok (strings_Join l sep)) [.c (.d (.s (val (strings_Join l sep))))])
  | _ => none
abbrev sp_73 : Specs → Specs := addK 73 true (pureT k_strings_Join g_strings_Join)
set_option maxRecDepth 100000 in
theorem strings_Join_ok : SpecOK Tryd.prog 73 true (pureT k_strings_Join g_strings_Join) := by
  refine pureT_okC (body := bodyOf Tryd.f73) Tryd.func73 (by kernel_rfl) (by kernel_rfl) ?_
  intro ls t hg ho b hb ρ0 w hlt hh
  unfold g_strings_Join at hg
  split at hg
  · rename_i l sep
    cases hg
    obtain rfl := bld_eq hb
    have hk : ok (strings_Join l sep) := ho
    unfold strings_Join at hk
    have hn : l.length ≤ 140737488355328 ∧ (Lib.join (l.map (·.data.toList)) sep.data.toList).length ≤ 140737488355328 := by
      by_cases h : l.length ≤ 140737488355328 ∧ (Lib.join (l.map (·.data.toList)) sep.data.toList).length ≤ 140737488355328
      · exact h
      · rw [if_neg h] at hk; cases hk
    have hv : val (strings_Join l sep) = ⟨(Lib.join (l.map (·.data.toList)) sep.data.toList).toArray⟩ := by
      unfold strings_Join
      rw [if_pos hn]
      rfl
    obtain ⟨_, _, ⟨a, cap, hv0, ⟨hcap, _⟩, hcells⟩, hold⟩ := hh.ok 0 (.ext (.strs l)) rfl
    have hargs : ((bldD k_strings_Join [.r (.strs l), .d (.s sep)]).vs.map (V.val ρ0)).toArray = #[ρ0 0, .string sep] := rfl
    rw [hargs, hv0]
    have fin : ∀ w', Below w.heap.size w w' → ∃ ρ' v hp' nx', Ending.returned (.string ⟨(Lib.join (l.map (·.data.toList)) sep.data.toList).toArray⟩) = .returned (V.val ρ' v) ∧ v.lt nx' ∧ Agree 1 ρ0 ρ' ∧ HRel ρ' (fun k => k < w.heap.size) hp' nx' w' ∧ Bel (fun k => k < w.heap.size) w w' ∧
        fitV 1 [.c (.d (.s (val (strings_Join l sep))))] v hp' := fun w' hbl => by
      refine ⟨ρ0, .w (.c (.d (.s ⟨(Lib.join (l.map (·.data.toList)) sep.data.toList).toArray⟩))), _, _, rfl, trivial, Agree.refl _ _, hh.below hbl (fun k hk => hk), bel_of hbl (fun k hk => hk), ?_⟩
      show mD _ _ ∧ True
      rw [hv]
      exact ⟨⟨rfl⟩, trivial⟩
    cases hl : l with
    | nil =>
      subst hl
      refine (Any.strings_Join_none Tryd.lays156 builder156 a cap sep w).mono ?_
      rintro e w' ⟨rfl, rfl⟩
      exact fin _ (Below.refl _ _)
    | cons x r =>
      rw [← hl]
      have h0 : 0 < l.length := by rw [hl]; simp
      obtain ⟨b, off, rfl, hx⟩ := hcells h0
      refine (Any.strings_Join Tryd.lays156 builder156 b off cap l sep w (fun j x hj => ?_) (hold _ _ _ hv0 h0) hn.1 hcap hn.2).mono ?_
      · exact hx j (.s x) (by
          show ((Cont.strs l).flat)[j]? = _
          have hfl : (Cont.strs l).flat = l.map D.s := flat1 _ _
          rw [hfl, List.getElem?_map, hj]
          rfl)
      · rintro e w' ⟨rfl, hbl⟩
        exact fin _ hbl
  · cases hg
theorem sp_73_ok {sp : Specs} (h : SpecsOK Tryd.prog sp) : SpecsOK Tryd.prog (sp_73 sp) := addK_ok strings_Join_ok h
end Go.Sh
end

section
namespace Go.Sh
open Go Go.Proofs Go.RowKit Go.Sx
set_option linter.unusedVariables false
def k_G_FormatFigures : List (Option Cont) := [none]
def y49 (u46 : Bool) (u47 : Bool) (u48 : Bool) (u49 : Bool) (u50 : Bool) (u51 : Bool) (u52 : Int) (u53 : Int) (u54 : Int) (u55 : Int) (u56 : Int) (u57 : Int) (u58 : Int) (u59 : Int) (u60 : Int) (u61 : Int) (u62 : Int) (u63 : Int) (x0 : (Int × List ByteArray)) : Option ((Int × List ByteArray) ⊕ (List ByteArray)) :=
  if x0.1 < (6 : Int) then
   if ((0 : Int) ≤ x0.1 ∧ x0.1 < (↑(6 : Nat) : Int)) ∧ List.getD [true, true, true, true, true, true] (Int.toNat x0.1 * (1 : Nat)) false = true then
    if (!List.getD [u46, u47, u48, u49, u50, u51] (Int.toNat x0.1 * (1 : Nat)) false) = true then
     if (List.length x0.2 + List.length [ByteArray.mk #[(45 : UInt8)]]) * (16 : Nat) ≤ (140737488355328 : Nat) ∧ List.length x0.2 + List.length [ByteArray.mk #[(45 : UInt8)]] ≤ (9223372036854775807 : Nat) then
      some (.inl ((IntKind.wrap .i64 (x0.1 + (1 : Int)), x0.2 ++ [ByteArray.mk #[(45 : UInt8)]])))
     else none
    else
     if (0 : Int) ≤ x0.1 ∧ x0.1 < (↑(6 : Nat) : Int) then
      if List.getD [false, false, false, false, false, false, true, true, true, true, true, true, true, true, true, true, true, true] ((6 : Nat) + Int.toNat x0.1 * (2 : Nat) + Field.offset (Field.mk "Lo" (3 : Nat) (0 : Nat) false "" "" (0 : Nat))) false = true then
       Option.bind (strconv_Itoa (List.getD [(0 : Int), (0 : Int), (0 : Int), (0 : Int), (0 : Int), (0 : Int), u52, u53, u54, u55, u56, u57, u58, u59, u60, u61, u62, u63] ((6 : Nat) + Int.toNat x0.1 * (2 : Nat) + Field.offset (Field.mk "Lo" (3 : Nat) (0 : Nat) false "" "" (0 : Nat))) (0 : Int))) fun r0 =>
       if (0 : Int) ≤ x0.1 ∧ x0.1 < (↑(6 : Nat) : Int) then
        if List.getD [false, false, false, false, false, false, true, true, true, true, true, true, true, true, true, true, true, true] ((6 : Nat) + Int.toNat x0.1 * (2 : Nat) + Field.offset (Field.mk "Hi" (3 : Nat) (1 : Nat) false "" "" (8 : Nat))) false = true then
         Option.bind (strconv_Itoa (List.getD [(0 : Int), (0 : Int), (0 : Int), (0 : Int), (0 : Int), (0 : Int), u52, u53, u54, u55, u56, u57, u58, u59, u60, u61, u62, u63] ((6 : Nat) + Int.toNat x0.1 * (2 : Nat) + Field.offset (Field.mk "Hi" (3 : Nat) (1 : Nat) false "" "" (8 : Nat))) (0 : Int))) fun r1 =>
         if (List.length x0.2 + List.length [r0, r1]) * (16 : Nat) ≤ (140737488355328 : Nat) ∧ List.length x0.2 + List.length [r0, r1] ≤ (9223372036854775807 : Nat) then
          some (.inl ((IntKind.wrap .i64 (x0.1 + (1 : Int)), x0.2 ++ [r0, r1])))
         else none
        else none
       else none
      else none
     else none
   else none
  else
   some (.inr x0.2)
def y50 (u21 : List ByteArray) : Option ByteArray :=
  Option.bind (strings_Join u21 (ByteArray.mk #[(32 : UInt8)])) fun r2 =>
  some r2
def y76 (u46 : Bool) (u47 : Bool) (u48 : Bool) (u49 : Bool) (u50 : Bool) (u51 : Bool) (u52 : Int) (u53 : Int) (u54 : Int) (u55 : Int) (u56 : Int) (u57 : Int) (u58 : Int) (u59 : Int) (u60 : Int) (u61 : Int) (u62 : Int) (u63 : Int) : Option ByteArray :=
  Option.bind (iter (y49 u46 u47 u48 u49 u50 u51 u52 u53 u54 u55 u56 u57 u58 u59 u60 u61 u62 u63) big (((0 : Int), []))) (y50)
def y111 : List A → Option (Prop × List RV)
  | [.s [.b u46, .b u47, .b u48, .b u49, .b u50, .b u51, .i .i64 u52, .i .i64 u53, .i .i64 u54, .i .i64 u55, .i .i64 u56, .i .i64 u57, .i .i64 u58, .i .i64 u59, .i .i64 u60, .i .i64 u61, .i .i64 u62, .i .i64 u63]] => some (ok (y76 u46 u47 u48 u49 u50 u51 u52 u53 u54 u55 u56 u57 u58 u59 u60 u61 u62 u63), [.d (.s ((val (y76 u46 u47 u48 u49 u50 u51 u52 u53 u54 u55 u56 u57 u58 u59 u60 u61 u62 u63))))])
  | _ => none
abbrev sp_39 : Specs → Specs := addK 39 true (pureK k_G_FormatFigures y111)
set_option maxRecDepth 100000 in
theorem G_FormatFigures_vc (u46 : Bool) (u47 : Bool) (u48 : Bool) (u49 : Bool) (u50 : Bool) (u51 : Bool) (u52 : Int) (u53 : Int) (u54 : Int) (u55 : Int) (u56 : Int) (u57 : Int) (u58 : Int) (u59 : Int) (u60 : Int) (u61 : Int) (u62 : Int) (u63 : Int) (r : ByteArray) (h : Option.bind (y76 u46 u47 u48 u49 u50 u51 u52 u53 u54 u55 u56 u57 u58 u59 u60 u61 u62 u63) some = some r) : runF Tryd.f39 ((sp_72 (sp_73 sp0))) (fun gs id _ => match id with
 | 0 => some ⟨(Int × List ByteArray) × Nat, fun z => ⟨[(1, .w (.c (.p 1 (0 : Nat) 1 (0 : Nat)))), (3, .w (.c (.o 2))), (7, .w (.a [.d (.b u46), .d (.b u47), .d (.b u48), .d (.b u49), .d (.b u50), .d (.b u51)])), (8, .w (.c (.d (.i .i64 (Prod.fst (Prod.fst z))))))], [(1, .box 78 [.d (.b u46), .d (.b u47), .d (.b u48), .d (.b u49), .d (.b u50), .d (.b u51), .d (.i .i64 u52), .d (.i .i64 u53), .d (.i .i64 u54), .d (.i .i64 u55), .d (.i .i64 u56), .d (.i .i64 u57), .d (.i .i64 u58), .d (.i .i64 u59), .d (.i .i64 u60), .d (.i .i64 u61), .d (.i .i64 u62), .d (.i .i64 u63)]), (2, .row 9 (.strs (Prod.snd (Prod.fst z))))], 3⟩, fun z => Option.bind (iter (y49 u46 u47 u48 u49 u50 u51 u52 u53 u54 u55 u56 u57 u58 u59 u60 u61 u62 u63) (Prod.snd z) (Prod.fst z)) (fun y0 => Option.bind (y50 y0) some) = some r, fun z => Prod.snd z⟩
 | _ => none) [.s [.b u46, .b u47, .b u48, .b u49, .b u50, .b u51, .i .i64 u52, .i .i64 u53, .i .i64 u54, .i .i64 u55, .i .i64 u56, .i .i64 u57, .i .i64 u58, .i .i64 u59, .i .i64 u60, .i .i64 u61, .i .i64 u62, .i .i64 u63]] [.d (.s r)] := by
  refine Eq.mp (by kernel_rfl : (
  ((∃ (v0 : (Int × List ByteArray) × Nat), (Ob ((Option.bind (iter (y49 u46 u47 u48 u49 u50 u51 u52 u53 u54 u55 u56 u57 u58 u59 u60 u61 u62 u63) v0.2 v0.1) fun y0 => Option.bind (y50 y0) some) = some r) ∧
 (Ob ((0 : Nat) = (0 : Nat)) ∧
 (Ob (u46 = u46) ∧
 (Ob (u47 = u47) ∧
 (Ob (u48 = u48) ∧
 (Ob (u49 = u49) ∧
 (Ob (u50 = u50) ∧
 (Ob (u51 = u51) ∧
 (Ob ((0 : Int) = v0.1.1) ∧
 (Ob (u46 = u46) ∧
 (Ob (u47 = u47) ∧
 (Ob (u48 = u48) ∧
 (Ob (u49 = u49) ∧
 (Ob (u50 = u50) ∧
 (Ob (u51 = u51) ∧
 (Ob (u52 = u52) ∧
 (Ob (u53 = u53) ∧
 (Ob (u54 = u54) ∧
 (Ob (u55 = u55) ∧
 (Ob (u56 = u56) ∧
 (Ob (u57 = u57) ∧
 (Ob (u58 = u58) ∧
 (Ob (u59 = u59) ∧
 (Ob (u60 = u60) ∧
 (Ob (u61 = u61) ∧
 (Ob (u62 = u62) ∧
 (Ob (u63 = u63) ∧
 (Ob (List.length v0.1.2 = (0 : Nat)) ∧
 True))))))))))))))))))))))))))))) ∧
   (∀ (v0 : (Int × List ByteArray) × Nat), ((Option.bind (iter (y49 u46 u47 u48 u49 u50 u51 u52 u53 u54 u55 u56 u57 u58 u59 u60 u61 u62 u63) v0.2 v0.1) fun y0 => Option.bind (y50 y0) some) = some r →
 Br (decide (v0.1.1 < (6 : Int)))
   ((Ob (((0 : Int) ≤ v0.1.1 ∧ v0.1.1 < (↑(6 : Nat) : Int)) ∧ List.getD [true, true, true, true, true, true] (Int.toNat v0.1.1 * (1 : Nat)) false = true) ∧
 Br (!List.getD [u46, u47, u48, u49, u50, u51] (Int.toNat v0.1.1 * (1 : Nat)) false)
   ((Ob ((List.length v0.1.2 + List.length [ByteArray.mk #[(45 : UInt8)]]) * (16 : Nat) ≤ (140737488355328 : Nat) ∧ List.length v0.1.2 + List.length [ByteArray.mk #[(45 : UInt8)]] ≤ (9223372036854775807 : Nat)) ∧
   (∃ (v1 : (Int × List ByteArray) × Nat), (Ob ((Option.bind (iter (y49 u46 u47 u48 u49 u50 u51 u52 u53 u54 u55 u56 u57 u58 u59 u60 u61 u62 u63) v1.2 v1.1) fun y0 => Option.bind (y50 y0) some) = some r) ∧
 (Ob (v1.2 < v0.2) ∧
 (Ob ((0 : Nat) = (0 : Nat)) ∧
 (Ob (u46 = u46) ∧
 (Ob (u47 = u47) ∧
 (Ob (u48 = u48) ∧
 (Ob (u49 = u49) ∧
 (Ob (u50 = u50) ∧
 (Ob (u51 = u51) ∧
 (Ob (IntKind.wrap .i64 (v0.1.1 + (1 : Int)) = v1.1.1) ∧
 (Ob (u46 = u46) ∧
 (Ob (u47 = u47) ∧
 (Ob (u48 = u48) ∧
 (Ob (u49 = u49) ∧
 (Ob (u50 = u50) ∧
 (Ob (u51 = u51) ∧
 (Ob (u52 = u52) ∧
 (Ob (u53 = u53) ∧
 (Ob (u54 = u54) ∧
 (Ob (u55 = u55) ∧
 (Ob (u56 = u56) ∧
 (Ob (u57 = u57) ∧
 (Ob (u58 = u58) ∧
 (Ob (u59 = u59) ∧
 (Ob (u60 = u60) ∧
 (Ob (u61 = u61) ∧
 (Ob (u62 = u62) ∧
 (Ob (u63 = u63) ∧
 (Ob (v0.1.2 ++ [ByteArray.mk #[(45 : UInt8)]] = v1.1.2) ∧
 True))))))))))))))))))))))))))))))))
   ((Ob ((0 : Int) ≤ v0.1.1 ∧ v0.1.1 < (↑(6 : Nat) : Int)) ∧
 (Ob (List.getD [false, false, false, false, false, false, true, true, true, true, true, true, true, true, true, true, true, true] ((6 : Nat) + Int.toNat v0.1.1 * (2 : Nat) + Field.offset (Field.mk "Lo" (3 : Nat) (0 : Nat) false "" "" (0 : Nat))) false = true) ∧
 (Ob (ok (strconv_Itoa (List.getD [(0 : Int), (0 : Int), (0 : Int), (0 : Int), (0 : Int), (0 : Int), u52, u53, u54, u55, u56, u57, u58, u59, u60, u61, u62, u63] ((6 : Nat) + Int.toNat v0.1.1 * (2 : Nat) + Field.offset (Field.mk "Lo" (3 : Nat) (0 : Nat) false "" "" (0 : Nat))) (0 : Int)))) ∧
 (Ob ((0 : Int) ≤ v0.1.1 ∧ v0.1.1 < (↑(6 : Nat) : Int)) ∧
 (Ob (List.getD [false, false, false, false, false, false, true, true, true, true, true, true, true, true, true, true, true, true] ((6 : Nat) + Int.toNat v0.1.1 * (2 : Nat) + Field.offset (Field.mk "Hi" (3 : Nat) (1 : Nat) false "" "" (8 : Nat))) false = true) ∧
 (Ob (ok (strconv_Itoa (List.getD [(0 : Int), (0 : Int), (0 : Int), (0 : Int), (0 : Int), (0 : Int), u52, u53, u54, u55, u56, u57, u58, u59, u60, u61, u62, u63] ((6 : Nat) + Int.toNat v0.1.1 * (2 : Nat) + Field.offset (Field.mk "Hi" (3 : Nat) (1 : Nat) false "" "" (8 : Nat))) (0 : Int)))) ∧
 (Ob ((List.length v0.1.2 + List.length [val (strconv_Itoa (List.getD [(0 : Int), (0 : Int), (0 : Int), (0 : Int), (0 : Int), (0 : Int), u52, u53, u54, u55, u56, u57, u58, u59, u60, u61, u62, u63] ((6 : Nat) + Int.toNat v0.1.1 * (2 : Nat) + Field.offset (Field.mk "Lo" (3 : Nat) (0 : Nat) false "" "" (0 : Nat))) (0 : Int))), val (strconv_Itoa (List.getD [(0 : Int), (0 : Int), (0 : Int), (0 : Int), (0 : Int), (0 : Int), u52, u53, u54, u55, u56, u57, u58, u59, u60, u61, u62, u63] ((6 : Nat) + Int.toNat v0.1.1 * (2 : Nat) + Field.offset (Field.mk "Hi" (3 : Nat) (1 : Nat) false "" "" (8 : Nat))) (0 : Int)))]) * (16 : Nat) ≤ (140737488355328 : Nat) ∧ List.length v0.1.2 + List.length [val (strconv_Itoa (List.getD [(0 : Int), (0 : Int), (0 : Int), (0 : Int), (0 : Int), (0 : Int), u52, u53, u54, u55, u56, u57, u58, u59, u60, u61, u62, u63] ((6 : Nat) + Int.toNat v0.1.1 * (2 : Nat) + Field.offset (Field.mk "Lo" (3 : Nat) (0 : Nat) false "" "" (0 : Nat))) (0 : Int))), val (strconv_Itoa (List.getD [(0 : Int), (0 : Int), (0 : Int), (0 : Int), (0 : Int), (0 : Int), u52, u53, u54, u55, u56, u57, u58, u59, u60, u61, u62, u63] ((6 : Nat) + Int.toNat v0.1.1 * (2 : Nat) + Field.offset (Field.mk "Hi" (3 : Nat) (1 : Nat) false "" "" (8 : Nat))) (0 : Int)))] ≤ (9223372036854775807 : Nat)) ∧
   (∃ (v1 : (Int × List ByteArray) × Nat), (Ob ((Option.bind (iter (y49 u46 u47 u48 u49 u50 u51 u52 u53 u54 u55 u56 u57 u58 u59 u60 u61 u62 u63) v1.2 v1.1) fun y0 => Option.bind (y50 y0) some) = some r) ∧
 (Ob (v1.2 < v0.2) ∧
 (Ob ((0 : Nat) = (0 : Nat)) ∧
 (Ob (u46 = u46) ∧
 (Ob (u47 = u47) ∧
 (Ob (u48 = u48) ∧
 (Ob (u49 = u49) ∧
 (Ob (u50 = u50) ∧
 (Ob (u51 = u51) ∧
 (Ob (IntKind.wrap .i64 (v0.1.1 + (1 : Int)) = v1.1.1) ∧
 (Ob (u46 = u46) ∧
 (Ob (u47 = u47) ∧
 (Ob (u48 = u48) ∧
 (Ob (u49 = u49) ∧
 (Ob (u50 = u50) ∧
 (Ob (u51 = u51) ∧
 (Ob (u52 = u52) ∧
 (Ob (u53 = u53) ∧
 (Ob (u54 = u54) ∧
 (Ob (u55 = u55) ∧
 (Ob (u56 = u56) ∧
 (Ob (u57 = u57) ∧
 (Ob (u58 = u58) ∧
 (Ob (u59 = u59) ∧
 (Ob (u60 = u60) ∧
 (Ob (u61 = u61) ∧
 (Ob (u62 = u62) ∧
 (Ob (u63 = u63) ∧
 (Ob (v0.1.2 ++ [val (strconv_Itoa (List.getD [(0 : Int), (0 : Int), (0 : Int), (0 : Int), (0 : Int), (0 : Int), u52, u53, u54, u55, u56, u57, u58, u59, u60, u61, u62, u63] ((6 : Nat) + Int.toNat v0.1.1 * (2 : Nat) + Field.offset (Field.mk "Lo" (3 : Nat) (0 : Nat) false "" "" (0 : Nat))) (0 : Int))), val (strconv_Itoa (List.getD [(0 : Int), (0 : Int), (0 : Int), (0 : Int), (0 : Int), (0 : Int), u52, u53, u54, u55, u56, u57, u58, u59, u60, u61, u62, u63] ((6 : Nat) + Int.toNat v0.1.1 * (2 : Nat) + Field.offset (Field.mk "Hi" (3 : Nat) (1 : Nat) false "" "" (8 : Nat))) (0 : Int)))] = v1.1.2) ∧
 True))))))))))))))))))))))))))))))))))))))))
   ((Ob (ok (strings_Join v0.1.2 (ByteArray.mk #[(32 : UInt8)]))) ∧
 (Ob (True) ∧
 (Ob (val (strings_Join v0.1.2 (ByteArray.mk #[(32 : UInt8)])) = r) ∧
 True)))))))) = _) ?_
  refine ⟨⟨(((0 : Int), []), big), ⟨loop_s h⟩, (by repeat' (first | exact trivial | exact ⟨rfl⟩ | refine And.intro ?_ ?_))⟩, fun z3 hz3 => ?_⟩
  obtain ⟨k3, hm3, h⟩ := iter_pos hz3
  refine br_d h (fun h => ?_) (fun h => ?_)
  · refine ob_s h fun h => ?_
    refine br_b h (fun h => ?_) (fun h => ?_)
    · refine ob_s h fun h => ?_
      exact ⟨((IntKind.wrap .i64 ((Prod.fst z3).1 + (1 : Int)), (Prod.fst z3).2 ++ [ByteArray.mk #[(45 : UInt8)]]), k3), ⟨next_s h⟩, ⟨lt_gs hm3.symm⟩, (by repeat' (first | exact trivial | exact ⟨rfl⟩ | refine And.intro ?_ ?_))⟩
    · refine ob_s h fun h => ?_
      refine ob_s h fun h => ?_
      refine call_s h fun h => ?_
      refine ob_s h fun h => ?_
      refine ob_s h fun h => ?_
      refine call_s h fun h => ?_
      refine ob_s h fun h => ?_
      exact ⟨((IntKind.wrap .i64 ((Prod.fst z3).1 + (1 : Int)), (Prod.fst z3).2 ++ [val (strconv_Itoa (List.getD [(0 : Int), (0 : Int), (0 : Int), (0 : Int), (0 : Int), (0 : Int), u52, u53, u54, u55, u56, u57, u58, u59, u60, u61, u62, u63] ((6 : Nat) + Int.toNat (Prod.fst z3).1 * (2 : Nat) + Field.offset (Field.mk "Lo" (3 : Nat) (0 : Nat) false "" "" (0 : Nat))) (0 : Int))), val (strconv_Itoa (List.getD [(0 : Int), (0 : Int), (0 : Int), (0 : Int), (0 : Int), (0 : Int), u52, u53, u54, u55, u56, u57, u58, u59, u60, u61, u62, u63] ((6 : Nat) + Int.toNat (Prod.fst z3).1 * (2 : Nat) + Field.offset (Field.mk "Hi" (3 : Nat) (1 : Nat) false "" "" (8 : Nat))) (0 : Int)))]), k3), ⟨next_s h⟩, ⟨lt_gs hm3.symm⟩, (by repeat' (first | exact trivial | exact ⟨rfl⟩ | refine And.intro ?_ ?_))⟩
  · have h := exit_s h
    refine call_s h fun h => ?_
    refine ob_t ?_
    exact ret_s h (fun e => by subst e; exact (by repeat' (first | exact trivial | exact ⟨rfl⟩ | refine And.intro ?_ ?_)))
set_option maxRecDepth 100000 in
theorem G_FormatFigures_ok : SpecOK Tryd.prog 39 true (pureK k_G_FormatFigures y111) := by
  refine pureK_ok (sp := (sp_72 (sp_73 sp0))) (fn := Tryd.f39) (body := bodyOf Tryd.f39) mixed (sp_72_ok (sp_73_ok sp0_ok)) Tryd.func39 (by kernel_rfl) (by kernel_rfl) fun as_ ob rs h ho => ?_
  unfold y111 at h
  split at h
  · rename_i u46 u47 u48 u49 u50 u51 u52 u53 u54 u55 u56 u57 u58 u59 u60 u61 u62 u63
    cases h
    exact ⟨Nat.le_of_ble_eq_true rfl, _, _, G_FormatFigures_vc u46 u47 u48 u49 u50 u51 u52 u53 u54 u55 u56 u57 u58 u59 u60 u61 u62 u63 _ (ok_some ho)⟩
  · cases h
theorem sp_39_ok {sp : Specs} (h : SpecsOK Tryd.prog sp) : SpecsOK Tryd.prog (sp_39 sp) := addK_ok G_FormatFigures_ok h
end Go.Sh
end

section
namespace Go.Sh
open Go Go.Proofs Go.RowKit Go.Sx
set_option linter.unusedVariables false
def freeR : Int := 8000
def freeS : List Nat := [1090519040, 1082130432, 1073741824, 1065353216, 0]
def g_five (fr : Int) (fs : List Nat) : List Lf → Option GT
  | [] => some (.leaf True [.s [.d (.i .i64 fr), .row 54 (.floats .f32 fs)]])
  | _ => none
abbrev sp_35v (fr : Int) (fs : List Nat) : Specs → Specs := addK 35 true (pureT k_L05_Five (g_five fr fs))
set_option maxRecDepth 100000 in
theorem five_ok : SpecOK Tryd.prog 35 true (pureT k_L05_Five (g_five freeR freeS)) := by
  refine pureT_ok (sp := sp0) (fn := Tryd.f35) (body := bodyOf Tryd.f35) mixed sp0_ok Tryd.func35 (by kernel_rfl) (by kernel_rfl) fun ls t h ho b hb => ?_
  unfold g_five at h
  split at h
  · cases h
    obtain rfl := bld_eq hb
    exact ⟨Nat.le_of_ble_eq_true (by kernel_rfl), _, _, L05_Five_vc (freeR, freeS) rfl⟩
  · cases h
theorem sp_35v_ok {sp : Specs} (h : SpecsOK Tryd.prog sp) : SpecsOK Tryd.prog (sp_35v freeR freeS sp) := addK_ok five_ok h
end Go.Sh
end

section
namespace Go.Sh
open Go Go.Proofs Go.RowKit Go.Sx
set_option linter.unusedVariables false
def k_T_figured : List (Option Cont) := []
def T_figured (fr : Int) (fs : List Nat) : Option Bool :=
  Option.bind (y15 fr fs (0 : Int) (0 : Int)) fun r0 =>
  if (r0.2.2.2.2.2.2.2.2.2.2.2.2.2.2.2.2.2.2 == (0 : Int)) = true then
   Option.bind (y76 r0.1 r0.2.1 r0.2.2.1 r0.2.2.2.1 r0.2.2.2.2.1 r0.2.2.2.2.2.1 r0.2.2.2.2.2.2.1 r0.2.2.2.2.2.2.2.1 r0.2.2.2.2.2.2.2.2.1 r0.2.2.2.2.2.2.2.2.2.1 r0.2.2.2.2.2.2.2.2.2.2.1 r0.2.2.2.2.2.2.2.2.2.2.2.1 r0.2.2.2.2.2.2.2.2.2.2.2.2.1 r0.2.2.2.2.2.2.2.2.2.2.2.2.2.1 r0.2.2.2.2.2.2.2.2.2.2.2.2.2.2.1 r0.2.2.2.2.2.2.2.2.2.2.2.2.2.2.2.1 r0.2.2.2.2.2.2.2.2.2.2.2.2.2.2.2.2.1 r0.2.2.2.2.2.2.2.2.2.2.2.2.2.2.2.2.2.1) fun r1 =>
   some (r1 == ByteArray.mk #[(55 : UInt8), (53 : UInt8), (48 : UInt8), (32 : UInt8), (49 : UInt8), (53 : UInt8), (48 : UInt8), (48 : UInt8), (32 : UInt8), (55 : UInt8), (53 : UInt8), (48 : UInt8), (32 : UInt8), (49 : UInt8), (53 : UInt8), (48 : UInt8), (48 : UInt8), (32 : UInt8), (53 : UInt8), (48 : UInt8), (48 : UInt8), (32 : UInt8), (49 : UInt8), (48 : UInt8), (48 : UInt8), (48 : UInt8), (32 : UInt8), (45 : UInt8), (32 : UInt8), (49 : UInt8), (48 : UInt8), (48 : UInt8), (48 : UInt8), (32 : UInt8), (49 : UInt8), (48 : UInt8), (48 : UInt8), (48 : UInt8), (32 : UInt8), (51 : UInt8), (57 : UInt8), (32 : UInt8), (52 : UInt8), (48 : UInt8)])
  else
   some false
set_option maxRecDepth 100000 in
def T_figured_t (fr : Int) (fs : List Nat) : T (Bool) :=
 .obT
  (.call (y15 fr fs (0 : Int) (0 : Int)) fun r0 =>
  .brB (r0.2.2.2.2.2.2.2.2.2.2.2.2.2.2.2.2.2.2 == (0 : Int))
  (.call (y76 r0.1 r0.2.1 r0.2.2.1 r0.2.2.2.1 r0.2.2.2.2.1 r0.2.2.2.2.2.1 r0.2.2.2.2.2.2.1 r0.2.2.2.2.2.2.2.1 r0.2.2.2.2.2.2.2.2.1 r0.2.2.2.2.2.2.2.2.2.1 r0.2.2.2.2.2.2.2.2.2.2.1 r0.2.2.2.2.2.2.2.2.2.2.2.1 r0.2.2.2.2.2.2.2.2.2.2.2.2.1 r0.2.2.2.2.2.2.2.2.2.2.2.2.2.1 r0.2.2.2.2.2.2.2.2.2.2.2.2.2.2.1 r0.2.2.2.2.2.2.2.2.2.2.2.2.2.2.2.1 r0.2.2.2.2.2.2.2.2.2.2.2.2.2.2.2.2.1 r0.2.2.2.2.2.2.2.2.2.2.2.2.2.2.2.2.2.1) fun r1 =>
  .obT
  (.rc ((r1 == ByteArray.mk #[(55 : UInt8), (53 : UInt8), (48 : UInt8), (32 : UInt8), (49 : UInt8), (53 : UInt8), (48 : UInt8), (48 : UInt8), (32 : UInt8), (55 : UInt8), (53 : UInt8), (48 : UInt8), (32 : UInt8), (49 : UInt8), (53 : UInt8), (48 : UInt8), (48 : UInt8), (32 : UInt8), (53 : UInt8), (48 : UInt8), (48 : UInt8), (32 : UInt8), (49 : UInt8), (48 : UInt8), (48 : UInt8), (48 : UInt8), (32 : UInt8), (45 : UInt8), (32 : UInt8), (49 : UInt8), (48 : UInt8), (48 : UInt8), (48 : UInt8), (32 : UInt8), (49 : UInt8), (48 : UInt8), (48 : UInt8), (48 : UInt8), (32 : UInt8), (51 : UInt8), (57 : UInt8), (32 : UInt8), (52 : UInt8), (48 : UInt8)]))))
  (.obT
  (.rc (false))))
set_option maxRecDepth 100000 in
theorem T_figured_vc (fr : Int) (fs : List Nat) (r : Bool) (h : Option.bind (T_figured fr fs) some = some r) : runF Tryd.f32 ((sp_35v fr fs (sp_37 (sp_39 sp0)))) (fun _ _ _ => none) [] [.d (.b r)] :=
  T.vc (t := T_figured_t fr fs) (by kernel_rfl) (by kernel_rfl) h
end Go.Sh
end

section
namespace Go.Sh
open Go Go.Proofs Go.RowKit Go.Sx
set_option maxRecDepth 100000
set_option maxHeartbeats 4000000
theorem figured_eq : T_figured freeR freeS = some true := by kernel_rfl
end Go.Sh
end

section
namespace Go.Sh
open Go Go.Proofs Go.RowKit Go.Sx
set_option maxRecDepth 100000
def g_figured : List A → Option (Prop × List RV)
  | [] => some (True, [.d (.b true)])
  | _ => none
abbrev sp_32b : Specs → Specs := addK 32 true (pureK k_T_figured g_figured)
theorem figuredT_ok : SpecOK Tryd.prog 32 true (pureK k_T_figured g_figured) := by
  refine pureK_ok (sp := (sp_35v freeR freeS (sp_37 (sp_39 sp0)))) (fn := Tryd.f32) (body := bodyOf Tryd.f32) mixed (sp_35v_ok (sp_37_ok (sp_39_ok sp0_ok))) Tryd.func32 (by kernel_rfl) (by kernel_rfl) fun as_ ob rs h ho => ?_
  unfold g_figured at h
  split at h
  · cases h
    exact ⟨Nat.le_of_ble_eq_true rfl, _, _, T_figured_vc freeR freeS true (by rw [figured_eq]; rfl)⟩
  · cases h
theorem sp_32b_ok {sp : Specs} (h : SpecsOK Tryd.prog sp) : SpecsOK Tryd.prog (sp_32b sp) := addK_ok figuredT_ok h
end Go.Sh
end

section
namespace Go.Sh
open Go Go.Proofs Go.RowKit Go.Sx
set_option linter.unusedVariables false
end Go.Sh
end

section
namespace Go.Sh
open Go Go.Proofs Go.RowKit Go.Sx
set_option maxRecDepth 100000
set_option maxHeartbeats 4000000
end Go.Sh
end

section
namespace Go.Sh
open Go Go.Proofs Go.RowKit Go.Sx
set_option maxRecDepth 100000
end Go.Sh
end

section
namespace Go.Sh
open Go Go.Proofs Go.RowKit Go.Sx
set_option linter.unusedVariables false
end Go.Sh
end

section
namespace Go.Sh
open Go Go.Proofs Go.RowKit Go.Sx
set_option linter.unusedVariables false
def k_T_TopLongerTail : List SV := [.a [.d, .r (.floats .f32 []), .d, .d], .a [.d, .d], .c (.d)]
def T_TopLongerTail_b0 (r8 : List (List Int) × Int) (r9 : List (List Int) × Int) (x0 : Int) : Option (Int ⊕ (Unit ⊕ Unit)) :=
  if x0 < (↑(List.length r8.1) : Int) then
   if (0 : Int) ≤ x0 ∧ x0 < (↑(List.length r9.1) : Int) then
    if Int.toNat x0 < List.length r9.1 then
     if (0 : Int) ≤ x0 ∧ x0 < (↑(List.length r8.1) : Int) then
      if Int.toNat x0 < List.length r8.1 then
       if List.getD (List.getD r9.1 (Int.toNat x0) []) (0 : Nat) (0 : Int) > List.getD (List.getD r8.1 (Int.toNat x0) []) (0 : Nat) (0 : Int) then
        some (.inr ((.inl ())))
       else
        if (0 : Int) ≤ x0 ∧ x0 < (↑(List.length r9.1) : Int) then
         if Int.toNat x0 < List.length r9.1 then
          if (0 : Int) ≤ x0 ∧ x0 < (↑(List.length r8.1) : Int) then
           if Int.toNat x0 < List.length r8.1 then
            if List.getD (List.getD r9.1 (Int.toNat x0) []) (1 : Nat) (0 : Int) < List.getD (List.getD r8.1 (Int.toNat x0) []) (1 : Nat) (0 : Int) then
             some (.inr ((.inl ())))
            else
             some (.inl (IntKind.wrap .i64 (x0 + (1 : Int))))
           else none
          else none
         else none
        else none
      else none
     else none
    else none
   else none
  else
   some (.inr ((.inr ())))
def T_TopLongerTail_r0_0 (u11 : Int) (u12 : Int) (u31 : Int) (u32 : Int) (u0 : Int) (r6 : Int × List Nat) (u21 : Unit) : Option Bool :=
  some false
def T_TopLongerTail_b1 (u11 : Int) (u12 : Int) (u31 : Int) (u32 : Int) (r6 : Int × List Nat) (x1 : Int) : Option (Int ⊕ (Unit ⊕ Unit)) :=
  if x1 ≤ (2 : Int) then
   Option.bind (y21 r6.1 r6.2 u11 u12 x1) fun r10 =>
   Option.bind (y21 r6.1 r6.2 (IntKind.wrap .i64 (u11 + u31)) (IntKind.wrap .i64 (u12 + u32)) x1) fun r11 =>
   if (r11.2.2 == (0 : Int)) = true then
    if (r10.2.2 != (0 : Int)) = true then
     some (.inr ((.inl ())))
    else
     if r11.1 > r10.1 then
      some (.inr ((.inl ())))
     else
      if r11.2.1 < r10.2.1 then
       some (.inr ((.inl ())))
      else
       some (.inl (IntKind.wrap .i64 (x1 + (1 : Int))))
   else
    some (.inl (IntKind.wrap .i64 (x1 + (1 : Int))))
  else
   some (.inr ((.inr ())))
def T_TopLongerTail_r1_0 (u11 : Int) (u12 : Int) (u31 : Int) (u32 : Int) (u0 : Int) (r6 : Int × List Nat) (u44 : Unit) : Option Bool :=
  some false
def T_TopLongerTail_r1_1 (u11 : Int) (u12 : Int) (u31 : Int) (u32 : Int) (u0 : Int) (r6 : Int × List Nat) (u69 : Unit) : Option Bool :=
  Option.bind (y7 r6.1 r6.2 u11 u12 u0) fun r12 =>
  Option.bind (y7 r6.1 r6.2 (IntKind.wrap .i64 (u11 + u31)) (IntKind.wrap .i64 (u12 + u32)) u0) fun r13 =>
  if (r13.2.2 != (0 : Int)) = true then
   some true
  else
   if (r12.2.2 == (0 : Int)) = true then
    if r13.1 ≤ r12.1 then
     some (decide (r13.2.1 ≥ r12.2.1))
    else
     some false
   else
    some false
def T_TopLongerTail_r1 (u11 : Int) (u12 : Int) (u31 : Int) (u32 : Int) (u0 : Int) (r6 : Int × List Nat) : (Unit ⊕ Unit) → Option Bool :=
  (Sum.elim (T_TopLongerTail_r1_0 u11 u12 u31 u32 u0 r6) (T_TopLongerTail_r1_1 u11 u12 u31 u32 u0 r6))
def T_TopLongerTail_r0_1 (u11 : Int) (u12 : Int) (u31 : Int) (u32 : Int) (u0 : Int) (r6 : Int × List Nat) (u34 : Unit) : Option Bool :=
  Option.bind (iter (T_TopLongerTail_b1 u11 u12 u31 u32 r6) big (0 : Int)) (T_TopLongerTail_r1 u11 u12 u31 u32 u0 r6)
def T_TopLongerTail_r0 (u11 : Int) (u12 : Int) (u31 : Int) (u32 : Int) (u0 : Int) (r6 : Int × List Nat) : (Unit ⊕ Unit) → Option Bool :=
  (Sum.elim (T_TopLongerTail_r0_0 u11 u12 u31 u32 u0 r6) (T_TopLongerTail_r0_1 u11 u12 u31 u32 u0 r6))
def T_TopLongerTail (u19 : Int) (u20 : List Nat) (u11 : Int) (u12 : Int) (u31 : Int) (u32 : Int) (u0 : Int) : Option Bool :=
  Option.bind (L05_Few u19 u20) fun r0 =>
  if (!r0) = true then
   some true
  else
   Option.bind (y32 u31 (0 : Int) (1000 : Int)) fun r1 =>
   if (!r1) = true then
    some true
   else
    Option.bind (y32 u32 (0 : Int) (1000000 : Int)) fun r2 =>
    if (!r2) = true then
     some true
    else
     Option.bind (y32 u11 (0 : Int) (31767 : Int)) fun r3 =>
     if (!r3) = true then
      some true
     else
      Option.bind (y32 u12 (0 : Int) (999999000000 : Int)) fun r4 =>
      if (!r4) = true then
       some true
      else
       Option.bind (y32 u0 (0 : Int) (1000000 : Int)) fun r5 =>
       if (!r5) = true then
        some true
       else
        Option.bind (y2 u19 u20) fun r6 =>
        Option.bind (y2 u19 u20) fun r7 =>
        Option.bind (y4 r6.1 r6.2 u11 u12) fun r8 =>
        Option.bind (y4 r6.1 r6.2 (IntKind.wrap .i64 (u11 + u31)) (IntKind.wrap .i64 (u12 + u32))) fun r9 =>
        if (r8.2 != (0 : Int)) = true then
         some (r9.2 == r8.2)
        else
         if (r9.2 != (0 : Int)) = true then
          some false
         else
          if ((↑(List.length r8.1) : Int) != (↑(List.length r9.1) : Int)) = true then
           some false
          else
           if ((↑(List.length r8.1) : Int) != (↑(List.length u20) : Int)) = true then
            some false
           else
            Option.bind (iter (T_TopLongerTail_b0 r8 r9) big (0 : Int)) (T_TopLongerTail_r0 u11 u12 u31 u32 u0 r6)
def g_T_TopLongerTail : List Lf → Option GT
  | [.d (.i .i64 u19), .r (.floats .f32 u20), .d (.i .i64 u11), .d (.i .i64 u12), .d (.i .i64 u31), .d (.i .i64 u32), .d (.i .i64 u0)] => some (.leaf (ok (T_TopLongerTail u19 u20 u11 u12 u31 u32 u0)) [.c (.d (.b ((val (T_TopLongerTail u19 u20 u11 u12 u31 u32 u0)))))])
  | _ => none
set_option maxRecDepth 100000 in
theorem T_TopLongerTail_vc (u19 : Int) (u20 : List Nat) (u11 : Int) (u12 : Int) (u31 : Int) (u32 : Int) (u0 : Int) (r : Bool) (h : Option.bind (T_TopLongerTail u19 u20 u11 u12 u31 u32 u0) some = some r) : runT Tryd.f7 ((sp_32b (sp_12 (sp_11 (sp_14 (sp_33 (sp_25 (sp_28 sp0)))))))) (fun gs id _ => match id with
 | 0 => some ⟨Int × Nat, fun z => ⟨[(2, .w (.c (.d (.i .i64 u0)))), (7, .w (.c (.p 1 (0 : Nat) 1 (0 : Nat)))), (8, .w (.c (.p 2 (0 : Nat) 1 (0 : Nat)))), (9, .w (.c (.o 3))), (11, .w (.c (.o 4))), (13, .w (.c (.d (.i .i64 (Prod.fst z)))))], [(1, .box 36 [.d (.i .i64 ((val (y2 u19 u20)).1)), .o 5, .d (.i .i64 (IntKind.wrap .i64 (u11 + u31))), .d (.i .i64 (IntKind.wrap .i64 (u12 + u32)))]), (2, .box 36 [.d (.i .i64 ((val (y2 u19 u20)).1)), .o 6, .d (.i .i64 u11), .d (.i .i64 u12)]), (3, .rrow (.recs 2 ((val (y4 (val (y2 u19 u20)).1 (val (y2 u19 u20)).2 u11 u12)).1))), (4, .rrow (.recs 2 ((val (y4 (val (y2 u19 u20)).1 (val (y2 u19 u20)).2 (IntKind.wrap .i64 (u11 + u31)) (IntKind.wrap .i64 (u12 + u32)))).1))), (5, .row 54 (.floats .f32 ((val (y2 u19 u20)).2))), (6, .row 54 (.floats .f32 ((val (y2 u19 u20)).2)))], 7⟩, fun z => Option.bind (iter (T_TopLongerTail_b0 (val (y4 (val (y2 u19 u20)).1 (val (y2 u19 u20)).2 u11 u12)) (val (y4 (val (y2 u19 u20)).1 (val (y2 u19 u20)).2 (IntKind.wrap .i64 (u11 + u31)) (IntKind.wrap .i64 (u12 + u32))))) (Prod.snd z) (Prod.fst z)) (fun y0 => Option.bind (T_TopLongerTail_r0 u11 u12 u31 u32 u0 (val (y2 u19 u20)) y0) some) = some r, fun z => Prod.snd z⟩
 | 2 => some ⟨Unit × Int × Nat, fun z => ⟨[(2, .w (.c (.d (.i .i64 u0)))), (7, .w (.c (.p 1 (0 : Nat) 1 (0 : Nat)))), (8, .w (.c (.p 2 (0 : Nat) 1 (0 : Nat)))), (14, .w (.c (.d (.i .i64 (Prod.fst (Prod.snd z))))))], [(1, .box 36 [.d (.i .i64 ((val (y2 u19 u20)).1)), .o 3, .d (.i .i64 (IntKind.wrap .i64 (u11 + u31))), .d (.i .i64 (IntKind.wrap .i64 (u12 + u32)))]), (2, .box 36 [.d (.i .i64 ((val (y2 u19 u20)).1)), .o 4, .d (.i .i64 u11), .d (.i .i64 u12)]), (3, .row 54 (.floats .f32 ((val (y2 u19 u20)).2))), (4, .row 54 (.floats .f32 ((val (y2 u19 u20)).2)))], 5⟩, fun z => Option.bind (iter (T_TopLongerTail_b1 u11 u12 u31 u32 (val (y2 u19 u20))) (Prod.snd (Prod.snd z)) (Prod.fst (Prod.snd z))) (fun y0 => Option.bind (T_TopLongerTail_r1 u11 u12 u31 u32 u0 (val (y2 u19 u20)) y0) some) = some r, fun z => Prod.snd (Prod.snd z)⟩
 | _ => none) (bldD k_T_TopLongerTail [.d (.i .i64 u19), .r (.floats .f32 u20), .d (.i .i64 u11), .d (.i .i64 u12), .d (.i .i64 u31), .d (.i .i64 u32), .d (.i .i64 u0)]) [.c (.d (.b r))] := by
  refine Eq.mp (by kernel_rfl : (
 (Ob (True) ∧
 (Ob (ok (L05_Few u19 u20)) ∧
 Br (!val (L05_Few u19 u20))
   ((Ob (True) ∧
 (Ob (true = r) ∧
 True)))
   ((Ob ((0 : Int) ≤ (0 : Int) ∧ (0 : Int) < (↑(2 : Nat) : Int)) ∧
 (Ob (ok (y32 u31 (0 : Int) (1000 : Int))) ∧
 Br (!val (y32 u31 (0 : Int) (1000 : Int)))
   ((Ob (True) ∧
 (Ob (true = r) ∧
 True)))
   ((Ob ((0 : Int) ≤ (1 : Int) ∧ (1 : Int) < (↑(2 : Nat) : Int)) ∧
 (Ob (ok (y32 u32 (0 : Int) (1000000 : Int))) ∧
 Br (!val (y32 u32 (0 : Int) (1000000 : Int)))
   ((Ob (True) ∧
 (Ob (true = r) ∧
 True)))
   ((Ob (ok (y32 u11 (0 : Int) (31767 : Int))) ∧
 Br (!val (y32 u11 (0 : Int) (31767 : Int)))
   ((Ob (True) ∧
 (Ob (true = r) ∧
 True)))
   ((Ob (ok (y32 u12 (0 : Int) (999999000000 : Int))) ∧
 Br (!val (y32 u12 (0 : Int) (999999000000 : Int)))
   ((Ob (True) ∧
 (Ob (true = r) ∧
 True)))
   ((Ob (ok (y32 u0 (0 : Int) (1000000 : Int))) ∧
 Br (!val (y32 u0 (0 : Int) (1000000 : Int)))
   ((Ob (True) ∧
 (Ob (true = r) ∧
 True)))
   ((Ob (ok (y2 u19 u20)) ∧
 (Ob ((0 : Int) ≤ (0 : Int) ∧ (0 : Int) < (↑(2 : Nat) : Int)) ∧
 (Ob ((0 : Int) ≤ (1 : Int) ∧ (1 : Int) < (↑(2 : Nat) : Int)) ∧
 (Ob (ok (y2 u19 u20)) ∧
 (Ob (ok (y4 (val (y2 u19 u20)).1 (val (y2 u19 u20)).2 u11 u12)) ∧
 (Ob (ok (y4 (val (y2 u19 u20)).1 (val (y2 u19 u20)).2 (IntKind.wrap .i64 (u11 + u31)) (IntKind.wrap .i64 (u12 + u32)))) ∧
 Br ((val (y4 (val (y2 u19 u20)).1 (val (y2 u19 u20)).2 u11 u12)).2 != (0 : Int))
   ((Ob (True) ∧
 (Ob (((val (y4 (val (y2 u19 u20)).1 (val (y2 u19 u20)).2 (IntKind.wrap .i64 (u11 + u31)) (IntKind.wrap .i64 (u12 + u32)))).2 == (val (y4 (val (y2 u19 u20)).1 (val (y2 u19 u20)).2 u11 u12)).2) = r) ∧
 True)))
 (Br ((val (y4 (val (y2 u19 u20)).1 (val (y2 u19 u20)).2 (IntKind.wrap .i64 (u11 + u31)) (IntKind.wrap .i64 (u12 + u32)))).2 != (0 : Int))
   ((Ob (True) ∧
 (Ob (false = r) ∧
 True)))
 (Br ((↑(List.length (val (y4 (val (y2 u19 u20)).1 (val (y2 u19 u20)).2 u11 u12)).1) : Int) != (↑(List.length (val (y4 (val (y2 u19 u20)).1 (val (y2 u19 u20)).2 (IntKind.wrap .i64 (u11 + u31)) (IntKind.wrap .i64 (u12 + u32)))).1) : Int))
   ((Ob (True) ∧
 (Ob (false = r) ∧
 True)))
 (Br ((↑(List.length (val (y4 (val (y2 u19 u20)).1 (val (y2 u19 u20)).2 u11 u12)).1) : Int) != (↑(List.length u20) : Int))
   ((Ob (True) ∧
 (Ob (false = r) ∧
 True)))
   (((∃ (v0 : Int × Nat), (Ob ((Option.bind (iter (T_TopLongerTail_b0 (val (y4 (val (y2 u19 u20)).1 (val (y2 u19 u20)).2 u11 u12)) (val (y4 (val (y2 u19 u20)).1 (val (y2 u19 u20)).2 (IntKind.wrap .i64 (u11 + u31)) (IntKind.wrap .i64 (u12 + u32))))) v0.2 v0.1) fun y0 => Option.bind (T_TopLongerTail_r0 u11 u12 u31 u32 u0 (val (y2 u19 u20)) y0) some) = some r) ∧
 (Ob (u0 = u0) ∧
 (Ob ((0 : Nat) = (0 : Nat)) ∧
 (Ob ((0 : Nat) = (0 : Nat)) ∧
 (Ob ((0 : Int) = v0.1) ∧
 (Ob ((val (y2 u19 u20)).1 = (val (y2 u19 u20)).1) ∧
 (Ob (IntKind.wrap .i64 (u11 + u31) = IntKind.wrap .i64 (u11 + u31)) ∧
 (Ob (IntKind.wrap .i64 (u12 + u32) = IntKind.wrap .i64 (u12 + u32)) ∧
 (Ob ((val (y2 u19 u20)).1 = (val (y2 u19 u20)).1) ∧
 (Ob (u11 = u11) ∧
 (Ob (u12 = u12) ∧
 (Ob ((val (y4 (val (y2 u19 u20)).1 (val (y2 u19 u20)).2 u11 u12)).1 = (val (y4 (val (y2 u19 u20)).1 (val (y2 u19 u20)).2 u11 u12)).1) ∧
 (Ob ((val (y4 (val (y2 u19 u20)).1 (val (y2 u19 u20)).2 (IntKind.wrap .i64 (u11 + u31)) (IntKind.wrap .i64 (u12 + u32)))).1 = (val (y4 (val (y2 u19 u20)).1 (val (y2 u19 u20)).2 (IntKind.wrap .i64 (u11 + u31)) (IntKind.wrap .i64 (u12 + u32)))).1) ∧
 (Ob ((val (y2 u19 u20)).2 = (val (y2 u19 u20)).2) ∧
 (Ob ((val (y2 u19 u20)).2 = (val (y2 u19 u20)).2) ∧
 True)))))))))))))))) ∧
   (∀ (v0 : Int × Nat), ((Option.bind (iter (T_TopLongerTail_b0 (val (y4 (val (y2 u19 u20)).1 (val (y2 u19 u20)).2 u11 u12)) (val (y4 (val (y2 u19 u20)).1 (val (y2 u19 u20)).2 (IntKind.wrap .i64 (u11 + u31)) (IntKind.wrap .i64 (u12 + u32))))) v0.2 v0.1) fun y0 => Option.bind (T_TopLongerTail_r0 u11 u12 u31 u32 u0 (val (y2 u19 u20)) y0) some) = some r →
 Br (decide (v0.1 < (↑(List.length (val (y4 (val (y2 u19 u20)).1 (val (y2 u19 u20)).2 u11 u12)).1) : Int)))
   ((Ob ((0 : Int) ≤ v0.1 ∧ v0.1 < (↑(List.length (val (y4 (val (y2 u19 u20)).1 (val (y2 u19 u20)).2 (IntKind.wrap .i64 (u11 + u31)) (IntKind.wrap .i64 (u12 + u32)))).1) : Int)) ∧
 (Ob (Int.toNat v0.1 < List.length (val (y4 (val (y2 u19 u20)).1 (val (y2 u19 u20)).2 (IntKind.wrap .i64 (u11 + u31)) (IntKind.wrap .i64 (u12 + u32)))).1) ∧
 (Ob ((0 : Int) ≤ v0.1 ∧ v0.1 < (↑(List.length (val (y4 (val (y2 u19 u20)).1 (val (y2 u19 u20)).2 u11 u12)).1) : Int)) ∧
 (Ob (Int.toNat v0.1 < List.length (val (y4 (val (y2 u19 u20)).1 (val (y2 u19 u20)).2 u11 u12)).1) ∧
 Br (decide (List.getD (List.getD (val (y4 (val (y2 u19 u20)).1 (val (y2 u19 u20)).2 (IntKind.wrap .i64 (u11 + u31)) (IntKind.wrap .i64 (u12 + u32)))).1 (Int.toNat v0.1) []) (0 : Nat) (0 : Int) > List.getD (List.getD (val (y4 (val (y2 u19 u20)).1 (val (y2 u19 u20)).2 u11 u12)).1 (Int.toNat v0.1) []) (0 : Nat) (0 : Int)))
   ((Ob (True) ∧
 (Ob (false = r) ∧
 True)))
   ((Ob ((0 : Int) ≤ v0.1 ∧ v0.1 < (↑(List.length (val (y4 (val (y2 u19 u20)).1 (val (y2 u19 u20)).2 (IntKind.wrap .i64 (u11 + u31)) (IntKind.wrap .i64 (u12 + u32)))).1) : Int)) ∧
 (Ob (Int.toNat v0.1 < List.length (val (y4 (val (y2 u19 u20)).1 (val (y2 u19 u20)).2 (IntKind.wrap .i64 (u11 + u31)) (IntKind.wrap .i64 (u12 + u32)))).1) ∧
 (Ob ((0 : Int) ≤ v0.1 ∧ v0.1 < (↑(List.length (val (y4 (val (y2 u19 u20)).1 (val (y2 u19 u20)).2 u11 u12)).1) : Int)) ∧
 (Ob (Int.toNat v0.1 < List.length (val (y4 (val (y2 u19 u20)).1 (val (y2 u19 u20)).2 u11 u12)).1) ∧
 Br (decide (List.getD (List.getD (val (y4 (val (y2 u19 u20)).1 (val (y2 u19 u20)).2 (IntKind.wrap .i64 (u11 + u31)) (IntKind.wrap .i64 (u12 + u32)))).1 (Int.toNat v0.1) []) (1 : Nat) (0 : Int) < List.getD (List.getD (val (y4 (val (y2 u19 u20)).1 (val (y2 u19 u20)).2 u11 u12)).1 (Int.toNat v0.1) []) (1 : Nat) (0 : Int)))
   ((Ob (True) ∧
 (Ob (false = r) ∧
 True)))
   ((∃ (v1 : Int × Nat), (Ob ((Option.bind (iter (T_TopLongerTail_b0 (val (y4 (val (y2 u19 u20)).1 (val (y2 u19 u20)).2 u11 u12)) (val (y4 (val (y2 u19 u20)).1 (val (y2 u19 u20)).2 (IntKind.wrap .i64 (u11 + u31)) (IntKind.wrap .i64 (u12 + u32))))) v1.2 v1.1) fun y0 => Option.bind (T_TopLongerTail_r0 u11 u12 u31 u32 u0 (val (y2 u19 u20)) y0) some) = some r) ∧
 (Ob (v1.2 < v0.2) ∧
 (Ob (u0 = u0) ∧
 (Ob ((0 : Nat) = (0 : Nat)) ∧
 (Ob ((0 : Nat) = (0 : Nat)) ∧
 (Ob (IntKind.wrap .i64 (v0.1 + (1 : Int)) = v1.1) ∧
 (Ob ((val (y2 u19 u20)).1 = (val (y2 u19 u20)).1) ∧
 (Ob (IntKind.wrap .i64 (u11 + u31) = IntKind.wrap .i64 (u11 + u31)) ∧
 (Ob (IntKind.wrap .i64 (u12 + u32) = IntKind.wrap .i64 (u12 + u32)) ∧
 (Ob ((val (y2 u19 u20)).1 = (val (y2 u19 u20)).1) ∧
 (Ob (u11 = u11) ∧
 (Ob (u12 = u12) ∧
 (Ob ((val (y4 (val (y2 u19 u20)).1 (val (y2 u19 u20)).2 u11 u12)).1 = (val (y4 (val (y2 u19 u20)).1 (val (y2 u19 u20)).2 u11 u12)).1) ∧
 (Ob ((val (y4 (val (y2 u19 u20)).1 (val (y2 u19 u20)).2 (IntKind.wrap .i64 (u11 + u31)) (IntKind.wrap .i64 (u12 + u32)))).1 = (val (y4 (val (y2 u19 u20)).1 (val (y2 u19 u20)).2 (IntKind.wrap .i64 (u11 + u31)) (IntKind.wrap .i64 (u12 + u32)))).1) ∧
 (Ob ((val (y2 u19 u20)).2 = (val (y2 u19 u20)).2) ∧
 (Ob ((val (y2 u19 u20)).2 = (val (y2 u19 u20)).2) ∧
 True))))))))))))))))))))))))))))
   (((∃ (v1 : Unit × Int × Nat), (Ob ((Option.bind (iter (T_TopLongerTail_b1 u11 u12 u31 u32 (val (y2 u19 u20))) v1.2.2 v1.2.1) fun y0 => Option.bind (T_TopLongerTail_r1 u11 u12 u31 u32 u0 (val (y2 u19 u20)) y0) some) = some r) ∧
 (Ob (u0 = u0) ∧
 (Ob ((0 : Nat) = (0 : Nat)) ∧
 (Ob ((0 : Nat) = (0 : Nat)) ∧
 (Ob ((0 : Int) = v1.2.1) ∧
 (Ob ((val (y2 u19 u20)).1 = (val (y2 u19 u20)).1) ∧
 (Ob (IntKind.wrap .i64 (u11 + u31) = IntKind.wrap .i64 (u11 + u31)) ∧
 (Ob (IntKind.wrap .i64 (u12 + u32) = IntKind.wrap .i64 (u12 + u32)) ∧
 (Ob ((val (y2 u19 u20)).1 = (val (y2 u19 u20)).1) ∧
 (Ob (u11 = u11) ∧
 (Ob (u12 = u12) ∧
 (Ob ((val (y2 u19 u20)).2 = (val (y2 u19 u20)).2) ∧
 (Ob ((val (y2 u19 u20)).2 = (val (y2 u19 u20)).2) ∧
 True)))))))))))))) ∧
   (∀ (v1 : Unit × Int × Nat), ((Option.bind (iter (T_TopLongerTail_b1 u11 u12 u31 u32 (val (y2 u19 u20))) v1.2.2 v1.2.1) fun y0 => Option.bind (T_TopLongerTail_r1 u11 u12 u31 u32 u0 (val (y2 u19 u20)) y0) some) = some r →
 Br (decide (v1.2.1 ≤ (2 : Int)))
   ((Ob (ok (y21 (val (y2 u19 u20)).1 (val (y2 u19 u20)).2 u11 u12 v1.2.1)) ∧
 (Ob (ok (y21 (val (y2 u19 u20)).1 (val (y2 u19 u20)).2 (IntKind.wrap .i64 (u11 + u31)) (IntKind.wrap .i64 (u12 + u32)) v1.2.1)) ∧
 Br ((val (y21 (val (y2 u19 u20)).1 (val (y2 u19 u20)).2 (IntKind.wrap .i64 (u11 + u31)) (IntKind.wrap .i64 (u12 + u32)) v1.2.1)).2.2 == (0 : Int))
 (Br ((val (y21 (val (y2 u19 u20)).1 (val (y2 u19 u20)).2 u11 u12 v1.2.1)).2.2 != (0 : Int))
   ((Ob (True) ∧
 (Ob (false = r) ∧
 True)))
 (Br (decide ((val (y21 (val (y2 u19 u20)).1 (val (y2 u19 u20)).2 (IntKind.wrap .i64 (u11 + u31)) (IntKind.wrap .i64 (u12 + u32)) v1.2.1)).1 > (val (y21 (val (y2 u19 u20)).1 (val (y2 u19 u20)).2 u11 u12 v1.2.1)).1))
   ((Ob (True) ∧
 (Ob (false = r) ∧
 True)))
 (Br (decide ((val (y21 (val (y2 u19 u20)).1 (val (y2 u19 u20)).2 (IntKind.wrap .i64 (u11 + u31)) (IntKind.wrap .i64 (u12 + u32)) v1.2.1)).2.1 < (val (y21 (val (y2 u19 u20)).1 (val (y2 u19 u20)).2 u11 u12 v1.2.1)).2.1))
   ((Ob (True) ∧
 (Ob (false = r) ∧
 True)))
   ((∃ (v2 : Unit × Int × Nat), (Ob ((Option.bind (iter (T_TopLongerTail_b1 u11 u12 u31 u32 (val (y2 u19 u20))) v2.2.2 v2.2.1) fun y0 => Option.bind (T_TopLongerTail_r1 u11 u12 u31 u32 u0 (val (y2 u19 u20)) y0) some) = some r) ∧
 (Ob (v2.2.2 < v1.2.2) ∧
 (Ob (u0 = u0) ∧
 (Ob ((0 : Nat) = (0 : Nat)) ∧
 (Ob ((0 : Nat) = (0 : Nat)) ∧
 (Ob (IntKind.wrap .i64 (v1.2.1 + (1 : Int)) = v2.2.1) ∧
 (Ob ((val (y2 u19 u20)).1 = (val (y2 u19 u20)).1) ∧
 (Ob (IntKind.wrap .i64 (u11 + u31) = IntKind.wrap .i64 (u11 + u31)) ∧
 (Ob (IntKind.wrap .i64 (u12 + u32) = IntKind.wrap .i64 (u12 + u32)) ∧
 (Ob ((val (y2 u19 u20)).1 = (val (y2 u19 u20)).1) ∧
 (Ob (u11 = u11) ∧
 (Ob (u12 = u12) ∧
 (Ob ((val (y2 u19 u20)).2 = (val (y2 u19 u20)).2) ∧
 (Ob ((val (y2 u19 u20)).2 = (val (y2 u19 u20)).2) ∧
 True)))))))))))))))))))
   ((∃ (v2 : Unit × Int × Nat), (Ob ((Option.bind (iter (T_TopLongerTail_b1 u11 u12 u31 u32 (val (y2 u19 u20))) v2.2.2 v2.2.1) fun y0 => Option.bind (T_TopLongerTail_r1 u11 u12 u31 u32 u0 (val (y2 u19 u20)) y0) some) = some r) ∧
 (Ob (v2.2.2 < v1.2.2) ∧
 (Ob (u0 = u0) ∧
 (Ob ((0 : Nat) = (0 : Nat)) ∧
 (Ob ((0 : Nat) = (0 : Nat)) ∧
 (Ob (IntKind.wrap .i64 (v1.2.1 + (1 : Int)) = v2.2.1) ∧
 (Ob ((val (y2 u19 u20)).1 = (val (y2 u19 u20)).1) ∧
 (Ob (IntKind.wrap .i64 (u11 + u31) = IntKind.wrap .i64 (u11 + u31)) ∧
 (Ob (IntKind.wrap .i64 (u12 + u32) = IntKind.wrap .i64 (u12 + u32)) ∧
 (Ob ((val (y2 u19 u20)).1 = (val (y2 u19 u20)).1) ∧
 (Ob (u11 = u11) ∧
 (Ob (u12 = u12) ∧
 (Ob ((val (y2 u19 u20)).2 = (val (y2 u19 u20)).2) ∧
 (Ob ((val (y2 u19 u20)).2 = (val (y2 u19 u20)).2) ∧
 True)))))))))))))))))))
   ((Ob (ok (y7 (val (y2 u19 u20)).1 (val (y2 u19 u20)).2 u11 u12 u0)) ∧
 (Ob (ok (y7 (val (y2 u19 u20)).1 (val (y2 u19 u20)).2 (IntKind.wrap .i64 (u11 + u31)) (IntKind.wrap .i64 (u12 + u32)) u0)) ∧
 Br ((val (y7 (val (y2 u19 u20)).1 (val (y2 u19 u20)).2 (IntKind.wrap .i64 (u11 + u31)) (IntKind.wrap .i64 (u12 + u32)) u0)).2.2 != (0 : Int))
   ((Ob (True) ∧
 (Ob (true = r) ∧
 True)))
 (Br ((val (y7 (val (y2 u19 u20)).1 (val (y2 u19 u20)).2 u11 u12 u0)).2.2 == (0 : Int))
 (Br (decide ((val (y7 (val (y2 u19 u20)).1 (val (y2 u19 u20)).2 (IntKind.wrap .i64 (u11 + u31)) (IntKind.wrap .i64 (u12 + u32)) u0)).1 ≤ (val (y7 (val (y2 u19 u20)).1 (val (y2 u19 u20)).2 u11 u12 u0)).1))
   ((Ob (True) ∧
 (Ob (decide ((val (y7 (val (y2 u19 u20)).1 (val (y2 u19 u20)).2 (IntKind.wrap .i64 (u11 + u31)) (IntKind.wrap .i64 (u12 + u32)) u0)).2.1 ≥ (val (y7 (val (y2 u19 u20)).1 (val (y2 u19 u20)).2 u11 u12 u0)).2.1) = r) ∧
 True)))
   ((Ob (True) ∧
 (Ob (false = r) ∧
 True))))
   ((Ob (True) ∧
 (Ob (false = r) ∧
 True)))))))))))))))))))))))))))))))))))))))) = _) ?_
  refine ob_t ?_
  refine call_s h fun h => ?_
  refine br_b h (fun h => ?_) (fun h => ?_)
  · refine ob_t ?_
    exact ret_s h (fun e => by subst e; exact (by repeat' (first | exact trivial | exact ⟨rfl⟩ | refine And.intro ?_ ?_)))
  · refine ob_c (p := (0 : Int) ≤ (0 : Int) ∧ (0 : Int) < (↑(2 : Nat) : Int)) (by decide) ?_
    refine call_s h fun h => ?_
    refine br_b h (fun h => ?_) (fun h => ?_)
    · refine ob_t ?_
      exact ret_s h (fun e => by subst e; exact (by repeat' (first | exact trivial | exact ⟨rfl⟩ | refine And.intro ?_ ?_)))
    · refine ob_c (p := (0 : Int) ≤ (1 : Int) ∧ (1 : Int) < (↑(2 : Nat) : Int)) (by decide) ?_
      refine call_s h fun h => ?_
      refine br_b h (fun h => ?_) (fun h => ?_)
      · refine ob_t ?_
        exact ret_s h (fun e => by subst e; exact (by repeat' (first | exact trivial | exact ⟨rfl⟩ | refine And.intro ?_ ?_)))
      · refine call_s h fun h => ?_
        refine br_b h (fun h => ?_) (fun h => ?_)
        · refine ob_t ?_
          exact ret_s h (fun e => by subst e; exact (by repeat' (first | exact trivial | exact ⟨rfl⟩ | refine And.intro ?_ ?_)))
        · refine call_s h fun h => ?_
          refine br_b h (fun h => ?_) (fun h => ?_)
          · refine ob_t ?_
            exact ret_s h (fun e => by subst e; exact (by repeat' (first | exact trivial | exact ⟨rfl⟩ | refine And.intro ?_ ?_)))
          · refine call_s h fun h => ?_
            refine br_b h (fun h => ?_) (fun h => ?_)
            · refine ob_t ?_
              exact ret_s h (fun e => by subst e; exact (by repeat' (first | exact trivial | exact ⟨rfl⟩ | refine And.intro ?_ ?_)))
            · refine call_s h fun h => ?_
              refine ob_c (p := (0 : Int) ≤ (0 : Int) ∧ (0 : Int) < (↑(2 : Nat) : Int)) (by decide) ?_
              refine ob_c (p := (0 : Int) ≤ (1 : Int) ∧ (1 : Int) < (↑(2 : Nat) : Int)) (by decide) ?_
              refine call_s h fun h => ?_
              refine call_s h fun h => ?_
              refine call_s h fun h => ?_
              refine br_b h (fun h => ?_) (fun h => ?_)
              · refine ob_t ?_
                exact ret_s h (fun e => by subst e; exact (by repeat' (first | exact trivial | exact ⟨rfl⟩ | refine And.intro ?_ ?_)))
              · refine br_b h (fun h => ?_) (fun h => ?_)
                · refine ob_t ?_
                  exact ret_s h (fun e => by subst e; exact (by repeat' (first | exact trivial | exact ⟨rfl⟩ | refine And.intro ?_ ?_)))
                · refine br_b h (fun h => ?_) (fun h => ?_)
                  · refine ob_t ?_
                    exact ret_s h (fun e => by subst e; exact (by repeat' (first | exact trivial | exact ⟨rfl⟩ | refine And.intro ?_ ?_)))
                  · refine br_b h (fun h => ?_) (fun h => ?_)
                    · refine ob_t ?_
                      exact ret_s h (fun e => by subst e; exact (by repeat' (first | exact trivial | exact ⟨rfl⟩ | refine And.intro ?_ ?_)))
                    · refine ⟨⟨((0 : Int), big), ⟨loop_s h⟩, (by repeat' (first | exact trivial | exact ⟨rfl⟩ | refine And.intro ?_ ?_))⟩, fun z14 hz14 => ?_⟩
                      obtain ⟨k14, hm14, h⟩ := iter_pos hz14
                      refine br_d h (fun h => ?_) (fun h => ?_)
                      · refine ob_s h fun h => ?_
                        refine ob_s h fun h => ?_
                        refine ob_s h fun h => ?_
                        refine ob_s h fun h => ?_
                        refine br_d h (fun h => ?_) (fun h => ?_)
                        · have h := exit_s h
                          refine ob_t ?_
                          exact ret_s h (fun e => by subst e; exact (by repeat' (first | exact trivial | exact ⟨rfl⟩ | refine And.intro ?_ ?_)))
                        · refine ob_s h fun h => ?_
                          refine ob_s h fun h => ?_
                          refine ob_s h fun h => ?_
                          refine ob_s h fun h => ?_
                          refine br_d h (fun h => ?_) (fun h => ?_)
                          · have h := exit_s h
                            refine ob_t ?_
                            exact ret_s h (fun e => by subst e; exact (by repeat' (first | exact trivial | exact ⟨rfl⟩ | refine And.intro ?_ ?_)))
                          · exact ⟨(IntKind.wrap .i64 (Prod.fst z14 + (1 : Int)), k14), ⟨next_s h⟩, ⟨lt_gs hm14.symm⟩, (by repeat' (first | exact trivial | exact ⟨rfl⟩ | refine And.intro ?_ ?_))⟩
                      · have h := exit_s h
                        refine ⟨⟨((), (0 : Int), big), ⟨loop_s h⟩, (by repeat' (first | exact trivial | exact ⟨rfl⟩ | refine And.intro ?_ ?_))⟩, fun z15 hz15 => ?_⟩
                        obtain ⟨k15, hm15, h⟩ := iter_pos hz15
                        refine br_d h (fun h => ?_) (fun h => ?_)
                        · refine call_s h fun h => ?_
                          refine call_s h fun h => ?_
                          refine br_b h (fun h => ?_) (fun h => ?_)
                          · refine br_b h (fun h => ?_) (fun h => ?_)
                            · have h := exit_s h
                              refine ob_t ?_
                              exact ret_s h (fun e => by subst e; exact (by repeat' (first | exact trivial | exact ⟨rfl⟩ | refine And.intro ?_ ?_)))
                            · refine br_d h (fun h => ?_) (fun h => ?_)
                              · have h := exit_s h
                                refine ob_t ?_
                                exact ret_s h (fun e => by subst e; exact (by repeat' (first | exact trivial | exact ⟨rfl⟩ | refine And.intro ?_ ?_)))
                              · refine br_d h (fun h => ?_) (fun h => ?_)
                                · have h := exit_s h
                                  refine ob_t ?_
                                  exact ret_s h (fun e => by subst e; exact (by repeat' (first | exact trivial | exact ⟨rfl⟩ | refine And.intro ?_ ?_)))
                                · exact ⟨(Prod.fst z15, IntKind.wrap .i64 (Prod.fst (Prod.snd z15) + (1 : Int)), k15), ⟨next_s h⟩, ⟨lt_gs hm15.symm⟩, (by repeat' (first | exact trivial | exact ⟨rfl⟩ | refine And.intro ?_ ?_))⟩
                          · exact ⟨(Prod.fst z15, IntKind.wrap .i64 (Prod.fst (Prod.snd z15) + (1 : Int)), k15), ⟨next_s h⟩, ⟨lt_gs hm15.symm⟩, (by repeat' (first | exact trivial | exact ⟨rfl⟩ | refine And.intro ?_ ?_))⟩
                        · have h := exit_s h
                          refine call_s h fun h => ?_
                          refine call_s h fun h => ?_
                          refine br_b h (fun h => ?_) (fun h => ?_)
                          · refine ob_t ?_
                            exact ret_s h (fun e => by subst e; exact (by repeat' (first | exact trivial | exact ⟨rfl⟩ | refine And.intro ?_ ?_)))
                          · refine br_b h (fun h => ?_) (fun h => ?_)
                            · refine br_d h (fun h => ?_) (fun h => ?_)
                              · refine ob_t ?_
                                exact ret_s h (fun e => by subst e; exact (by repeat' (first | exact trivial | exact ⟨rfl⟩ | refine And.intro ?_ ?_)))
                              · refine ob_t ?_
                                exact ret_s h (fun e => by subst e; exact (by repeat' (first | exact trivial | exact ⟨rfl⟩ | refine And.intro ?_ ?_)))
                            · refine ob_t ?_
                              exact ret_s h (fun e => by subst e; exact (by repeat' (first | exact trivial | exact ⟨rfl⟩ | refine And.intro ?_ ?_)))
set_option maxRecDepth 100000 in
theorem T_TopLongerTail_ok : SpecOK Tryd.prog 7 true (pureT k_T_TopLongerTail g_T_TopLongerTail) := by
  refine pureT_ok (sp := (sp_32b (sp_12 (sp_11 (sp_14 (sp_33 (sp_25 (sp_28 sp0)))))))) (fn := Tryd.f7) (body := bodyOf Tryd.f7) mixed (sp_32b_ok (sp_12_ok (sp_11_ok (sp_14_ok (sp_33_ok (sp_25_ok (sp_28_ok sp0_ok))))))) Tryd.func7 (by kernel_rfl) (by kernel_rfl) fun ls t h ho b hb => ?_
  unfold g_T_TopLongerTail at h
  split at h
  · rename_i u19 u20 u11 u12 u31 u32 u0
    cases h
    obtain rfl := bld_eq hb
    exact ⟨Nat.le_of_ble_eq_true (by kernel_rfl), _, _, T_TopLongerTail_vc u19 u20 u11 u12 u31 u32 u0 _ (ok_some ho)⟩
  · cases h
end Go.Sh
end

section
namespace Go.Sh
open Go Go.Proofs Go.RowKit Go.Sx Go.Sx06 Ieee Go.Fl
theorem topLongerTail_true (rate : Int) {l : List Nat} (noise tail m0 m1 time : Int) : T_TopLongerTail rate l noise tail m0 m1 time = some true := by
  unfold T_TopLongerTail
  rw [few_eq, bind_some']
  by_cases hf : fewB l = false
  · rw [hf]; rfl
  have hf : fewB l = true := by simpa using hf
  have hl : l.length < 1000000000000 := few_len hf
  rw [hf, if_neg (by decide), withinB_eq, bind_some']
  by_cases h1 : 0 ≤ m0 ∧ m0 ≤ 1000
  case neg =>
    rw [nd_f h1, if_pos rfl]
  rw [nd_t h1, if_neg Bool.false_ne_true, withinB_eq, bind_some']
  by_cases h2 : 0 ≤ m1 ∧ m1 ≤ 1000000
  case neg =>
    rw [nd_f h2, if_pos rfl]
  rw [nd_t h2, if_neg Bool.false_ne_true, withinB_eq, bind_some']
  by_cases h3 : 0 ≤ noise ∧ noise ≤ 31767
  case neg =>
    rw [nd_f h3, if_pos rfl]
  rw [nd_t h3, if_neg Bool.false_ne_true, withinB_eq, bind_some']
  by_cases h4 : 0 ≤ tail ∧ tail ≤ 999999000000
  case neg =>
    rw [nd_f h4, if_pos rfl]
  rw [nd_t h4, if_neg Bool.false_ne_true, withinB_eq, bind_some']
  by_cases h5 : 0 ≤ time ∧ time ≤ 1000000
  case neg =>
    rw [nd_f h5, if_pos rfl]
  rw [nd_t h5, if_neg Bool.false_ne_true, wr64 (x := noise + m0) (by omega), wr64 (x := tail + m1) (by omega)]
  have ht : tmE time = 0 := by unfold tmE; rw [if_pos h5]
  simp only [copyResponse_eq rate hl, bind_some', sumsWithinG_eq rate _ _ hl]
  have hs : (askE rate l (noise + m0) (tail + m1)).2 = (askE rate l noise tail).2 := by rw [askE_same (n2 := noise) (t2 := tail) (by omega) (by omega) (by omega) (by omega)]
  by_cases ha : (askE rate l noise tail).2 = 0
  case neg =>
    rw [hs, if_pos (show (askE rate l noise tail).2 ≠ 0 from ha), if_pos (show ((([], (askE rate l noise tail).2) : List (List Int) × Int).2 != 0) = true by simpa using ha)]
    simp [ha]
  have hb : (askE rate l (noise + m0) (tail + m1)).2 = 0 := by rw [hs]; exact ha
  rw [hs, if_neg (show ¬ (askE rate l noise tail).2 ≠ 0 from fun hh => hh ha), if_neg (show ¬ (askE rate l noise tail).2 ≠ 0 from fun hh => hh ha)]
  obtain ⟨z1, hr, _, hl2, _, _, _⟩ := ask_zok ha
  obtain ⟨z2, _, _, _, _, _, _⟩ := ask_zok hb
  have hn : Nest (zsO noise l) tail (zsO (noise + m0) l) (tail + m1) := by
    have := nest_of (A := zsO noise l) (B := []) (T1 := tail) (T2 := tail + m1) (in2_wid h3.1 (by omega) l) (by simp [sHi]; omega) (by rw [List.append_nil]; exact z1) z2
    rw [List.append_nil] at this
    exact this
  dsimp only
  rw [if_neg (by decide), if_neg (by decide), suS_len, suS_len, zsO_len, zsO_len, if_neg (by simp), if_neg (by simp)]
  have e0 : iter (T_TopLongerTail_b0 (suS (zsO noise l) tail, 0) (suS (zsO (noise + m0) l) (tail + m1), 0)) big (0 : Int) = some (.inr ()) := by
    refine iter_upto (fun i => (i : Int)) (k := l.length) (fun i hi => ?_) ?_ (by omega)
    · have g1 := suS_get (zs := zsO noise l) (T := tail) (i := i) (by rw [zsO_len]; exact hi)
      have g2 := suS_get (zs := zsO (noise + m0) l) (T := tail + m1) (i := i) (by rw [zsO_len]; exact hi)
      have n1 := hn.lo i (by rw [zsO_len]; omega)
      have n2 := hn.hi i (by rw [zsO_len]; omega)
      unfold T_TopLongerTail_b0
      dsimp only
      rw [suS_len, suS_len, zsO_len, zsO_len]
      simp only [Int.toNat_natCast, g1, g2]
      simp only [show ((i : Int) < (l.length : Int)) by omega, show ((0 : Int) ≤ (i : Int) ∧ (i : Int) < (l.length : Int)) by omega, hi, and_self, if_true]
      rw [if_neg (by show ¬ sLo _ > sLo _; omega), if_neg (by show ¬ sHi _ + _ < sHi _ + _; omega), wr64 (by omega)]
      rfl
    · unfold T_TopLongerTail_b0
      dsimp only
      rw [suS_len, zsO_len, if_neg (by omega)]
  rw [e0, bind_some']
  show T_TopLongerTail_r0_1 noise tail m0 m1 time (rate, l) () = some true
  unfold T_TopLongerTail_r0_1
  have e1 : iter (T_TopLongerTail_b1 noise tail m0 m1 (rate, l)) big (0 : Int) = some (.inr ()) := by
    refine iter_upto (fun i => (i : Int)) (k := 3) (fun i hi => ?_) ?_ (by omega)
    · have hk : 0 ≤ (i : Int) ∧ (i : Int) ≤ 2 := by omega
      unfold T_TopLongerTail_b1
      dsimp only
      rw [if_pos (by omega), decayWithinG_eq rate _ _ _ hl, bind_some', wr64 (x := noise + m0) (by omega), wr64 (x := tail + m1) (by omega), decayWithinG_eq rate _ _ _ hl, bind_some', decW_ok ha hk, decW_ok hb hk, wr64 (by omega)]
      by_cases he : (decS rate (zsO (noise + m0) l) (tail + m1) (i : Int)).2.2 = 0
      · obtain ⟨d1, d2, d3⟩ := dec_nest hn hr.1 he
        rw [if_pos (show ((decS rate (zsO (noise + m0) l) (tail + m1) (i : Int)).2.2 == 0) = true by simpa using he), bne_f d1, if_neg Bool.false_ne_true, if_neg (by omega), if_neg (by omega)]
        rfl
      · rw [if_neg (show ¬ ((decS rate (zsO (noise + m0) l) (tail + m1) (i : Int)).2.2 == 0) = true by simpa using he)]
        rfl
    · rfl
  rw [e1, bind_some']
  show T_TopLongerTail_r1_1 noise tail m0 m1 time (rate, l) () = some true
  unfold T_TopLongerTail_r1_1
  dsimp only
  rw [definitionWithinG_eq rate _ _ _ hl, bind_some', wr64 (x := noise + m0) (by omega), wr64 (x := tail + m1) (by omega), definitionWithinG_eq rate _ _ _ hl, bind_some', dwW_ok ha ht, dwW_ok hb ht]
  by_cases he : (dwZ rate time (zsO (noise + m0) l) (tail + m1)).2.2 = 0
  · obtain ⟨d1, d2, d3, _⟩ := dw_nest hn he
    rw [bne_f he, if_neg Bool.false_ne_true, if_pos (show ((dwZ rate time (zsO noise l) tail).2.2 == 0) = true by simpa using d1), if_pos d2, decide_eq_true (show (dwZ rate time (zsO (noise + m0) l) (tail + m1)).2.1 ≥ (dwZ rate time (zsO noise l) tail).2.1 from d3)]
  · rw [bne_t he, if_pos rfl]
end Go.Sh
end
