/- Mirrors of functions, and their contracts: made by a program of mine. -/
import Derived.Test.YtndhdojnlobloaaCz
import Derived.Test.YtndhdojnlobloaaXf
import Derived.Test.YtndhdojnlobloaaSb
import Derived.Test.YtndhdojnlobloaaMc
set_option linter.unusedSectionVars false
set_option linter.unusedSimpArgs false
set_option linter.unusedVariables false
namespace Go.Sh
open Go Go.Proofs Go.RowKit Go.Sx
set_option linter.unusedVariables false
/-- shoebox/shoeboxlaw06.Half -/
def L06_Half : Option (Int × Int × Int × Int × Int) :=
  some (((8192 : Int), (0 : Int), (0 : Int), (-8192 : Int), (0 : Int)))
def g_L06_Half : List A → Option (Prop × List RV)
  | [] => some (ok (L06_Half), [.s [.i .i64 ((val (L06_Half)).1), .i .i64 ((val (L06_Half)).2.1), .i .i64 ((val (L06_Half)).2.2.1), .i .i64 ((val (L06_Half)).2.2.2.1), .i .i64 ((val (L06_Half)).2.2.2.2)]])
  | _ => none
def k_L06_Half : List (Option Cont) := []
abbrev sp_81 : Specs → Specs := addK 81 true (pureK k_L06_Half g_L06_Half)
set_option maxRecDepth 100000 in
theorem L06_Half_vc (r : Int × Int × Int × Int × Int) (h : Option.bind (L06_Half) some = some r) : runF Try.f81 (sp0) (fun _ _ _ => none) [] [.s [.i .i64 r.1, .i .i64 r.2.1, .i .i64 r.2.2.1, .i .i64 r.2.2.2.1, .i .i64 r.2.2.2.2]] := by
  refine Eq.mp (by kernel_rfl : (
  (Ob (True) ∧
   (Ob ((8192 : Int) = r.1) ∧
   (Ob ((0 : Int) = r.2.1) ∧
   (Ob ((0 : Int) = r.2.2.1) ∧
   (Ob ((-8192 : Int) = r.2.2.2.1) ∧
   (Ob ((0 : Int) = r.2.2.2.2) ∧
   True))))))) = _) ?_
  refine ob_t ?_
  exact ret_s h (fun e => by subst e; exact (by repeat' (first | exact trivial | exact ⟨rfl⟩ | refine And.intro ?_ ?_)))
set_option maxRecDepth 100000 in
theorem L06_Half_ok : SpecOK Try.prog 81 true (pureK k_L06_Half g_L06_Half) := by
  refine pureK_ok (sp := sp0) (fn := Try.f81) (body := bodyOf Try.f81) mixed sp0_ok Try.func81 (by kernel_rfl) (by kernel_rfl) fun as_ ob rs h ho => ?_
  unfold g_L06_Half at h
  split at h
  · cases h
    exact ⟨Nat.le_of_ble_eq_true rfl, _, _, L06_Half_vc _ (ok_some ho)⟩
  · cases h
theorem sp_81_ok {sp : Specs} (h : SpecsOK Try.prog sp) : SpecsOK Try.prog (sp_81 sp) := addK_ok L06_Half_ok h

/-- math/bits.Mul64 -/
def math_bits_Mul64 (x_ : Int) (y_ : Int) : Option (Int × Int) :=
  some ((IntKind.wrap IntKind.u64 (IntKind.wrap IntKind.u64 (IntKind.wrap IntKind.u64 (Int.fdiv x_ ((2 : Int) ^ min (32 : Nat) (IntKind.bits IntKind.u64)) * Int.fdiv y_ ((2 : Int) ^ min (32 : Nat) (IntKind.bits IntKind.u64))) + Int.fdiv (IntKind.wrap IntKind.u64 (IntKind.wrap IntKind.u64 (Int.fdiv x_ ((2 : Int) ^ min (32 : Nat) (IntKind.bits IntKind.u64)) * IntKind.wrap IntKind.u64 (↑(BitVec.toNat (BitVec.ofInt (IntKind.bits IntKind.u64) y_ &&& BitVec.ofInt (IntKind.bits IntKind.u64) (4294967295 : Int))) : Int)) + Int.fdiv (IntKind.wrap IntKind.u64 (IntKind.wrap IntKind.u64 (↑(BitVec.toNat (BitVec.ofInt (IntKind.bits IntKind.u64) x_ &&& BitVec.ofInt (IntKind.bits IntKind.u64) (4294967295 : Int))) : Int) * IntKind.wrap IntKind.u64 (↑(BitVec.toNat (BitVec.ofInt (IntKind.bits IntKind.u64) y_ &&& BitVec.ofInt (IntKind.bits IntKind.u64) (4294967295 : Int))) : Int))) ((2 : Int) ^ min (32 : Nat) (IntKind.bits IntKind.u64)))) ((2 : Int) ^ min (32 : Nat) (IntKind.bits IntKind.u64))) + Int.fdiv (IntKind.wrap IntKind.u64 (IntKind.wrap IntKind.u64 (↑(BitVec.toNat (BitVec.ofInt (IntKind.bits IntKind.u64) (IntKind.wrap IntKind.u64 (IntKind.wrap IntKind.u64 (Int.fdiv x_ ((2 : Int) ^ min (32 : Nat) (IntKind.bits IntKind.u64)) * IntKind.wrap IntKind.u64 (↑(BitVec.toNat (BitVec.ofInt (IntKind.bits IntKind.u64) y_ &&& BitVec.ofInt (IntKind.bits IntKind.u64) (4294967295 : Int))) : Int)) + Int.fdiv (IntKind.wrap IntKind.u64 (IntKind.wrap IntKind.u64 (↑(BitVec.toNat (BitVec.ofInt (IntKind.bits IntKind.u64) x_ &&& BitVec.ofInt (IntKind.bits IntKind.u64) (4294967295 : Int))) : Int) * IntKind.wrap IntKind.u64 (↑(BitVec.toNat (BitVec.ofInt (IntKind.bits IntKind.u64) y_ &&& BitVec.ofInt (IntKind.bits IntKind.u64) (4294967295 : Int))) : Int))) ((2 : Int) ^ min (32 : Nat) (IntKind.bits IntKind.u64)))) &&& BitVec.ofInt (IntKind.bits IntKind.u64) (4294967295 : Int))) : Int) + IntKind.wrap IntKind.u64 (IntKind.wrap IntKind.u64 (↑(BitVec.toNat (BitVec.ofInt (IntKind.bits IntKind.u64) x_ &&& BitVec.ofInt (IntKind.bits IntKind.u64) (4294967295 : Int))) : Int) * Int.fdiv y_ ((2 : Int) ^ min (32 : Nat) (IntKind.bits IntKind.u64))))) ((2 : Int) ^ min (32 : Nat) (IntKind.bits IntKind.u64))), IntKind.wrap IntKind.u64 (x_ * y_)))
def g_math_bits_Mul64 : List A → Option (Prop × List RV)
  | [.d (.i .u64 x_), .d (.i .u64 y_)] => some (ok (math_bits_Mul64 x_ y_), [.d (.i .u64 ((val (math_bits_Mul64 x_ y_)).1)), .d (.i .u64 ((val (math_bits_Mul64 x_ y_)).2))])
  | _ => none
def k_math_bits_Mul64 : List (Option Cont) := [none, none]
abbrev sp_118 : Specs → Specs := addK 118 true (pureK k_math_bits_Mul64 g_math_bits_Mul64)
set_option maxRecDepth 100000 in
theorem math_bits_Mul64_vc (x_ : Int) (y_ : Int) (r : Int × Int) (h : Option.bind (math_bits_Mul64 x_ y_) some = some r) : runF Try.f118 (sp0) (fun _ _ _ => none) [.d (.i .u64 x_), .d (.i .u64 y_)] [.d (.i .u64 r.1), .d (.i .u64 r.2)] := by
  refine Eq.mp (by kernel_rfl : (
  (Ob ((0 : Int) ≤ (32 : Int)) ∧
   (Ob ((0 : Int) ≤ (32 : Int)) ∧
   (Ob ((0 : Int) ≤ (32 : Int)) ∧
   (Ob ((0 : Int) ≤ (32 : Int)) ∧
   (Ob ((0 : Int) ≤ (32 : Int)) ∧
   (Ob (True) ∧
   (Ob (True) ∧
   (Ob (IntKind.wrap IntKind.u64 (IntKind.wrap IntKind.u64 (IntKind.wrap IntKind.u64 (Int.fdiv x_ ((2 : Int) ^ min (32 : Nat) (IntKind.bits IntKind.u64)) * Int.fdiv y_ ((2 : Int) ^ min (32 : Nat) (IntKind.bits IntKind.u64))) + Int.fdiv (IntKind.wrap IntKind.u64 (IntKind.wrap IntKind.u64 (Int.fdiv x_ ((2 : Int) ^ min (32 : Nat) (IntKind.bits IntKind.u64)) * IntKind.wrap IntKind.u64 (↑(BitVec.toNat (BitVec.ofInt (IntKind.bits IntKind.u64) y_ &&& BitVec.ofInt (IntKind.bits IntKind.u64) (4294967295 : Int))) : Int)) + Int.fdiv (IntKind.wrap IntKind.u64 (IntKind.wrap IntKind.u64 (↑(BitVec.toNat (BitVec.ofInt (IntKind.bits IntKind.u64) x_ &&& BitVec.ofInt (IntKind.bits IntKind.u64) (4294967295 : Int))) : Int) * IntKind.wrap IntKind.u64 (↑(BitVec.toNat (BitVec.ofInt (IntKind.bits IntKind.u64) y_ &&& BitVec.ofInt (IntKind.bits IntKind.u64) (4294967295 : Int))) : Int))) ((2 : Int) ^ min (32 : Nat) (IntKind.bits IntKind.u64)))) ((2 : Int) ^ min (32 : Nat) (IntKind.bits IntKind.u64))) + Int.fdiv (IntKind.wrap IntKind.u64 (IntKind.wrap IntKind.u64 (↑(BitVec.toNat (BitVec.ofInt (IntKind.bits IntKind.u64) (IntKind.wrap IntKind.u64 (IntKind.wrap IntKind.u64 (Int.fdiv x_ ((2 : Int) ^ min (32 : Nat) (IntKind.bits IntKind.u64)) * IntKind.wrap IntKind.u64 (↑(BitVec.toNat (BitVec.ofInt (IntKind.bits IntKind.u64) y_ &&& BitVec.ofInt (IntKind.bits IntKind.u64) (4294967295 : Int))) : Int)) + Int.fdiv (IntKind.wrap IntKind.u64 (IntKind.wrap IntKind.u64 (↑(BitVec.toNat (BitVec.ofInt (IntKind.bits IntKind.u64) x_ &&& BitVec.ofInt (IntKind.bits IntKind.u64) (4294967295 : Int))) : Int) * IntKind.wrap IntKind.u64 (↑(BitVec.toNat (BitVec.ofInt (IntKind.bits IntKind.u64) y_ &&& BitVec.ofInt (IntKind.bits IntKind.u64) (4294967295 : Int))) : Int))) ((2 : Int) ^ min (32 : Nat) (IntKind.bits IntKind.u64)))) &&& BitVec.ofInt (IntKind.bits IntKind.u64) (4294967295 : Int))) : Int) + IntKind.wrap IntKind.u64 (IntKind.wrap IntKind.u64 (↑(BitVec.toNat (BitVec.ofInt (IntKind.bits IntKind.u64) x_ &&& BitVec.ofInt (IntKind.bits IntKind.u64) (4294967295 : Int))) : Int) * Int.fdiv y_ ((2 : Int) ^ min (32 : Nat) (IntKind.bits IntKind.u64))))) ((2 : Int) ^ min (32 : Nat) (IntKind.bits IntKind.u64))) = r.1) ∧
   (Ob (IntKind.wrap IntKind.u64 (x_ * y_) = r.2) ∧
   True)))))))))) = _) ?_
  refine ob_c (p := (0 : Int) ≤ (32 : Int)) (by decide) ?_
  refine ob_c (p := (0 : Int) ≤ (32 : Int)) (by decide) ?_
  refine ob_c (p := (0 : Int) ≤ (32 : Int)) (by decide) ?_
  refine ob_c (p := (0 : Int) ≤ (32 : Int)) (by decide) ?_
  refine ob_c (p := (0 : Int) ≤ (32 : Int)) (by decide) ?_
  refine ob_t ?_
  refine ob_t ?_
  exact ret_s h (fun e => by subst e; exact (by repeat' (first | exact trivial | exact ⟨rfl⟩ | refine And.intro ?_ ?_)))
set_option maxRecDepth 100000 in
theorem math_bits_Mul64_ok : SpecOK Try.prog 118 true (pureK k_math_bits_Mul64 g_math_bits_Mul64) := by
  refine pureK_ok (sp := sp0) (fn := Try.f118) (body := bodyOf Try.f118) mixed sp0_ok Try.func118 (by kernel_rfl) (by kernel_rfl) fun as_ ob rs h ho => ?_
  unfold g_math_bits_Mul64 at h
  split at h
  · rename_i x_ y_
    cases h
    exact ⟨Nat.le_of_ble_eq_true rfl, _, _, math_bits_Mul64_vc x_ y_ _ (ok_some ho)⟩
  · cases h
theorem sp_118_ok {sp : Specs} (h : SpecsOK Try.prog sp) : SpecsOK Try.prog (sp_118 sp) := addK_ok math_bits_Mul64_ok h

/-- math/bits.Len64 -/
def math_bits_Len64 (x_ : Int) : Option Int :=
  if x_ ≥ (4294967296 : Int) then
   if Int.fdiv x_ ((2 : Int) ^ min (32 : Nat) (IntKind.bits IntKind.u64)) ≥ (65536 : Int) then
   if Int.fdiv (Int.fdiv x_ ((2 : Int) ^ min (32 : Nat) (IntKind.bits IntKind.u64))) ((2 : Int) ^ min (16 : Nat) (IntKind.bits IntKind.u64)) ≥ (256 : Int) then
   if (0 : Int) ≤ IntKind.wrap IntKind.u8 (Int.fdiv (Int.fdiv (Int.fdiv x_ ((2 : Int) ^ min (32 : Nat) (IntKind.bits IntKind.u64))) ((2 : Int) ^ min (16 : Nat) (IntKind.bits IntKind.u64))) ((2 : Int) ^ min (8 : Nat) (IntKind.bits IntKind.u64))) ∧ IntKind.wrap IntKind.u8 (Int.fdiv (Int.fdiv (Int.fdiv x_ ((2 : Int) ^ min (32 : Nat) (IntKind.bits IntKind.u64))) ((2 : Int) ^ min (16 : Nat) (IntKind.bits IntKind.u64))) ((2 : Int) ^ min (8 : Nat) (IntKind.bits IntKind.u64))) < (↑(ByteArray.size tab8) : Int) then
   some (IntKind.wrap IntKind.i64 (IntKind.wrap IntKind.i64 (IntKind.wrap IntKind.i64 ((32 : Int) + (16 : Int)) + (8 : Int)) + IntKind.wrap IntKind.i64 (↑(UInt8.toNat (Array.getD (ByteArray.data tab8) (Int.toNat (IntKind.wrap IntKind.u8 (Int.fdiv (Int.fdiv (Int.fdiv x_ ((2 : Int) ^ min (32 : Nat) (IntKind.bits IntKind.u64))) ((2 : Int) ^ min (16 : Nat) (IntKind.bits IntKind.u64))) ((2 : Int) ^ min (8 : Nat) (IntKind.bits IntKind.u64))))) (0 : UInt8))) : Int)))
   else none
   else
   if (0 : Int) ≤ IntKind.wrap IntKind.u8 (Int.fdiv (Int.fdiv x_ ((2 : Int) ^ min (32 : Nat) (IntKind.bits IntKind.u64))) ((2 : Int) ^ min (16 : Nat) (IntKind.bits IntKind.u64))) ∧ IntKind.wrap IntKind.u8 (Int.fdiv (Int.fdiv x_ ((2 : Int) ^ min (32 : Nat) (IntKind.bits IntKind.u64))) ((2 : Int) ^ min (16 : Nat) (IntKind.bits IntKind.u64))) < (↑(ByteArray.size tab8) : Int) then
   some (IntKind.wrap IntKind.i64 (IntKind.wrap IntKind.i64 ((32 : Int) + (16 : Int)) + IntKind.wrap IntKind.i64 (↑(UInt8.toNat (Array.getD (ByteArray.data tab8) (Int.toNat (IntKind.wrap IntKind.u8 (Int.fdiv (Int.fdiv x_ ((2 : Int) ^ min (32 : Nat) (IntKind.bits IntKind.u64))) ((2 : Int) ^ min (16 : Nat) (IntKind.bits IntKind.u64))))) (0 : UInt8))) : Int)))
   else none
   else
   if Int.fdiv x_ ((2 : Int) ^ min (32 : Nat) (IntKind.bits IntKind.u64)) ≥ (256 : Int) then
   if (0 : Int) ≤ IntKind.wrap IntKind.u8 (Int.fdiv (Int.fdiv x_ ((2 : Int) ^ min (32 : Nat) (IntKind.bits IntKind.u64))) ((2 : Int) ^ min (8 : Nat) (IntKind.bits IntKind.u64))) ∧ IntKind.wrap IntKind.u8 (Int.fdiv (Int.fdiv x_ ((2 : Int) ^ min (32 : Nat) (IntKind.bits IntKind.u64))) ((2 : Int) ^ min (8 : Nat) (IntKind.bits IntKind.u64))) < (↑(ByteArray.size tab8) : Int) then
   some (IntKind.wrap IntKind.i64 (IntKind.wrap IntKind.i64 ((32 : Int) + (8 : Int)) + IntKind.wrap IntKind.i64 (↑(UInt8.toNat (Array.getD (ByteArray.data tab8) (Int.toNat (IntKind.wrap IntKind.u8 (Int.fdiv (Int.fdiv x_ ((2 : Int) ^ min (32 : Nat) (IntKind.bits IntKind.u64))) ((2 : Int) ^ min (8 : Nat) (IntKind.bits IntKind.u64))))) (0 : UInt8))) : Int)))
   else none
   else
   if (0 : Int) ≤ IntKind.wrap IntKind.u8 (Int.fdiv x_ ((2 : Int) ^ min (32 : Nat) (IntKind.bits IntKind.u64))) ∧ IntKind.wrap IntKind.u8 (Int.fdiv x_ ((2 : Int) ^ min (32 : Nat) (IntKind.bits IntKind.u64))) < (↑(ByteArray.size tab8) : Int) then
   some (IntKind.wrap IntKind.i64 ((32 : Int) + IntKind.wrap IntKind.i64 (↑(UInt8.toNat (Array.getD (ByteArray.data tab8) (Int.toNat (IntKind.wrap IntKind.u8 (Int.fdiv x_ ((2 : Int) ^ min (32 : Nat) (IntKind.bits IntKind.u64))))) (0 : UInt8))) : Int)))
   else none
  else
   if x_ ≥ (65536 : Int) then
   if Int.fdiv x_ ((2 : Int) ^ min (16 : Nat) (IntKind.bits IntKind.u64)) ≥ (256 : Int) then
   if (0 : Int) ≤ IntKind.wrap IntKind.u8 (Int.fdiv (Int.fdiv x_ ((2 : Int) ^ min (16 : Nat) (IntKind.bits IntKind.u64))) ((2 : Int) ^ min (8 : Nat) (IntKind.bits IntKind.u64))) ∧ IntKind.wrap IntKind.u8 (Int.fdiv (Int.fdiv x_ ((2 : Int) ^ min (16 : Nat) (IntKind.bits IntKind.u64))) ((2 : Int) ^ min (8 : Nat) (IntKind.bits IntKind.u64))) < (↑(ByteArray.size tab8) : Int) then
   some (IntKind.wrap IntKind.i64 (IntKind.wrap IntKind.i64 (IntKind.wrap IntKind.i64 ((0 : Int) + (16 : Int)) + (8 : Int)) + IntKind.wrap IntKind.i64 (↑(UInt8.toNat (Array.getD (ByteArray.data tab8) (Int.toNat (IntKind.wrap IntKind.u8 (Int.fdiv (Int.fdiv x_ ((2 : Int) ^ min (16 : Nat) (IntKind.bits IntKind.u64))) ((2 : Int) ^ min (8 : Nat) (IntKind.bits IntKind.u64))))) (0 : UInt8))) : Int)))
   else none
   else
   if (0 : Int) ≤ IntKind.wrap IntKind.u8 (Int.fdiv x_ ((2 : Int) ^ min (16 : Nat) (IntKind.bits IntKind.u64))) ∧ IntKind.wrap IntKind.u8 (Int.fdiv x_ ((2 : Int) ^ min (16 : Nat) (IntKind.bits IntKind.u64))) < (↑(ByteArray.size tab8) : Int) then
   some (IntKind.wrap IntKind.i64 (IntKind.wrap IntKind.i64 ((0 : Int) + (16 : Int)) + IntKind.wrap IntKind.i64 (↑(UInt8.toNat (Array.getD (ByteArray.data tab8) (Int.toNat (IntKind.wrap IntKind.u8 (Int.fdiv x_ ((2 : Int) ^ min (16 : Nat) (IntKind.bits IntKind.u64))))) (0 : UInt8))) : Int)))
   else none
   else
   if x_ ≥ (256 : Int) then
   if (0 : Int) ≤ IntKind.wrap IntKind.u8 (Int.fdiv x_ ((2 : Int) ^ min (8 : Nat) (IntKind.bits IntKind.u64))) ∧ IntKind.wrap IntKind.u8 (Int.fdiv x_ ((2 : Int) ^ min (8 : Nat) (IntKind.bits IntKind.u64))) < (↑(ByteArray.size tab8) : Int) then
   some (IntKind.wrap IntKind.i64 (IntKind.wrap IntKind.i64 ((0 : Int) + (8 : Int)) + IntKind.wrap IntKind.i64 (↑(UInt8.toNat (Array.getD (ByteArray.data tab8) (Int.toNat (IntKind.wrap IntKind.u8 (Int.fdiv x_ ((2 : Int) ^ min (8 : Nat) (IntKind.bits IntKind.u64))))) (0 : UInt8))) : Int)))
   else none
   else
   if (0 : Int) ≤ IntKind.wrap IntKind.u8 x_ ∧ IntKind.wrap IntKind.u8 x_ < (↑(ByteArray.size tab8) : Int) then
   some (IntKind.wrap IntKind.i64 ((0 : Int) + IntKind.wrap IntKind.i64 (↑(UInt8.toNat (Array.getD (ByteArray.data tab8) (Int.toNat (IntKind.wrap IntKind.u8 x_)) (0 : UInt8))) : Int)))
   else none
def g_math_bits_Len64 : List A → Option (Prop × List RV)
  | [.d (.i .u64 x_)] => some (ok (math_bits_Len64 x_), [.d (.i .i64 ((val (math_bits_Len64 x_))))])
  | _ => none
def k_math_bits_Len64 : List (Option Cont) := [none]
abbrev sp_137 : Specs → Specs := addK 137 true (pureK k_math_bits_Len64 g_math_bits_Len64)
set_option maxRecDepth 100000 in
theorem math_bits_Len64_vc (x_ : Int) (r : Int) (h : Option.bind (math_bits_Len64 x_) some = some r) : runF Try.f137 (sp0) (fun _ _ _ => none) [.d (.i .u64 x_)] [.d (.i .i64 r)] := by
  refine Eq.mp (by kernel_rfl : (
  Br (decide (x_ ≥ (4294967296 : Int)))
   ((Ob ((0 : Int) ≤ (32 : Int)) ∧
   Br (decide (Int.fdiv x_ ((2 : Int) ^ min (32 : Nat) (IntKind.bits IntKind.u64)) ≥ (65536 : Int)))
   ((Ob ((0 : Int) ≤ (16 : Int)) ∧
   Br (decide (Int.fdiv (Int.fdiv x_ ((2 : Int) ^ min (32 : Nat) (IntKind.bits IntKind.u64))) ((2 : Int) ^ min (16 : Nat) (IntKind.bits IntKind.u64)) ≥ (256 : Int)))
   ((Ob ((0 : Int) ≤ (8 : Int)) ∧
   (Ob (True) ∧
   (Ob ((0 : Int) ≤ IntKind.wrap IntKind.u8 (Int.fdiv (Int.fdiv (Int.fdiv x_ ((2 : Int) ^ min (32 : Nat) (IntKind.bits IntKind.u64))) ((2 : Int) ^ min (16 : Nat) (IntKind.bits IntKind.u64))) ((2 : Int) ^ min (8 : Nat) (IntKind.bits IntKind.u64))) ∧ IntKind.wrap IntKind.u8 (Int.fdiv (Int.fdiv (Int.fdiv x_ ((2 : Int) ^ min (32 : Nat) (IntKind.bits IntKind.u64))) ((2 : Int) ^ min (16 : Nat) (IntKind.bits IntKind.u64))) ((2 : Int) ^ min (8 : Nat) (IntKind.bits IntKind.u64))) < (↑(ByteArray.size tab8) : Int)) ∧
   (Ob (True) ∧
   (Ob (True) ∧
   (Ob (IntKind.wrap IntKind.i64 (IntKind.wrap IntKind.i64 (IntKind.wrap IntKind.i64 ((32 : Int) + (16 : Int)) + (8 : Int)) + IntKind.wrap IntKind.i64 (↑(UInt8.toNat (Array.getD (ByteArray.data tab8) (Int.toNat (IntKind.wrap IntKind.u8 (Int.fdiv (Int.fdiv (Int.fdiv x_ ((2 : Int) ^ min (32 : Nat) (IntKind.bits IntKind.u64))) ((2 : Int) ^ min (16 : Nat) (IntKind.bits IntKind.u64))) ((2 : Int) ^ min (8 : Nat) (IntKind.bits IntKind.u64))))) (0 : UInt8))) : Int)) = r) ∧
   True)))))))
   ((Ob (True) ∧
   (Ob ((0 : Int) ≤ IntKind.wrap IntKind.u8 (Int.fdiv (Int.fdiv x_ ((2 : Int) ^ min (32 : Nat) (IntKind.bits IntKind.u64))) ((2 : Int) ^ min (16 : Nat) (IntKind.bits IntKind.u64))) ∧ IntKind.wrap IntKind.u8 (Int.fdiv (Int.fdiv x_ ((2 : Int) ^ min (32 : Nat) (IntKind.bits IntKind.u64))) ((2 : Int) ^ min (16 : Nat) (IntKind.bits IntKind.u64))) < (↑(ByteArray.size tab8) : Int)) ∧
   (Ob (True) ∧
   (Ob (True) ∧
   (Ob (IntKind.wrap IntKind.i64 (IntKind.wrap IntKind.i64 ((32 : Int) + (16 : Int)) + IntKind.wrap IntKind.i64 (↑(UInt8.toNat (Array.getD (ByteArray.data tab8) (Int.toNat (IntKind.wrap IntKind.u8 (Int.fdiv (Int.fdiv x_ ((2 : Int) ^ min (32 : Nat) (IntKind.bits IntKind.u64))) ((2 : Int) ^ min (16 : Nat) (IntKind.bits IntKind.u64))))) (0 : UInt8))) : Int)) = r) ∧
   True))))))))
   (Br (decide (Int.fdiv x_ ((2 : Int) ^ min (32 : Nat) (IntKind.bits IntKind.u64)) ≥ (256 : Int)))
   ((Ob ((0 : Int) ≤ (8 : Int)) ∧
   (Ob (True) ∧
   (Ob ((0 : Int) ≤ IntKind.wrap IntKind.u8 (Int.fdiv (Int.fdiv x_ ((2 : Int) ^ min (32 : Nat) (IntKind.bits IntKind.u64))) ((2 : Int) ^ min (8 : Nat) (IntKind.bits IntKind.u64))) ∧ IntKind.wrap IntKind.u8 (Int.fdiv (Int.fdiv x_ ((2 : Int) ^ min (32 : Nat) (IntKind.bits IntKind.u64))) ((2 : Int) ^ min (8 : Nat) (IntKind.bits IntKind.u64))) < (↑(ByteArray.size tab8) : Int)) ∧
   (Ob (True) ∧
   (Ob (True) ∧
   (Ob (IntKind.wrap IntKind.i64 (IntKind.wrap IntKind.i64 ((32 : Int) + (8 : Int)) + IntKind.wrap IntKind.i64 (↑(UInt8.toNat (Array.getD (ByteArray.data tab8) (Int.toNat (IntKind.wrap IntKind.u8 (Int.fdiv (Int.fdiv x_ ((2 : Int) ^ min (32 : Nat) (IntKind.bits IntKind.u64))) ((2 : Int) ^ min (8 : Nat) (IntKind.bits IntKind.u64))))) (0 : UInt8))) : Int)) = r) ∧
   True)))))))
   ((Ob (True) ∧
   (Ob ((0 : Int) ≤ IntKind.wrap IntKind.u8 (Int.fdiv x_ ((2 : Int) ^ min (32 : Nat) (IntKind.bits IntKind.u64))) ∧ IntKind.wrap IntKind.u8 (Int.fdiv x_ ((2 : Int) ^ min (32 : Nat) (IntKind.bits IntKind.u64))) < (↑(ByteArray.size tab8) : Int)) ∧
   (Ob (True) ∧
   (Ob (True) ∧
   (Ob (IntKind.wrap IntKind.i64 ((32 : Int) + IntKind.wrap IntKind.i64 (↑(UInt8.toNat (Array.getD (ByteArray.data tab8) (Int.toNat (IntKind.wrap IntKind.u8 (Int.fdiv x_ ((2 : Int) ^ min (32 : Nat) (IntKind.bits IntKind.u64))))) (0 : UInt8))) : Int)) = r) ∧
   True)))))))))
   (Br (decide (x_ ≥ (65536 : Int)))
   ((Ob ((0 : Int) ≤ (16 : Int)) ∧
   Br (decide (Int.fdiv x_ ((2 : Int) ^ min (16 : Nat) (IntKind.bits IntKind.u64)) ≥ (256 : Int)))
   ((Ob ((0 : Int) ≤ (8 : Int)) ∧
   (Ob (True) ∧
   (Ob ((0 : Int) ≤ IntKind.wrap IntKind.u8 (Int.fdiv (Int.fdiv x_ ((2 : Int) ^ min (16 : Nat) (IntKind.bits IntKind.u64))) ((2 : Int) ^ min (8 : Nat) (IntKind.bits IntKind.u64))) ∧ IntKind.wrap IntKind.u8 (Int.fdiv (Int.fdiv x_ ((2 : Int) ^ min (16 : Nat) (IntKind.bits IntKind.u64))) ((2 : Int) ^ min (8 : Nat) (IntKind.bits IntKind.u64))) < (↑(ByteArray.size tab8) : Int)) ∧
   (Ob (True) ∧
   (Ob (True) ∧
   (Ob (IntKind.wrap IntKind.i64 (IntKind.wrap IntKind.i64 (IntKind.wrap IntKind.i64 ((0 : Int) + (16 : Int)) + (8 : Int)) + IntKind.wrap IntKind.i64 (↑(UInt8.toNat (Array.getD (ByteArray.data tab8) (Int.toNat (IntKind.wrap IntKind.u8 (Int.fdiv (Int.fdiv x_ ((2 : Int) ^ min (16 : Nat) (IntKind.bits IntKind.u64))) ((2 : Int) ^ min (8 : Nat) (IntKind.bits IntKind.u64))))) (0 : UInt8))) : Int)) = r) ∧
   True)))))))
   ((Ob (True) ∧
   (Ob ((0 : Int) ≤ IntKind.wrap IntKind.u8 (Int.fdiv x_ ((2 : Int) ^ min (16 : Nat) (IntKind.bits IntKind.u64))) ∧ IntKind.wrap IntKind.u8 (Int.fdiv x_ ((2 : Int) ^ min (16 : Nat) (IntKind.bits IntKind.u64))) < (↑(ByteArray.size tab8) : Int)) ∧
   (Ob (True) ∧
   (Ob (True) ∧
   (Ob (IntKind.wrap IntKind.i64 (IntKind.wrap IntKind.i64 ((0 : Int) + (16 : Int)) + IntKind.wrap IntKind.i64 (↑(UInt8.toNat (Array.getD (ByteArray.data tab8) (Int.toNat (IntKind.wrap IntKind.u8 (Int.fdiv x_ ((2 : Int) ^ min (16 : Nat) (IntKind.bits IntKind.u64))))) (0 : UInt8))) : Int)) = r) ∧
   True))))))))
   (Br (decide (x_ ≥ (256 : Int)))
   ((Ob ((0 : Int) ≤ (8 : Int)) ∧
   (Ob (True) ∧
   (Ob ((0 : Int) ≤ IntKind.wrap IntKind.u8 (Int.fdiv x_ ((2 : Int) ^ min (8 : Nat) (IntKind.bits IntKind.u64))) ∧ IntKind.wrap IntKind.u8 (Int.fdiv x_ ((2 : Int) ^ min (8 : Nat) (IntKind.bits IntKind.u64))) < (↑(ByteArray.size tab8) : Int)) ∧
   (Ob (True) ∧
   (Ob (True) ∧
   (Ob (IntKind.wrap IntKind.i64 (IntKind.wrap IntKind.i64 ((0 : Int) + (8 : Int)) + IntKind.wrap IntKind.i64 (↑(UInt8.toNat (Array.getD (ByteArray.data tab8) (Int.toNat (IntKind.wrap IntKind.u8 (Int.fdiv x_ ((2 : Int) ^ min (8 : Nat) (IntKind.bits IntKind.u64))))) (0 : UInt8))) : Int)) = r) ∧
   True)))))))
   ((Ob (True) ∧
   (Ob ((0 : Int) ≤ IntKind.wrap IntKind.u8 x_ ∧ IntKind.wrap IntKind.u8 x_ < (↑(ByteArray.size tab8) : Int)) ∧
   (Ob (True) ∧
   (Ob (True) ∧
   (Ob (IntKind.wrap IntKind.i64 ((0 : Int) + IntKind.wrap IntKind.i64 (↑(UInt8.toNat (Array.getD (ByteArray.data tab8) (Int.toNat (IntKind.wrap IntKind.u8 x_)) (0 : UInt8))) : Int)) = r) ∧
   True))))))))) = _) ?_
  refine br_d h (fun h => ?_) (fun h => ?_)
  · refine ob_c (p := (0 : Int) ≤ (32 : Int)) (by decide) ?_
    refine br_d h (fun h => ?_) (fun h => ?_)
    · refine ob_c (p := (0 : Int) ≤ (16 : Int)) (by decide) ?_
      refine br_d h (fun h => ?_) (fun h => ?_)
      · refine ob_c (p := (0 : Int) ≤ (8 : Int)) (by decide) ?_
        refine ob_t ?_
        refine ob_s h fun h => ?_
        refine ob_t ?_
        refine ob_t ?_
        exact ret_s h (fun e => by subst e; exact (by repeat' (first | exact trivial | exact ⟨rfl⟩ | refine And.intro ?_ ?_)))
      · refine ob_t ?_
        refine ob_s h fun h => ?_
        refine ob_t ?_
        refine ob_t ?_
        exact ret_s h (fun e => by subst e; exact (by repeat' (first | exact trivial | exact ⟨rfl⟩ | refine And.intro ?_ ?_)))
    · refine br_d h (fun h => ?_) (fun h => ?_)
      · refine ob_c (p := (0 : Int) ≤ (8 : Int)) (by decide) ?_
        refine ob_t ?_
        refine ob_s h fun h => ?_
        refine ob_t ?_
        refine ob_t ?_
        exact ret_s h (fun e => by subst e; exact (by repeat' (first | exact trivial | exact ⟨rfl⟩ | refine And.intro ?_ ?_)))
      · refine ob_t ?_
        refine ob_s h fun h => ?_
        refine ob_t ?_
        refine ob_t ?_
        exact ret_s h (fun e => by subst e; exact (by repeat' (first | exact trivial | exact ⟨rfl⟩ | refine And.intro ?_ ?_)))
  · refine br_d h (fun h => ?_) (fun h => ?_)
    · refine ob_c (p := (0 : Int) ≤ (16 : Int)) (by decide) ?_
      refine br_d h (fun h => ?_) (fun h => ?_)
      · refine ob_c (p := (0 : Int) ≤ (8 : Int)) (by decide) ?_
        refine ob_t ?_
        refine ob_s h fun h => ?_
        refine ob_t ?_
        refine ob_t ?_
        exact ret_s h (fun e => by subst e; exact (by repeat' (first | exact trivial | exact ⟨rfl⟩ | refine And.intro ?_ ?_)))
      · refine ob_t ?_
        refine ob_s h fun h => ?_
        refine ob_t ?_
        refine ob_t ?_
        exact ret_s h (fun e => by subst e; exact (by repeat' (first | exact trivial | exact ⟨rfl⟩ | refine And.intro ?_ ?_)))
    · refine br_d h (fun h => ?_) (fun h => ?_)
      · refine ob_c (p := (0 : Int) ≤ (8 : Int)) (by decide) ?_
        refine ob_t ?_
        refine ob_s h fun h => ?_
        refine ob_t ?_
        refine ob_t ?_
        exact ret_s h (fun e => by subst e; exact (by repeat' (first | exact trivial | exact ⟨rfl⟩ | refine And.intro ?_ ?_)))
      · refine ob_t ?_
        refine ob_s h fun h => ?_
        refine ob_t ?_
        refine ob_t ?_
        exact ret_s h (fun e => by subst e; exact (by repeat' (first | exact trivial | exact ⟨rfl⟩ | refine And.intro ?_ ?_)))
set_option maxRecDepth 100000 in
theorem math_bits_Len64_ok : SpecOK Try.prog 137 true (pureK k_math_bits_Len64 g_math_bits_Len64) := by
  refine pureK_ok (sp := sp0) (fn := Try.f137) (body := bodyOf Try.f137) mixed sp0_ok Try.func137 (by kernel_rfl) (by kernel_rfl) fun as_ ob rs h ho => ?_
  unfold g_math_bits_Len64 at h
  split at h
  · rename_i x_
    cases h
    exact ⟨Nat.le_of_ble_eq_true rfl, _, _, math_bits_Len64_vc x_ _ (ok_some ho)⟩
  · cases h
theorem sp_137_ok {sp : Specs} (h : SpecsOK Try.prog sp) : SpecsOK Try.prog (sp_137 sp) := addK_ok math_bits_Len64_ok h

/-- math/bits.LeadingZeros64 -/
def math_bits_LeadingZeros64 (x_ : Int) : Option Int :=
  Option.bind (math_bits_Len64 x_) fun r0 =>
  some (IntKind.wrap IntKind.i64 ((64 : Int) - r0))
def g_math_bits_LeadingZeros64 : List A → Option (Prop × List RV)
  | [.d (.i .u64 x_)] => some (ok (math_bits_LeadingZeros64 x_), [.d (.i .i64 ((val (math_bits_LeadingZeros64 x_))))])
  | _ => none
def k_math_bits_LeadingZeros64 : List (Option Cont) := [none]
abbrev sp_135 : Specs → Specs := addK 135 true (pureK k_math_bits_LeadingZeros64 g_math_bits_LeadingZeros64)
set_option maxRecDepth 100000 in
theorem math_bits_LeadingZeros64_vc (x_ : Int) (r : Int) (h : Option.bind (math_bits_LeadingZeros64 x_) some = some r) : runF Try.f135 ((sp_137 sp0)) (fun _ _ _ => none) [.d (.i .u64 x_)] [.d (.i .i64 r)] := by
  refine Eq.mp (by kernel_rfl : (
  (Ob (ok (math_bits_Len64 x_)) ∧
   (Ob (True) ∧
   (Ob (IntKind.wrap IntKind.i64 ((64 : Int) - val (math_bits_Len64 x_)) = r) ∧
   True)))) = _) ?_
  refine call_s h fun h => ?_
  refine ob_t ?_
  exact ret_s h (fun e => by subst e; exact (by repeat' (first | exact trivial | exact ⟨rfl⟩ | refine And.intro ?_ ?_)))
set_option maxRecDepth 100000 in
theorem math_bits_LeadingZeros64_ok : SpecOK Try.prog 135 true (pureK k_math_bits_LeadingZeros64 g_math_bits_LeadingZeros64) := by
  refine pureK_ok (sp := (sp_137 sp0)) (fn := Try.f135) (body := bodyOf Try.f135) mixed (sp_137_ok sp0_ok) Try.func135 (by kernel_rfl) (by kernel_rfl) fun as_ ob rs h ho => ?_
  unfold g_math_bits_LeadingZeros64 at h
  split at h
  · rename_i x_
    cases h
    exact ⟨Nat.le_of_ble_eq_true rfl, _, _, math_bits_LeadingZeros64_vc x_ _ (ok_some ho)⟩
  · cases h
theorem sp_135_ok {sp : Specs} (h : SpecsOK Try.prog sp) : SpecsOK Try.prog (sp_135 sp) := addK_ok math_bits_LeadingZeros64_ok h

def math_bits_Div64_b0 (lo : Int) (y_ : Int) (r0 : Int) (x0 : (Int × Int)) : Option ((Int × Int) ⊕ Int) :=
  if x0.1 ≥ (4294967296 : Int) then
   if IntKind.wrap IntKind.u64 (x0.2 + Int.fdiv (IntKind.wrap IntKind.u64 (y_ * (2 : Int) ^ min (Int.toNat (IntKind.wrap IntKind.u64 r0)) (IntKind.bits IntKind.u64))) ((2 : Int) ^ min (32 : Nat) (IntKind.bits IntKind.u64))) ≥ (4294967296 : Int) then
   some (.inr (IntKind.wrap IntKind.u64 (x0.1 - (1 : Int))))
   else
   some (.inl ((IntKind.wrap IntKind.u64 (x0.1 - (1 : Int)), IntKind.wrap IntKind.u64 (x0.2 + Int.fdiv (IntKind.wrap IntKind.u64 (y_ * (2 : Int) ^ min (Int.toNat (IntKind.wrap IntKind.u64 r0)) (IntKind.bits IntKind.u64))) ((2 : Int) ^ min (32 : Nat) (IntKind.bits IntKind.u64))))))
  else
   if IntKind.wrap IntKind.u64 (x0.1 * IntKind.wrap IntKind.u64 (↑(BitVec.toNat (BitVec.ofInt (IntKind.bits IntKind.u64) (IntKind.wrap IntKind.u64 (y_ * (2 : Int) ^ min (Int.toNat (IntKind.wrap IntKind.u64 r0)) (IntKind.bits IntKind.u64))) &&& BitVec.ofInt (IntKind.bits IntKind.u64) (4294967295 : Int))) : Int)) > IntKind.wrap IntKind.u64 (IntKind.wrap IntKind.u64 ((4294967296 : Int) * x0.2) + Int.fdiv (IntKind.wrap IntKind.u64 (lo * (2 : Int) ^ min (Int.toNat (IntKind.wrap IntKind.u64 r0)) (IntKind.bits IntKind.u64))) ((2 : Int) ^ min (32 : Nat) (IntKind.bits IntKind.u64))) then
   if IntKind.wrap IntKind.u64 (x0.2 + Int.fdiv (IntKind.wrap IntKind.u64 (y_ * (2 : Int) ^ min (Int.toNat (IntKind.wrap IntKind.u64 r0)) (IntKind.bits IntKind.u64))) ((2 : Int) ^ min (32 : Nat) (IntKind.bits IntKind.u64))) ≥ (4294967296 : Int) then
   some (.inr (IntKind.wrap IntKind.u64 (x0.1 - (1 : Int))))
   else
   some (.inl ((IntKind.wrap IntKind.u64 (x0.1 - (1 : Int)), IntKind.wrap IntKind.u64 (x0.2 + Int.fdiv (IntKind.wrap IntKind.u64 (y_ * (2 : Int) ^ min (Int.toNat (IntKind.wrap IntKind.u64 r0)) (IntKind.bits IntKind.u64))) ((2 : Int) ^ min (32 : Nat) (IntKind.bits IntKind.u64))))))
   else
   some (.inr x0.1)
def math_bits_Div64_b1 (lo : Int) (y_ : Int) (r0 : Int) (x1 : (Int × Int)) : Option ((Int × Int) ⊕ Int) :=
  if x1.2 ≥ (4294967296 : Int) then
   if IntKind.wrap IntKind.u64 (x1.1 + Int.fdiv (IntKind.wrap IntKind.u64 (y_ * (2 : Int) ^ min (Int.toNat (IntKind.wrap IntKind.u64 r0)) (IntKind.bits IntKind.u64))) ((2 : Int) ^ min (32 : Nat) (IntKind.bits IntKind.u64))) ≥ (4294967296 : Int) then
   some (.inr (IntKind.wrap IntKind.u64 (x1.2 - (1 : Int))))
   else
   some (.inl ((IntKind.wrap IntKind.u64 (x1.1 + Int.fdiv (IntKind.wrap IntKind.u64 (y_ * (2 : Int) ^ min (Int.toNat (IntKind.wrap IntKind.u64 r0)) (IntKind.bits IntKind.u64))) ((2 : Int) ^ min (32 : Nat) (IntKind.bits IntKind.u64))), IntKind.wrap IntKind.u64 (x1.2 - (1 : Int)))))
  else
   if IntKind.wrap IntKind.u64 (x1.2 * IntKind.wrap IntKind.u64 (↑(BitVec.toNat (BitVec.ofInt (IntKind.bits IntKind.u64) (IntKind.wrap IntKind.u64 (y_ * (2 : Int) ^ min (Int.toNat (IntKind.wrap IntKind.u64 r0)) (IntKind.bits IntKind.u64))) &&& BitVec.ofInt (IntKind.bits IntKind.u64) (4294967295 : Int))) : Int)) > IntKind.wrap IntKind.u64 (IntKind.wrap IntKind.u64 ((4294967296 : Int) * x1.1) + IntKind.wrap IntKind.u64 (↑(BitVec.toNat (BitVec.ofInt (IntKind.bits IntKind.u64) (IntKind.wrap IntKind.u64 (lo * (2 : Int) ^ min (Int.toNat (IntKind.wrap IntKind.u64 r0)) (IntKind.bits IntKind.u64))) &&& BitVec.ofInt (IntKind.bits IntKind.u64) (4294967295 : Int))) : Int)) then
   if IntKind.wrap IntKind.u64 (x1.1 + Int.fdiv (IntKind.wrap IntKind.u64 (y_ * (2 : Int) ^ min (Int.toNat (IntKind.wrap IntKind.u64 r0)) (IntKind.bits IntKind.u64))) ((2 : Int) ^ min (32 : Nat) (IntKind.bits IntKind.u64))) ≥ (4294967296 : Int) then
   some (.inr (IntKind.wrap IntKind.u64 (x1.2 - (1 : Int))))
   else
   some (.inl ((IntKind.wrap IntKind.u64 (x1.1 + Int.fdiv (IntKind.wrap IntKind.u64 (y_ * (2 : Int) ^ min (Int.toNat (IntKind.wrap IntKind.u64 r0)) (IntKind.bits IntKind.u64))) ((2 : Int) ^ min (32 : Nat) (IntKind.bits IntKind.u64))), IntKind.wrap IntKind.u64 (x1.2 - (1 : Int)))))
   else
   some (.inr x1.2)
def math_bits_Div64_r1 (hi : Int) (lo : Int) (y_ : Int) (y0_0 : Int) (r0 : Int) (y1_0 : Int) : Option (Int × Int) :=
  if (0 : Int) ≤ IntKind.wrap IntKind.u64 r0 then
   some ((IntKind.wrap IntKind.u64 (IntKind.wrap IntKind.u64 (y0_0 * (4294967296 : Int)) + y1_0), Int.fdiv (IntKind.wrap IntKind.u64 (IntKind.wrap IntKind.u64 (IntKind.wrap IntKind.u64 (IntKind.wrap IntKind.u64 (IntKind.wrap IntKind.u64 (IntKind.wrap IntKind.u64 (IntKind.wrap IntKind.u64 (↑(BitVec.toNat (BitVec.ofInt (IntKind.bits IntKind.u64) (IntKind.wrap IntKind.u64 (hi * (2 : Int) ^ min (Int.toNat (IntKind.wrap IntKind.u64 r0)) (IntKind.bits IntKind.u64))) ||| BitVec.ofInt (IntKind.bits IntKind.u64) (Int.fdiv lo ((2 : Int) ^ min (Int.toNat (IntKind.wrap IntKind.u64 ((64 : Int) - IntKind.wrap IntKind.u64 r0))) (IntKind.bits IntKind.u64))))) : Int) * (4294967296 : Int)) + Int.fdiv (IntKind.wrap IntKind.u64 (lo * (2 : Int) ^ min (Int.toNat (IntKind.wrap IntKind.u64 r0)) (IntKind.bits IntKind.u64))) ((2 : Int) ^ min (32 : Nat) (IntKind.bits IntKind.u64))) - IntKind.wrap IntKind.u64 (y0_0 * IntKind.wrap IntKind.u64 (y_ * (2 : Int) ^ min (Int.toNat (IntKind.wrap IntKind.u64 r0)) (IntKind.bits IntKind.u64)))) * (4294967296 : Int)) + IntKind.wrap IntKind.u64 (↑(BitVec.toNat (BitVec.ofInt (IntKind.bits IntKind.u64) (IntKind.wrap IntKind.u64 (lo * (2 : Int) ^ min (Int.toNat (IntKind.wrap IntKind.u64 r0)) (IntKind.bits IntKind.u64))) &&& BitVec.ofInt (IntKind.bits IntKind.u64) (4294967295 : Int))) : Int)) - IntKind.wrap IntKind.u64 (y1_0 * IntKind.wrap IntKind.u64 (y_ * (2 : Int) ^ min (Int.toNat (IntKind.wrap IntKind.u64 r0)) (IntKind.bits IntKind.u64))))) ((2 : Int) ^ min (Int.toNat (IntKind.wrap IntKind.u64 r0)) (IntKind.bits IntKind.u64))))
  else none
def math_bits_Div64_r0 (hi : Int) (lo : Int) (y_ : Int) (r0 : Int) (y0_0 : Int) : Option (Int × Int) :=
  if Int.fdiv (IntKind.wrap IntKind.u64 (y_ * (2 : Int) ^ min (Int.toNat (IntKind.wrap IntKind.u64 r0)) (IntKind.bits IntKind.u64))) ((2 : Int) ^ min (32 : Nat) (IntKind.bits IntKind.u64)) ≠ (0 : Int) then
   Option.bind (iter (math_bits_Div64_b1 lo y_ r0) big ((IntKind.wrap IntKind.u64 (IntKind.wrap IntKind.u64 (IntKind.wrap IntKind.u64 (IntKind.wrap IntKind.u64 (IntKind.wrap IntKind.u64 (↑(BitVec.toNat (BitVec.ofInt (IntKind.bits IntKind.u64) (IntKind.wrap IntKind.u64 (hi * (2 : Int) ^ min (Int.toNat (IntKind.wrap IntKind.u64 r0)) (IntKind.bits IntKind.u64))) ||| BitVec.ofInt (IntKind.bits IntKind.u64) (Int.fdiv lo ((2 : Int) ^ min (Int.toNat (IntKind.wrap IntKind.u64 ((64 : Int) - IntKind.wrap IntKind.u64 r0))) (IntKind.bits IntKind.u64))))) : Int) * (4294967296 : Int)) + Int.fdiv (IntKind.wrap IntKind.u64 (lo * (2 : Int) ^ min (Int.toNat (IntKind.wrap IntKind.u64 r0)) (IntKind.bits IntKind.u64))) ((2 : Int) ^ min (32 : Nat) (IntKind.bits IntKind.u64))) - IntKind.wrap IntKind.u64 (y0_0 * IntKind.wrap IntKind.u64 (y_ * (2 : Int) ^ min (Int.toNat (IntKind.wrap IntKind.u64 r0)) (IntKind.bits IntKind.u64)))) - IntKind.wrap IntKind.u64 (IntKind.wrap IntKind.u64 (Int.tdiv (IntKind.wrap IntKind.u64 (IntKind.wrap IntKind.u64 (IntKind.wrap IntKind.u64 (IntKind.wrap IntKind.u64 (↑(BitVec.toNat (BitVec.ofInt (IntKind.bits IntKind.u64) (IntKind.wrap IntKind.u64 (hi * (2 : Int) ^ min (Int.toNat (IntKind.wrap IntKind.u64 r0)) (IntKind.bits IntKind.u64))) ||| BitVec.ofInt (IntKind.bits IntKind.u64) (Int.fdiv lo ((2 : Int) ^ min (Int.toNat (IntKind.wrap IntKind.u64 ((64 : Int) - IntKind.wrap IntKind.u64 r0))) (IntKind.bits IntKind.u64))))) : Int) * (4294967296 : Int)) + Int.fdiv (IntKind.wrap IntKind.u64 (lo * (2 : Int) ^ min (Int.toNat (IntKind.wrap IntKind.u64 r0)) (IntKind.bits IntKind.u64))) ((2 : Int) ^ min (32 : Nat) (IntKind.bits IntKind.u64))) - IntKind.wrap IntKind.u64 (y0_0 * IntKind.wrap IntKind.u64 (y_ * (2 : Int) ^ min (Int.toNat (IntKind.wrap IntKind.u64 r0)) (IntKind.bits IntKind.u64))))) (Int.fdiv (IntKind.wrap IntKind.u64 (y_ * (2 : Int) ^ min (Int.toNat (IntKind.wrap IntKind.u64 r0)) (IntKind.bits IntKind.u64))) ((2 : Int) ^ min (32 : Nat) (IntKind.bits IntKind.u64)))) * Int.fdiv (IntKind.wrap IntKind.u64 (y_ * (2 : Int) ^ min (Int.toNat (IntKind.wrap IntKind.u64 r0)) (IntKind.bits IntKind.u64))) ((2 : Int) ^ min (32 : Nat) (IntKind.bits IntKind.u64)))), IntKind.wrap IntKind.u64 (Int.tdiv (IntKind.wrap IntKind.u64 (IntKind.wrap IntKind.u64 (IntKind.wrap IntKind.u64 (IntKind.wrap IntKind.u64 (↑(BitVec.toNat (BitVec.ofInt (IntKind.bits IntKind.u64) (IntKind.wrap IntKind.u64 (hi * (2 : Int) ^ min (Int.toNat (IntKind.wrap IntKind.u64 r0)) (IntKind.bits IntKind.u64))) ||| BitVec.ofInt (IntKind.bits IntKind.u64) (Int.fdiv lo ((2 : Int) ^ min (Int.toNat (IntKind.wrap IntKind.u64 ((64 : Int) - IntKind.wrap IntKind.u64 r0))) (IntKind.bits IntKind.u64))))) : Int) * (4294967296 : Int)) + Int.fdiv (IntKind.wrap IntKind.u64 (lo * (2 : Int) ^ min (Int.toNat (IntKind.wrap IntKind.u64 r0)) (IntKind.bits IntKind.u64))) ((2 : Int) ^ min (32 : Nat) (IntKind.bits IntKind.u64))) - IntKind.wrap IntKind.u64 (y0_0 * IntKind.wrap IntKind.u64 (y_ * (2 : Int) ^ min (Int.toNat (IntKind.wrap IntKind.u64 r0)) (IntKind.bits IntKind.u64))))) (Int.fdiv (IntKind.wrap IntKind.u64 (y_ * (2 : Int) ^ min (Int.toNat (IntKind.wrap IntKind.u64 r0)) (IntKind.bits IntKind.u64))) ((2 : Int) ^ min (32 : Nat) (IntKind.bits IntKind.u64))))))) (math_bits_Div64_r1 hi lo y_ y0_0 r0)
  else none
/-- math/bits.Div64 -/
def math_bits_Div64 (hi : Int) (lo : Int) (y_ : Int) : Option (Int × Int) :=
  if (y_ == (0 : Int)) = true then
   none /- False -/
  else
   if y_ ≤ hi then
   none /- False -/
   else
   if (hi == (0 : Int)) = true then
   if y_ ≠ (0 : Int) then
   if y_ ≠ (0 : Int) then
   some ((IntKind.wrap IntKind.u64 (Int.tdiv lo y_), Int.tmod lo y_))
   else none
   else none
   else
   Option.bind (math_bits_LeadingZeros64 y_) fun r0 =>
   if (0 : Int) ≤ IntKind.wrap IntKind.u64 r0 then
   if (0 : Int) ≤ IntKind.wrap IntKind.u64 r0 then
   if (0 : Int) ≤ IntKind.wrap IntKind.u64 ((64 : Int) - IntKind.wrap IntKind.u64 r0) then
   if (0 : Int) ≤ IntKind.wrap IntKind.u64 r0 then
   if Int.fdiv (IntKind.wrap IntKind.u64 (y_ * (2 : Int) ^ min (Int.toNat (IntKind.wrap IntKind.u64 r0)) (IntKind.bits IntKind.u64))) ((2 : Int) ^ min (32 : Nat) (IntKind.bits IntKind.u64)) ≠ (0 : Int) then
   Option.bind (iter (math_bits_Div64_b0 lo y_ r0) big ((IntKind.wrap IntKind.u64 (Int.tdiv (IntKind.wrap IntKind.u64 (↑(BitVec.toNat (BitVec.ofInt (IntKind.bits IntKind.u64) (IntKind.wrap IntKind.u64 (hi * (2 : Int) ^ min (Int.toNat (IntKind.wrap IntKind.u64 r0)) (IntKind.bits IntKind.u64))) ||| BitVec.ofInt (IntKind.bits IntKind.u64) (Int.fdiv lo ((2 : Int) ^ min (Int.toNat (IntKind.wrap IntKind.u64 ((64 : Int) - IntKind.wrap IntKind.u64 r0))) (IntKind.bits IntKind.u64))))) : Int)) (Int.fdiv (IntKind.wrap IntKind.u64 (y_ * (2 : Int) ^ min (Int.toNat (IntKind.wrap IntKind.u64 r0)) (IntKind.bits IntKind.u64))) ((2 : Int) ^ min (32 : Nat) (IntKind.bits IntKind.u64)))), IntKind.wrap IntKind.u64 (IntKind.wrap IntKind.u64 (↑(BitVec.toNat (BitVec.ofInt (IntKind.bits IntKind.u64) (IntKind.wrap IntKind.u64 (hi * (2 : Int) ^ min (Int.toNat (IntKind.wrap IntKind.u64 r0)) (IntKind.bits IntKind.u64))) ||| BitVec.ofInt (IntKind.bits IntKind.u64) (Int.fdiv lo ((2 : Int) ^ min (Int.toNat (IntKind.wrap IntKind.u64 ((64 : Int) - IntKind.wrap IntKind.u64 r0))) (IntKind.bits IntKind.u64))))) : Int) - IntKind.wrap IntKind.u64 (IntKind.wrap IntKind.u64 (Int.tdiv (IntKind.wrap IntKind.u64 (↑(BitVec.toNat (BitVec.ofInt (IntKind.bits IntKind.u64) (IntKind.wrap IntKind.u64 (hi * (2 : Int) ^ min (Int.toNat (IntKind.wrap IntKind.u64 r0)) (IntKind.bits IntKind.u64))) ||| BitVec.ofInt (IntKind.bits IntKind.u64) (Int.fdiv lo ((2 : Int) ^ min (Int.toNat (IntKind.wrap IntKind.u64 ((64 : Int) - IntKind.wrap IntKind.u64 r0))) (IntKind.bits IntKind.u64))))) : Int)) (Int.fdiv (IntKind.wrap IntKind.u64 (y_ * (2 : Int) ^ min (Int.toNat (IntKind.wrap IntKind.u64 r0)) (IntKind.bits IntKind.u64))) ((2 : Int) ^ min (32 : Nat) (IntKind.bits IntKind.u64)))) * Int.fdiv (IntKind.wrap IntKind.u64 (y_ * (2 : Int) ^ min (Int.toNat (IntKind.wrap IntKind.u64 r0)) (IntKind.bits IntKind.u64))) ((2 : Int) ^ min (32 : Nat) (IntKind.bits IntKind.u64))))))) (math_bits_Div64_r0 hi lo y_ r0)
   else none
   else none
   else none
   else none
   else none
def g_math_bits_Div64 : List A → Option (Prop × List RV)
  | [.d (.i .u64 hi), .d (.i .u64 lo), .d (.i .u64 y_)] => some (ok (math_bits_Div64 hi lo y_), [.d (.i .u64 ((val (math_bits_Div64 hi lo y_)).1)), .d (.i .u64 ((val (math_bits_Div64 hi lo y_)).2))])
  | _ => none
def k_math_bits_Div64 : List (Option Cont) := [none, none, none]
abbrev sp_128 : Specs → Specs := addK 128 true (pureK k_math_bits_Div64 g_math_bits_Div64)
set_option maxRecDepth 100000 in
theorem math_bits_Div64_vc (hi : Int) (lo : Int) (y_ : Int) (r : Int × Int) (h : Option.bind (math_bits_Div64 hi lo y_) some = some r) : runF Try.f128 ((sp_135 sp0)) (fun gs id _ => match id with
 | 0 => some ⟨(Int × Int) × Nat, fun z => ⟨[(2, .w (.c (.d (.i .u64 (IntKind.wrap IntKind.u64 (y_ * (2 : Int) ^ min (Int.toNat (IntKind.wrap IntKind.u64 (val (math_bits_LeadingZeros64 y_)))) (IntKind.bits IntKind.u64))))))), (8, .w (.c (.d (.i .u64 (IntKind.wrap IntKind.u64 (val (math_bits_LeadingZeros64 y_))))))), (9, .w (.c (.d (.i .u64 (Int.fdiv (IntKind.wrap IntKind.u64 (y_ * (2 : Int) ^ min (Int.toNat (IntKind.wrap IntKind.u64 (val (math_bits_LeadingZeros64 y_)))) (IntKind.bits IntKind.u64))) ((2 : Int) ^ min (32 : Nat) (IntKind.bits IntKind.u64))))))), (10, .w (.c (.d (.i .u64 (IntKind.wrap IntKind.u64 (↑(BitVec.toNat (BitVec.ofInt (IntKind.bits IntKind.u64) (IntKind.wrap IntKind.u64 (y_ * (2 : Int) ^ min (Int.toNat (IntKind.wrap IntKind.u64 (val (math_bits_LeadingZeros64 y_)))) (IntKind.bits IntKind.u64))) &&& BitVec.ofInt (IntKind.bits IntKind.u64) (4294967295 : Int))) : Int)))))), (11, .w (.c (.d (.i .u64 (IntKind.wrap IntKind.u64 (↑(BitVec.toNat (BitVec.ofInt (IntKind.bits IntKind.u64) (IntKind.wrap IntKind.u64 (hi * (2 : Int) ^ min (Int.toNat (IntKind.wrap IntKind.u64 (val (math_bits_LeadingZeros64 y_)))) (IntKind.bits IntKind.u64))) ||| BitVec.ofInt (IntKind.bits IntKind.u64) (Int.fdiv lo ((2 : Int) ^ min (Int.toNat (IntKind.wrap IntKind.u64 ((64 : Int) - IntKind.wrap IntKind.u64 (val (math_bits_LeadingZeros64 y_))))) (IntKind.bits IntKind.u64))))) : Int)))))), (13, .w (.c (.d (.i .u64 (Int.fdiv (IntKind.wrap IntKind.u64 (lo * (2 : Int) ^ min (Int.toNat (IntKind.wrap IntKind.u64 (val (math_bits_LeadingZeros64 y_)))) (IntKind.bits IntKind.u64))) ((2 : Int) ^ min (32 : Nat) (IntKind.bits IntKind.u64))))))), (14, .w (.c (.d (.i .u64 (IntKind.wrap IntKind.u64 (↑(BitVec.toNat (BitVec.ofInt (IntKind.bits IntKind.u64) (IntKind.wrap IntKind.u64 (lo * (2 : Int) ^ min (Int.toNat (IntKind.wrap IntKind.u64 (val (math_bits_LeadingZeros64 y_)))) (IntKind.bits IntKind.u64))) &&& BitVec.ofInt (IntKind.bits IntKind.u64) (4294967295 : Int))) : Int)))))), (15, .w (.c (.d (.i .u64 (Prod.fst (Prod.fst z)))))), (16, .w (.c (.d (.i .u64 (Prod.snd (Prod.fst z))))))], [], 3⟩, fun z => Option.bind (iter (math_bits_Div64_b0 lo y_ (val (math_bits_LeadingZeros64 y_))) (Prod.snd z) (Prod.fst z)) (fun y0 => Option.bind (math_bits_Div64_r0 hi lo y_ (val (math_bits_LeadingZeros64 y_)) y0) some) = some r, fun z => Prod.snd z⟩
 | 2 => some ⟨Int × (Int × Int) × Nat, fun z => ⟨[(2, .w (.c (.d (.i .u64 (IntKind.wrap IntKind.u64 (y_ * (2 : Int) ^ min (Int.toNat (IntKind.wrap IntKind.u64 (val (math_bits_LeadingZeros64 y_)))) (IntKind.bits IntKind.u64))))))), (8, .w (.c (.d (.i .u64 (IntKind.wrap IntKind.u64 (val (math_bits_LeadingZeros64 y_))))))), (9, .w (.c (.d (.i .u64 (Int.fdiv (IntKind.wrap IntKind.u64 (y_ * (2 : Int) ^ min (Int.toNat (IntKind.wrap IntKind.u64 (val (math_bits_LeadingZeros64 y_)))) (IntKind.bits IntKind.u64))) ((2 : Int) ^ min (32 : Nat) (IntKind.bits IntKind.u64))))))), (10, .w (.c (.d (.i .u64 (IntKind.wrap IntKind.u64 (↑(BitVec.toNat (BitVec.ofInt (IntKind.bits IntKind.u64) (IntKind.wrap IntKind.u64 (y_ * (2 : Int) ^ min (Int.toNat (IntKind.wrap IntKind.u64 (val (math_bits_LeadingZeros64 y_)))) (IntKind.bits IntKind.u64))) &&& BitVec.ofInt (IntKind.bits IntKind.u64) (4294967295 : Int))) : Int)))))), (14, .w (.c (.d (.i .u64 (IntKind.wrap IntKind.u64 (↑(BitVec.toNat (BitVec.ofInt (IntKind.bits IntKind.u64) (IntKind.wrap IntKind.u64 (lo * (2 : Int) ^ min (Int.toNat (IntKind.wrap IntKind.u64 (val (math_bits_LeadingZeros64 y_)))) (IntKind.bits IntKind.u64))) &&& BitVec.ofInt (IntKind.bits IntKind.u64) (4294967295 : Int))) : Int)))))), (15, .w (.c (.d (.i .u64 (Prod.fst z))))), (16, .w (.c (.d (.i .u64 (Prod.fst (Prod.fst (Prod.snd z))))))), (17, .w (.c (.d (.i .u64 (IntKind.wrap IntKind.u64 (IntKind.wrap IntKind.u64 (IntKind.wrap IntKind.u64 (IntKind.wrap IntKind.u64 (↑(BitVec.toNat (BitVec.ofInt (IntKind.bits IntKind.u64) (IntKind.wrap IntKind.u64 (hi * (2 : Int) ^ min (Int.toNat (IntKind.wrap IntKind.u64 (val (math_bits_LeadingZeros64 y_)))) (IntKind.bits IntKind.u64))) ||| BitVec.ofInt (IntKind.bits IntKind.u64) (Int.fdiv lo ((2 : Int) ^ min (Int.toNat (IntKind.wrap IntKind.u64 ((64 : Int) - IntKind.wrap IntKind.u64 (val (math_bits_LeadingZeros64 y_))))) (IntKind.bits IntKind.u64))))) : Int) * (4294967296 : Int)) + Int.fdiv (IntKind.wrap IntKind.u64 (lo * (2 : Int) ^ min (Int.toNat (IntKind.wrap IntKind.u64 (val (math_bits_LeadingZeros64 y_)))) (IntKind.bits IntKind.u64))) ((2 : Int) ^ min (32 : Nat) (IntKind.bits IntKind.u64))) - IntKind.wrap IntKind.u64 (Prod.fst z * IntKind.wrap IntKind.u64 (y_ * (2 : Int) ^ min (Int.toNat (IntKind.wrap IntKind.u64 (val (math_bits_LeadingZeros64 y_)))) (IntKind.bits IntKind.u64))))))))), (18, .w (.c (.d (.i .u64 (Prod.snd (Prod.fst (Prod.snd z)))))))], [], 3⟩, fun z => Option.bind (iter (math_bits_Div64_b1 lo y_ (val (math_bits_LeadingZeros64 y_))) (Prod.snd (Prod.snd z)) (Prod.fst (Prod.snd z))) (fun y0 => Option.bind (math_bits_Div64_r1 hi lo y_ (Prod.fst z) (val (math_bits_LeadingZeros64 y_)) y0) some) = some r, fun z => Prod.snd (Prod.snd z)⟩
 | _ => none) [.d (.i .u64 hi), .d (.i .u64 lo), .d (.i .u64 y_)] [.d (.i .u64 r.1), .d (.i .u64 r.2)] := by
  refine Eq.mp (by kernel_rfl : (
  Br (y_ == (0 : Int))
   (False)
   (Br (decide (y_ ≤ hi))
   (False)
   (Br (hi == (0 : Int))
   ((Ob (y_ ≠ (0 : Int)) ∧
   (Ob (y_ ≠ (0 : Int)) ∧
   (Ob (True) ∧
   (Ob (True) ∧
   (Ob (IntKind.wrap IntKind.u64 (Int.tdiv lo y_) = r.1) ∧
   (Ob (Int.tmod lo y_ = r.2) ∧
   True)))))))
   ((Ob (ok (math_bits_LeadingZeros64 y_)) ∧
   (Ob (True) ∧
   (Ob ((0 : Int) ≤ IntKind.wrap IntKind.u64 (val (math_bits_LeadingZeros64 y_))) ∧
   (Ob ((0 : Int) ≤ (32 : Int)) ∧
   (Ob ((0 : Int) ≤ IntKind.wrap IntKind.u64 (val (math_bits_LeadingZeros64 y_))) ∧
   (Ob ((0 : Int) ≤ IntKind.wrap IntKind.u64 ((64 : Int) - IntKind.wrap IntKind.u64 (val (math_bits_LeadingZeros64 y_)))) ∧
   (Ob ((0 : Int) ≤ IntKind.wrap IntKind.u64 (val (math_bits_LeadingZeros64 y_))) ∧
   (Ob ((0 : Int) ≤ (32 : Int)) ∧
   (Ob (Int.fdiv (IntKind.wrap IntKind.u64 (y_ * (2 : Int) ^ min (Int.toNat (IntKind.wrap IntKind.u64 (val (math_bits_LeadingZeros64 y_)))) (IntKind.bits IntKind.u64))) ((2 : Int) ^ min (32 : Nat) (IntKind.bits IntKind.u64)) ≠ (0 : Int)) ∧
   ((∃ (v0 : (Int × Int) × Nat), (Ob ((Option.bind (iter (math_bits_Div64_b0 lo y_ (val (math_bits_LeadingZeros64 y_))) v0.2 v0.1) fun y0 => Option.bind (math_bits_Div64_r0 hi lo y_ (val (math_bits_LeadingZeros64 y_)) y0) some) = some r) ∧
   (Ob (IntKind.wrap IntKind.u64 (y_ * (2 : Int) ^ min (Int.toNat (IntKind.wrap IntKind.u64 (val (math_bits_LeadingZeros64 y_)))) (IntKind.bits IntKind.u64)) = IntKind.wrap IntKind.u64 (y_ * (2 : Int) ^ min (Int.toNat (IntKind.wrap IntKind.u64 (val (math_bits_LeadingZeros64 y_)))) (IntKind.bits IntKind.u64))) ∧
   (Ob (IntKind.wrap IntKind.u64 (val (math_bits_LeadingZeros64 y_)) = IntKind.wrap IntKind.u64 (val (math_bits_LeadingZeros64 y_))) ∧
   (Ob (Int.fdiv (IntKind.wrap IntKind.u64 (y_ * (2 : Int) ^ min (Int.toNat (IntKind.wrap IntKind.u64 (val (math_bits_LeadingZeros64 y_)))) (IntKind.bits IntKind.u64))) ((2 : Int) ^ min (32 : Nat) (IntKind.bits IntKind.u64)) = Int.fdiv (IntKind.wrap IntKind.u64 (y_ * (2 : Int) ^ min (Int.toNat (IntKind.wrap IntKind.u64 (val (math_bits_LeadingZeros64 y_)))) (IntKind.bits IntKind.u64))) ((2 : Int) ^ min (32 : Nat) (IntKind.bits IntKind.u64))) ∧
   (Ob (IntKind.wrap IntKind.u64 (↑(BitVec.toNat (BitVec.ofInt (IntKind.bits IntKind.u64) (IntKind.wrap IntKind.u64 (y_ * (2 : Int) ^ min (Int.toNat (IntKind.wrap IntKind.u64 (val (math_bits_LeadingZeros64 y_)))) (IntKind.bits IntKind.u64))) &&& BitVec.ofInt (IntKind.bits IntKind.u64) (4294967295 : Int))) : Int) = IntKind.wrap IntKind.u64 (↑(BitVec.toNat (BitVec.ofInt (IntKind.bits IntKind.u64) (IntKind.wrap IntKind.u64 (y_ * (2 : Int) ^ min (Int.toNat (IntKind.wrap IntKind.u64 (val (math_bits_LeadingZeros64 y_)))) (IntKind.bits IntKind.u64))) &&& BitVec.ofInt (IntKind.bits IntKind.u64) (4294967295 : Int))) : Int)) ∧
   (Ob (IntKind.wrap IntKind.u64 (↑(BitVec.toNat (BitVec.ofInt (IntKind.bits IntKind.u64) (IntKind.wrap IntKind.u64 (hi * (2 : Int) ^ min (Int.toNat (IntKind.wrap IntKind.u64 (val (math_bits_LeadingZeros64 y_)))) (IntKind.bits IntKind.u64))) ||| BitVec.ofInt (IntKind.bits IntKind.u64) (Int.fdiv lo ((2 : Int) ^ min (Int.toNat (IntKind.wrap IntKind.u64 ((64 : Int) - IntKind.wrap IntKind.u64 (val (math_bits_LeadingZeros64 y_))))) (IntKind.bits IntKind.u64))))) : Int) = IntKind.wrap IntKind.u64 (↑(BitVec.toNat (BitVec.ofInt (IntKind.bits IntKind.u64) (IntKind.wrap IntKind.u64 (hi * (2 : Int) ^ min (Int.toNat (IntKind.wrap IntKind.u64 (val (math_bits_LeadingZeros64 y_)))) (IntKind.bits IntKind.u64))) ||| BitVec.ofInt (IntKind.bits IntKind.u64) (Int.fdiv lo ((2 : Int) ^ min (Int.toNat (IntKind.wrap IntKind.u64 ((64 : Int) - IntKind.wrap IntKind.u64 (val (math_bits_LeadingZeros64 y_))))) (IntKind.bits IntKind.u64))))) : Int)) ∧
   (Ob (Int.fdiv (IntKind.wrap IntKind.u64 (lo * (2 : Int) ^ min (Int.toNat (IntKind.wrap IntKind.u64 (val (math_bits_LeadingZeros64 y_)))) (IntKind.bits IntKind.u64))) ((2 : Int) ^ min (32 : Nat) (IntKind.bits IntKind.u64)) = Int.fdiv (IntKind.wrap IntKind.u64 (lo * (2 : Int) ^ min (Int.toNat (IntKind.wrap IntKind.u64 (val (math_bits_LeadingZeros64 y_)))) (IntKind.bits IntKind.u64))) ((2 : Int) ^ min (32 : Nat) (IntKind.bits IntKind.u64))) ∧
   (Ob (IntKind.wrap IntKind.u64 (↑(BitVec.toNat (BitVec.ofInt (IntKind.bits IntKind.u64) (IntKind.wrap IntKind.u64 (lo * (2 : Int) ^ min (Int.toNat (IntKind.wrap IntKind.u64 (val (math_bits_LeadingZeros64 y_)))) (IntKind.bits IntKind.u64))) &&& BitVec.ofInt (IntKind.bits IntKind.u64) (4294967295 : Int))) : Int) = IntKind.wrap IntKind.u64 (↑(BitVec.toNat (BitVec.ofInt (IntKind.bits IntKind.u64) (IntKind.wrap IntKind.u64 (lo * (2 : Int) ^ min (Int.toNat (IntKind.wrap IntKind.u64 (val (math_bits_LeadingZeros64 y_)))) (IntKind.bits IntKind.u64))) &&& BitVec.ofInt (IntKind.bits IntKind.u64) (4294967295 : Int))) : Int)) ∧
   (Ob (IntKind.wrap IntKind.u64 (Int.tdiv (IntKind.wrap IntKind.u64 (↑(BitVec.toNat (BitVec.ofInt (IntKind.bits IntKind.u64) (IntKind.wrap IntKind.u64 (hi * (2 : Int) ^ min (Int.toNat (IntKind.wrap IntKind.u64 (val (math_bits_LeadingZeros64 y_)))) (IntKind.bits IntKind.u64))) ||| BitVec.ofInt (IntKind.bits IntKind.u64) (Int.fdiv lo ((2 : Int) ^ min (Int.toNat (IntKind.wrap IntKind.u64 ((64 : Int) - IntKind.wrap IntKind.u64 (val (math_bits_LeadingZeros64 y_))))) (IntKind.bits IntKind.u64))))) : Int)) (Int.fdiv (IntKind.wrap IntKind.u64 (y_ * (2 : Int) ^ min (Int.toNat (IntKind.wrap IntKind.u64 (val (math_bits_LeadingZeros64 y_)))) (IntKind.bits IntKind.u64))) ((2 : Int) ^ min (32 : Nat) (IntKind.bits IntKind.u64)))) = v0.1.1) ∧
   (Ob (IntKind.wrap IntKind.u64 (IntKind.wrap IntKind.u64 (↑(BitVec.toNat (BitVec.ofInt (IntKind.bits IntKind.u64) (IntKind.wrap IntKind.u64 (hi * (2 : Int) ^ min (Int.toNat (IntKind.wrap IntKind.u64 (val (math_bits_LeadingZeros64 y_)))) (IntKind.bits IntKind.u64))) ||| BitVec.ofInt (IntKind.bits IntKind.u64) (Int.fdiv lo ((2 : Int) ^ min (Int.toNat (IntKind.wrap IntKind.u64 ((64 : Int) - IntKind.wrap IntKind.u64 (val (math_bits_LeadingZeros64 y_))))) (IntKind.bits IntKind.u64))))) : Int) - IntKind.wrap IntKind.u64 (IntKind.wrap IntKind.u64 (Int.tdiv (IntKind.wrap IntKind.u64 (↑(BitVec.toNat (BitVec.ofInt (IntKind.bits IntKind.u64) (IntKind.wrap IntKind.u64 (hi * (2 : Int) ^ min (Int.toNat (IntKind.wrap IntKind.u64 (val (math_bits_LeadingZeros64 y_)))) (IntKind.bits IntKind.u64))) ||| BitVec.ofInt (IntKind.bits IntKind.u64) (Int.fdiv lo ((2 : Int) ^ min (Int.toNat (IntKind.wrap IntKind.u64 ((64 : Int) - IntKind.wrap IntKind.u64 (val (math_bits_LeadingZeros64 y_))))) (IntKind.bits IntKind.u64))))) : Int)) (Int.fdiv (IntKind.wrap IntKind.u64 (y_ * (2 : Int) ^ min (Int.toNat (IntKind.wrap IntKind.u64 (val (math_bits_LeadingZeros64 y_)))) (IntKind.bits IntKind.u64))) ((2 : Int) ^ min (32 : Nat) (IntKind.bits IntKind.u64)))) * Int.fdiv (IntKind.wrap IntKind.u64 (y_ * (2 : Int) ^ min (Int.toNat (IntKind.wrap IntKind.u64 (val (math_bits_LeadingZeros64 y_)))) (IntKind.bits IntKind.u64))) ((2 : Int) ^ min (32 : Nat) (IntKind.bits IntKind.u64)))) = v0.1.2) ∧
   True))))))))))) ∧
   (∀ (v0 : (Int × Int) × Nat), ((Option.bind (iter (math_bits_Div64_b0 lo y_ (val (math_bits_LeadingZeros64 y_))) v0.2 v0.1) fun y0 => Option.bind (math_bits_Div64_r0 hi lo y_ (val (math_bits_LeadingZeros64 y_)) y0) some) = some r →
   Br (decide (v0.1.1 ≥ (4294967296 : Int)))
   (Br (decide (IntKind.wrap IntKind.u64 (v0.1.2 + Int.fdiv (IntKind.wrap IntKind.u64 (y_ * (2 : Int) ^ min (Int.toNat (IntKind.wrap IntKind.u64 (val (math_bits_LeadingZeros64 y_)))) (IntKind.bits IntKind.u64))) ((2 : Int) ^ min (32 : Nat) (IntKind.bits IntKind.u64))) ≥ (4294967296 : Int)))
   ((Ob (Int.fdiv (IntKind.wrap IntKind.u64 (y_ * (2 : Int) ^ min (Int.toNat (IntKind.wrap IntKind.u64 (val (math_bits_LeadingZeros64 y_)))) (IntKind.bits IntKind.u64))) ((2 : Int) ^ min (32 : Nat) (IntKind.bits IntKind.u64)) ≠ (0 : Int)) ∧
   ((∃ (v1 : Int × (Int × Int) × Nat), (Ob ((Option.bind (iter (math_bits_Div64_b1 lo y_ (val (math_bits_LeadingZeros64 y_))) v1.2.2 v1.2.1) fun y0 => Option.bind (math_bits_Div64_r1 hi lo y_ v1.1 (val (math_bits_LeadingZeros64 y_)) y0) some) = some r) ∧
   (Ob (IntKind.wrap IntKind.u64 (y_ * (2 : Int) ^ min (Int.toNat (IntKind.wrap IntKind.u64 (val (math_bits_LeadingZeros64 y_)))) (IntKind.bits IntKind.u64)) = IntKind.wrap IntKind.u64 (y_ * (2 : Int) ^ min (Int.toNat (IntKind.wrap IntKind.u64 (val (math_bits_LeadingZeros64 y_)))) (IntKind.bits IntKind.u64))) ∧
   (Ob (IntKind.wrap IntKind.u64 (val (math_bits_LeadingZeros64 y_)) = IntKind.wrap IntKind.u64 (val (math_bits_LeadingZeros64 y_))) ∧
   (Ob (Int.fdiv (IntKind.wrap IntKind.u64 (y_ * (2 : Int) ^ min (Int.toNat (IntKind.wrap IntKind.u64 (val (math_bits_LeadingZeros64 y_)))) (IntKind.bits IntKind.u64))) ((2 : Int) ^ min (32 : Nat) (IntKind.bits IntKind.u64)) = Int.fdiv (IntKind.wrap IntKind.u64 (y_ * (2 : Int) ^ min (Int.toNat (IntKind.wrap IntKind.u64 (val (math_bits_LeadingZeros64 y_)))) (IntKind.bits IntKind.u64))) ((2 : Int) ^ min (32 : Nat) (IntKind.bits IntKind.u64))) ∧
   (Ob (IntKind.wrap IntKind.u64 (↑(BitVec.toNat (BitVec.ofInt (IntKind.bits IntKind.u64) (IntKind.wrap IntKind.u64 (y_ * (2 : Int) ^ min (Int.toNat (IntKind.wrap IntKind.u64 (val (math_bits_LeadingZeros64 y_)))) (IntKind.bits IntKind.u64))) &&& BitVec.ofInt (IntKind.bits IntKind.u64) (4294967295 : Int))) : Int) = IntKind.wrap IntKind.u64 (↑(BitVec.toNat (BitVec.ofInt (IntKind.bits IntKind.u64) (IntKind.wrap IntKind.u64 (y_ * (2 : Int) ^ min (Int.toNat (IntKind.wrap IntKind.u64 (val (math_bits_LeadingZeros64 y_)))) (IntKind.bits IntKind.u64))) &&& BitVec.ofInt (IntKind.bits IntKind.u64) (4294967295 : Int))) : Int)) ∧
   (Ob (IntKind.wrap IntKind.u64 (↑(BitVec.toNat (BitVec.ofInt (IntKind.bits IntKind.u64) (IntKind.wrap IntKind.u64 (lo * (2 : Int) ^ min (Int.toNat (IntKind.wrap IntKind.u64 (val (math_bits_LeadingZeros64 y_)))) (IntKind.bits IntKind.u64))) &&& BitVec.ofInt (IntKind.bits IntKind.u64) (4294967295 : Int))) : Int) = IntKind.wrap IntKind.u64 (↑(BitVec.toNat (BitVec.ofInt (IntKind.bits IntKind.u64) (IntKind.wrap IntKind.u64 (lo * (2 : Int) ^ min (Int.toNat (IntKind.wrap IntKind.u64 (val (math_bits_LeadingZeros64 y_)))) (IntKind.bits IntKind.u64))) &&& BitVec.ofInt (IntKind.bits IntKind.u64) (4294967295 : Int))) : Int)) ∧
   (Ob (IntKind.wrap IntKind.u64 (v0.1.1 - (1 : Int)) = v1.1) ∧
   (Ob (IntKind.wrap IntKind.u64 (IntKind.wrap IntKind.u64 (IntKind.wrap IntKind.u64 (IntKind.wrap IntKind.u64 (IntKind.wrap IntKind.u64 (↑(BitVec.toNat (BitVec.ofInt (IntKind.bits IntKind.u64) (IntKind.wrap IntKind.u64 (hi * (2 : Int) ^ min (Int.toNat (IntKind.wrap IntKind.u64 (val (math_bits_LeadingZeros64 y_)))) (IntKind.bits IntKind.u64))) ||| BitVec.ofInt (IntKind.bits IntKind.u64) (Int.fdiv lo ((2 : Int) ^ min (Int.toNat (IntKind.wrap IntKind.u64 ((64 : Int) - IntKind.wrap IntKind.u64 (val (math_bits_LeadingZeros64 y_))))) (IntKind.bits IntKind.u64))))) : Int) * (4294967296 : Int)) + Int.fdiv (IntKind.wrap IntKind.u64 (lo * (2 : Int) ^ min (Int.toNat (IntKind.wrap IntKind.u64 (val (math_bits_LeadingZeros64 y_)))) (IntKind.bits IntKind.u64))) ((2 : Int) ^ min (32 : Nat) (IntKind.bits IntKind.u64))) - IntKind.wrap IntKind.u64 (IntKind.wrap IntKind.u64 (v0.1.1 - (1 : Int)) * IntKind.wrap IntKind.u64 (y_ * (2 : Int) ^ min (Int.toNat (IntKind.wrap IntKind.u64 (val (math_bits_LeadingZeros64 y_)))) (IntKind.bits IntKind.u64)))) - IntKind.wrap IntKind.u64 (IntKind.wrap IntKind.u64 (Int.tdiv (IntKind.wrap IntKind.u64 (IntKind.wrap IntKind.u64 (IntKind.wrap IntKind.u64 (IntKind.wrap IntKind.u64 (↑(BitVec.toNat (BitVec.ofInt (IntKind.bits IntKind.u64) (IntKind.wrap IntKind.u64 (hi * (2 : Int) ^ min (Int.toNat (IntKind.wrap IntKind.u64 (val (math_bits_LeadingZeros64 y_)))) (IntKind.bits IntKind.u64))) ||| BitVec.ofInt (IntKind.bits IntKind.u64) (Int.fdiv lo ((2 : Int) ^ min (Int.toNat (IntKind.wrap IntKind.u64 ((64 : Int) - IntKind.wrap IntKind.u64 (val (math_bits_LeadingZeros64 y_))))) (IntKind.bits IntKind.u64))))) : Int) * (4294967296 : Int)) + Int.fdiv (IntKind.wrap IntKind.u64 (lo * (2 : Int) ^ min (Int.toNat (IntKind.wrap IntKind.u64 (val (math_bits_LeadingZeros64 y_)))) (IntKind.bits IntKind.u64))) ((2 : Int) ^ min (32 : Nat) (IntKind.bits IntKind.u64))) - IntKind.wrap IntKind.u64 (IntKind.wrap IntKind.u64 (v0.1.1 - (1 : Int)) * IntKind.wrap IntKind.u64 (y_ * (2 : Int) ^ min (Int.toNat (IntKind.wrap IntKind.u64 (val (math_bits_LeadingZeros64 y_)))) (IntKind.bits IntKind.u64))))) (Int.fdiv (IntKind.wrap IntKind.u64 (y_ * (2 : Int) ^ min (Int.toNat (IntKind.wrap IntKind.u64 (val (math_bits_LeadingZeros64 y_)))) (IntKind.bits IntKind.u64))) ((2 : Int) ^ min (32 : Nat) (IntKind.bits IntKind.u64)))) * Int.fdiv (IntKind.wrap IntKind.u64 (y_ * (2 : Int) ^ min (Int.toNat (IntKind.wrap IntKind.u64 (val (math_bits_LeadingZeros64 y_)))) (IntKind.bits IntKind.u64))) ((2 : Int) ^ min (32 : Nat) (IntKind.bits IntKind.u64)))) = v1.2.1.1) ∧
   (Ob (IntKind.wrap IntKind.u64 (IntKind.wrap IntKind.u64 (IntKind.wrap IntKind.u64 (IntKind.wrap IntKind.u64 (↑(BitVec.toNat (BitVec.ofInt (IntKind.bits IntKind.u64) (IntKind.wrap IntKind.u64 (hi * (2 : Int) ^ min (Int.toNat (IntKind.wrap IntKind.u64 (val (math_bits_LeadingZeros64 y_)))) (IntKind.bits IntKind.u64))) ||| BitVec.ofInt (IntKind.bits IntKind.u64) (Int.fdiv lo ((2 : Int) ^ min (Int.toNat (IntKind.wrap IntKind.u64 ((64 : Int) - IntKind.wrap IntKind.u64 (val (math_bits_LeadingZeros64 y_))))) (IntKind.bits IntKind.u64))))) : Int) * (4294967296 : Int)) + Int.fdiv (IntKind.wrap IntKind.u64 (lo * (2 : Int) ^ min (Int.toNat (IntKind.wrap IntKind.u64 (val (math_bits_LeadingZeros64 y_)))) (IntKind.bits IntKind.u64))) ((2 : Int) ^ min (32 : Nat) (IntKind.bits IntKind.u64))) - IntKind.wrap IntKind.u64 (IntKind.wrap IntKind.u64 (v0.1.1 - (1 : Int)) * IntKind.wrap IntKind.u64 (y_ * (2 : Int) ^ min (Int.toNat (IntKind.wrap IntKind.u64 (val (math_bits_LeadingZeros64 y_)))) (IntKind.bits IntKind.u64)))) = IntKind.wrap IntKind.u64 (IntKind.wrap IntKind.u64 (IntKind.wrap IntKind.u64 (IntKind.wrap IntKind.u64 (↑(BitVec.toNat (BitVec.ofInt (IntKind.bits IntKind.u64) (IntKind.wrap IntKind.u64 (hi * (2 : Int) ^ min (Int.toNat (IntKind.wrap IntKind.u64 (val (math_bits_LeadingZeros64 y_)))) (IntKind.bits IntKind.u64))) ||| BitVec.ofInt (IntKind.bits IntKind.u64) (Int.fdiv lo ((2 : Int) ^ min (Int.toNat (IntKind.wrap IntKind.u64 ((64 : Int) - IntKind.wrap IntKind.u64 (val (math_bits_LeadingZeros64 y_))))) (IntKind.bits IntKind.u64))))) : Int) * (4294967296 : Int)) + Int.fdiv (IntKind.wrap IntKind.u64 (lo * (2 : Int) ^ min (Int.toNat (IntKind.wrap IntKind.u64 (val (math_bits_LeadingZeros64 y_)))) (IntKind.bits IntKind.u64))) ((2 : Int) ^ min (32 : Nat) (IntKind.bits IntKind.u64))) - IntKind.wrap IntKind.u64 (v1.1 * IntKind.wrap IntKind.u64 (y_ * (2 : Int) ^ min (Int.toNat (IntKind.wrap IntKind.u64 (val (math_bits_LeadingZeros64 y_)))) (IntKind.bits IntKind.u64))))) ∧
   (Ob (IntKind.wrap IntKind.u64 (Int.tdiv (IntKind.wrap IntKind.u64 (IntKind.wrap IntKind.u64 (IntKind.wrap IntKind.u64 (IntKind.wrap IntKind.u64 (↑(BitVec.toNat (BitVec.ofInt (IntKind.bits IntKind.u64) (IntKind.wrap IntKind.u64 (hi * (2 : Int) ^ min (Int.toNat (IntKind.wrap IntKind.u64 (val (math_bits_LeadingZeros64 y_)))) (IntKind.bits IntKind.u64))) ||| BitVec.ofInt (IntKind.bits IntKind.u64) (Int.fdiv lo ((2 : Int) ^ min (Int.toNat (IntKind.wrap IntKind.u64 ((64 : Int) - IntKind.wrap IntKind.u64 (val (math_bits_LeadingZeros64 y_))))) (IntKind.bits IntKind.u64))))) : Int) * (4294967296 : Int)) + Int.fdiv (IntKind.wrap IntKind.u64 (lo * (2 : Int) ^ min (Int.toNat (IntKind.wrap IntKind.u64 (val (math_bits_LeadingZeros64 y_)))) (IntKind.bits IntKind.u64))) ((2 : Int) ^ min (32 : Nat) (IntKind.bits IntKind.u64))) - IntKind.wrap IntKind.u64 (IntKind.wrap IntKind.u64 (v0.1.1 - (1 : Int)) * IntKind.wrap IntKind.u64 (y_ * (2 : Int) ^ min (Int.toNat (IntKind.wrap IntKind.u64 (val (math_bits_LeadingZeros64 y_)))) (IntKind.bits IntKind.u64))))) (Int.fdiv (IntKind.wrap IntKind.u64 (y_ * (2 : Int) ^ min (Int.toNat (IntKind.wrap IntKind.u64 (val (math_bits_LeadingZeros64 y_)))) (IntKind.bits IntKind.u64))) ((2 : Int) ^ min (32 : Nat) (IntKind.bits IntKind.u64)))) = v1.2.1.2) ∧
   True))))))))))) ∧
   (∀ (v1 : Int × (Int × Int) × Nat), ((Option.bind (iter (math_bits_Div64_b1 lo y_ (val (math_bits_LeadingZeros64 y_))) v1.2.2 v1.2.1) fun y0 => Option.bind (math_bits_Div64_r1 hi lo y_ v1.1 (val (math_bits_LeadingZeros64 y_)) y0) some) = some r →
   Br (decide (v1.2.1.2 ≥ (4294967296 : Int)))
   (Br (decide (IntKind.wrap IntKind.u64 (v1.2.1.1 + Int.fdiv (IntKind.wrap IntKind.u64 (y_ * (2 : Int) ^ min (Int.toNat (IntKind.wrap IntKind.u64 (val (math_bits_LeadingZeros64 y_)))) (IntKind.bits IntKind.u64))) ((2 : Int) ^ min (32 : Nat) (IntKind.bits IntKind.u64))) ≥ (4294967296 : Int)))
   ((Ob ((0 : Int) ≤ IntKind.wrap IntKind.u64 (val (math_bits_LeadingZeros64 y_))) ∧
   (Ob (True) ∧
   (Ob (True) ∧
   (Ob (IntKind.wrap IntKind.u64 (IntKind.wrap IntKind.u64 (v1.1 * (4294967296 : Int)) + IntKind.wrap IntKind.u64 (v1.2.1.2 - (1 : Int))) = r.1) ∧
   (Ob (Int.fdiv (IntKind.wrap IntKind.u64 (IntKind.wrap IntKind.u64 (IntKind.wrap IntKind.u64 (IntKind.wrap IntKind.u64 (IntKind.wrap IntKind.u64 (IntKind.wrap IntKind.u64 (IntKind.wrap IntKind.u64 (↑(BitVec.toNat (BitVec.ofInt (IntKind.bits IntKind.u64) (IntKind.wrap IntKind.u64 (hi * (2 : Int) ^ min (Int.toNat (IntKind.wrap IntKind.u64 (val (math_bits_LeadingZeros64 y_)))) (IntKind.bits IntKind.u64))) ||| BitVec.ofInt (IntKind.bits IntKind.u64) (Int.fdiv lo ((2 : Int) ^ min (Int.toNat (IntKind.wrap IntKind.u64 ((64 : Int) - IntKind.wrap IntKind.u64 (val (math_bits_LeadingZeros64 y_))))) (IntKind.bits IntKind.u64))))) : Int) * (4294967296 : Int)) + Int.fdiv (IntKind.wrap IntKind.u64 (lo * (2 : Int) ^ min (Int.toNat (IntKind.wrap IntKind.u64 (val (math_bits_LeadingZeros64 y_)))) (IntKind.bits IntKind.u64))) ((2 : Int) ^ min (32 : Nat) (IntKind.bits IntKind.u64))) - IntKind.wrap IntKind.u64 (v1.1 * IntKind.wrap IntKind.u64 (y_ * (2 : Int) ^ min (Int.toNat (IntKind.wrap IntKind.u64 (val (math_bits_LeadingZeros64 y_)))) (IntKind.bits IntKind.u64)))) * (4294967296 : Int)) + IntKind.wrap IntKind.u64 (↑(BitVec.toNat (BitVec.ofInt (IntKind.bits IntKind.u64) (IntKind.wrap IntKind.u64 (lo * (2 : Int) ^ min (Int.toNat (IntKind.wrap IntKind.u64 (val (math_bits_LeadingZeros64 y_)))) (IntKind.bits IntKind.u64))) &&& BitVec.ofInt (IntKind.bits IntKind.u64) (4294967295 : Int))) : Int)) - IntKind.wrap IntKind.u64 (IntKind.wrap IntKind.u64 (v1.2.1.2 - (1 : Int)) * IntKind.wrap IntKind.u64 (y_ * (2 : Int) ^ min (Int.toNat (IntKind.wrap IntKind.u64 (val (math_bits_LeadingZeros64 y_)))) (IntKind.bits IntKind.u64))))) ((2 : Int) ^ min (Int.toNat (IntKind.wrap IntKind.u64 (val (math_bits_LeadingZeros64 y_)))) (IntKind.bits IntKind.u64)) = r.2) ∧
   True))))))
   ((∃ (v2 : Int × (Int × Int) × Nat), (Ob ((Option.bind (iter (math_bits_Div64_b1 lo y_ (val (math_bits_LeadingZeros64 y_))) v2.2.2 v2.2.1) fun y0 => Option.bind (math_bits_Div64_r1 hi lo y_ v2.1 (val (math_bits_LeadingZeros64 y_)) y0) some) = some r) ∧
   (Ob (v2.2.2 < v1.2.2) ∧
   (Ob (IntKind.wrap IntKind.u64 (y_ * (2 : Int) ^ min (Int.toNat (IntKind.wrap IntKind.u64 (val (math_bits_LeadingZeros64 y_)))) (IntKind.bits IntKind.u64)) = IntKind.wrap IntKind.u64 (y_ * (2 : Int) ^ min (Int.toNat (IntKind.wrap IntKind.u64 (val (math_bits_LeadingZeros64 y_)))) (IntKind.bits IntKind.u64))) ∧
   (Ob (IntKind.wrap IntKind.u64 (val (math_bits_LeadingZeros64 y_)) = IntKind.wrap IntKind.u64 (val (math_bits_LeadingZeros64 y_))) ∧
   (Ob (Int.fdiv (IntKind.wrap IntKind.u64 (y_ * (2 : Int) ^ min (Int.toNat (IntKind.wrap IntKind.u64 (val (math_bits_LeadingZeros64 y_)))) (IntKind.bits IntKind.u64))) ((2 : Int) ^ min (32 : Nat) (IntKind.bits IntKind.u64)) = Int.fdiv (IntKind.wrap IntKind.u64 (y_ * (2 : Int) ^ min (Int.toNat (IntKind.wrap IntKind.u64 (val (math_bits_LeadingZeros64 y_)))) (IntKind.bits IntKind.u64))) ((2 : Int) ^ min (32 : Nat) (IntKind.bits IntKind.u64))) ∧
   (Ob (IntKind.wrap IntKind.u64 (↑(BitVec.toNat (BitVec.ofInt (IntKind.bits IntKind.u64) (IntKind.wrap IntKind.u64 (y_ * (2 : Int) ^ min (Int.toNat (IntKind.wrap IntKind.u64 (val (math_bits_LeadingZeros64 y_)))) (IntKind.bits IntKind.u64))) &&& BitVec.ofInt (IntKind.bits IntKind.u64) (4294967295 : Int))) : Int) = IntKind.wrap IntKind.u64 (↑(BitVec.toNat (BitVec.ofInt (IntKind.bits IntKind.u64) (IntKind.wrap IntKind.u64 (y_ * (2 : Int) ^ min (Int.toNat (IntKind.wrap IntKind.u64 (val (math_bits_LeadingZeros64 y_)))) (IntKind.bits IntKind.u64))) &&& BitVec.ofInt (IntKind.bits IntKind.u64) (4294967295 : Int))) : Int)) ∧
   (Ob (IntKind.wrap IntKind.u64 (↑(BitVec.toNat (BitVec.ofInt (IntKind.bits IntKind.u64) (IntKind.wrap IntKind.u64 (lo * (2 : Int) ^ min (Int.toNat (IntKind.wrap IntKind.u64 (val (math_bits_LeadingZeros64 y_)))) (IntKind.bits IntKind.u64))) &&& BitVec.ofInt (IntKind.bits IntKind.u64) (4294967295 : Int))) : Int) = IntKind.wrap IntKind.u64 (↑(BitVec.toNat (BitVec.ofInt (IntKind.bits IntKind.u64) (IntKind.wrap IntKind.u64 (lo * (2 : Int) ^ min (Int.toNat (IntKind.wrap IntKind.u64 (val (math_bits_LeadingZeros64 y_)))) (IntKind.bits IntKind.u64))) &&& BitVec.ofInt (IntKind.bits IntKind.u64) (4294967295 : Int))) : Int)) ∧
   (Ob (v1.1 = v2.1) ∧
   (Ob (IntKind.wrap IntKind.u64 (v1.2.1.1 + Int.fdiv (IntKind.wrap IntKind.u64 (y_ * (2 : Int) ^ min (Int.toNat (IntKind.wrap IntKind.u64 (val (math_bits_LeadingZeros64 y_)))) (IntKind.bits IntKind.u64))) ((2 : Int) ^ min (32 : Nat) (IntKind.bits IntKind.u64))) = v2.2.1.1) ∧
   (Ob (IntKind.wrap IntKind.u64 (IntKind.wrap IntKind.u64 (IntKind.wrap IntKind.u64 (IntKind.wrap IntKind.u64 (↑(BitVec.toNat (BitVec.ofInt (IntKind.bits IntKind.u64) (IntKind.wrap IntKind.u64 (hi * (2 : Int) ^ min (Int.toNat (IntKind.wrap IntKind.u64 (val (math_bits_LeadingZeros64 y_)))) (IntKind.bits IntKind.u64))) ||| BitVec.ofInt (IntKind.bits IntKind.u64) (Int.fdiv lo ((2 : Int) ^ min (Int.toNat (IntKind.wrap IntKind.u64 ((64 : Int) - IntKind.wrap IntKind.u64 (val (math_bits_LeadingZeros64 y_))))) (IntKind.bits IntKind.u64))))) : Int) * (4294967296 : Int)) + Int.fdiv (IntKind.wrap IntKind.u64 (lo * (2 : Int) ^ min (Int.toNat (IntKind.wrap IntKind.u64 (val (math_bits_LeadingZeros64 y_)))) (IntKind.bits IntKind.u64))) ((2 : Int) ^ min (32 : Nat) (IntKind.bits IntKind.u64))) - IntKind.wrap IntKind.u64 (v1.1 * IntKind.wrap IntKind.u64 (y_ * (2 : Int) ^ min (Int.toNat (IntKind.wrap IntKind.u64 (val (math_bits_LeadingZeros64 y_)))) (IntKind.bits IntKind.u64)))) = IntKind.wrap IntKind.u64 (IntKind.wrap IntKind.u64 (IntKind.wrap IntKind.u64 (IntKind.wrap IntKind.u64 (↑(BitVec.toNat (BitVec.ofInt (IntKind.bits IntKind.u64) (IntKind.wrap IntKind.u64 (hi * (2 : Int) ^ min (Int.toNat (IntKind.wrap IntKind.u64 (val (math_bits_LeadingZeros64 y_)))) (IntKind.bits IntKind.u64))) ||| BitVec.ofInt (IntKind.bits IntKind.u64) (Int.fdiv lo ((2 : Int) ^ min (Int.toNat (IntKind.wrap IntKind.u64 ((64 : Int) - IntKind.wrap IntKind.u64 (val (math_bits_LeadingZeros64 y_))))) (IntKind.bits IntKind.u64))))) : Int) * (4294967296 : Int)) + Int.fdiv (IntKind.wrap IntKind.u64 (lo * (2 : Int) ^ min (Int.toNat (IntKind.wrap IntKind.u64 (val (math_bits_LeadingZeros64 y_)))) (IntKind.bits IntKind.u64))) ((2 : Int) ^ min (32 : Nat) (IntKind.bits IntKind.u64))) - IntKind.wrap IntKind.u64 (v2.1 * IntKind.wrap IntKind.u64 (y_ * (2 : Int) ^ min (Int.toNat (IntKind.wrap IntKind.u64 (val (math_bits_LeadingZeros64 y_)))) (IntKind.bits IntKind.u64))))) ∧
   (Ob (IntKind.wrap IntKind.u64 (v1.2.1.2 - (1 : Int)) = v2.2.1.2) ∧
   True))))))))))))))
   (Br (decide (IntKind.wrap IntKind.u64 (v1.2.1.2 * IntKind.wrap IntKind.u64 (↑(BitVec.toNat (BitVec.ofInt (IntKind.bits IntKind.u64) (IntKind.wrap IntKind.u64 (y_ * (2 : Int) ^ min (Int.toNat (IntKind.wrap IntKind.u64 (val (math_bits_LeadingZeros64 y_)))) (IntKind.bits IntKind.u64))) &&& BitVec.ofInt (IntKind.bits IntKind.u64) (4294967295 : Int))) : Int)) > IntKind.wrap IntKind.u64 (IntKind.wrap IntKind.u64 ((4294967296 : Int) * v1.2.1.1) + IntKind.wrap IntKind.u64 (↑(BitVec.toNat (BitVec.ofInt (IntKind.bits IntKind.u64) (IntKind.wrap IntKind.u64 (lo * (2 : Int) ^ min (Int.toNat (IntKind.wrap IntKind.u64 (val (math_bits_LeadingZeros64 y_)))) (IntKind.bits IntKind.u64))) &&& BitVec.ofInt (IntKind.bits IntKind.u64) (4294967295 : Int))) : Int))))
   (Br (decide (IntKind.wrap IntKind.u64 (v1.2.1.1 + Int.fdiv (IntKind.wrap IntKind.u64 (y_ * (2 : Int) ^ min (Int.toNat (IntKind.wrap IntKind.u64 (val (math_bits_LeadingZeros64 y_)))) (IntKind.bits IntKind.u64))) ((2 : Int) ^ min (32 : Nat) (IntKind.bits IntKind.u64))) ≥ (4294967296 : Int)))
   ((Ob ((0 : Int) ≤ IntKind.wrap IntKind.u64 (val (math_bits_LeadingZeros64 y_))) ∧
   (Ob (True) ∧
   (Ob (True) ∧
   (Ob (IntKind.wrap IntKind.u64 (IntKind.wrap IntKind.u64 (v1.1 * (4294967296 : Int)) + IntKind.wrap IntKind.u64 (v1.2.1.2 - (1 : Int))) = r.1) ∧
   (Ob (Int.fdiv (IntKind.wrap IntKind.u64 (IntKind.wrap IntKind.u64 (IntKind.wrap IntKind.u64 (IntKind.wrap IntKind.u64 (IntKind.wrap IntKind.u64 (IntKind.wrap IntKind.u64 (IntKind.wrap IntKind.u64 (↑(BitVec.toNat (BitVec.ofInt (IntKind.bits IntKind.u64) (IntKind.wrap IntKind.u64 (hi * (2 : Int) ^ min (Int.toNat (IntKind.wrap IntKind.u64 (val (math_bits_LeadingZeros64 y_)))) (IntKind.bits IntKind.u64))) ||| BitVec.ofInt (IntKind.bits IntKind.u64) (Int.fdiv lo ((2 : Int) ^ min (Int.toNat (IntKind.wrap IntKind.u64 ((64 : Int) - IntKind.wrap IntKind.u64 (val (math_bits_LeadingZeros64 y_))))) (IntKind.bits IntKind.u64))))) : Int) * (4294967296 : Int)) + Int.fdiv (IntKind.wrap IntKind.u64 (lo * (2 : Int) ^ min (Int.toNat (IntKind.wrap IntKind.u64 (val (math_bits_LeadingZeros64 y_)))) (IntKind.bits IntKind.u64))) ((2 : Int) ^ min (32 : Nat) (IntKind.bits IntKind.u64))) - IntKind.wrap IntKind.u64 (v1.1 * IntKind.wrap IntKind.u64 (y_ * (2 : Int) ^ min (Int.toNat (IntKind.wrap IntKind.u64 (val (math_bits_LeadingZeros64 y_)))) (IntKind.bits IntKind.u64)))) * (4294967296 : Int)) + IntKind.wrap IntKind.u64 (↑(BitVec.toNat (BitVec.ofInt (IntKind.bits IntKind.u64) (IntKind.wrap IntKind.u64 (lo * (2 : Int) ^ min (Int.toNat (IntKind.wrap IntKind.u64 (val (math_bits_LeadingZeros64 y_)))) (IntKind.bits IntKind.u64))) &&& BitVec.ofInt (IntKind.bits IntKind.u64) (4294967295 : Int))) : Int)) - IntKind.wrap IntKind.u64 (IntKind.wrap IntKind.u64 (v1.2.1.2 - (1 : Int)) * IntKind.wrap IntKind.u64 (y_ * (2 : Int) ^ min (Int.toNat (IntKind.wrap IntKind.u64 (val (math_bits_LeadingZeros64 y_)))) (IntKind.bits IntKind.u64))))) ((2 : Int) ^ min (Int.toNat (IntKind.wrap IntKind.u64 (val (math_bits_LeadingZeros64 y_)))) (IntKind.bits IntKind.u64)) = r.2) ∧
   True))))))
   ((∃ (v2 : Int × (Int × Int) × Nat), (Ob ((Option.bind (iter (math_bits_Div64_b1 lo y_ (val (math_bits_LeadingZeros64 y_))) v2.2.2 v2.2.1) fun y0 => Option.bind (math_bits_Div64_r1 hi lo y_ v2.1 (val (math_bits_LeadingZeros64 y_)) y0) some) = some r) ∧
   (Ob (v2.2.2 < v1.2.2) ∧
   (Ob (IntKind.wrap IntKind.u64 (y_ * (2 : Int) ^ min (Int.toNat (IntKind.wrap IntKind.u64 (val (math_bits_LeadingZeros64 y_)))) (IntKind.bits IntKind.u64)) = IntKind.wrap IntKind.u64 (y_ * (2 : Int) ^ min (Int.toNat (IntKind.wrap IntKind.u64 (val (math_bits_LeadingZeros64 y_)))) (IntKind.bits IntKind.u64))) ∧
   (Ob (IntKind.wrap IntKind.u64 (val (math_bits_LeadingZeros64 y_)) = IntKind.wrap IntKind.u64 (val (math_bits_LeadingZeros64 y_))) ∧
   (Ob (Int.fdiv (IntKind.wrap IntKind.u64 (y_ * (2 : Int) ^ min (Int.toNat (IntKind.wrap IntKind.u64 (val (math_bits_LeadingZeros64 y_)))) (IntKind.bits IntKind.u64))) ((2 : Int) ^ min (32 : Nat) (IntKind.bits IntKind.u64)) = Int.fdiv (IntKind.wrap IntKind.u64 (y_ * (2 : Int) ^ min (Int.toNat (IntKind.wrap IntKind.u64 (val (math_bits_LeadingZeros64 y_)))) (IntKind.bits IntKind.u64))) ((2 : Int) ^ min (32 : Nat) (IntKind.bits IntKind.u64))) ∧
   (Ob (IntKind.wrap IntKind.u64 (↑(BitVec.toNat (BitVec.ofInt (IntKind.bits IntKind.u64) (IntKind.wrap IntKind.u64 (y_ * (2 : Int) ^ min (Int.toNat (IntKind.wrap IntKind.u64 (val (math_bits_LeadingZeros64 y_)))) (IntKind.bits IntKind.u64))) &&& BitVec.ofInt (IntKind.bits IntKind.u64) (4294967295 : Int))) : Int) = IntKind.wrap IntKind.u64 (↑(BitVec.toNat (BitVec.ofInt (IntKind.bits IntKind.u64) (IntKind.wrap IntKind.u64 (y_ * (2 : Int) ^ min (Int.toNat (IntKind.wrap IntKind.u64 (val (math_bits_LeadingZeros64 y_)))) (IntKind.bits IntKind.u64))) &&& BitVec.ofInt (IntKind.bits IntKind.u64) (4294967295 : Int))) : Int)) ∧
   (Ob (IntKind.wrap IntKind.u64 (↑(BitVec.toNat (BitVec.ofInt (IntKind.bits IntKind.u64) (IntKind.wrap IntKind.u64 (lo * (2 : Int) ^ min (Int.toNat (IntKind.wrap IntKind.u64 (val (math_bits_LeadingZeros64 y_)))) (IntKind.bits IntKind.u64))) &&& BitVec.ofInt (IntKind.bits IntKind.u64) (4294967295 : Int))) : Int) = IntKind.wrap IntKind.u64 (↑(BitVec.toNat (BitVec.ofInt (IntKind.bits IntKind.u64) (IntKind.wrap IntKind.u64 (lo * (2 : Int) ^ min (Int.toNat (IntKind.wrap IntKind.u64 (val (math_bits_LeadingZeros64 y_)))) (IntKind.bits IntKind.u64))) &&& BitVec.ofInt (IntKind.bits IntKind.u64) (4294967295 : Int))) : Int)) ∧
   (Ob (v1.1 = v2.1) ∧
   (Ob (IntKind.wrap IntKind.u64 (v1.2.1.1 + Int.fdiv (IntKind.wrap IntKind.u64 (y_ * (2 : Int) ^ min (Int.toNat (IntKind.wrap IntKind.u64 (val (math_bits_LeadingZeros64 y_)))) (IntKind.bits IntKind.u64))) ((2 : Int) ^ min (32 : Nat) (IntKind.bits IntKind.u64))) = v2.2.1.1) ∧
   (Ob (IntKind.wrap IntKind.u64 (IntKind.wrap IntKind.u64 (IntKind.wrap IntKind.u64 (IntKind.wrap IntKind.u64 (↑(BitVec.toNat (BitVec.ofInt (IntKind.bits IntKind.u64) (IntKind.wrap IntKind.u64 (hi * (2 : Int) ^ min (Int.toNat (IntKind.wrap IntKind.u64 (val (math_bits_LeadingZeros64 y_)))) (IntKind.bits IntKind.u64))) ||| BitVec.ofInt (IntKind.bits IntKind.u64) (Int.fdiv lo ((2 : Int) ^ min (Int.toNat (IntKind.wrap IntKind.u64 ((64 : Int) - IntKind.wrap IntKind.u64 (val (math_bits_LeadingZeros64 y_))))) (IntKind.bits IntKind.u64))))) : Int) * (4294967296 : Int)) + Int.fdiv (IntKind.wrap IntKind.u64 (lo * (2 : Int) ^ min (Int.toNat (IntKind.wrap IntKind.u64 (val (math_bits_LeadingZeros64 y_)))) (IntKind.bits IntKind.u64))) ((2 : Int) ^ min (32 : Nat) (IntKind.bits IntKind.u64))) - IntKind.wrap IntKind.u64 (v1.1 * IntKind.wrap IntKind.u64 (y_ * (2 : Int) ^ min (Int.toNat (IntKind.wrap IntKind.u64 (val (math_bits_LeadingZeros64 y_)))) (IntKind.bits IntKind.u64)))) = IntKind.wrap IntKind.u64 (IntKind.wrap IntKind.u64 (IntKind.wrap IntKind.u64 (IntKind.wrap IntKind.u64 (↑(BitVec.toNat (BitVec.ofInt (IntKind.bits IntKind.u64) (IntKind.wrap IntKind.u64 (hi * (2 : Int) ^ min (Int.toNat (IntKind.wrap IntKind.u64 (val (math_bits_LeadingZeros64 y_)))) (IntKind.bits IntKind.u64))) ||| BitVec.ofInt (IntKind.bits IntKind.u64) (Int.fdiv lo ((2 : Int) ^ min (Int.toNat (IntKind.wrap IntKind.u64 ((64 : Int) - IntKind.wrap IntKind.u64 (val (math_bits_LeadingZeros64 y_))))) (IntKind.bits IntKind.u64))))) : Int) * (4294967296 : Int)) + Int.fdiv (IntKind.wrap IntKind.u64 (lo * (2 : Int) ^ min (Int.toNat (IntKind.wrap IntKind.u64 (val (math_bits_LeadingZeros64 y_)))) (IntKind.bits IntKind.u64))) ((2 : Int) ^ min (32 : Nat) (IntKind.bits IntKind.u64))) - IntKind.wrap IntKind.u64 (v2.1 * IntKind.wrap IntKind.u64 (y_ * (2 : Int) ^ min (Int.toNat (IntKind.wrap IntKind.u64 (val (math_bits_LeadingZeros64 y_)))) (IntKind.bits IntKind.u64))))) ∧
   (Ob (IntKind.wrap IntKind.u64 (v1.2.1.2 - (1 : Int)) = v2.2.1.2) ∧
   True))))))))))))))
   ((Ob ((0 : Int) ≤ IntKind.wrap IntKind.u64 (val (math_bits_LeadingZeros64 y_))) ∧
   (Ob (True) ∧
   (Ob (True) ∧
   (Ob (IntKind.wrap IntKind.u64 (IntKind.wrap IntKind.u64 (v1.1 * (4294967296 : Int)) + v1.2.1.2) = r.1) ∧
   (Ob (Int.fdiv (IntKind.wrap IntKind.u64 (IntKind.wrap IntKind.u64 (IntKind.wrap IntKind.u64 (IntKind.wrap IntKind.u64 (IntKind.wrap IntKind.u64 (IntKind.wrap IntKind.u64 (IntKind.wrap IntKind.u64 (↑(BitVec.toNat (BitVec.ofInt (IntKind.bits IntKind.u64) (IntKind.wrap IntKind.u64 (hi * (2 : Int) ^ min (Int.toNat (IntKind.wrap IntKind.u64 (val (math_bits_LeadingZeros64 y_)))) (IntKind.bits IntKind.u64))) ||| BitVec.ofInt (IntKind.bits IntKind.u64) (Int.fdiv lo ((2 : Int) ^ min (Int.toNat (IntKind.wrap IntKind.u64 ((64 : Int) - IntKind.wrap IntKind.u64 (val (math_bits_LeadingZeros64 y_))))) (IntKind.bits IntKind.u64))))) : Int) * (4294967296 : Int)) + Int.fdiv (IntKind.wrap IntKind.u64 (lo * (2 : Int) ^ min (Int.toNat (IntKind.wrap IntKind.u64 (val (math_bits_LeadingZeros64 y_)))) (IntKind.bits IntKind.u64))) ((2 : Int) ^ min (32 : Nat) (IntKind.bits IntKind.u64))) - IntKind.wrap IntKind.u64 (v1.1 * IntKind.wrap IntKind.u64 (y_ * (2 : Int) ^ min (Int.toNat (IntKind.wrap IntKind.u64 (val (math_bits_LeadingZeros64 y_)))) (IntKind.bits IntKind.u64)))) * (4294967296 : Int)) + IntKind.wrap IntKind.u64 (↑(BitVec.toNat (BitVec.ofInt (IntKind.bits IntKind.u64) (IntKind.wrap IntKind.u64 (lo * (2 : Int) ^ min (Int.toNat (IntKind.wrap IntKind.u64 (val (math_bits_LeadingZeros64 y_)))) (IntKind.bits IntKind.u64))) &&& BitVec.ofInt (IntKind.bits IntKind.u64) (4294967295 : Int))) : Int)) - IntKind.wrap IntKind.u64 (v1.2.1.2 * IntKind.wrap IntKind.u64 (y_ * (2 : Int) ^ min (Int.toNat (IntKind.wrap IntKind.u64 (val (math_bits_LeadingZeros64 y_)))) (IntKind.bits IntKind.u64))))) ((2 : Int) ^ min (Int.toNat (IntKind.wrap IntKind.u64 (val (math_bits_LeadingZeros64 y_)))) (IntKind.bits IntKind.u64)) = r.2) ∧
   True))))))))))))
   ((∃ (v1 : (Int × Int) × Nat), (Ob ((Option.bind (iter (math_bits_Div64_b0 lo y_ (val (math_bits_LeadingZeros64 y_))) v1.2 v1.1) fun y0 => Option.bind (math_bits_Div64_r0 hi lo y_ (val (math_bits_LeadingZeros64 y_)) y0) some) = some r) ∧
   (Ob (v1.2 < v0.2) ∧
   (Ob (IntKind.wrap IntKind.u64 (y_ * (2 : Int) ^ min (Int.toNat (IntKind.wrap IntKind.u64 (val (math_bits_LeadingZeros64 y_)))) (IntKind.bits IntKind.u64)) = IntKind.wrap IntKind.u64 (y_ * (2 : Int) ^ min (Int.toNat (IntKind.wrap IntKind.u64 (val (math_bits_LeadingZeros64 y_)))) (IntKind.bits IntKind.u64))) ∧
   (Ob (IntKind.wrap IntKind.u64 (val (math_bits_LeadingZeros64 y_)) = IntKind.wrap IntKind.u64 (val (math_bits_LeadingZeros64 y_))) ∧
   (Ob (Int.fdiv (IntKind.wrap IntKind.u64 (y_ * (2 : Int) ^ min (Int.toNat (IntKind.wrap IntKind.u64 (val (math_bits_LeadingZeros64 y_)))) (IntKind.bits IntKind.u64))) ((2 : Int) ^ min (32 : Nat) (IntKind.bits IntKind.u64)) = Int.fdiv (IntKind.wrap IntKind.u64 (y_ * (2 : Int) ^ min (Int.toNat (IntKind.wrap IntKind.u64 (val (math_bits_LeadingZeros64 y_)))) (IntKind.bits IntKind.u64))) ((2 : Int) ^ min (32 : Nat) (IntKind.bits IntKind.u64))) ∧
   (Ob (IntKind.wrap IntKind.u64 (↑(BitVec.toNat (BitVec.ofInt (IntKind.bits IntKind.u64) (IntKind.wrap IntKind.u64 (y_ * (2 : Int) ^ min (Int.toNat (IntKind.wrap IntKind.u64 (val (math_bits_LeadingZeros64 y_)))) (IntKind.bits IntKind.u64))) &&& BitVec.ofInt (IntKind.bits IntKind.u64) (4294967295 : Int))) : Int) = IntKind.wrap IntKind.u64 (↑(BitVec.toNat (BitVec.ofInt (IntKind.bits IntKind.u64) (IntKind.wrap IntKind.u64 (y_ * (2 : Int) ^ min (Int.toNat (IntKind.wrap IntKind.u64 (val (math_bits_LeadingZeros64 y_)))) (IntKind.bits IntKind.u64))) &&& BitVec.ofInt (IntKind.bits IntKind.u64) (4294967295 : Int))) : Int)) ∧
   (Ob (IntKind.wrap IntKind.u64 (↑(BitVec.toNat (BitVec.ofInt (IntKind.bits IntKind.u64) (IntKind.wrap IntKind.u64 (hi * (2 : Int) ^ min (Int.toNat (IntKind.wrap IntKind.u64 (val (math_bits_LeadingZeros64 y_)))) (IntKind.bits IntKind.u64))) ||| BitVec.ofInt (IntKind.bits IntKind.u64) (Int.fdiv lo ((2 : Int) ^ min (Int.toNat (IntKind.wrap IntKind.u64 ((64 : Int) - IntKind.wrap IntKind.u64 (val (math_bits_LeadingZeros64 y_))))) (IntKind.bits IntKind.u64))))) : Int) = IntKind.wrap IntKind.u64 (↑(BitVec.toNat (BitVec.ofInt (IntKind.bits IntKind.u64) (IntKind.wrap IntKind.u64 (hi * (2 : Int) ^ min (Int.toNat (IntKind.wrap IntKind.u64 (val (math_bits_LeadingZeros64 y_)))) (IntKind.bits IntKind.u64))) ||| BitVec.ofInt (IntKind.bits IntKind.u64) (Int.fdiv lo ((2 : Int) ^ min (Int.toNat (IntKind.wrap IntKind.u64 ((64 : Int) - IntKind.wrap IntKind.u64 (val (math_bits_LeadingZeros64 y_))))) (IntKind.bits IntKind.u64))))) : Int)) ∧
   (Ob (Int.fdiv (IntKind.wrap IntKind.u64 (lo * (2 : Int) ^ min (Int.toNat (IntKind.wrap IntKind.u64 (val (math_bits_LeadingZeros64 y_)))) (IntKind.bits IntKind.u64))) ((2 : Int) ^ min (32 : Nat) (IntKind.bits IntKind.u64)) = Int.fdiv (IntKind.wrap IntKind.u64 (lo * (2 : Int) ^ min (Int.toNat (IntKind.wrap IntKind.u64 (val (math_bits_LeadingZeros64 y_)))) (IntKind.bits IntKind.u64))) ((2 : Int) ^ min (32 : Nat) (IntKind.bits IntKind.u64))) ∧
   (Ob (IntKind.wrap IntKind.u64 (↑(BitVec.toNat (BitVec.ofInt (IntKind.bits IntKind.u64) (IntKind.wrap IntKind.u64 (lo * (2 : Int) ^ min (Int.toNat (IntKind.wrap IntKind.u64 (val (math_bits_LeadingZeros64 y_)))) (IntKind.bits IntKind.u64))) &&& BitVec.ofInt (IntKind.bits IntKind.u64) (4294967295 : Int))) : Int) = IntKind.wrap IntKind.u64 (↑(BitVec.toNat (BitVec.ofInt (IntKind.bits IntKind.u64) (IntKind.wrap IntKind.u64 (lo * (2 : Int) ^ min (Int.toNat (IntKind.wrap IntKind.u64 (val (math_bits_LeadingZeros64 y_)))) (IntKind.bits IntKind.u64))) &&& BitVec.ofInt (IntKind.bits IntKind.u64) (4294967295 : Int))) : Int)) ∧
   (Ob (IntKind.wrap IntKind.u64 (v0.1.1 - (1 : Int)) = v1.1.1) ∧
   (Ob (IntKind.wrap IntKind.u64 (v0.1.2 + Int.fdiv (IntKind.wrap IntKind.u64 (y_ * (2 : Int) ^ min (Int.toNat (IntKind.wrap IntKind.u64 (val (math_bits_LeadingZeros64 y_)))) (IntKind.bits IntKind.u64))) ((2 : Int) ^ min (32 : Nat) (IntKind.bits IntKind.u64))) = v1.1.2) ∧
   True))))))))))))))
   (Br (decide (IntKind.wrap IntKind.u64 (v0.1.1 * IntKind.wrap IntKind.u64 (↑(BitVec.toNat (BitVec.ofInt (IntKind.bits IntKind.u64) (IntKind.wrap IntKind.u64 (y_ * (2 : Int) ^ min (Int.toNat (IntKind.wrap IntKind.u64 (val (math_bits_LeadingZeros64 y_)))) (IntKind.bits IntKind.u64))) &&& BitVec.ofInt (IntKind.bits IntKind.u64) (4294967295 : Int))) : Int)) > IntKind.wrap IntKind.u64 (IntKind.wrap IntKind.u64 ((4294967296 : Int) * v0.1.2) + Int.fdiv (IntKind.wrap IntKind.u64 (lo * (2 : Int) ^ min (Int.toNat (IntKind.wrap IntKind.u64 (val (math_bits_LeadingZeros64 y_)))) (IntKind.bits IntKind.u64))) ((2 : Int) ^ min (32 : Nat) (IntKind.bits IntKind.u64)))))
   (Br (decide (IntKind.wrap IntKind.u64 (v0.1.2 + Int.fdiv (IntKind.wrap IntKind.u64 (y_ * (2 : Int) ^ min (Int.toNat (IntKind.wrap IntKind.u64 (val (math_bits_LeadingZeros64 y_)))) (IntKind.bits IntKind.u64))) ((2 : Int) ^ min (32 : Nat) (IntKind.bits IntKind.u64))) ≥ (4294967296 : Int)))
   ((Ob (Int.fdiv (IntKind.wrap IntKind.u64 (y_ * (2 : Int) ^ min (Int.toNat (IntKind.wrap IntKind.u64 (val (math_bits_LeadingZeros64 y_)))) (IntKind.bits IntKind.u64))) ((2 : Int) ^ min (32 : Nat) (IntKind.bits IntKind.u64)) ≠ (0 : Int)) ∧
   ((∃ (v1 : Int × (Int × Int) × Nat), (Ob ((Option.bind (iter (math_bits_Div64_b1 lo y_ (val (math_bits_LeadingZeros64 y_))) v1.2.2 v1.2.1) fun y0 => Option.bind (math_bits_Div64_r1 hi lo y_ v1.1 (val (math_bits_LeadingZeros64 y_)) y0) some) = some r) ∧
   (Ob (IntKind.wrap IntKind.u64 (y_ * (2 : Int) ^ min (Int.toNat (IntKind.wrap IntKind.u64 (val (math_bits_LeadingZeros64 y_)))) (IntKind.bits IntKind.u64)) = IntKind.wrap IntKind.u64 (y_ * (2 : Int) ^ min (Int.toNat (IntKind.wrap IntKind.u64 (val (math_bits_LeadingZeros64 y_)))) (IntKind.bits IntKind.u64))) ∧
   (Ob (IntKind.wrap IntKind.u64 (val (math_bits_LeadingZeros64 y_)) = IntKind.wrap IntKind.u64 (val (math_bits_LeadingZeros64 y_))) ∧
   (Ob (Int.fdiv (IntKind.wrap IntKind.u64 (y_ * (2 : Int) ^ min (Int.toNat (IntKind.wrap IntKind.u64 (val (math_bits_LeadingZeros64 y_)))) (IntKind.bits IntKind.u64))) ((2 : Int) ^ min (32 : Nat) (IntKind.bits IntKind.u64)) = Int.fdiv (IntKind.wrap IntKind.u64 (y_ * (2 : Int) ^ min (Int.toNat (IntKind.wrap IntKind.u64 (val (math_bits_LeadingZeros64 y_)))) (IntKind.bits IntKind.u64))) ((2 : Int) ^ min (32 : Nat) (IntKind.bits IntKind.u64))) ∧
   (Ob (IntKind.wrap IntKind.u64 (↑(BitVec.toNat (BitVec.ofInt (IntKind.bits IntKind.u64) (IntKind.wrap IntKind.u64 (y_ * (2 : Int) ^ min (Int.toNat (IntKind.wrap IntKind.u64 (val (math_bits_LeadingZeros64 y_)))) (IntKind.bits IntKind.u64))) &&& BitVec.ofInt (IntKind.bits IntKind.u64) (4294967295 : Int))) : Int) = IntKind.wrap IntKind.u64 (↑(BitVec.toNat (BitVec.ofInt (IntKind.bits IntKind.u64) (IntKind.wrap IntKind.u64 (y_ * (2 : Int) ^ min (Int.toNat (IntKind.wrap IntKind.u64 (val (math_bits_LeadingZeros64 y_)))) (IntKind.bits IntKind.u64))) &&& BitVec.ofInt (IntKind.bits IntKind.u64) (4294967295 : Int))) : Int)) ∧
   (Ob (IntKind.wrap IntKind.u64 (↑(BitVec.toNat (BitVec.ofInt (IntKind.bits IntKind.u64) (IntKind.wrap IntKind.u64 (lo * (2 : Int) ^ min (Int.toNat (IntKind.wrap IntKind.u64 (val (math_bits_LeadingZeros64 y_)))) (IntKind.bits IntKind.u64))) &&& BitVec.ofInt (IntKind.bits IntKind.u64) (4294967295 : Int))) : Int) = IntKind.wrap IntKind.u64 (↑(BitVec.toNat (BitVec.ofInt (IntKind.bits IntKind.u64) (IntKind.wrap IntKind.u64 (lo * (2 : Int) ^ min (Int.toNat (IntKind.wrap IntKind.u64 (val (math_bits_LeadingZeros64 y_)))) (IntKind.bits IntKind.u64))) &&& BitVec.ofInt (IntKind.bits IntKind.u64) (4294967295 : Int))) : Int)) ∧
   (Ob (IntKind.wrap IntKind.u64 (v0.1.1 - (1 : Int)) = v1.1) ∧
   (Ob (IntKind.wrap IntKind.u64 (IntKind.wrap IntKind.u64 (IntKind.wrap IntKind.u64 (IntKind.wrap IntKind.u64 (IntKind.wrap IntKind.u64 (↑(BitVec.toNat (BitVec.ofInt (IntKind.bits IntKind.u64) (IntKind.wrap IntKind.u64 (hi * (2 : Int) ^ min (Int.toNat (IntKind.wrap IntKind.u64 (val (math_bits_LeadingZeros64 y_)))) (IntKind.bits IntKind.u64))) ||| BitVec.ofInt (IntKind.bits IntKind.u64) (Int.fdiv lo ((2 : Int) ^ min (Int.toNat (IntKind.wrap IntKind.u64 ((64 : Int) - IntKind.wrap IntKind.u64 (val (math_bits_LeadingZeros64 y_))))) (IntKind.bits IntKind.u64))))) : Int) * (4294967296 : Int)) + Int.fdiv (IntKind.wrap IntKind.u64 (lo * (2 : Int) ^ min (Int.toNat (IntKind.wrap IntKind.u64 (val (math_bits_LeadingZeros64 y_)))) (IntKind.bits IntKind.u64))) ((2 : Int) ^ min (32 : Nat) (IntKind.bits IntKind.u64))) - IntKind.wrap IntKind.u64 (IntKind.wrap IntKind.u64 (v0.1.1 - (1 : Int)) * IntKind.wrap IntKind.u64 (y_ * (2 : Int) ^ min (Int.toNat (IntKind.wrap IntKind.u64 (val (math_bits_LeadingZeros64 y_)))) (IntKind.bits IntKind.u64)))) - IntKind.wrap IntKind.u64 (IntKind.wrap IntKind.u64 (Int.tdiv (IntKind.wrap IntKind.u64 (IntKind.wrap IntKind.u64 (IntKind.wrap IntKind.u64 (IntKind.wrap IntKind.u64 (↑(BitVec.toNat (BitVec.ofInt (IntKind.bits IntKind.u64) (IntKind.wrap IntKind.u64 (hi * (2 : Int) ^ min (Int.toNat (IntKind.wrap IntKind.u64 (val (math_bits_LeadingZeros64 y_)))) (IntKind.bits IntKind.u64))) ||| BitVec.ofInt (IntKind.bits IntKind.u64) (Int.fdiv lo ((2 : Int) ^ min (Int.toNat (IntKind.wrap IntKind.u64 ((64 : Int) - IntKind.wrap IntKind.u64 (val (math_bits_LeadingZeros64 y_))))) (IntKind.bits IntKind.u64))))) : Int) * (4294967296 : Int)) + Int.fdiv (IntKind.wrap IntKind.u64 (lo * (2 : Int) ^ min (Int.toNat (IntKind.wrap IntKind.u64 (val (math_bits_LeadingZeros64 y_)))) (IntKind.bits IntKind.u64))) ((2 : Int) ^ min (32 : Nat) (IntKind.bits IntKind.u64))) - IntKind.wrap IntKind.u64 (IntKind.wrap IntKind.u64 (v0.1.1 - (1 : Int)) * IntKind.wrap IntKind.u64 (y_ * (2 : Int) ^ min (Int.toNat (IntKind.wrap IntKind.u64 (val (math_bits_LeadingZeros64 y_)))) (IntKind.bits IntKind.u64))))) (Int.fdiv (IntKind.wrap IntKind.u64 (y_ * (2 : Int) ^ min (Int.toNat (IntKind.wrap IntKind.u64 (val (math_bits_LeadingZeros64 y_)))) (IntKind.bits IntKind.u64))) ((2 : Int) ^ min (32 : Nat) (IntKind.bits IntKind.u64)))) * Int.fdiv (IntKind.wrap IntKind.u64 (y_ * (2 : Int) ^ min (Int.toNat (IntKind.wrap IntKind.u64 (val (math_bits_LeadingZeros64 y_)))) (IntKind.bits IntKind.u64))) ((2 : Int) ^ min (32 : Nat) (IntKind.bits IntKind.u64)))) = v1.2.1.1) ∧
   (Ob (IntKind.wrap IntKind.u64 (IntKind.wrap IntKind.u64 (IntKind.wrap IntKind.u64 (IntKind.wrap IntKind.u64 (↑(BitVec.toNat (BitVec.ofInt (IntKind.bits IntKind.u64) (IntKind.wrap IntKind.u64 (hi * (2 : Int) ^ min (Int.toNat (IntKind.wrap IntKind.u64 (val (math_bits_LeadingZeros64 y_)))) (IntKind.bits IntKind.u64))) ||| BitVec.ofInt (IntKind.bits IntKind.u64) (Int.fdiv lo ((2 : Int) ^ min (Int.toNat (IntKind.wrap IntKind.u64 ((64 : Int) - IntKind.wrap IntKind.u64 (val (math_bits_LeadingZeros64 y_))))) (IntKind.bits IntKind.u64))))) : Int) * (4294967296 : Int)) + Int.fdiv (IntKind.wrap IntKind.u64 (lo * (2 : Int) ^ min (Int.toNat (IntKind.wrap IntKind.u64 (val (math_bits_LeadingZeros64 y_)))) (IntKind.bits IntKind.u64))) ((2 : Int) ^ min (32 : Nat) (IntKind.bits IntKind.u64))) - IntKind.wrap IntKind.u64 (IntKind.wrap IntKind.u64 (v0.1.1 - (1 : Int)) * IntKind.wrap IntKind.u64 (y_ * (2 : Int) ^ min (Int.toNat (IntKind.wrap IntKind.u64 (val (math_bits_LeadingZeros64 y_)))) (IntKind.bits IntKind.u64)))) = IntKind.wrap IntKind.u64 (IntKind.wrap IntKind.u64 (IntKind.wrap IntKind.u64 (IntKind.wrap IntKind.u64 (↑(BitVec.toNat (BitVec.ofInt (IntKind.bits IntKind.u64) (IntKind.wrap IntKind.u64 (hi * (2 : Int) ^ min (Int.toNat (IntKind.wrap IntKind.u64 (val (math_bits_LeadingZeros64 y_)))) (IntKind.bits IntKind.u64))) ||| BitVec.ofInt (IntKind.bits IntKind.u64) (Int.fdiv lo ((2 : Int) ^ min (Int.toNat (IntKind.wrap IntKind.u64 ((64 : Int) - IntKind.wrap IntKind.u64 (val (math_bits_LeadingZeros64 y_))))) (IntKind.bits IntKind.u64))))) : Int) * (4294967296 : Int)) + Int.fdiv (IntKind.wrap IntKind.u64 (lo * (2 : Int) ^ min (Int.toNat (IntKind.wrap IntKind.u64 (val (math_bits_LeadingZeros64 y_)))) (IntKind.bits IntKind.u64))) ((2 : Int) ^ min (32 : Nat) (IntKind.bits IntKind.u64))) - IntKind.wrap IntKind.u64 (v1.1 * IntKind.wrap IntKind.u64 (y_ * (2 : Int) ^ min (Int.toNat (IntKind.wrap IntKind.u64 (val (math_bits_LeadingZeros64 y_)))) (IntKind.bits IntKind.u64))))) ∧
   (Ob (IntKind.wrap IntKind.u64 (Int.tdiv (IntKind.wrap IntKind.u64 (IntKind.wrap IntKind.u64 (IntKind.wrap IntKind.u64 (IntKind.wrap IntKind.u64 (↑(BitVec.toNat (BitVec.ofInt (IntKind.bits IntKind.u64) (IntKind.wrap IntKind.u64 (hi * (2 : Int) ^ min (Int.toNat (IntKind.wrap IntKind.u64 (val (math_bits_LeadingZeros64 y_)))) (IntKind.bits IntKind.u64))) ||| BitVec.ofInt (IntKind.bits IntKind.u64) (Int.fdiv lo ((2 : Int) ^ min (Int.toNat (IntKind.wrap IntKind.u64 ((64 : Int) - IntKind.wrap IntKind.u64 (val (math_bits_LeadingZeros64 y_))))) (IntKind.bits IntKind.u64))))) : Int) * (4294967296 : Int)) + Int.fdiv (IntKind.wrap IntKind.u64 (lo * (2 : Int) ^ min (Int.toNat (IntKind.wrap IntKind.u64 (val (math_bits_LeadingZeros64 y_)))) (IntKind.bits IntKind.u64))) ((2 : Int) ^ min (32 : Nat) (IntKind.bits IntKind.u64))) - IntKind.wrap IntKind.u64 (IntKind.wrap IntKind.u64 (v0.1.1 - (1 : Int)) * IntKind.wrap IntKind.u64 (y_ * (2 : Int) ^ min (Int.toNat (IntKind.wrap IntKind.u64 (val (math_bits_LeadingZeros64 y_)))) (IntKind.bits IntKind.u64))))) (Int.fdiv (IntKind.wrap IntKind.u64 (y_ * (2 : Int) ^ min (Int.toNat (IntKind.wrap IntKind.u64 (val (math_bits_LeadingZeros64 y_)))) (IntKind.bits IntKind.u64))) ((2 : Int) ^ min (32 : Nat) (IntKind.bits IntKind.u64)))) = v1.2.1.2) ∧
   True))))))))))) ∧
   (∀ (v1 : Int × (Int × Int) × Nat), ((Option.bind (iter (math_bits_Div64_b1 lo y_ (val (math_bits_LeadingZeros64 y_))) v1.2.2 v1.2.1) fun y0 => Option.bind (math_bits_Div64_r1 hi lo y_ v1.1 (val (math_bits_LeadingZeros64 y_)) y0) some) = some r →
   Br (decide (v1.2.1.2 ≥ (4294967296 : Int)))
   (Br (decide (IntKind.wrap IntKind.u64 (v1.2.1.1 + Int.fdiv (IntKind.wrap IntKind.u64 (y_ * (2 : Int) ^ min (Int.toNat (IntKind.wrap IntKind.u64 (val (math_bits_LeadingZeros64 y_)))) (IntKind.bits IntKind.u64))) ((2 : Int) ^ min (32 : Nat) (IntKind.bits IntKind.u64))) ≥ (4294967296 : Int)))
   ((Ob ((0 : Int) ≤ IntKind.wrap IntKind.u64 (val (math_bits_LeadingZeros64 y_))) ∧
   (Ob (True) ∧
   (Ob (True) ∧
   (Ob (IntKind.wrap IntKind.u64 (IntKind.wrap IntKind.u64 (v1.1 * (4294967296 : Int)) + IntKind.wrap IntKind.u64 (v1.2.1.2 - (1 : Int))) = r.1) ∧
   (Ob (Int.fdiv (IntKind.wrap IntKind.u64 (IntKind.wrap IntKind.u64 (IntKind.wrap IntKind.u64 (IntKind.wrap IntKind.u64 (IntKind.wrap IntKind.u64 (IntKind.wrap IntKind.u64 (IntKind.wrap IntKind.u64 (↑(BitVec.toNat (BitVec.ofInt (IntKind.bits IntKind.u64) (IntKind.wrap IntKind.u64 (hi * (2 : Int) ^ min (Int.toNat (IntKind.wrap IntKind.u64 (val (math_bits_LeadingZeros64 y_)))) (IntKind.bits IntKind.u64))) ||| BitVec.ofInt (IntKind.bits IntKind.u64) (Int.fdiv lo ((2 : Int) ^ min (Int.toNat (IntKind.wrap IntKind.u64 ((64 : Int) - IntKind.wrap IntKind.u64 (val (math_bits_LeadingZeros64 y_))))) (IntKind.bits IntKind.u64))))) : Int) * (4294967296 : Int)) + Int.fdiv (IntKind.wrap IntKind.u64 (lo * (2 : Int) ^ min (Int.toNat (IntKind.wrap IntKind.u64 (val (math_bits_LeadingZeros64 y_)))) (IntKind.bits IntKind.u64))) ((2 : Int) ^ min (32 : Nat) (IntKind.bits IntKind.u64))) - IntKind.wrap IntKind.u64 (v1.1 * IntKind.wrap IntKind.u64 (y_ * (2 : Int) ^ min (Int.toNat (IntKind.wrap IntKind.u64 (val (math_bits_LeadingZeros64 y_)))) (IntKind.bits IntKind.u64)))) * (4294967296 : Int)) + IntKind.wrap IntKind.u64 (↑(BitVec.toNat (BitVec.ofInt (IntKind.bits IntKind.u64) (IntKind.wrap IntKind.u64 (lo * (2 : Int) ^ min (Int.toNat (IntKind.wrap IntKind.u64 (val (math_bits_LeadingZeros64 y_)))) (IntKind.bits IntKind.u64))) &&& BitVec.ofInt (IntKind.bits IntKind.u64) (4294967295 : Int))) : Int)) - IntKind.wrap IntKind.u64 (IntKind.wrap IntKind.u64 (v1.2.1.2 - (1 : Int)) * IntKind.wrap IntKind.u64 (y_ * (2 : Int) ^ min (Int.toNat (IntKind.wrap IntKind.u64 (val (math_bits_LeadingZeros64 y_)))) (IntKind.bits IntKind.u64))))) ((2 : Int) ^ min (Int.toNat (IntKind.wrap IntKind.u64 (val (math_bits_LeadingZeros64 y_)))) (IntKind.bits IntKind.u64)) = r.2) ∧
   True))))))
   ((∃ (v2 : Int × (Int × Int) × Nat), (Ob ((Option.bind (iter (math_bits_Div64_b1 lo y_ (val (math_bits_LeadingZeros64 y_))) v2.2.2 v2.2.1) fun y0 => Option.bind (math_bits_Div64_r1 hi lo y_ v2.1 (val (math_bits_LeadingZeros64 y_)) y0) some) = some r) ∧
   (Ob (v2.2.2 < v1.2.2) ∧
   (Ob (IntKind.wrap IntKind.u64 (y_ * (2 : Int) ^ min (Int.toNat (IntKind.wrap IntKind.u64 (val (math_bits_LeadingZeros64 y_)))) (IntKind.bits IntKind.u64)) = IntKind.wrap IntKind.u64 (y_ * (2 : Int) ^ min (Int.toNat (IntKind.wrap IntKind.u64 (val (math_bits_LeadingZeros64 y_)))) (IntKind.bits IntKind.u64))) ∧
   (Ob (IntKind.wrap IntKind.u64 (val (math_bits_LeadingZeros64 y_)) = IntKind.wrap IntKind.u64 (val (math_bits_LeadingZeros64 y_))) ∧
   (Ob (Int.fdiv (IntKind.wrap IntKind.u64 (y_ * (2 : Int) ^ min (Int.toNat (IntKind.wrap IntKind.u64 (val (math_bits_LeadingZeros64 y_)))) (IntKind.bits IntKind.u64))) ((2 : Int) ^ min (32 : Nat) (IntKind.bits IntKind.u64)) = Int.fdiv (IntKind.wrap IntKind.u64 (y_ * (2 : Int) ^ min (Int.toNat (IntKind.wrap IntKind.u64 (val (math_bits_LeadingZeros64 y_)))) (IntKind.bits IntKind.u64))) ((2 : Int) ^ min (32 : Nat) (IntKind.bits IntKind.u64))) ∧
   (Ob (IntKind.wrap IntKind.u64 (↑(BitVec.toNat (BitVec.ofInt (IntKind.bits IntKind.u64) (IntKind.wrap IntKind.u64 (y_ * (2 : Int) ^ min (Int.toNat (IntKind.wrap IntKind.u64 (val (math_bits_LeadingZeros64 y_)))) (IntKind.bits IntKind.u64))) &&& BitVec.ofInt (IntKind.bits IntKind.u64) (4294967295 : Int))) : Int) = IntKind.wrap IntKind.u64 (↑(BitVec.toNat (BitVec.ofInt (IntKind.bits IntKind.u64) (IntKind.wrap IntKind.u64 (y_ * (2 : Int) ^ min (Int.toNat (IntKind.wrap IntKind.u64 (val (math_bits_LeadingZeros64 y_)))) (IntKind.bits IntKind.u64))) &&& BitVec.ofInt (IntKind.bits IntKind.u64) (4294967295 : Int))) : Int)) ∧
   (Ob (IntKind.wrap IntKind.u64 (↑(BitVec.toNat (BitVec.ofInt (IntKind.bits IntKind.u64) (IntKind.wrap IntKind.u64 (lo * (2 : Int) ^ min (Int.toNat (IntKind.wrap IntKind.u64 (val (math_bits_LeadingZeros64 y_)))) (IntKind.bits IntKind.u64))) &&& BitVec.ofInt (IntKind.bits IntKind.u64) (4294967295 : Int))) : Int) = IntKind.wrap IntKind.u64 (↑(BitVec.toNat (BitVec.ofInt (IntKind.bits IntKind.u64) (IntKind.wrap IntKind.u64 (lo * (2 : Int) ^ min (Int.toNat (IntKind.wrap IntKind.u64 (val (math_bits_LeadingZeros64 y_)))) (IntKind.bits IntKind.u64))) &&& BitVec.ofInt (IntKind.bits IntKind.u64) (4294967295 : Int))) : Int)) ∧
   (Ob (v1.1 = v2.1) ∧
   (Ob (IntKind.wrap IntKind.u64 (v1.2.1.1 + Int.fdiv (IntKind.wrap IntKind.u64 (y_ * (2 : Int) ^ min (Int.toNat (IntKind.wrap IntKind.u64 (val (math_bits_LeadingZeros64 y_)))) (IntKind.bits IntKind.u64))) ((2 : Int) ^ min (32 : Nat) (IntKind.bits IntKind.u64))) = v2.2.1.1) ∧
   (Ob (IntKind.wrap IntKind.u64 (IntKind.wrap IntKind.u64 (IntKind.wrap IntKind.u64 (IntKind.wrap IntKind.u64 (↑(BitVec.toNat (BitVec.ofInt (IntKind.bits IntKind.u64) (IntKind.wrap IntKind.u64 (hi * (2 : Int) ^ min (Int.toNat (IntKind.wrap IntKind.u64 (val (math_bits_LeadingZeros64 y_)))) (IntKind.bits IntKind.u64))) ||| BitVec.ofInt (IntKind.bits IntKind.u64) (Int.fdiv lo ((2 : Int) ^ min (Int.toNat (IntKind.wrap IntKind.u64 ((64 : Int) - IntKind.wrap IntKind.u64 (val (math_bits_LeadingZeros64 y_))))) (IntKind.bits IntKind.u64))))) : Int) * (4294967296 : Int)) + Int.fdiv (IntKind.wrap IntKind.u64 (lo * (2 : Int) ^ min (Int.toNat (IntKind.wrap IntKind.u64 (val (math_bits_LeadingZeros64 y_)))) (IntKind.bits IntKind.u64))) ((2 : Int) ^ min (32 : Nat) (IntKind.bits IntKind.u64))) - IntKind.wrap IntKind.u64 (v1.1 * IntKind.wrap IntKind.u64 (y_ * (2 : Int) ^ min (Int.toNat (IntKind.wrap IntKind.u64 (val (math_bits_LeadingZeros64 y_)))) (IntKind.bits IntKind.u64)))) = IntKind.wrap IntKind.u64 (IntKind.wrap IntKind.u64 (IntKind.wrap IntKind.u64 (IntKind.wrap IntKind.u64 (↑(BitVec.toNat (BitVec.ofInt (IntKind.bits IntKind.u64) (IntKind.wrap IntKind.u64 (hi * (2 : Int) ^ min (Int.toNat (IntKind.wrap IntKind.u64 (val (math_bits_LeadingZeros64 y_)))) (IntKind.bits IntKind.u64))) ||| BitVec.ofInt (IntKind.bits IntKind.u64) (Int.fdiv lo ((2 : Int) ^ min (Int.toNat (IntKind.wrap IntKind.u64 ((64 : Int) - IntKind.wrap IntKind.u64 (val (math_bits_LeadingZeros64 y_))))) (IntKind.bits IntKind.u64))))) : Int) * (4294967296 : Int)) + Int.fdiv (IntKind.wrap IntKind.u64 (lo * (2 : Int) ^ min (Int.toNat (IntKind.wrap IntKind.u64 (val (math_bits_LeadingZeros64 y_)))) (IntKind.bits IntKind.u64))) ((2 : Int) ^ min (32 : Nat) (IntKind.bits IntKind.u64))) - IntKind.wrap IntKind.u64 (v2.1 * IntKind.wrap IntKind.u64 (y_ * (2 : Int) ^ min (Int.toNat (IntKind.wrap IntKind.u64 (val (math_bits_LeadingZeros64 y_)))) (IntKind.bits IntKind.u64))))) ∧
   (Ob (IntKind.wrap IntKind.u64 (v1.2.1.2 - (1 : Int)) = v2.2.1.2) ∧
   True))))))))))))))
   (Br (decide (IntKind.wrap IntKind.u64 (v1.2.1.2 * IntKind.wrap IntKind.u64 (↑(BitVec.toNat (BitVec.ofInt (IntKind.bits IntKind.u64) (IntKind.wrap IntKind.u64 (y_ * (2 : Int) ^ min (Int.toNat (IntKind.wrap IntKind.u64 (val (math_bits_LeadingZeros64 y_)))) (IntKind.bits IntKind.u64))) &&& BitVec.ofInt (IntKind.bits IntKind.u64) (4294967295 : Int))) : Int)) > IntKind.wrap IntKind.u64 (IntKind.wrap IntKind.u64 ((4294967296 : Int) * v1.2.1.1) + IntKind.wrap IntKind.u64 (↑(BitVec.toNat (BitVec.ofInt (IntKind.bits IntKind.u64) (IntKind.wrap IntKind.u64 (lo * (2 : Int) ^ min (Int.toNat (IntKind.wrap IntKind.u64 (val (math_bits_LeadingZeros64 y_)))) (IntKind.bits IntKind.u64))) &&& BitVec.ofInt (IntKind.bits IntKind.u64) (4294967295 : Int))) : Int))))
   (Br (decide (IntKind.wrap IntKind.u64 (v1.2.1.1 + Int.fdiv (IntKind.wrap IntKind.u64 (y_ * (2 : Int) ^ min (Int.toNat (IntKind.wrap IntKind.u64 (val (math_bits_LeadingZeros64 y_)))) (IntKind.bits IntKind.u64))) ((2 : Int) ^ min (32 : Nat) (IntKind.bits IntKind.u64))) ≥ (4294967296 : Int)))
   ((Ob ((0 : Int) ≤ IntKind.wrap IntKind.u64 (val (math_bits_LeadingZeros64 y_))) ∧
   (Ob (True) ∧
   (Ob (True) ∧
   (Ob (IntKind.wrap IntKind.u64 (IntKind.wrap IntKind.u64 (v1.1 * (4294967296 : Int)) + IntKind.wrap IntKind.u64 (v1.2.1.2 - (1 : Int))) = r.1) ∧
   (Ob (Int.fdiv (IntKind.wrap IntKind.u64 (IntKind.wrap IntKind.u64 (IntKind.wrap IntKind.u64 (IntKind.wrap IntKind.u64 (IntKind.wrap IntKind.u64 (IntKind.wrap IntKind.u64 (IntKind.wrap IntKind.u64 (↑(BitVec.toNat (BitVec.ofInt (IntKind.bits IntKind.u64) (IntKind.wrap IntKind.u64 (hi * (2 : Int) ^ min (Int.toNat (IntKind.wrap IntKind.u64 (val (math_bits_LeadingZeros64 y_)))) (IntKind.bits IntKind.u64))) ||| BitVec.ofInt (IntKind.bits IntKind.u64) (Int.fdiv lo ((2 : Int) ^ min (Int.toNat (IntKind.wrap IntKind.u64 ((64 : Int) - IntKind.wrap IntKind.u64 (val (math_bits_LeadingZeros64 y_))))) (IntKind.bits IntKind.u64))))) : Int) * (4294967296 : Int)) + Int.fdiv (IntKind.wrap IntKind.u64 (lo * (2 : Int) ^ min (Int.toNat (IntKind.wrap IntKind.u64 (val (math_bits_LeadingZeros64 y_)))) (IntKind.bits IntKind.u64))) ((2 : Int) ^ min (32 : Nat) (IntKind.bits IntKind.u64))) - IntKind.wrap IntKind.u64 (v1.1 * IntKind.wrap IntKind.u64 (y_ * (2 : Int) ^ min (Int.toNat (IntKind.wrap IntKind.u64 (val (math_bits_LeadingZeros64 y_)))) (IntKind.bits IntKind.u64)))) * (4294967296 : Int)) + IntKind.wrap IntKind.u64 (↑(BitVec.toNat (BitVec.ofInt (IntKind.bits IntKind.u64) (IntKind.wrap IntKind.u64 (lo * (2 : Int) ^ min (Int.toNat (IntKind.wrap IntKind.u64 (val (math_bits_LeadingZeros64 y_)))) (IntKind.bits IntKind.u64))) &&& BitVec.ofInt (IntKind.bits IntKind.u64) (4294967295 : Int))) : Int)) - IntKind.wrap IntKind.u64 (IntKind.wrap IntKind.u64 (v1.2.1.2 - (1 : Int)) * IntKind.wrap IntKind.u64 (y_ * (2 : Int) ^ min (Int.toNat (IntKind.wrap IntKind.u64 (val (math_bits_LeadingZeros64 y_)))) (IntKind.bits IntKind.u64))))) ((2 : Int) ^ min (Int.toNat (IntKind.wrap IntKind.u64 (val (math_bits_LeadingZeros64 y_)))) (IntKind.bits IntKind.u64)) = r.2) ∧
   True))))))
   ((∃ (v2 : Int × (Int × Int) × Nat), (Ob ((Option.bind (iter (math_bits_Div64_b1 lo y_ (val (math_bits_LeadingZeros64 y_))) v2.2.2 v2.2.1) fun y0 => Option.bind (math_bits_Div64_r1 hi lo y_ v2.1 (val (math_bits_LeadingZeros64 y_)) y0) some) = some r) ∧
   (Ob (v2.2.2 < v1.2.2) ∧
   (Ob (IntKind.wrap IntKind.u64 (y_ * (2 : Int) ^ min (Int.toNat (IntKind.wrap IntKind.u64 (val (math_bits_LeadingZeros64 y_)))) (IntKind.bits IntKind.u64)) = IntKind.wrap IntKind.u64 (y_ * (2 : Int) ^ min (Int.toNat (IntKind.wrap IntKind.u64 (val (math_bits_LeadingZeros64 y_)))) (IntKind.bits IntKind.u64))) ∧
   (Ob (IntKind.wrap IntKind.u64 (val (math_bits_LeadingZeros64 y_)) = IntKind.wrap IntKind.u64 (val (math_bits_LeadingZeros64 y_))) ∧
   (Ob (Int.fdiv (IntKind.wrap IntKind.u64 (y_ * (2 : Int) ^ min (Int.toNat (IntKind.wrap IntKind.u64 (val (math_bits_LeadingZeros64 y_)))) (IntKind.bits IntKind.u64))) ((2 : Int) ^ min (32 : Nat) (IntKind.bits IntKind.u64)) = Int.fdiv (IntKind.wrap IntKind.u64 (y_ * (2 : Int) ^ min (Int.toNat (IntKind.wrap IntKind.u64 (val (math_bits_LeadingZeros64 y_)))) (IntKind.bits IntKind.u64))) ((2 : Int) ^ min (32 : Nat) (IntKind.bits IntKind.u64))) ∧
   (Ob (IntKind.wrap IntKind.u64 (↑(BitVec.toNat (BitVec.ofInt (IntKind.bits IntKind.u64) (IntKind.wrap IntKind.u64 (y_ * (2 : Int) ^ min (Int.toNat (IntKind.wrap IntKind.u64 (val (math_bits_LeadingZeros64 y_)))) (IntKind.bits IntKind.u64))) &&& BitVec.ofInt (IntKind.bits IntKind.u64) (4294967295 : Int))) : Int) = IntKind.wrap IntKind.u64 (↑(BitVec.toNat (BitVec.ofInt (IntKind.bits IntKind.u64) (IntKind.wrap IntKind.u64 (y_ * (2 : Int) ^ min (Int.toNat (IntKind.wrap IntKind.u64 (val (math_bits_LeadingZeros64 y_)))) (IntKind.bits IntKind.u64))) &&& BitVec.ofInt (IntKind.bits IntKind.u64) (4294967295 : Int))) : Int)) ∧
   (Ob (IntKind.wrap IntKind.u64 (↑(BitVec.toNat (BitVec.ofInt (IntKind.bits IntKind.u64) (IntKind.wrap IntKind.u64 (lo * (2 : Int) ^ min (Int.toNat (IntKind.wrap IntKind.u64 (val (math_bits_LeadingZeros64 y_)))) (IntKind.bits IntKind.u64))) &&& BitVec.ofInt (IntKind.bits IntKind.u64) (4294967295 : Int))) : Int) = IntKind.wrap IntKind.u64 (↑(BitVec.toNat (BitVec.ofInt (IntKind.bits IntKind.u64) (IntKind.wrap IntKind.u64 (lo * (2 : Int) ^ min (Int.toNat (IntKind.wrap IntKind.u64 (val (math_bits_LeadingZeros64 y_)))) (IntKind.bits IntKind.u64))) &&& BitVec.ofInt (IntKind.bits IntKind.u64) (4294967295 : Int))) : Int)) ∧
   (Ob (v1.1 = v2.1) ∧
   (Ob (IntKind.wrap IntKind.u64 (v1.2.1.1 + Int.fdiv (IntKind.wrap IntKind.u64 (y_ * (2 : Int) ^ min (Int.toNat (IntKind.wrap IntKind.u64 (val (math_bits_LeadingZeros64 y_)))) (IntKind.bits IntKind.u64))) ((2 : Int) ^ min (32 : Nat) (IntKind.bits IntKind.u64))) = v2.2.1.1) ∧
   (Ob (IntKind.wrap IntKind.u64 (IntKind.wrap IntKind.u64 (IntKind.wrap IntKind.u64 (IntKind.wrap IntKind.u64 (↑(BitVec.toNat (BitVec.ofInt (IntKind.bits IntKind.u64) (IntKind.wrap IntKind.u64 (hi * (2 : Int) ^ min (Int.toNat (IntKind.wrap IntKind.u64 (val (math_bits_LeadingZeros64 y_)))) (IntKind.bits IntKind.u64))) ||| BitVec.ofInt (IntKind.bits IntKind.u64) (Int.fdiv lo ((2 : Int) ^ min (Int.toNat (IntKind.wrap IntKind.u64 ((64 : Int) - IntKind.wrap IntKind.u64 (val (math_bits_LeadingZeros64 y_))))) (IntKind.bits IntKind.u64))))) : Int) * (4294967296 : Int)) + Int.fdiv (IntKind.wrap IntKind.u64 (lo * (2 : Int) ^ min (Int.toNat (IntKind.wrap IntKind.u64 (val (math_bits_LeadingZeros64 y_)))) (IntKind.bits IntKind.u64))) ((2 : Int) ^ min (32 : Nat) (IntKind.bits IntKind.u64))) - IntKind.wrap IntKind.u64 (v1.1 * IntKind.wrap IntKind.u64 (y_ * (2 : Int) ^ min (Int.toNat (IntKind.wrap IntKind.u64 (val (math_bits_LeadingZeros64 y_)))) (IntKind.bits IntKind.u64)))) = IntKind.wrap IntKind.u64 (IntKind.wrap IntKind.u64 (IntKind.wrap IntKind.u64 (IntKind.wrap IntKind.u64 (↑(BitVec.toNat (BitVec.ofInt (IntKind.bits IntKind.u64) (IntKind.wrap IntKind.u64 (hi * (2 : Int) ^ min (Int.toNat (IntKind.wrap IntKind.u64 (val (math_bits_LeadingZeros64 y_)))) (IntKind.bits IntKind.u64))) ||| BitVec.ofInt (IntKind.bits IntKind.u64) (Int.fdiv lo ((2 : Int) ^ min (Int.toNat (IntKind.wrap IntKind.u64 ((64 : Int) - IntKind.wrap IntKind.u64 (val (math_bits_LeadingZeros64 y_))))) (IntKind.bits IntKind.u64))))) : Int) * (4294967296 : Int)) + Int.fdiv (IntKind.wrap IntKind.u64 (lo * (2 : Int) ^ min (Int.toNat (IntKind.wrap IntKind.u64 (val (math_bits_LeadingZeros64 y_)))) (IntKind.bits IntKind.u64))) ((2 : Int) ^ min (32 : Nat) (IntKind.bits IntKind.u64))) - IntKind.wrap IntKind.u64 (v2.1 * IntKind.wrap IntKind.u64 (y_ * (2 : Int) ^ min (Int.toNat (IntKind.wrap IntKind.u64 (val (math_bits_LeadingZeros64 y_)))) (IntKind.bits IntKind.u64))))) ∧
   (Ob (IntKind.wrap IntKind.u64 (v1.2.1.2 - (1 : Int)) = v2.2.1.2) ∧
   True))))))))))))))
   ((Ob ((0 : Int) ≤ IntKind.wrap IntKind.u64 (val (math_bits_LeadingZeros64 y_))) ∧
   (Ob (True) ∧
   (Ob (True) ∧
   (Ob (IntKind.wrap IntKind.u64 (IntKind.wrap IntKind.u64 (v1.1 * (4294967296 : Int)) + v1.2.1.2) = r.1) ∧
   (Ob (Int.fdiv (IntKind.wrap IntKind.u64 (IntKind.wrap IntKind.u64 (IntKind.wrap IntKind.u64 (IntKind.wrap IntKind.u64 (IntKind.wrap IntKind.u64 (IntKind.wrap IntKind.u64 (IntKind.wrap IntKind.u64 (↑(BitVec.toNat (BitVec.ofInt (IntKind.bits IntKind.u64) (IntKind.wrap IntKind.u64 (hi * (2 : Int) ^ min (Int.toNat (IntKind.wrap IntKind.u64 (val (math_bits_LeadingZeros64 y_)))) (IntKind.bits IntKind.u64))) ||| BitVec.ofInt (IntKind.bits IntKind.u64) (Int.fdiv lo ((2 : Int) ^ min (Int.toNat (IntKind.wrap IntKind.u64 ((64 : Int) - IntKind.wrap IntKind.u64 (val (math_bits_LeadingZeros64 y_))))) (IntKind.bits IntKind.u64))))) : Int) * (4294967296 : Int)) + Int.fdiv (IntKind.wrap IntKind.u64 (lo * (2 : Int) ^ min (Int.toNat (IntKind.wrap IntKind.u64 (val (math_bits_LeadingZeros64 y_)))) (IntKind.bits IntKind.u64))) ((2 : Int) ^ min (32 : Nat) (IntKind.bits IntKind.u64))) - IntKind.wrap IntKind.u64 (v1.1 * IntKind.wrap IntKind.u64 (y_ * (2 : Int) ^ min (Int.toNat (IntKind.wrap IntKind.u64 (val (math_bits_LeadingZeros64 y_)))) (IntKind.bits IntKind.u64)))) * (4294967296 : Int)) + IntKind.wrap IntKind.u64 (↑(BitVec.toNat (BitVec.ofInt (IntKind.bits IntKind.u64) (IntKind.wrap IntKind.u64 (lo * (2 : Int) ^ min (Int.toNat (IntKind.wrap IntKind.u64 (val (math_bits_LeadingZeros64 y_)))) (IntKind.bits IntKind.u64))) &&& BitVec.ofInt (IntKind.bits IntKind.u64) (4294967295 : Int))) : Int)) - IntKind.wrap IntKind.u64 (v1.2.1.2 * IntKind.wrap IntKind.u64 (y_ * (2 : Int) ^ min (Int.toNat (IntKind.wrap IntKind.u64 (val (math_bits_LeadingZeros64 y_)))) (IntKind.bits IntKind.u64))))) ((2 : Int) ^ min (Int.toNat (IntKind.wrap IntKind.u64 (val (math_bits_LeadingZeros64 y_)))) (IntKind.bits IntKind.u64)) = r.2) ∧
   True))))))))))))
   ((∃ (v1 : (Int × Int) × Nat), (Ob ((Option.bind (iter (math_bits_Div64_b0 lo y_ (val (math_bits_LeadingZeros64 y_))) v1.2 v1.1) fun y0 => Option.bind (math_bits_Div64_r0 hi lo y_ (val (math_bits_LeadingZeros64 y_)) y0) some) = some r) ∧
   (Ob (v1.2 < v0.2) ∧
   (Ob (IntKind.wrap IntKind.u64 (y_ * (2 : Int) ^ min (Int.toNat (IntKind.wrap IntKind.u64 (val (math_bits_LeadingZeros64 y_)))) (IntKind.bits IntKind.u64)) = IntKind.wrap IntKind.u64 (y_ * (2 : Int) ^ min (Int.toNat (IntKind.wrap IntKind.u64 (val (math_bits_LeadingZeros64 y_)))) (IntKind.bits IntKind.u64))) ∧
   (Ob (IntKind.wrap IntKind.u64 (val (math_bits_LeadingZeros64 y_)) = IntKind.wrap IntKind.u64 (val (math_bits_LeadingZeros64 y_))) ∧
   (Ob (Int.fdiv (IntKind.wrap IntKind.u64 (y_ * (2 : Int) ^ min (Int.toNat (IntKind.wrap IntKind.u64 (val (math_bits_LeadingZeros64 y_)))) (IntKind.bits IntKind.u64))) ((2 : Int) ^ min (32 : Nat) (IntKind.bits IntKind.u64)) = Int.fdiv (IntKind.wrap IntKind.u64 (y_ * (2 : Int) ^ min (Int.toNat (IntKind.wrap IntKind.u64 (val (math_bits_LeadingZeros64 y_)))) (IntKind.bits IntKind.u64))) ((2 : Int) ^ min (32 : Nat) (IntKind.bits IntKind.u64))) ∧
   (Ob (IntKind.wrap IntKind.u64 (↑(BitVec.toNat (BitVec.ofInt (IntKind.bits IntKind.u64) (IntKind.wrap IntKind.u64 (y_ * (2 : Int) ^ min (Int.toNat (IntKind.wrap IntKind.u64 (val (math_bits_LeadingZeros64 y_)))) (IntKind.bits IntKind.u64))) &&& BitVec.ofInt (IntKind.bits IntKind.u64) (4294967295 : Int))) : Int) = IntKind.wrap IntKind.u64 (↑(BitVec.toNat (BitVec.ofInt (IntKind.bits IntKind.u64) (IntKind.wrap IntKind.u64 (y_ * (2 : Int) ^ min (Int.toNat (IntKind.wrap IntKind.u64 (val (math_bits_LeadingZeros64 y_)))) (IntKind.bits IntKind.u64))) &&& BitVec.ofInt (IntKind.bits IntKind.u64) (4294967295 : Int))) : Int)) ∧
   (Ob (IntKind.wrap IntKind.u64 (↑(BitVec.toNat (BitVec.ofInt (IntKind.bits IntKind.u64) (IntKind.wrap IntKind.u64 (hi * (2 : Int) ^ min (Int.toNat (IntKind.wrap IntKind.u64 (val (math_bits_LeadingZeros64 y_)))) (IntKind.bits IntKind.u64))) ||| BitVec.ofInt (IntKind.bits IntKind.u64) (Int.fdiv lo ((2 : Int) ^ min (Int.toNat (IntKind.wrap IntKind.u64 ((64 : Int) - IntKind.wrap IntKind.u64 (val (math_bits_LeadingZeros64 y_))))) (IntKind.bits IntKind.u64))))) : Int) = IntKind.wrap IntKind.u64 (↑(BitVec.toNat (BitVec.ofInt (IntKind.bits IntKind.u64) (IntKind.wrap IntKind.u64 (hi * (2 : Int) ^ min (Int.toNat (IntKind.wrap IntKind.u64 (val (math_bits_LeadingZeros64 y_)))) (IntKind.bits IntKind.u64))) ||| BitVec.ofInt (IntKind.bits IntKind.u64) (Int.fdiv lo ((2 : Int) ^ min (Int.toNat (IntKind.wrap IntKind.u64 ((64 : Int) - IntKind.wrap IntKind.u64 (val (math_bits_LeadingZeros64 y_))))) (IntKind.bits IntKind.u64))))) : Int)) ∧
   (Ob (Int.fdiv (IntKind.wrap IntKind.u64 (lo * (2 : Int) ^ min (Int.toNat (IntKind.wrap IntKind.u64 (val (math_bits_LeadingZeros64 y_)))) (IntKind.bits IntKind.u64))) ((2 : Int) ^ min (32 : Nat) (IntKind.bits IntKind.u64)) = Int.fdiv (IntKind.wrap IntKind.u64 (lo * (2 : Int) ^ min (Int.toNat (IntKind.wrap IntKind.u64 (val (math_bits_LeadingZeros64 y_)))) (IntKind.bits IntKind.u64))) ((2 : Int) ^ min (32 : Nat) (IntKind.bits IntKind.u64))) ∧
   (Ob (IntKind.wrap IntKind.u64 (↑(BitVec.toNat (BitVec.ofInt (IntKind.bits IntKind.u64) (IntKind.wrap IntKind.u64 (lo * (2 : Int) ^ min (Int.toNat (IntKind.wrap IntKind.u64 (val (math_bits_LeadingZeros64 y_)))) (IntKind.bits IntKind.u64))) &&& BitVec.ofInt (IntKind.bits IntKind.u64) (4294967295 : Int))) : Int) = IntKind.wrap IntKind.u64 (↑(BitVec.toNat (BitVec.ofInt (IntKind.bits IntKind.u64) (IntKind.wrap IntKind.u64 (lo * (2 : Int) ^ min (Int.toNat (IntKind.wrap IntKind.u64 (val (math_bits_LeadingZeros64 y_)))) (IntKind.bits IntKind.u64))) &&& BitVec.ofInt (IntKind.bits IntKind.u64) (4294967295 : Int))) : Int)) ∧
   (Ob (IntKind.wrap IntKind.u64 (v0.1.1 - (1 : Int)) = v1.1.1) ∧
   (Ob (IntKind.wrap IntKind.u64 (v0.1.2 + Int.fdiv (IntKind.wrap IntKind.u64 (y_ * (2 : Int) ^ min (Int.toNat (IntKind.wrap IntKind.u64 (val (math_bits_LeadingZeros64 y_)))) (IntKind.bits IntKind.u64))) ((2 : Int) ^ min (32 : Nat) (IntKind.bits IntKind.u64))) = v1.1.2) ∧
   True))))))))))))))
   ((Ob (Int.fdiv (IntKind.wrap IntKind.u64 (y_ * (2 : Int) ^ min (Int.toNat (IntKind.wrap IntKind.u64 (val (math_bits_LeadingZeros64 y_)))) (IntKind.bits IntKind.u64))) ((2 : Int) ^ min (32 : Nat) (IntKind.bits IntKind.u64)) ≠ (0 : Int)) ∧
   ((∃ (v1 : Int × (Int × Int) × Nat), (Ob ((Option.bind (iter (math_bits_Div64_b1 lo y_ (val (math_bits_LeadingZeros64 y_))) v1.2.2 v1.2.1) fun y0 => Option.bind (math_bits_Div64_r1 hi lo y_ v1.1 (val (math_bits_LeadingZeros64 y_)) y0) some) = some r) ∧
   (Ob (IntKind.wrap IntKind.u64 (y_ * (2 : Int) ^ min (Int.toNat (IntKind.wrap IntKind.u64 (val (math_bits_LeadingZeros64 y_)))) (IntKind.bits IntKind.u64)) = IntKind.wrap IntKind.u64 (y_ * (2 : Int) ^ min (Int.toNat (IntKind.wrap IntKind.u64 (val (math_bits_LeadingZeros64 y_)))) (IntKind.bits IntKind.u64))) ∧
   (Ob (IntKind.wrap IntKind.u64 (val (math_bits_LeadingZeros64 y_)) = IntKind.wrap IntKind.u64 (val (math_bits_LeadingZeros64 y_))) ∧
   (Ob (Int.fdiv (IntKind.wrap IntKind.u64 (y_ * (2 : Int) ^ min (Int.toNat (IntKind.wrap IntKind.u64 (val (math_bits_LeadingZeros64 y_)))) (IntKind.bits IntKind.u64))) ((2 : Int) ^ min (32 : Nat) (IntKind.bits IntKind.u64)) = Int.fdiv (IntKind.wrap IntKind.u64 (y_ * (2 : Int) ^ min (Int.toNat (IntKind.wrap IntKind.u64 (val (math_bits_LeadingZeros64 y_)))) (IntKind.bits IntKind.u64))) ((2 : Int) ^ min (32 : Nat) (IntKind.bits IntKind.u64))) ∧
   (Ob (IntKind.wrap IntKind.u64 (↑(BitVec.toNat (BitVec.ofInt (IntKind.bits IntKind.u64) (IntKind.wrap IntKind.u64 (y_ * (2 : Int) ^ min (Int.toNat (IntKind.wrap IntKind.u64 (val (math_bits_LeadingZeros64 y_)))) (IntKind.bits IntKind.u64))) &&& BitVec.ofInt (IntKind.bits IntKind.u64) (4294967295 : Int))) : Int) = IntKind.wrap IntKind.u64 (↑(BitVec.toNat (BitVec.ofInt (IntKind.bits IntKind.u64) (IntKind.wrap IntKind.u64 (y_ * (2 : Int) ^ min (Int.toNat (IntKind.wrap IntKind.u64 (val (math_bits_LeadingZeros64 y_)))) (IntKind.bits IntKind.u64))) &&& BitVec.ofInt (IntKind.bits IntKind.u64) (4294967295 : Int))) : Int)) ∧
   (Ob (IntKind.wrap IntKind.u64 (↑(BitVec.toNat (BitVec.ofInt (IntKind.bits IntKind.u64) (IntKind.wrap IntKind.u64 (lo * (2 : Int) ^ min (Int.toNat (IntKind.wrap IntKind.u64 (val (math_bits_LeadingZeros64 y_)))) (IntKind.bits IntKind.u64))) &&& BitVec.ofInt (IntKind.bits IntKind.u64) (4294967295 : Int))) : Int) = IntKind.wrap IntKind.u64 (↑(BitVec.toNat (BitVec.ofInt (IntKind.bits IntKind.u64) (IntKind.wrap IntKind.u64 (lo * (2 : Int) ^ min (Int.toNat (IntKind.wrap IntKind.u64 (val (math_bits_LeadingZeros64 y_)))) (IntKind.bits IntKind.u64))) &&& BitVec.ofInt (IntKind.bits IntKind.u64) (4294967295 : Int))) : Int)) ∧
   (Ob (v0.1.1 = v1.1) ∧
   (Ob (IntKind.wrap IntKind.u64 (IntKind.wrap IntKind.u64 (IntKind.wrap IntKind.u64 (IntKind.wrap IntKind.u64 (IntKind.wrap IntKind.u64 (↑(BitVec.toNat (BitVec.ofInt (IntKind.bits IntKind.u64) (IntKind.wrap IntKind.u64 (hi * (2 : Int) ^ min (Int.toNat (IntKind.wrap IntKind.u64 (val (math_bits_LeadingZeros64 y_)))) (IntKind.bits IntKind.u64))) ||| BitVec.ofInt (IntKind.bits IntKind.u64) (Int.fdiv lo ((2 : Int) ^ min (Int.toNat (IntKind.wrap IntKind.u64 ((64 : Int) - IntKind.wrap IntKind.u64 (val (math_bits_LeadingZeros64 y_))))) (IntKind.bits IntKind.u64))))) : Int) * (4294967296 : Int)) + Int.fdiv (IntKind.wrap IntKind.u64 (lo * (2 : Int) ^ min (Int.toNat (IntKind.wrap IntKind.u64 (val (math_bits_LeadingZeros64 y_)))) (IntKind.bits IntKind.u64))) ((2 : Int) ^ min (32 : Nat) (IntKind.bits IntKind.u64))) - IntKind.wrap IntKind.u64 (v0.1.1 * IntKind.wrap IntKind.u64 (y_ * (2 : Int) ^ min (Int.toNat (IntKind.wrap IntKind.u64 (val (math_bits_LeadingZeros64 y_)))) (IntKind.bits IntKind.u64)))) - IntKind.wrap IntKind.u64 (IntKind.wrap IntKind.u64 (Int.tdiv (IntKind.wrap IntKind.u64 (IntKind.wrap IntKind.u64 (IntKind.wrap IntKind.u64 (IntKind.wrap IntKind.u64 (↑(BitVec.toNat (BitVec.ofInt (IntKind.bits IntKind.u64) (IntKind.wrap IntKind.u64 (hi * (2 : Int) ^ min (Int.toNat (IntKind.wrap IntKind.u64 (val (math_bits_LeadingZeros64 y_)))) (IntKind.bits IntKind.u64))) ||| BitVec.ofInt (IntKind.bits IntKind.u64) (Int.fdiv lo ((2 : Int) ^ min (Int.toNat (IntKind.wrap IntKind.u64 ((64 : Int) - IntKind.wrap IntKind.u64 (val (math_bits_LeadingZeros64 y_))))) (IntKind.bits IntKind.u64))))) : Int) * (4294967296 : Int)) + Int.fdiv (IntKind.wrap IntKind.u64 (lo * (2 : Int) ^ min (Int.toNat (IntKind.wrap IntKind.u64 (val (math_bits_LeadingZeros64 y_)))) (IntKind.bits IntKind.u64))) ((2 : Int) ^ min (32 : Nat) (IntKind.bits IntKind.u64))) - IntKind.wrap IntKind.u64 (v0.1.1 * IntKind.wrap IntKind.u64 (y_ * (2 : Int) ^ min (Int.toNat (IntKind.wrap IntKind.u64 (val (math_bits_LeadingZeros64 y_)))) (IntKind.bits IntKind.u64))))) (Int.fdiv (IntKind.wrap IntKind.u64 (y_ * (2 : Int) ^ min (Int.toNat (IntKind.wrap IntKind.u64 (val (math_bits_LeadingZeros64 y_)))) (IntKind.bits IntKind.u64))) ((2 : Int) ^ min (32 : Nat) (IntKind.bits IntKind.u64)))) * Int.fdiv (IntKind.wrap IntKind.u64 (y_ * (2 : Int) ^ min (Int.toNat (IntKind.wrap IntKind.u64 (val (math_bits_LeadingZeros64 y_)))) (IntKind.bits IntKind.u64))) ((2 : Int) ^ min (32 : Nat) (IntKind.bits IntKind.u64)))) = v1.2.1.1) ∧
   (Ob (IntKind.wrap IntKind.u64 (IntKind.wrap IntKind.u64 (IntKind.wrap IntKind.u64 (IntKind.wrap IntKind.u64 (↑(BitVec.toNat (BitVec.ofInt (IntKind.bits IntKind.u64) (IntKind.wrap IntKind.u64 (hi * (2 : Int) ^ min (Int.toNat (IntKind.wrap IntKind.u64 (val (math_bits_LeadingZeros64 y_)))) (IntKind.bits IntKind.u64))) ||| BitVec.ofInt (IntKind.bits IntKind.u64) (Int.fdiv lo ((2 : Int) ^ min (Int.toNat (IntKind.wrap IntKind.u64 ((64 : Int) - IntKind.wrap IntKind.u64 (val (math_bits_LeadingZeros64 y_))))) (IntKind.bits IntKind.u64))))) : Int) * (4294967296 : Int)) + Int.fdiv (IntKind.wrap IntKind.u64 (lo * (2 : Int) ^ min (Int.toNat (IntKind.wrap IntKind.u64 (val (math_bits_LeadingZeros64 y_)))) (IntKind.bits IntKind.u64))) ((2 : Int) ^ min (32 : Nat) (IntKind.bits IntKind.u64))) - IntKind.wrap IntKind.u64 (v0.1.1 * IntKind.wrap IntKind.u64 (y_ * (2 : Int) ^ min (Int.toNat (IntKind.wrap IntKind.u64 (val (math_bits_LeadingZeros64 y_)))) (IntKind.bits IntKind.u64)))) = IntKind.wrap IntKind.u64 (IntKind.wrap IntKind.u64 (IntKind.wrap IntKind.u64 (IntKind.wrap IntKind.u64 (↑(BitVec.toNat (BitVec.ofInt (IntKind.bits IntKind.u64) (IntKind.wrap IntKind.u64 (hi * (2 : Int) ^ min (Int.toNat (IntKind.wrap IntKind.u64 (val (math_bits_LeadingZeros64 y_)))) (IntKind.bits IntKind.u64))) ||| BitVec.ofInt (IntKind.bits IntKind.u64) (Int.fdiv lo ((2 : Int) ^ min (Int.toNat (IntKind.wrap IntKind.u64 ((64 : Int) - IntKind.wrap IntKind.u64 (val (math_bits_LeadingZeros64 y_))))) (IntKind.bits IntKind.u64))))) : Int) * (4294967296 : Int)) + Int.fdiv (IntKind.wrap IntKind.u64 (lo * (2 : Int) ^ min (Int.toNat (IntKind.wrap IntKind.u64 (val (math_bits_LeadingZeros64 y_)))) (IntKind.bits IntKind.u64))) ((2 : Int) ^ min (32 : Nat) (IntKind.bits IntKind.u64))) - IntKind.wrap IntKind.u64 (v1.1 * IntKind.wrap IntKind.u64 (y_ * (2 : Int) ^ min (Int.toNat (IntKind.wrap IntKind.u64 (val (math_bits_LeadingZeros64 y_)))) (IntKind.bits IntKind.u64))))) ∧
   (Ob (IntKind.wrap IntKind.u64 (Int.tdiv (IntKind.wrap IntKind.u64 (IntKind.wrap IntKind.u64 (IntKind.wrap IntKind.u64 (IntKind.wrap IntKind.u64 (↑(BitVec.toNat (BitVec.ofInt (IntKind.bits IntKind.u64) (IntKind.wrap IntKind.u64 (hi * (2 : Int) ^ min (Int.toNat (IntKind.wrap IntKind.u64 (val (math_bits_LeadingZeros64 y_)))) (IntKind.bits IntKind.u64))) ||| BitVec.ofInt (IntKind.bits IntKind.u64) (Int.fdiv lo ((2 : Int) ^ min (Int.toNat (IntKind.wrap IntKind.u64 ((64 : Int) - IntKind.wrap IntKind.u64 (val (math_bits_LeadingZeros64 y_))))) (IntKind.bits IntKind.u64))))) : Int) * (4294967296 : Int)) + Int.fdiv (IntKind.wrap IntKind.u64 (lo * (2 : Int) ^ min (Int.toNat (IntKind.wrap IntKind.u64 (val (math_bits_LeadingZeros64 y_)))) (IntKind.bits IntKind.u64))) ((2 : Int) ^ min (32 : Nat) (IntKind.bits IntKind.u64))) - IntKind.wrap IntKind.u64 (v0.1.1 * IntKind.wrap IntKind.u64 (y_ * (2 : Int) ^ min (Int.toNat (IntKind.wrap IntKind.u64 (val (math_bits_LeadingZeros64 y_)))) (IntKind.bits IntKind.u64))))) (Int.fdiv (IntKind.wrap IntKind.u64 (y_ * (2 : Int) ^ min (Int.toNat (IntKind.wrap IntKind.u64 (val (math_bits_LeadingZeros64 y_)))) (IntKind.bits IntKind.u64))) ((2 : Int) ^ min (32 : Nat) (IntKind.bits IntKind.u64)))) = v1.2.1.2) ∧
   True))))))))))) ∧
   (∀ (v1 : Int × (Int × Int) × Nat), ((Option.bind (iter (math_bits_Div64_b1 lo y_ (val (math_bits_LeadingZeros64 y_))) v1.2.2 v1.2.1) fun y0 => Option.bind (math_bits_Div64_r1 hi lo y_ v1.1 (val (math_bits_LeadingZeros64 y_)) y0) some) = some r →
   Br (decide (v1.2.1.2 ≥ (4294967296 : Int)))
   (Br (decide (IntKind.wrap IntKind.u64 (v1.2.1.1 + Int.fdiv (IntKind.wrap IntKind.u64 (y_ * (2 : Int) ^ min (Int.toNat (IntKind.wrap IntKind.u64 (val (math_bits_LeadingZeros64 y_)))) (IntKind.bits IntKind.u64))) ((2 : Int) ^ min (32 : Nat) (IntKind.bits IntKind.u64))) ≥ (4294967296 : Int)))
   ((Ob ((0 : Int) ≤ IntKind.wrap IntKind.u64 (val (math_bits_LeadingZeros64 y_))) ∧
   (Ob (True) ∧
   (Ob (True) ∧
   (Ob (IntKind.wrap IntKind.u64 (IntKind.wrap IntKind.u64 (v1.1 * (4294967296 : Int)) + IntKind.wrap IntKind.u64 (v1.2.1.2 - (1 : Int))) = r.1) ∧
   (Ob (Int.fdiv (IntKind.wrap IntKind.u64 (IntKind.wrap IntKind.u64 (IntKind.wrap IntKind.u64 (IntKind.wrap IntKind.u64 (IntKind.wrap IntKind.u64 (IntKind.wrap IntKind.u64 (IntKind.wrap IntKind.u64 (↑(BitVec.toNat (BitVec.ofInt (IntKind.bits IntKind.u64) (IntKind.wrap IntKind.u64 (hi * (2 : Int) ^ min (Int.toNat (IntKind.wrap IntKind.u64 (val (math_bits_LeadingZeros64 y_)))) (IntKind.bits IntKind.u64))) ||| BitVec.ofInt (IntKind.bits IntKind.u64) (Int.fdiv lo ((2 : Int) ^ min (Int.toNat (IntKind.wrap IntKind.u64 ((64 : Int) - IntKind.wrap IntKind.u64 (val (math_bits_LeadingZeros64 y_))))) (IntKind.bits IntKind.u64))))) : Int) * (4294967296 : Int)) + Int.fdiv (IntKind.wrap IntKind.u64 (lo * (2 : Int) ^ min (Int.toNat (IntKind.wrap IntKind.u64 (val (math_bits_LeadingZeros64 y_)))) (IntKind.bits IntKind.u64))) ((2 : Int) ^ min (32 : Nat) (IntKind.bits IntKind.u64))) - IntKind.wrap IntKind.u64 (v1.1 * IntKind.wrap IntKind.u64 (y_ * (2 : Int) ^ min (Int.toNat (IntKind.wrap IntKind.u64 (val (math_bits_LeadingZeros64 y_)))) (IntKind.bits IntKind.u64)))) * (4294967296 : Int)) + IntKind.wrap IntKind.u64 (↑(BitVec.toNat (BitVec.ofInt (IntKind.bits IntKind.u64) (IntKind.wrap IntKind.u64 (lo * (2 : Int) ^ min (Int.toNat (IntKind.wrap IntKind.u64 (val (math_bits_LeadingZeros64 y_)))) (IntKind.bits IntKind.u64))) &&& BitVec.ofInt (IntKind.bits IntKind.u64) (4294967295 : Int))) : Int)) - IntKind.wrap IntKind.u64 (IntKind.wrap IntKind.u64 (v1.2.1.2 - (1 : Int)) * IntKind.wrap IntKind.u64 (y_ * (2 : Int) ^ min (Int.toNat (IntKind.wrap IntKind.u64 (val (math_bits_LeadingZeros64 y_)))) (IntKind.bits IntKind.u64))))) ((2 : Int) ^ min (Int.toNat (IntKind.wrap IntKind.u64 (val (math_bits_LeadingZeros64 y_)))) (IntKind.bits IntKind.u64)) = r.2) ∧
   True))))))
   ((∃ (v2 : Int × (Int × Int) × Nat), (Ob ((Option.bind (iter (math_bits_Div64_b1 lo y_ (val (math_bits_LeadingZeros64 y_))) v2.2.2 v2.2.1) fun y0 => Option.bind (math_bits_Div64_r1 hi lo y_ v2.1 (val (math_bits_LeadingZeros64 y_)) y0) some) = some r) ∧
   (Ob (v2.2.2 < v1.2.2) ∧
   (Ob (IntKind.wrap IntKind.u64 (y_ * (2 : Int) ^ min (Int.toNat (IntKind.wrap IntKind.u64 (val (math_bits_LeadingZeros64 y_)))) (IntKind.bits IntKind.u64)) = IntKind.wrap IntKind.u64 (y_ * (2 : Int) ^ min (Int.toNat (IntKind.wrap IntKind.u64 (val (math_bits_LeadingZeros64 y_)))) (IntKind.bits IntKind.u64))) ∧
   (Ob (IntKind.wrap IntKind.u64 (val (math_bits_LeadingZeros64 y_)) = IntKind.wrap IntKind.u64 (val (math_bits_LeadingZeros64 y_))) ∧
   (Ob (Int.fdiv (IntKind.wrap IntKind.u64 (y_ * (2 : Int) ^ min (Int.toNat (IntKind.wrap IntKind.u64 (val (math_bits_LeadingZeros64 y_)))) (IntKind.bits IntKind.u64))) ((2 : Int) ^ min (32 : Nat) (IntKind.bits IntKind.u64)) = Int.fdiv (IntKind.wrap IntKind.u64 (y_ * (2 : Int) ^ min (Int.toNat (IntKind.wrap IntKind.u64 (val (math_bits_LeadingZeros64 y_)))) (IntKind.bits IntKind.u64))) ((2 : Int) ^ min (32 : Nat) (IntKind.bits IntKind.u64))) ∧
   (Ob (IntKind.wrap IntKind.u64 (↑(BitVec.toNat (BitVec.ofInt (IntKind.bits IntKind.u64) (IntKind.wrap IntKind.u64 (y_ * (2 : Int) ^ min (Int.toNat (IntKind.wrap IntKind.u64 (val (math_bits_LeadingZeros64 y_)))) (IntKind.bits IntKind.u64))) &&& BitVec.ofInt (IntKind.bits IntKind.u64) (4294967295 : Int))) : Int) = IntKind.wrap IntKind.u64 (↑(BitVec.toNat (BitVec.ofInt (IntKind.bits IntKind.u64) (IntKind.wrap IntKind.u64 (y_ * (2 : Int) ^ min (Int.toNat (IntKind.wrap IntKind.u64 (val (math_bits_LeadingZeros64 y_)))) (IntKind.bits IntKind.u64))) &&& BitVec.ofInt (IntKind.bits IntKind.u64) (4294967295 : Int))) : Int)) ∧
   (Ob (IntKind.wrap IntKind.u64 (↑(BitVec.toNat (BitVec.ofInt (IntKind.bits IntKind.u64) (IntKind.wrap IntKind.u64 (lo * (2 : Int) ^ min (Int.toNat (IntKind.wrap IntKind.u64 (val (math_bits_LeadingZeros64 y_)))) (IntKind.bits IntKind.u64))) &&& BitVec.ofInt (IntKind.bits IntKind.u64) (4294967295 : Int))) : Int) = IntKind.wrap IntKind.u64 (↑(BitVec.toNat (BitVec.ofInt (IntKind.bits IntKind.u64) (IntKind.wrap IntKind.u64 (lo * (2 : Int) ^ min (Int.toNat (IntKind.wrap IntKind.u64 (val (math_bits_LeadingZeros64 y_)))) (IntKind.bits IntKind.u64))) &&& BitVec.ofInt (IntKind.bits IntKind.u64) (4294967295 : Int))) : Int)) ∧
   (Ob (v1.1 = v2.1) ∧
   (Ob (IntKind.wrap IntKind.u64 (v1.2.1.1 + Int.fdiv (IntKind.wrap IntKind.u64 (y_ * (2 : Int) ^ min (Int.toNat (IntKind.wrap IntKind.u64 (val (math_bits_LeadingZeros64 y_)))) (IntKind.bits IntKind.u64))) ((2 : Int) ^ min (32 : Nat) (IntKind.bits IntKind.u64))) = v2.2.1.1) ∧
   (Ob (IntKind.wrap IntKind.u64 (IntKind.wrap IntKind.u64 (IntKind.wrap IntKind.u64 (IntKind.wrap IntKind.u64 (↑(BitVec.toNat (BitVec.ofInt (IntKind.bits IntKind.u64) (IntKind.wrap IntKind.u64 (hi * (2 : Int) ^ min (Int.toNat (IntKind.wrap IntKind.u64 (val (math_bits_LeadingZeros64 y_)))) (IntKind.bits IntKind.u64))) ||| BitVec.ofInt (IntKind.bits IntKind.u64) (Int.fdiv lo ((2 : Int) ^ min (Int.toNat (IntKind.wrap IntKind.u64 ((64 : Int) - IntKind.wrap IntKind.u64 (val (math_bits_LeadingZeros64 y_))))) (IntKind.bits IntKind.u64))))) : Int) * (4294967296 : Int)) + Int.fdiv (IntKind.wrap IntKind.u64 (lo * (2 : Int) ^ min (Int.toNat (IntKind.wrap IntKind.u64 (val (math_bits_LeadingZeros64 y_)))) (IntKind.bits IntKind.u64))) ((2 : Int) ^ min (32 : Nat) (IntKind.bits IntKind.u64))) - IntKind.wrap IntKind.u64 (v1.1 * IntKind.wrap IntKind.u64 (y_ * (2 : Int) ^ min (Int.toNat (IntKind.wrap IntKind.u64 (val (math_bits_LeadingZeros64 y_)))) (IntKind.bits IntKind.u64)))) = IntKind.wrap IntKind.u64 (IntKind.wrap IntKind.u64 (IntKind.wrap IntKind.u64 (IntKind.wrap IntKind.u64 (↑(BitVec.toNat (BitVec.ofInt (IntKind.bits IntKind.u64) (IntKind.wrap IntKind.u64 (hi * (2 : Int) ^ min (Int.toNat (IntKind.wrap IntKind.u64 (val (math_bits_LeadingZeros64 y_)))) (IntKind.bits IntKind.u64))) ||| BitVec.ofInt (IntKind.bits IntKind.u64) (Int.fdiv lo ((2 : Int) ^ min (Int.toNat (IntKind.wrap IntKind.u64 ((64 : Int) - IntKind.wrap IntKind.u64 (val (math_bits_LeadingZeros64 y_))))) (IntKind.bits IntKind.u64))))) : Int) * (4294967296 : Int)) + Int.fdiv (IntKind.wrap IntKind.u64 (lo * (2 : Int) ^ min (Int.toNat (IntKind.wrap IntKind.u64 (val (math_bits_LeadingZeros64 y_)))) (IntKind.bits IntKind.u64))) ((2 : Int) ^ min (32 : Nat) (IntKind.bits IntKind.u64))) - IntKind.wrap IntKind.u64 (v2.1 * IntKind.wrap IntKind.u64 (y_ * (2 : Int) ^ min (Int.toNat (IntKind.wrap IntKind.u64 (val (math_bits_LeadingZeros64 y_)))) (IntKind.bits IntKind.u64))))) ∧
   (Ob (IntKind.wrap IntKind.u64 (v1.2.1.2 - (1 : Int)) = v2.2.1.2) ∧
   True))))))))))))))
   (Br (decide (IntKind.wrap IntKind.u64 (v1.2.1.2 * IntKind.wrap IntKind.u64 (↑(BitVec.toNat (BitVec.ofInt (IntKind.bits IntKind.u64) (IntKind.wrap IntKind.u64 (y_ * (2 : Int) ^ min (Int.toNat (IntKind.wrap IntKind.u64 (val (math_bits_LeadingZeros64 y_)))) (IntKind.bits IntKind.u64))) &&& BitVec.ofInt (IntKind.bits IntKind.u64) (4294967295 : Int))) : Int)) > IntKind.wrap IntKind.u64 (IntKind.wrap IntKind.u64 ((4294967296 : Int) * v1.2.1.1) + IntKind.wrap IntKind.u64 (↑(BitVec.toNat (BitVec.ofInt (IntKind.bits IntKind.u64) (IntKind.wrap IntKind.u64 (lo * (2 : Int) ^ min (Int.toNat (IntKind.wrap IntKind.u64 (val (math_bits_LeadingZeros64 y_)))) (IntKind.bits IntKind.u64))) &&& BitVec.ofInt (IntKind.bits IntKind.u64) (4294967295 : Int))) : Int))))
   (Br (decide (IntKind.wrap IntKind.u64 (v1.2.1.1 + Int.fdiv (IntKind.wrap IntKind.u64 (y_ * (2 : Int) ^ min (Int.toNat (IntKind.wrap IntKind.u64 (val (math_bits_LeadingZeros64 y_)))) (IntKind.bits IntKind.u64))) ((2 : Int) ^ min (32 : Nat) (IntKind.bits IntKind.u64))) ≥ (4294967296 : Int)))
   ((Ob ((0 : Int) ≤ IntKind.wrap IntKind.u64 (val (math_bits_LeadingZeros64 y_))) ∧
   (Ob (True) ∧
   (Ob (True) ∧
   (Ob (IntKind.wrap IntKind.u64 (IntKind.wrap IntKind.u64 (v1.1 * (4294967296 : Int)) + IntKind.wrap IntKind.u64 (v1.2.1.2 - (1 : Int))) = r.1) ∧
   (Ob (Int.fdiv (IntKind.wrap IntKind.u64 (IntKind.wrap IntKind.u64 (IntKind.wrap IntKind.u64 (IntKind.wrap IntKind.u64 (IntKind.wrap IntKind.u64 (IntKind.wrap IntKind.u64 (IntKind.wrap IntKind.u64 (↑(BitVec.toNat (BitVec.ofInt (IntKind.bits IntKind.u64) (IntKind.wrap IntKind.u64 (hi * (2 : Int) ^ min (Int.toNat (IntKind.wrap IntKind.u64 (val (math_bits_LeadingZeros64 y_)))) (IntKind.bits IntKind.u64))) ||| BitVec.ofInt (IntKind.bits IntKind.u64) (Int.fdiv lo ((2 : Int) ^ min (Int.toNat (IntKind.wrap IntKind.u64 ((64 : Int) - IntKind.wrap IntKind.u64 (val (math_bits_LeadingZeros64 y_))))) (IntKind.bits IntKind.u64))))) : Int) * (4294967296 : Int)) + Int.fdiv (IntKind.wrap IntKind.u64 (lo * (2 : Int) ^ min (Int.toNat (IntKind.wrap IntKind.u64 (val (math_bits_LeadingZeros64 y_)))) (IntKind.bits IntKind.u64))) ((2 : Int) ^ min (32 : Nat) (IntKind.bits IntKind.u64))) - IntKind.wrap IntKind.u64 (v1.1 * IntKind.wrap IntKind.u64 (y_ * (2 : Int) ^ min (Int.toNat (IntKind.wrap IntKind.u64 (val (math_bits_LeadingZeros64 y_)))) (IntKind.bits IntKind.u64)))) * (4294967296 : Int)) + IntKind.wrap IntKind.u64 (↑(BitVec.toNat (BitVec.ofInt (IntKind.bits IntKind.u64) (IntKind.wrap IntKind.u64 (lo * (2 : Int) ^ min (Int.toNat (IntKind.wrap IntKind.u64 (val (math_bits_LeadingZeros64 y_)))) (IntKind.bits IntKind.u64))) &&& BitVec.ofInt (IntKind.bits IntKind.u64) (4294967295 : Int))) : Int)) - IntKind.wrap IntKind.u64 (IntKind.wrap IntKind.u64 (v1.2.1.2 - (1 : Int)) * IntKind.wrap IntKind.u64 (y_ * (2 : Int) ^ min (Int.toNat (IntKind.wrap IntKind.u64 (val (math_bits_LeadingZeros64 y_)))) (IntKind.bits IntKind.u64))))) ((2 : Int) ^ min (Int.toNat (IntKind.wrap IntKind.u64 (val (math_bits_LeadingZeros64 y_)))) (IntKind.bits IntKind.u64)) = r.2) ∧
   True))))))
   ((∃ (v2 : Int × (Int × Int) × Nat), (Ob ((Option.bind (iter (math_bits_Div64_b1 lo y_ (val (math_bits_LeadingZeros64 y_))) v2.2.2 v2.2.1) fun y0 => Option.bind (math_bits_Div64_r1 hi lo y_ v2.1 (val (math_bits_LeadingZeros64 y_)) y0) some) = some r) ∧
   (Ob (v2.2.2 < v1.2.2) ∧
   (Ob (IntKind.wrap IntKind.u64 (y_ * (2 : Int) ^ min (Int.toNat (IntKind.wrap IntKind.u64 (val (math_bits_LeadingZeros64 y_)))) (IntKind.bits IntKind.u64)) = IntKind.wrap IntKind.u64 (y_ * (2 : Int) ^ min (Int.toNat (IntKind.wrap IntKind.u64 (val (math_bits_LeadingZeros64 y_)))) (IntKind.bits IntKind.u64))) ∧
   (Ob (IntKind.wrap IntKind.u64 (val (math_bits_LeadingZeros64 y_)) = IntKind.wrap IntKind.u64 (val (math_bits_LeadingZeros64 y_))) ∧
   (Ob (Int.fdiv (IntKind.wrap IntKind.u64 (y_ * (2 : Int) ^ min (Int.toNat (IntKind.wrap IntKind.u64 (val (math_bits_LeadingZeros64 y_)))) (IntKind.bits IntKind.u64))) ((2 : Int) ^ min (32 : Nat) (IntKind.bits IntKind.u64)) = Int.fdiv (IntKind.wrap IntKind.u64 (y_ * (2 : Int) ^ min (Int.toNat (IntKind.wrap IntKind.u64 (val (math_bits_LeadingZeros64 y_)))) (IntKind.bits IntKind.u64))) ((2 : Int) ^ min (32 : Nat) (IntKind.bits IntKind.u64))) ∧
   (Ob (IntKind.wrap IntKind.u64 (↑(BitVec.toNat (BitVec.ofInt (IntKind.bits IntKind.u64) (IntKind.wrap IntKind.u64 (y_ * (2 : Int) ^ min (Int.toNat (IntKind.wrap IntKind.u64 (val (math_bits_LeadingZeros64 y_)))) (IntKind.bits IntKind.u64))) &&& BitVec.ofInt (IntKind.bits IntKind.u64) (4294967295 : Int))) : Int) = IntKind.wrap IntKind.u64 (↑(BitVec.toNat (BitVec.ofInt (IntKind.bits IntKind.u64) (IntKind.wrap IntKind.u64 (y_ * (2 : Int) ^ min (Int.toNat (IntKind.wrap IntKind.u64 (val (math_bits_LeadingZeros64 y_)))) (IntKind.bits IntKind.u64))) &&& BitVec.ofInt (IntKind.bits IntKind.u64) (4294967295 : Int))) : Int)) ∧
   (Ob (IntKind.wrap IntKind.u64 (↑(BitVec.toNat (BitVec.ofInt (IntKind.bits IntKind.u64) (IntKind.wrap IntKind.u64 (lo * (2 : Int) ^ min (Int.toNat (IntKind.wrap IntKind.u64 (val (math_bits_LeadingZeros64 y_)))) (IntKind.bits IntKind.u64))) &&& BitVec.ofInt (IntKind.bits IntKind.u64) (4294967295 : Int))) : Int) = IntKind.wrap IntKind.u64 (↑(BitVec.toNat (BitVec.ofInt (IntKind.bits IntKind.u64) (IntKind.wrap IntKind.u64 (lo * (2 : Int) ^ min (Int.toNat (IntKind.wrap IntKind.u64 (val (math_bits_LeadingZeros64 y_)))) (IntKind.bits IntKind.u64))) &&& BitVec.ofInt (IntKind.bits IntKind.u64) (4294967295 : Int))) : Int)) ∧
   (Ob (v1.1 = v2.1) ∧
   (Ob (IntKind.wrap IntKind.u64 (v1.2.1.1 + Int.fdiv (IntKind.wrap IntKind.u64 (y_ * (2 : Int) ^ min (Int.toNat (IntKind.wrap IntKind.u64 (val (math_bits_LeadingZeros64 y_)))) (IntKind.bits IntKind.u64))) ((2 : Int) ^ min (32 : Nat) (IntKind.bits IntKind.u64))) = v2.2.1.1) ∧
   (Ob (IntKind.wrap IntKind.u64 (IntKind.wrap IntKind.u64 (IntKind.wrap IntKind.u64 (IntKind.wrap IntKind.u64 (↑(BitVec.toNat (BitVec.ofInt (IntKind.bits IntKind.u64) (IntKind.wrap IntKind.u64 (hi * (2 : Int) ^ min (Int.toNat (IntKind.wrap IntKind.u64 (val (math_bits_LeadingZeros64 y_)))) (IntKind.bits IntKind.u64))) ||| BitVec.ofInt (IntKind.bits IntKind.u64) (Int.fdiv lo ((2 : Int) ^ min (Int.toNat (IntKind.wrap IntKind.u64 ((64 : Int) - IntKind.wrap IntKind.u64 (val (math_bits_LeadingZeros64 y_))))) (IntKind.bits IntKind.u64))))) : Int) * (4294967296 : Int)) + Int.fdiv (IntKind.wrap IntKind.u64 (lo * (2 : Int) ^ min (Int.toNat (IntKind.wrap IntKind.u64 (val (math_bits_LeadingZeros64 y_)))) (IntKind.bits IntKind.u64))) ((2 : Int) ^ min (32 : Nat) (IntKind.bits IntKind.u64))) - IntKind.wrap IntKind.u64 (v1.1 * IntKind.wrap IntKind.u64 (y_ * (2 : Int) ^ min (Int.toNat (IntKind.wrap IntKind.u64 (val (math_bits_LeadingZeros64 y_)))) (IntKind.bits IntKind.u64)))) = IntKind.wrap IntKind.u64 (IntKind.wrap IntKind.u64 (IntKind.wrap IntKind.u64 (IntKind.wrap IntKind.u64 (↑(BitVec.toNat (BitVec.ofInt (IntKind.bits IntKind.u64) (IntKind.wrap IntKind.u64 (hi * (2 : Int) ^ min (Int.toNat (IntKind.wrap IntKind.u64 (val (math_bits_LeadingZeros64 y_)))) (IntKind.bits IntKind.u64))) ||| BitVec.ofInt (IntKind.bits IntKind.u64) (Int.fdiv lo ((2 : Int) ^ min (Int.toNat (IntKind.wrap IntKind.u64 ((64 : Int) - IntKind.wrap IntKind.u64 (val (math_bits_LeadingZeros64 y_))))) (IntKind.bits IntKind.u64))))) : Int) * (4294967296 : Int)) + Int.fdiv (IntKind.wrap IntKind.u64 (lo * (2 : Int) ^ min (Int.toNat (IntKind.wrap IntKind.u64 (val (math_bits_LeadingZeros64 y_)))) (IntKind.bits IntKind.u64))) ((2 : Int) ^ min (32 : Nat) (IntKind.bits IntKind.u64))) - IntKind.wrap IntKind.u64 (v2.1 * IntKind.wrap IntKind.u64 (y_ * (2 : Int) ^ min (Int.toNat (IntKind.wrap IntKind.u64 (val (math_bits_LeadingZeros64 y_)))) (IntKind.bits IntKind.u64))))) ∧
   (Ob (IntKind.wrap IntKind.u64 (v1.2.1.2 - (1 : Int)) = v2.2.1.2) ∧
   True))))))))))))))
   ((Ob ((0 : Int) ≤ IntKind.wrap IntKind.u64 (val (math_bits_LeadingZeros64 y_))) ∧
   (Ob (True) ∧
   (Ob (True) ∧
   (Ob (IntKind.wrap IntKind.u64 (IntKind.wrap IntKind.u64 (v1.1 * (4294967296 : Int)) + v1.2.1.2) = r.1) ∧
   (Ob (Int.fdiv (IntKind.wrap IntKind.u64 (IntKind.wrap IntKind.u64 (IntKind.wrap IntKind.u64 (IntKind.wrap IntKind.u64 (IntKind.wrap IntKind.u64 (IntKind.wrap IntKind.u64 (IntKind.wrap IntKind.u64 (↑(BitVec.toNat (BitVec.ofInt (IntKind.bits IntKind.u64) (IntKind.wrap IntKind.u64 (hi * (2 : Int) ^ min (Int.toNat (IntKind.wrap IntKind.u64 (val (math_bits_LeadingZeros64 y_)))) (IntKind.bits IntKind.u64))) ||| BitVec.ofInt (IntKind.bits IntKind.u64) (Int.fdiv lo ((2 : Int) ^ min (Int.toNat (IntKind.wrap IntKind.u64 ((64 : Int) - IntKind.wrap IntKind.u64 (val (math_bits_LeadingZeros64 y_))))) (IntKind.bits IntKind.u64))))) : Int) * (4294967296 : Int)) + Int.fdiv (IntKind.wrap IntKind.u64 (lo * (2 : Int) ^ min (Int.toNat (IntKind.wrap IntKind.u64 (val (math_bits_LeadingZeros64 y_)))) (IntKind.bits IntKind.u64))) ((2 : Int) ^ min (32 : Nat) (IntKind.bits IntKind.u64))) - IntKind.wrap IntKind.u64 (v1.1 * IntKind.wrap IntKind.u64 (y_ * (2 : Int) ^ min (Int.toNat (IntKind.wrap IntKind.u64 (val (math_bits_LeadingZeros64 y_)))) (IntKind.bits IntKind.u64)))) * (4294967296 : Int)) + IntKind.wrap IntKind.u64 (↑(BitVec.toNat (BitVec.ofInt (IntKind.bits IntKind.u64) (IntKind.wrap IntKind.u64 (lo * (2 : Int) ^ min (Int.toNat (IntKind.wrap IntKind.u64 (val (math_bits_LeadingZeros64 y_)))) (IntKind.bits IntKind.u64))) &&& BitVec.ofInt (IntKind.bits IntKind.u64) (4294967295 : Int))) : Int)) - IntKind.wrap IntKind.u64 (v1.2.1.2 * IntKind.wrap IntKind.u64 (y_ * (2 : Int) ^ min (Int.toNat (IntKind.wrap IntKind.u64 (val (math_bits_LeadingZeros64 y_)))) (IntKind.bits IntKind.u64))))) ((2 : Int) ^ min (Int.toNat (IntKind.wrap IntKind.u64 (val (math_bits_LeadingZeros64 y_)))) (IntKind.bits IntKind.u64)) = r.2) ∧
   True))))))))))))))))))))))))))))) = _) ?_
  refine br_b h (fun h => ?_) (fun h => ?_)
  · exact nomatch h
  · refine br_d h (fun h => ?_) (fun h => ?_)
    · exact nomatch h
    · refine br_b h (fun h => ?_) (fun h => ?_)
      · refine ob_s h fun h => ?_
        refine ob_s h fun h => ?_
        refine ob_t ?_
        refine ob_t ?_
        exact ret_s h (fun e => by subst e; exact (by repeat' (first | exact trivial | exact ⟨rfl⟩ | refine And.intro ?_ ?_)))
      · refine call_s h fun h => ?_
        refine ob_t ?_
        refine ob_s h fun h => ?_
        refine ob_c (p := (0 : Int) ≤ (32 : Int)) (by decide) ?_
        refine ob_s h fun h => ?_
        refine ob_s h fun h => ?_
        refine ob_s h fun h => ?_
        refine ob_c (p := (0 : Int) ≤ (32 : Int)) (by decide) ?_
        refine ob_s h fun h => ?_
        refine ⟨⟨((IntKind.wrap IntKind.u64 (Int.tdiv (IntKind.wrap IntKind.u64 (↑(BitVec.toNat (BitVec.ofInt (IntKind.bits IntKind.u64) (IntKind.wrap IntKind.u64 (hi * (2 : Int) ^ min (Int.toNat (IntKind.wrap IntKind.u64 (val (math_bits_LeadingZeros64 y_)))) (IntKind.bits IntKind.u64))) ||| BitVec.ofInt (IntKind.bits IntKind.u64) (Int.fdiv lo ((2 : Int) ^ min (Int.toNat (IntKind.wrap IntKind.u64 ((64 : Int) - IntKind.wrap IntKind.u64 (val (math_bits_LeadingZeros64 y_))))) (IntKind.bits IntKind.u64))))) : Int)) (Int.fdiv (IntKind.wrap IntKind.u64 (y_ * (2 : Int) ^ min (Int.toNat (IntKind.wrap IntKind.u64 (val (math_bits_LeadingZeros64 y_)))) (IntKind.bits IntKind.u64))) ((2 : Int) ^ min (32 : Nat) (IntKind.bits IntKind.u64)))), IntKind.wrap IntKind.u64 (IntKind.wrap IntKind.u64 (↑(BitVec.toNat (BitVec.ofInt (IntKind.bits IntKind.u64) (IntKind.wrap IntKind.u64 (hi * (2 : Int) ^ min (Int.toNat (IntKind.wrap IntKind.u64 (val (math_bits_LeadingZeros64 y_)))) (IntKind.bits IntKind.u64))) ||| BitVec.ofInt (IntKind.bits IntKind.u64) (Int.fdiv lo ((2 : Int) ^ min (Int.toNat (IntKind.wrap IntKind.u64 ((64 : Int) - IntKind.wrap IntKind.u64 (val (math_bits_LeadingZeros64 y_))))) (IntKind.bits IntKind.u64))))) : Int) - IntKind.wrap IntKind.u64 (IntKind.wrap IntKind.u64 (Int.tdiv (IntKind.wrap IntKind.u64 (↑(BitVec.toNat (BitVec.ofInt (IntKind.bits IntKind.u64) (IntKind.wrap IntKind.u64 (hi * (2 : Int) ^ min (Int.toNat (IntKind.wrap IntKind.u64 (val (math_bits_LeadingZeros64 y_)))) (IntKind.bits IntKind.u64))) ||| BitVec.ofInt (IntKind.bits IntKind.u64) (Int.fdiv lo ((2 : Int) ^ min (Int.toNat (IntKind.wrap IntKind.u64 ((64 : Int) - IntKind.wrap IntKind.u64 (val (math_bits_LeadingZeros64 y_))))) (IntKind.bits IntKind.u64))))) : Int)) (Int.fdiv (IntKind.wrap IntKind.u64 (y_ * (2 : Int) ^ min (Int.toNat (IntKind.wrap IntKind.u64 (val (math_bits_LeadingZeros64 y_)))) (IntKind.bits IntKind.u64))) ((2 : Int) ^ min (32 : Nat) (IntKind.bits IntKind.u64)))) * Int.fdiv (IntKind.wrap IntKind.u64 (y_ * (2 : Int) ^ min (Int.toNat (IntKind.wrap IntKind.u64 (val (math_bits_LeadingZeros64 y_)))) (IntKind.bits IntKind.u64))) ((2 : Int) ^ min (32 : Nat) (IntKind.bits IntKind.u64))))), big), ⟨loop_s h⟩, (by repeat' (first | exact trivial | exact ⟨rfl⟩ | refine And.intro ?_ ?_))⟩, fun z1 hz1 => ?_⟩
        obtain ⟨k1, hm1, h⟩ := iter_pos hz1
        refine br_d h (fun h => ?_) (fun h => ?_)
        · refine br_d h (fun h => ?_) (fun h => ?_)
          · have h := exit_s h
            refine ob_s h fun h => ?_
            refine ⟨⟨(IntKind.wrap IntKind.u64 ((Prod.fst z1).1 - (1 : Int)), (IntKind.wrap IntKind.u64 (IntKind.wrap IntKind.u64 (IntKind.wrap IntKind.u64 (IntKind.wrap IntKind.u64 (IntKind.wrap IntKind.u64 (↑(BitVec.toNat (BitVec.ofInt (IntKind.bits IntKind.u64) (IntKind.wrap IntKind.u64 (hi * (2 : Int) ^ min (Int.toNat (IntKind.wrap IntKind.u64 (val (math_bits_LeadingZeros64 y_)))) (IntKind.bits IntKind.u64))) ||| BitVec.ofInt (IntKind.bits IntKind.u64) (Int.fdiv lo ((2 : Int) ^ min (Int.toNat (IntKind.wrap IntKind.u64 ((64 : Int) - IntKind.wrap IntKind.u64 (val (math_bits_LeadingZeros64 y_))))) (IntKind.bits IntKind.u64))))) : Int) * (4294967296 : Int)) + Int.fdiv (IntKind.wrap IntKind.u64 (lo * (2 : Int) ^ min (Int.toNat (IntKind.wrap IntKind.u64 (val (math_bits_LeadingZeros64 y_)))) (IntKind.bits IntKind.u64))) ((2 : Int) ^ min (32 : Nat) (IntKind.bits IntKind.u64))) - IntKind.wrap IntKind.u64 (IntKind.wrap IntKind.u64 ((Prod.fst z1).1 - (1 : Int)) * IntKind.wrap IntKind.u64 (y_ * (2 : Int) ^ min (Int.toNat (IntKind.wrap IntKind.u64 (val (math_bits_LeadingZeros64 y_)))) (IntKind.bits IntKind.u64)))) - IntKind.wrap IntKind.u64 (IntKind.wrap IntKind.u64 (Int.tdiv (IntKind.wrap IntKind.u64 (IntKind.wrap IntKind.u64 (IntKind.wrap IntKind.u64 (IntKind.wrap IntKind.u64 (↑(BitVec.toNat (BitVec.ofInt (IntKind.bits IntKind.u64) (IntKind.wrap IntKind.u64 (hi * (2 : Int) ^ min (Int.toNat (IntKind.wrap IntKind.u64 (val (math_bits_LeadingZeros64 y_)))) (IntKind.bits IntKind.u64))) ||| BitVec.ofInt (IntKind.bits IntKind.u64) (Int.fdiv lo ((2 : Int) ^ min (Int.toNat (IntKind.wrap IntKind.u64 ((64 : Int) - IntKind.wrap IntKind.u64 (val (math_bits_LeadingZeros64 y_))))) (IntKind.bits IntKind.u64))))) : Int) * (4294967296 : Int)) + Int.fdiv (IntKind.wrap IntKind.u64 (lo * (2 : Int) ^ min (Int.toNat (IntKind.wrap IntKind.u64 (val (math_bits_LeadingZeros64 y_)))) (IntKind.bits IntKind.u64))) ((2 : Int) ^ min (32 : Nat) (IntKind.bits IntKind.u64))) - IntKind.wrap IntKind.u64 (IntKind.wrap IntKind.u64 ((Prod.fst z1).1 - (1 : Int)) * IntKind.wrap IntKind.u64 (y_ * (2 : Int) ^ min (Int.toNat (IntKind.wrap IntKind.u64 (val (math_bits_LeadingZeros64 y_)))) (IntKind.bits IntKind.u64))))) (Int.fdiv (IntKind.wrap IntKind.u64 (y_ * (2 : Int) ^ min (Int.toNat (IntKind.wrap IntKind.u64 (val (math_bits_LeadingZeros64 y_)))) (IntKind.bits IntKind.u64))) ((2 : Int) ^ min (32 : Nat) (IntKind.bits IntKind.u64)))) * Int.fdiv (IntKind.wrap IntKind.u64 (y_ * (2 : Int) ^ min (Int.toNat (IntKind.wrap IntKind.u64 (val (math_bits_LeadingZeros64 y_)))) (IntKind.bits IntKind.u64))) ((2 : Int) ^ min (32 : Nat) (IntKind.bits IntKind.u64)))), IntKind.wrap IntKind.u64 (Int.tdiv (IntKind.wrap IntKind.u64 (IntKind.wrap IntKind.u64 (IntKind.wrap IntKind.u64 (IntKind.wrap IntKind.u64 (↑(BitVec.toNat (BitVec.ofInt (IntKind.bits IntKind.u64) (IntKind.wrap IntKind.u64 (hi * (2 : Int) ^ min (Int.toNat (IntKind.wrap IntKind.u64 (val (math_bits_LeadingZeros64 y_)))) (IntKind.bits IntKind.u64))) ||| BitVec.ofInt (IntKind.bits IntKind.u64) (Int.fdiv lo ((2 : Int) ^ min (Int.toNat (IntKind.wrap IntKind.u64 ((64 : Int) - IntKind.wrap IntKind.u64 (val (math_bits_LeadingZeros64 y_))))) (IntKind.bits IntKind.u64))))) : Int) * (4294967296 : Int)) + Int.fdiv (IntKind.wrap IntKind.u64 (lo * (2 : Int) ^ min (Int.toNat (IntKind.wrap IntKind.u64 (val (math_bits_LeadingZeros64 y_)))) (IntKind.bits IntKind.u64))) ((2 : Int) ^ min (32 : Nat) (IntKind.bits IntKind.u64))) - IntKind.wrap IntKind.u64 (IntKind.wrap IntKind.u64 ((Prod.fst z1).1 - (1 : Int)) * IntKind.wrap IntKind.u64 (y_ * (2 : Int) ^ min (Int.toNat (IntKind.wrap IntKind.u64 (val (math_bits_LeadingZeros64 y_)))) (IntKind.bits IntKind.u64))))) (Int.fdiv (IntKind.wrap IntKind.u64 (y_ * (2 : Int) ^ min (Int.toNat (IntKind.wrap IntKind.u64 (val (math_bits_LeadingZeros64 y_)))) (IntKind.bits IntKind.u64))) ((2 : Int) ^ min (32 : Nat) (IntKind.bits IntKind.u64))))), big), ⟨loop_s h⟩, (by repeat' (first | exact trivial | exact ⟨rfl⟩ | refine And.intro ?_ ?_))⟩, fun z2 hz2 => ?_⟩
            obtain ⟨k2, hm2, h⟩ := iter_pos hz2
            refine br_d h (fun h => ?_) (fun h => ?_)
            · refine br_d h (fun h => ?_) (fun h => ?_)
              · have h := exit_s h
                refine ob_s h fun h => ?_
                refine ob_t ?_
                refine ob_t ?_
                exact ret_s h (fun e => by subst e; exact (by repeat' (first | exact trivial | exact ⟨rfl⟩ | refine And.intro ?_ ?_)))
              · exact ⟨(Prod.fst z2, (IntKind.wrap IntKind.u64 ((Prod.fst (Prod.snd z2)).1 + Int.fdiv (IntKind.wrap IntKind.u64 (y_ * (2 : Int) ^ min (Int.toNat (IntKind.wrap IntKind.u64 (val (math_bits_LeadingZeros64 y_)))) (IntKind.bits IntKind.u64))) ((2 : Int) ^ min (32 : Nat) (IntKind.bits IntKind.u64))), IntKind.wrap IntKind.u64 ((Prod.fst (Prod.snd z2)).2 - (1 : Int))), k2), ⟨next_s h⟩, ⟨lt_gs hm2.symm⟩, (by repeat' (first | exact trivial | exact ⟨rfl⟩ | refine And.intro ?_ ?_))⟩
            · refine br_d h (fun h => ?_) (fun h => ?_)
              · refine br_d h (fun h => ?_) (fun h => ?_)
                · have h := exit_s h
                  refine ob_s h fun h => ?_
                  refine ob_t ?_
                  refine ob_t ?_
                  exact ret_s h (fun e => by subst e; exact (by repeat' (first | exact trivial | exact ⟨rfl⟩ | refine And.intro ?_ ?_)))
                · exact ⟨(Prod.fst z2, (IntKind.wrap IntKind.u64 ((Prod.fst (Prod.snd z2)).1 + Int.fdiv (IntKind.wrap IntKind.u64 (y_ * (2 : Int) ^ min (Int.toNat (IntKind.wrap IntKind.u64 (val (math_bits_LeadingZeros64 y_)))) (IntKind.bits IntKind.u64))) ((2 : Int) ^ min (32 : Nat) (IntKind.bits IntKind.u64))), IntKind.wrap IntKind.u64 ((Prod.fst (Prod.snd z2)).2 - (1 : Int))), k2), ⟨next_s h⟩, ⟨lt_gs hm2.symm⟩, (by repeat' (first | exact trivial | exact ⟨rfl⟩ | refine And.intro ?_ ?_))⟩
              · have h := exit_s h
                refine ob_s h fun h => ?_
                refine ob_t ?_
                refine ob_t ?_
                exact ret_s h (fun e => by subst e; exact (by repeat' (first | exact trivial | exact ⟨rfl⟩ | refine And.intro ?_ ?_)))
          · exact ⟨((IntKind.wrap IntKind.u64 ((Prod.fst z1).1 - (1 : Int)), IntKind.wrap IntKind.u64 ((Prod.fst z1).2 + Int.fdiv (IntKind.wrap IntKind.u64 (y_ * (2 : Int) ^ min (Int.toNat (IntKind.wrap IntKind.u64 (val (math_bits_LeadingZeros64 y_)))) (IntKind.bits IntKind.u64))) ((2 : Int) ^ min (32 : Nat) (IntKind.bits IntKind.u64)))), k1), ⟨next_s h⟩, ⟨lt_gs hm1.symm⟩, (by repeat' (first | exact trivial | exact ⟨rfl⟩ | refine And.intro ?_ ?_))⟩
        · refine br_d h (fun h => ?_) (fun h => ?_)
          · refine br_d h (fun h => ?_) (fun h => ?_)
            · have h := exit_s h
              refine ob_s h fun h => ?_
              refine ⟨⟨(IntKind.wrap IntKind.u64 ((Prod.fst z1).1 - (1 : Int)), (IntKind.wrap IntKind.u64 (IntKind.wrap IntKind.u64 (IntKind.wrap IntKind.u64 (IntKind.wrap IntKind.u64 (IntKind.wrap IntKind.u64 (↑(BitVec.toNat (BitVec.ofInt (IntKind.bits IntKind.u64) (IntKind.wrap IntKind.u64 (hi * (2 : Int) ^ min (Int.toNat (IntKind.wrap IntKind.u64 (val (math_bits_LeadingZeros64 y_)))) (IntKind.bits IntKind.u64))) ||| BitVec.ofInt (IntKind.bits IntKind.u64) (Int.fdiv lo ((2 : Int) ^ min (Int.toNat (IntKind.wrap IntKind.u64 ((64 : Int) - IntKind.wrap IntKind.u64 (val (math_bits_LeadingZeros64 y_))))) (IntKind.bits IntKind.u64))))) : Int) * (4294967296 : Int)) + Int.fdiv (IntKind.wrap IntKind.u64 (lo * (2 : Int) ^ min (Int.toNat (IntKind.wrap IntKind.u64 (val (math_bits_LeadingZeros64 y_)))) (IntKind.bits IntKind.u64))) ((2 : Int) ^ min (32 : Nat) (IntKind.bits IntKind.u64))) - IntKind.wrap IntKind.u64 (IntKind.wrap IntKind.u64 ((Prod.fst z1).1 - (1 : Int)) * IntKind.wrap IntKind.u64 (y_ * (2 : Int) ^ min (Int.toNat (IntKind.wrap IntKind.u64 (val (math_bits_LeadingZeros64 y_)))) (IntKind.bits IntKind.u64)))) - IntKind.wrap IntKind.u64 (IntKind.wrap IntKind.u64 (Int.tdiv (IntKind.wrap IntKind.u64 (IntKind.wrap IntKind.u64 (IntKind.wrap IntKind.u64 (IntKind.wrap IntKind.u64 (↑(BitVec.toNat (BitVec.ofInt (IntKind.bits IntKind.u64) (IntKind.wrap IntKind.u64 (hi * (2 : Int) ^ min (Int.toNat (IntKind.wrap IntKind.u64 (val (math_bits_LeadingZeros64 y_)))) (IntKind.bits IntKind.u64))) ||| BitVec.ofInt (IntKind.bits IntKind.u64) (Int.fdiv lo ((2 : Int) ^ min (Int.toNat (IntKind.wrap IntKind.u64 ((64 : Int) - IntKind.wrap IntKind.u64 (val (math_bits_LeadingZeros64 y_))))) (IntKind.bits IntKind.u64))))) : Int) * (4294967296 : Int)) + Int.fdiv (IntKind.wrap IntKind.u64 (lo * (2 : Int) ^ min (Int.toNat (IntKind.wrap IntKind.u64 (val (math_bits_LeadingZeros64 y_)))) (IntKind.bits IntKind.u64))) ((2 : Int) ^ min (32 : Nat) (IntKind.bits IntKind.u64))) - IntKind.wrap IntKind.u64 (IntKind.wrap IntKind.u64 ((Prod.fst z1).1 - (1 : Int)) * IntKind.wrap IntKind.u64 (y_ * (2 : Int) ^ min (Int.toNat (IntKind.wrap IntKind.u64 (val (math_bits_LeadingZeros64 y_)))) (IntKind.bits IntKind.u64))))) (Int.fdiv (IntKind.wrap IntKind.u64 (y_ * (2 : Int) ^ min (Int.toNat (IntKind.wrap IntKind.u64 (val (math_bits_LeadingZeros64 y_)))) (IntKind.bits IntKind.u64))) ((2 : Int) ^ min (32 : Nat) (IntKind.bits IntKind.u64)))) * Int.fdiv (IntKind.wrap IntKind.u64 (y_ * (2 : Int) ^ min (Int.toNat (IntKind.wrap IntKind.u64 (val (math_bits_LeadingZeros64 y_)))) (IntKind.bits IntKind.u64))) ((2 : Int) ^ min (32 : Nat) (IntKind.bits IntKind.u64)))), IntKind.wrap IntKind.u64 (Int.tdiv (IntKind.wrap IntKind.u64 (IntKind.wrap IntKind.u64 (IntKind.wrap IntKind.u64 (IntKind.wrap IntKind.u64 (↑(BitVec.toNat (BitVec.ofInt (IntKind.bits IntKind.u64) (IntKind.wrap IntKind.u64 (hi * (2 : Int) ^ min (Int.toNat (IntKind.wrap IntKind.u64 (val (math_bits_LeadingZeros64 y_)))) (IntKind.bits IntKind.u64))) ||| BitVec.ofInt (IntKind.bits IntKind.u64) (Int.fdiv lo ((2 : Int) ^ min (Int.toNat (IntKind.wrap IntKind.u64 ((64 : Int) - IntKind.wrap IntKind.u64 (val (math_bits_LeadingZeros64 y_))))) (IntKind.bits IntKind.u64))))) : Int) * (4294967296 : Int)) + Int.fdiv (IntKind.wrap IntKind.u64 (lo * (2 : Int) ^ min (Int.toNat (IntKind.wrap IntKind.u64 (val (math_bits_LeadingZeros64 y_)))) (IntKind.bits IntKind.u64))) ((2 : Int) ^ min (32 : Nat) (IntKind.bits IntKind.u64))) - IntKind.wrap IntKind.u64 (IntKind.wrap IntKind.u64 ((Prod.fst z1).1 - (1 : Int)) * IntKind.wrap IntKind.u64 (y_ * (2 : Int) ^ min (Int.toNat (IntKind.wrap IntKind.u64 (val (math_bits_LeadingZeros64 y_)))) (IntKind.bits IntKind.u64))))) (Int.fdiv (IntKind.wrap IntKind.u64 (y_ * (2 : Int) ^ min (Int.toNat (IntKind.wrap IntKind.u64 (val (math_bits_LeadingZeros64 y_)))) (IntKind.bits IntKind.u64))) ((2 : Int) ^ min (32 : Nat) (IntKind.bits IntKind.u64))))), big), ⟨loop_s h⟩, (by repeat' (first | exact trivial | exact ⟨rfl⟩ | refine And.intro ?_ ?_))⟩, fun z3 hz3 => ?_⟩
              obtain ⟨k3, hm3, h⟩ := iter_pos hz3
              refine br_d h (fun h => ?_) (fun h => ?_)
              · refine br_d h (fun h => ?_) (fun h => ?_)
                · have h := exit_s h
                  refine ob_s h fun h => ?_
                  refine ob_t ?_
                  refine ob_t ?_
                  exact ret_s h (fun e => by subst e; exact (by repeat' (first | exact trivial | exact ⟨rfl⟩ | refine And.intro ?_ ?_)))
                · exact ⟨(Prod.fst z3, (IntKind.wrap IntKind.u64 ((Prod.fst (Prod.snd z3)).1 + Int.fdiv (IntKind.wrap IntKind.u64 (y_ * (2 : Int) ^ min (Int.toNat (IntKind.wrap IntKind.u64 (val (math_bits_LeadingZeros64 y_)))) (IntKind.bits IntKind.u64))) ((2 : Int) ^ min (32 : Nat) (IntKind.bits IntKind.u64))), IntKind.wrap IntKind.u64 ((Prod.fst (Prod.snd z3)).2 - (1 : Int))), k3), ⟨next_s h⟩, ⟨lt_gs hm3.symm⟩, (by repeat' (first | exact trivial | exact ⟨rfl⟩ | refine And.intro ?_ ?_))⟩
              · refine br_d h (fun h => ?_) (fun h => ?_)
                · refine br_d h (fun h => ?_) (fun h => ?_)
                  · have h := exit_s h
                    refine ob_s h fun h => ?_
                    refine ob_t ?_
                    refine ob_t ?_
                    exact ret_s h (fun e => by subst e; exact (by repeat' (first | exact trivial | exact ⟨rfl⟩ | refine And.intro ?_ ?_)))
                  · exact ⟨(Prod.fst z3, (IntKind.wrap IntKind.u64 ((Prod.fst (Prod.snd z3)).1 + Int.fdiv (IntKind.wrap IntKind.u64 (y_ * (2 : Int) ^ min (Int.toNat (IntKind.wrap IntKind.u64 (val (math_bits_LeadingZeros64 y_)))) (IntKind.bits IntKind.u64))) ((2 : Int) ^ min (32 : Nat) (IntKind.bits IntKind.u64))), IntKind.wrap IntKind.u64 ((Prod.fst (Prod.snd z3)).2 - (1 : Int))), k3), ⟨next_s h⟩, ⟨lt_gs hm3.symm⟩, (by repeat' (first | exact trivial | exact ⟨rfl⟩ | refine And.intro ?_ ?_))⟩
                · have h := exit_s h
                  refine ob_s h fun h => ?_
                  refine ob_t ?_
                  refine ob_t ?_
                  exact ret_s h (fun e => by subst e; exact (by repeat' (first | exact trivial | exact ⟨rfl⟩ | refine And.intro ?_ ?_)))
            · exact ⟨((IntKind.wrap IntKind.u64 ((Prod.fst z1).1 - (1 : Int)), IntKind.wrap IntKind.u64 ((Prod.fst z1).2 + Int.fdiv (IntKind.wrap IntKind.u64 (y_ * (2 : Int) ^ min (Int.toNat (IntKind.wrap IntKind.u64 (val (math_bits_LeadingZeros64 y_)))) (IntKind.bits IntKind.u64))) ((2 : Int) ^ min (32 : Nat) (IntKind.bits IntKind.u64)))), k1), ⟨next_s h⟩, ⟨lt_gs hm1.symm⟩, (by repeat' (first | exact trivial | exact ⟨rfl⟩ | refine And.intro ?_ ?_))⟩
          · have h := exit_s h
            refine ob_s h fun h => ?_
            refine ⟨⟨((Prod.fst z1).1, (IntKind.wrap IntKind.u64 (IntKind.wrap IntKind.u64 (IntKind.wrap IntKind.u64 (IntKind.wrap IntKind.u64 (IntKind.wrap IntKind.u64 (↑(BitVec.toNat (BitVec.ofInt (IntKind.bits IntKind.u64) (IntKind.wrap IntKind.u64 (hi * (2 : Int) ^ min (Int.toNat (IntKind.wrap IntKind.u64 (val (math_bits_LeadingZeros64 y_)))) (IntKind.bits IntKind.u64))) ||| BitVec.ofInt (IntKind.bits IntKind.u64) (Int.fdiv lo ((2 : Int) ^ min (Int.toNat (IntKind.wrap IntKind.u64 ((64 : Int) - IntKind.wrap IntKind.u64 (val (math_bits_LeadingZeros64 y_))))) (IntKind.bits IntKind.u64))))) : Int) * (4294967296 : Int)) + Int.fdiv (IntKind.wrap IntKind.u64 (lo * (2 : Int) ^ min (Int.toNat (IntKind.wrap IntKind.u64 (val (math_bits_LeadingZeros64 y_)))) (IntKind.bits IntKind.u64))) ((2 : Int) ^ min (32 : Nat) (IntKind.bits IntKind.u64))) - IntKind.wrap IntKind.u64 ((Prod.fst z1).1 * IntKind.wrap IntKind.u64 (y_ * (2 : Int) ^ min (Int.toNat (IntKind.wrap IntKind.u64 (val (math_bits_LeadingZeros64 y_)))) (IntKind.bits IntKind.u64)))) - IntKind.wrap IntKind.u64 (IntKind.wrap IntKind.u64 (Int.tdiv (IntKind.wrap IntKind.u64 (IntKind.wrap IntKind.u64 (IntKind.wrap IntKind.u64 (IntKind.wrap IntKind.u64 (↑(BitVec.toNat (BitVec.ofInt (IntKind.bits IntKind.u64) (IntKind.wrap IntKind.u64 (hi * (2 : Int) ^ min (Int.toNat (IntKind.wrap IntKind.u64 (val (math_bits_LeadingZeros64 y_)))) (IntKind.bits IntKind.u64))) ||| BitVec.ofInt (IntKind.bits IntKind.u64) (Int.fdiv lo ((2 : Int) ^ min (Int.toNat (IntKind.wrap IntKind.u64 ((64 : Int) - IntKind.wrap IntKind.u64 (val (math_bits_LeadingZeros64 y_))))) (IntKind.bits IntKind.u64))))) : Int) * (4294967296 : Int)) + Int.fdiv (IntKind.wrap IntKind.u64 (lo * (2 : Int) ^ min (Int.toNat (IntKind.wrap IntKind.u64 (val (math_bits_LeadingZeros64 y_)))) (IntKind.bits IntKind.u64))) ((2 : Int) ^ min (32 : Nat) (IntKind.bits IntKind.u64))) - IntKind.wrap IntKind.u64 ((Prod.fst z1).1 * IntKind.wrap IntKind.u64 (y_ * (2 : Int) ^ min (Int.toNat (IntKind.wrap IntKind.u64 (val (math_bits_LeadingZeros64 y_)))) (IntKind.bits IntKind.u64))))) (Int.fdiv (IntKind.wrap IntKind.u64 (y_ * (2 : Int) ^ min (Int.toNat (IntKind.wrap IntKind.u64 (val (math_bits_LeadingZeros64 y_)))) (IntKind.bits IntKind.u64))) ((2 : Int) ^ min (32 : Nat) (IntKind.bits IntKind.u64)))) * Int.fdiv (IntKind.wrap IntKind.u64 (y_ * (2 : Int) ^ min (Int.toNat (IntKind.wrap IntKind.u64 (val (math_bits_LeadingZeros64 y_)))) (IntKind.bits IntKind.u64))) ((2 : Int) ^ min (32 : Nat) (IntKind.bits IntKind.u64)))), IntKind.wrap IntKind.u64 (Int.tdiv (IntKind.wrap IntKind.u64 (IntKind.wrap IntKind.u64 (IntKind.wrap IntKind.u64 (IntKind.wrap IntKind.u64 (↑(BitVec.toNat (BitVec.ofInt (IntKind.bits IntKind.u64) (IntKind.wrap IntKind.u64 (hi * (2 : Int) ^ min (Int.toNat (IntKind.wrap IntKind.u64 (val (math_bits_LeadingZeros64 y_)))) (IntKind.bits IntKind.u64))) ||| BitVec.ofInt (IntKind.bits IntKind.u64) (Int.fdiv lo ((2 : Int) ^ min (Int.toNat (IntKind.wrap IntKind.u64 ((64 : Int) - IntKind.wrap IntKind.u64 (val (math_bits_LeadingZeros64 y_))))) (IntKind.bits IntKind.u64))))) : Int) * (4294967296 : Int)) + Int.fdiv (IntKind.wrap IntKind.u64 (lo * (2 : Int) ^ min (Int.toNat (IntKind.wrap IntKind.u64 (val (math_bits_LeadingZeros64 y_)))) (IntKind.bits IntKind.u64))) ((2 : Int) ^ min (32 : Nat) (IntKind.bits IntKind.u64))) - IntKind.wrap IntKind.u64 ((Prod.fst z1).1 * IntKind.wrap IntKind.u64 (y_ * (2 : Int) ^ min (Int.toNat (IntKind.wrap IntKind.u64 (val (math_bits_LeadingZeros64 y_)))) (IntKind.bits IntKind.u64))))) (Int.fdiv (IntKind.wrap IntKind.u64 (y_ * (2 : Int) ^ min (Int.toNat (IntKind.wrap IntKind.u64 (val (math_bits_LeadingZeros64 y_)))) (IntKind.bits IntKind.u64))) ((2 : Int) ^ min (32 : Nat) (IntKind.bits IntKind.u64))))), big), ⟨loop_s h⟩, (by repeat' (first | exact trivial | exact ⟨rfl⟩ | refine And.intro ?_ ?_))⟩, fun z4 hz4 => ?_⟩
            obtain ⟨k4, hm4, h⟩ := iter_pos hz4
            refine br_d h (fun h => ?_) (fun h => ?_)
            · refine br_d h (fun h => ?_) (fun h => ?_)
              · have h := exit_s h
                refine ob_s h fun h => ?_
                refine ob_t ?_
                refine ob_t ?_
                exact ret_s h (fun e => by subst e; exact (by repeat' (first | exact trivial | exact ⟨rfl⟩ | refine And.intro ?_ ?_)))
              · exact ⟨(Prod.fst z4, (IntKind.wrap IntKind.u64 ((Prod.fst (Prod.snd z4)).1 + Int.fdiv (IntKind.wrap IntKind.u64 (y_ * (2 : Int) ^ min (Int.toNat (IntKind.wrap IntKind.u64 (val (math_bits_LeadingZeros64 y_)))) (IntKind.bits IntKind.u64))) ((2 : Int) ^ min (32 : Nat) (IntKind.bits IntKind.u64))), IntKind.wrap IntKind.u64 ((Prod.fst (Prod.snd z4)).2 - (1 : Int))), k4), ⟨next_s h⟩, ⟨lt_gs hm4.symm⟩, (by repeat' (first | exact trivial | exact ⟨rfl⟩ | refine And.intro ?_ ?_))⟩
            · refine br_d h (fun h => ?_) (fun h => ?_)
              · refine br_d h (fun h => ?_) (fun h => ?_)
                · have h := exit_s h
                  refine ob_s h fun h => ?_
                  refine ob_t ?_
                  refine ob_t ?_
                  exact ret_s h (fun e => by subst e; exact (by repeat' (first | exact trivial | exact ⟨rfl⟩ | refine And.intro ?_ ?_)))
                · exact ⟨(Prod.fst z4, (IntKind.wrap IntKind.u64 ((Prod.fst (Prod.snd z4)).1 + Int.fdiv (IntKind.wrap IntKind.u64 (y_ * (2 : Int) ^ min (Int.toNat (IntKind.wrap IntKind.u64 (val (math_bits_LeadingZeros64 y_)))) (IntKind.bits IntKind.u64))) ((2 : Int) ^ min (32 : Nat) (IntKind.bits IntKind.u64))), IntKind.wrap IntKind.u64 ((Prod.fst (Prod.snd z4)).2 - (1 : Int))), k4), ⟨next_s h⟩, ⟨lt_gs hm4.symm⟩, (by repeat' (first | exact trivial | exact ⟨rfl⟩ | refine And.intro ?_ ?_))⟩
              · have h := exit_s h
                refine ob_s h fun h => ?_
                refine ob_t ?_
                refine ob_t ?_
                exact ret_s h (fun e => by subst e; exact (by repeat' (first | exact trivial | exact ⟨rfl⟩ | refine And.intro ?_ ?_)))
set_option maxRecDepth 100000 in
theorem math_bits_Div64_ok : SpecOK Try.prog 128 true (pureK k_math_bits_Div64 g_math_bits_Div64) := by
  refine pureK_ok (sp := (sp_135 sp0)) (fn := Try.f128) (body := bodyOf Try.f128) mixed (sp_135_ok sp0_ok) Try.func128 (by kernel_rfl) (by kernel_rfl) fun as_ ob rs h ho => ?_
  unfold g_math_bits_Div64 at h
  split at h
  · rename_i hi lo y_
    cases h
    exact ⟨Nat.le_of_ble_eq_true rfl, _, _, math_bits_Div64_vc hi lo y_ _ (ok_some ho)⟩
  · cases h
theorem sp_128_ok {sp : Specs} (h : SpecsOK Try.prog sp) : SpecsOK Try.prog (sp_128 sp) := addK_ok math_bits_Div64_ok h

/-- shoebox/filter.parts -/
def F_parts (num : Int) (den : Int) : Option (Int × Int × Bool) :=
  Option.bind (math_bits_Mul64 (IntKind.wrap IntKind.u64 num) (1048576 : Int)) fun r0 =>
  if IntKind.wrap IntKind.u64 (IntKind.wrap IntKind.u64 (IntKind.wrap IntKind.u64 (Int.fdiv (IntKind.wrap IntKind.u64 num) ((2 : Int) ^ min (32 : Nat) (IntKind.bits IntKind.u64)) * Int.fdiv (1048576 : Int) ((2 : Int) ^ min (32 : Nat) (IntKind.bits IntKind.u64))) + Int.fdiv (IntKind.wrap IntKind.u64 (IntKind.wrap IntKind.u64 (Int.fdiv (IntKind.wrap IntKind.u64 num) ((2 : Int) ^ min (32 : Nat) (IntKind.bits IntKind.u64)) * IntKind.wrap IntKind.u64 (↑(BitVec.toNat (BitVec.ofInt (IntKind.bits IntKind.u64) (1048576 : Int) &&& BitVec.ofInt (IntKind.bits IntKind.u64) (4294967295 : Int))) : Int)) + Int.fdiv (IntKind.wrap IntKind.u64 (IntKind.wrap IntKind.u64 (↑(BitVec.toNat (BitVec.ofInt (IntKind.bits IntKind.u64) (IntKind.wrap IntKind.u64 num) &&& BitVec.ofInt (IntKind.bits IntKind.u64) (4294967295 : Int))) : Int) * IntKind.wrap IntKind.u64 (↑(BitVec.toNat (BitVec.ofInt (IntKind.bits IntKind.u64) (1048576 : Int) &&& BitVec.ofInt (IntKind.bits IntKind.u64) (4294967295 : Int))) : Int))) ((2 : Int) ^ min (32 : Nat) (IntKind.bits IntKind.u64)))) ((2 : Int) ^ min (32 : Nat) (IntKind.bits IntKind.u64))) + Int.fdiv (IntKind.wrap IntKind.u64 (IntKind.wrap IntKind.u64 (↑(BitVec.toNat (BitVec.ofInt (IntKind.bits IntKind.u64) (IntKind.wrap IntKind.u64 (IntKind.wrap IntKind.u64 (Int.fdiv (IntKind.wrap IntKind.u64 num) ((2 : Int) ^ min (32 : Nat) (IntKind.bits IntKind.u64)) * IntKind.wrap IntKind.u64 (↑(BitVec.toNat (BitVec.ofInt (IntKind.bits IntKind.u64) (1048576 : Int) &&& BitVec.ofInt (IntKind.bits IntKind.u64) (4294967295 : Int))) : Int)) + Int.fdiv (IntKind.wrap IntKind.u64 (IntKind.wrap IntKind.u64 (↑(BitVec.toNat (BitVec.ofInt (IntKind.bits IntKind.u64) (IntKind.wrap IntKind.u64 num) &&& BitVec.ofInt (IntKind.bits IntKind.u64) (4294967295 : Int))) : Int) * IntKind.wrap IntKind.u64 (↑(BitVec.toNat (BitVec.ofInt (IntKind.bits IntKind.u64) (1048576 : Int) &&& BitVec.ofInt (IntKind.bits IntKind.u64) (4294967295 : Int))) : Int))) ((2 : Int) ^ min (32 : Nat) (IntKind.bits IntKind.u64)))) &&& BitVec.ofInt (IntKind.bits IntKind.u64) (4294967295 : Int))) : Int) + IntKind.wrap IntKind.u64 (IntKind.wrap IntKind.u64 (↑(BitVec.toNat (BitVec.ofInt (IntKind.bits IntKind.u64) (IntKind.wrap IntKind.u64 num) &&& BitVec.ofInt (IntKind.bits IntKind.u64) (4294967295 : Int))) : Int) * Int.fdiv (1048576 : Int) ((2 : Int) ^ min (32 : Nat) (IntKind.bits IntKind.u64))))) ((2 : Int) ^ min (32 : Nat) (IntKind.bits IntKind.u64))) ≥ IntKind.wrap IntKind.u64 den then
   some (((0 : Int), (0 : Int), false))
  else
   Option.bind (math_bits_Div64 (IntKind.wrap IntKind.u64 (IntKind.wrap IntKind.u64 (IntKind.wrap IntKind.u64 (Int.fdiv (IntKind.wrap IntKind.u64 num) ((2 : Int) ^ min (32 : Nat) (IntKind.bits IntKind.u64)) * Int.fdiv (1048576 : Int) ((2 : Int) ^ min (32 : Nat) (IntKind.bits IntKind.u64))) + Int.fdiv (IntKind.wrap IntKind.u64 (IntKind.wrap IntKind.u64 (Int.fdiv (IntKind.wrap IntKind.u64 num) ((2 : Int) ^ min (32 : Nat) (IntKind.bits IntKind.u64)) * IntKind.wrap IntKind.u64 (↑(BitVec.toNat (BitVec.ofInt (IntKind.bits IntKind.u64) (1048576 : Int) &&& BitVec.ofInt (IntKind.bits IntKind.u64) (4294967295 : Int))) : Int)) + Int.fdiv (IntKind.wrap IntKind.u64 (IntKind.wrap IntKind.u64 (↑(BitVec.toNat (BitVec.ofInt (IntKind.bits IntKind.u64) (IntKind.wrap IntKind.u64 num) &&& BitVec.ofInt (IntKind.bits IntKind.u64) (4294967295 : Int))) : Int) * IntKind.wrap IntKind.u64 (↑(BitVec.toNat (BitVec.ofInt (IntKind.bits IntKind.u64) (1048576 : Int) &&& BitVec.ofInt (IntKind.bits IntKind.u64) (4294967295 : Int))) : Int))) ((2 : Int) ^ min (32 : Nat) (IntKind.bits IntKind.u64)))) ((2 : Int) ^ min (32 : Nat) (IntKind.bits IntKind.u64))) + Int.fdiv (IntKind.wrap IntKind.u64 (IntKind.wrap IntKind.u64 (↑(BitVec.toNat (BitVec.ofInt (IntKind.bits IntKind.u64) (IntKind.wrap IntKind.u64 (IntKind.wrap IntKind.u64 (Int.fdiv (IntKind.wrap IntKind.u64 num) ((2 : Int) ^ min (32 : Nat) (IntKind.bits IntKind.u64)) * IntKind.wrap IntKind.u64 (↑(BitVec.toNat (BitVec.ofInt (IntKind.bits IntKind.u64) (1048576 : Int) &&& BitVec.ofInt (IntKind.bits IntKind.u64) (4294967295 : Int))) : Int)) + Int.fdiv (IntKind.wrap IntKind.u64 (IntKind.wrap IntKind.u64 (↑(BitVec.toNat (BitVec.ofInt (IntKind.bits IntKind.u64) (IntKind.wrap IntKind.u64 num) &&& BitVec.ofInt (IntKind.bits IntKind.u64) (4294967295 : Int))) : Int) * IntKind.wrap IntKind.u64 (↑(BitVec.toNat (BitVec.ofInt (IntKind.bits IntKind.u64) (1048576 : Int) &&& BitVec.ofInt (IntKind.bits IntKind.u64) (4294967295 : Int))) : Int))) ((2 : Int) ^ min (32 : Nat) (IntKind.bits IntKind.u64)))) &&& BitVec.ofInt (IntKind.bits IntKind.u64) (4294967295 : Int))) : Int) + IntKind.wrap IntKind.u64 (IntKind.wrap IntKind.u64 (↑(BitVec.toNat (BitVec.ofInt (IntKind.bits IntKind.u64) (IntKind.wrap IntKind.u64 num) &&& BitVec.ofInt (IntKind.bits IntKind.u64) (4294967295 : Int))) : Int) * Int.fdiv (1048576 : Int) ((2 : Int) ^ min (32 : Nat) (IntKind.bits IntKind.u64))))) ((2 : Int) ^ min (32 : Nat) (IntKind.bits IntKind.u64)))) (IntKind.wrap IntKind.u64 (IntKind.wrap IntKind.u64 num * (1048576 : Int))) (IntKind.wrap IntKind.u64 den)) fun r1 =>
   if r1.1 > (1073741824 : Int) then
   some (((0 : Int), (0 : Int), false))
   else
   if r1.2 > (0 : Int) then
   some ((IntKind.wrap IntKind.i64 r1.1, IntKind.wrap IntKind.i64 (IntKind.wrap IntKind.i64 r1.1 + (1 : Int)), decide (IntKind.wrap IntKind.i64 (IntKind.wrap IntKind.i64 r1.1 + (1 : Int)) ≤ (1073741824 : Int))))
   else
   some ((IntKind.wrap IntKind.i64 r1.1, IntKind.wrap IntKind.i64 r1.1, decide (IntKind.wrap IntKind.i64 r1.1 ≤ (1073741824 : Int))))
def g_F_parts : List A → Option (Prop × List RV)
  | [.d (.i .i64 num), .d (.i .i64 den)] => some (ok (F_parts num den), [.s [.i .i64 ((val (F_parts num den)).1), .i .i64 ((val (F_parts num den)).2.1)], .d (.b ((val (F_parts num den)).2.2))])
  | _ => none
def k_F_parts : List (Option Cont) := [none, none]
abbrev sp_99 : Specs → Specs := addK 99 true (pureK k_F_parts g_F_parts)
set_option maxRecDepth 100000 in
theorem F_parts_vc (num : Int) (den : Int) (r : Int × Int × Bool) (h : Option.bind (F_parts num den) some = some r) : runF Try.f99 ((sp_118 (sp_128 sp0))) (fun _ _ _ => none) [.d (.i .i64 num), .d (.i .i64 den)] [.s [.i .i64 r.1, .i .i64 r.2.1], .d (.b r.2.2)] := by
  refine Eq.mp (by kernel_rfl : (
  (Ob (True) ∧
   (Ob (ok (math_bits_Mul64 (IntKind.wrap IntKind.u64 num) (1048576 : Int))) ∧
   (Ob (True) ∧
   Br (decide (IntKind.wrap IntKind.u64 (IntKind.wrap IntKind.u64 (IntKind.wrap IntKind.u64 (Int.fdiv (IntKind.wrap IntKind.u64 num) ((2 : Int) ^ min (32 : Nat) (IntKind.bits IntKind.u64)) * Int.fdiv (1048576 : Int) ((2 : Int) ^ min (32 : Nat) (IntKind.bits IntKind.u64))) + Int.fdiv (IntKind.wrap IntKind.u64 (IntKind.wrap IntKind.u64 (Int.fdiv (IntKind.wrap IntKind.u64 num) ((2 : Int) ^ min (32 : Nat) (IntKind.bits IntKind.u64)) * IntKind.wrap IntKind.u64 (↑(BitVec.toNat (BitVec.ofInt (IntKind.bits IntKind.u64) (1048576 : Int) &&& BitVec.ofInt (IntKind.bits IntKind.u64) (4294967295 : Int))) : Int)) + Int.fdiv (IntKind.wrap IntKind.u64 (IntKind.wrap IntKind.u64 (↑(BitVec.toNat (BitVec.ofInt (IntKind.bits IntKind.u64) (IntKind.wrap IntKind.u64 num) &&& BitVec.ofInt (IntKind.bits IntKind.u64) (4294967295 : Int))) : Int) * IntKind.wrap IntKind.u64 (↑(BitVec.toNat (BitVec.ofInt (IntKind.bits IntKind.u64) (1048576 : Int) &&& BitVec.ofInt (IntKind.bits IntKind.u64) (4294967295 : Int))) : Int))) ((2 : Int) ^ min (32 : Nat) (IntKind.bits IntKind.u64)))) ((2 : Int) ^ min (32 : Nat) (IntKind.bits IntKind.u64))) + Int.fdiv (IntKind.wrap IntKind.u64 (IntKind.wrap IntKind.u64 (↑(BitVec.toNat (BitVec.ofInt (IntKind.bits IntKind.u64) (IntKind.wrap IntKind.u64 (IntKind.wrap IntKind.u64 (Int.fdiv (IntKind.wrap IntKind.u64 num) ((2 : Int) ^ min (32 : Nat) (IntKind.bits IntKind.u64)) * IntKind.wrap IntKind.u64 (↑(BitVec.toNat (BitVec.ofInt (IntKind.bits IntKind.u64) (1048576 : Int) &&& BitVec.ofInt (IntKind.bits IntKind.u64) (4294967295 : Int))) : Int)) + Int.fdiv (IntKind.wrap IntKind.u64 (IntKind.wrap IntKind.u64 (↑(BitVec.toNat (BitVec.ofInt (IntKind.bits IntKind.u64) (IntKind.wrap IntKind.u64 num) &&& BitVec.ofInt (IntKind.bits IntKind.u64) (4294967295 : Int))) : Int) * IntKind.wrap IntKind.u64 (↑(BitVec.toNat (BitVec.ofInt (IntKind.bits IntKind.u64) (1048576 : Int) &&& BitVec.ofInt (IntKind.bits IntKind.u64) (4294967295 : Int))) : Int))) ((2 : Int) ^ min (32 : Nat) (IntKind.bits IntKind.u64)))) &&& BitVec.ofInt (IntKind.bits IntKind.u64) (4294967295 : Int))) : Int) + IntKind.wrap IntKind.u64 (IntKind.wrap IntKind.u64 (↑(BitVec.toNat (BitVec.ofInt (IntKind.bits IntKind.u64) (IntKind.wrap IntKind.u64 num) &&& BitVec.ofInt (IntKind.bits IntKind.u64) (4294967295 : Int))) : Int) * Int.fdiv (1048576 : Int) ((2 : Int) ^ min (32 : Nat) (IntKind.bits IntKind.u64))))) ((2 : Int) ^ min (32 : Nat) (IntKind.bits IntKind.u64))) ≥ IntKind.wrap IntKind.u64 den))
   ((Ob (True) ∧
   (Ob (True) ∧
   (Ob ((0 : Int) = r.1) ∧
   (Ob ((0 : Int) = r.2.1) ∧
   (Ob (false = r.2.2) ∧
   True))))))
   ((Ob (True) ∧
   (Ob (ok (math_bits_Div64 (IntKind.wrap IntKind.u64 (IntKind.wrap IntKind.u64 (IntKind.wrap IntKind.u64 (Int.fdiv (IntKind.wrap IntKind.u64 num) ((2 : Int) ^ min (32 : Nat) (IntKind.bits IntKind.u64)) * Int.fdiv (1048576 : Int) ((2 : Int) ^ min (32 : Nat) (IntKind.bits IntKind.u64))) + Int.fdiv (IntKind.wrap IntKind.u64 (IntKind.wrap IntKind.u64 (Int.fdiv (IntKind.wrap IntKind.u64 num) ((2 : Int) ^ min (32 : Nat) (IntKind.bits IntKind.u64)) * IntKind.wrap IntKind.u64 (↑(BitVec.toNat (BitVec.ofInt (IntKind.bits IntKind.u64) (1048576 : Int) &&& BitVec.ofInt (IntKind.bits IntKind.u64) (4294967295 : Int))) : Int)) + Int.fdiv (IntKind.wrap IntKind.u64 (IntKind.wrap IntKind.u64 (↑(BitVec.toNat (BitVec.ofInt (IntKind.bits IntKind.u64) (IntKind.wrap IntKind.u64 num) &&& BitVec.ofInt (IntKind.bits IntKind.u64) (4294967295 : Int))) : Int) * IntKind.wrap IntKind.u64 (↑(BitVec.toNat (BitVec.ofInt (IntKind.bits IntKind.u64) (1048576 : Int) &&& BitVec.ofInt (IntKind.bits IntKind.u64) (4294967295 : Int))) : Int))) ((2 : Int) ^ min (32 : Nat) (IntKind.bits IntKind.u64)))) ((2 : Int) ^ min (32 : Nat) (IntKind.bits IntKind.u64))) + Int.fdiv (IntKind.wrap IntKind.u64 (IntKind.wrap IntKind.u64 (↑(BitVec.toNat (BitVec.ofInt (IntKind.bits IntKind.u64) (IntKind.wrap IntKind.u64 (IntKind.wrap IntKind.u64 (Int.fdiv (IntKind.wrap IntKind.u64 num) ((2 : Int) ^ min (32 : Nat) (IntKind.bits IntKind.u64)) * IntKind.wrap IntKind.u64 (↑(BitVec.toNat (BitVec.ofInt (IntKind.bits IntKind.u64) (1048576 : Int) &&& BitVec.ofInt (IntKind.bits IntKind.u64) (4294967295 : Int))) : Int)) + Int.fdiv (IntKind.wrap IntKind.u64 (IntKind.wrap IntKind.u64 (↑(BitVec.toNat (BitVec.ofInt (IntKind.bits IntKind.u64) (IntKind.wrap IntKind.u64 num) &&& BitVec.ofInt (IntKind.bits IntKind.u64) (4294967295 : Int))) : Int) * IntKind.wrap IntKind.u64 (↑(BitVec.toNat (BitVec.ofInt (IntKind.bits IntKind.u64) (1048576 : Int) &&& BitVec.ofInt (IntKind.bits IntKind.u64) (4294967295 : Int))) : Int))) ((2 : Int) ^ min (32 : Nat) (IntKind.bits IntKind.u64)))) &&& BitVec.ofInt (IntKind.bits IntKind.u64) (4294967295 : Int))) : Int) + IntKind.wrap IntKind.u64 (IntKind.wrap IntKind.u64 (↑(BitVec.toNat (BitVec.ofInt (IntKind.bits IntKind.u64) (IntKind.wrap IntKind.u64 num) &&& BitVec.ofInt (IntKind.bits IntKind.u64) (4294967295 : Int))) : Int) * Int.fdiv (1048576 : Int) ((2 : Int) ^ min (32 : Nat) (IntKind.bits IntKind.u64))))) ((2 : Int) ^ min (32 : Nat) (IntKind.bits IntKind.u64)))) (IntKind.wrap IntKind.u64 (IntKind.wrap IntKind.u64 num * (1048576 : Int))) (IntKind.wrap IntKind.u64 den))) ∧
   Br (decide ((val (math_bits_Div64 (IntKind.wrap IntKind.u64 (IntKind.wrap IntKind.u64 (IntKind.wrap IntKind.u64 (Int.fdiv (IntKind.wrap IntKind.u64 num) ((2 : Int) ^ min (32 : Nat) (IntKind.bits IntKind.u64)) * Int.fdiv (1048576 : Int) ((2 : Int) ^ min (32 : Nat) (IntKind.bits IntKind.u64))) + Int.fdiv (IntKind.wrap IntKind.u64 (IntKind.wrap IntKind.u64 (Int.fdiv (IntKind.wrap IntKind.u64 num) ((2 : Int) ^ min (32 : Nat) (IntKind.bits IntKind.u64)) * IntKind.wrap IntKind.u64 (↑(BitVec.toNat (BitVec.ofInt (IntKind.bits IntKind.u64) (1048576 : Int) &&& BitVec.ofInt (IntKind.bits IntKind.u64) (4294967295 : Int))) : Int)) + Int.fdiv (IntKind.wrap IntKind.u64 (IntKind.wrap IntKind.u64 (↑(BitVec.toNat (BitVec.ofInt (IntKind.bits IntKind.u64) (IntKind.wrap IntKind.u64 num) &&& BitVec.ofInt (IntKind.bits IntKind.u64) (4294967295 : Int))) : Int) * IntKind.wrap IntKind.u64 (↑(BitVec.toNat (BitVec.ofInt (IntKind.bits IntKind.u64) (1048576 : Int) &&& BitVec.ofInt (IntKind.bits IntKind.u64) (4294967295 : Int))) : Int))) ((2 : Int) ^ min (32 : Nat) (IntKind.bits IntKind.u64)))) ((2 : Int) ^ min (32 : Nat) (IntKind.bits IntKind.u64))) + Int.fdiv (IntKind.wrap IntKind.u64 (IntKind.wrap IntKind.u64 (↑(BitVec.toNat (BitVec.ofInt (IntKind.bits IntKind.u64) (IntKind.wrap IntKind.u64 (IntKind.wrap IntKind.u64 (Int.fdiv (IntKind.wrap IntKind.u64 num) ((2 : Int) ^ min (32 : Nat) (IntKind.bits IntKind.u64)) * IntKind.wrap IntKind.u64 (↑(BitVec.toNat (BitVec.ofInt (IntKind.bits IntKind.u64) (1048576 : Int) &&& BitVec.ofInt (IntKind.bits IntKind.u64) (4294967295 : Int))) : Int)) + Int.fdiv (IntKind.wrap IntKind.u64 (IntKind.wrap IntKind.u64 (↑(BitVec.toNat (BitVec.ofInt (IntKind.bits IntKind.u64) (IntKind.wrap IntKind.u64 num) &&& BitVec.ofInt (IntKind.bits IntKind.u64) (4294967295 : Int))) : Int) * IntKind.wrap IntKind.u64 (↑(BitVec.toNat (BitVec.ofInt (IntKind.bits IntKind.u64) (1048576 : Int) &&& BitVec.ofInt (IntKind.bits IntKind.u64) (4294967295 : Int))) : Int))) ((2 : Int) ^ min (32 : Nat) (IntKind.bits IntKind.u64)))) &&& BitVec.ofInt (IntKind.bits IntKind.u64) (4294967295 : Int))) : Int) + IntKind.wrap IntKind.u64 (IntKind.wrap IntKind.u64 (↑(BitVec.toNat (BitVec.ofInt (IntKind.bits IntKind.u64) (IntKind.wrap IntKind.u64 num) &&& BitVec.ofInt (IntKind.bits IntKind.u64) (4294967295 : Int))) : Int) * Int.fdiv (1048576 : Int) ((2 : Int) ^ min (32 : Nat) (IntKind.bits IntKind.u64))))) ((2 : Int) ^ min (32 : Nat) (IntKind.bits IntKind.u64)))) (IntKind.wrap IntKind.u64 (IntKind.wrap IntKind.u64 num * (1048576 : Int))) (IntKind.wrap IntKind.u64 den))).1 > (1073741824 : Int)))
   ((Ob (True) ∧
   (Ob (True) ∧
   (Ob ((0 : Int) = r.1) ∧
   (Ob ((0 : Int) = r.2.1) ∧
   (Ob (false = r.2.2) ∧
   True))))))
   ((Ob (True) ∧
   (Ob (True) ∧
   Br (decide ((val (math_bits_Div64 (IntKind.wrap IntKind.u64 (IntKind.wrap IntKind.u64 (IntKind.wrap IntKind.u64 (Int.fdiv (IntKind.wrap IntKind.u64 num) ((2 : Int) ^ min (32 : Nat) (IntKind.bits IntKind.u64)) * Int.fdiv (1048576 : Int) ((2 : Int) ^ min (32 : Nat) (IntKind.bits IntKind.u64))) + Int.fdiv (IntKind.wrap IntKind.u64 (IntKind.wrap IntKind.u64 (Int.fdiv (IntKind.wrap IntKind.u64 num) ((2 : Int) ^ min (32 : Nat) (IntKind.bits IntKind.u64)) * IntKind.wrap IntKind.u64 (↑(BitVec.toNat (BitVec.ofInt (IntKind.bits IntKind.u64) (1048576 : Int) &&& BitVec.ofInt (IntKind.bits IntKind.u64) (4294967295 : Int))) : Int)) + Int.fdiv (IntKind.wrap IntKind.u64 (IntKind.wrap IntKind.u64 (↑(BitVec.toNat (BitVec.ofInt (IntKind.bits IntKind.u64) (IntKind.wrap IntKind.u64 num) &&& BitVec.ofInt (IntKind.bits IntKind.u64) (4294967295 : Int))) : Int) * IntKind.wrap IntKind.u64 (↑(BitVec.toNat (BitVec.ofInt (IntKind.bits IntKind.u64) (1048576 : Int) &&& BitVec.ofInt (IntKind.bits IntKind.u64) (4294967295 : Int))) : Int))) ((2 : Int) ^ min (32 : Nat) (IntKind.bits IntKind.u64)))) ((2 : Int) ^ min (32 : Nat) (IntKind.bits IntKind.u64))) + Int.fdiv (IntKind.wrap IntKind.u64 (IntKind.wrap IntKind.u64 (↑(BitVec.toNat (BitVec.ofInt (IntKind.bits IntKind.u64) (IntKind.wrap IntKind.u64 (IntKind.wrap IntKind.u64 (Int.fdiv (IntKind.wrap IntKind.u64 num) ((2 : Int) ^ min (32 : Nat) (IntKind.bits IntKind.u64)) * IntKind.wrap IntKind.u64 (↑(BitVec.toNat (BitVec.ofInt (IntKind.bits IntKind.u64) (1048576 : Int) &&& BitVec.ofInt (IntKind.bits IntKind.u64) (4294967295 : Int))) : Int)) + Int.fdiv (IntKind.wrap IntKind.u64 (IntKind.wrap IntKind.u64 (↑(BitVec.toNat (BitVec.ofInt (IntKind.bits IntKind.u64) (IntKind.wrap IntKind.u64 num) &&& BitVec.ofInt (IntKind.bits IntKind.u64) (4294967295 : Int))) : Int) * IntKind.wrap IntKind.u64 (↑(BitVec.toNat (BitVec.ofInt (IntKind.bits IntKind.u64) (1048576 : Int) &&& BitVec.ofInt (IntKind.bits IntKind.u64) (4294967295 : Int))) : Int))) ((2 : Int) ^ min (32 : Nat) (IntKind.bits IntKind.u64)))) &&& BitVec.ofInt (IntKind.bits IntKind.u64) (4294967295 : Int))) : Int) + IntKind.wrap IntKind.u64 (IntKind.wrap IntKind.u64 (↑(BitVec.toNat (BitVec.ofInt (IntKind.bits IntKind.u64) (IntKind.wrap IntKind.u64 num) &&& BitVec.ofInt (IntKind.bits IntKind.u64) (4294967295 : Int))) : Int) * Int.fdiv (1048576 : Int) ((2 : Int) ^ min (32 : Nat) (IntKind.bits IntKind.u64))))) ((2 : Int) ^ min (32 : Nat) (IntKind.bits IntKind.u64)))) (IntKind.wrap IntKind.u64 (IntKind.wrap IntKind.u64 num * (1048576 : Int))) (IntKind.wrap IntKind.u64 den))).2 > (0 : Int)))
   ((Ob (True) ∧
   (Ob (True) ∧
   (Ob (IntKind.wrap IntKind.i64 (val (math_bits_Div64 (IntKind.wrap IntKind.u64 (IntKind.wrap IntKind.u64 (IntKind.wrap IntKind.u64 (Int.fdiv (IntKind.wrap IntKind.u64 num) ((2 : Int) ^ min (32 : Nat) (IntKind.bits IntKind.u64)) * Int.fdiv (1048576 : Int) ((2 : Int) ^ min (32 : Nat) (IntKind.bits IntKind.u64))) + Int.fdiv (IntKind.wrap IntKind.u64 (IntKind.wrap IntKind.u64 (Int.fdiv (IntKind.wrap IntKind.u64 num) ((2 : Int) ^ min (32 : Nat) (IntKind.bits IntKind.u64)) * IntKind.wrap IntKind.u64 (↑(BitVec.toNat (BitVec.ofInt (IntKind.bits IntKind.u64) (1048576 : Int) &&& BitVec.ofInt (IntKind.bits IntKind.u64) (4294967295 : Int))) : Int)) + Int.fdiv (IntKind.wrap IntKind.u64 (IntKind.wrap IntKind.u64 (↑(BitVec.toNat (BitVec.ofInt (IntKind.bits IntKind.u64) (IntKind.wrap IntKind.u64 num) &&& BitVec.ofInt (IntKind.bits IntKind.u64) (4294967295 : Int))) : Int) * IntKind.wrap IntKind.u64 (↑(BitVec.toNat (BitVec.ofInt (IntKind.bits IntKind.u64) (1048576 : Int) &&& BitVec.ofInt (IntKind.bits IntKind.u64) (4294967295 : Int))) : Int))) ((2 : Int) ^ min (32 : Nat) (IntKind.bits IntKind.u64)))) ((2 : Int) ^ min (32 : Nat) (IntKind.bits IntKind.u64))) + Int.fdiv (IntKind.wrap IntKind.u64 (IntKind.wrap IntKind.u64 (↑(BitVec.toNat (BitVec.ofInt (IntKind.bits IntKind.u64) (IntKind.wrap IntKind.u64 (IntKind.wrap IntKind.u64 (Int.fdiv (IntKind.wrap IntKind.u64 num) ((2 : Int) ^ min (32 : Nat) (IntKind.bits IntKind.u64)) * IntKind.wrap IntKind.u64 (↑(BitVec.toNat (BitVec.ofInt (IntKind.bits IntKind.u64) (1048576 : Int) &&& BitVec.ofInt (IntKind.bits IntKind.u64) (4294967295 : Int))) : Int)) + Int.fdiv (IntKind.wrap IntKind.u64 (IntKind.wrap IntKind.u64 (↑(BitVec.toNat (BitVec.ofInt (IntKind.bits IntKind.u64) (IntKind.wrap IntKind.u64 num) &&& BitVec.ofInt (IntKind.bits IntKind.u64) (4294967295 : Int))) : Int) * IntKind.wrap IntKind.u64 (↑(BitVec.toNat (BitVec.ofInt (IntKind.bits IntKind.u64) (1048576 : Int) &&& BitVec.ofInt (IntKind.bits IntKind.u64) (4294967295 : Int))) : Int))) ((2 : Int) ^ min (32 : Nat) (IntKind.bits IntKind.u64)))) &&& BitVec.ofInt (IntKind.bits IntKind.u64) (4294967295 : Int))) : Int) + IntKind.wrap IntKind.u64 (IntKind.wrap IntKind.u64 (↑(BitVec.toNat (BitVec.ofInt (IntKind.bits IntKind.u64) (IntKind.wrap IntKind.u64 num) &&& BitVec.ofInt (IntKind.bits IntKind.u64) (4294967295 : Int))) : Int) * Int.fdiv (1048576 : Int) ((2 : Int) ^ min (32 : Nat) (IntKind.bits IntKind.u64))))) ((2 : Int) ^ min (32 : Nat) (IntKind.bits IntKind.u64)))) (IntKind.wrap IntKind.u64 (IntKind.wrap IntKind.u64 num * (1048576 : Int))) (IntKind.wrap IntKind.u64 den))).1 = r.1) ∧
   (Ob (IntKind.wrap IntKind.i64 (IntKind.wrap IntKind.i64 (val (math_bits_Div64 (IntKind.wrap IntKind.u64 (IntKind.wrap IntKind.u64 (IntKind.wrap IntKind.u64 (Int.fdiv (IntKind.wrap IntKind.u64 num) ((2 : Int) ^ min (32 : Nat) (IntKind.bits IntKind.u64)) * Int.fdiv (1048576 : Int) ((2 : Int) ^ min (32 : Nat) (IntKind.bits IntKind.u64))) + Int.fdiv (IntKind.wrap IntKind.u64 (IntKind.wrap IntKind.u64 (Int.fdiv (IntKind.wrap IntKind.u64 num) ((2 : Int) ^ min (32 : Nat) (IntKind.bits IntKind.u64)) * IntKind.wrap IntKind.u64 (↑(BitVec.toNat (BitVec.ofInt (IntKind.bits IntKind.u64) (1048576 : Int) &&& BitVec.ofInt (IntKind.bits IntKind.u64) (4294967295 : Int))) : Int)) + Int.fdiv (IntKind.wrap IntKind.u64 (IntKind.wrap IntKind.u64 (↑(BitVec.toNat (BitVec.ofInt (IntKind.bits IntKind.u64) (IntKind.wrap IntKind.u64 num) &&& BitVec.ofInt (IntKind.bits IntKind.u64) (4294967295 : Int))) : Int) * IntKind.wrap IntKind.u64 (↑(BitVec.toNat (BitVec.ofInt (IntKind.bits IntKind.u64) (1048576 : Int) &&& BitVec.ofInt (IntKind.bits IntKind.u64) (4294967295 : Int))) : Int))) ((2 : Int) ^ min (32 : Nat) (IntKind.bits IntKind.u64)))) ((2 : Int) ^ min (32 : Nat) (IntKind.bits IntKind.u64))) + Int.fdiv (IntKind.wrap IntKind.u64 (IntKind.wrap IntKind.u64 (↑(BitVec.toNat (BitVec.ofInt (IntKind.bits IntKind.u64) (IntKind.wrap IntKind.u64 (IntKind.wrap IntKind.u64 (Int.fdiv (IntKind.wrap IntKind.u64 num) ((2 : Int) ^ min (32 : Nat) (IntKind.bits IntKind.u64)) * IntKind.wrap IntKind.u64 (↑(BitVec.toNat (BitVec.ofInt (IntKind.bits IntKind.u64) (1048576 : Int) &&& BitVec.ofInt (IntKind.bits IntKind.u64) (4294967295 : Int))) : Int)) + Int.fdiv (IntKind.wrap IntKind.u64 (IntKind.wrap IntKind.u64 (↑(BitVec.toNat (BitVec.ofInt (IntKind.bits IntKind.u64) (IntKind.wrap IntKind.u64 num) &&& BitVec.ofInt (IntKind.bits IntKind.u64) (4294967295 : Int))) : Int) * IntKind.wrap IntKind.u64 (↑(BitVec.toNat (BitVec.ofInt (IntKind.bits IntKind.u64) (1048576 : Int) &&& BitVec.ofInt (IntKind.bits IntKind.u64) (4294967295 : Int))) : Int))) ((2 : Int) ^ min (32 : Nat) (IntKind.bits IntKind.u64)))) &&& BitVec.ofInt (IntKind.bits IntKind.u64) (4294967295 : Int))) : Int) + IntKind.wrap IntKind.u64 (IntKind.wrap IntKind.u64 (↑(BitVec.toNat (BitVec.ofInt (IntKind.bits IntKind.u64) (IntKind.wrap IntKind.u64 num) &&& BitVec.ofInt (IntKind.bits IntKind.u64) (4294967295 : Int))) : Int) * Int.fdiv (1048576 : Int) ((2 : Int) ^ min (32 : Nat) (IntKind.bits IntKind.u64))))) ((2 : Int) ^ min (32 : Nat) (IntKind.bits IntKind.u64)))) (IntKind.wrap IntKind.u64 (IntKind.wrap IntKind.u64 num * (1048576 : Int))) (IntKind.wrap IntKind.u64 den))).1 + (1 : Int)) = r.2.1) ∧
   (Ob (decide (IntKind.wrap IntKind.i64 (IntKind.wrap IntKind.i64 (val (math_bits_Div64 (IntKind.wrap IntKind.u64 (IntKind.wrap IntKind.u64 (IntKind.wrap IntKind.u64 (Int.fdiv (IntKind.wrap IntKind.u64 num) ((2 : Int) ^ min (32 : Nat) (IntKind.bits IntKind.u64)) * Int.fdiv (1048576 : Int) ((2 : Int) ^ min (32 : Nat) (IntKind.bits IntKind.u64))) + Int.fdiv (IntKind.wrap IntKind.u64 (IntKind.wrap IntKind.u64 (Int.fdiv (IntKind.wrap IntKind.u64 num) ((2 : Int) ^ min (32 : Nat) (IntKind.bits IntKind.u64)) * IntKind.wrap IntKind.u64 (↑(BitVec.toNat (BitVec.ofInt (IntKind.bits IntKind.u64) (1048576 : Int) &&& BitVec.ofInt (IntKind.bits IntKind.u64) (4294967295 : Int))) : Int)) + Int.fdiv (IntKind.wrap IntKind.u64 (IntKind.wrap IntKind.u64 (↑(BitVec.toNat (BitVec.ofInt (IntKind.bits IntKind.u64) (IntKind.wrap IntKind.u64 num) &&& BitVec.ofInt (IntKind.bits IntKind.u64) (4294967295 : Int))) : Int) * IntKind.wrap IntKind.u64 (↑(BitVec.toNat (BitVec.ofInt (IntKind.bits IntKind.u64) (1048576 : Int) &&& BitVec.ofInt (IntKind.bits IntKind.u64) (4294967295 : Int))) : Int))) ((2 : Int) ^ min (32 : Nat) (IntKind.bits IntKind.u64)))) ((2 : Int) ^ min (32 : Nat) (IntKind.bits IntKind.u64))) + Int.fdiv (IntKind.wrap IntKind.u64 (IntKind.wrap IntKind.u64 (↑(BitVec.toNat (BitVec.ofInt (IntKind.bits IntKind.u64) (IntKind.wrap IntKind.u64 (IntKind.wrap IntKind.u64 (Int.fdiv (IntKind.wrap IntKind.u64 num) ((2 : Int) ^ min (32 : Nat) (IntKind.bits IntKind.u64)) * IntKind.wrap IntKind.u64 (↑(BitVec.toNat (BitVec.ofInt (IntKind.bits IntKind.u64) (1048576 : Int) &&& BitVec.ofInt (IntKind.bits IntKind.u64) (4294967295 : Int))) : Int)) + Int.fdiv (IntKind.wrap IntKind.u64 (IntKind.wrap IntKind.u64 (↑(BitVec.toNat (BitVec.ofInt (IntKind.bits IntKind.u64) (IntKind.wrap IntKind.u64 num) &&& BitVec.ofInt (IntKind.bits IntKind.u64) (4294967295 : Int))) : Int) * IntKind.wrap IntKind.u64 (↑(BitVec.toNat (BitVec.ofInt (IntKind.bits IntKind.u64) (1048576 : Int) &&& BitVec.ofInt (IntKind.bits IntKind.u64) (4294967295 : Int))) : Int))) ((2 : Int) ^ min (32 : Nat) (IntKind.bits IntKind.u64)))) &&& BitVec.ofInt (IntKind.bits IntKind.u64) (4294967295 : Int))) : Int) + IntKind.wrap IntKind.u64 (IntKind.wrap IntKind.u64 (↑(BitVec.toNat (BitVec.ofInt (IntKind.bits IntKind.u64) (IntKind.wrap IntKind.u64 num) &&& BitVec.ofInt (IntKind.bits IntKind.u64) (4294967295 : Int))) : Int) * Int.fdiv (1048576 : Int) ((2 : Int) ^ min (32 : Nat) (IntKind.bits IntKind.u64))))) ((2 : Int) ^ min (32 : Nat) (IntKind.bits IntKind.u64)))) (IntKind.wrap IntKind.u64 (IntKind.wrap IntKind.u64 num * (1048576 : Int))) (IntKind.wrap IntKind.u64 den))).1 + (1 : Int)) ≤ (1073741824 : Int)) = r.2.2) ∧
   True))))))
   ((Ob (True) ∧
   (Ob (True) ∧
   (Ob (IntKind.wrap IntKind.i64 (val (math_bits_Div64 (IntKind.wrap IntKind.u64 (IntKind.wrap IntKind.u64 (IntKind.wrap IntKind.u64 (Int.fdiv (IntKind.wrap IntKind.u64 num) ((2 : Int) ^ min (32 : Nat) (IntKind.bits IntKind.u64)) * Int.fdiv (1048576 : Int) ((2 : Int) ^ min (32 : Nat) (IntKind.bits IntKind.u64))) + Int.fdiv (IntKind.wrap IntKind.u64 (IntKind.wrap IntKind.u64 (Int.fdiv (IntKind.wrap IntKind.u64 num) ((2 : Int) ^ min (32 : Nat) (IntKind.bits IntKind.u64)) * IntKind.wrap IntKind.u64 (↑(BitVec.toNat (BitVec.ofInt (IntKind.bits IntKind.u64) (1048576 : Int) &&& BitVec.ofInt (IntKind.bits IntKind.u64) (4294967295 : Int))) : Int)) + Int.fdiv (IntKind.wrap IntKind.u64 (IntKind.wrap IntKind.u64 (↑(BitVec.toNat (BitVec.ofInt (IntKind.bits IntKind.u64) (IntKind.wrap IntKind.u64 num) &&& BitVec.ofInt (IntKind.bits IntKind.u64) (4294967295 : Int))) : Int) * IntKind.wrap IntKind.u64 (↑(BitVec.toNat (BitVec.ofInt (IntKind.bits IntKind.u64) (1048576 : Int) &&& BitVec.ofInt (IntKind.bits IntKind.u64) (4294967295 : Int))) : Int))) ((2 : Int) ^ min (32 : Nat) (IntKind.bits IntKind.u64)))) ((2 : Int) ^ min (32 : Nat) (IntKind.bits IntKind.u64))) + Int.fdiv (IntKind.wrap IntKind.u64 (IntKind.wrap IntKind.u64 (↑(BitVec.toNat (BitVec.ofInt (IntKind.bits IntKind.u64) (IntKind.wrap IntKind.u64 (IntKind.wrap IntKind.u64 (Int.fdiv (IntKind.wrap IntKind.u64 num) ((2 : Int) ^ min (32 : Nat) (IntKind.bits IntKind.u64)) * IntKind.wrap IntKind.u64 (↑(BitVec.toNat (BitVec.ofInt (IntKind.bits IntKind.u64) (1048576 : Int) &&& BitVec.ofInt (IntKind.bits IntKind.u64) (4294967295 : Int))) : Int)) + Int.fdiv (IntKind.wrap IntKind.u64 (IntKind.wrap IntKind.u64 (↑(BitVec.toNat (BitVec.ofInt (IntKind.bits IntKind.u64) (IntKind.wrap IntKind.u64 num) &&& BitVec.ofInt (IntKind.bits IntKind.u64) (4294967295 : Int))) : Int) * IntKind.wrap IntKind.u64 (↑(BitVec.toNat (BitVec.ofInt (IntKind.bits IntKind.u64) (1048576 : Int) &&& BitVec.ofInt (IntKind.bits IntKind.u64) (4294967295 : Int))) : Int))) ((2 : Int) ^ min (32 : Nat) (IntKind.bits IntKind.u64)))) &&& BitVec.ofInt (IntKind.bits IntKind.u64) (4294967295 : Int))) : Int) + IntKind.wrap IntKind.u64 (IntKind.wrap IntKind.u64 (↑(BitVec.toNat (BitVec.ofInt (IntKind.bits IntKind.u64) (IntKind.wrap IntKind.u64 num) &&& BitVec.ofInt (IntKind.bits IntKind.u64) (4294967295 : Int))) : Int) * Int.fdiv (1048576 : Int) ((2 : Int) ^ min (32 : Nat) (IntKind.bits IntKind.u64))))) ((2 : Int) ^ min (32 : Nat) (IntKind.bits IntKind.u64)))) (IntKind.wrap IntKind.u64 (IntKind.wrap IntKind.u64 num * (1048576 : Int))) (IntKind.wrap IntKind.u64 den))).1 = r.1) ∧
   (Ob (IntKind.wrap IntKind.i64 (val (math_bits_Div64 (IntKind.wrap IntKind.u64 (IntKind.wrap IntKind.u64 (IntKind.wrap IntKind.u64 (Int.fdiv (IntKind.wrap IntKind.u64 num) ((2 : Int) ^ min (32 : Nat) (IntKind.bits IntKind.u64)) * Int.fdiv (1048576 : Int) ((2 : Int) ^ min (32 : Nat) (IntKind.bits IntKind.u64))) + Int.fdiv (IntKind.wrap IntKind.u64 (IntKind.wrap IntKind.u64 (Int.fdiv (IntKind.wrap IntKind.u64 num) ((2 : Int) ^ min (32 : Nat) (IntKind.bits IntKind.u64)) * IntKind.wrap IntKind.u64 (↑(BitVec.toNat (BitVec.ofInt (IntKind.bits IntKind.u64) (1048576 : Int) &&& BitVec.ofInt (IntKind.bits IntKind.u64) (4294967295 : Int))) : Int)) + Int.fdiv (IntKind.wrap IntKind.u64 (IntKind.wrap IntKind.u64 (↑(BitVec.toNat (BitVec.ofInt (IntKind.bits IntKind.u64) (IntKind.wrap IntKind.u64 num) &&& BitVec.ofInt (IntKind.bits IntKind.u64) (4294967295 : Int))) : Int) * IntKind.wrap IntKind.u64 (↑(BitVec.toNat (BitVec.ofInt (IntKind.bits IntKind.u64) (1048576 : Int) &&& BitVec.ofInt (IntKind.bits IntKind.u64) (4294967295 : Int))) : Int))) ((2 : Int) ^ min (32 : Nat) (IntKind.bits IntKind.u64)))) ((2 : Int) ^ min (32 : Nat) (IntKind.bits IntKind.u64))) + Int.fdiv (IntKind.wrap IntKind.u64 (IntKind.wrap IntKind.u64 (↑(BitVec.toNat (BitVec.ofInt (IntKind.bits IntKind.u64) (IntKind.wrap IntKind.u64 (IntKind.wrap IntKind.u64 (Int.fdiv (IntKind.wrap IntKind.u64 num) ((2 : Int) ^ min (32 : Nat) (IntKind.bits IntKind.u64)) * IntKind.wrap IntKind.u64 (↑(BitVec.toNat (BitVec.ofInt (IntKind.bits IntKind.u64) (1048576 : Int) &&& BitVec.ofInt (IntKind.bits IntKind.u64) (4294967295 : Int))) : Int)) + Int.fdiv (IntKind.wrap IntKind.u64 (IntKind.wrap IntKind.u64 (↑(BitVec.toNat (BitVec.ofInt (IntKind.bits IntKind.u64) (IntKind.wrap IntKind.u64 num) &&& BitVec.ofInt (IntKind.bits IntKind.u64) (4294967295 : Int))) : Int) * IntKind.wrap IntKind.u64 (↑(BitVec.toNat (BitVec.ofInt (IntKind.bits IntKind.u64) (1048576 : Int) &&& BitVec.ofInt (IntKind.bits IntKind.u64) (4294967295 : Int))) : Int))) ((2 : Int) ^ min (32 : Nat) (IntKind.bits IntKind.u64)))) &&& BitVec.ofInt (IntKind.bits IntKind.u64) (4294967295 : Int))) : Int) + IntKind.wrap IntKind.u64 (IntKind.wrap IntKind.u64 (↑(BitVec.toNat (BitVec.ofInt (IntKind.bits IntKind.u64) (IntKind.wrap IntKind.u64 num) &&& BitVec.ofInt (IntKind.bits IntKind.u64) (4294967295 : Int))) : Int) * Int.fdiv (1048576 : Int) ((2 : Int) ^ min (32 : Nat) (IntKind.bits IntKind.u64))))) ((2 : Int) ^ min (32 : Nat) (IntKind.bits IntKind.u64)))) (IntKind.wrap IntKind.u64 (IntKind.wrap IntKind.u64 num * (1048576 : Int))) (IntKind.wrap IntKind.u64 den))).1 = r.2.1) ∧
   (Ob (decide (IntKind.wrap IntKind.i64 (val (math_bits_Div64 (IntKind.wrap IntKind.u64 (IntKind.wrap IntKind.u64 (IntKind.wrap IntKind.u64 (Int.fdiv (IntKind.wrap IntKind.u64 num) ((2 : Int) ^ min (32 : Nat) (IntKind.bits IntKind.u64)) * Int.fdiv (1048576 : Int) ((2 : Int) ^ min (32 : Nat) (IntKind.bits IntKind.u64))) + Int.fdiv (IntKind.wrap IntKind.u64 (IntKind.wrap IntKind.u64 (Int.fdiv (IntKind.wrap IntKind.u64 num) ((2 : Int) ^ min (32 : Nat) (IntKind.bits IntKind.u64)) * IntKind.wrap IntKind.u64 (↑(BitVec.toNat (BitVec.ofInt (IntKind.bits IntKind.u64) (1048576 : Int) &&& BitVec.ofInt (IntKind.bits IntKind.u64) (4294967295 : Int))) : Int)) + Int.fdiv (IntKind.wrap IntKind.u64 (IntKind.wrap IntKind.u64 (↑(BitVec.toNat (BitVec.ofInt (IntKind.bits IntKind.u64) (IntKind.wrap IntKind.u64 num) &&& BitVec.ofInt (IntKind.bits IntKind.u64) (4294967295 : Int))) : Int) * IntKind.wrap IntKind.u64 (↑(BitVec.toNat (BitVec.ofInt (IntKind.bits IntKind.u64) (1048576 : Int) &&& BitVec.ofInt (IntKind.bits IntKind.u64) (4294967295 : Int))) : Int))) ((2 : Int) ^ min (32 : Nat) (IntKind.bits IntKind.u64)))) ((2 : Int) ^ min (32 : Nat) (IntKind.bits IntKind.u64))) + Int.fdiv (IntKind.wrap IntKind.u64 (IntKind.wrap IntKind.u64 (↑(BitVec.toNat (BitVec.ofInt (IntKind.bits IntKind.u64) (IntKind.wrap IntKind.u64 (IntKind.wrap IntKind.u64 (Int.fdiv (IntKind.wrap IntKind.u64 num) ((2 : Int) ^ min (32 : Nat) (IntKind.bits IntKind.u64)) * IntKind.wrap IntKind.u64 (↑(BitVec.toNat (BitVec.ofInt (IntKind.bits IntKind.u64) (1048576 : Int) &&& BitVec.ofInt (IntKind.bits IntKind.u64) (4294967295 : Int))) : Int)) + Int.fdiv (IntKind.wrap IntKind.u64 (IntKind.wrap IntKind.u64 (↑(BitVec.toNat (BitVec.ofInt (IntKind.bits IntKind.u64) (IntKind.wrap IntKind.u64 num) &&& BitVec.ofInt (IntKind.bits IntKind.u64) (4294967295 : Int))) : Int) * IntKind.wrap IntKind.u64 (↑(BitVec.toNat (BitVec.ofInt (IntKind.bits IntKind.u64) (1048576 : Int) &&& BitVec.ofInt (IntKind.bits IntKind.u64) (4294967295 : Int))) : Int))) ((2 : Int) ^ min (32 : Nat) (IntKind.bits IntKind.u64)))) &&& BitVec.ofInt (IntKind.bits IntKind.u64) (4294967295 : Int))) : Int) + IntKind.wrap IntKind.u64 (IntKind.wrap IntKind.u64 (↑(BitVec.toNat (BitVec.ofInt (IntKind.bits IntKind.u64) (IntKind.wrap IntKind.u64 num) &&& BitVec.ofInt (IntKind.bits IntKind.u64) (4294967295 : Int))) : Int) * Int.fdiv (1048576 : Int) ((2 : Int) ^ min (32 : Nat) (IntKind.bits IntKind.u64))))) ((2 : Int) ^ min (32 : Nat) (IntKind.bits IntKind.u64)))) (IntKind.wrap IntKind.u64 (IntKind.wrap IntKind.u64 num * (1048576 : Int))) (IntKind.wrap IntKind.u64 den))).1 ≤ (1073741824 : Int)) = r.2.2) ∧
   True)))))))))))))))) = _) ?_
  refine ob_t ?_
  refine call_s h fun h => ?_
  refine ob_t ?_
  refine br_d h (fun h => ?_) (fun h => ?_)
  · refine ob_t ?_
    refine ob_t ?_
    exact ret_s h (fun e => by subst e; exact (by repeat' (first | exact trivial | exact ⟨rfl⟩ | refine And.intro ?_ ?_)))
  · refine ob_t ?_
    refine call_s h fun h => ?_
    refine br_d h (fun h => ?_) (fun h => ?_)
    · refine ob_t ?_
      refine ob_t ?_
      exact ret_s h (fun e => by subst e; exact (by repeat' (first | exact trivial | exact ⟨rfl⟩ | refine And.intro ?_ ?_)))
    · refine ob_t ?_
      refine ob_t ?_
      refine br_d h (fun h => ?_) (fun h => ?_)
      · refine ob_t ?_
        refine ob_t ?_
        exact ret_s h (fun e => by subst e; exact (by repeat' (first | exact trivial | exact ⟨rfl⟩ | refine And.intro ?_ ?_)))
      · refine ob_t ?_
        refine ob_t ?_
        exact ret_s h (fun e => by subst e; exact (by repeat' (first | exact trivial | exact ⟨rfl⟩ | refine And.intro ?_ ?_)))
set_option maxRecDepth 100000 in
theorem F_parts_ok : SpecOK Try.prog 99 true (pureK k_F_parts g_F_parts) := by
  refine pureK_ok (sp := (sp_118 (sp_128 sp0))) (fn := Try.f99) (body := bodyOf Try.f99) mixed (sp_118_ok (sp_128_ok sp0_ok)) Try.func99 (by kernel_rfl) (by kernel_rfl) fun as_ ob rs h ho => ?_
  unfold g_F_parts at h
  split at h
  · rename_i num den
    cases h
    exact ⟨Nat.le_of_ble_eq_true rfl, _, _, F_parts_vc num den _ (ok_some ho)⟩
  · cases h
theorem sp_99_ok {sp : Specs} (h : SpecsOK Try.prog sp) : SpecsOK Try.prog (sp_99 sp) := addK_ok F_parts_ok h

def F_GainRange_b0 (c : List (List Int)) (tP : Int) (tQ : Int) (tR : Int) (x0 : (Int × Int × Int)) : Option ((Int × Int × Int) ⊕ (Int ⊕ (Int × Int))) :=
  if x0.1 < (↑(List.length c) : Int) then
   if (0 : Int) ≤ x0.1 ∧ x0.1 < (↑(List.length c) : Int) then
   if Int.toNat x0.1 < List.length c then
   if Sx06.secB (List.getD (List.getD c (Int.toNat x0.1) []) (0 : Nat) (0 : Int)) (List.getD (List.getD c (Int.toNat x0.1) []) (1 : Nat) (0 : Int)) (List.getD (List.getD c (Int.toNat x0.1) []) (2 : Nat) (0 : Int)) (List.getD (List.getD c (Int.toNat x0.1) []) (3 : Nat) (0 : Int)) (List.getD (List.getD c (Int.toNat x0.1) []) (4 : Nat) (0 : Int)) = true ∧ ((-100 : Int) ≤ tP ∧ tP ≤ (100 : Int)) ∧ ((-100 : Int) ≤ tQ ∧ tQ ≤ (100 : Int)) ∧ (-100 : Int) ≤ tR ∧ tR ≤ (100 : Int) then
   if (Sx06.sqS (16384 : Int) (List.getD (List.getD c (Int.toNat x0.1) []) (3 : Nat) (0 : Int)) (List.getD (List.getD c (Int.toNat x0.1) []) (4 : Nat) (0 : Int)) tP tQ tR == (0 : Int)) = true then
   some (.inr ((.inl (11 : Int))))
   else
   Option.bind (F_parts (Sx06.sqS (List.getD (List.getD c (Int.toNat x0.1) []) (0 : Nat) (0 : Int)) (List.getD (List.getD c (Int.toNat x0.1) []) (1 : Nat) (0 : Int)) (List.getD (List.getD c (Int.toNat x0.1) []) (2 : Nat) (0 : Int)) tP tQ tR) (Sx06.sqS (16384 : Int) (List.getD (List.getD c (Int.toNat x0.1) []) (3 : Nat) (0 : Int)) (List.getD (List.getD c (Int.toNat x0.1) []) (4 : Nat) (0 : Int)) tP tQ tR)) fun r0 =>
   if (!r0.2.2) = true then
   some (.inr ((.inl (8 : Int))))
   else
   if IntKind.wrap IntKind.i64 (Int.tdiv (IntKind.wrap IntKind.i64 (IntKind.wrap IntKind.i64 (IntKind.wrap IntKind.i64 (x0.2.2 * r0.2.1) + (1048576 : Int)) - (1 : Int))) (1048576 : Int)) > (1073741824 : Int) then
   some (.inr ((.inl (8 : Int))))
   else
   some (.inl ((IntKind.wrap IntKind.i64 (x0.1 + (1 : Int)), IntKind.wrap IntKind.i64 (Int.tdiv (IntKind.wrap IntKind.i64 (x0.2.1 * r0.1)) (1048576 : Int)), IntKind.wrap IntKind.i64 (Int.tdiv (IntKind.wrap IntKind.i64 (IntKind.wrap IntKind.i64 (IntKind.wrap IntKind.i64 (x0.2.2 * r0.2.1) + (1048576 : Int)) - (1 : Int))) (1048576 : Int)))))
   else none
   else none
   else none
  else
   some (.inr ((.inr (x0.2.1, x0.2.2))))
def F_GainRange_r0_0 (y0_0 : Int) : Option (Int × Int × Int) :=
  some (((0 : Int), (0 : Int), y0_0))
def F_GainRange_r0_1 (y0_1 : Int × Int) : Option (Int × Int × Int) :=
  some ((y0_1.1, y0_1.2, (0 : Int)))
def F_GainRange_r0 : (Int ⊕ (Int × Int)) → Option (Int × Int × Int) :=
  (Sum.elim (F_GainRange_r0_0) (F_GainRange_r0_1))
/-- shoebox/filter.GainRange -/
def F_GainRange (c : List (List Int)) (tP : Int) (tQ : Int) (tR : Int) : Option (Int × Int × Int) :=
  if List.length c ≤ (1000000000 : Nat) then
   if List.length [Sx06.chkE c, Sx06.turnE tP tQ tR] ≤ (1000000 : Nat) then
   if (Option.getD (List.find? (fun x => x != (0 : Int)) [Sx06.chkE c, Sx06.turnE tP tQ tR]) (0 : Int) != (0 : Int)) = true then
   some (((0 : Int), (0 : Int), Option.getD (List.find? (fun x => x != (0 : Int)) [Sx06.chkE c, Sx06.turnE tP tQ tR]) (0 : Int)))
   else
   Option.bind (iter (F_GainRange_b0 c tP tQ tR) big (((0 : Int), (1048576 : Int), (1048576 : Int)))) (F_GainRange_r0)
   else none
  else none
def g_F_GainRange : List A → Option (Prop × List RV)
  | [.r (.recs 5 c), .s [.i .i64 tP, .i .i64 tQ, .i .i64 tR]] => some (ok (F_GainRange c tP tQ tR), [.s [.i .i64 ((val (F_GainRange c tP tQ tR)).1), .i .i64 ((val (F_GainRange c tP tQ tR)).2.1)], .d (.i .i64 ((val (F_GainRange c tP tQ tR)).2.2))])
  | _ => none
def k_F_GainRange : List (Option Cont) := [some (.recs 5 []), none]
abbrev sp_41 : Specs → Specs := addK 41 true (pureK k_F_GainRange g_F_GainRange)
set_option maxRecDepth 100000 in
theorem F_GainRange_vc (c : List (List Int)) (tP : Int) (tQ : Int) (tR : Int) (r : Int × Int × Int) (h : Option.bind (F_GainRange c tP tQ tR) some = some r) : runF Try.f41 ((sp_86 (sp_97 (sp_85 (sp_98 (sp_99 sp0)))))) (fun gs id _ => match id with
 | 0 => some ⟨(Int × Int × Int) × Nat, fun z => ⟨[(3, .w (.c (.p 2 (0 : Nat) 1 0))), (4, .w (.c (.p 3 (0 : Nat) 1 0))), (7, .w (.c (.p 4 (0 : Nat) 1 0))), (25, .w (.c (.o 0))), (26, .w (.c (.d (.i .i64 ((↑(List.length c) : Int)))))), (27, .w (.c (.d (.i .i64 (Prod.fst (Prod.fst z))))))], [(2, .box 74 [.d (.i .i64 tP), .d (.i .i64 tQ), .d (.i .i64 tR)]), (3, .box 76 [.d (.i .i64 (0 : Int)), .d (.i .i64 (0 : Int))]), (4, .box 76 [.d (.i .i64 (Prod.fst (Prod.snd (Prod.fst z)))), .d (.i .i64 (Prod.snd (Prod.snd (Prod.fst z))))]), (0, .ext (.recs 5 c))], 5⟩, fun z => Option.bind (iter (F_GainRange_b0 c tP tQ tR) (Prod.snd z) (Prod.fst z)) (fun y0 => Option.bind (F_GainRange_r0 y0) some) = some r, fun z => Prod.snd z⟩
 | _ => none) [.r (.recs 5 c), .s [.i .i64 tP, .i .i64 tQ, .i .i64 tR]] [.s [.i .i64 r.1, .i .i64 r.2.1], .d (.i .i64 r.2.2)] := by
  refine Eq.mp (by kernel_rfl : (
  (Ob (List.length c ≤ (1000000000 : Nat)) ∧
   (Ob (True) ∧
   (Ob (List.length [Sx06.chkE c, Sx06.turnE tP tQ tR] ≤ (1000000 : Nat)) ∧
   Br (Option.getD (List.find? (fun x => x != (0 : Int)) [Sx06.chkE c, Sx06.turnE tP tQ tR]) (0 : Int) != (0 : Int))
   ((Ob (True) ∧
   (Ob (True) ∧
   (Ob ((0 : Int) = r.1) ∧
   (Ob ((0 : Int) = r.2.1) ∧
   (Ob (Option.getD (List.find? (fun x => x != (0 : Int)) [Sx06.chkE c, Sx06.turnE tP tQ tR]) (0 : Int) = r.2.2) ∧
   True))))))
   (((∃ (v0 : (Int × Int × Int) × Nat), (Ob ((Option.bind (iter (F_GainRange_b0 c tP tQ tR) v0.2 v0.1) fun y0 => Option.bind (F_GainRange_r0 y0) some) = some r) ∧
   (Ob ((0 : Nat) = (0 : Nat)) ∧
   (Ob ((0 : Nat) = (0 : Nat)) ∧
   (Ob ((0 : Nat) = (0 : Nat)) ∧
   (Ob ((↑(List.length c) : Int) = (↑(List.length c) : Int)) ∧
   (Ob ((0 : Int) = v0.1.1) ∧
   (Ob (tP = tP) ∧
   (Ob (tQ = tQ) ∧
   (Ob (tR = tR) ∧
   (Ob ((0 : Int) = (0 : Int)) ∧
   (Ob ((0 : Int) = (0 : Int)) ∧
   (Ob ((1048576 : Int) = v0.1.2.1) ∧
   (Ob ((1048576 : Int) = v0.1.2.2) ∧
   (Ob (c = c) ∧
   True))))))))))))))) ∧
   (∀ (v0 : (Int × Int × Int) × Nat), ((Option.bind (iter (F_GainRange_b0 c tP tQ tR) v0.2 v0.1) fun y0 => Option.bind (F_GainRange_r0 y0) some) = some r →
   Br (decide (v0.1.1 < (↑(List.length c) : Int)))
   ((Ob ((0 : Int) ≤ v0.1.1 ∧ v0.1.1 < (↑(List.length c) : Int)) ∧
   (Ob (Int.toNat v0.1.1 < List.length c) ∧
   (Ob (Sx06.secB (List.getD (List.getD c (Int.toNat v0.1.1) []) (0 : Nat) (0 : Int)) (List.getD (List.getD c (Int.toNat v0.1.1) []) (1 : Nat) (0 : Int)) (List.getD (List.getD c (Int.toNat v0.1.1) []) (2 : Nat) (0 : Int)) (List.getD (List.getD c (Int.toNat v0.1.1) []) (3 : Nat) (0 : Int)) (List.getD (List.getD c (Int.toNat v0.1.1) []) (4 : Nat) (0 : Int)) = true ∧ ((-100 : Int) ≤ tP ∧ tP ≤ (100 : Int)) ∧ ((-100 : Int) ≤ tQ ∧ tQ ≤ (100 : Int)) ∧ (-100 : Int) ≤ tR ∧ tR ≤ (100 : Int)) ∧
   Br (Sx06.sqS (16384 : Int) (List.getD (List.getD c (Int.toNat v0.1.1) []) (3 : Nat) (0 : Int)) (List.getD (List.getD c (Int.toNat v0.1.1) []) (4 : Nat) (0 : Int)) tP tQ tR == (0 : Int))
   ((Ob (True) ∧
   (Ob (True) ∧
   (Ob ((0 : Int) = r.1) ∧
   (Ob ((0 : Int) = r.2.1) ∧
   (Ob ((11 : Int) = r.2.2) ∧
   True))))))
   ((Ob (ok (F_parts (Sx06.sqS (List.getD (List.getD c (Int.toNat v0.1.1) []) (0 : Nat) (0 : Int)) (List.getD (List.getD c (Int.toNat v0.1.1) []) (1 : Nat) (0 : Int)) (List.getD (List.getD c (Int.toNat v0.1.1) []) (2 : Nat) (0 : Int)) tP tQ tR) (Sx06.sqS (16384 : Int) (List.getD (List.getD c (Int.toNat v0.1.1) []) (3 : Nat) (0 : Int)) (List.getD (List.getD c (Int.toNat v0.1.1) []) (4 : Nat) (0 : Int)) tP tQ tR))) ∧
   Br (!(val (F_parts (Sx06.sqS (List.getD (List.getD c (Int.toNat v0.1.1) []) (0 : Nat) (0 : Int)) (List.getD (List.getD c (Int.toNat v0.1.1) []) (1 : Nat) (0 : Int)) (List.getD (List.getD c (Int.toNat v0.1.1) []) (2 : Nat) (0 : Int)) tP tQ tR) (Sx06.sqS (16384 : Int) (List.getD (List.getD c (Int.toNat v0.1.1) []) (3 : Nat) (0 : Int)) (List.getD (List.getD c (Int.toNat v0.1.1) []) (4 : Nat) (0 : Int)) tP tQ tR))).2.2)
   ((Ob (True) ∧
   (Ob (True) ∧
   (Ob ((0 : Int) = r.1) ∧
   (Ob ((0 : Int) = r.2.1) ∧
   (Ob ((8 : Int) = r.2.2) ∧
   True))))))
   ((Ob ((1048576 : Int) ≠ (0 : Int)) ∧
   (Ob ((1048576 : Int) ≠ (0 : Int)) ∧
   Br (decide (IntKind.wrap IntKind.i64 (Int.tdiv (IntKind.wrap IntKind.i64 (IntKind.wrap IntKind.i64 (IntKind.wrap IntKind.i64 (v0.1.2.2 * (val (F_parts (Sx06.sqS (List.getD (List.getD c (Int.toNat v0.1.1) []) (0 : Nat) (0 : Int)) (List.getD (List.getD c (Int.toNat v0.1.1) []) (1 : Nat) (0 : Int)) (List.getD (List.getD c (Int.toNat v0.1.1) []) (2 : Nat) (0 : Int)) tP tQ tR) (Sx06.sqS (16384 : Int) (List.getD (List.getD c (Int.toNat v0.1.1) []) (3 : Nat) (0 : Int)) (List.getD (List.getD c (Int.toNat v0.1.1) []) (4 : Nat) (0 : Int)) tP tQ tR))).2.1) + (1048576 : Int)) - (1 : Int))) (1048576 : Int)) > (1073741824 : Int)))
   ((Ob (True) ∧
   (Ob (True) ∧
   (Ob ((0 : Int) = r.1) ∧
   (Ob ((0 : Int) = r.2.1) ∧
   (Ob ((8 : Int) = r.2.2) ∧
   True))))))
   ((∃ (v1 : (Int × Int × Int) × Nat), (Ob ((Option.bind (iter (F_GainRange_b0 c tP tQ tR) v1.2 v1.1) fun y0 => Option.bind (F_GainRange_r0 y0) some) = some r) ∧
   (Ob (v1.2 < v0.2) ∧
   (Ob ((0 : Nat) = (0 : Nat)) ∧
   (Ob ((0 : Nat) = (0 : Nat)) ∧
   (Ob ((0 : Nat) = (0 : Nat)) ∧
   (Ob ((↑(List.length c) : Int) = (↑(List.length c) : Int)) ∧
   (Ob (IntKind.wrap IntKind.i64 (v0.1.1 + (1 : Int)) = v1.1.1) ∧
   (Ob (tP = tP) ∧
   (Ob (tQ = tQ) ∧
   (Ob (tR = tR) ∧
   (Ob ((0 : Int) = (0 : Int)) ∧
   (Ob ((0 : Int) = (0 : Int)) ∧
   (Ob (IntKind.wrap IntKind.i64 (Int.tdiv (IntKind.wrap IntKind.i64 (v0.1.2.1 * (val (F_parts (Sx06.sqS (List.getD (List.getD c (Int.toNat v0.1.1) []) (0 : Nat) (0 : Int)) (List.getD (List.getD c (Int.toNat v0.1.1) []) (1 : Nat) (0 : Int)) (List.getD (List.getD c (Int.toNat v0.1.1) []) (2 : Nat) (0 : Int)) tP tQ tR) (Sx06.sqS (16384 : Int) (List.getD (List.getD c (Int.toNat v0.1.1) []) (3 : Nat) (0 : Int)) (List.getD (List.getD c (Int.toNat v0.1.1) []) (4 : Nat) (0 : Int)) tP tQ tR))).1)) (1048576 : Int)) = v1.1.2.1) ∧
   (Ob (IntKind.wrap IntKind.i64 (Int.tdiv (IntKind.wrap IntKind.i64 (IntKind.wrap IntKind.i64 (IntKind.wrap IntKind.i64 (v0.1.2.2 * (val (F_parts (Sx06.sqS (List.getD (List.getD c (Int.toNat v0.1.1) []) (0 : Nat) (0 : Int)) (List.getD (List.getD c (Int.toNat v0.1.1) []) (1 : Nat) (0 : Int)) (List.getD (List.getD c (Int.toNat v0.1.1) []) (2 : Nat) (0 : Int)) tP tQ tR) (Sx06.sqS (16384 : Int) (List.getD (List.getD c (Int.toNat v0.1.1) []) (3 : Nat) (0 : Int)) (List.getD (List.getD c (Int.toNat v0.1.1) []) (4 : Nat) (0 : Int)) tP tQ tR))).2.1) + (1048576 : Int)) - (1 : Int))) (1048576 : Int)) = v1.1.2.2) ∧
   (Ob (c = c) ∧
   True))))))))))))))))))))))))))
   ((Ob (True) ∧
   (Ob (True) ∧
   (Ob (v0.1.2.1 = r.1) ∧
   (Ob (v0.1.2.2 = r.2.1) ∧
   (Ob ((0 : Int) = r.2.2) ∧
   True)))))))))))))) = _) ?_
  refine ob_s h fun h => ?_
  refine ob_t ?_
  refine ob_s h fun h => ?_
  refine br_b h (fun h => ?_) (fun h => ?_)
  · refine ob_t ?_
    refine ob_t ?_
    exact ret_s h (fun e => by subst e; exact (by repeat' (first | exact trivial | exact ⟨rfl⟩ | refine And.intro ?_ ?_)))
  · refine ⟨⟨(((0 : Int), (1048576 : Int), (1048576 : Int)), big), ⟨loop_s h⟩, (by repeat' (first | exact trivial | exact ⟨rfl⟩ | refine And.intro ?_ ?_))⟩, fun z1 hz1 => ?_⟩
    obtain ⟨k1, hm1, h⟩ := iter_pos hz1
    refine br_d h (fun h => ?_) (fun h => ?_)
    · refine ob_s h fun h => ?_
      refine ob_s h fun h => ?_
      refine ob_s h fun h => ?_
      refine br_b h (fun h => ?_) (fun h => ?_)
      · have h := exit_s h
        refine ob_t ?_
        refine ob_t ?_
        exact ret_s h (fun e => by subst e; exact (by repeat' (first | exact trivial | exact ⟨rfl⟩ | refine And.intro ?_ ?_)))
      · refine call_s h fun h => ?_
        refine br_b h (fun h => ?_) (fun h => ?_)
        · have h := exit_s h
          refine ob_t ?_
          refine ob_t ?_
          exact ret_s h (fun e => by subst e; exact (by repeat' (first | exact trivial | exact ⟨rfl⟩ | refine And.intro ?_ ?_)))
        · refine ob_c (p := (1048576 : Int) ≠ (0 : Int)) (by decide) ?_
          refine ob_c (p := (1048576 : Int) ≠ (0 : Int)) (by decide) ?_
          refine br_d h (fun h => ?_) (fun h => ?_)
          · have h := exit_s h
            refine ob_t ?_
            refine ob_t ?_
            exact ret_s h (fun e => by subst e; exact (by repeat' (first | exact trivial | exact ⟨rfl⟩ | refine And.intro ?_ ?_)))
          · exact ⟨((IntKind.wrap IntKind.i64 ((Prod.fst z1).1 + (1 : Int)), IntKind.wrap IntKind.i64 (Int.tdiv (IntKind.wrap IntKind.i64 ((Prod.fst z1).2.1 * (val (F_parts (Sx06.sqS (List.getD (List.getD c (Int.toNat (Prod.fst z1).1) []) (0 : Nat) (0 : Int)) (List.getD (List.getD c (Int.toNat (Prod.fst z1).1) []) (1 : Nat) (0 : Int)) (List.getD (List.getD c (Int.toNat (Prod.fst z1).1) []) (2 : Nat) (0 : Int)) tP tQ tR) (Sx06.sqS (16384 : Int) (List.getD (List.getD c (Int.toNat (Prod.fst z1).1) []) (3 : Nat) (0 : Int)) (List.getD (List.getD c (Int.toNat (Prod.fst z1).1) []) (4 : Nat) (0 : Int)) tP tQ tR))).1)) (1048576 : Int)), IntKind.wrap IntKind.i64 (Int.tdiv (IntKind.wrap IntKind.i64 (IntKind.wrap IntKind.i64 (IntKind.wrap IntKind.i64 ((Prod.fst z1).2.2 * (val (F_parts (Sx06.sqS (List.getD (List.getD c (Int.toNat (Prod.fst z1).1) []) (0 : Nat) (0 : Int)) (List.getD (List.getD c (Int.toNat (Prod.fst z1).1) []) (1 : Nat) (0 : Int)) (List.getD (List.getD c (Int.toNat (Prod.fst z1).1) []) (2 : Nat) (0 : Int)) tP tQ tR) (Sx06.sqS (16384 : Int) (List.getD (List.getD c (Int.toNat (Prod.fst z1).1) []) (3 : Nat) (0 : Int)) (List.getD (List.getD c (Int.toNat (Prod.fst z1).1) []) (4 : Nat) (0 : Int)) tP tQ tR))).2.1) + (1048576 : Int)) - (1 : Int))) (1048576 : Int))), k1), ⟨next_s h⟩, ⟨lt_gs hm1.symm⟩, (by repeat' (first | exact trivial | exact ⟨rfl⟩ | refine And.intro ?_ ?_))⟩
    · have h := exit_s h
      refine ob_t ?_
      refine ob_t ?_
      exact ret_s h (fun e => by subst e; exact (by repeat' (first | exact trivial | exact ⟨rfl⟩ | refine And.intro ?_ ?_)))
set_option maxRecDepth 100000 in
theorem F_GainRange_ok : SpecOK Try.prog 41 true (pureK k_F_GainRange g_F_GainRange) := by
  refine pureK_ok (sp := (sp_86 (sp_97 (sp_85 (sp_98 (sp_99 sp0)))))) (fn := Try.f41) (body := bodyOf Try.f41) mixed (sp_86_ok (sp_97_ok (sp_85_ok (sp_98_ok (sp_99_ok sp0_ok))))) Try.func41 (by kernel_rfl) (by kernel_rfl) fun as_ ob rs h ho => ?_
  unfold g_F_GainRange at h
  split at h
  · rename_i c tP tQ tR
    cases h
    exact ⟨Nat.le_of_ble_eq_true rfl, _, _, F_GainRange_vc c tP tQ tR _ (ok_some ho)⟩
  · cases h
theorem sp_41_ok {sp : Specs} (h : SpecsOK Try.prog sp) : SpecsOK Try.prog (sp_41 sp) := addK_ok F_GainRange_ok h

/-- shoebox/shoeboxlaw06.awake -/
def L06_awake : Option Bool :=
  some true
def g_L06_awake : List A → Option (Prop × List RV)
  | [] => some (ok (L06_awake), [.d (.b ((val (L06_awake))))])
  | _ => none
def k_L06_awake : List (Option Cont) := []
abbrev sp_18 : Specs → Specs := addK 18 true (pureK k_L06_awake g_L06_awake)
set_option maxRecDepth 100000 in
theorem L06_awake_vc (r : Bool) (h : Option.bind (L06_awake) some = some r) : runF Try.f18 ((sp_60 (sp_25 (sp_21 (sp_81 (sp_41 (sp_34 sp0))))))) (fun _ _ _ => none) [] [.d (.b r)] := by
  refine Eq.mp (by kernel_rfl : (
  (Ob (ok L06_Half) ∧
   (Ob (List.length [[(8192 : Int), (0 : Int), (0 : Int), (-8192 : Int), (0 : Int)]] ≤ (1000000000 : Nat)) ∧
   (Ob (ok L06_Half) ∧
   (Ob (True) ∧
   (Ob (List.length [(2 : Int), (1 : Int), (1 : Int)] ≤ (1000000000 : Nat)) ∧
   (Ob (ok L06_Half) ∧
   (Ob (ok (F_GainRange [[(8192 : Int), (0 : Int), (0 : Int), (-8192 : Int), (0 : Int)]] (0 : Int) (1 : Int) (1 : Int))) ∧
   (Ob (List.length (Sx06.impL [[(8192 : Int), (0 : Int), (0 : Int), (-8192 : Int), (0 : Int)]] (100 : Int) (5 : Int)) ≤ (1000000000 : Nat)) ∧
   (Ob (True) ∧
   (Ob (((fun α β self => self.1) Int (Int × Int) (val (F_GainRange [[(8192 : Int), (0 : Int), (0 : Int), (-8192 : Int), (0 : Int)]] (0 : Int) (1 : Int) (1 : Int))) == (209715 : Int) && (fun α β self => self.2) Int Int (IntKind.wrap IntKind.i64 (Int.tdiv (IntKind.wrap IntKind.i64 ((1048576 : Int) * IntKind.wrap IntKind.i64 (IntKind.wrap IntKind.u64 (Int.tdiv (IntKind.wrap IntKind.u64 (IntKind.wrap IntKind.u64 (Sx06.sqS (List.getD (List.getD [[(8192 : Int), (0 : Int), (0 : Int), (-8192 : Int), (0 : Int)]] (0 : Nat) []) (0 : Nat) (0 : Int)) (List.getD (List.getD [[(8192 : Int), (0 : Int), (0 : Int), (-8192 : Int), (0 : Int)]] (0 : Nat) []) (1 : Nat) (0 : Int)) (List.getD (List.getD [[(8192 : Int), (0 : Int), (0 : Int), (-8192 : Int), (0 : Int)]] (0 : Nat) []) (2 : Nat) (0 : Int)) (0 : Int) (1 : Int) (1 : Int)) * (1048576 : Int))) (IntKind.wrap IntKind.u64 (Sx06.sqS (16384 : Int) (List.getD (List.getD [[(8192 : Int), (0 : Int), (0 : Int), (-8192 : Int), (0 : Int)]] (0 : Nat) []) (3 : Nat) (0 : Int)) (List.getD (List.getD [[(8192 : Int), (0 : Int), (0 : Int), (-8192 : Int), (0 : Int)]] (0 : Nat) []) (4 : Nat) (0 : Int)) (0 : Int) (1 : Int) (1 : Int))))))) (1048576 : Int)), IntKind.wrap IntKind.i64 (Int.tdiv (IntKind.wrap IntKind.i64 (IntKind.wrap IntKind.i64 (IntKind.wrap IntKind.i64 ((1048576 : Int) * IntKind.wrap IntKind.i64 (IntKind.wrap IntKind.i64 (IntKind.wrap IntKind.u64 (Int.tdiv (IntKind.wrap IntKind.u64 (IntKind.wrap IntKind.u64 (Sx06.sqS (List.getD (List.getD [[(8192 : Int), (0 : Int), (0 : Int), (-8192 : Int), (0 : Int)]] (0 : Nat) []) (0 : Nat) (0 : Int)) (List.getD (List.getD [[(8192 : Int), (0 : Int), (0 : Int), (-8192 : Int), (0 : Int)]] (0 : Nat) []) (1 : Nat) (0 : Int)) (List.getD (List.getD [[(8192 : Int), (0 : Int), (0 : Int), (-8192 : Int), (0 : Int)]] (0 : Nat) []) (2 : Nat) (0 : Int)) (0 : Int) (1 : Int) (1 : Int)) * (1048576 : Int))) (IntKind.wrap IntKind.u64 (Sx06.sqS (16384 : Int) (List.getD (List.getD [[(8192 : Int), (0 : Int), (0 : Int), (-8192 : Int), (0 : Int)]] (0 : Nat) []) (3 : Nat) (0 : Int)) (List.getD (List.getD [[(8192 : Int), (0 : Int), (0 : Int), (-8192 : Int), (0 : Int)]] (0 : Nat) []) (4 : Nat) (0 : Int)) (0 : Int) (1 : Int) (1 : Int))))) + (1 : Int))) + (1048576 : Int)) - (1 : Int))) (1048576 : Int))) == (209716 : Int)) = r) ∧
   True))))))))))) = _) ?_
  refine ob_c (p := ok L06_Half) (by decide) ?_
  refine ob_c (p := List.length [[(8192 : Int), (0 : Int), (0 : Int), (-8192 : Int), (0 : Int)]] ≤ (1000000000 : Nat)) (by decide) ?_
  refine ob_c (p := ok L06_Half) (by decide) ?_
  refine ob_t ?_
  refine ob_c (p := List.length [(2 : Int), (1 : Int), (1 : Int)] ≤ (1000000000 : Nat)) (by decide) ?_
  refine ob_c (p := ok L06_Half) (by decide) ?_
  refine ob_c (p := ok (F_GainRange [[(8192 : Int), (0 : Int), (0 : Int), (-8192 : Int), (0 : Int)]] (0 : Int) (1 : Int) (1 : Int))) (by decide) ?_
  refine ob_c (p := List.length (Sx06.impL [[(8192 : Int), (0 : Int), (0 : Int), (-8192 : Int), (0 : Int)]] (100 : Int) (5 : Int)) ≤ (1000000000 : Nat)) (by decide) ?_
  refine ob_t ?_
  exact ret_s h (fun e => by subst e; exact (by repeat' (first | exact trivial | exact ⟨rfl⟩ | refine And.intro ?_ ?_)))
set_option maxRecDepth 100000 in
theorem L06_awake_ok : SpecOK Try.prog 18 true (pureK k_L06_awake g_L06_awake) := by
  refine pureK_ok (sp := (sp_60 (sp_25 (sp_21 (sp_81 (sp_41 (sp_34 sp0))))))) (fn := Try.f18) (body := bodyOf Try.f18) mixed (sp_60_ok (sp_25_ok (sp_21_ok (sp_81_ok (sp_41_ok (sp_34_ok sp0_ok)))))) Try.func18 (by kernel_rfl) (by kernel_rfl) fun as_ ob rs h ho => ?_
  unfold g_L06_awake at h
  split at h
  · cases h
    exact ⟨Nat.le_of_ble_eq_true rfl, _, _, L06_awake_vc _ (ok_some ho)⟩
  · cases h
theorem sp_18_ok {sp : Specs} (h : SpecsOK Try.prog sp) : SpecsOK Try.prog (sp_18 sp) := addK_ok L06_awake_ok h

def R06_CheckSection_b0 (sB0 : Int) (sB1 : Int) (sB2 : Int) (sA0 : Int) (sA1 : Int) (x0 : Int) : Option (Int ⊕ (Unit ⊕ Unit)) :=
  if x0 < (↑(List.length [sB0, sB1, sB2, sA0, sA1]) : Int) then
   if (0 : Int) ≤ x0 ∧ x0 < (↑(List.length [sB0, sB1, sB2, sA0, sA1]) : Int) then
   if Int.toNat x0 < List.length [sB0, sB1, sB2, sA0, sA1] then
   if (!(decide ((-32768 : Int) ≤ List.getD [sB0, sB1, sB2, sA0, sA1] (Int.toNat x0) (0 : Int)) && decide (List.getD [sB0, sB1, sB2, sA0, sA1] (Int.toNat x0) (0 : Int) ≤ (32768 : Int)))) = true then
   some (.inr ((.inl ())))
   else
   some (.inl (IntKind.wrap IntKind.i64 (x0 + (1 : Int))))
   else none
   else none
  else
   some (.inr ((.inr ())))
def R06_CheckSection_r0_0 (y0_0 : Unit) : Option Int :=
  some (2 : Int)
def R06_CheckSection_r0_1 (y0_1 : Unit) : Option Int :=
  some (0 : Int)
def R06_CheckSection_r0 : (Unit ⊕ Unit) → Option Int :=
  (Sum.elim (R06_CheckSection_r0_0) (R06_CheckSection_r0_1))
/-- shoebox/shoeboxref06.CheckSection -/
def R06_CheckSection (sB0 : Int) (sB1 : Int) (sB2 : Int) (sA0 : Int) (sA1 : Int) : Option Int :=
  Option.bind (iter (R06_CheckSection_b0 sB0 sB1 sB2 sA0 sA1) big (0 : Int)) (R06_CheckSection_r0)
def g_R06_CheckSection : List A → Option (Prop × List RV)
  | [.s [.i .i64 sB0, .i .i64 sB1, .i .i64 sB2, .i .i64 sA0, .i .i64 sA1]] => some (ok (R06_CheckSection sB0 sB1 sB2 sA0 sA1), [.d (.i .i64 ((val (R06_CheckSection sB0 sB1 sB2 sA0 sA1))))])
  | _ => none
def k_R06_CheckSection : List (Option Cont) := [none]
abbrev sp_28 : Specs → Specs := addK 28 true (pureK k_R06_CheckSection g_R06_CheckSection)
set_option maxRecDepth 100000 in
theorem R06_CheckSection_vc (sB0 : Int) (sB1 : Int) (sB2 : Int) (sA0 : Int) (sA1 : Int) (r : Int) (h : Option.bind (R06_CheckSection sB0 sB1 sB2 sA0 sA1) some = some r) : runF Try.f28 ((sp_50 sp0)) (fun gs id _ => match id with
 | 0 => some ⟨Int × Nat, fun z => ⟨[(3, .w (.c (.o 1))), (4, .w (.c (.d (.i .i64 (Prod.fst z)))))], [(1, .row 3 (.ints .i64 ([sB0, sB1, sB2, sA0, sA1])))], 2⟩, fun z => Option.bind (iter (R06_CheckSection_b0 sB0 sB1 sB2 sA0 sA1) (Prod.snd z) (Prod.fst z)) (fun y0 => Option.bind (R06_CheckSection_r0 y0) some) = some r, fun z => Prod.snd z⟩
 | _ => none) [.s [.i .i64 sB0, .i .i64 sB1, .i .i64 sB2, .i .i64 sA0, .i .i64 sA1]] [.d (.i .i64 r)] := by
  refine Eq.mp (by kernel_rfl : (
  (Ob ((0 : Int) ≤ (0 : Int) ∧ (0 : Int) < (↑(3 : Nat) : Int)) ∧
   (Ob ((0 : Int) ≤ (1 : Int) ∧ (1 : Int) < (↑(3 : Nat) : Int)) ∧
   (Ob ((0 : Int) ≤ (2 : Int) ∧ (2 : Int) < (↑(3 : Nat) : Int)) ∧
   (Ob ((0 : Int) ≤ (0 : Int) ∧ (0 : Int) < (↑(2 : Nat) : Int)) ∧
   (Ob ((0 : Int) ≤ (1 : Int) ∧ (1 : Int) < (↑(2 : Nat) : Int)) ∧
   ((∃ (v0 : Int × Nat), (Ob ((Option.bind (iter (R06_CheckSection_b0 sB0 sB1 sB2 sA0 sA1) v0.2 v0.1) fun y0 => Option.bind (R06_CheckSection_r0 y0) some) = some r) ∧
   (Ob ((0 : Int) = v0.1) ∧
   (Ob ([sB0, sB1, sB2, sA0, sA1] = [sB0, sB1, sB2, sA0, sA1]) ∧
   True)))) ∧
   (∀ (v0 : Int × Nat), ((Option.bind (iter (R06_CheckSection_b0 sB0 sB1 sB2 sA0 sA1) v0.2 v0.1) fun y0 => Option.bind (R06_CheckSection_r0 y0) some) = some r →
   Br (decide (v0.1 < (↑(List.length [sB0, sB1, sB2, sA0, sA1]) : Int)))
   ((Ob ((0 : Int) ≤ v0.1 ∧ v0.1 < (↑(List.length [sB0, sB1, sB2, sA0, sA1]) : Int)) ∧
   (Ob (Int.toNat v0.1 < List.length [sB0, sB1, sB2, sA0, sA1]) ∧
   (Ob (True) ∧
   Br (!(decide ((-32768 : Int) ≤ List.getD [sB0, sB1, sB2, sA0, sA1] (Int.toNat v0.1) (0 : Int)) && decide (List.getD [sB0, sB1, sB2, sA0, sA1] (Int.toNat v0.1) (0 : Int) ≤ (32768 : Int))))
   ((Ob (True) ∧
   (Ob ((2 : Int) = r) ∧
   True)))
   ((∃ (v1 : Int × Nat), (Ob ((Option.bind (iter (R06_CheckSection_b0 sB0 sB1 sB2 sA0 sA1) v1.2 v1.1) fun y0 => Option.bind (R06_CheckSection_r0 y0) some) = some r) ∧
   (Ob (v1.2 < v0.2) ∧
   (Ob (IntKind.wrap IntKind.i64 (v0.1 + (1 : Int)) = v1.1) ∧
   (Ob ([sB0, sB1, sB2, sA0, sA1] = [sB0, sB1, sB2, sA0, sA1]) ∧
   True))))))))))
   ((Ob (True) ∧
   (Ob ((0 : Int) = r) ∧
   True)))))))))))) = _) ?_
  refine ob_c (p := (0 : Int) ≤ (0 : Int) ∧ (0 : Int) < (↑(3 : Nat) : Int)) (by decide) ?_
  refine ob_c (p := (0 : Int) ≤ (1 : Int) ∧ (1 : Int) < (↑(3 : Nat) : Int)) (by decide) ?_
  refine ob_c (p := (0 : Int) ≤ (2 : Int) ∧ (2 : Int) < (↑(3 : Nat) : Int)) (by decide) ?_
  refine ob_c (p := (0 : Int) ≤ (0 : Int) ∧ (0 : Int) < (↑(2 : Nat) : Int)) (by decide) ?_
  refine ob_c (p := (0 : Int) ≤ (1 : Int) ∧ (1 : Int) < (↑(2 : Nat) : Int)) (by decide) ?_
  refine ⟨⟨((0 : Int), big), ⟨loop_s h⟩, (by repeat' (first | exact trivial | exact ⟨rfl⟩ | refine And.intro ?_ ?_))⟩, fun z0 hz0 => ?_⟩
  obtain ⟨k0, hm0, h⟩ := iter_pos hz0
  refine br_d h (fun h => ?_) (fun h => ?_)
  · refine ob_s h fun h => ?_
    refine ob_s h fun h => ?_
    refine ob_t ?_
    refine br_b h (fun h => ?_) (fun h => ?_)
    · have h := exit_s h
      refine ob_t ?_
      exact ret_s h (fun e => by subst e; exact (by repeat' (first | exact trivial | exact ⟨rfl⟩ | refine And.intro ?_ ?_)))
    · exact ⟨(IntKind.wrap IntKind.i64 (Prod.fst z0 + (1 : Int)), k0), ⟨next_s h⟩, ⟨lt_gs hm0.symm⟩, (by repeat' (first | exact trivial | exact ⟨rfl⟩ | refine And.intro ?_ ?_))⟩
  · have h := exit_s h
    refine ob_t ?_
    exact ret_s h (fun e => by subst e; exact (by repeat' (first | exact trivial | exact ⟨rfl⟩ | refine And.intro ?_ ?_)))
set_option maxRecDepth 100000 in
theorem R06_CheckSection_ok : SpecOK Try.prog 28 true (pureK k_R06_CheckSection g_R06_CheckSection) := by
  refine pureK_ok (sp := (sp_50 sp0)) (fn := Try.f28) (body := bodyOf Try.f28) mixed (sp_50_ok sp0_ok) Try.func28 (by kernel_rfl) (by kernel_rfl) fun as_ ob rs h ho => ?_
  unfold g_R06_CheckSection at h
  split at h
  · rename_i sB0 sB1 sB2 sA0 sA1
    cases h
    exact ⟨Nat.le_of_ble_eq_true rfl, _, _, R06_CheckSection_vc sB0 sB1 sB2 sA0 sA1 _ (ok_some ho)⟩
  · cases h
theorem sp_28_ok {sp : Specs} (h : SpecsOK Try.prog sp) : SpecsOK Try.prog (sp_28 sp) := addK_ok R06_CheckSection_ok h

/-- shoebox/shoeboxbase.Floor -/
def B_Floor (n : Int) (by_ : Int) : Option Int :=
  if by_ ≠ (0 : Int) then
   if by_ ≠ (0 : Int) then
   if Int.tmod n by_ < (0 : Int) then
   some (IntKind.wrap IntKind.i64 (IntKind.wrap IntKind.i64 (Int.tdiv n by_) - (1 : Int)))
   else
   some (IntKind.wrap IntKind.i64 (Int.tdiv n by_))
   else none
  else none
def g_B_Floor : List A → Option (Prop × List RV)
  | [.d (.i .i64 n), .d (.i .i64 by_)] => some (ok (B_Floor n by_), [.d (.i .i64 ((val (B_Floor n by_))))])
  | _ => none
def k_B_Floor : List (Option Cont) := [none, none]
abbrev sp_90 : Specs → Specs := addK 90 true (pureK k_B_Floor g_B_Floor)
set_option maxRecDepth 100000 in
theorem B_Floor_vc (n : Int) (by_ : Int) (r : Int) (h : Option.bind (B_Floor n by_) some = some r) : runF Try.f90 (sp0) (fun _ _ _ => none) [.d (.i .i64 n), .d (.i .i64 by_)] [.d (.i .i64 r)] := by
  refine Eq.mp (by kernel_rfl : (
  (Ob (by_ ≠ (0 : Int)) ∧
   (Ob (by_ ≠ (0 : Int)) ∧
   Br (decide (Int.tmod n by_ < (0 : Int)))
   ((Ob (True) ∧
   (Ob (IntKind.wrap IntKind.i64 (IntKind.wrap IntKind.i64 (Int.tdiv n by_) - (1 : Int)) = r) ∧
   True)))
   ((Ob (True) ∧
   (Ob (IntKind.wrap IntKind.i64 (Int.tdiv n by_) = r) ∧
   True)))))) = _) ?_
  refine ob_s h fun h => ?_
  refine ob_s h fun h => ?_
  refine br_d h (fun h => ?_) (fun h => ?_)
  · refine ob_t ?_
    exact ret_s h (fun e => by subst e; exact (by repeat' (first | exact trivial | exact ⟨rfl⟩ | refine And.intro ?_ ?_)))
  · refine ob_t ?_
    exact ret_s h (fun e => by subst e; exact (by repeat' (first | exact trivial | exact ⟨rfl⟩ | refine And.intro ?_ ?_)))
set_option maxRecDepth 100000 in
theorem B_Floor_ok : SpecOK Try.prog 90 true (pureK k_B_Floor g_B_Floor) := by
  refine pureK_ok (sp := sp0) (fn := Try.f90) (body := bodyOf Try.f90) mixed sp0_ok Try.func90 (by kernel_rfl) (by kernel_rfl) fun as_ ob rs h ho => ?_
  unfold g_B_Floor at h
  split at h
  · rename_i n by_
    cases h
    exact ⟨Nat.le_of_ble_eq_true rfl, _, _, B_Floor_vc n by_ _ (ok_some ho)⟩
  · cases h
theorem sp_90_ok {sp : Specs} (h : SpecsOK Try.prog sp) : SpecsOK Try.prog (sp_90 sp) := addK_ok B_Floor_ok h

def k_R06_isSample : List (Option Cont) := [none]
/-- shoebox/shoeboxref06.isSample -/
def R06_isSample (n : Int) : Option Bool :=
  some (decide ((-32767 : Int) ≤ n) && decide (n ≤ (32767 : Int)))
def g_R06_isSample : List A → Option (Prop × List RV)
  | [.d (.i .i64 n)] => some (ok (R06_isSample n), [.d (.b ((val (R06_isSample n))))])
  | _ => none
abbrev sp_93 : Specs → Specs := addK 93 true (pureK k_R06_isSample g_R06_isSample)
set_option maxRecDepth 100000 in
theorem R06_isSample_vc (n : Int) (r : Bool) (h : Option.bind (R06_isSample n) some = some r) : runF Try.f93 ((sp_50 sp0)) (fun _ _ _ => none) [.d (.i .i64 n)] [.d (.b r)] := by
  refine Eq.mp (by kernel_rfl : (
  (Ob (True) ∧
   (Ob (True) ∧
   (Ob ((decide ((-32767 : Int) ≤ n) && decide (n ≤ (32767 : Int))) = r) ∧
   True)))) = _) ?_
  refine ob_t ?_
  refine ob_t ?_
  exact ret_s h (fun e => by subst e; exact (by repeat' (first | exact trivial | exact ⟨rfl⟩ | refine And.intro ?_ ?_)))
set_option maxRecDepth 100000 in
theorem R06_isSample_ok : SpecOK Try.prog 93 true (pureK k_R06_isSample g_R06_isSample) := by
  refine pureK_ok (sp := (sp_50 sp0)) (fn := Try.f93) (body := bodyOf Try.f93) mixed (sp_50_ok sp0_ok) Try.func93 (by kernel_rfl) (by kernel_rfl) fun as_ ob rs h ho => ?_
  unfold g_R06_isSample at h
  split at h
  · rename_i n
    cases h
    exact ⟨Nat.le_of_ble_eq_true rfl, _, _, R06_isSample_vc n _ (ok_some ho)⟩
  · cases h
theorem sp_93_ok {sp : Specs} (h : SpecsOK Try.prog sp) : SpecsOK Try.prog (sp_93 sp) := addK_ok R06_isSample_ok h

def k_R06_Out : List (Option Cont) := [none, none, none]
/-- shoebox/shoeboxref06.Out -/
def R06_Out (sB0 : Int) (sB1 : Int) (sB2 : Int) (sA0 : Int) (sA1 : Int) (tX0 : Int) (tX1 : Int) (tY0 : Int) (tY1 : Int) (x_ : Int) : Option (Int × Bool × Int × Int × Int × Int) :=
  Option.bind (B_Floor (IntKind.wrap IntKind.i64 (IntKind.wrap IntKind.i64 ((2 : Int) * IntKind.wrap IntKind.i64 (IntKind.wrap IntKind.i64 (IntKind.wrap IntKind.i64 (IntKind.wrap IntKind.i64 (IntKind.wrap IntKind.i64 (sB0 * x_) + IntKind.wrap IntKind.i64 (sB1 * tX0)) + IntKind.wrap IntKind.i64 (sB2 * tX1)) - IntKind.wrap IntKind.i64 (sA0 * tY0)) - IntKind.wrap IntKind.i64 (sA1 * tY1))) + (16384 : Int))) (32768 : Int)) fun r0 =>
  Option.bind (R06_isSample r0) fun r1 =>
  some ((if (if r0 < (32767 : Int) then r0 else (32767 : Int)) > (-32767 : Int) then if r0 < (32767 : Int) then r0 else (32767 : Int) else (-32767 : Int), !r1, x_, tX0, if (if r0 < (32767 : Int) then r0 else (32767 : Int)) > (-32767 : Int) then if r0 < (32767 : Int) then r0 else (32767 : Int) else (-32767 : Int), tY0))
def g_R06_Out : List A → Option (Prop × List RV)
  | [.s [.i .i64 sB0, .i .i64 sB1, .i .i64 sB2, .i .i64 sA0, .i .i64 sA1], .s [.i .i64 tX0, .i .i64 tX1, .i .i64 tY0, .i .i64 tY1], .d (.i .i64 x_)] => some (ok (R06_Out sB0 sB1 sB2 sA0 sA1 tX0 tX1 tY0 tY1 x_), [.d (.i .i64 ((val (R06_Out sB0 sB1 sB2 sA0 sA1 tX0 tX1 tY0 tY1 x_)).1)), .d (.b ((val (R06_Out sB0 sB1 sB2 sA0 sA1 tX0 tX1 tY0 tY1 x_)).2.1)), .s [.i .i64 ((val (R06_Out sB0 sB1 sB2 sA0 sA1 tX0 tX1 tY0 tY1 x_)).2.2.1), .i .i64 ((val (R06_Out sB0 sB1 sB2 sA0 sA1 tX0 tX1 tY0 tY1 x_)).2.2.2.1), .i .i64 ((val (R06_Out sB0 sB1 sB2 sA0 sA1 tX0 tX1 tY0 tY1 x_)).2.2.2.2.1), .i .i64 ((val (R06_Out sB0 sB1 sB2 sA0 sA1 tX0 tX1 tY0 tY1 x_)).2.2.2.2.2)]])
  | _ => none
abbrev sp_38 : Specs → Specs := addK 38 true (pureK k_R06_Out g_R06_Out)
set_option maxRecDepth 100000 in
theorem R06_Out_vc (sB0 : Int) (sB1 : Int) (sB2 : Int) (sA0 : Int) (sA1 : Int) (tX0 : Int) (tX1 : Int) (tY0 : Int) (tY1 : Int) (x_ : Int) (r : Int × Bool × Int × Int × Int × Int) (h : Option.bind (R06_Out sB0 sB1 sB2 sA0 sA1 tX0 tX1 tY0 tY1 x_) some = some r) : runF Try.f38 ((sp_90 (sp_93 sp0))) (fun _ _ _ => none) [.s [.i .i64 sB0, .i .i64 sB1, .i .i64 sB2, .i .i64 sA0, .i .i64 sA1], .s [.i .i64 tX0, .i .i64 tX1, .i .i64 tY0, .i .i64 tY1], .d (.i .i64 x_)] [.d (.i .i64 r.1), .d (.b r.2.1), .s [.i .i64 r.2.2.1, .i .i64 r.2.2.2.1, .i .i64 r.2.2.2.2.1, .i .i64 r.2.2.2.2.2]] := by
  refine Eq.mp (by kernel_rfl : (
  (Ob ((0 : Int) ≤ (0 : Int) ∧ (0 : Int) < (↑(3 : Nat) : Int)) ∧
   (Ob ((0 : Int) ≤ (1 : Int) ∧ (1 : Int) < (↑(3 : Nat) : Int)) ∧
   (Ob ((0 : Int) ≤ (0 : Int) ∧ (0 : Int) < (↑(2 : Nat) : Int)) ∧
   (Ob ((0 : Int) ≤ (2 : Int) ∧ (2 : Int) < (↑(3 : Nat) : Int)) ∧
   (Ob ((0 : Int) ≤ (1 : Int) ∧ (1 : Int) < (↑(2 : Nat) : Int)) ∧
   (Ob ((0 : Int) ≤ (0 : Int) ∧ (0 : Int) < (↑(2 : Nat) : Int)) ∧
   (Ob ((0 : Int) ≤ (0 : Int) ∧ (0 : Int) < (↑(2 : Nat) : Int)) ∧
   (Ob ((0 : Int) ≤ (1 : Int) ∧ (1 : Int) < (↑(2 : Nat) : Int)) ∧
   (Ob ((0 : Int) ≤ (1 : Int) ∧ (1 : Int) < (↑(2 : Nat) : Int)) ∧
   (Ob (ok (B_Floor (IntKind.wrap IntKind.i64 (IntKind.wrap IntKind.i64 ((2 : Int) * IntKind.wrap IntKind.i64 (IntKind.wrap IntKind.i64 (IntKind.wrap IntKind.i64 (IntKind.wrap IntKind.i64 (IntKind.wrap IntKind.i64 (sB0 * x_) + IntKind.wrap IntKind.i64 (sB1 * tX0)) + IntKind.wrap IntKind.i64 (sB2 * tX1)) - IntKind.wrap IntKind.i64 (sA0 * tY0)) - IntKind.wrap IntKind.i64 (sA1 * tY1))) + (16384 : Int))) (32768 : Int))) ∧
   (Ob (ok (R06_isSample (val (B_Floor (IntKind.wrap IntKind.i64 (IntKind.wrap IntKind.i64 ((2 : Int) * IntKind.wrap IntKind.i64 (IntKind.wrap IntKind.i64 (IntKind.wrap IntKind.i64 (IntKind.wrap IntKind.i64 (IntKind.wrap IntKind.i64 (sB0 * x_) + IntKind.wrap IntKind.i64 (sB1 * tX0)) + IntKind.wrap IntKind.i64 (sB2 * tX1)) - IntKind.wrap IntKind.i64 (sA0 * tY0)) - IntKind.wrap IntKind.i64 (sA1 * tY1))) + (16384 : Int))) (32768 : Int))))) ∧
   (Ob ((0 : Int) ≤ (0 : Int) ∧ (0 : Int) < (↑(2 : Nat) : Int)) ∧
   (Ob ((0 : Int) ≤ (0 : Int) ∧ (0 : Int) < (↑(2 : Nat) : Int)) ∧
   (Ob (True) ∧
   (Ob (True) ∧
   (Ob (True) ∧
   (Ob ((if (if val (B_Floor (IntKind.wrap IntKind.i64 (IntKind.wrap IntKind.i64 ((2 : Int) * IntKind.wrap IntKind.i64 (IntKind.wrap IntKind.i64 (IntKind.wrap IntKind.i64 (IntKind.wrap IntKind.i64 (IntKind.wrap IntKind.i64 (sB0 * x_) + IntKind.wrap IntKind.i64 (sB1 * tX0)) + IntKind.wrap IntKind.i64 (sB2 * tX1)) - IntKind.wrap IntKind.i64 (sA0 * tY0)) - IntKind.wrap IntKind.i64 (sA1 * tY1))) + (16384 : Int))) (32768 : Int)) < (32767 : Int) then val (B_Floor (IntKind.wrap IntKind.i64 (IntKind.wrap IntKind.i64 ((2 : Int) * IntKind.wrap IntKind.i64 (IntKind.wrap IntKind.i64 (IntKind.wrap IntKind.i64 (IntKind.wrap IntKind.i64 (IntKind.wrap IntKind.i64 (sB0 * x_) + IntKind.wrap IntKind.i64 (sB1 * tX0)) + IntKind.wrap IntKind.i64 (sB2 * tX1)) - IntKind.wrap IntKind.i64 (sA0 * tY0)) - IntKind.wrap IntKind.i64 (sA1 * tY1))) + (16384 : Int))) (32768 : Int)) else (32767 : Int)) > (-32767 : Int) then if val (B_Floor (IntKind.wrap IntKind.i64 (IntKind.wrap IntKind.i64 ((2 : Int) * IntKind.wrap IntKind.i64 (IntKind.wrap IntKind.i64 (IntKind.wrap IntKind.i64 (IntKind.wrap IntKind.i64 (IntKind.wrap IntKind.i64 (sB0 * x_) + IntKind.wrap IntKind.i64 (sB1 * tX0)) + IntKind.wrap IntKind.i64 (sB2 * tX1)) - IntKind.wrap IntKind.i64 (sA0 * tY0)) - IntKind.wrap IntKind.i64 (sA1 * tY1))) + (16384 : Int))) (32768 : Int)) < (32767 : Int) then val (B_Floor (IntKind.wrap IntKind.i64 (IntKind.wrap IntKind.i64 ((2 : Int) * IntKind.wrap IntKind.i64 (IntKind.wrap IntKind.i64 (IntKind.wrap IntKind.i64 (IntKind.wrap IntKind.i64 (IntKind.wrap IntKind.i64 (sB0 * x_) + IntKind.wrap IntKind.i64 (sB1 * tX0)) + IntKind.wrap IntKind.i64 (sB2 * tX1)) - IntKind.wrap IntKind.i64 (sA0 * tY0)) - IntKind.wrap IntKind.i64 (sA1 * tY1))) + (16384 : Int))) (32768 : Int)) else (32767 : Int) else (-32767 : Int)) = r.1) ∧
   (Ob ((!val (R06_isSample (val (B_Floor (IntKind.wrap IntKind.i64 (IntKind.wrap IntKind.i64 ((2 : Int) * IntKind.wrap IntKind.i64 (IntKind.wrap IntKind.i64 (IntKind.wrap IntKind.i64 (IntKind.wrap IntKind.i64 (IntKind.wrap IntKind.i64 (sB0 * x_) + IntKind.wrap IntKind.i64 (sB1 * tX0)) + IntKind.wrap IntKind.i64 (sB2 * tX1)) - IntKind.wrap IntKind.i64 (sA0 * tY0)) - IntKind.wrap IntKind.i64 (sA1 * tY1))) + (16384 : Int))) (32768 : Int))))) = r.2.1) ∧
   (Ob (x_ = r.2.2.1) ∧
   (Ob (tX0 = r.2.2.2.1) ∧
   (Ob ((if (if val (B_Floor (IntKind.wrap IntKind.i64 (IntKind.wrap IntKind.i64 ((2 : Int) * IntKind.wrap IntKind.i64 (IntKind.wrap IntKind.i64 (IntKind.wrap IntKind.i64 (IntKind.wrap IntKind.i64 (IntKind.wrap IntKind.i64 (sB0 * x_) + IntKind.wrap IntKind.i64 (sB1 * tX0)) + IntKind.wrap IntKind.i64 (sB2 * tX1)) - IntKind.wrap IntKind.i64 (sA0 * tY0)) - IntKind.wrap IntKind.i64 (sA1 * tY1))) + (16384 : Int))) (32768 : Int)) < (32767 : Int) then val (B_Floor (IntKind.wrap IntKind.i64 (IntKind.wrap IntKind.i64 ((2 : Int) * IntKind.wrap IntKind.i64 (IntKind.wrap IntKind.i64 (IntKind.wrap IntKind.i64 (IntKind.wrap IntKind.i64 (IntKind.wrap IntKind.i64 (sB0 * x_) + IntKind.wrap IntKind.i64 (sB1 * tX0)) + IntKind.wrap IntKind.i64 (sB2 * tX1)) - IntKind.wrap IntKind.i64 (sA0 * tY0)) - IntKind.wrap IntKind.i64 (sA1 * tY1))) + (16384 : Int))) (32768 : Int)) else (32767 : Int)) > (-32767 : Int) then if val (B_Floor (IntKind.wrap IntKind.i64 (IntKind.wrap IntKind.i64 ((2 : Int) * IntKind.wrap IntKind.i64 (IntKind.wrap IntKind.i64 (IntKind.wrap IntKind.i64 (IntKind.wrap IntKind.i64 (IntKind.wrap IntKind.i64 (sB0 * x_) + IntKind.wrap IntKind.i64 (sB1 * tX0)) + IntKind.wrap IntKind.i64 (sB2 * tX1)) - IntKind.wrap IntKind.i64 (sA0 * tY0)) - IntKind.wrap IntKind.i64 (sA1 * tY1))) + (16384 : Int))) (32768 : Int)) < (32767 : Int) then val (B_Floor (IntKind.wrap IntKind.i64 (IntKind.wrap IntKind.i64 ((2 : Int) * IntKind.wrap IntKind.i64 (IntKind.wrap IntKind.i64 (IntKind.wrap IntKind.i64 (IntKind.wrap IntKind.i64 (IntKind.wrap IntKind.i64 (sB0 * x_) + IntKind.wrap IntKind.i64 (sB1 * tX0)) + IntKind.wrap IntKind.i64 (sB2 * tX1)) - IntKind.wrap IntKind.i64 (sA0 * tY0)) - IntKind.wrap IntKind.i64 (sA1 * tY1))) + (16384 : Int))) (32768 : Int)) else (32767 : Int) else (-32767 : Int)) = r.2.2.2.2.1) ∧
   (Ob (tY0 = r.2.2.2.2.2) ∧
   True))))))))))))))))))))))) = _) ?_
  refine ob_c (p := (0 : Int) ≤ (0 : Int) ∧ (0 : Int) < (↑(3 : Nat) : Int)) (by decide) ?_
  refine ob_c (p := (0 : Int) ≤ (1 : Int) ∧ (1 : Int) < (↑(3 : Nat) : Int)) (by decide) ?_
  refine ob_c (p := (0 : Int) ≤ (0 : Int) ∧ (0 : Int) < (↑(2 : Nat) : Int)) (by decide) ?_
  refine ob_c (p := (0 : Int) ≤ (2 : Int) ∧ (2 : Int) < (↑(3 : Nat) : Int)) (by decide) ?_
  refine ob_c (p := (0 : Int) ≤ (1 : Int) ∧ (1 : Int) < (↑(2 : Nat) : Int)) (by decide) ?_
  refine ob_c (p := (0 : Int) ≤ (0 : Int) ∧ (0 : Int) < (↑(2 : Nat) : Int)) (by decide) ?_
  refine ob_c (p := (0 : Int) ≤ (0 : Int) ∧ (0 : Int) < (↑(2 : Nat) : Int)) (by decide) ?_
  refine ob_c (p := (0 : Int) ≤ (1 : Int) ∧ (1 : Int) < (↑(2 : Nat) : Int)) (by decide) ?_
  refine ob_c (p := (0 : Int) ≤ (1 : Int) ∧ (1 : Int) < (↑(2 : Nat) : Int)) (by decide) ?_
  refine call_s h fun h => ?_
  refine call_s h fun h => ?_
  refine ob_c (p := (0 : Int) ≤ (0 : Int) ∧ (0 : Int) < (↑(2 : Nat) : Int)) (by decide) ?_
  refine ob_c (p := (0 : Int) ≤ (0 : Int) ∧ (0 : Int) < (↑(2 : Nat) : Int)) (by decide) ?_
  refine ob_t ?_
  refine ob_t ?_
  refine ob_t ?_
  exact ret_s h (fun e => by subst e; exact (by repeat' (first | exact trivial | exact ⟨rfl⟩ | refine And.intro ?_ ?_)))
set_option maxRecDepth 100000 in
theorem R06_Out_ok : SpecOK Try.prog 38 true (pureK k_R06_Out g_R06_Out) := by
  refine pureK_ok (sp := (sp_90 (sp_93 sp0))) (fn := Try.f38) (body := bodyOf Try.f38) mixed (sp_90_ok (sp_93_ok sp0_ok)) Try.func38 (by kernel_rfl) (by kernel_rfl) fun as_ ob rs h ho => ?_
  unfold g_R06_Out at h
  split at h
  · rename_i sB0 sB1 sB2 sA0 sA1 tX0 tX1 tY0 tY1 x_
    cases h
    exact ⟨Nat.le_of_ble_eq_true rfl, _, _, R06_Out_vc sB0 sB1 sB2 sA0 sA1 tX0 tX1 tY0 tY1 x_ _ (ok_some ho)⟩
  · cases h
theorem sp_38_ok {sp : Specs} (h : SpecsOK Try.prog sp) : SpecsOK Try.prog (sp_38 sp) := addK_ok R06_Out_ok h
end Go.Sh
